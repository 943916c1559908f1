/- Contracts of functions by an evaluator of the model: its part T8. -/
import Derived.Test.YtngagepodbcohaaT7
import Derived.Test.YtngagepodbcohaaV3
set_option linter.all false
/- The items of a paragraph: the walk. -/
namespace Go.Proofs.Ytngagepodbcohaa
open Go Vx
set_option maxRecDepth 100000
theorem f16_ok (n : Nat) (p : Nat → Pr) (ns : Nat) (l : Nat → Sp) (m : Int) (K : Nat) (s : Nat → Int) : FSpec Try.prog 16 [.agg [.rows 9 n (prc p), .rows 6 ns (spc l), .int .i64 m, .rows 1 K (icol .i64 s)]] [] (fun r H' => r = .fn (.func 29) [] [.ref [.rows 9 n (prc p), .rows 6 ns (spc l), .int .i64 m, .rows 1 K (icol .i64 s)]] ∧ H' = []) := by
  refine pure_of rfl ?_
  refine FSpec.of (fn := Try.f16) Try.func16 rfl rfl (by simp) fun C hC => ?_
  obtain ⟨iadd, isub, imul, iquo, irem, iband, ibor, ibxor, ibandn, ishl, ishr, iconv, ieq, ine, ilt, ile, igt, ige, bbeq, bbne, bnot, bband, sseq, ssne, sscat, sssub, sslen, sssz, ssbyte, toN, ofN, addN, subN, eqN, ltB, leN, imx, imn, inb, leb, sslt, ltN, fit, ne0, ge0, ssfit, minN, inR, bcol, bstr, isBy, hS⟩ := names
  refine V.goF (by first | exact trivial | assumption) Try.func16 tl_ok mixed hS.ops [] 4 ?_
  intro VV VA W hVV hVA hW
  conv => cbv
  rw [hVV]
  clear hVV hVA VV VA hW W
  refine V.freezePtr 1 rfl rfl rfl ?_
  refine V.goF (by first | exact trivial | assumption) Try.func16 tl_ok mixed hS.ops [] 400 ?_
  intro VV VA W hVV hVA hW
  conv => cbv
  trivial
def hM (cnt : Nat) (g : Nat → It) (la sp : Int) : Hp := [some ⟨28, 1, .lit [[.sl 3 0 cnt]]⟩, some ⟨3, 1, .lit [[.int .i64 la]]⟩, some ⟨3, 1, .lit [[.int .i64 sp]]⟩, some ⟨34, 7, .arr cnt (itc g)⟩]
def itemsF (n : Nat) (p : Nat → Pr) (ns : Nat) (l : Nat → Sp) (m : Int) (cnt : Nat) (g : Nat → It) : Prop := ∃ t : Tx, t.Of n p ns l m ∧ cnt = (mrun t t.K).m ∧ g = mfin (mrun t t.K)
set_option maxHeartbeats 4000000 in
theorem f7_ok1 (n : Nat) (hn : n ≤ 10000000000000) (p : Nat → Pr) (ns : Nat) (hns : ns ≤ 2000000) (l : Nat → Sp) (hs : ∀ j, j < ns → inSz (l j)) (m : Int) : FSpec Try.prog 7 [.rows 9 n (prc p), .rows 6 ns (spc l), .int .i64 m] []
    (fun r H' => (¬ (n ≤ 2000 ∧ RightL l ns n ∧ 0 ≤ m ∧ m ≤ 3) ∧ r = .tup [.nil .slice, .int .i64 161]) ∨
      ((n ≤ 2000 ∧ RightL l ns n ∧ 0 ≤ m ∧ m ≤ 3) ∧ ∃ x cnt g, r = .tup [x, .int .i64 0] ∧ Fresh H' 7 cnt (itc g) x ∧ itemsF n p ns l m cnt g)) := by
  obtain ⟨Q, hQ⟩ : ∃ Q : AV → Hp → Prop, Q = (fun r H' => (¬ (n ≤ 2000 ∧ RightL l ns n ∧ 0 ≤ m ∧ m ≤ 3) ∧ r = .tup [.nil .slice, .int .i64 161]) ∨
      ((n ≤ 2000 ∧ RightL l ns n ∧ 0 ≤ m ∧ m ≤ 3) ∧ ∃ x cnt g, r = .tup [x, .int .i64 0] ∧ Fresh H' 7 cnt (itc g) x ∧ itemsF n p ns l m cnt g)) := ⟨_, rfl⟩
  rw [← hQ]
  have no : ¬ (n ≤ 2000 ∧ RightL l ns n ∧ 0 ≤ m ∧ m ≤ 3) → ∀ H', Q (.tup [.nil .slice, .int .i64 161]) H' := fun h H' => by rw [hQ]; exact .inl ⟨h, rfl⟩
  obtain ⟨RL, hRL⟩ := bool_of (RightL l ns n)
  refine FSpec.of (fn := Try.f7) Try.func7 rfl rfl (by simp) fun C hC => ?_
  obtain ⟨iadd, isub, imul, iquo, irem, iband, ibor, ibxor, ibandn, ishl, ishr, iconv, ieq, ine, ilt, ile, igt, ige, bbeq, bbne, bnot, bband, sseq, ssne, sscat, sssub, sslen, sssz, ssbyte, toN, ofN, addN, subN, eqN, ltB, leN, imx, imn, inb, leb, sslt, ltN, fit, ne0, ge0, ssfit, minN, inR, bcol, bstr, isBy, hS⟩ := names
  refine V.goF (by first | exact trivial | assumption) Try.func7 tl_ok mixed hS.ops [] 400 ?_
  intro VV VA W hVV hVA hW
  conv => cbv
  cases h1 : igt (ofN n) 2000
  case true =>
    conv => cbv
    simp (disch := first | omega | (simp only [hS.glob, wraps, plain, Int.ofNat_eq_natCast]; omega)) only [hS.glob, wraps, plain, Int.ofNat_eq_natCast] at h1
    exact no (fun h => by omega) _
  conv => cbv
  simp (disch := first | omega | (simp only [hS.glob, wraps, plain, Int.ofNat_eq_natCast]; omega)) only [hS.glob, wraps, plain, Int.ofNat_eq_natCast] at h1
  rw [hVV]
  clear hVV hVA VV VA hW W
  refine V.call rfl rfl rfl rfl rfl Try.func12 rfl (by decide) [] (by simp) (by simp) (by (first | rfl | ((conv => cbv); (repeat' apply And.intro) <;> first | rfl | trivial | (first | rfl | omega | (simp (disch := omega) only [hS.glob, wraps, plain, Int.ofNat_eq_natCast]; first | done | rfl | omega | (simp; done) | (simp; omega)) | (simp (disch := omega) only [hS.glob, wraps, plain, Int.ofNat_eq_natCast, Vx.toN]; omega))))) rfl (f12_ok ns hns l hs (ofN n) RL (by simp only [hS.glob]; exact hRL)) ?_
  rintro r Hc ⟨rfl, rfl⟩
  refine V.goF (by first | exact trivial | assumption) Try.func7 tl_ok mixed hS.ops [] 400 ?_
  intro VV VA W hVV hVA hW
  conv => cbv
  cases RL
  case false =>
    conv => cbv
    exact no (fun h => by have := hRL.2 h.2.1; cases this) _
  conv => cbv
  cases h2 : ilt m 0
  case true =>
    conv => cbv
    simp (disch := first | omega | (simp only [hS.glob, wraps, plain, Int.ofNat_eq_natCast]; omega)) only [hS.glob, wraps, plain, Int.ofNat_eq_natCast] at h2
    exact no (fun h => by omega) _
  conv => cbv
  cases h3 : igt m 3
  case true =>
    conv => cbv
    simp (disch := first | omega | (simp only [hS.glob, wraps, plain, Int.ofNat_eq_natCast]; omega)) only [hS.glob, wraps, plain, Int.ofNat_eq_natCast] at h3
    exact no (fun h => by omega) _
  conv => cbv
  simp (disch := first | omega | (simp only [hS.glob, wraps, plain, Int.ofNat_eq_natCast]; omega)) only [hS.glob, wraps, plain, Int.ofNat_eq_natCast] at h2 h3
  have hok : n ≤ 2000 ∧ RightL l ns n ∧ 0 ≤ m ∧ m ≤ 3 := ⟨by omega, hRL.1 rfl, by omega, by omega⟩
  clear no
  have hord : Ord l ns := hok.2.1.ord hs
  have hsc : ∀ i, i < ns → 0 ≤ (l i).sc ∧ (l i).sc ≤ 18446744073709551615 := fun i hi => (hs i hi).2.2.1
  obtain ⟨JO, hJO⟩ : ∃ JO : Nat → Int, JO = fun i => (p i).jo := ⟨_, rfl⟩
  have hjo : ∀ i, JO i = (p i).jo := fun i => by rw [hJO]
  rw [hVV]
  clear hVV hVA VV VA hW W
  refine V.phantom 8 44 1 (icol .i64 JO) rfl ?_
  refine V.to (s' := [(42, .int .i64 (ofN 0)), (8, .sl 0 0 0), (41, .int .i64 (ofN n)), (40, .rows 9 n (prc p)), (0, .rows 9 n (prc p)), (1, .rows 6 ns (spc l)), (2, .int .i64 m)]) (H' := [some ⟨44, 1, .arr 0 (icol .i64 JO)⟩]) ?_ (by (repeat' first | exact trivial | rfl | (refine And.intro ?_ ?_) | (refine sti ?_; (first | rfl | omega | (simp (disch := omega) only [hS.glob, wraps, plain, Int.ofNat_eq_natCast]; first | done | rfl | omega | (simp; done) | (simp; omega)) | (simp (disch := omega) only [hS.glob, wraps, plain, Int.ofNat_eq_natCast, Vx.toN]; omega))) | (refine slq ?_ ?_ ?_ <;> (first | rfl | omega | (simp (disch := omega) only [hS.glob, wraps, plain, Int.ofNat_eq_natCast]; first | done | rfl | omega | (simp; done) | (simp; omega)) | (simp (disch := omega) only [hS.glob, wraps, plain, Int.ofNat_eq_natCast, Vx.toN]; omega))) | (refine ptq ?_ ?_ ?_ <;> (first | rfl | omega | (simp (disch := omega) only [hS.glob, wraps, plain, Int.ofNat_eq_natCast]; first | done | rfl | omega | (simp; done) | (simp; omega)) | (simp (disch := omega) only [hS.glob, wraps, plain, Int.ofNat_eq_natCast, Vx.toN]; omega))) | (refine blq ?_; (first | rfl | omega | (simp (disch := omega) only [hS.glob, wraps, plain, Int.ofNat_eq_natCast]; first | done | rfl | omega | (simp; done) | (simp; omega)) | (simp (disch := omega) only [hS.glob, wraps, plain, Int.ofNat_eq_natCast, Vx.toN]; omega))))) rfl (by (repeat' first | exact trivial | rfl | exact Nat.le_refl _ | exact (fun _ _ => rfl) | (refine And.intro ?_ ?_) | (simp only [hS.glob, plain]; first | done | omega))) (by rw [hC]; simp)
  apply cut
  · intro next
    refine V.loop (γ := Nat) (fun i => i ≤ n) (fun i => [(42, .int .i64 (ofN i)), (8, .sl 0 0 i), (41, .int .i64 (ofN n)), (40, .rows 9 n (prc p)), (0, .rows 9 n (prc p)), (1, .rows 6 ns (spc l)), (2, .int .i64 m)]) (fun i => [some ⟨44, 1, .arr i (icol .i64 JO)⟩]) (fun i => n - i) ?_ 0 (Nat.zero_le _)
    intro i hi hback
    refine V.goF (by first | exact trivial | assumption) Try.func7 tl_ok mixed hS.ops [] 5 ?_
    intro VV VA W hVV hVA hW
    conv => cbv
    cases h4 : ilt (ofN i) (ofN n)
    · rw [hVV]
      clear hVV hVA VV VA hW W
      simp (disch := first | omega | (simp only [hS.glob, wraps, plain, Int.ofNat_eq_natCast]; omega)) only [hS.glob, wraps, plain, Int.ofNat_eq_natCast] at h4
      obtain rfl : n = i := by omega
      refine V.goF (by first | exact trivial | assumption) Try.func7 tl_ok mixed hS.ops [] 2 ?_
      intro VV VA W hVV hVA hW
      conv => cbv
      rw [hVV]
      clear hVV hVA VV VA hW W
      exact V.to (s' := [(8, .sl 0 0 n), (0, .rows 9 n (prc p)), (1, .rows 6 ns (spc l)), (2, .int .i64 m)]) (H' := [some ⟨44, 1, .arr n (icol .i64 JO)⟩]) next.get (by (repeat' first | exact trivial | rfl | (refine And.intro ?_ ?_) | (refine sti ?_; (first | rfl | omega | (simp (disch := omega) only [hS.glob, wraps, plain, Int.ofNat_eq_natCast]; first | done | rfl | omega | (simp; done) | (simp; omega)) | (simp (disch := omega) only [hS.glob, wraps, plain, Int.ofNat_eq_natCast, Vx.toN]; omega))) | (refine slq ?_ ?_ ?_ <;> (first | rfl | omega | (simp (disch := omega) only [hS.glob, wraps, plain, Int.ofNat_eq_natCast]; first | done | rfl | omega | (simp; done) | (simp; omega)) | (simp (disch := omega) only [hS.glob, wraps, plain, Int.ofNat_eq_natCast, Vx.toN]; omega))) | (refine ptq ?_ ?_ ?_ <;> (first | rfl | omega | (simp (disch := omega) only [hS.glob, wraps, plain, Int.ofNat_eq_natCast]; first | done | rfl | omega | (simp; done) | (simp; omega)) | (simp (disch := omega) only [hS.glob, wraps, plain, Int.ofNat_eq_natCast, Vx.toN]; omega))) | (refine blq ?_; (first | rfl | omega | (simp (disch := omega) only [hS.glob, wraps, plain, Int.ofNat_eq_natCast]; first | done | rfl | omega | (simp; done) | (simp; omega)) | (simp (disch := omega) only [hS.glob, wraps, plain, Int.ofNat_eq_natCast, Vx.toN]; omega))))) rfl (by (repeat' first | exact trivial | rfl | exact Nat.le_refl _ | exact (fun _ _ => rfl) | (refine And.intro ?_ ?_) | (simp only [hS.glob, plain]; first | done | omega))) (by rw [hC]; simp)
    · rw [hVV]
      clear hVV hVA VV VA hW W
      simp (disch := first | omega | (simp only [hS.glob, wraps, plain, Int.ofNat_eq_natCast]; omega)) only [hS.glob, wraps, plain, Int.ofNat_eq_natCast] at h4
      refine V.goF (by first | exact trivial | assumption) Try.func7 tl_ok mixed hS.ops [] 400 ?_
      intro VV VA W hVV hVA hW
      conv => cbv
      repeat (refine ⟨by first | (rw [hW]; show ordOk _ _ _ = true; kernel_rfl) | (first | trivial | omega | (simp (disch := omega) only [hS.glob, wraps, plain, Int.ofNat_eq_natCast]; first | done | omega | trivial | (simp; done) | (simp; omega) | (constructor <;> omega)) | (simp (disch := omega) only [hS.glob, wraps, plain, Int.ofNat_eq_natCast, Vx.toN]; omega)), ?_⟩)
      simp only [hS.tidy]
      repeat (refine ⟨by first | (rw [hW]; show ordOk _ _ _ = true; kernel_rfl) | (first | trivial | omega | (simp (disch := omega) only [hS.glob, wraps, plain, Int.ofNat_eq_natCast]; first | done | omega | trivial | (simp; done) | (simp; omega) | (constructor <;> omega)) | (simp (disch := omega) only [hS.glob, wraps, plain, Int.ofNat_eq_natCast, Vx.toN]; omega)), ?_⟩)
      rw [hVV]
      clear hVV hVA VV VA hW W
      refine V.pick [3] (by decide) (by rw [hC]; exact begins_of rfl) (by rfl) (by rfl) ?_
      exact V.to (hback (i + 1) (by omega) (by omega)) (by (repeat' first | exact trivial | rfl | (refine And.intro ?_ ?_) | (refine sti ?_; (first | rfl | omega | (simp (disch := omega) only [hS.glob, wraps, plain, Int.ofNat_eq_natCast]; first | done | rfl | omega | (simp; done) | (simp; omega)) | (simp (disch := omega) only [hS.glob, wraps, plain, Int.ofNat_eq_natCast, Vx.toN]; omega))) | (refine slq ?_ ?_ ?_ <;> (first | rfl | omega | (simp (disch := omega) only [hS.glob, wraps, plain, Int.ofNat_eq_natCast]; first | done | rfl | omega | (simp; done) | (simp; omega)) | (simp (disch := omega) only [hS.glob, wraps, plain, Int.ofNat_eq_natCast, Vx.toN]; omega))) | (refine ptq ?_ ?_ ?_ <;> (first | rfl | omega | (simp (disch := omega) only [hS.glob, wraps, plain, Int.ofNat_eq_natCast]; first | done | rfl | omega | (simp; done) | (simp; omega)) | (simp (disch := omega) only [hS.glob, wraps, plain, Int.ofNat_eq_natCast, Vx.toN]; omega))) | (refine blq ?_; (first | rfl | omega | (simp (disch := omega) only [hS.glob, wraps, plain, Int.ofNat_eq_natCast]; first | done | rfl | omega | (simp; done) | (simp; omega)) | (simp (disch := omega) only [hS.glob, wraps, plain, Int.ofNat_eq_natCast, Vx.toN]; omega))))) rfl ⟨⟨rfl, rfl, ⟨by show i + 1 ≤ addN i 1; (first | trivial | omega | (simp (disch := omega) only [hS.glob, wraps, plain, Int.ofNat_eq_natCast]; first | done | omega | trivial | (simp; done) | (simp; omega) | (constructor <;> omega)) | (simp (disch := omega) only [hS.glob, wraps, plain, Int.ofNat_eq_natCast, Vx.toN]; omega)), fun j hj => leaf (by simp [hS.glob]) (by simp [hS.glob]) _ JO JO i (fun _ _ => rfl) (hjo i) j hj⟩, rfl⟩, trivial⟩ (by rw [hC]; simp)
  refine V.freeze0 8 0 n (by rfl) (by rfl) (by rfl) (by first | decide | omega | exact (Nat.succ_pos _)) (by rfl) (by rfl) (by first | exact Nat.le_refl _ | decide | omega | (simp only [Cont.n]; omega)) ?_
  refine V.goF (by first | exact trivial | assumption) Try.func7 tl_ok mixed hS.ops [] 400 ?_
  intro VV VA W hVV hVA hW
  conv => cbv
  rw [hVV]
  clear hVV hVA VV VA hW W
  refine V.call rfl rfl rfl rfl rfl Try.func13 rfl (by decide) [] (by simp) (by simp) (by (first | rfl | ((conv => cbv); (repeat' apply And.intro) <;> first | rfl | trivial | (first | rfl | omega | (simp (disch := omega) only [hS.glob, wraps, plain, Int.ofNat_eq_natCast]; first | done | rfl | omega | (simp; done) | (simp; omega)) | (simp (disch := omega) only [hS.glob, wraps, plain, Int.ofNat_eq_natCast, Vx.toN]; omega))))) rfl (f13_ok n (by omega) JO) ?_
  rintro r Hc ⟨rfl, K, f0, ⟨s, rfl, hS0⟩, rfl⟩
  rw [hJO] at hS0
  obtain ⟨t0, ht0⟩ : ∃ t0 : Tx, t0 = ⟨n, p, ns, l, m, K, s, allI K (fun j => (p (s j).toNat).ki)⟩ := ⟨_, rfl⟩
  have hOf : t0.Of n p ns l m := by
    subst ht0
    exact ⟨rfl, rfl, rfl, rfl, rfl, hS0, fun _ _ => rfl⟩
  have hat := hOf.at_
  have hKs : t0.K = K ∧ t0.s = s := by rw [ht0]; exact ⟨rfl, rfl⟩
  rw [hKs.1] at hat
  obtain ⟨hat1, hat2, hKn⟩ := hat
  have hq : ∀ k, k < K → ∃ q : Nat, s k = q ∧ q < n := fun k hk => by
    have := hat1 k hk
    rw [hKs.2] at this
    exact ⟨_, this⟩
  have hqm : ∀ j k, j < k → k < K → s j < s k := fun j k h1 h2 => by
    have h3 := hat2 j k h1 h2
    have h4 := (hat1 j (by omega)).1
    have h5 := (hat1 k h2).1
    rw [hKs.2] at h4 h5
    omega
  refine V.goF (by first | exact trivial | assumption) Try.func7 tl_ok mixed hS.ops [] 400 ?_
  intro VV VA W hVV hVA hW
  conv => cbv
  rw [hVV]
  clear hVV hVA VV VA hW W
  refine V.freezePtr 11 rfl rfl rfl ?_
  obtain ⟨KI, hKI⟩ : ∃ KI : Nat → Int, KI = fun j => (p (s j).toNat).ki := ⟨_, rfl⟩
  have hki : ∀ j, KI j = (p (s j).toNat).ki := fun j => by rw [hKI]
  refine V.phantom 12 45 1 (icol .i64 KI) rfl ?_
  refine V.pick [2] (by decide) (by rw [hC]; exact begins_of rfl) (by rfl) (by rfl) ?_
  refine V.to (s' := [(61, .int .i64 (ofN 0)), (12, .sl 0 0 0), (60, .int .i64 (ofN K)), (59, .rows 1 K (icol .i64 s)), (11, .ref [.rows 9 n (prc p), .rows 6 ns (spc l), .int .i64 m, .rows 1 K (icol .i64 s)])]) (H' := [some ⟨45, 1, .arr 0 (icol .i64 KI)⟩]) ?_ (by (repeat' first | exact trivial | rfl | (refine And.intro ?_ ?_) | (refine sti ?_; (first | rfl | omega | (simp (disch := omega) only [hS.glob, wraps, plain, Int.ofNat_eq_natCast]; first | done | rfl | omega | (simp; done) | (simp; omega)) | (simp (disch := omega) only [hS.glob, wraps, plain, Int.ofNat_eq_natCast, Vx.toN]; omega))) | (refine slq ?_ ?_ ?_ <;> (first | rfl | omega | (simp (disch := omega) only [hS.glob, wraps, plain, Int.ofNat_eq_natCast]; first | done | rfl | omega | (simp; done) | (simp; omega)) | (simp (disch := omega) only [hS.glob, wraps, plain, Int.ofNat_eq_natCast, Vx.toN]; omega))) | (refine ptq ?_ ?_ ?_ <;> (first | rfl | omega | (simp (disch := omega) only [hS.glob, wraps, plain, Int.ofNat_eq_natCast]; first | done | rfl | omega | (simp; done) | (simp; omega)) | (simp (disch := omega) only [hS.glob, wraps, plain, Int.ofNat_eq_natCast, Vx.toN]; omega))) | (refine blq ?_; (first | rfl | omega | (simp (disch := omega) only [hS.glob, wraps, plain, Int.ofNat_eq_natCast]; first | done | rfl | omega | (simp; done) | (simp; omega)) | (simp (disch := omega) only [hS.glob, wraps, plain, Int.ofNat_eq_natCast, Vx.toN]; omega))))) rfl (by (repeat' first | exact trivial | rfl | exact Nat.le_refl _ | exact (fun _ _ => rfl) | (refine And.intro ?_ ?_) | (simp only [hS.glob, plain]; first | done | omega))) (by rw [hC]; simp)
  apply cut
  · intro next
    refine V.loop (γ := Nat) (fun i => i ≤ K) (fun i => [(61, .int .i64 (ofN i)), (12, .sl 0 0 i), (60, .int .i64 (ofN K)), (59, .rows 1 K (icol .i64 s)), (11, .ref [.rows 9 n (prc p), .rows 6 ns (spc l), .int .i64 m, .rows 1 K (icol .i64 s)])]) (fun i => [some ⟨45, 1, .arr i (icol .i64 KI)⟩]) (fun i => K - i) ?_ 0 (Nat.zero_le _)
    intro i hi hback
    refine V.goF (by first | exact trivial | assumption) Try.func7 tl_ok mixed hS.ops [] 5 ?_
    intro VV VA W hVV hVA hW
    conv => cbv
    cases h4 : ilt (ofN i) (ofN K)
    · rw [hVV]
      clear hVV hVA VV VA hW W
      simp (disch := first | omega | (simp only [hS.glob, wraps, plain, Int.ofNat_eq_natCast]; omega)) only [hS.glob, wraps, plain, Int.ofNat_eq_natCast] at h4
      obtain rfl : K = i := by omega
      refine V.goF (by first | exact trivial | assumption) Try.func7 tl_ok mixed hS.ops [] 2 ?_
      intro VV VA W hVV hVA hW
      conv => cbv
      rw [hVV]
      clear hVV hVA VV VA hW W
      exact V.to (s' := [(12, .sl 0 0 K), (11, .ref [.rows 9 n (prc p), .rows 6 ns (spc l), .int .i64 m, .rows 1 K (icol .i64 s)])]) (H' := [some ⟨45, 1, .arr K (icol .i64 KI)⟩]) next.get (by (repeat' first | exact trivial | rfl | (refine And.intro ?_ ?_) | (refine sti ?_; (first | rfl | omega | (simp (disch := omega) only [hS.glob, wraps, plain, Int.ofNat_eq_natCast]; first | done | rfl | omega | (simp; done) | (simp; omega)) | (simp (disch := omega) only [hS.glob, wraps, plain, Int.ofNat_eq_natCast, Vx.toN]; omega))) | (refine slq ?_ ?_ ?_ <;> (first | rfl | omega | (simp (disch := omega) only [hS.glob, wraps, plain, Int.ofNat_eq_natCast]; first | done | rfl | omega | (simp; done) | (simp; omega)) | (simp (disch := omega) only [hS.glob, wraps, plain, Int.ofNat_eq_natCast, Vx.toN]; omega))) | (refine ptq ?_ ?_ ?_ <;> (first | rfl | omega | (simp (disch := omega) only [hS.glob, wraps, plain, Int.ofNat_eq_natCast]; first | done | rfl | omega | (simp; done) | (simp; omega)) | (simp (disch := omega) only [hS.glob, wraps, plain, Int.ofNat_eq_natCast, Vx.toN]; omega))) | (refine blq ?_; (first | rfl | omega | (simp (disch := omega) only [hS.glob, wraps, plain, Int.ofNat_eq_natCast]; first | done | rfl | omega | (simp; done) | (simp; omega)) | (simp (disch := omega) only [hS.glob, wraps, plain, Int.ofNat_eq_natCast, Vx.toN]; omega))))) rfl (by (repeat' first | exact trivial | rfl | exact Nat.le_refl _ | exact (fun _ _ => rfl) | (refine And.intro ?_ ?_) | (simp only [hS.glob, plain]; first | done | omega))) (by rw [hC]; simp)
    · rw [hVV]
      clear hVV hVA VV VA hW W
      simp (disch := first | omega | (simp only [hS.glob, wraps, plain, Int.ofNat_eq_natCast]; omega)) only [hS.glob, wraps, plain, Int.ofNat_eq_natCast] at h4
      obtain ⟨q, hq1, hq2⟩ := hq i (by omega)
      have hqi : KI i = (p q).ki := by rw [hki, hq1]; rfl
      refine V.goF (by first | exact trivial | assumption) Try.func7 tl_ok mixed hS.ops [] 400 ?_
      intro VV VA W hVV hVA hW
      conv => cbv
      rw [hVV]
      clear hVV hVA VV VA hW W
      refine V.call rfl rfl rfl rfl rfl Try.func14 rfl (by decide) [] (by simp) (by simp) (by (first | rfl | ((conv => cbv); (repeat' apply And.intro) <;> first | rfl | trivial | (first | rfl | omega | (simp (disch := omega) only [hS.glob, wraps, plain, Int.ofNat_eq_natCast]; first | done | rfl | omega | (simp; done) | (simp; omega)) | (simp (disch := omega) only [hS.glob, wraps, plain, Int.ofNat_eq_natCast, Vx.toN]; omega))))) rfl (f14_ok n p ns l m K s i (by omega) _ (by simp only [hS.glob, plain]) q hq1 hq2) ?_
      rintro r Hc ⟨rfl, rfl⟩
      refine V.goF (by first | exact trivial | assumption) Try.func7 tl_ok mixed hS.ops [] 400 ?_
      intro VV VA W hVV hVA hW
      conv => cbv
      repeat (refine ⟨by first | (rw [hW]; show ordOk _ _ _ = true; kernel_rfl) | (first | trivial | omega | (simp (disch := omega) only [hS.glob, wraps, plain, Int.ofNat_eq_natCast]; first | done | omega | trivial | (simp; done) | (simp; omega) | (constructor <;> omega)) | (simp (disch := omega) only [hS.glob, wraps, plain, Int.ofNat_eq_natCast, Vx.toN]; omega)), ?_⟩)
      rw [hVV]
      clear hVV hVA VV VA hW W
      refine V.pick [2] (by decide) (by rw [hC]; exact begins_of rfl) (by rfl) (by rfl) ?_
      exact V.to (hback (i + 1) (by omega) (by omega)) (by (repeat' first | exact trivial | rfl | (refine And.intro ?_ ?_) | (refine sti ?_; (first | rfl | omega | (simp (disch := omega) only [hS.glob, wraps, plain, Int.ofNat_eq_natCast]; first | done | rfl | omega | (simp; done) | (simp; omega)) | (simp (disch := omega) only [hS.glob, wraps, plain, Int.ofNat_eq_natCast, Vx.toN]; omega))) | (refine slq ?_ ?_ ?_ <;> (first | rfl | omega | (simp (disch := omega) only [hS.glob, wraps, plain, Int.ofNat_eq_natCast]; first | done | rfl | omega | (simp; done) | (simp; omega)) | (simp (disch := omega) only [hS.glob, wraps, plain, Int.ofNat_eq_natCast, Vx.toN]; omega))) | (refine ptq ?_ ?_ ?_ <;> (first | rfl | omega | (simp (disch := omega) only [hS.glob, wraps, plain, Int.ofNat_eq_natCast]; first | done | rfl | omega | (simp; done) | (simp; omega)) | (simp (disch := omega) only [hS.glob, wraps, plain, Int.ofNat_eq_natCast, Vx.toN]; omega))) | (refine blq ?_; (first | rfl | omega | (simp (disch := omega) only [hS.glob, wraps, plain, Int.ofNat_eq_natCast]; first | done | rfl | omega | (simp; done) | (simp; omega)) | (simp (disch := omega) only [hS.glob, wraps, plain, Int.ofNat_eq_natCast, Vx.toN]; omega))))) rfl ⟨⟨rfl, rfl, ⟨by show i + 1 ≤ addN i 1; (first | trivial | omega | (simp (disch := omega) only [hS.glob, wraps, plain, Int.ofNat_eq_natCast]; first | done | omega | trivial | (simp; done) | (simp; omega) | (constructor <;> omega)) | (simp (disch := omega) only [hS.glob, wraps, plain, Int.ofNat_eq_natCast, Vx.toN]; omega)), fun j hj => leaf (by simp [hS.glob]) (by simp [hS.glob]) _ KI KI i (fun _ _ => rfl) hqi j hj⟩, rfl⟩, trivial⟩ (by rw [hC]; simp)
  refine V.freeze0 12 0 K (by rfl) (by rfl) (by rfl) (by first | decide | omega | exact (Nat.succ_pos _)) (by rfl) (by rfl) (by first | exact Nat.le_refl _ | decide | omega | (simp only [Cont.n]; omega)) ?_
  refine V.goF (by first | exact trivial | assumption) Try.func7 tl_ok mixed hS.ops [] 400 ?_
  intro VV VA W hVV hVA hW
  conv => cbv
  rw [hVV]
  clear hVV hVA VV VA hW W
  refine V.call rfl rfl rfl rfl rfl Try.func15 rfl (by decide) [] (by simp) (by simp) (by (first | rfl | ((conv => cbv); (repeat' apply And.intro) <;> first | rfl | trivial | (first | rfl | omega | (simp (disch := omega) only [hS.glob, wraps, plain, Int.ofNat_eq_natCast]; first | done | rfl | omega | (simp; done) | (simp; omega)) | (simp (disch := omega) only [hS.glob, wraps, plain, Int.ofNat_eq_natCast, Vx.toN]; omega))))) rfl (f15_ok K (by omega) KI) ?_
  rintro r Hc ⟨rfl, k1, f1, ⟨rfl, al, rfl, hal⟩, rfl⟩
  refine V.goF (by first | exact trivial | assumption) Try.func7 tl_ok mixed hS.ops [] 400 ?_
  intro VV VA W hVV hVA hW
  conv => cbv
  rw [hVV]
  clear hVV hVA VV VA hW W
  refine V.call rfl rfl rfl rfl rfl Try.func16 rfl (by decide) [] (by simp) (by simp) (by (first | rfl | ((conv => cbv); (repeat' apply And.intro) <;> first | rfl | trivial | (first | rfl | omega | (simp (disch := omega) only [hS.glob, wraps, plain, Int.ofNat_eq_natCast]; first | done | rfl | omega | (simp; done) | (simp; omega)) | (simp (disch := omega) only [hS.glob, wraps, plain, Int.ofNat_eq_natCast, Vx.toN]; omega))))) rfl (f16_ok n p ns l m K s) ?_
  rintro r Hc ⟨rfl, rfl⟩
  refine V.goF (by first | exact trivial | assumption) Try.func7 tl_ok mixed hS.ops [] 400 ?_
  intro VV VA W hVV hVA hW
  conv => cbv
  rw [hVV]
  clear hVV hVA VV VA hW W
  refine V.freezePtr 14 rfl rfl rfl ?_
  refine V.pick [2, 3, 4] (by decide) (by rw [hC]; exact begins_of rfl) (by rfl) (by rfl) ?_
  refine V.to (s' := [(74, .fn (.func 29) [] [.ref [.rows 9 n (prc p), .rows 6 ns (spc l), .int .i64 m, .rows 1 K (icol .i64 s)]]), (17, .ptr 2 0 0), (16, .ptr 1 0 0), (15, .ptr 0 0 0), (14, .ref [.rows 1 K (icol .i64 al)]), (11, .ref [.rows 9 n (prc p), .rows 6 ns (spc l), .int .i64 m, .rows 1 K (icol .i64 s)])]) (H' := [some ⟨28, 1, .lit [[.nil .slice]]⟩, some ⟨3, 1, .lit [[.int .i64 (-1)]]⟩, some ⟨3, 1, .lit [[.int .i64 (-1)]]⟩]) ?_ (by (repeat' first | exact trivial | rfl | (refine And.intro ?_ ?_) | (refine sti ?_; (first | rfl | omega | (simp (disch := omega) only [hS.glob, wraps, plain, Int.ofNat_eq_natCast]; first | done | rfl | omega | (simp; done) | (simp; omega)) | (simp (disch := omega) only [hS.glob, wraps, plain, Int.ofNat_eq_natCast, Vx.toN]; omega))) | (refine slq ?_ ?_ ?_ <;> (first | rfl | omega | (simp (disch := omega) only [hS.glob, wraps, plain, Int.ofNat_eq_natCast]; first | done | rfl | omega | (simp; done) | (simp; omega)) | (simp (disch := omega) only [hS.glob, wraps, plain, Int.ofNat_eq_natCast, Vx.toN]; omega))) | (refine ptq ?_ ?_ ?_ <;> (first | rfl | omega | (simp (disch := omega) only [hS.glob, wraps, plain, Int.ofNat_eq_natCast]; first | done | rfl | omega | (simp; done) | (simp; omega)) | (simp (disch := omega) only [hS.glob, wraps, plain, Int.ofNat_eq_natCast, Vx.toN]; omega))) | (refine blq ?_; (first | rfl | omega | (simp (disch := omega) only [hS.glob, wraps, plain, Int.ofNat_eq_natCast]; first | done | rfl | omega | (simp; done) | (simp; omega)) | (simp (disch := omega) only [hS.glob, wraps, plain, Int.ofNat_eq_natCast, Vx.toN]; omega))))) rfl (by (repeat' first | exact trivial | rfl | exact Nat.le_refl _ | exact (fun _ _ => rfl) | (refine And.intro ?_ ?_) | (simp only [hS.glob, plain]; first | done | omega))) (by rw [hC]; simp)
  obtain ⟨t, ht⟩ : ∃ t : Tx, t = ⟨n, p, ns, l, m, K, s, al⟩ := ⟨_, rfl⟩
  have hOf : t.Of n p ns l m := by
    subst ht
    refine ⟨rfl, rfl, rfl, rfl, rfl, hS0, fun k hk => ?_⟩
    have e : KI = fun j => Tx.ki ⟨n, p, ns, l, m, K, s, al⟩ j := by rw [hKI]; rfl
    have := hal k hk
    rw [e] at this
    exact this
  have hinv := mrun_inv t
  have hR0 : mrun t 0 = ⟨0, fun _ => noIt, -1, -1⟩ := rfl
  have hRs : ∀ k, mrun t (k + 1) = mstep t (mrun t k) k := fun _ => rfl
  have hfinal : ∀ cnt g, cnt = (mrun t K).m → g = mfin (mrun t K) → itemsF n p ns l m cnt g := fun cnt g h1 h2 => ⟨t, hOf, by rw [h1, ht], by rw [h2, ht]⟩
  generalize mrun t = R at hinv hR0 hRs hfinal
  clear hal hKI hki hS0 hKs ht0 hat1 hat2
  refine V.rangeFunc (.inl rfl) (g := 29) (gfn := Try.f29) rfl Try.func29 rfl rfl (by simp) rfl rfl (QN := fun H' => H' = hM (R K).m (R K).g (R K).la (R K).sp) (QS := fun _ _ => False) ?_ ?_ ?_ ?_
  · intro C' lp hC' it
    refine V.goF (by first | exact trivial | assumption) Try.func29 tl_ok mixed hS.ops [] 400 ?_
    intro VV VA W hVV hVA hW
    conv => cbv
    rw [hVV]
    clear hVV hVA VV VA hW W
    refine V.phantomOb 0 0 34 7 (itc (fun _ => noIt)) rfl rfl ?_
    refine V.to (s' := [(11, .int .i64 (ofN 0)), (10, .int .i64 (ofN K)), (9, .rows 1 K (icol .i64 s)), (1, .ref [.rows 9 n (prc p), .rows 6 ns (spc l), .int .i64 m, .rows 1 K (icol .i64 s)]), (0, .fn (.yield lp) [] [])]) (H' := hM (R 0).m (R 0).g (R 0).la (R 0).sp) ?_ (by (repeat' first | exact trivial | rfl | (refine And.intro ?_ ?_) | (refine sti ?_; (first | rfl | omega | (simp (disch := omega) only [hS.glob, wraps, plain, Int.ofNat_eq_natCast]; first | done | rfl | omega | (simp; done) | (simp; omega)) | (simp (disch := omega) only [hS.glob, wraps, plain, Int.ofNat_eq_natCast, Vx.toN]; omega))) | (refine slq ?_ ?_ ?_ <;> (first | rfl | omega | (simp (disch := omega) only [hS.glob, wraps, plain, Int.ofNat_eq_natCast]; first | done | rfl | omega | (simp; done) | (simp; omega)) | (simp (disch := omega) only [hS.glob, wraps, plain, Int.ofNat_eq_natCast, Vx.toN]; omega))) | (refine ptq ?_ ?_ ?_ <;> (first | rfl | omega | (simp (disch := omega) only [hS.glob, wraps, plain, Int.ofNat_eq_natCast]; first | done | rfl | omega | (simp; done) | (simp; omega)) | (simp (disch := omega) only [hS.glob, wraps, plain, Int.ofNat_eq_natCast, Vx.toN]; omega))) | (refine blq ?_; (first | rfl | omega | (simp (disch := omega) only [hS.glob, wraps, plain, Int.ofNat_eq_natCast]; first | done | rfl | omega | (simp; done) | (simp; omega)) | (simp (disch := omega) only [hS.glob, wraps, plain, Int.ofNat_eq_natCast, Vx.toN]; omega))))) rfl (by rw [hR0]; unfold hM; (repeat' first | exact trivial | rfl | exact Nat.le_refl _ | exact (fun _ _ => rfl) | (refine And.intro ?_ ?_) | (simp only [hS.glob, plain]; first | done | omega))) (by rw [hC']; simp [hM])
    refine V.loop (γ := Nat) (fun k => k ≤ K) (fun k => [(11, .int .i64 (ofN k)), (10, .int .i64 (ofN K)), (9, .rows 1 K (icol .i64 s)), (1, .ref [.rows 9 n (prc p), .rows 6 ns (spc l), .int .i64 m, .rows 1 K (icol .i64 s)]), (0, .fn (.yield lp) [] [])]) (fun k => hM (R k).m (R k).g (R k).la (R k).sp) (fun k => K - k) ?_ 0 (Nat.zero_le _)
    intro k hk hback
    have hRk := hRs k
    have hik := hinv k
    rcases hRe : R k with ⟨cnt, g, la, sp⟩
    rw [hRe] at hRk hik
    dsimp only at hik ⊢
    unfold hM
    refine V.goF (by first | exact trivial | assumption) Try.func29 tl_ok mixed hS.ops [(3, .none)] 400 ?_
    intro VV VA W hVV hVA hW
    conv => cbv
    cases h4 : ilt (ofN k) (ofN K)
    · conv => cbv
      simp (disch := first | omega | (simp only [hS.glob, wraps, plain, Int.ofNat_eq_natCast]; omega)) only [hS.glob, wraps, plain, Int.ofNat_eq_natCast] at h4
      obtain rfl : K = k := by omega
      rw [hRe]
    conv => cbv
    simp (disch := first | omega | (simp only [hS.glob, wraps, plain, Int.ofNat_eq_natCast]; omega)) only [hS.glob, wraps, plain, Int.ofNat_eq_natCast] at h4
    obtain ⟨q, hq1, hq2⟩ := hq k (by omega)
    repeat (refine ⟨by first | (rw [hW]; show ordOk _ _ _ = true; kernel_rfl) | (first | trivial | omega | (simp (disch := omega) only [hS.glob, wraps, plain, Int.ofNat_eq_natCast]; first | done | omega | trivial | (simp; done) | (simp; omega) | (constructor <;> omega)) | (simp (disch := omega) only [hS.glob, wraps, plain, Int.ofNat_eq_natCast, Vx.toN]; omega)), ?_⟩)
    simp only [hS.tidy]
    obtain ⟨T0, hT0⟩ : ∃ T0, T0 = toI n K s k := ⟨_, rfl⟩
    rw [hVV]
    clear hVV hVA VV VA hW W
    refine V.steady 9 9 .done tl_ok mixed (by kernel_rfl) (by kernel_rfl) ?_
    refine Det.go hS.ops ?_
    intro KD VD hKD hVD
    conv => cbv
    rw [hVD]
    clear hVD hKD VD KD
    refine Det.call rfl rfl rfl rfl rfl rfl Try.func31 rfl (by decide) (by (first | rfl | ((conv => cbv); (repeat' apply And.intro) <;> first | rfl | trivial | (first | rfl | omega | (simp (disch := omega) only [hS.glob, wraps, plain, Int.ofNat_eq_natCast]; first | done | rfl | omega | (simp; done) | (simp; omega)) | (simp (disch := omega) only [hS.glob, wraps, plain, Int.ofNat_eq_natCast, Vx.toN]; omega))))) (.int .i64 T0) (fun _ => rfl) (f31_ok n p ns l m K (by omega) s k (by omega) _ (by simp only [hS.glob, plain]) T0 hT0) ?_
    refine Det.go hS.ops ?_
    intro KD VD hKD hVD
    conv => cbv
    obtain ⟨tn, ht1, ht2, ht3⟩ : ∃ tn : Nat, T0 = tn ∧ q < tn ∧ tn ≤ n := by
      rw [hT0]
      unfold toI
      by_cases h : k + 1 < K
      · rw [if_pos h]
        obtain ⟨q', h5, h6⟩ := hq (k + 1) h
        have := hqm k (k + 1) (by omega) h
        exact ⟨q', h5, by omega, by omega⟩
      · rw [if_neg h]
        exact ⟨n, rfl, hq2, Nat.le_refl _⟩
    have es : s k = ofN q := by rw [hq1]; (first | rfl | omega | (simp (disch := omega) only [hS.glob, wraps, plain, Int.ofNat_eq_natCast]; first | done | rfl | omega | (simp; done) | (simp; omega)) | (simp (disch := omega) only [hS.glob, wraps, plain, Int.ofNat_eq_natCast, Vx.toN]; omega))
    have eT : T0 = ofN tn := by rw [ht1]; (first | rfl | omega | (simp (disch := omega) only [hS.glob, wraps, plain, Int.ofNat_eq_natCast]; first | done | rfl | omega | (simp; done) | (simp; omega)) | (simp (disch := omega) only [hS.glob, wraps, plain, Int.ofNat_eq_natCast, Vx.toN]; omega))
    have ec : subN tn q = tn - q := by simp only [hS.glob]; rfl
    have ef : (fun j => prc p (addN q j)) = prc (fun i => p (q + i)) := by simp only [hS.glob]; rfl
    rw [es, eT]
    repeat (refine ⟨by first | (rw [hW]; show ordOk _ _ _ = true; kernel_rfl) | (first | trivial | omega | (simp (disch := omega) only [hS.glob, wraps, plain, Int.ofNat_eq_natCast]; first | done | omega | trivial | (simp; done) | (simp; omega) | (constructor <;> omega)) | (simp (disch := omega) only [hS.glob, wraps, plain, Int.ofNat_eq_natCast, Vx.toN]; omega)), ?_⟩)
    simp only [hS.tidy]
    simp only [ec]
    obtain ⟨c, hc⟩ : ∃ c, c = tn - q := ⟨_, rfl⟩
    rw [← hc, ef]
    obtain ⟨KB, hKB⟩ := bool_of (∃ i, i < c ∧ remB (p (q + i)).cl = false)
    have hTs : t.s = s ∧ t.p = p ∧ t.l = l ∧ t.ns = ns ∧ t.m = m ∧ t.al = al ∧ t.n = n ∧ t.K = K := by rw [ht]; exact ⟨rfl, rfl, rfl, rfl, rfl, rfl, rfl, rfl⟩
    have hTq : t.q k = q := by unfold Tx.q; rw [hTs.1, hq1]; rfl
    have hTt : t.to k = T0 := by unfold Tx.to; rw [hTs.1, hTs.2.2.2.2.2.2.1, hTs.2.2.2.2.2.2.2, hT0]
    have hTk : t.ki k = (p q).ki := by unfold Tx.ki; rw [hTs.2.1, hTq]
    have hkept : t.kept k ↔ KB = true := by
      rw [hKB]
      unfold Tx.kept
      rw [hTs.1, hTs.2.1, hTt, hq1, ht1, hc]
      constructor
      · rintro ⟨i, h5, h6, h7⟩
        exact ⟨i - q, by omega, by rw [show q + (i - q) = i by omega]; exact h7⟩
      · rintro ⟨i, h5, h6⟩
        exact ⟨q + i, by omega, by omega, h6⟩
    rw [hVD]
    clear hVD hKD VD KD
    refine Det.call rfl rfl rfl rfl rfl rfl Try.func30 rfl (by decide) (by (first | rfl | ((conv => cbv); (repeat' apply And.intro) <;> first | rfl | trivial | (first | rfl | omega | (simp (disch := omega) only [hS.glob, wraps, plain, Int.ofNat_eq_natCast]; first | done | rfl | omega | (simp; done) | (simp; omega)) | (simp (disch := omega) only [hS.glob, wraps, plain, Int.ofNat_eq_natCast, Vx.toN]; omega))))) (.bool KB) (fun _ => rfl) (f30_ok c (by omega) (fun i => p (q + i)) KB hKB) ?_
    refine Det.go hS.ops ?_
    intro KD VD hKD hVD
    conv => cbv
    rw [hKD]
    clear hVD hKD VD KD
    refine AnyT.done ?_
    have skip : ¬ t.laid k → R (k + 1) = ⟨cnt, g, la, sp⟩ := fun h => by rw [hRk]; unfold mstep; rw [if_neg h]
    refine V.goF (by first | exact trivial | assumption) Try.func29 tl_ok mixed hS.ops [] 400 ?_
    intro VV VA W hVV hVA hW
    conv => cbv
    cases KB
    case false =>
      conv => cbv
      have := skip (fun h => by have := hkept.1 h.1; cases this)
      rw [hVV]
      clear hVV hVA VV VA hW W
      exact V.to (hback (k + 1) (by omega) (by omega)) (by (repeat' first | exact trivial | rfl | (refine And.intro ?_ ?_) | (refine sti ?_; (first | rfl | omega | (simp (disch := omega) only [hS.glob, wraps, plain, Int.ofNat_eq_natCast]; first | done | rfl | omega | (simp; done) | (simp; omega)) | (simp (disch := omega) only [hS.glob, wraps, plain, Int.ofNat_eq_natCast, Vx.toN]; omega))) | (refine slq ?_ ?_ ?_ <;> (first | rfl | omega | (simp (disch := omega) only [hS.glob, wraps, plain, Int.ofNat_eq_natCast]; first | done | rfl | omega | (simp; done) | (simp; omega)) | (simp (disch := omega) only [hS.glob, wraps, plain, Int.ofNat_eq_natCast, Vx.toN]; omega))) | (refine ptq ?_ ?_ ?_ <;> (first | rfl | omega | (simp (disch := omega) only [hS.glob, wraps, plain, Int.ofNat_eq_natCast]; first | done | rfl | omega | (simp; done) | (simp; omega)) | (simp (disch := omega) only [hS.glob, wraps, plain, Int.ofNat_eq_natCast, Vx.toN]; omega))) | (refine blq ?_; (first | rfl | omega | (simp (disch := omega) only [hS.glob, wraps, plain, Int.ofNat_eq_natCast]; first | done | rfl | omega | (simp; done) | (simp; omega)) | (simp (disch := omega) only [hS.glob, wraps, plain, Int.ofNat_eq_natCast, Vx.toN]; omega))))) rfl (by rw [this]; unfold hM; (repeat' first | exact trivial | rfl | exact Nat.le_refl _ | exact (fun _ _ => rfl) | (refine And.intro ?_ ?_) | (simp only [hS.glob, plain]; first | done | omega))) (by rw [hC']; simp [hM])
    conv => cbv
    rw [hVV]
    clear hVV hVA VV VA hW W
    refine V.call rfl rfl rfl rfl rfl Try.func14 rfl (by decide) [] (by simp) (by simp) (by (first | rfl | ((conv => cbv); (repeat' apply And.intro) <;> first | rfl | trivial | (first | rfl | omega | (simp (disch := omega) only [hS.glob, wraps, plain, Int.ofNat_eq_natCast]; first | done | rfl | omega | (simp; done) | (simp; omega)) | (simp (disch := omega) only [hS.glob, wraps, plain, Int.ofNat_eq_natCast, Vx.toN]; omega))))) rfl (f14_ok n p ns l m K s k (by omega) _ (by simp only [hS.glob, plain]) q hq1 hq2) ?_
    rintro r Hc ⟨rfl, rfl⟩
    refine V.goF (by first | exact trivial | assumption) Try.func29 tl_ok mixed hS.ops [] 400 ?_
    intro VV VA W hVV hVA hW
    conv => cbv
    cases h5 : ieq (p q).ki 11
    case true =>
      conv => cbv
      simp (disch := first | omega | (simp only [hS.glob, wraps, plain, Int.ofNat_eq_natCast]; omega)) only [hS.glob, wraps, plain, Int.ofNat_eq_natCast] at h5
      have := skip (fun h => h.2 (hTk.trans h5))
      rw [hVV]
      clear hVV hVA VV VA hW W
      exact V.to (hback (k + 1) (by omega) (by omega)) (by (repeat' first | exact trivial | rfl | (refine And.intro ?_ ?_) | (refine sti ?_; (first | rfl | omega | (simp (disch := omega) only [hS.glob, wraps, plain, Int.ofNat_eq_natCast]; first | done | rfl | omega | (simp; done) | (simp; omega)) | (simp (disch := omega) only [hS.glob, wraps, plain, Int.ofNat_eq_natCast, Vx.toN]; omega))) | (refine slq ?_ ?_ ?_ <;> (first | rfl | omega | (simp (disch := omega) only [hS.glob, wraps, plain, Int.ofNat_eq_natCast]; first | done | rfl | omega | (simp; done) | (simp; omega)) | (simp (disch := omega) only [hS.glob, wraps, plain, Int.ofNat_eq_natCast, Vx.toN]; omega))) | (refine ptq ?_ ?_ ?_ <;> (first | rfl | omega | (simp (disch := omega) only [hS.glob, wraps, plain, Int.ofNat_eq_natCast]; first | done | rfl | omega | (simp; done) | (simp; omega)) | (simp (disch := omega) only [hS.glob, wraps, plain, Int.ofNat_eq_natCast, Vx.toN]; omega))) | (refine blq ?_; (first | rfl | omega | (simp (disch := omega) only [hS.glob, wraps, plain, Int.ofNat_eq_natCast]; first | done | rfl | omega | (simp; done) | (simp; omega)) | (simp (disch := omega) only [hS.glob, wraps, plain, Int.ofNat_eq_natCast, Vx.toN]; omega))))) rfl (by rw [this]; unfold hM; (repeat' first | exact trivial | rfl | exact Nat.le_refl _ | exact (fun _ _ => rfl) | (refine And.intro ?_ ?_) | (simp only [hS.glob, plain]; first | done | omega))) (by rw [hC']; simp [hM])
    conv => cbv
    simp (disch := first | omega | (simp only [hS.glob, wraps, plain, Int.ofNat_eq_natCast]; omega)) only [hS.glob, wraps, plain, Int.ofNat_eq_natCast] at h5
    have hlaid : t.laid k := ⟨hkept.2 rfl, fun h => h5 (hTk.symm.trans h)⟩
    clear skip
    obtain ⟨A, hA⟩ : ∃ A, A = atF l (q : Int) 0 ns := ⟨_, rfl⟩
    obtain ⟨SP, hSP⟩ : ∃ SP, SP = t.spn k := ⟨_, rfl⟩
    have hSPn : A = none → SP = -1 := fun h => by
      rw [hSP]; unfold Tx.spn; simp only [hTs.2.2.1, hTs.2.2.2.1, hTq, ← hA, h]
    have hSPs : ∀ j, A = some j → SP = j := fun j h => by
      rw [hSP]; unfold Tx.spn; simp only [hTs.2.2.1, hTs.2.2.2.1, hTq, ← hA, h]
    rw [hVV]
    clear hVV hVA VV VA hW W
    apply cut
    · intro next
      refine V.call rfl rfl rfl rfl rfl Try.func34 rfl (by decide) [] (by simp) (by simp) (by (first | rfl | ((conv => cbv); (repeat' apply And.intro) <;> first | rfl | trivial | (first | rfl | omega | (simp (disch := omega) only [hS.glob, wraps, plain, Int.ofNat_eq_natCast]; first | done | rfl | omega | (simp; done) | (simp; omega)) | (simp (disch := omega) only [hS.glob, wraps, plain, Int.ofNat_eq_natCast, Vx.toN]; omega))))) rfl (f34_ok ns hns l hord (ofN q) A (by rw [hA]; simp only [hS.glob, Vx.ofN])) ?_
      rintro r Hc ⟨rfl, ⟨h6, rfl⟩ | ⟨j, h6, z, hz, rfl⟩⟩
      · refine V.goF (by first | exact trivial | assumption) Try.func29 tl_ok mixed hS.ops [] 400 ?_
        intro VV VA W hVV hVA hW
        conv => cbv
        rw [hVV]
        clear hVV hVA VV VA hW W
        exact V.to (s' := [(43, .int .i64 SP), (42, .int .i64 (ofN k)), (41, .fn (.yield lp) [] []), (11, .int .i64 (ofN k)), (10, .int .i64 (ofN K)), (9, .rows 1 K (icol .i64 s)), (1, .ref [.rows 9 n (prc p), .rows 6 ns (spc l), .int .i64 m, .rows 1 K (icol .i64 s)]), (0, .fn (.yield lp) [] [])]) (H' := hM cnt g la sp) next.get (by
          refine ⟨sti (hSPn h6).symm, rfl, rfl, rfl, rfl, rfl, rfl, rfl, trivial⟩) rfl (by unfold hM; (repeat' first | exact trivial | rfl | exact Nat.le_refl _ | exact (fun _ _ => rfl) | (refine And.intro ?_ ?_) | (simp only [hS.glob, plain]; first | done | omega))) (by rw [hC']; simp [hM])
      · refine V.goF (by first | exact trivial | assumption) Try.func29 tl_ok mixed hS.ops [] 400 ?_
        intro VV VA W hVV hVA hW
        conv => cbv
        rw [hVV]
        clear hVV hVA VV VA hW W
        exact V.to (s' := [(43, .int .i64 SP), (42, .int .i64 (ofN k)), (41, .fn (.yield lp) [] []), (11, .int .i64 (ofN k)), (10, .int .i64 (ofN K)), (9, .rows 1 K (icol .i64 s)), (1, .ref [.rows 9 n (prc p), .rows 6 ns (spc l), .int .i64 m, .rows 1 K (icol .i64 s)]), (0, .fn (.yield lp) [] [])]) (H' := hM cnt g la sp) next.get (by
          refine ⟨sti (hz.trans (hSPs j h6).symm), rfl, rfl, rfl, rfl, rfl, rfl, rfl, trivial⟩) rfl (by unfold hM; (repeat' first | exact trivial | rfl | exact Nat.le_refl _ | exact (fun _ _ => rfl) | (refine And.intro ?_ ?_) | (simp only [hS.glob, plain]; first | done | omega))) (by rw [hC']; simp [hM])
    unfold hM
    obtain ⟨x, hx⟩ : ∃ x, x = t.sing k := ⟨_, rfl⟩
    have hx2 : x = singI (p q) (styS l ns q) (s k) (toI n K s k) m SP := by
      rw [hx, hSP]; unfold Tx.sing; rw [hTs.2.1, hTs.2.2.1, hTs.2.2.2.1, hTs.1, hTs.2.2.2.2.1, hTq, hTt, hT0]
    obtain ⟨E, hE⟩ : ∃ E, E = t.endR la.toNat k := ⟨_, rfl⟩
    have hRk2 : R (k + 1) = mput ⟨cnt, g, la, sp⟩ x k SP E := by
      rw [hRk, hE, hSP, hx]; unfold mstep; rw [if_pos hlaid]
    clear hRk
    have hls := mput_la ⟨cnt, g, la, sp⟩ x k SP E
    rw [← hRk2] at hls
    have hls1 : (R (k + 1)).la = ofN k := by rw [hls.1]; simp only [hS.glob, plain]
    unfold mput at hRk2
    dsimp only at hRk2
    rcases x with ⟨xf, xt, xw, xr, xb, xe, xg⟩
    obtain ⟨c1, hc1⟩ : ∃ c1, c1 = (R (k + 1)).m := ⟨_, rfl⟩
    obtain ⟨g1, hg1⟩ : ∃ g1, g1 = (R (k + 1)).g := ⟨_, rfl⟩
    obtain ⟨QR, hQR⟩ : ∃ QR : Option Code → Hp → Prop, QR = fun z H' => z = none ∧ ((∃ w1 w2 f, H' = [some ⟨28, 1, .lit [[.sl 6 0 c1]]⟩, some ⟨3, 1, .lit [[.int .i64 (ofN k)]]⟩, some ⟨3, 1, .lit [[.int .i64 SP]]⟩, none, w1, w2, some ⟨34, 7, .arr c1 f⟩] ∧ ∀ j, j < c1 → f j = itc g1 j) ∨ ∃ w1 f, H' = [some ⟨28, 1, .lit [[.sl 3 0 c1]]⟩, some ⟨3, 1, .lit [[.int .i64 (ofN k)]]⟩, some ⟨3, 1, .lit [[.int .i64 SP]]⟩, some ⟨34, 7, .arr c1 f⟩, w1] ∧ ∀ j, j < c1 → f j = itc g1 j) := ⟨_, rfl⟩
    refine V.yield it rfl rfl rfl rfl rfl rfl rfl rfl (QR := QR) ?_ ?_ ?_
    · clear it hback
      intro C2 hC2 hR2
      have hfit := hR2.fits QR
      refine V.goF (by first | exact trivial | assumption) Try.func7 tl_ok mixed hS.ops [] 400 ?_
      intro VV VA W hVV hVA hW
      conv => cbv
      rw [hVV]
      clear hVV hVA VV VA hW W
      refine V.beginRound hR2 fun C3 hC3 hfit3 => ?_
      refine V.goF (by first | exact trivial | assumption) Try.func7 tl_ok mixed hS.ops [] 400 ?_
      intro VV VA W hVV hVA hW
      conv => cbv
      rw [hVV]
      clear hVV hVA VV VA hW W
      refine V.call rfl rfl rfl rfl rfl Try.func17 rfl (by decide) [] (by simp) (by simp) (by (first | rfl | ((conv => cbv); (repeat' apply And.intro) <;> first | rfl | trivial | (first | rfl | omega | (simp (disch := omega) only [hS.glob, wraps, plain, Int.ofNat_eq_natCast]; first | done | rfl | omega | (simp; done) | (simp; omega)) | (simp (disch := omega) only [hS.glob, wraps, plain, Int.ofNat_eq_natCast, Vx.toN]; omega))))) rfl (f17_ok n p ns hns l hord hsc m K (by omega) s k (by omega) _ (by simp only [hS.glob, plain]) q hq1 hq2 SP ⟨xf, xt, xw, xr, xb, xe, xg⟩ hx2) ?_
      rintro r Hc ⟨rfl, rfl⟩
      refine V.goF (by first | exact trivial | assumption) Try.func7 tl_ok mixed hS.ops [(24, .none)] 400 ?_
      intro VV VA W hVV hVA hW
      conv => cbv
      rcases Nat.eq_zero_or_pos cnt with h7 | h7
      · rw [if_pos h7] at hRk2
        rw [hRk2] at hc1 hg1
        dsimp only at hc1 hg1
        have e1 : isub .i64 (ofN cnt) 1 = -1 := by rw [h7]; (first | rfl | omega | (simp (disch := omega) only [hS.glob, wraps, plain, Int.ofNat_eq_natCast]; first | done | rfl | omega | (simp; done) | (simp; omega)) | (simp (disch := omega) only [hS.glob, wraps, plain, Int.ofNat_eq_natCast, Vx.toN]; omega))
        have e2 : ilt (-1) 0 = true := by (first | rfl | omega | (simp (disch := omega) only [hS.glob, wraps, plain, Int.ofNat_eq_natCast]; first | done | rfl | omega | (simp; done) | (simp; omega)) | (simp (disch := omega) only [hS.glob, wraps, plain, Int.ofNat_eq_natCast, Vx.toN]; omega))
        simp only [e1, e2]
        conv => cbv
        repeat (refine ⟨by first | (rw [hW]; show ordOk _ _ _ = true; kernel_rfl) | (first | trivial | omega | (simp (disch := omega) only [hS.glob, wraps, plain, Int.ofNat_eq_natCast]; first | done | omega | trivial | (simp; done) | (simp; omega) | (constructor <;> omega)) | (simp (disch := omega) only [hS.glob, wraps, plain, Int.ofNat_eq_natCast, Vx.toN]; omega)), ?_⟩)
        have ea : addN cnt 1 = c1 := by rw [h7, hc1]; (first | rfl | omega | (simp (disch := omega) only [hS.glob, wraps, plain, Int.ofNat_eq_natCast]; first | done | rfl | omega | (simp; done) | (simp; omega)) | (simp (disch := omega) only [hS.glob, wraps, plain, Int.ofNat_eq_natCast, Vx.toN]; omega))
        rw [ea, hQR]
        refine ⟨rfl, .inl ⟨_, _, _, rfl, fun j hj => ?_⟩⟩
        exact (leafR (by simp [hS.glob]) (by simp [hS.glob]) _ (itc g) (itc g1) cnt (fun j hj => by omega) (by rw [hg1]; rfl) j (by omega)).symm
      · rw [if_neg (by omega)] at hRk2
        obtain ⟨c0, hc0⟩ : ∃ c0, cnt = c0 + 1 := ⟨cnt - 1, by omega⟩
        have e0 : cnt - 1 = c0 := by omega
        simp only [e0] at hRk2
        have e1 : isub .i64 (ofN cnt) 1 = ofN c0 := by (first | rfl | omega | (simp (disch := omega) only [hS.glob, wraps, plain, Int.ofNat_eq_natCast]; first | done | rfl | omega | (simp; done) | (simp; omega)) | (simp (disch := omega) only [hS.glob, wraps, plain, Int.ofNat_eq_natCast, Vx.toN]; omega))
        have e2 : ilt (ofN c0) 0 = false := by simp only [hS.glob, Vx.ilt, Vx.ofN]; simp
        obtain ⟨a, ha1, ha2⟩ := hik.2 (by omega)
        rcases hge : g c0 with ⟨yf, yt, yw, yr, yb, ye, yg⟩
        simp only [hge] at hRk2
        simp only [e1, e2]
        by_cases hJ : xg = true ∧ yg = true ∧ SP = sp
        · rw [if_pos hJ] at hRk2
          rw [hRk2] at hc1 hg1
          dsimp only at hc1 hg1
          obtain ⟨h8, h9, h10⟩ := hJ
          subst h8
          conv => cbv
          repeat (refine ⟨by first | (rw [hW]; show ordOk _ _ _ = true; kernel_rfl) | (first | trivial | omega | (simp (disch := omega) only [hS.glob, wraps, plain, Int.ofNat_eq_natCast]; first | done | omega | trivial | (simp; done) | (simp; omega) | (constructor <;> omega)) | (simp (disch := omega) only [hS.glob, wraps, plain, Int.ofNat_eq_natCast, Vx.toN]; omega)), ?_⟩)
          simp only [hS.tidy, hge]
          subst h9
          have e3 : ieq SP sp = true := by simp only [hS.glob, plain]; exact h10
          conv => cbv
          simp only [e3]
          conv => cbv
          repeat (refine ⟨by first | (rw [hW]; show ordOk _ _ _ = true; kernel_rfl) | (first | trivial | omega | (simp (disch := omega) only [hS.glob, wraps, plain, Int.ofNat_eq_natCast]; first | done | omega | trivial | (simp; done) | (simp; omega) | (constructor <;> omega)) | (simp (disch := omega) only [hS.glob, wraps, plain, Int.ofNat_eq_natCast, Vx.toN]; omega)), ?_⟩)
          simp only [hS.tidy]
          rw [hQR, hc1]
          refine ⟨rfl, .inr ⟨_, _, rfl, fun j hj => ?_⟩⟩
          rw [hg1]
          by_cases hj0 : j = c0
          · subst hj0
            have e4 : eqN j j = true := by simp [hS.glob, Vx.eqN]
            rw [e4]
            simp only [itc]
            rw [if_pos hc0.symm]
            rfl
          · have e4 : eqN j c0 = false := by simp [hS.glob, Vx.eqN, hj0]
            rw [e4]
            simp only [itc]
            rw [if_neg (by omega)]
        · rw [if_neg hJ] at hRk2
          rw [hRk2] at hc1 hg1
          dsimp only at hc1 hg1
          apply cut
          · intro next
            cases hxg : xg
            case' true =>
              conv => cbv
              repeat (refine ⟨by first | (rw [hW]; show ordOk _ _ _ = true; kernel_rfl) | (first | trivial | omega | (simp (disch := omega) only [hS.glob, wraps, plain, Int.ofNat_eq_natCast]; first | done | omega | trivial | (simp; done) | (simp; omega) | (constructor <;> omega)) | (simp (disch := omega) only [hS.glob, wraps, plain, Int.ofNat_eq_natCast, Vx.toN]; omega)), ?_⟩)
              simp only [hS.tidy, hge]
              cases yg
              case' true =>
                conv => cbv
                have e3 : ieq SP sp = false := by simp only [hS.glob, plain]; exact fun h => hJ ⟨hxg, rfl, h⟩
                simp only [e3]
            all_goals
              conv => cbv
              rw [hVV]
              exact V.to (s' := [(21, .int .i64 (ofN c0)), (20, .ptr 4 0 0), (19, .int .i64 SP), (18, .int .i64 (ofN k)), (17, .ptr 2 0 0), (16, .ptr 1 0 0), (15, .ptr 0 0 0), (14, .ref [.rows 1 K (icol .i64 al)]), (11, .ref [.rows 9 n (prc p), .rows 6 ns (spc l), .int .i64 m, .rows 1 K (icol .i64 s)])]) (H' := [some ⟨28, 1, .lit [[.sl 3 0 cnt]]⟩, some ⟨3, 1, .lit [[.int .i64 la]]⟩, some ⟨3, 1, .lit [[.int .i64 sp]]⟩, some ⟨34, 7, .arr cnt (itc g)⟩, some ⟨34, 7, .lit [[.int .i64 xf, .int .i64 xt, .int .i64 xw, .int .i64 xr, .int .i64 xb, .int .i64 xe, .bool xg]]⟩]) next.get (by (repeat' first | exact trivial | rfl | (refine And.intro ?_ ?_) | (refine sti ?_; (first | rfl | omega | (simp (disch := omega) only [hS.glob, wraps, plain, Int.ofNat_eq_natCast]; first | done | rfl | omega | (simp; done) | (simp; omega)) | (simp (disch := omega) only [hS.glob, wraps, plain, Int.ofNat_eq_natCast, Vx.toN]; omega))) | (refine slq ?_ ?_ ?_ <;> (first | rfl | omega | (simp (disch := omega) only [hS.glob, wraps, plain, Int.ofNat_eq_natCast]; first | done | rfl | omega | (simp; done) | (simp; omega)) | (simp (disch := omega) only [hS.glob, wraps, plain, Int.ofNat_eq_natCast, Vx.toN]; omega))) | (refine ptq ?_ ?_ ?_ <;> (first | rfl | omega | (simp (disch := omega) only [hS.glob, wraps, plain, Int.ofNat_eq_natCast]; first | done | rfl | omega | (simp; done) | (simp; omega)) | (simp (disch := omega) only [hS.glob, wraps, plain, Int.ofNat_eq_natCast, Vx.toN]; omega))) | (refine blq ?_; (first | rfl | omega | (simp (disch := omega) only [hS.glob, wraps, plain, Int.ofNat_eq_natCast]; first | done | rfl | omega | (simp; done) | (simp; omega)) | (simp (disch := omega) only [hS.glob, wraps, plain, Int.ofNat_eq_natCast, Vx.toN]; omega))))) rfl (by rw [hxg]; (repeat' first | exact trivial | rfl | exact Nat.le_refl _ | exact (fun _ _ => rfl) | (refine And.intro ?_ ?_) | (simp only [hS.glob, plain]; first | done | omega))) (by rw [hC3]; simp)
          · clear hVV hVA VV VA hW W
            obtain ⟨Z, hZ⟩ : ∃ Z, Z = enI ⟨yf, yt, yw, yr, yb, ye, yg⟩ ⟨xf, xt, xw, xr, xb, xe, xg⟩ E := ⟨_, rfl⟩
            have hE1 : (∃ k', a ≤ k' ∧ k' < k ∧ (p (s k').toNat).ki = 11) → E = 2 := fun ⟨k', h8, h9, h10⟩ => by
              rw [hE, ha2]; unfold Tx.endR
              rw [if_pos ⟨k', by simpa using h8, h9, by unfold Tx.ki Tx.q; rw [hTs.2.1, hTs.1]; exact h10⟩]
            have hE2 : (∀ k', a ≤ k' → k' < k → (p (s k').toNat).ki ≠ 11) → E = al (k - 1) := fun h8 => by
              rw [hE, ha2]; unfold Tx.endR
              rw [if_neg (fun ⟨k', h9, h10, h11⟩ => h8 k' (by simpa using h9) h10 (by unfold Tx.ki Tx.q at h11; rw [hTs.2.1, hTs.1] at h11; exact h11)), hTs.2.2.2.2.2.1]
            unfold enI at hZ
            dsimp only at hZ
            refine V.steady 9 9 (.one 9 .none .done) tl_ok mixed (by kernel_rfl) (by kernel_rfl) ?_
            refine Det.go hS.ops ?_
            intro KD VD hKD hVD
            conv => cbv
            rw [hVD]
            clear hVD hKD VD KD
            refine Det.call rfl rfl rfl rfl rfl rfl Try.func18 rfl (by decide) (by (first | rfl | ((conv => cbv); (repeat' apply And.intro) <;> first | rfl | trivial | (first | rfl | omega | (simp (disch := omega) only [hS.glob, wraps, plain, Int.ofNat_eq_natCast]; first | done | rfl | omega | (simp; done) | (simp; omega)) | (simp (disch := omega) only [hS.glob, wraps, plain, Int.ofNat_eq_natCast, Vx.toN]; omega))))) (.int .i64 E) (fun _ => rfl) (f18_ok n (by omega) p ns l m K (by omega) s hq a k ha1 (by omega) K (by omega) al _ _ ha2 (by simp only [hS.glob, plain]) E hE1 hE2) ?_
            refine Det.go hS.ops ?_
            intro KD VD hKD hVD
            conv => cbv
            repeat (refine ⟨by first | (rw [hW]; show ordOk _ _ _ = true; kernel_rfl) | (first | trivial | omega | (simp (disch := omega) only [hS.glob, wraps, plain, Int.ofNat_eq_natCast]; first | done | omega | trivial | (simp; done) | (simp; omega) | (constructor <;> omega)) | (simp (disch := omega) only [hS.glob, wraps, plain, Int.ofNat_eq_natCast, Vx.toN]; omega)), ?_⟩)
            try simp only [hS.tidy]
            rw [hKD]
            clear hVD hKD VD KD
            refine AnyT.goF (by first | exact trivial | assumption) Try.func7 tl_ok mixed hS.ops [] 400 ?_
            intro VV VA W hVV hVA hW
            conv => cbv
            repeat (refine ⟨by first | (rw [hW]; show ordOk _ _ _ = true; kernel_rfl) | (first | trivial | omega | (simp (disch := omega) only [hS.glob, wraps, plain, Int.ofNat_eq_natCast]; first | done | omega | trivial | (simp; done) | (simp; omega) | (constructor <;> omega)) | (simp (disch := omega) only [hS.glob, wraps, plain, Int.ofNat_eq_natCast, Vx.toN]; omega)), ?_⟩)
            have e4 : eqN c0 c0 = true := by simp [hS.glob, Vx.eqN]
            have e5 : itc g c0 = [.int .i64 yf, .int .i64 yt, .int .i64 yw, .int .i64 yr, .int .i64 yb, .int .i64 ye, .bool yg] := by simp only [itc, hge]
            simp only [hS.tidy, e4, e5]
            conv => cbv
            have ea : addN cnt 1 = c1 := by rw [hc1]; (first | rfl | omega | (simp (disch := omega) only [hS.glob, wraps, plain, Int.ofNat_eq_natCast]; first | done | rfl | omega | (simp; done) | (simp; omega)) | (simp (disch := omega) only [hS.glob, wraps, plain, Int.ofNat_eq_natCast, Vx.toN]; omega))
            have hrow : g1 c0 = ⟨yf, yt, yw, yr, yb, Z, yg⟩ := by
              rw [hg1, hZ]
              have n1 : ¬ c0 = cnt := by omega
              simp only [if_neg n1, if_pos hc0.symm, hge]
              rfl
            have hold : ∀ j, j < cnt → j ≠ c0 → itc g1 j = itc g j := fun j h11 h12 => by
              simp only [itc]
              rw [hg1]
              dsimp only
              rw [if_neg (by omega), if_neg (by omega)]
            have hnew : itc g1 cnt = [.int .i64 xf, .int .i64 xt, .int .i64 xw, .int .i64 xr, .int .i64 xb, .int .i64 xe, .bool xg] := by
              simp only [itc]
              rw [hg1]
              dsimp only
              rw [if_pos rfl]
            have hmid : itc g1 c0 = [.int .i64 yf, .int .i64 yt, .int .i64 yw, .int .i64 yr, .int .i64 yb, .int .i64 Z, .bool yg] := by
              simp only [itc, hrow]
            clear hrow hg1 hRk2
            cases h8 : ine yb (-1)
            case' false =>
              simp (disch := first | omega | (simp only [hS.glob, wraps, plain, Int.ofNat_eq_natCast]; omega)) only [hS.glob, wraps, plain, Int.ofNat_eq_natCast] at h8
              rw [if_neg (fun h => h.1 h8)] at hZ
            case' true =>
              conv => cbv
              repeat (refine ⟨by first | (rw [hW]; show ordOk _ _ _ = true; kernel_rfl) | (first | trivial | omega | (simp (disch := omega) only [hS.glob, wraps, plain, Int.ofNat_eq_natCast]; first | done | omega | trivial | (simp; done) | (simp; omega) | (constructor <;> omega)) | (simp (disch := omega) only [hS.glob, wraps, plain, Int.ofNat_eq_natCast, Vx.toN]; omega)), ?_⟩)
              simp only [hS.tidy, e4, e5]
              conv => cbv
              cases h9 : ieq yb xb
              case' false =>
                simp (disch := first | omega | (simp only [hS.glob, wraps, plain, Int.ofNat_eq_natCast]; omega)) only [hS.glob, wraps, plain, Int.ofNat_eq_natCast] at h9
                rw [if_neg (fun h => h9 h.2.1)] at hZ
              case' true =>
                conv => cbv
                repeat (refine ⟨by first | (rw [hW]; show ordOk _ _ _ = true; kernel_rfl) | (first | trivial | omega | (simp (disch := omega) only [hS.glob, wraps, plain, Int.ofNat_eq_natCast]; first | done | omega | trivial | (simp; done) | (simp; omega) | (constructor <;> omega)) | (simp (disch := omega) only [hS.glob, wraps, plain, Int.ofNat_eq_natCast, Vx.toN]; omega)), ?_⟩)
                simp only [hS.tidy, e4, e5]
                conv => cbv
                cases h10 : ine E 2
                case' false =>
                  simp (disch := first | omega | (simp only [hS.glob, wraps, plain, Int.ofNat_eq_natCast]; omega)) only [hS.glob, wraps, plain, Int.ofNat_eq_natCast] at h10
                  rw [if_neg (fun h => h.2.2 h10)] at hZ
                case' true =>
                  simp (disch := first | omega | (simp only [hS.glob, wraps, plain, Int.ofNat_eq_natCast]; omega)) only [hS.glob, wraps, plain, Int.ofNat_eq_natCast] at h8 h9 h10
                  rw [if_pos ⟨h8, h9, h10⟩] at hZ
                  conv => cbv
                  repeat (refine ⟨by first | (rw [hW]; show ordOk _ _ _ = true; kernel_rfl) | (first | trivial | omega | (simp (disch := omega) only [hS.glob, wraps, plain, Int.ofNat_eq_natCast]; first | done | omega | trivial | (simp; done) | (simp; omega) | (constructor <;> omega)) | (simp (disch := omega) only [hS.glob, wraps, plain, Int.ofNat_eq_natCast, Vx.toN]; omega)), ?_⟩)
                  simp only [hS.tidy, e4, e5]
                  conv => cbv
            all_goals
              conv => cbv
              repeat (refine ⟨by first | (rw [hW]; show ordOk _ _ _ = true; kernel_rfl) | (first | trivial | omega | (simp (disch := omega) only [hS.glob, wraps, plain, Int.ofNat_eq_natCast]; first | done | omega | trivial | (simp; done) | (simp; omega) | (constructor <;> omega)) | (simp (disch := omega) only [hS.glob, wraps, plain, Int.ofNat_eq_natCast, Vx.toN]; omega)), ?_⟩)
              rw [ea, hQR]
              refine ⟨rfl, .inl ⟨_, _, _, rfl, fun j hj => ?_⟩⟩
              simp only [hS.glob]
              by_cases hj1 : j = cnt
              · subst hj1
                have k1 : Vx.ltB j j = false := by simp only [plain]; omega
                rw [k1, hnew]
                simp [Vx.subN]
              · have k1 : Vx.ltB j cnt = true := by simp only [plain]; omega
                by_cases hj2 : j = c0
                · subst hj2
                  have k2 : Vx.eqN j j = true := by simp [Vx.eqN]
                  simp only [k1, k2, e5]
                  rw [hmid, hZ]
                  rfl
                · have k2 : Vx.eqN j c0 = false := by simp [Vx.eqN, hj2]
                  simp only [k1, k2]
                  exact (hold j (by omega) hj2).symm
    · rw [hQR]
      rintro H' ⟨_, ⟨w1, w2, f, rfl, hf⟩ | ⟨w1, f, rfl, hf⟩⟩
      · refine V.goF (by first | exact trivial | assumption) Try.func29 tl_ok mixed hS.ops [] 400 ?_
        intro VV VA W hVV hVA hW
        conv => cbv
        rw [hVV]
        clear hVV hVA VV VA hW W
        refine V.pick [0, 1, 2, 6] (by decide) (by rw [hC']; exact begins_of (n := 3) (by decide)) rfl rfl ?_
        refine V.to (hback (k + 1) (by omega) (by omega)) (by (repeat' first | exact trivial | rfl | (refine And.intro ?_ ?_) | (refine sti ?_; (first | rfl | omega | (simp (disch := omega) only [hS.glob, wraps, plain, Int.ofNat_eq_natCast]; first | done | rfl | omega | (simp; done) | (simp; omega)) | (simp (disch := omega) only [hS.glob, wraps, plain, Int.ofNat_eq_natCast, Vx.toN]; omega))) | (refine slq ?_ ?_ ?_ <;> (first | rfl | omega | (simp (disch := omega) only [hS.glob, wraps, plain, Int.ofNat_eq_natCast]; first | done | rfl | omega | (simp; done) | (simp; omega)) | (simp (disch := omega) only [hS.glob, wraps, plain, Int.ofNat_eq_natCast, Vx.toN]; omega))) | (refine ptq ?_ ?_ ?_ <;> (first | rfl | omega | (simp (disch := omega) only [hS.glob, wraps, plain, Int.ofNat_eq_natCast]; first | done | rfl | omega | (simp; done) | (simp; omega)) | (simp (disch := omega) only [hS.glob, wraps, plain, Int.ofNat_eq_natCast, Vx.toN]; omega))) | (refine blq ?_; (first | rfl | omega | (simp (disch := omega) only [hS.glob, wraps, plain, Int.ofNat_eq_natCast]; first | done | rfl | omega | (simp; done) | (simp; omega)) | (simp (disch := omega) only [hS.glob, wraps, plain, Int.ofNat_eq_natCast, Vx.toN]; omega))))) rfl ?_ (by rw [hC']; simp [hM])
        rw [hls1, hls.2, ← hc1, ← hg1]
        unfold hM
        (repeat' first | exact trivial | rfl | exact Nat.le_refl _ | exact (fun _ _ => rfl) | (refine And.intro ?_ ?_) | (simp only [hS.glob, plain]; first | done | omega))
        exact fun j hj => (hf j hj).symm
      · refine V.goF (by first | exact trivial | assumption) Try.func29 tl_ok mixed hS.ops [] 400 ?_
        intro VV VA W hVV hVA hW
        conv => cbv
        rw [hVV]
        clear hVV hVA VV VA hW W
        refine V.pick [0, 1, 2, 3] (by decide) (by rw [hC']; exact begins_of (n := 3) (by decide)) rfl rfl ?_
        refine V.to (hback (k + 1) (by omega) (by omega)) (by (repeat' first | exact trivial | rfl | (refine And.intro ?_ ?_) | (refine sti ?_; (first | rfl | omega | (simp (disch := omega) only [hS.glob, wraps, plain, Int.ofNat_eq_natCast]; first | done | rfl | omega | (simp; done) | (simp; omega)) | (simp (disch := omega) only [hS.glob, wraps, plain, Int.ofNat_eq_natCast, Vx.toN]; omega))) | (refine slq ?_ ?_ ?_ <;> (first | rfl | omega | (simp (disch := omega) only [hS.glob, wraps, plain, Int.ofNat_eq_natCast]; first | done | rfl | omega | (simp; done) | (simp; omega)) | (simp (disch := omega) only [hS.glob, wraps, plain, Int.ofNat_eq_natCast, Vx.toN]; omega))) | (refine ptq ?_ ?_ ?_ <;> (first | rfl | omega | (simp (disch := omega) only [hS.glob, wraps, plain, Int.ofNat_eq_natCast]; first | done | rfl | omega | (simp; done) | (simp; omega)) | (simp (disch := omega) only [hS.glob, wraps, plain, Int.ofNat_eq_natCast, Vx.toN]; omega))) | (refine blq ?_; (first | rfl | omega | (simp (disch := omega) only [hS.glob, wraps, plain, Int.ofNat_eq_natCast]; first | done | rfl | omega | (simp; done) | (simp; omega)) | (simp (disch := omega) only [hS.glob, wraps, plain, Int.ofNat_eq_natCast, Vx.toN]; omega))))) rfl ?_ (by rw [hC']; simp [hM])
        rw [hls1, hls.2, ← hc1, ← hg1]
        unfold hM
        (repeat' first | exact trivial | rfl | exact Nat.le_refl _ | exact (fun _ _ => rfl) | (refine And.intro ?_ ?_) | (simp only [hS.glob, plain]; first | done | omega))
        exact fun j hj => (hf j hj).symm
    · rw [hQR]
      rintro j H' ⟨h, _⟩
      cases h
  · rintro H' rfl C2 hC2
    obtain ⟨cnt, hcnt⟩ : ∃ cnt, cnt = (R K).m := ⟨_, rfl⟩
    obtain ⟨g, hg⟩ : ∃ g, g = (R K).g := ⟨_, rfl⟩
    have hfin := hfinal cnt (mfin (R K)) hcnt rfl
    unfold mfin at hfin
    rw [← hcnt, ← hg] at hfin ⊢
    have hcl := (hinv K).1
    rw [← hcnt] at hcl
    unfold hM
    refine V.goF (by first | exact trivial | assumption) Try.func7 tl_ok mixed hS.ops [] 400 ?_
    intro VV VA W hVV hVA hW
    conv => cbv
    cases h4 : igt (ofN cnt) 0
    · conv => cbv
      simp (disch := first | omega | (simp only [hS.glob, wraps, plain, Int.ofNat_eq_natCast]; omega)) only [hS.glob, wraps, plain, Int.ofNat_eq_natCast] at h4
      rw [hQ]
      exact .inr ⟨hok, _, cnt, _, rfl, .inr ⟨3, 34, cnt, _, rfl, Nat.le_refl _, rfl, fun j hj => by omega⟩, hfin⟩
    · conv => cbv
      simp (disch := first | omega | (simp only [hS.glob, wraps, plain, Int.ofNat_eq_natCast]; omega)) only [hS.glob, wraps, plain, Int.ofNat_eq_natCast] at h4
      obtain ⟨c0, hc0⟩ : ∃ c0, cnt = c0 + 1 := ⟨cnt - 1, by omega⟩
      have e1 : isub .i64 (ofN cnt) 1 = ofN c0 := by (first | rfl | omega | (simp (disch := omega) only [hS.glob, wraps, plain, Int.ofNat_eq_natCast]; first | done | rfl | omega | (simp; done) | (simp; omega)) | (simp (disch := omega) only [hS.glob, wraps, plain, Int.ofNat_eq_natCast, Vx.toN]; omega))
      simp only [e1]
      repeat (refine ⟨by first | (rw [hW]; show ordOk _ _ _ = true; kernel_rfl) | (first | trivial | omega | (simp (disch := omega) only [hS.glob, wraps, plain, Int.ofNat_eq_natCast]; first | done | omega | trivial | (simp; done) | (simp; omega) | (constructor <;> omega)) | (simp (disch := omega) only [hS.glob, wraps, plain, Int.ofNat_eq_natCast, Vx.toN]; omega)), ?_⟩)
      simp only [hS.tidy]
      repeat (refine ⟨by first | (rw [hW]; show ordOk _ _ _ = true; kernel_rfl) | (first | trivial | omega | (simp (disch := omega) only [hS.glob, wraps, plain, Int.ofNat_eq_natCast]; first | done | omega | trivial | (simp; done) | (simp; omega) | (constructor <;> omega)) | (simp (disch := omega) only [hS.glob, wraps, plain, Int.ofNat_eq_natCast, Vx.toN]; omega)), ?_⟩)
      rw [hQ]
      refine .inr ⟨hok, _, cnt, _, rfl, .inr ⟨3, 34, cnt, _, rfl, Nat.le_refl _, rfl, fun j hj => ?_⟩, hfin⟩
      simp only [hS.glob]
      by_cases hj2 : j = c0
      · subst hj2
        have k2 : Vx.eqN j j = true := by simp [Vx.eqN]
        simp only [k2, itc]
        rw [if_pos hc0.symm]
        rfl
      · have k2 : Vx.eqN j c0 = false := by simp [Vx.eqN, hj2]
        simp only [k2, itc]
        rw [if_neg (by omega)]
  · rintro j H' h
    exact h.elim
  · rintro H' h
    exact h
theorem f7_no (n : Nat) (hn : n ≤ 10000000000000) (p : Nat → Pr) (ns : Nat) (hns : ns ≤ 2000000) (l : Nat → Sp) (hs : ∀ j, j < ns → inSz (l j)) (m : Int) (h : ¬ (n ≤ 2000 ∧ RightL l ns n ∧ 0 ≤ m ∧ m ≤ 3)) :
    FSpec Try.prog 7 [.rows 9 n (prc p), .rows 6 ns (spc l), .int .i64 m] [] (fun r H' => H' = [] ∧ r = .tup [.nil .slice, .int .i64 161]) := by
  refine (f7_ok1 n hn p ns hns l hs m).weaken ?_
  rintro r H' (⟨_, rfl⟩ | ⟨h1, _⟩)
  · exact ⟨[], by cases H' <;> simp [heapCov], rfl, Nat.le_refl _, rfl, rfl⟩
  · exact absurd h1 h
theorem f7_yes (n : Nat) (hn : n ≤ 10000000000000) (p : Nat → Pr) (ns : Nat) (hns : ns ≤ 2000000) (l : Nat → Sp) (hs : ∀ j, j < ns → inSz (l j)) (m : Int) (h : n ≤ 2000 ∧ RightL l ns n ∧ 0 ≤ m ∧ m ≤ 3) :
    FSpec Try.prog 7 [.rows 9 n (prc p), .rows 6 ns (spc l), .int .i64 m] [] (fun r H' => H' = [] ∧ ∃ k f y, ((∃ g, f = itc g ∧ itemsF n p ns l m k g) ∧ y = .int .i64 0) ∧ r = .tup [.rows 7 k f, y]) := by
  refine FSpec.froz2 (R := fun k f y => (∃ g, f = itc g ∧ itemsF n p ns l m k g) ∧ y = .int .i64 0) (by decide) (f7_ok1 n hn p ns hns l hs m) ?_
  rintro r H' (⟨h1, _⟩ | ⟨_, x, cnt, g, rfl, hf, hi⟩)
  · exact absurd h h1
  · exact ⟨cnt, _, x, _, rfl, ⟨⟨g, rfl, hi⟩, rfl⟩, rfl, hf⟩
end Go.Proofs.Ytngagepodbcohaa

/- The items in rows and columns: in plain words. -/
namespace Go.Proofs.Ytngagepodbcohaa
open Go Vx
set_option maxRecDepth 100000
/-- The one paragraph that is made of the arguments. -/
def canT (n : Nat) (p : Nat → Pr) (ns : Nat) (l : Nat → Sp) (m : Int) : Tx :=
  ⟨n, p, ns, l, m, (startsL (fun i => (p i).jo) n).length, fun k => (((startsL (fun i => (p i).jo) n).getD k 0 : Nat) : Int), allI (startsL (fun i => (p i).jo) n).length (fun j => (p ((startsL (fun i => (p i).jo) n).getD j 0)).ki)⟩
theorem cnt_congr {ki ki' : Nat → Int} : ∀ (i : Nat), (∀ j, j < i → ki j = ki' j) → cnt ki i = cnt ki' i
  | 0, _ => rfl
  | i + 1, h => by
    unfold cnt
    rw [cnt_congr i (fun j hj => h j (by omega)), h i (Nat.lt_succ_self _)]
theorem ahd_congr {ki ki' : Nat → Int} : ∀ (i : Nat), (∀ j, j < i → ki j = ki' j) → ahd ki i = ahd ki' i
  | 0, _ => rfl
  | i + 1, h => by
    unfold ahd
    rw [ahd_congr i (fun j hj => h j (by omega)), cnt_congr (i + 1) h]
theorem allI_congr {n : Nat} {ki ki' : Nat → Int} (h : ∀ j, j < n → ki j = ki' j) {i : Nat} (hi : i < n) : allI n ki i = allI n ki' i := by
  unfold allI
  split
  · rfl
  · rw [cnt_congr (i + 1) (fun j hj => h j (by omega)), cnt_congr (i + 2) (fun j hj => h j (by omega)), ahd_congr (i + 1) (fun j hj => h j (by omega)), h (i + 1) (by omega)]
theorem canT_of (n : Nat) (p : Nat → Pr) (ns : Nat) (l : Nat → Sp) (m : Int) : (canT n p ns l m).Of n p ns l m := by
  refine ⟨rfl, rfl, rfl, rfl, rfl, ?_, fun k hk => ?_⟩
  · simp only [canT]
    have := tab_of (startsL (fun i => (p i).jo) n) 0
    conv => rhs; rw [← this]
    simp [tab]
  · simp only [canT]
    refine allI_congr (fun j hj => ?_) hk
    simp only [Tx.ki, Tx.q, Int.toNat_natCast]
/-- Two paragraphs alike as far as clusters go. -/
structure TEq (t u : Tx) : Prop where
  n : t.n = u.n
  p : t.p = u.p
  ns : t.ns = u.ns
  l : t.l = u.l
  K : t.K = u.K
  s : ∀ k, k < t.K → t.s k = u.s k
  al : ∀ k, k < t.K → t.al k = u.al k
section
variable {t u : Tx} (h : TEq t u)
include h
theorem TEq.q {k : Nat} (hk : k < t.K) : t.q k = u.q k := by unfold Tx.q; rw [h.s k hk]
theorem TEq.to {k : Nat} (hk : k < t.K) : t.to k = u.to k := by
  unfold Tx.to toI
  rw [← h.n, ← h.K]
  by_cases h1 : k + 1 < t.K
  · rw [if_pos h1, if_pos h1, h.s _ h1]
  · rw [if_neg h1, if_neg h1]
theorem TEq.ki {k : Nat} (hk : k < t.K) : t.ki k = u.ki k := by unfold Tx.ki; rw [h.q hk, h.p]
theorem TEq.laid {k : Nat} (hk : k < t.K) : t.laid k ↔ u.laid k := by
  unfold Tx.laid Tx.kept
  rw [h.ki hk, h.to hk, h.p, h.s k hk]
theorem TEq.spn {k : Nat} (hk : k < t.K) : t.spn k = u.spn k := by unfold Tx.spn; rw [h.q hk, h.l, h.ns]
theorem TEq.endR {a b : Nat} (hb : b < t.K) : t.endR a b = u.endR a b := by
  unfold Tx.endR
  have e : (∃ k, a ≤ k ∧ k < b ∧ t.ki k = 11) ↔ ∃ k, a ≤ k ∧ k < b ∧ u.ki k = 11 := by
    constructor
    · rintro ⟨k, h1, h2, h3⟩
      exact ⟨k, h1, h2, by rw [← h.ki (by omega)]; exact h3⟩
    · rintro ⟨k, h1, h2, h3⟩
      exact ⟨k, h1, h2, by rw [h.ki (by omega)]; exact h3⟩
  by_cases h1 : ∃ k, a ≤ k ∧ k < b ∧ t.ki k = 11
  · rw [if_pos h1, if_pos (e.1 h1)]
  · rw [if_neg h1, if_neg (fun h2 => h1 (e.2 h2)), h.al _ (by omega)]
theorem TEq.sing (hm : colB t.m = colB u.m) {k : Nat} (hk : k < t.K) : t.sing k = u.sing k := by
  unfold Tx.sing
  rw [h.q hk, h.to hk, h.spn hk, h.s k hk, h.p, h.l, h.ns]
  unfold singI wayI reachI wayI
  rw [hm]
theorem TEq.run (hm : colB t.m = colB u.m) : ∀ (k : Nat), k ≤ t.K → mrun t k = mrun u k
  | 0, _ => rfl
  | k + 1, hk => by
    have ih := TEq.run hm k (by omega)
    have e1 : mrun t (k + 1) = mstep t (mrun t k) k := rfl
    have e2 : mrun u (k + 1) = mstep u (mrun u k) k := rfl
    rw [e1, e2, ih]
    unfold mstep
    by_cases h1 : t.laid k
    · rw [if_pos h1, if_pos ((h.laid hk).1 h1), h.sing hm hk, h.spn hk, h.endR hk]
    · rw [if_neg h1, if_neg (fun h2 => h1 ((h.laid hk).2 h2))]
end
theorem Tx.Of.eq {t u : Tx} {n : Nat} {p : Nat → Pr} {ns : Nat} {l : Nat → Sp} {m m' : Int} (ht : t.Of n p ns l m) (hu : u.Of n p ns l m') : TEq t u := by
  have e := ht.es.trans hu.es.symm
  have hK : t.K = u.K := by
    have := congrArg List.length e
    rwa [tab_len, tab_len] at this
  have hs : ∀ k, k < t.K → t.s k = u.s k := by
    rw [← hK] at e
    exact tab_inj e
  have hp := ht.ep.trans hu.ep.symm
  refine ⟨ht.en.trans hu.en.symm, hp, ht.ens.trans hu.ens.symm, ht.el.trans hu.el.symm, hK, hs, fun k hk => ?_⟩
  rw [ht.eal k hk, hu.eal k (by omega), ← hK]
  refine allI_congr (fun j hj => ?_) hk
  unfold Tx.ki Tx.q
  rw [hs j hj, hp]
theorem items_can {n : Nat} {p : Nat → Pr} {ns : Nat} {l : Nat → Sp} {m m' : Int} (hm : colB m = colB m') {cnt : Nat} {g : Nat → It} (h : itemsF n p ns l m cnt g) : cnt = (mrun (canT n p ns l m') (canT n p ns l m').K).m ∧ g = mfin (mrun (canT n p ns l m') (canT n p ns l m').K) := by
  obtain ⟨t, ht, h1, h2⟩ := h
  have hu := canT_of n p ns l m'
  have e := ht.eq hu
  have hm' : colB t.m = colB (canT n p ns l m').m := by rw [ht.em, hu.em, hm]
  have := e.run hm' t.K (Nat.le_refl _)
  rw [h1, h2, this, e.K]
  exact ⟨rfl, rfl⟩
/-! ### In rows, and in columns -/
theorem sing_row (t : Tx) (hm : colB t.m = false) (k : Nat) : (t.sing k).gr = false ∧ (t.sing k).wy = 0 := by
  unfold Tx.sing singI
  rw [hm, if_neg (fun h => by cases h.2)]
  refine ⟨rfl, ?_⟩
  show wayI _ _ _ _ = 0
  unfold wayI
  rw [hm, if_pos (.inl rfl)]
theorem mrun_row (t : Tx) (hm : colB t.m = false) (k : Nat) : ∀ j, j < (mrun t k).m → ((mrun t k).g j).gr = false ∧ ((mrun t k).g j).wy = 0 := by
  induction k with
  | zero => intro j hj; exact absurd hj (Nat.not_lt_zero _)
  | succ k ih =>
    have e1 : mrun t (k + 1) = mstep t (mrun t k) k := rfl
    rw [e1]
    unfold mstep
    have hs := sing_row t hm k
    split
    · unfold mput
      split
      · intro j hj; exact hs
      · split
        · rename_i h; rw [hs.1] at h; cases h.1
        · intro j hj
          dsimp only at hj ⊢
          by_cases h1 : j = (mrun t k).m
          · rw [if_pos h1]; exact hs
          · rw [if_neg h1]
            have := ih j (by omega)
            by_cases h2 : j + 1 = (mrun t k).m
            · rw [if_pos h2]; exact this
            · rw [if_neg h2]; exact this
    · exact ih
theorem reach_pos (st : Int) (fo wi : Bool) (size p m : Int) : 1 ≤ reachI st fo wi size p m := by
  unfold reachI
  split <;> omega
/-- What a cluster is in rows, and in columns. -/
theorem sing_cols (t u : Tx) (h : TEq t u) (ht : colB t.m = false) (hu : colB u.m = true) {k : Nat} (hk : k < t.K) : (t.sing k).fr = (u.sing k).fr ∧ (t.sing k).to = (u.sing k).to ∧ (t.sing k).rb = (u.sing k).rb ∧ (t.sing k).en = (u.sing k).en ∧ ((u.sing k).gr = false → (u.sing k).rc ≤ (t.sing k).rc) := by
  unfold Tx.sing
  rw [h.q hk, h.to hk, h.spn hk, h.s k hk, h.p, h.l, h.ns]
  unfold singI
  rw [ht, hu, if_neg (fun h => by cases h.2)]
  generalize styS u.l u.ns (u.q k) = st
  by_cases hc : st.co = true ∧ true = true
  · rw [if_pos hc]
    exact ⟨rfl, rfl, rfl, rfl, fun h => by cases h⟩
  · rw [if_neg hc]
    refine ⟨rfl, rfl, rfl, rfl, fun _ => ?_⟩
    dsimp only
    unfold reachI
    rw [ht, hu]
    split
    · rename_i h1
      rw [if_pos ⟨h1.1, .inl rfl⟩]
      exact Int.le_refl _
    · split <;> omega
/-- How rows and columns stand to one another. -/
structure RC (S Z : MS) : Prop where
  le : Z.m ≤ S.m
  zero : Z.m = 0 → S.m = 0
  la : S.la = Z.la
  sp : S.sp = Z.sp
  all : (∀ j, j < Z.m → (Z.g j).gr = false) → S.m = Z.m ∧ ∀ j, j < Z.m → (S.g j).fr = (Z.g j).fr ∧ (S.g j).rb = (Z.g j).rb ∧ (S.g j).en = (Z.g j).en ∧ (Z.g j).rc ≤ (S.g j).rc
theorem mrun_cols (t u : Tx) (h : TEq t u) (ht : colB t.m = false) (hu : colB u.m = true) : ∀ k, k ≤ t.K → RC (mrun t k) (mrun u k)
  | 0, _ => ⟨Nat.le_refl _, fun _ => rfl, rfl, rfl, fun _ => ⟨rfl, fun j hj => absurd hj (Nat.not_lt_zero _)⟩⟩
  | k + 1, hk => by
    have ih := mrun_cols t u h ht hu k (by omega)
    have e1 : mrun t (k + 1) = mstep t (mrun t k) k := rfl
    have e2 : mrun u (k + 1) = mstep u (mrun u k) k := rfl
    rw [e1, e2]
    unfold mstep
    by_cases h1 : t.laid k
    case neg =>
      rw [if_neg h1, if_neg (fun h2 => h1 ((h.laid hk).2 h2))]
      exact ih
    rw [if_pos h1, if_pos ((h.laid hk).1 h1)]
    have hs := sing_cols t u h ht hu hk
    have hr := (sing_row t ht k).1
    rw [h.spn hk, h.endR hk, ih.la]
    generalize mrun t k = S at ih
    generalize mrun u k = Z at ih
    generalize t.sing k = x at hs hr
    generalize u.sing k = y at hs
    generalize u.endR Z.la.toNat k = E
    generalize u.spn k = sp
    unfold mput
    by_cases hz : Z.m = 0
    · have hz2 := ih.zero hz
      rw [if_pos hz, if_pos hz2]
      refine ⟨Nat.le_refl _, fun h => (by cases h), rfl, rfl, fun hg => ⟨rfl, fun j hj => ?_⟩⟩
      exact ⟨hs.1, hs.2.2.1, hs.2.2.2.1, hs.2.2.2.2 (hg j hj)⟩
    · have hle := ih.le
      have hs0 : S.m ≠ 0 := by omega
      rw [if_neg hz, if_neg hs0, if_neg (c := x.gr = true ∧ _) (fun h => by rw [hr] at h; cases h.1)]
      split
      · rename_i hg
        refine ⟨by dsimp only; omega, fun h => absurd h hz, rfl, rfl, fun hg2 => ?_⟩
        have := hg2 (Z.m - 1) (by dsimp only; omega)
        dsimp only at this
        rw [if_pos (by omega)] at this
        dsimp only at this
        rw [hg.2.1] at this
        cases this
      · refine ⟨by dsimp only; omega, fun h => (by cases h), rfl, rfl, fun hg => ?_⟩
        dsimp only at hg ⊢
        have hgo : ∀ j, j < Z.m → (Z.g j).gr = false := fun j hj => by
          have := hg j (by omega)
          rw [if_neg (by omega)] at this
          by_cases h2 : j + 1 = Z.m
          · rw [if_pos h2] at this; exact this
          · rw [if_neg h2] at this; exact this
        have hgn : y.gr = false := by
          have := hg Z.m (by omega)
          rw [if_pos rfl] at this
          exact this
        obtain ⟨hm, hall⟩ := ih.all hgo
        refine ⟨by rw [hm], fun j hj => ?_⟩
        rw [hm]
        by_cases hj1 : j = Z.m
        · rw [if_pos hj1, if_pos hj1]
          exact ⟨hs.1, hs.2.2.1, hs.2.2.2.1, hs.2.2.2.2 hgn⟩
        · have a := hall j (by omega)
          rw [if_neg hj1, if_neg hj1]
          by_cases hj2 : j + 1 = Z.m
          · rw [if_pos hj2, if_pos hj2]
            refine ⟨a.1, a.2.1, ?_, a.2.2.2⟩
            dsimp only
            unfold enI
            rw [a.2.1, hs.2.2.1]
          · rw [if_neg hj2, if_neg hj2]
            exact a
theorem mfin_facts (S : MS) (j : Nat) : (mfin S j).fr = (S.g j).fr ∧ (mfin S j).to = (S.g j).to ∧ (mfin S j).wy = (S.g j).wy ∧ (mfin S j).rc = (S.g j).rc ∧ (mfin S j).rb = (S.g j).rb ∧ (mfin S j).gr = (S.g j).gr ∧ (mfin S j).en = if j + 1 = S.m then 2 else (S.g j).en := by
  unfold mfin
  by_cases h : j + 1 = S.m
  · rw [if_pos h, if_pos h]; exact ⟨rfl, rfl, rfl, rfl, rfl, rfl, rfl⟩
  · rw [if_neg h, if_neg h]; exact ⟨rfl, rfl, rfl, rfl, rfl, rfl, rfl⟩
/-- The law, in plain words: rows' items, and columns'. -/
theorem modes_law {n : Nat} {p : Nat → Pr} {ns : Nat} {l : Nat → Sp} {ca cb cc cd : Nat} {a b c d : Nat → It} (ha : itemsF n p ns l 0 ca a) (hb : itemsF n p ns l 3 cb b) (hc : itemsF n p ns l 1 cc c) (hd : itemsF n p ns l 2 cd d) :
    (cb = ca ∧ b = a) ∧ (cd = cc ∧ d = c) ∧ cc ≤ ca ∧ (∀ j, j < ca → (a j).gr = false ∧ (a j).wy = 0) ∧
      ((∀ j, j < cc → (c j).gr = false) → ca = cc ∧ ∀ j, j < cc → (a j).fr = (c j).fr ∧ (c j).rc ≤ (a j).rc ∧ (a j).en = (c j).en) := by
  obtain ⟨ha1, ha2⟩ := items_can (m := 0) (m' := 0) rfl ha
  obtain ⟨hb1, hb2⟩ := items_can (m := 3) (m' := 0) rfl hb
  obtain ⟨hc1, hc2⟩ := items_can (m := 1) (m' := 1) rfl hc
  obtain ⟨hd1, hd2⟩ := items_can (m := 2) (m' := 1) rfl hd
  have hT := (canT_of n p ns l 0).eq (canT_of n p ns l 1)
  have hRC := mrun_cols _ _ hT rfl rfl _ (Nat.le_refl _)
  have hrow := mrun_row (canT n p ns l 0) rfl (canT n p ns l 0).K
  rw [← hT.K] at hc1 hc2 hd1 hd2
  generalize mrun (canT n p ns l 0) (canT n p ns l 0).K = S at *
  generalize mrun (canT n p ns l 1) (canT n p ns l 0).K = Z at *
  refine ⟨⟨by rw [hb1, ha1], by rw [hb2, ha2]⟩, ⟨by rw [hd1, hc1], by rw [hd2, hc2]⟩, by rw [hc1, ha1]; exact hRC.le, fun j hj => ?_, fun hg => ?_⟩
  · rw [ha1] at hj
    obtain ⟨f1, f2, f3, f4, f5, f6, f7⟩ := mfin_facts S j
    rw [ha2, f6, f3]
    exact hrow j hj
  · obtain ⟨h1, h2⟩ := hRC.all (fun j hj => by
      have := hg j (by omega)
      rw [hc2, (mfin_facts Z j).2.2.2.2.2.1] at this
      exact this)
    refine ⟨by rw [ha1, hc1, h1], fun j hj => ?_⟩
    have a := h2 j (by omega)
    obtain ⟨f1, f2, f3, f4, f5, f6, f7⟩ := mfin_facts S j
    obtain ⟨z1, z2, z3, z4, z5, z6, z7⟩ := mfin_facts Z j
    rw [ha2, hc2, f1, z1, f4, z4, f7, z7, h1]
    refine ⟨a.1, a.2.2.2, ?_⟩
    rw [a.2.2.1]
end Go.Proofs.Ytngagepodbcohaa

/- The items of a paragraph, computed. -/
namespace Go.Proofs.Ytngagepodbcohaa
open Go Vx
set_option maxRecDepth 100000
def atC (g : Nat → Sp) (i : Int) : Nat → Nat → Option Nat
  | _, 0 => none
  | k, n + 1 => if (g k).fr ≤ i ∧ i < (g k).to then some k else atC g i (k + 1) n
theorem atC_eq (g : Nat → Sp) (i : Int) : ∀ (n k : Nat), atF g i k n = atC g i k n
  | 0, _ => rfl
  | n + 1, k => by
    unfold atF atC
    have e : inSp (g k) i ↔ (g k).fr ≤ i ∧ i < (g k).to := by unfold inSp; constructor <;> intro h <;> exact ⟨by omega, by omega⟩
    by_cases h : (g k).fr ≤ i ∧ i < (g k).to
    · rw [if_pos h, if_pos (e.2 h)]
    · rw [if_neg h, if_neg (fun h2 => h (e.1 h2)), atC_eq g i n (k + 1)]
def styC (g : Nat → Sp) (n : Nat) (i : Int) : Sp := match atC g i 0 n with | none => noSp | some k => bareS (g k)
theorem styC_eq (g : Nat → Sp) (n : Nat) (i : Int) : styS g n i = styC g n i := by unfold styS styC; rw [atC_eq]; rfl
def spnC (t : Tx) (k : Nat) : Int := match atC t.l (t.q k : Int) 0 t.ns with | none => -1 | some j => j
theorem spnC_eq (t : Tx) (k : Nat) : t.spn k = spnC t k := by unfold Tx.spn spnC; rw [atC_eq]; rfl
def laidB (t : Tx) (k : Nat) : Bool := ((List.range (t.to k).toNat).any fun i => decide (t.s k ≤ (i : Int)) && !(remB (t.p i).cl)) && !(decide (t.ki k = 11))
theorem laidB_iff (t : Tx) (k : Nat) : t.laid k ↔ laidB t k = true := by
  unfold Tx.laid Tx.kept laidB
  simp only [Bool.and_eq_true, List.any_eq_true, List.mem_range, decide_eq_true_eq, Bool.not_eq_true', decide_eq_false_iff_not]
  constructor
  · rintro ⟨⟨i, h1, h2, h3⟩, h4⟩
    exact ⟨⟨i, by omega, h1, h3⟩, h4⟩
  · rintro ⟨⟨i, h1, h2, h3⟩, h4⟩
    exact ⟨⟨i, h2, by omega, h3⟩, h4⟩
def endC (t : Tx) (a b : Nat) : Int := if ((List.range b).any fun k => decide (a ≤ k) && decide (t.ki k = 11)) = true then 2 else t.al (b - 1)
theorem endC_eq (t : Tx) (a b : Nat) : t.endR a b = endC t a b := by
  unfold Tx.endR endC
  have e : (∃ k, a ≤ k ∧ k < b ∧ t.ki k = 11) ↔ ((List.range b).any fun k => decide (a ≤ k) && decide (t.ki k = 11)) = true := by
    simp only [Bool.and_eq_true, List.any_eq_true, List.mem_range, decide_eq_true_eq]
    constructor
    · rintro ⟨k, h1, h2, h3⟩; exact ⟨k, h2, h1, h3⟩
    · rintro ⟨k, h2, h1, h3⟩; exact ⟨k, h1, h2, h3⟩
  by_cases h : ∃ k, a ≤ k ∧ k < b ∧ t.ki k = 11
  · rw [if_pos h, if_pos (e.1 h)]
  · rw [if_neg h, if_neg (fun h2 => h (e.2 h2))]
noncomputable def singC (t : Tx) (k : Nat) : It := singI (t.p (t.q k)) (styC t.l t.ns (t.q k)) (t.s k) (t.to k) t.m (spnC t k)
theorem singC_eq (t : Tx) (k : Nat) : t.sing k = singC t k := by unfold Tx.sing singC; rw [styC_eq, spnC_eq]
noncomputable def stepC (t : Tx) (S : MS) (k : Nat) : MS := if laidB t k = true then mput S (singC t k) k (spnC t k) (endC t S.la.toNat k) else S
noncomputable def runC (t : Tx) : Nat → MS
  | 0 => ⟨0, fun _ => noIt, -1, -1⟩
  | k + 1 => stepC t (runC t k) k
theorem runC_eq (t : Tx) : ∀ k, mrun t k = runC t k
  | 0 => rfl
  | k + 1 => by
    have e1 : mrun t (k + 1) = mstep t (mrun t k) k := rfl
    have e2 : runC t (k + 1) = stepC t (runC t k) k := rfl
    rw [e1, e2, runC_eq t k]
    unfold mstep stepC
    by_cases h : t.laid k
    · rw [if_pos h, if_pos ((laidB_iff t k).1 h), singC_eq, spnC_eq, endC_eq]
    · rw [if_neg h, if_neg (fun h2 => h ((laidB_iff t k).2 h2))]
/-! ### The live question -/
def PL : List Pr := [⟨0, 0, 0, 0, false, false, 0, 0, false⟩, ⟨0, 0, 4, 10, false, false, 0, 0, false⟩, ⟨0, 0, 0, 8, false, false, 0, 0, false⟩, ⟨0, 1, 0, 2, true, false, 0, 0, false⟩, ⟨9, 0, 0, 0, false, false, 0, 0, false⟩, ⟨0, 0, 0, 11, false, false, 0, 0, false⟩]
def PP (i : Nat) : Pr := PL.getD i ⟨0, 0, 0, 0, false, false, 0, 0, false⟩
def LA (_ : Nat) : Sp := ⟨0, 2, 0, false, ⟨#[97]⟩, 0⟩
theorem al_K (ns : Nat) (l : Nat → Sp) (m : Int) : (canT 6 PP ns l m).K = 5 := by
  show (startsL (fun i => (PP i).jo) 6).length = 5
  kernel_rfl
theorem al_cols {cnt : Nat} {g : Nat → It} (h : itemsF 6 PP 1 LA 1 cnt g) : cnt = 3 ∧ (g 0).to = 2 ∧ (g 0).rb = 0 ∧ (g 0).wy = 1 ∧ (g 2).rc = 1 ∧ (g 1).en = 1 ∧ (g 2).en = 2 := by
  obtain ⟨h1, h2⟩ := items_can (m := 1) (m' := 1) rfl h
  rw [al_K, runC_eq] at h1 h2
  subst h1 h2
  refine ⟨by kernel_rfl, by kernel_rfl, by kernel_rfl, by kernel_rfl, by kernel_rfl, by kernel_rfl, by kernel_rfl⟩
theorem al_rows {cnt : Nat} {g : Nat → It} {l : Nat → Sp} (h : itemsF 6 PP 0 l 0 cnt g) : cnt = 3 ∧ (g 2).rc = 2 := by
  obtain ⟨h1, h2⟩ := items_can (m := 0) (m' := 0) rfl h
  rw [al_K, runC_eq] at h1 h2
  subst h1 h2
  refine ⟨by kernel_rfl, by kernel_rfl⟩
end Go.Proofs.Ytngagepodbcohaa

/- Which paragraphs are asked about; a question whose answer is fixed. -/
namespace Go.Proofs.Ytngagepodbcohaa
open Go Vx
set_option maxRecDepth 100000
def inW (s : Sp) : Prop := (-9223372036854775808 ≤ s.fr ∧ s.fr ≤ 9223372036854775807) ∧ (-9223372036854775808 ≤ s.to ∧ s.to ≤ 9223372036854775807) ∧ (0 ≤ s.sc ∧ s.sc ≤ 18446744073709551615) ∧ s.ru.size ≤ 140737488355328
def fitsL (g : Nat → Sp) (n : Nat) (z : Int) : Prop := n ≤ 60 ∧ 0 ≤ z ∧ z ≤ 1048576 ∧ (∀ j, j < n → (g j).ru.size ≤ 200) ∧ RightL g n z
theorem inW.sz {s : Sp} (h : inW s) (hr : s.ru.size ≤ 200) : inSz s := ⟨h.1, h.2.1, h.2.2.1, by omega⟩
theorem f11_ok (n : Nat) (hn : n ≤ 10000000000000) (g : Nat → Sp) (hs : ∀ j, j < n → inW (g j)) (z : Int) (R : Bool) (hR : R = true ↔ fitsL g n z) : FSpec Try.prog 11 [.rows 6 n (spc g), .int .i64 z] [] (fun r H' => r = .bool R ∧ H' = []) := by
  obtain ⟨Q, hQ⟩ : ∃ Q : AV → Hp → Prop, Q = (fun r H' => r = .bool R ∧ H' = []) := ⟨_, rfl⟩
  rw [← hQ]
  have no : ¬ fitsL g n z → Q (.bool false) [] := fun h => by
    rw [hQ]
    refine ⟨?_, rfl⟩
    cases R
    · rfl
    · exact absurd (hR.1 rfl) h
  refine FSpec.of (fn := Try.f11) Try.func11 rfl rfl (by simp) fun C hC => ?_
  obtain ⟨iadd, isub, imul, iquo, irem, iband, ibor, ibxor, ibandn, ishl, ishr, iconv, ieq, ine, ilt, ile, igt, ige, bbeq, bbne, bnot, bband, sseq, ssne, sscat, sssub, sslen, sssz, ssbyte, toN, ofN, addN, subN, eqN, ltB, leN, imx, imn, inb, leb, sslt, ltN, fit, ne0, ge0, ssfit, minN, inR, bcol, bstr, isBy, hS⟩ := names
  refine V.goF (by first | exact trivial | assumption) Try.func11 tl_ok mixed hS.ops [] 400 ?_
  intro VV VA W hVV hVA hW
  conv => cbv
  cases h1 : igt (ofN n) 60
  case true =>
    conv => cbv
    simp (disch := first | omega | (simp only [hS.glob, wraps, plain, Int.ofNat_eq_natCast]; omega)) only [hS.glob, wraps, plain, Int.ofNat_eq_natCast] at h1
    exact no (fun h => by have := h.1; omega)
  conv => cbv
  simp (disch := first | omega | (simp only [hS.glob, wraps, plain, Int.ofNat_eq_natCast]; omega)) only [hS.glob, wraps, plain, Int.ofNat_eq_natCast] at h1
  cases h2 : ilt z 0
  case true =>
    conv => cbv
    simp (disch := first | omega | (simp only [hS.glob, wraps, plain, Int.ofNat_eq_natCast]; omega)) only [hS.glob, wraps, plain, Int.ofNat_eq_natCast] at h2
    exact no (fun h => by have := h.2.1; omega)
  conv => cbv
  simp (disch := first | omega | (simp only [hS.glob, wraps, plain, Int.ofNat_eq_natCast]; omega)) only [hS.glob, wraps, plain, Int.ofNat_eq_natCast] at h2
  cases h3 : igt z 1048576
  case true =>
    conv => cbv
    simp (disch := first | omega | (simp only [hS.glob, wraps, plain, Int.ofNat_eq_natCast]; omega)) only [hS.glob, wraps, plain, Int.ofNat_eq_natCast] at h3
    exact no (fun h => by have := h.2.2.1; omega)
  conv => cbv
  simp (disch := first | omega | (simp only [hS.glob, wraps, plain, Int.ofNat_eq_natCast]; omega)) only [hS.glob, wraps, plain, Int.ofNat_eq_natCast] at h3
  rw [hVV]
  clear hVV hVA VV VA hW W
  refine V.to (s' := [(5, .int .i64 (ofN 0)), (0, .rows 6 n (spc g)), (1, .int .i64 z)]) (H' := []) ?_ (by (repeat' first | exact trivial | rfl | (refine And.intro ?_ ?_) | (refine sti ?_; (first | rfl | omega | (simp (disch := omega) only [hS.glob, wraps, plain, Int.ofNat_eq_natCast]; first | done | rfl | omega | (simp; done) | (simp; omega)) | (simp (disch := omega) only [hS.glob, wraps, plain, Int.ofNat_eq_natCast, Vx.toN]; omega))) | (refine slq ?_ ?_ ?_ <;> (first | rfl | omega | (simp (disch := omega) only [hS.glob, wraps, plain, Int.ofNat_eq_natCast]; first | done | rfl | omega | (simp; done) | (simp; omega)) | (simp (disch := omega) only [hS.glob, wraps, plain, Int.ofNat_eq_natCast, Vx.toN]; omega))) | (refine ptq ?_ ?_ ?_ <;> (first | rfl | omega | (simp (disch := omega) only [hS.glob, wraps, plain, Int.ofNat_eq_natCast]; first | done | rfl | omega | (simp; done) | (simp; omega)) | (simp (disch := omega) only [hS.glob, wraps, plain, Int.ofNat_eq_natCast, Vx.toN]; omega))) | (refine blq ?_; (first | rfl | omega | (simp (disch := omega) only [hS.glob, wraps, plain, Int.ofNat_eq_natCast]; first | done | rfl | omega | (simp; done) | (simp; omega)) | (simp (disch := omega) only [hS.glob, wraps, plain, Int.ofNat_eq_natCast, Vx.toN]; omega))))) rfl trivial (by rw [hC]; simp)
  refine V.loop (γ := Nat) (fun i => i ≤ n ∧ ∀ j, j < i → (g j).ru.size ≤ 200) (fun i => [(5, .int .i64 (ofN i)), (0, .rows 6 n (spc g)), (1, .int .i64 z)]) (fun _ => []) (fun i => n - i) ?_ 0 ⟨Nat.zero_le _, fun j hj => by omega⟩
  rintro i ⟨hi, hu⟩ hback
  refine V.goF (by first | exact trivial | assumption) Try.func11 tl_ok mixed hS.ops [] 400 ?_
  intro VV VA W hVV hVA hW
  conv => cbv
  cases h4 : ilt (ofN i) (ofN n)
  · conv => cbv
    simp (disch := first | omega | (simp only [hS.glob, wraps, plain, Int.ofNat_eq_natCast]; omega)) only [hS.glob, wraps, plain, Int.ofNat_eq_natCast] at h4
    obtain rfl : i = n := by omega
    rw [hVV]
    clear hVV hVA VV VA hW W
    obtain ⟨R1, hR1⟩ := bool_of (RightL g i z)
    refine V.call rfl rfl rfl rfl rfl Try.func24 rfl (by decide) [] (by simp) (by simp) (by (first | rfl | ((conv => cbv); (repeat' apply And.intro) <;> first | rfl | trivial | (first | rfl | omega | (simp (disch := omega) only [hS.glob, wraps, plain, Int.ofNat_eq_natCast]; first | done | rfl | omega | (simp; done) | (simp; omega)) | (simp (disch := omega) only [hS.glob, wraps, plain, Int.ofNat_eq_natCast, Vx.toN]; omega))))) rfl (f24_ok i (by omega) g (fun j hj => (hs j hj).sz (hu j hj)) z R1 hR1) ?_
    rintro r Hc ⟨rfl, rfl⟩
    refine V.goF (by first | exact trivial | assumption) Try.func11 tl_ok mixed hS.ops [] 400 ?_
    intro VV VA W hVV hVA hW
    conv => cbv
    rw [hQ]
    refine ⟨?_, rfl⟩
    congr 1
    refine Bool.eq_iff_iff.2 ?_
    rw [hR1, hR]
    exact ⟨fun h => ⟨by omega, h2, h3, hu, h⟩, fun h => h.2.2.2.2⟩
  · conv => cbv
    simp (disch := first | omega | (simp only [hS.glob, wraps, plain, Int.ofNat_eq_natCast]; omega)) only [hS.glob, wraps, plain, Int.ofNat_eq_natCast] at h4
    repeat (refine ⟨by first | (rw [hW]; show ordOk _ _ _ = true; kernel_rfl) | (first | trivial | omega | (simp (disch := omega) only [hS.glob, wraps, plain, Int.ofNat_eq_natCast]; first | done | omega | trivial | (simp; done) | (simp; omega) | (constructor <;> omega)) | (simp (disch := omega) only [hS.glob, wraps, plain, Int.ofNat_eq_natCast, Vx.toN]; omega)), ?_⟩)
    simp only [hS.tidy]
    have hx : sslen (g i).ru = ((g i).ru.size : Int) := by simp only [hS.glob, plain]
    cases h5 : igt (sslen (g i).ru) 200
    · conv => cbv
      simp (disch := first | omega | (simp only [hS.glob, wraps, plain, Int.ofNat_eq_natCast]; omega)) only [hS.glob, wraps, plain, Int.ofNat_eq_natCast] at h5
      rw [hVV]
      clear hVV hVA VV VA hW W
      refine V.to (hback (i + 1) ⟨by omega, fun j hj => ?_⟩ (by omega)) (by (repeat' first | exact trivial | rfl | (refine And.intro ?_ ?_) | (refine sti ?_; (first | rfl | omega | (simp (disch := omega) only [hS.glob, wraps, plain, Int.ofNat_eq_natCast]; first | done | rfl | omega | (simp; done) | (simp; omega)) | (simp (disch := omega) only [hS.glob, wraps, plain, Int.ofNat_eq_natCast, Vx.toN]; omega))) | (refine slq ?_ ?_ ?_ <;> (first | rfl | omega | (simp (disch := omega) only [hS.glob, wraps, plain, Int.ofNat_eq_natCast]; first | done | rfl | omega | (simp; done) | (simp; omega)) | (simp (disch := omega) only [hS.glob, wraps, plain, Int.ofNat_eq_natCast, Vx.toN]; omega))) | (refine ptq ?_ ?_ ?_ <;> (first | rfl | omega | (simp (disch := omega) only [hS.glob, wraps, plain, Int.ofNat_eq_natCast]; first | done | rfl | omega | (simp; done) | (simp; omega)) | (simp (disch := omega) only [hS.glob, wraps, plain, Int.ofNat_eq_natCast, Vx.toN]; omega))) | (refine blq ?_; (first | rfl | omega | (simp (disch := omega) only [hS.glob, wraps, plain, Int.ofNat_eq_natCast]; first | done | rfl | omega | (simp; done) | (simp; omega)) | (simp (disch := omega) only [hS.glob, wraps, plain, Int.ofNat_eq_natCast, Vx.toN]; omega))))) rfl trivial (by rw [hC]; simp)
      rcases Nat.lt_or_ge j i with h6 | h6
      · exact hu j h6
      · obtain rfl : j = i := by omega
        omega
    · conv => cbv
      simp (disch := first | omega | (simp only [hS.glob, wraps, plain, Int.ofNat_eq_natCast]; omega)) only [hS.glob, wraps, plain, Int.ofNat_eq_natCast] at h5
      exact no (fun h => by have := h.2.2.2.1 i (by omega); omega)
def fitsT (n ns : Nat) (l : Nat → Sp) : Prop := fitsL l ns n ∧ n ≤ 80
theorem f5_ok (n : Nat) (hn : n ≤ 10000000000000) (p : Nat → Pr) (ns : Nat) (hns : ns ≤ 10000000000000) (l : Nat → Sp) (hs : ∀ j, j < ns → inW (l j)) (R : Bool) (hR : R = true ↔ fitsT n ns l) : FSpec Try.prog 5 [.agg [.rows 9 n (prc p), .rows 6 ns (spc l)]] [] (fun r H' => r = .bool R ∧ H' = []) := by
  refine pure_of rfl ?_
  obtain ⟨B, hB⟩ := bool_of (fitsL l ns n)
  refine FSpec.of (fn := Try.f5) Try.func5 rfl rfl (by simp) fun C hC => ?_
  obtain ⟨iadd, isub, imul, iquo, irem, iband, ibor, ibxor, ibandn, ishl, ishr, iconv, ieq, ine, ilt, ile, igt, ige, bbeq, bbne, bnot, bband, sseq, ssne, sscat, sssub, sslen, sssz, ssbyte, toN, ofN, addN, subN, eqN, ltB, leN, imx, imn, inb, leb, sslt, ltN, fit, ne0, ge0, ssfit, minN, inR, bcol, bstr, isBy, hS⟩ := names
  refine V.goF (by first | exact trivial | assumption) Try.func5 tl_ok mixed hS.ops [] 400 ?_
  intro VV VA W hVV hVA hW
  conv => cbv
  rw [hVV]
  clear hVV hVA VV VA hW W
  refine V.call rfl rfl rfl rfl rfl Try.func11 rfl (by decide) [] (by simp) (by simp) (by (first | rfl | ((conv => cbv); (repeat' apply And.intro) <;> first | rfl | trivial | (first | rfl | omega | (simp (disch := omega) only [hS.glob, wraps, plain, Int.ofNat_eq_natCast]; first | done | rfl | omega | (simp; done) | (simp; omega)) | (simp (disch := omega) only [hS.glob, wraps, plain, Int.ofNat_eq_natCast, Vx.toN]; omega))))) rfl (f11_ok ns hns l hs (ofN n) B (by simp only [hS.glob]; exact hB)) ?_
  rintro r Hc ⟨rfl, rfl⟩
  refine V.goF (by first | exact trivial | assumption) Try.func5 tl_ok mixed hS.ops [] 400 ?_
  intro VV VA W hVV hVA hW
  conv => cbv
  cases B
  case false =>
    conv => cbv
    congr 1
    cases R
    · rfl
    · have := hB.2 (hR.1 rfl).1; cases this
  conv => cbv
  congr 1
  cases h1 : ile (ofN n) 80
  · simp (disch := first | omega | (simp only [hS.glob, wraps, plain, Int.ofNat_eq_natCast]; omega)) only [hS.glob, wraps, plain, Int.ofNat_eq_natCast] at h1
    cases R
    · rfl
    · have := (hR.1 rfl).2; omega
  · simp (disch := first | omega | (simp only [hS.glob, wraps, plain, Int.ofNat_eq_natCast]; omega)) only [hS.glob, wraps, plain, Int.ofNat_eq_natCast] at h1
    exact (hR.2 ⟨hB.1 rfl, by omega⟩).symm
theorem dec_a : okRu ⟨#[97]⟩ := by
  have hs : (⟨#[97]⟩ : ByteArray).size = 1 := rfl
  have hg : byS ⟨#[97]⟩ 0 = 97 := rfl
  refine ⟨[97], ?_, by simp⟩
  rw [hs]
  unfold decU
  rw [decF]
  rw [if_pos (by decide)]
  have : nextU (1 - 0) (fun j => byS ⟨#[97]⟩ (0 + j)) = some (97, 1) := by
    rw [nextU, if_pos ⟨by decide, by show byS ⟨#[97]⟩ 0 < 128; rw [hg]; decide⟩]
    rfl
  rw [this]
  rfl
theorem al_rightA : RightL LA 1 6 ∧ ∀ j, j < 1 → inSz (LA j) := by
  refine ⟨⟨by decide, fun j hj => ?_, fun j hj => by omega⟩, fun j hj => ?_⟩
  · obtain rfl : j = 0 := by omega
    exact ⟨⟨by decide, by decide, by decide, by decide, .inl rfl, fun h => (by cases h), dec_a⟩, by decide⟩
  · obtain rfl : j = 0 := by omega
    exact ⟨by decide, by decide, by decide, by show (1 : Nat) ≤ _; decide⟩
theorem al_right0 (l : Nat → Sp) : RightL l 0 6 := ⟨by decide, fun j hj => by omega, fun j hj => by omega⟩
def LZ (_ : Nat) : Sp := ⟨0, 9, 0, false, ⟨#[]⟩, 0⟩
theorem al_rightZ : ¬ RightL LZ 1 6 := fun h => by have := (h.one 0 (by decide)).2; revert this; decide
end Go.Proofs.Ytngagepodbcohaa

/- A question whose answer is fixed. -/
namespace Go.Proofs.Ytngagepodbcohaa
open Go Vx
set_option maxRecDepth 100000
theorem sub_nil {sz : Nat} (h : 0 < sz) (f : Nat → List AV) : Sub (.nil .slice) (.rows sz 0 f) := fun _ _ _ hv => rel_nilrows h f hv
theorem f6_ok : FSpec Try.prog 6 [] [] (fun r H' => r = .bool true ∧ H' = []) := by
  refine pure_of rfl ?_
  have h1 := f7_yes 6 (by decide) PP 1 (by decide) LA al_rightA.2 1 ⟨by decide, al_rightA.1, by decide, by decide⟩
  have h2 : FSpec Try.prog 7 [.rows 9 6 (prc PP), .nil .slice, .int .i64 0] [] _ := (f7_yes 6 (by decide) PP 0 (by decide) LA (fun j hj => by omega) 0 ⟨by decide, al_right0 LA, by decide, by decide⟩).sub ⟨Sub.refl _, sub_nil (by decide) _, Sub.refl _, trivial⟩
  have h3 := f7_no 6 (by decide) PP 1 (by decide) LZ (fun j hj => ⟨by unfold LZ; decide, by unfold LZ; decide, by unfold LZ; decide, by unfold LZ; decide⟩) 0 (fun h => al_rightZ h.2.1)
  obtain ⟨P, hP⟩ : ∃ P, P = prc PP := ⟨_, rfl⟩
  obtain ⟨A, hA⟩ : ∃ A, A = spc LA := ⟨_, rfl⟩
  obtain ⟨Z, hZ⟩ : ∃ Z, Z = spc LZ := ⟨_, rfl⟩
  rw [← hP] at h1 h2 h3
  rw [← hA] at h1
  rw [← hZ] at h3
  refine FSpec.of (fn := Try.f6) Try.func6 rfl rfl (by simp) fun C hC => ?_
  obtain ⟨iadd, isub, imul, iquo, irem, iband, ibor, ibxor, ibandn, ishl, ishr, iconv, ieq, ine, ilt, ile, igt, ige, bbeq, bbne, bnot, bband, sseq, ssne, sscat, sssub, sslen, sssz, ssbyte, toN, ofN, addN, subN, eqN, ltB, leN, imx, imn, inb, leb, sslt, ltN, fit, ne0, ge0, ssfit, minN, inR, bcol, bstr, isBy, hS⟩ := names
  refine V.goF (by first | exact trivial | assumption) Try.func6 tl_ok mixed hS.ops [] 13 ?_
  intro VV VA W hVV hVA hW
  conv => cbv
  rw [hVV]
  clear hVV hVA VV VA hW W
  refine V.freeze0 14 0 6 (by rfl) (by rfl) (by rfl) (by first | decide | omega | exact (Nat.succ_pos _)) (by rfl) (by rfl) (by first | exact Nat.le_refl _ | decide | omega | (simp only [Cont.n]; omega)) ?_
  refine V.sub 14 (y := .rows 9 6 P) (Sub.rows fun i hi => ?_) ?_
  · rw [hP]
    rcases (by omega : i = 0 ∨ i = 1 ∨ i = 2 ∨ i = 3 ∨ i = 4 ∨ i = 5) with rfl | rfl | rfl | rfl | rfl | rfl <;> exact Subs.refl _
  refine V.goF (by first | exact trivial | assumption) Try.func6 tl_ok mixed hS.ops [] 7 ?_
  intro VV VA W hVV hVA hW
  conv => cbv
  rw [hVV]
  clear hVV hVA VV VA hW W
  refine V.freeze0 18 1 1 (by rfl) (by rfl) (by rfl) (by first | decide | omega | exact (Nat.succ_pos _)) (by rfl) (by rfl) (by first | exact Nat.le_refl _ | decide | omega | (simp only [Cont.n]; omega)) ?_
  refine V.sub 18 (y := .rows 6 1 A) (Sub.rows fun i hi => ?_) ?_
  · rw [hA]
    obtain rfl : i = 0 := by omega
    exact Subs.refl _
  refine V.call rfl rfl rfl rfl rfl Try.func7 rfl (by decide) [] (by simp) (by simp) (by (first | rfl | ((conv => cbv); (repeat' apply And.intro) <;> first | rfl | trivial | (first | rfl | omega | (simp (disch := omega) only [hS.glob, wraps, plain, Int.ofNat_eq_natCast]; first | done | rfl | omega | (simp; done) | (simp; omega)) | (simp (disch := omega) only [hS.glob, wraps, plain, Int.ofNat_eq_natCast, Vx.toN]; omega))))) rfl h1 ?_
  rintro r Hc ⟨rfl, k1, f1, y1, ⟨⟨g1, rfl, i1⟩, rfl⟩, rfl⟩
  obtain ⟨a0, a1, a2, a3, a4, a5, a6⟩ := al_cols i1
  refine V.goF (by first | exact trivial | assumption) Try.func6 tl_ok mixed hS.ops [] 400 ?_
  intro VV VA W hVV hVA hW
  conv => cbv
  rw [hVV]
  clear hVV hVA VV VA hW W
  refine V.call rfl rfl rfl rfl rfl Try.func7 rfl (by decide) [] (by simp) (by simp) (by (first | rfl | ((conv => cbv); (repeat' apply And.intro) <;> first | rfl | trivial | (first | rfl | omega | (simp (disch := omega) only [hS.glob, wraps, plain, Int.ofNat_eq_natCast]; first | done | rfl | omega | (simp; done) | (simp; omega)) | (simp (disch := omega) only [hS.glob, wraps, plain, Int.ofNat_eq_natCast, Vx.toN]; omega))))) rfl h2 ?_
  rintro r Hc ⟨rfl, k2, f2, y2, ⟨⟨g2, rfl, i2⟩, rfl⟩, rfl⟩
  obtain ⟨b0, b1⟩ := al_rows i2
  subst a0 b0
  refine V.goF (by first | exact trivial | assumption) Try.func6 tl_ok mixed hS.ops [] 14 ?_
  intro VV VA W hVV hVA hW
  conv => cbv
  rw [hVV]
  clear hVV hVA VV VA hW W
  refine V.freeze0 30 2 1 (by rfl) (by rfl) (by rfl) (by first | decide | omega | exact (Nat.succ_pos _)) (by rfl) (by rfl) (by first | exact Nat.le_refl _ | decide | omega | (simp only [Cont.n]; omega)) ?_
  refine V.sub 30 (y := .rows 6 1 Z) (Sub.rows fun i hi => ?_) ?_
  · rw [hZ]
    obtain rfl : i = 0 := by omega
    exact Subs.refl _
  refine V.call rfl rfl rfl rfl rfl Try.func7 rfl (by decide) [] (by simp) (by simp) (by (first | rfl | ((conv => cbv); (repeat' apply And.intro) <;> first | rfl | trivial | (first | rfl | omega | (simp (disch := omega) only [hS.glob, wraps, plain, Int.ofNat_eq_natCast]; first | done | rfl | omega | (simp; done) | (simp; omega)) | (simp (disch := omega) only [hS.glob, wraps, plain, Int.ofNat_eq_natCast, Vx.toN]; omega))))) rfl h3 ?_
  rintro r Hc ⟨rfl, rfl⟩
  refine V.goF (by first | exact trivial | assumption) Try.func6 tl_ok mixed hS.ops [] 400 ?_
  intro VV VA W hVV hVA hW
  conv => cbv
  have z0 : toN 0 = 0 := by simp only [hS.glob]; rfl
  have z1 : toN 1 = 1 := by simp only [hS.glob]; rfl
  have z2 : toN 2 = 2 := by simp only [hS.glob]; rfl
  have E0 : ieq 0 0 = true := by (first | rfl | omega | (simp (disch := omega) only [hS.glob, wraps, plain, Int.ofNat_eq_natCast]; first | done | rfl | omega | (simp; done) | (simp; omega)) | (simp (disch := omega) only [hS.glob, wraps, plain, Int.ofNat_eq_natCast, Vx.toN]; omega))
  have E1 : ieq 1 1 = true := by (first | rfl | omega | (simp (disch := omega) only [hS.glob, wraps, plain, Int.ofNat_eq_natCast]; first | done | rfl | omega | (simp; done) | (simp; omega)) | (simp (disch := omega) only [hS.glob, wraps, plain, Int.ofNat_eq_natCast, Vx.toN]; omega))
  have E2 : ieq 2 2 = true := by (first | rfl | omega | (simp (disch := omega) only [hS.glob, wraps, plain, Int.ofNat_eq_natCast]; first | done | rfl | omega | (simp; done) | (simp; omega)) | (simp (disch := omega) only [hS.glob, wraps, plain, Int.ofNat_eq_natCast, Vx.toN]; omega))
  have E3 : ieq (ofN 3) 3 = true := by (first | rfl | omega | (simp (disch := omega) only [hS.glob, wraps, plain, Int.ofNat_eq_natCast]; first | done | rfl | omega | (simp; done) | (simp; omega)) | (simp (disch := omega) only [hS.glob, wraps, plain, Int.ofNat_eq_natCast, Vx.toN]; omega))
  have E4 : ieq 161 161 = true := by (first | rfl | omega | (simp (disch := omega) only [hS.glob, wraps, plain, Int.ofNat_eq_natCast]; first | done | rfl | omega | (simp; done) | (simp; omega)) | (simp (disch := omega) only [hS.glob, wraps, plain, Int.ofNat_eq_natCast, Vx.toN]; omega))
  repeat (first | (refine ⟨by (first | trivial | omega | (simp (disch := omega) only [hS.glob, wraps, plain, Int.ofNat_eq_natCast]; first | done | omega | trivial | (simp; done) | (simp; omega) | (constructor <;> omega)) | (simp (disch := omega) only [hS.glob, wraps, plain, Int.ofNat_eq_natCast, Vx.toN]; omega)), ?_⟩) | (simp only [E0, E1, E2, E3, E4, z0, z1, z2, a1, a2, a3, a4, a5, a6, b1]; try (conv => cbv)))
  all_goals trivial
end Go.Proofs.Ytngagepodbcohaa

/- The law ItemModes. -/
namespace Go.Proofs.Ytngagepodbcohaa
open Go Vx
set_option maxRecDepth 100000
theorem it_eq (a b : It) : a = b ↔ a.fr = b.fr ∧ a.to = b.to ∧ a.wy = b.wy ∧ a.rc = b.rc ∧ a.rb = b.rb ∧ a.en = b.en ∧ a.gr = b.gr := by
  cases a; cases b; simp
theorem items_le {n : Nat} {p : Nat → Pr} {ns : Nat} {l : Nat → Sp} {m : Int} {cnt : Nat} {g : Nat → It} (h : itemsF n p ns l m cnt g) : cnt ≤ n := by
  obtain ⟨t, ht, h1, h2⟩ := h
  have a := ht.at_.2.2
  have b := (mrun_inv t t.K).1
  omega
set_option maxHeartbeats 4000000 in
theorem f3_ok (n : Nat) (hn : n ≤ 10000000000000) (p : Nat → Pr) (ns : Nat) (hns : ns ≤ 10000000000000) (l : Nat → Sp) (hs : ∀ j, j < ns → inW (l j)) : FSpec Try.prog 3 [.agg [.rows 9 n (prc p), .rows 6 ns (spc l)]] [] (fun r H' => r = .bool true ∧ H' = []) := by
  refine pure_of rfl ?_
  obtain ⟨R, hR⟩ := bool_of (fitsT n ns l)
  refine FSpec.of (fn := Try.f3) Try.func3 rfl rfl (by simp) fun C hC => ?_
  obtain ⟨iadd, isub, imul, iquo, irem, iband, ibor, ibxor, ibandn, ishl, ishr, iconv, ieq, ine, ilt, ile, igt, ige, bbeq, bbne, bnot, bband, sseq, ssne, sscat, sssub, sslen, sssz, ssbyte, toN, ofN, addN, subN, eqN, ltB, leN, imx, imn, inb, leb, sslt, ltN, fit, ne0, ge0, ssfit, minN, inR, bcol, bstr, isBy, hS⟩ := names
  refine V.goF (by first | exact trivial | assumption) Try.func3 tl_ok mixed hS.ops [] 5 ?_
  intro VV VA W hVV hVA hW
  conv => cbv
  rw [hVV]
  clear hVV hVA VV VA hW W
  refine V.freezePtr 1 rfl rfl rfl ?_
  refine V.goF (by first | exact trivial | assumption) Try.func3 tl_ok mixed hS.ops [] 400 ?_
  intro VV VA W hVV hVA hW
  conv => cbv
  rw [hVV]
  clear hVV hVA VV VA hW W
  refine V.call rfl rfl rfl rfl rfl Try.func5 rfl (by decide) [] (by simp) (by simp) (by (first | rfl | ((conv => cbv); (repeat' apply And.intro) <;> first | rfl | trivial | (first | rfl | omega | (simp (disch := omega) only [hS.glob, wraps, plain, Int.ofNat_eq_natCast]; first | done | rfl | omega | (simp; done) | (simp; omega)) | (simp (disch := omega) only [hS.glob, wraps, plain, Int.ofNat_eq_natCast, Vx.toN]; omega))))) rfl (f5_ok n hn p ns hns l hs R hR) ?_
  rintro r Hc ⟨rfl, rfl⟩
  refine V.goF (by first | exact trivial | assumption) Try.func3 tl_ok mixed hS.ops [] 400 ?_
  intro VV VA W hVV hVA hW
  conv => cbv
  cases R
  case false =>
    conv => cbv
    rw [hVV]
    clear hVV hVA VV VA hW W
    refine V.call rfl rfl rfl rfl rfl Try.func6 rfl (by decide) [] (by simp) (by simp) (by (first | rfl | ((conv => cbv); (repeat' apply And.intro) <;> first | rfl | trivial | (first | rfl | omega | (simp (disch := omega) only [hS.glob, wraps, plain, Int.ofNat_eq_natCast]; first | done | rfl | omega | (simp; done) | (simp; omega)) | (simp (disch := omega) only [hS.glob, wraps, plain, Int.ofNat_eq_natCast, Vx.toN]; omega))))) rfl f6_ok ?_
    rintro r Hc ⟨rfl, rfl⟩
    refine V.goF (by first | exact trivial | assumption) Try.func3 tl_ok mixed hS.ops [] 400 ?_
    intro VV VA W hVV hVA hW
    conv => cbv
    trivial
  conv => cbv
  obtain ⟨⟨c1, c2, c3, c4, c5⟩, hn80⟩ := hR.1 rfl
  have hsz : ∀ j, j < ns → inSz (l j) := fun j hj => (hs j hj).sz (c4 j hj)
  have hns2 : ns ≤ 2000000 := by omega
  have h7 : ∀ m : Int, 0 ≤ m → m ≤ 3 → _ := fun m h1 h2 => f7_yes n hn p ns hns2 l hsz m ⟨by omega, c5, h1, h2⟩
  rw [hVV]
  clear hVV hVA VV VA hW W
  refine V.call rfl rfl rfl rfl rfl Try.func7 rfl (by decide) [] (by simp) (by simp) (by (first | rfl | ((conv => cbv); (repeat' apply And.intro) <;> first | rfl | trivial | (first | rfl | omega | (simp (disch := omega) only [hS.glob, wraps, plain, Int.ofNat_eq_natCast]; first | done | rfl | omega | (simp; done) | (simp; omega)) | (simp (disch := omega) only [hS.glob, wraps, plain, Int.ofNat_eq_natCast, Vx.toN]; omega))))) rfl (h7 0 (by decide) (by decide)) ?_
  rintro r Hc ⟨rfl, ca, f1, y1, ⟨⟨a, rfl, ia⟩, rfl⟩, rfl⟩
  refine V.goF (by first | exact trivial | assumption) Try.func3 tl_ok mixed hS.ops [] 400 ?_
  intro VV VA W hVV hVA hW
  conv => cbv
  rw [hVV]
  clear hVV hVA VV VA hW W
  refine V.call rfl rfl rfl rfl rfl Try.func7 rfl (by decide) [] (by simp) (by simp) (by (first | rfl | ((conv => cbv); (repeat' apply And.intro) <;> first | rfl | trivial | (first | rfl | omega | (simp (disch := omega) only [hS.glob, wraps, plain, Int.ofNat_eq_natCast]; first | done | rfl | omega | (simp; done) | (simp; omega)) | (simp (disch := omega) only [hS.glob, wraps, plain, Int.ofNat_eq_natCast, Vx.toN]; omega))))) rfl (h7 3 (by decide) (by decide)) ?_
  rintro r Hc ⟨rfl, cb, f1, y1, ⟨⟨b, rfl, ib⟩, rfl⟩, rfl⟩
  refine V.goF (by first | exact trivial | assumption) Try.func3 tl_ok mixed hS.ops [] 400 ?_
  intro VV VA W hVV hVA hW
  conv => cbv
  rw [hVV]
  clear hVV hVA VV VA hW W
  refine V.call rfl rfl rfl rfl rfl Try.func7 rfl (by decide) [] (by simp) (by simp) (by (first | rfl | ((conv => cbv); (repeat' apply And.intro) <;> first | rfl | trivial | (first | rfl | omega | (simp (disch := omega) only [hS.glob, wraps, plain, Int.ofNat_eq_natCast]; first | done | rfl | omega | (simp; done) | (simp; omega)) | (simp (disch := omega) only [hS.glob, wraps, plain, Int.ofNat_eq_natCast, Vx.toN]; omega))))) rfl (h7 1 (by decide) (by decide)) ?_
  rintro r Hc ⟨rfl, cc, f1, y1, ⟨⟨c, rfl, ic⟩, rfl⟩, rfl⟩
  refine V.goF (by first | exact trivial | assumption) Try.func3 tl_ok mixed hS.ops [] 400 ?_
  intro VV VA W hVV hVA hW
  conv => cbv
  rw [hVV]
  clear hVV hVA VV VA hW W
  refine V.call rfl rfl rfl rfl rfl Try.func7 rfl (by decide) [] (by simp) (by simp) (by (first | rfl | ((conv => cbv); (repeat' apply And.intro) <;> first | rfl | trivial | (first | rfl | omega | (simp (disch := omega) only [hS.glob, wraps, plain, Int.ofNat_eq_natCast]; first | done | rfl | omega | (simp; done) | (simp; omega)) | (simp (disch := omega) only [hS.glob, wraps, plain, Int.ofNat_eq_natCast, Vx.toN]; omega))))) rfl (h7 2 (by decide) (by decide)) ?_
  rintro r Hc ⟨rfl, cd, f1, y1, ⟨⟨d, rfl, id⟩, rfl⟩, rfl⟩
  obtain ⟨⟨e1, e2⟩, ⟨e3, e4⟩, hle, hrow, hcol⟩ := modes_law ia ib ic id
  have hca := items_le ia
  have hcc := items_le ic
  have f1 := e1.symm
  have f2 := e2.symm
  have f3 := e3.symm
  have f4 := e4.symm
  subst f1 f2 f3 f4
  refine V.goF (by first | exact trivial | assumption) Try.func3 tl_ok mixed hS.ops [] 400 ?_
  intro VV VA W hVV hVA hW
  conv => cbv
  have N0 : ine 0 0 = false := by (first | rfl | omega | (simp (disch := omega) only [hS.glob, wraps, plain, Int.ofNat_eq_natCast]; first | done | rfl | omega | (simp; done) | (simp; omega)) | (simp (disch := omega) only [hS.glob, wraps, plain, Int.ofNat_eq_natCast, Vx.toN]; omega))
  have Na : ine (ofN ca) (ofN ca) = false := by (first | rfl | omega | (simp (disch := omega) only [hS.glob, wraps, plain, Int.ofNat_eq_natCast]; first | done | rfl | omega | (simp; done) | (simp; omega)) | (simp (disch := omega) only [hS.glob, wraps, plain, Int.ofNat_eq_natCast, Vx.toN]; omega))
  have Nc : ine (ofN cc) (ofN cc) = false := by (first | rfl | omega | (simp (disch := omega) only [hS.glob, wraps, plain, Int.ofNat_eq_natCast]; first | done | rfl | omega | (simp; done) | (simp; omega)) | (simp (disch := omega) only [hS.glob, wraps, plain, Int.ofNat_eq_natCast, Vx.toN]; omega))
  have Nl : ilt (ofN ca) (ofN cc) = false := by (first | rfl | omega | (simp (disch := omega) only [hS.glob, wraps, plain, Int.ofNat_eq_natCast]; first | done | rfl | omega | (simp; done) | (simp; omega)) | (simp (disch := omega) only [hS.glob, wraps, plain, Int.ofNat_eq_natCast, Vx.toN]; omega))
  repeat (first | (refine ⟨by (first | trivial | omega | (simp (disch := omega) only [hS.glob, wraps, plain, Int.ofNat_eq_natCast]; first | done | omega | trivial | (simp; done) | (simp; omega) | (constructor <;> omega)) | (simp (disch := omega) only [hS.glob, wraps, plain, Int.ofNat_eq_natCast, Vx.toN]; omega)), ?_⟩) | (simp only [N0, Na, Nc, Nl]; try (conv => cbv)))
  rw [hVV]
  clear hVV hVA VV VA hW W
  refine V.to (s' := [(12, .int .i64 (ofN 0)), (4, .rows 7 ca (itc a)), (6, .rows 7 ca (itc a)), (8, .rows 7 cc (itc c)), (10, .rows 7 cc (itc c))]) (H' := []) ?_ (by (repeat' first | exact trivial | rfl | (refine And.intro ?_ ?_) | (refine sti ?_; (first | rfl | omega | (simp (disch := omega) only [hS.glob, wraps, plain, Int.ofNat_eq_natCast]; first | done | rfl | omega | (simp; done) | (simp; omega)) | (simp (disch := omega) only [hS.glob, wraps, plain, Int.ofNat_eq_natCast, Vx.toN]; omega))) | (refine slq ?_ ?_ ?_ <;> (first | rfl | omega | (simp (disch := omega) only [hS.glob, wraps, plain, Int.ofNat_eq_natCast]; first | done | rfl | omega | (simp; done) | (simp; omega)) | (simp (disch := omega) only [hS.glob, wraps, plain, Int.ofNat_eq_natCast, Vx.toN]; omega))) | (refine ptq ?_ ?_ ?_ <;> (first | rfl | omega | (simp (disch := omega) only [hS.glob, wraps, plain, Int.ofNat_eq_natCast]; first | done | rfl | omega | (simp; done) | (simp; omega)) | (simp (disch := omega) only [hS.glob, wraps, plain, Int.ofNat_eq_natCast, Vx.toN]; omega))) | (refine blq ?_; (first | rfl | omega | (simp (disch := omega) only [hS.glob, wraps, plain, Int.ofNat_eq_natCast]; first | done | rfl | omega | (simp; done) | (simp; omega)) | (simp (disch := omega) only [hS.glob, wraps, plain, Int.ofNat_eq_natCast, Vx.toN]; omega))))) rfl (by trivial) (by rw [hC]; simp)
  apply cut
  · intro next
    refine V.loop (γ := Nat) (fun i => i ≤ ca) (fun i => [(12, .int .i64 (ofN i)), (4, .rows 7 ca (itc a)), (6, .rows 7 ca (itc a)), (8, .rows 7 cc (itc c)), (10, .rows 7 cc (itc c))]) (fun _ => []) (fun i => ca - i) ?_ 0 (Nat.zero_le _)
    intro i hi hback
    refine V.goF (by first | exact trivial | assumption) Try.func3 tl_ok mixed hS.ops [] 8 ?_
    intro VV VA W hVV hVA hW
    conv => cbv
    cases h1 : ilt (ofN i) (ofN ca)
    · rw [hVV]
      clear hVV hVA VV VA hW W
      refine V.goF (by first | exact trivial | assumption) Try.func3 tl_ok mixed hS.ops [] 2 ?_
      intro VV VA W hVV hVA hW
      conv => cbv
      rw [hVV]
      clear hVV hVA VV VA hW W
      exact V.to (s' := [(4, .rows 7 ca (itc a)), (6, .rows 7 ca (itc a)), (8, .rows 7 cc (itc c)), (10, .rows 7 cc (itc c))]) (H' := []) next.get (by (repeat' first | exact trivial | rfl | (refine And.intro ?_ ?_) | (refine sti ?_; (first | rfl | omega | (simp (disch := omega) only [hS.glob, wraps, plain, Int.ofNat_eq_natCast]; first | done | rfl | omega | (simp; done) | (simp; omega)) | (simp (disch := omega) only [hS.glob, wraps, plain, Int.ofNat_eq_natCast, Vx.toN]; omega))) | (refine slq ?_ ?_ ?_ <;> (first | rfl | omega | (simp (disch := omega) only [hS.glob, wraps, plain, Int.ofNat_eq_natCast]; first | done | rfl | omega | (simp; done) | (simp; omega)) | (simp (disch := omega) only [hS.glob, wraps, plain, Int.ofNat_eq_natCast, Vx.toN]; omega))) | (refine ptq ?_ ?_ ?_ <;> (first | rfl | omega | (simp (disch := omega) only [hS.glob, wraps, plain, Int.ofNat_eq_natCast]; first | done | rfl | omega | (simp; done) | (simp; omega)) | (simp (disch := omega) only [hS.glob, wraps, plain, Int.ofNat_eq_natCast, Vx.toN]; omega))) | (refine blq ?_; (first | rfl | omega | (simp (disch := omega) only [hS.glob, wraps, plain, Int.ofNat_eq_natCast]; first | done | rfl | omega | (simp; done) | (simp; omega)) | (simp (disch := omega) only [hS.glob, wraps, plain, Int.ofNat_eq_natCast, Vx.toN]; omega))))) rfl (by trivial) (by rw [hC]; simp)
    · rw [hVV]
      clear hVV hVA VV VA hW W
      simp (disch := first | omega | (simp only [hS.glob, wraps, plain, Int.ofNat_eq_natCast]; omega)) only [hS.glob, wraps, plain, Int.ofNat_eq_natCast] at h1
      obtain ⟨hr1, hr2⟩ := hrow i (by omega)
      rcases hai : a i with ⟨y1, y2, y3, y4, y5, y6, y7⟩
      rw [hai] at hr1 hr2
      dsimp only at hr1 hr2
      subst hr1 hr2
      refine V.goF (by first | exact trivial | assumption) Try.func3 tl_ok mixed hS.ops [] 400 ?_
      intro VV VA W hVV hVA hW
      conv => cbv
      have eS : bnot (bband (ieq y1 y1) (bband (ieq y2 y2) (bband (ieq 0 0) (bband (ieq y4 y4) (bband (ieq y5 y5) (bband (ieq y6 y6) (bband (bbeq false false) true))))))) = false := by simp [hS.glob, Vx.bnot, Vx.bband, Vx.ieq, Vx.bbeq]
      repeat (first | (refine ⟨by first | (rw [hW]; show ordOk _ _ _ = true; kernel_rfl) | (first | trivial | omega | (simp (disch := omega) only [hS.glob, wraps, plain, Int.ofNat_eq_natCast]; first | done | omega | trivial | (simp; done) | (simp; omega) | (constructor <;> omega)) | (simp (disch := omega) only [hS.glob, wraps, plain, Int.ofNat_eq_natCast, Vx.toN]; omega)), ?_⟩) | (simp only [eS, N0, hS.tidy, hai]; try (conv => cbv)))
      rw [hVV]
      clear hVV hVA VV VA hW W
      exact V.to (hback (i + 1) (by omega) (by omega)) (by (repeat' first | exact trivial | rfl | (refine And.intro ?_ ?_) | (refine sti ?_; (first | rfl | omega | (simp (disch := omega) only [hS.glob, wraps, plain, Int.ofNat_eq_natCast]; first | done | rfl | omega | (simp; done) | (simp; omega)) | (simp (disch := omega) only [hS.glob, wraps, plain, Int.ofNat_eq_natCast, Vx.toN]; omega))) | (refine slq ?_ ?_ ?_ <;> (first | rfl | omega | (simp (disch := omega) only [hS.glob, wraps, plain, Int.ofNat_eq_natCast]; first | done | rfl | omega | (simp; done) | (simp; omega)) | (simp (disch := omega) only [hS.glob, wraps, plain, Int.ofNat_eq_natCast, Vx.toN]; omega))) | (refine ptq ?_ ?_ ?_ <;> (first | rfl | omega | (simp (disch := omega) only [hS.glob, wraps, plain, Int.ofNat_eq_natCast]; first | done | rfl | omega | (simp; done) | (simp; omega)) | (simp (disch := omega) only [hS.glob, wraps, plain, Int.ofNat_eq_natCast, Vx.toN]; omega))) | (refine blq ?_; (first | rfl | omega | (simp (disch := omega) only [hS.glob, wraps, plain, Int.ofNat_eq_natCast]; first | done | rfl | omega | (simp; done) | (simp; omega)) | (simp (disch := omega) only [hS.glob, wraps, plain, Int.ofNat_eq_natCast, Vx.toN]; omega))))) rfl trivial (by rw [hC]; simp)
  clear hrow
  refine V.goF (by first | exact trivial | assumption) Try.func3 tl_ok mixed hS.ops [] 400 ?_
  intro VV VA W hVV hVA hW
  conv => cbv
  rw [hVV]
  clear hVV hVA VV VA hW W
  refine V.to (s' := [(14, .int .i64 (ofN 0)), (13, .bool false), (4, .rows 7 ca (itc a)), (6, .rows 7 ca (itc a)), (8, .rows 7 cc (itc c)), (10, .rows 7 cc (itc c))]) (H' := []) ?_ (by (repeat' first | exact trivial | rfl | (refine And.intro ?_ ?_) | (refine sti ?_; (first | rfl | omega | (simp (disch := omega) only [hS.glob, wraps, plain, Int.ofNat_eq_natCast]; first | done | rfl | omega | (simp; done) | (simp; omega)) | (simp (disch := omega) only [hS.glob, wraps, plain, Int.ofNat_eq_natCast, Vx.toN]; omega))) | (refine slq ?_ ?_ ?_ <;> (first | rfl | omega | (simp (disch := omega) only [hS.glob, wraps, plain, Int.ofNat_eq_natCast]; first | done | rfl | omega | (simp; done) | (simp; omega)) | (simp (disch := omega) only [hS.glob, wraps, plain, Int.ofNat_eq_natCast, Vx.toN]; omega))) | (refine ptq ?_ ?_ ?_ <;> (first | rfl | omega | (simp (disch := omega) only [hS.glob, wraps, plain, Int.ofNat_eq_natCast]; first | done | rfl | omega | (simp; done) | (simp; omega)) | (simp (disch := omega) only [hS.glob, wraps, plain, Int.ofNat_eq_natCast, Vx.toN]; omega))) | (refine blq ?_; (first | rfl | omega | (simp (disch := omega) only [hS.glob, wraps, plain, Int.ofNat_eq_natCast]; first | done | rfl | omega | (simp; done) | (simp; omega)) | (simp (disch := omega) only [hS.glob, wraps, plain, Int.ofNat_eq_natCast, Vx.toN]; omega))))) rfl (by trivial) (by rw [hC]; simp)
  refine V.loop (γ := Nat × Bool) (fun q => q.1 ≤ cc ∧ (q.2 = false → ∀ j, j < q.1 → (c j).gr = false)) (fun q => [(14, .int .i64 (ofN q.1)), (13, .bool q.2), (4, .rows 7 ca (itc a)), (6, .rows 7 ca (itc a)), (8, .rows 7 cc (itc c)), (10, .rows 7 cc (itc c))]) (fun _ => []) (fun q => cc - q.1) ?_ (0, false) ⟨Nat.zero_le _, fun _ j hj => absurd hj (Nat.not_lt_zero _)⟩
  rintro ⟨i, G⟩ ⟨hi, hG⟩ hback
  dsimp only at hi hG hback ⊢
  refine V.goF (by first | exact trivial | assumption) Try.func3 tl_ok mixed hS.ops [] 400 ?_
  intro VV VA W hVV hVA hW
  conv => cbv
  cases h1 : ilt (ofN i) (ofN cc)
  case' true =>
    conv => cbv
    simp (disch := first | omega | (simp only [hS.glob, wraps, plain, Int.ofNat_eq_natCast]; omega)) only [hS.glob, wraps, plain, Int.ofNat_eq_natCast] at h1
    rcases hci : c i with ⟨y1, y2, y3, y4, y5, y6, y7⟩
    have eS : ∀ z, bnot (bband (ieq y1 y1) (bband (ieq y2 y2) (bband (ieq y3 y3) (bband (ieq y4 y4) (bband (ieq y5 y5) (bband (ieq y6 y6) (bband (bbeq z z) true))))))) = false := fun z => by simp [hS.glob, Vx.bnot, Vx.bband, Vx.ieq, Vx.bbeq]
    have hnext : ∀ G', (G' = false → G = false ∧ y7 = false) → (i + 1 ≤ cc ∧ (G' = false → ∀ j, j < i + 1 → (c j).gr = false)) := fun G' h2 => ⟨by omega, fun h3 j hj => by
      obtain ⟨h4, h5⟩ := h2 h3
      rcases Nat.lt_or_ge j i with h | h
      · exact hG h4 j h
      · obtain rfl : j = i := by omega
        rw [hci]; exact h5⟩
    cases hGG : G
    case' false =>
      conv => cbv
      repeat (refine ⟨by first | (rw [hW]; show ordOk _ _ _ = true; kernel_rfl) | (first | trivial | omega | (simp (disch := omega) only [hS.glob, wraps, plain, Int.ofNat_eq_natCast]; first | done | omega | trivial | (simp; done) | (simp; omega) | (constructor <;> omega)) | (simp (disch := omega) only [hS.glob, wraps, plain, Int.ofNat_eq_natCast, Vx.toN]; omega)), ?_⟩)
      simp only [hS.tidy, hci]
      conv => cbv
      cases hy : y7
    all_goals
      conv => cbv
      repeat (first | (refine ⟨by first | (rw [hW]; show ordOk _ _ _ = true; kernel_rfl) | (first | trivial | omega | (simp (disch := omega) only [hS.glob, wraps, plain, Int.ofNat_eq_natCast]; first | done | omega | trivial | (simp; done) | (simp; omega) | (constructor <;> omega)) | (simp (disch := omega) only [hS.glob, wraps, plain, Int.ofNat_eq_natCast, Vx.toN]; omega)), ?_⟩) | (simp only [eS, hS.tidy, hci]; try (conv => cbv)))
      rw [hVV]
      clear hVV hVA VV VA hW W
    · exact V.to (hback (i + 1, false) (hnext false (fun _ => ⟨hGG, hy⟩)) (by simp only; omega)) (by (repeat' first | exact trivial | rfl | (refine And.intro ?_ ?_) | (refine sti ?_; (first | rfl | omega | (simp (disch := omega) only [hS.glob, wraps, plain, Int.ofNat_eq_natCast]; first | done | rfl | omega | (simp; done) | (simp; omega)) | (simp (disch := omega) only [hS.glob, wraps, plain, Int.ofNat_eq_natCast, Vx.toN]; omega))) | (refine slq ?_ ?_ ?_ <;> (first | rfl | omega | (simp (disch := omega) only [hS.glob, wraps, plain, Int.ofNat_eq_natCast]; first | done | rfl | omega | (simp; done) | (simp; omega)) | (simp (disch := omega) only [hS.glob, wraps, plain, Int.ofNat_eq_natCast, Vx.toN]; omega))) | (refine ptq ?_ ?_ ?_ <;> (first | rfl | omega | (simp (disch := omega) only [hS.glob, wraps, plain, Int.ofNat_eq_natCast]; first | done | rfl | omega | (simp; done) | (simp; omega)) | (simp (disch := omega) only [hS.glob, wraps, plain, Int.ofNat_eq_natCast, Vx.toN]; omega))) | (refine blq ?_; (first | rfl | omega | (simp (disch := omega) only [hS.glob, wraps, plain, Int.ofNat_eq_natCast]; first | done | rfl | omega | (simp; done) | (simp; omega)) | (simp (disch := omega) only [hS.glob, wraps, plain, Int.ofNat_eq_natCast, Vx.toN]; omega))))) rfl trivial (by rw [hC]; simp)
    · exact V.to (hback (i + 1, true) (hnext true (fun h => by cases h)) (by simp only; omega)) (by (repeat' first | exact trivial | rfl | (refine And.intro ?_ ?_) | (refine sti ?_; (first | rfl | omega | (simp (disch := omega) only [hS.glob, wraps, plain, Int.ofNat_eq_natCast]; first | done | rfl | omega | (simp; done) | (simp; omega)) | (simp (disch := omega) only [hS.glob, wraps, plain, Int.ofNat_eq_natCast, Vx.toN]; omega))) | (refine slq ?_ ?_ ?_ <;> (first | rfl | omega | (simp (disch := omega) only [hS.glob, wraps, plain, Int.ofNat_eq_natCast]; first | done | rfl | omega | (simp; done) | (simp; omega)) | (simp (disch := omega) only [hS.glob, wraps, plain, Int.ofNat_eq_natCast, Vx.toN]; omega))) | (refine ptq ?_ ?_ ?_ <;> (first | rfl | omega | (simp (disch := omega) only [hS.glob, wraps, plain, Int.ofNat_eq_natCast]; first | done | rfl | omega | (simp; done) | (simp; omega)) | (simp (disch := omega) only [hS.glob, wraps, plain, Int.ofNat_eq_natCast, Vx.toN]; omega))) | (refine blq ?_; (first | rfl | omega | (simp (disch := omega) only [hS.glob, wraps, plain, Int.ofNat_eq_natCast]; first | done | rfl | omega | (simp; done) | (simp; omega)) | (simp (disch := omega) only [hS.glob, wraps, plain, Int.ofNat_eq_natCast, Vx.toN]; omega))))) rfl trivial (by rw [hC]; simp)
    · exact V.to (hback (i + 1, true) (hnext true (fun h => by cases h)) (by simp only; omega)) (by (repeat' first | exact trivial | rfl | (refine And.intro ?_ ?_) | (refine sti ?_; (first | rfl | omega | (simp (disch := omega) only [hS.glob, wraps, plain, Int.ofNat_eq_natCast]; first | done | rfl | omega | (simp; done) | (simp; omega)) | (simp (disch := omega) only [hS.glob, wraps, plain, Int.ofNat_eq_natCast, Vx.toN]; omega))) | (refine slq ?_ ?_ ?_ <;> (first | rfl | omega | (simp (disch := omega) only [hS.glob, wraps, plain, Int.ofNat_eq_natCast]; first | done | rfl | omega | (simp; done) | (simp; omega)) | (simp (disch := omega) only [hS.glob, wraps, plain, Int.ofNat_eq_natCast, Vx.toN]; omega))) | (refine ptq ?_ ?_ ?_ <;> (first | rfl | omega | (simp (disch := omega) only [hS.glob, wraps, plain, Int.ofNat_eq_natCast]; first | done | rfl | omega | (simp; done) | (simp; omega)) | (simp (disch := omega) only [hS.glob, wraps, plain, Int.ofNat_eq_natCast, Vx.toN]; omega))) | (refine blq ?_; (first | rfl | omega | (simp (disch := omega) only [hS.glob, wraps, plain, Int.ofNat_eq_natCast]; first | done | rfl | omega | (simp; done) | (simp; omega)) | (simp (disch := omega) only [hS.glob, wraps, plain, Int.ofNat_eq_natCast, Vx.toN]; omega))))) rfl trivial (by rw [hC]; simp)
  conv => cbv
  simp (disch := first | omega | (simp only [hS.glob, wraps, plain, Int.ofNat_eq_natCast]; omega)) only [hS.glob, wraps, plain, Int.ofNat_eq_natCast] at h1
  obtain rfl : cc = i := by omega
  have hfin : G = false → _ := fun h => hcol (hG h)
  rw [hVV]
  clear hVV hVA VV VA hW W
  refine V.to (s' := [(15, .int .i64 (ofN 0)), (13, .bool G), (4, .rows 7 ca (itc a)), (6, .rows 7 ca (itc a)), (8, .rows 7 cc (itc c)), (10, .rows 7 cc (itc c))]) (H' := []) ?_ (by (repeat' first | exact trivial | rfl | (refine And.intro ?_ ?_) | (refine sti ?_; (first | rfl | omega | (simp (disch := omega) only [hS.glob, wraps, plain, Int.ofNat_eq_natCast]; first | done | rfl | omega | (simp; done) | (simp; omega)) | (simp (disch := omega) only [hS.glob, wraps, plain, Int.ofNat_eq_natCast, Vx.toN]; omega))) | (refine slq ?_ ?_ ?_ <;> (first | rfl | omega | (simp (disch := omega) only [hS.glob, wraps, plain, Int.ofNat_eq_natCast]; first | done | rfl | omega | (simp; done) | (simp; omega)) | (simp (disch := omega) only [hS.glob, wraps, plain, Int.ofNat_eq_natCast, Vx.toN]; omega))) | (refine ptq ?_ ?_ ?_ <;> (first | rfl | omega | (simp (disch := omega) only [hS.glob, wraps, plain, Int.ofNat_eq_natCast]; first | done | rfl | omega | (simp; done) | (simp; omega)) | (simp (disch := omega) only [hS.glob, wraps, plain, Int.ofNat_eq_natCast, Vx.toN]; omega))) | (refine blq ?_; (first | rfl | omega | (simp (disch := omega) only [hS.glob, wraps, plain, Int.ofNat_eq_natCast]; first | done | rfl | omega | (simp; done) | (simp; omega)) | (simp (disch := omega) only [hS.glob, wraps, plain, Int.ofNat_eq_natCast, Vx.toN]; omega))))) rfl (by trivial) (by rw [hC]; simp)
  refine V.loop (γ := Nat) (fun i => i ≤ cc) (fun i => [(15, .int .i64 (ofN i)), (13, .bool G), (4, .rows 7 ca (itc a)), (6, .rows 7 ca (itc a)), (8, .rows 7 cc (itc c)), (10, .rows 7 cc (itc c))]) (fun _ => []) (fun i => cc - i) ?_ 0 (Nat.zero_le _)
  intro i hi hback
  refine V.goF (by first | exact trivial | assumption) Try.func3 tl_ok mixed hS.ops [] 400 ?_
  intro VV VA W hVV hVA hW
  conv => cbv
  cases h2 : ilt (ofN i) (ofN cc)
  case' true =>
    conv => cbv
    cases G
    case' false =>
      conv => cbv
      simp (disch := first | omega | (simp only [hS.glob, wraps, plain, Int.ofNat_eq_natCast]; omega)) only [hS.glob, wraps, plain, Int.ofNat_eq_natCast] at h2
      obtain ⟨g1, g2⟩ := hfin rfl
      subst g1
      obtain ⟨g3, g4, g5⟩ := g2 i (by omega)
      rcases hai : a i with ⟨x1, x2, x3, x4, x5, x6, x7⟩
      rcases hci : c i with ⟨y1, y2, y3, y4, y5, y6, y7⟩
      rw [hai, hci] at g3 g4 g5
      dsimp only at g3 g4 g5
      subst g3 g5
      have N1 : ine x1 x1 = false := by simp [hS.glob, Vx.ine]
      have N6 : ine x6 x6 = false := by simp [hS.glob, Vx.ine]
      have N4 : ilt x4 y4 = false := by simp only [hS.glob, plain]; exact g4
      repeat (first | (refine ⟨by first | (rw [hW]; show ordOk _ _ _ = true; kernel_rfl) | (first | trivial | omega | (simp (disch := omega) only [hS.glob, wraps, plain, Int.ofNat_eq_natCast]; first | done | omega | trivial | (simp; done) | (simp; omega) | (constructor <;> omega)) | (simp (disch := omega) only [hS.glob, wraps, plain, Int.ofNat_eq_natCast, Vx.toN]; omega)), ?_⟩) | (simp only [N1, N6, N4, Na, hS.tidy, hai, hci]; try (conv => cbv)))
      rw [hVV]
      clear hVV hVA VV VA hW W
      exact V.to (hback (i + 1) (by omega) (by omega)) (by (repeat' first | exact trivial | rfl | (refine And.intro ?_ ?_) | (refine sti ?_; (first | rfl | omega | (simp (disch := omega) only [hS.glob, wraps, plain, Int.ofNat_eq_natCast]; first | done | rfl | omega | (simp; done) | (simp; omega)) | (simp (disch := omega) only [hS.glob, wraps, plain, Int.ofNat_eq_natCast, Vx.toN]; omega))) | (refine slq ?_ ?_ ?_ <;> (first | rfl | omega | (simp (disch := omega) only [hS.glob, wraps, plain, Int.ofNat_eq_natCast]; first | done | rfl | omega | (simp; done) | (simp; omega)) | (simp (disch := omega) only [hS.glob, wraps, plain, Int.ofNat_eq_natCast, Vx.toN]; omega))) | (refine ptq ?_ ?_ ?_ <;> (first | rfl | omega | (simp (disch := omega) only [hS.glob, wraps, plain, Int.ofNat_eq_natCast]; first | done | rfl | omega | (simp; done) | (simp; omega)) | (simp (disch := omega) only [hS.glob, wraps, plain, Int.ofNat_eq_natCast, Vx.toN]; omega))) | (refine blq ?_; (first | rfl | omega | (simp (disch := omega) only [hS.glob, wraps, plain, Int.ofNat_eq_natCast]; first | done | rfl | omega | (simp; done) | (simp; omega)) | (simp (disch := omega) only [hS.glob, wraps, plain, Int.ofNat_eq_natCast, Vx.toN]; omega))))) rfl trivial (by rw [hC]; simp)
  all_goals
    conv => cbv
    rw [hVV]
    clear hVV hVA VV VA hW W
    refine V.call rfl rfl rfl rfl rfl Try.func6 rfl (by decide) [] (by simp) (by simp) (by (first | rfl | ((conv => cbv); (repeat' apply And.intro) <;> first | rfl | trivial | (first | rfl | omega | (simp (disch := omega) only [hS.glob, wraps, plain, Int.ofNat_eq_natCast]; first | done | rfl | omega | (simp; done) | (simp; omega)) | (simp (disch := omega) only [hS.glob, wraps, plain, Int.ofNat_eq_natCast, Vx.toN]; omega))))) rfl f6_ok ?_
    rintro r Hc ⟨rfl, rfl⟩
    refine V.goF (by first | exact trivial | assumption) Try.func3 tl_ok mixed hS.ops [] 400 ?_
    intro VV VA W hVV hVA hW
    conv => cbv
    trivial
end Go.Proofs.Ytngagepodbcohaa

/- A law's paragraph. -/
namespace Go.Proofs.Ytngagepodbcohaa
open Go Vx
set_option maxRecDepth 100000
theorem span6 {P : Program} {n t : Nat} {f0 f1 f2 f3 f4 f5 : Field} (hu : P.underlying t = some (.struct #[f0, f1, f2, f3, f4, f5])) (hc : P.cellsOf t = 6) (o0 : f0.offset = 0) (o1 : f1.offset = 1) (o2 : f2.offset = 2) (o3 : f3.offset = 3) (o4 : f4.offset = 4) (o5 : f5.offset = 5)
    (c0 : P.cellsOf f0.type = 1) (c1 : P.cellsOf f1.type = 1) (c2 : P.cellsOf f2.type = 1) (c3 : P.cellsOf f3.type = 1) (c4 : P.cellsOf f4.type = 1) (c5 : P.cellsOf f5.type = 1)
    (u0 : P.underlying f0.type = some (.int .i64)) (u1 : P.underlying f1.type = some (.int .i64)) (u2 : P.underlying f2.type = some (.int .i64)) (u3 : P.underlying f3.type = some .bool) (u4 : P.underlying f4.type = some .string) (u5 : P.underlying f5.type = some (.int .u64))
    {cs : List AV} (h : Ty P n t cs) : ∃ s : Sp, cs = spc (fun _ => s) 0 ∧ inW s := by
  obtain ⟨hl, hf⟩ := h.struct_inv hu
  rw [hc] at hl
  match cs, hl with
  | [x0, x1, x2, x3, x4, x5], _ =>
    have h0 := hf f0 (by simp)
    have h1 := hf f1 (by simp)
    have h2 := hf f2 (by simp)
    have h3 := hf f3 (by simp)
    have h4 := hf f4 (by simp)
    have h5 := hf f5 (by simp)
    rw [o0, c0] at h0
    rw [o1, c1] at h1
    rw [o2, c2] at h2
    rw [o3, c3] at h3
    rw [o4, c4] at h4
    rw [o5, c5] at h5
    obtain ⟨a, ha, wa⟩ := Ty.int_inv u0 h0
    obtain ⟨b, hb, wb⟩ := Ty.int_inv u1 h1
    obtain ⟨p, hp, _⟩ := Ty.int_inv u2 h2
    obtain ⟨d, hd⟩ := Ty.bool_inv u3 h3
    obtain ⟨u, hu, wu⟩ := Ty.str_inv u4 h4
    obtain ⟨x, hx, wx⟩ := Ty.int_inv u5 h5
    simp only [List.drop_zero, List.drop_succ_cons, List.take_succ_cons, List.take_zero, List.cons.injEq, and_true] at ha hb hp hd hu hx
    refine ⟨⟨a, b, p, d, u, x⟩, by rw [ha, hb, hp, hd, hu, hx]; rfl, ?_⟩
    simp [Lit.wf, IntKind.min, IntKind.max, IntKind.signed, IntKind.bits] at wa wb wx
    simp only [reachBytes] at wu
    unfold inW
    dsimp only
    omega
theorem props9 {P : Program} {n t : Nat} {f0 f1 f2 f3 f4 f5 f6 f7 f8 : Field} (hu : P.underlying t = some (.struct #[f0, f1, f2, f3, f4, f5, f6, f7, f8])) (hc : P.cellsOf t = 9) (o0 : f0.offset = 0) (o1 : f1.offset = 1) (o2 : f2.offset = 2) (o3 : f3.offset = 3) (o4 : f4.offset = 4) (o5 : f5.offset = 5) (o6 : f6.offset = 6) (o7 : f7.offset = 7) (o8 : f8.offset = 8)
    (c0 : P.cellsOf f0.type = 1) (c1 : P.cellsOf f1.type = 1) (c2 : P.cellsOf f2.type = 1) (c3 : P.cellsOf f3.type = 1) (c4 : P.cellsOf f4.type = 1) (c5 : P.cellsOf f5.type = 1) (c6 : P.cellsOf f6.type = 1) (c7 : P.cellsOf f7.type = 1) (c8 : P.cellsOf f8.type = 1)
    (u0 : P.underlying f0.type = some (.int .i64)) (u1 : P.underlying f1.type = some (.int .i64)) (u2 : P.underlying f2.type = some (.int .i64)) (u3 : P.underlying f3.type = some (.int .i64)) (u4 : P.underlying f4.type = some .bool) (u5 : P.underlying f5.type = some .bool) (u6 : P.underlying f6.type = some (.int .i64)) (u7 : P.underlying f7.type = some (.int .i64)) (u8 : P.underlying f8.type = some .bool)
    {cs : List AV} (h : Ty P n t cs) : ∃ s : Pr, cs = prc (fun _ => s) 0 := by
  obtain ⟨hl, hf⟩ := h.struct_inv hu
  rw [hc] at hl
  match cs, hl with
  | [x0, x1, x2, x3, x4, x5, x6, x7, x8], _ =>
    have h0 := hf f0 (by simp)
    have h1 := hf f1 (by simp)
    have h2 := hf f2 (by simp)
    have h3 := hf f3 (by simp)
    have h4 := hf f4 (by simp)
    have h5 := hf f5 (by simp)
    have h6 := hf f6 (by simp)
    have h7 := hf f7 (by simp)
    have h8 := hf f8 (by simp)
    rw [o0, c0] at h0
    rw [o1, c1] at h1
    rw [o2, c2] at h2
    rw [o3, c3] at h3
    rw [o4, c4] at h4
    rw [o5, c5] at h5
    rw [o6, c6] at h6
    rw [o7, c7] at h7
    rw [o8, c8] at h8
    obtain ⟨a, ha, _⟩ := Ty.int_inv u0 h0
    obtain ⟨b, hb, _⟩ := Ty.int_inv u1 h1
    obtain ⟨c, hc, _⟩ := Ty.int_inv u2 h2
    obtain ⟨d, hd, _⟩ := Ty.int_inv u3 h3
    obtain ⟨e, he⟩ := Ty.bool_inv u4 h4
    obtain ⟨f, hf'⟩ := Ty.bool_inv u5 h5
    obtain ⟨g, hg, _⟩ := Ty.int_inv u6 h6
    obtain ⟨i, hi, _⟩ := Ty.int_inv u7 h7
    obtain ⟨j, hj⟩ := Ty.bool_inv u8 h8
    simp only [List.drop_zero, List.drop_succ_cons, List.take_succ_cons, List.take_zero, List.cons.injEq, and_true] at ha hb hc hd he hf' hg hi hj
    exact ⟨⟨a, b, c, d, e, f, g, i, j⟩, by rw [ha, hb, hc, hd, he, hf', hg, hi, hj]; rfl⟩
theorem spansT {n : Nat} {cs : List AV} (h : Ty Try.prog n 23 cs) : ∃ (x : AV) (m : Nat) (g : Nat → Sp), cs = [x] ∧ Sub x (.rows 6 m (spc g)) ∧ m ≤ 1000000000000 * 10 ∧ ∀ i, i < m → inW (g i) := by
  have c53 : Try.prog.cellsOf 53 = 6 := by kernel_rfl
  have b53 : Try.prog.bytesOf 53 = 56 := by kernel_rfl
  obtain ⟨m, f, hav, hm, hf⟩ := Ty.slice_inv Try.underlying23 h
  subst hav
  rw [c53]
  rw [b53] at hm
  simp only [reachBytes] at hm
  have each : ∀ i, ∃ s : Sp, i < m → f i = spc (fun _ => s) 0 ∧ inW s := fun i => by
    by_cases hi : i < m
    · obtain ⟨s, h1, h2⟩ := span6 Try.underlying53 c53 rfl rfl rfl rfl rfl rfl (by kernel_rfl) (by kernel_rfl) (by kernel_rfl) (by kernel_rfl) (by kernel_rfl) (by kernel_rfl) Try.underlying3 Try.underlying3 Try.underlying50 Try.underlying4 Try.underlying9 Try.underlying51 (hf i hi)
      exact ⟨s, fun _ => ⟨h1, h2⟩⟩
    · exact ⟨noSp, fun h => absurd h hi⟩
  obtain ⟨g, hg⟩ := Classical.axiomOfChoice each
  refine ⟨_, m, g, rfl, Sub.rows fun i hi => ?_, by omega, fun i hi => (hg i hi).2⟩
  rw [(hg i hi).1]
  exact Subs.refl _
theorem propsT {n : Nat} {cs : List AV} (h : Ty Try.prog n 22 cs) : ∃ (x : AV) (m : Nat) (g : Nat → Pr), cs = [x] ∧ Sub x (.rows 9 m (prc g)) ∧ m ≤ 1000000000000 * 10 := by
  have c47 : Try.prog.cellsOf 47 = 9 := by kernel_rfl
  have b47 : Try.prog.bytesOf 47 = 64 := by kernel_rfl
  obtain ⟨m, f, hav, hm, hf⟩ := Ty.slice_inv Try.underlying22 h
  subst hav
  rw [c47]
  rw [b47] at hm
  simp only [reachBytes] at hm
  have each : ∀ i, ∃ s : Pr, i < m → f i = prc (fun _ => s) 0 := fun i => by
    by_cases hi : i < m
    · obtain ⟨s, h1⟩ := props9 Try.underlying47 c47 rfl rfl rfl rfl rfl rfl rfl rfl rfl (by kernel_rfl) (by kernel_rfl) (by kernel_rfl) (by kernel_rfl) (by kernel_rfl) (by kernel_rfl) (by kernel_rfl) (by kernel_rfl) (by kernel_rfl) Try.underlying42 Try.underlying43 Try.underlying44 Try.underlying45 Try.underlying4 Try.underlying4 Try.underlying3 Try.underlying3 Try.underlying4 (hf i hi)
      exact ⟨s, fun _ => h1⟩
    · exact ⟨⟨0, 0, 0, 0, false, false, 0, 0, false⟩, fun h => absurd h hi⟩
  obtain ⟨g, hg⟩ := Classical.axiomOfChoice each
  refine ⟨_, m, g, rfl, Sub.rows fun i hi => ?_, by omega⟩
  rw [hg i hi]
  exact Subs.refl _
theorem text2 {P : Program} {n t : Nat} {f0 f1 : Field} (hu : P.underlying t = some (.struct #[f0, f1])) (hc : P.cellsOf t = 2) (o0 : f0.offset = 0) (o1 : f1.offset = 1) (c0 : P.cellsOf f0.type = 1) (c1 : P.cellsOf f1.type = 1) {av : AV} (h : TyV P n t av) : ∃ x y, av = .agg [x, y] ∧ Ty P (n - 1) f0.type [x] ∧ Ty P (n - 1) f1.type [y] := by
  obtain ⟨cs, rfl, hl, hf⟩ := h.struct hu
  rw [hc] at hl
  match cs, hl with
  | [x, y], _ =>
    have h0 := hf f0 (by simp)
    have h1 := hf f1 (by simp)
    rw [o0, c0] at h0
    rw [o1, c1] at h1
    exact ⟨x, y, rfl, h0, h1⟩
theorem textT {n : Nat} {av : AV} (h : TyV Try.prog n 25 av) : ∃ (a : Nat) (p : Nat → Pr) (b : Nat) (l : Nat → Sp), Sub av (.agg [.rows 9 a (prc p), .rows 6 b (spc l)]) ∧ a ≤ 10000000000000 ∧ b ≤ 10000000000000 ∧ ∀ i, i < b → inW (l i) := by
  obtain ⟨x, y, rfl, h0, h1⟩ := text2 Try.underlying25 (by kernel_rfl) rfl rfl (by kernel_rfl) (by kernel_rfl) h
  obtain ⟨x', a, p, e0, s0, k0⟩ := propsT h0
  obtain ⟨y', b, l, e1, s1, k1, w1⟩ := spansT h1
  injection e0 with e0 _
  injection e1 with e1 _
  subst e0 e1
  exact ⟨a, p, b, l, Sub.agg ⟨s0, s1, trivial⟩, k0, k1, w1⟩
end Go.Proofs.Ytngagepodbcohaa
