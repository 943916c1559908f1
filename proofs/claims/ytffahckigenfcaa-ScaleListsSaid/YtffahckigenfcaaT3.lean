/- Contracts of functions by an evaluator of the model: its part T3. -/
import Derived.Test.YtffahckigenfcaaT2
set_option linter.all false
/- Two sorted rows become one: the walk. -/
namespace Go.Proofs.Ytffahckigenfcaa
open Go Vx
set_option maxHeartbeats 4000000 in
theorem f48_ok (n : Nat) (hn : n ≤ 1000000) : ∀ (N : Nat) (g : Nat → Int) (hu : ∀ j, j < n → inU (g j)) (a m b : Nat) (hN : b - a ≤ N) (ham : a < m) (hmb : m < b) (hbn : b ≤ n) (hA : Srt rank g a m) (hB : Srt rank g m b) (z x y : Int) (hz : z = a) (hx : x = m) (hy : y = b),
    FSpec Try.prog 48 [.sl 0 0 n, .int .i64 z, .int .i64 x, .int .i64 y, .fn (.func 15) [] []] [some ⟨22, 1, .arr n (icol .u64 g)⟩] (fun r H' => r = .tup [] ∧ ∃ h, H' = [some ⟨22, 1, .arr n (icol .u64 h)⟩] ∧ Srt rank h a b ∧ Stb rank a b g h) := by
  intro N
  induction N with
  | zero => intro g hu a m b hN ham hmb; omega
  | succ N ih =>
  intro g hu a m b hN ham hmb hbn hA hB z x y hz hx hy
  obtain ⟨Q, hQ⟩ : ∃ Q : AV → Hp → Prop, Q = (fun r H' => r = .tup [] ∧ ∃ h, H' = [some ⟨22, 1, .arr n (icol .u64 h)⟩] ∧ Srt rank h a b ∧ Stb rank a b g h) := ⟨_, rfl⟩
  rw [← hQ]
  refine FSpec.of (fn := Try.f48) Try.func48 rfl rfl (by simp) fun C hC => ?_
  obtain ⟨iadd, isub, imul, iquo, irem, iband, ibor, ibxor, ibandn, ishl, ishr, iconv, ieq, ine, ilt, ile, igt, ige, bbeq, bbne, bnot, bband, sseq, ssne, sscat, sssub, sslen, sssz, ssbyte, toN, ofN, addN, subN, eqN, ltB, leN, imx, imn, inb, leb, sslt, ltN, fit, ne0, ge0, ssfit, minN, inR, bcol, bstr, isBy, hS⟩ := names
  obtain rfl : z = ofN a := by simp (disch := first | omega | (simp only [hS.glob, wraps, plain, Int.ofNat_eq_natCast]; omega)) only [hS.glob, wraps, plain, Int.ofNat_eq_natCast]; exact hz
  obtain rfl : x = ofN m := by simp (disch := first | omega | (simp only [hS.glob, wraps, plain, Int.ofNat_eq_natCast]; omega)) only [hS.glob, wraps, plain, Int.ofNat_eq_natCast]; exact hx
  obtain rfl : y = ofN b := by simp (disch := first | omega | (simp only [hS.glob, wraps, plain, Int.ofNat_eq_natCast]; omega)) only [hS.glob, wraps, plain, Int.ofNat_eq_natCast]; exact hy
  clear hz hx hy
  have cn : ∀ (u v : Nat) (c : Int), c = cmpI (rank (g u)) (rank (g v)) → (c < 0 ↔ rank (g u) < rank (g v)) := fun u v c hc => by rw [hc]; exact cmp_neg _ _
  refine V.goF (by first | exact trivial | assumption) Try.func48 tl_ok mixed hS.ops [] 400 ?_
  intro VV VA W hVV hVA hW
  conv => cbv
  cases h1 : ieq (isub .i64 (ofN m) (ofN a)) 1
  case true =>
    conv => cbv
    have h1' : m = a + 1 := by
      simp (disch := first | omega | (simp only [hS.glob, wraps, plain, Int.ofNat_eq_natCast]; omega)) only [hS.glob, wraps, plain, Int.ofNat_eq_natCast] at h1
      omega
    rw [hVV]
    clear hVV hVA VV VA hW W
    refine V.to (s' := [(10, .int .i64 (ofN m)), (11, .int .i64 (ofN b)), (0, .sl 0 0 n), (1, .int .i64 (ofN a)), (2, .int .i64 (ofN m)), (3, .int .i64 (ofN b)), (4, .fn (.func 15) [] [])]) (H' := [some ⟨22, 1, .arr n (icol .u64 g)⟩]) ?_ (by (repeat' first | exact trivial | rfl | (refine And.intro ?_ ?_) | (refine sti ?_; (first | rfl | omega | (simp (disch := omega) only [hS.glob, wraps, plain, Int.ofNat_eq_natCast]; first | done | rfl | omega | (simp; done) | (simp; omega)) | (simp (disch := omega) only [hS.glob, wraps, plain, Int.ofNat_eq_natCast, Vx.toN]; omega))) | (refine slq ?_ ?_ ?_ <;> (first | rfl | omega | (simp (disch := omega) only [hS.glob, wraps, plain, Int.ofNat_eq_natCast]; first | done | rfl | omega | (simp; done) | (simp; omega)) | (simp (disch := omega) only [hS.glob, wraps, plain, Int.ofNat_eq_natCast, Vx.toN]; omega))) | (refine ptq ?_ ?_ ?_ <;> (first | rfl | omega | (simp (disch := omega) only [hS.glob, wraps, plain, Int.ofNat_eq_natCast]; first | done | rfl | omega | (simp; done) | (simp; omega)) | (simp (disch := omega) only [hS.glob, wraps, plain, Int.ofNat_eq_natCast, Vx.toN]; omega))) | (refine blq ?_; (first | rfl | omega | (simp (disch := omega) only [hS.glob, wraps, plain, Int.ofNat_eq_natCast]; first | done | rfl | omega | (simp; done) | (simp; omega)) | (simp (disch := omega) only [hS.glob, wraps, plain, Int.ofNat_eq_natCast, Vx.toN]; omega))))) rfl (by (repeat' first | exact trivial | rfl | exact Nat.le_refl _ | exact (fun _ _ => rfl) | (refine And.intro ?_ ?_) | (simp only [hS.glob, plain]; first | done | omega))) (by rw [hC]; simp)
    refine V.loop (γ := Nat × Nat) (fun p => m ≤ p.1 ∧ p.1 ≤ p.2 ∧ p.2 ≤ b ∧ (∀ t, m ≤ t → t < p.1 → rank (g t) < rank (g a)) ∧ ∀ t, p.2 ≤ t → t < b → rank (g a) ≤ rank (g t)) (fun p => [(10, .int .i64 (ofN p.1)), (11, .int .i64 (ofN p.2)), (0, .sl 0 0 n), (1, .int .i64 (ofN a)), (2, .int .i64 (ofN m)), (3, .int .i64 (ofN b)), (4, .fn (.func 15) [] [])]) (fun _ => [some ⟨22, 1, .arr n (icol .u64 g)⟩]) (fun p => p.2 - p.1) ?_ (m, b) ⟨Nat.le_refl _, by simp only; omega, Nat.le_refl _, fun t t1 t2 => by simp only at t2; omega, fun t t1 t2 => by simp only at t1; omega⟩
    rintro ⟨i, j⟩ ⟨hi, hij, hj, hlo, hhi⟩ hback
    dsimp only at hi hij hj hlo hhi hback ⊢
    refine V.goF (by first | exact trivial | assumption) Try.func48 tl_ok mixed hS.ops [] 400 ?_
    intro VV VA W hVV hVA hW
    conv => cbv
    cases h2 : ilt (ofN i) (ofN j)
    · conv => cbv
      simp (disch := first | omega | (simp only [hS.glob, wraps, plain, Int.ofNat_eq_natCast]; omega)) only [hS.glob, wraps, plain, Int.ofNat_eq_natCast] at h2
      obtain rfl : i = j := by omega
      rw [hVV]
      clear hVV hVA VV VA hW W
      obtain ⟨i1, hi1⟩ : ∃ i1, i1 = i - 1 := ⟨_, rfl⟩
      refine V.to (s' := [(13, .int .i64 (ofN a)), (10, .int .i64 (ofN i)), (0, .sl 0 0 n), (1, .int .i64 (ofN a)), (2, .int .i64 (ofN m)), (3, .int .i64 (ofN b)), (4, .fn (.func 15) [] [])]) (H' := [some ⟨22, 1, .arr n (icol .u64 g)⟩]) ?_ (by (repeat' first | exact trivial | rfl | (refine And.intro ?_ ?_) | (refine sti ?_; (first | rfl | omega | (simp (disch := omega) only [hS.glob, wraps, plain, Int.ofNat_eq_natCast]; first | done | rfl | omega | (simp; done) | (simp; omega)) | (simp (disch := omega) only [hS.glob, wraps, plain, Int.ofNat_eq_natCast, Vx.toN]; omega))) | (refine slq ?_ ?_ ?_ <;> (first | rfl | omega | (simp (disch := omega) only [hS.glob, wraps, plain, Int.ofNat_eq_natCast]; first | done | rfl | omega | (simp; done) | (simp; omega)) | (simp (disch := omega) only [hS.glob, wraps, plain, Int.ofNat_eq_natCast, Vx.toN]; omega))) | (refine ptq ?_ ?_ ?_ <;> (first | rfl | omega | (simp (disch := omega) only [hS.glob, wraps, plain, Int.ofNat_eq_natCast]; first | done | rfl | omega | (simp; done) | (simp; omega)) | (simp (disch := omega) only [hS.glob, wraps, plain, Int.ofNat_eq_natCast, Vx.toN]; omega))) | (refine blq ?_; (first | rfl | omega | (simp (disch := omega) only [hS.glob, wraps, plain, Int.ofNat_eq_natCast]; first | done | rfl | omega | (simp; done) | (simp; omega)) | (simp (disch := omega) only [hS.glob, wraps, plain, Int.ofNat_eq_natCast, Vx.toN]; omega))))) rfl (by (repeat' first | exact trivial | rfl | exact Nat.le_refl _ | exact (fun _ _ => rfl) | (refine And.intro ?_ ?_) | (simp only [hS.glob, plain]; first | done | omega))) (by rw [hC]; simp)
      refine V.loop (γ := Nat × (Nat → Int)) (fun p => a ≤ p.1 ∧ p.1 < i ∧ ∀ t, p.2 t = rot a (a + 1) (p.1 + 1) g t) (fun p => [(13, .int .i64 (ofN p.1)), (10, .int .i64 (ofN i)), (0, .sl 0 0 n), (1, .int .i64 (ofN a)), (2, .int .i64 (ofN m)), (3, .int .i64 (ofN b)), (4, .fn (.func 15) [] [])]) (fun p => [some ⟨22, 1, .arr n (icol .u64 p.2)⟩]) (fun p => i - p.1) ?_ (a, g) ⟨Nat.le_refl _, by simp only; omega, fun t => (rot_self2 a g t).symm⟩
      rintro ⟨k, l⟩ ⟨hk, hk2, hl⟩ hback
      dsimp only at hk hk2 hl hback ⊢
      refine V.goF (by first | exact trivial | assumption) Try.func48 tl_ok mixed hS.ops [] 400 ?_
      intro VV VA W hVV hVA hW
      conv => cbv
      have ei : isub .i64 (ofN i) 1 = ofN i1 := by subst hi1; (first | rfl | omega | (simp (disch := omega) only [hS.glob, wraps, plain, Int.ofNat_eq_natCast]; first | done | rfl | omega | (simp; done) | (simp; omega)) | (simp (disch := omega) only [hS.glob, wraps, plain, Int.ofNat_eq_natCast, Vx.toN]; omega))
      simp only [ei]
      cases h3 : ilt (ofN k) (ofN i1)
      · conv => cbv
        simp (disch := first | omega | (simp only [hS.glob, wraps, plain, Int.ofNat_eq_natCast]; omega)) only [hS.glob, wraps, plain, Int.ofNat_eq_natCast] at h3
        have ek : k + 1 = i := by omega
        rw [ek] at hl
        rw [h1'] at hB hlo hi
        obtain ⟨r1, r2⟩ := first_law (key := rank) (a := a) (b := b) (i := i) (g := g) hi hj hB hlo hhi
        rw [hQ]
        exact ⟨rfl, l, rfl, r1.congr fun t _ _ => hl t, r2.trans (.refl hl)⟩
      · conv => cbv
        simp (disch := first | omega | (simp only [hS.glob, wraps, plain, Int.ofNat_eq_natCast]; omega)) only [hS.glob, wraps, plain, Int.ofNat_eq_natCast] at h3
        obtain ⟨k1, hk1⟩ : ∃ k1, k1 = k + 1 := ⟨_, rfl⟩
        have ek : iadd .i64 (ofN k) 1 = ofN k1 := by subst hk1; (first | rfl | omega | (simp (disch := omega) only [hS.glob, wraps, plain, Int.ofNat_eq_natCast]; first | done | rfl | omega | (simp; done) | (simp; omega)) | (simp (disch := omega) only [hS.glob, wraps, plain, Int.ofNat_eq_natCast, Vx.toN]; omega))
        simp only [ek]
        repeat (refine ⟨by first | (rw [hW]; show ordOk _ _ _ = true; kernel_rfl) | (first | trivial | omega | (simp (disch := omega) only [hS.glob, wraps, plain, Int.ofNat_eq_natCast]; first | done | omega | trivial | (simp; done) | (simp; omega) | (constructor <;> omega)) | (simp (disch := omega) only [hS.glob, wraps, plain, Int.ofNat_eq_natCast, Vx.toN]; omega)), ?_⟩)
        simp only [hS.tidy]
        rw [hVV]
        clear hVV hVA VV VA hW W
        have rb : ∀ t, rot a (a + 1) (k1 + 1) g t = if t = k1 then l k else if t = k then l k1 else l t := fun t => by
          rw [hk1, rot_fwd hk, hl, hl, hl]
        refine V.to (hback (k1, rot a (a + 1) (k1 + 1) g) ⟨by simp only; omega, by simp only; omega, fun _ => rfl⟩ (by simp only; omega)) (by (repeat' first | exact trivial | rfl | (refine And.intro ?_ ?_) | (refine sti ?_; (first | rfl | omega | (simp (disch := omega) only [hS.glob, wraps, plain, Int.ofNat_eq_natCast]; first | done | rfl | omega | (simp; done) | (simp; omega)) | (simp (disch := omega) only [hS.glob, wraps, plain, Int.ofNat_eq_natCast, Vx.toN]; omega))) | (refine slq ?_ ?_ ?_ <;> (first | rfl | omega | (simp (disch := omega) only [hS.glob, wraps, plain, Int.ofNat_eq_natCast]; first | done | rfl | omega | (simp; done) | (simp; omega)) | (simp (disch := omega) only [hS.glob, wraps, plain, Int.ofNat_eq_natCast, Vx.toN]; omega))) | (refine ptq ?_ ?_ ?_ <;> (first | rfl | omega | (simp (disch := omega) only [hS.glob, wraps, plain, Int.ofNat_eq_natCast]; first | done | rfl | omega | (simp; done) | (simp; omega)) | (simp (disch := omega) only [hS.glob, wraps, plain, Int.ofNat_eq_natCast, Vx.toN]; omega))) | (refine blq ?_; (first | rfl | omega | (simp (disch := omega) only [hS.glob, wraps, plain, Int.ofNat_eq_natCast]; first | done | rfl | omega | (simp; done) | (simp; omega)) | (simp (disch := omega) only [hS.glob, wraps, plain, Int.ofNat_eq_natCast, Vx.toN]; omega))))) rfl ?_ (by rw [hC]; simp)
        (repeat' first | exact trivial | rfl | exact Nat.le_refl _ | exact (fun _ _ => rfl) | (refine And.intro ?_ ?_) | (simp only [hS.glob, plain]; first | done | omega))
        intro t ht
        simp only [icol, hS.tidy, rb]
        cases q1 : eqN t k1
        · simp only [hS.glob, plain] at q1
          simp only [if_neg q1]
          cases q2 : eqN t k
          · simp only [hS.glob, plain] at q2
            simp only [if_neg q2]
          · simp only [hS.glob, plain] at q2
            simp only [if_pos q2]
            rfl
        · simp only [hS.glob, plain] at q1
          simp only [if_pos q1]
          cases q2 : eqN t k
          · rfl
          · rfl
    · conv => cbv
      simp (disch := first | omega | (simp only [hS.glob, wraps, plain, Int.ofNat_eq_natCast]; omega)) only [hS.glob, wraps, plain, Int.ofNat_eq_natCast] at h2
      obtain ⟨q, hq⟩ : ∃ q, q = (i + j) / 2 := ⟨_, rfl⟩
      have em : iconv .i64 (ishr .u64 (iconv .u64 (iadd .i64 (ofN i) (ofN j))) 1) = ofN q := by simp only [hS.glob, Vx.ofN]; rw [hq]; exact mid_nat i j (by omega)
      simp only [em]
      repeat (refine ⟨by first | (rw [hW]; show ordOk _ _ _ = true; kernel_rfl) | (first | trivial | omega | (simp (disch := omega) only [hS.glob, wraps, plain, Int.ofNat_eq_natCast]; first | done | omega | trivial | (simp; done) | (simp; omega) | (constructor <;> omega)) | (simp (disch := omega) only [hS.glob, wraps, plain, Int.ofNat_eq_natCast, Vx.toN]; omega)), ?_⟩)
      simp only [hS.tidy]
      obtain ⟨c, hc⟩ : ∃ c, c = cmpI (rank (g q)) (rank (g a)) := ⟨_, rfl⟩
      rw [hVA]
      refine AnyT.call rfl rfl rfl rfl rfl Try.func15 rfl (by decide) [] (by simp) (by simp) (by (first | rfl | ((conv => cbv); (repeat' apply And.intro) <;> first | rfl | trivial | (first | rfl | omega | (simp (disch := omega) only [hS.glob, wraps, plain, Int.ofNat_eq_natCast]; first | done | rfl | omega | (simp; done) | (simp; omega)) | (simp (disch := omega) only [hS.glob, wraps, plain, Int.ofNat_eq_natCast, Vx.toN]; omega))))) rfl (f15_ok (g q) (g a) c (hu q (by omega)) (hu a (by omega)) hc) ?_
      rintro r Hc ⟨rfl, rfl⟩
      clear hVV hVA VV VA hW W
      refine AnyT.goF (by first | exact trivial | assumption) Try.func48 tl_ok mixed hS.ops [] 400 ?_
      intro VV VA W hVV hVA hW
      conv => cbv
      have hcn := cn q a c hc
      cases h3 : ilt c 0
      · conv => cbv
        simp (disch := first | omega | (simp only [hS.glob, wraps, plain, Int.ofNat_eq_natCast]; omega)) only [hS.glob, wraps, plain, Int.ofNat_eq_natCast] at h3
        rw [hVV]
        clear hVV hVA VV VA hW W
        refine V.to (hback (i, q) ⟨hi, by simp only; omega, by simp only; omega, hlo, fun t t1 t2 => ?_⟩ (by simp only; omega)) (by (repeat' first | exact trivial | rfl | (refine And.intro ?_ ?_) | (refine sti ?_; (first | rfl | omega | (simp (disch := omega) only [hS.glob, wraps, plain, Int.ofNat_eq_natCast]; first | done | rfl | omega | (simp; done) | (simp; omega)) | (simp (disch := omega) only [hS.glob, wraps, plain, Int.ofNat_eq_natCast, Vx.toN]; omega))) | (refine slq ?_ ?_ ?_ <;> (first | rfl | omega | (simp (disch := omega) only [hS.glob, wraps, plain, Int.ofNat_eq_natCast]; first | done | rfl | omega | (simp; done) | (simp; omega)) | (simp (disch := omega) only [hS.glob, wraps, plain, Int.ofNat_eq_natCast, Vx.toN]; omega))) | (refine ptq ?_ ?_ ?_ <;> (first | rfl | omega | (simp (disch := omega) only [hS.glob, wraps, plain, Int.ofNat_eq_natCast]; first | done | rfl | omega | (simp; done) | (simp; omega)) | (simp (disch := omega) only [hS.glob, wraps, plain, Int.ofNat_eq_natCast, Vx.toN]; omega))) | (refine blq ?_; (first | rfl | omega | (simp (disch := omega) only [hS.glob, wraps, plain, Int.ofNat_eq_natCast]; first | done | rfl | omega | (simp; done) | (simp; omega)) | (simp (disch := omega) only [hS.glob, wraps, plain, Int.ofNat_eq_natCast, Vx.toN]; omega))))) rfl (by (repeat' first | exact trivial | rfl | exact Nat.le_refl _ | exact (fun _ _ => rfl) | (refine And.intro ?_ ?_) | (simp only [hS.glob, plain]; first | done | omega))) (by rw [hC]; simp)
        exact Int.le_trans (Int.not_lt.1 fun w => absurd (hcn.2 w) (by omega)) (hB q t (by omega) t1 t2)
      · conv => cbv
        simp (disch := first | omega | (simp only [hS.glob, wraps, plain, Int.ofNat_eq_natCast]; omega)) only [hS.glob, wraps, plain, Int.ofNat_eq_natCast] at h3
        rw [hVV]
        clear hVV hVA VV VA hW W
        refine V.to (hback (q + 1, j) ⟨by simp only; omega, by simp only; omega, hj, fun t t1 t2 => ?_, hhi⟩ (by simp only; omega)) (by (repeat' first | exact trivial | rfl | (refine And.intro ?_ ?_) | (refine sti ?_; (first | rfl | omega | (simp (disch := omega) only [hS.glob, wraps, plain, Int.ofNat_eq_natCast]; first | done | rfl | omega | (simp; done) | (simp; omega)) | (simp (disch := omega) only [hS.glob, wraps, plain, Int.ofNat_eq_natCast, Vx.toN]; omega))) | (refine slq ?_ ?_ ?_ <;> (first | rfl | omega | (simp (disch := omega) only [hS.glob, wraps, plain, Int.ofNat_eq_natCast]; first | done | rfl | omega | (simp; done) | (simp; omega)) | (simp (disch := omega) only [hS.glob, wraps, plain, Int.ofNat_eq_natCast, Vx.toN]; omega))) | (refine ptq ?_ ?_ ?_ <;> (first | rfl | omega | (simp (disch := omega) only [hS.glob, wraps, plain, Int.ofNat_eq_natCast]; first | done | rfl | omega | (simp; done) | (simp; omega)) | (simp (disch := omega) only [hS.glob, wraps, plain, Int.ofNat_eq_natCast, Vx.toN]; omega))) | (refine blq ?_; (first | rfl | omega | (simp (disch := omega) only [hS.glob, wraps, plain, Int.ofNat_eq_natCast]; first | done | rfl | omega | (simp; done) | (simp; omega)) | (simp (disch := omega) only [hS.glob, wraps, plain, Int.ofNat_eq_natCast, Vx.toN]; omega))))) rfl (by (repeat' first | exact trivial | rfl | exact Nat.le_refl _ | exact (fun _ _ => rfl) | (refine And.intro ?_ ?_) | (simp only [hS.glob, plain]; first | done | omega))) (by rw [hC]; simp)
        dsimp only at t2
        exact Int.lt_of_le_of_lt (hB t q t1 (by omega) (by omega)) (hcn.1 h3)
  conv => cbv
  simp (disch := first | omega | (simp only [hS.glob, wraps, plain, Int.ofNat_eq_natCast]; omega)) only [hS.glob, wraps, plain, Int.ofNat_eq_natCast] at h1
  cases h1b : ieq (isub .i64 (ofN b) (ofN m)) 1
  case true =>
    conv => cbv
    simp (disch := first | omega | (simp only [hS.glob, wraps, plain, Int.ofNat_eq_natCast]; omega)) only [hS.glob, wraps, plain, Int.ofNat_eq_natCast] at h1b
    have h1' : b = m + 1 := by omega
    rw [hVV]
    clear hVV hVA VV VA hW W
    refine V.to (s' := [(14, .int .i64 (ofN a)), (15, .int .i64 (ofN m)), (0, .sl 0 0 n), (1, .int .i64 (ofN a)), (2, .int .i64 (ofN m)), (3, .int .i64 (ofN b)), (4, .fn (.func 15) [] [])]) (H' := [some ⟨22, 1, .arr n (icol .u64 g)⟩]) ?_ (by (repeat' first | exact trivial | rfl | (refine And.intro ?_ ?_) | (refine sti ?_; (first | rfl | omega | (simp (disch := omega) only [hS.glob, wraps, plain, Int.ofNat_eq_natCast]; first | done | rfl | omega | (simp; done) | (simp; omega)) | (simp (disch := omega) only [hS.glob, wraps, plain, Int.ofNat_eq_natCast, Vx.toN]; omega))) | (refine slq ?_ ?_ ?_ <;> (first | rfl | omega | (simp (disch := omega) only [hS.glob, wraps, plain, Int.ofNat_eq_natCast]; first | done | rfl | omega | (simp; done) | (simp; omega)) | (simp (disch := omega) only [hS.glob, wraps, plain, Int.ofNat_eq_natCast, Vx.toN]; omega))) | (refine ptq ?_ ?_ ?_ <;> (first | rfl | omega | (simp (disch := omega) only [hS.glob, wraps, plain, Int.ofNat_eq_natCast]; first | done | rfl | omega | (simp; done) | (simp; omega)) | (simp (disch := omega) only [hS.glob, wraps, plain, Int.ofNat_eq_natCast, Vx.toN]; omega))) | (refine blq ?_; (first | rfl | omega | (simp (disch := omega) only [hS.glob, wraps, plain, Int.ofNat_eq_natCast]; first | done | rfl | omega | (simp; done) | (simp; omega)) | (simp (disch := omega) only [hS.glob, wraps, plain, Int.ofNat_eq_natCast, Vx.toN]; omega))))) rfl (by (repeat' first | exact trivial | rfl | exact Nat.le_refl _ | exact (fun _ _ => rfl) | (refine And.intro ?_ ?_) | (simp only [hS.glob, plain]; first | done | omega))) (by rw [hC]; simp)
    refine V.loop (γ := Nat × Nat) (fun p => a ≤ p.1 ∧ p.1 ≤ p.2 ∧ p.2 ≤ m ∧ (∀ t, a ≤ t → t < p.1 → rank (g t) ≤ rank (g m)) ∧ ∀ t, p.2 ≤ t → t < m → rank (g m) < rank (g t)) (fun p => [(14, .int .i64 (ofN p.1)), (15, .int .i64 (ofN p.2)), (0, .sl 0 0 n), (1, .int .i64 (ofN a)), (2, .int .i64 (ofN m)), (3, .int .i64 (ofN b)), (4, .fn (.func 15) [] [])]) (fun _ => [some ⟨22, 1, .arr n (icol .u64 g)⟩]) (fun p => p.2 - p.1) ?_ (a, m) ⟨Nat.le_refl _, by simp only; omega, Nat.le_refl _, fun t t1 t2 => by simp only at t2; omega, fun t t1 t2 => by simp only at t1; omega⟩
    rintro ⟨i, j⟩ ⟨hi, hij, hj, hlo, hhi⟩ hback
    dsimp only at hi hij hj hlo hhi hback ⊢
    refine V.goF (by first | exact trivial | assumption) Try.func48 tl_ok mixed hS.ops [] 400 ?_
    intro VV VA W hVV hVA hW
    conv => cbv
    cases h2 : ilt (ofN i) (ofN j)
    · conv => cbv
      simp (disch := first | omega | (simp only [hS.glob, wraps, plain, Int.ofNat_eq_natCast]; omega)) only [hS.glob, wraps, plain, Int.ofNat_eq_natCast] at h2
      obtain rfl : i = j := by omega
      rw [hVV]
      clear hVV hVA VV VA hW W
      refine V.to (s' := [(17, .int .i64 (ofN m)), (14, .int .i64 (ofN i)), (0, .sl 0 0 n), (1, .int .i64 (ofN a)), (2, .int .i64 (ofN m)), (3, .int .i64 (ofN b)), (4, .fn (.func 15) [] [])]) (H' := [some ⟨22, 1, .arr n (icol .u64 g)⟩]) ?_ (by (repeat' first | exact trivial | rfl | (refine And.intro ?_ ?_) | (refine sti ?_; (first | rfl | omega | (simp (disch := omega) only [hS.glob, wraps, plain, Int.ofNat_eq_natCast]; first | done | rfl | omega | (simp; done) | (simp; omega)) | (simp (disch := omega) only [hS.glob, wraps, plain, Int.ofNat_eq_natCast, Vx.toN]; omega))) | (refine slq ?_ ?_ ?_ <;> (first | rfl | omega | (simp (disch := omega) only [hS.glob, wraps, plain, Int.ofNat_eq_natCast]; first | done | rfl | omega | (simp; done) | (simp; omega)) | (simp (disch := omega) only [hS.glob, wraps, plain, Int.ofNat_eq_natCast, Vx.toN]; omega))) | (refine ptq ?_ ?_ ?_ <;> (first | rfl | omega | (simp (disch := omega) only [hS.glob, wraps, plain, Int.ofNat_eq_natCast]; first | done | rfl | omega | (simp; done) | (simp; omega)) | (simp (disch := omega) only [hS.glob, wraps, plain, Int.ofNat_eq_natCast, Vx.toN]; omega))) | (refine blq ?_; (first | rfl | omega | (simp (disch := omega) only [hS.glob, wraps, plain, Int.ofNat_eq_natCast]; first | done | rfl | omega | (simp; done) | (simp; omega)) | (simp (disch := omega) only [hS.glob, wraps, plain, Int.ofNat_eq_natCast, Vx.toN]; omega))))) rfl (by (repeat' first | exact trivial | rfl | exact Nat.le_refl _ | exact (fun _ _ => rfl) | (refine And.intro ?_ ?_) | (simp only [hS.glob, plain]; first | done | omega))) (by rw [hC]; simp)
      refine V.loop (γ := Nat × (Nat → Int)) (fun p => i ≤ p.1 ∧ p.1 ≤ m ∧ ∀ t, p.2 t = rot p.1 m (m + 1) g t) (fun p => [(17, .int .i64 (ofN p.1)), (14, .int .i64 (ofN i)), (0, .sl 0 0 n), (1, .int .i64 (ofN a)), (2, .int .i64 (ofN m)), (3, .int .i64 (ofN b)), (4, .fn (.func 15) [] [])]) (fun p => [some ⟨22, 1, .arr n (icol .u64 p.2)⟩]) (fun p => p.1) ?_ (m, g) ⟨hj, Nat.le_refl _, fun t => (rot_self m g t).symm⟩
      rintro ⟨k, l⟩ ⟨hk, hk2, hl⟩ hback
      dsimp only at hk hk2 hl hback ⊢
      refine V.goF (by first | exact trivial | assumption) Try.func48 tl_ok mixed hS.ops [] 400 ?_
      intro VV VA W hVV hVA hW
      conv => cbv
      cases h3 : igt (ofN k) (ofN i)
      · conv => cbv
        simp (disch := first | omega | (simp only [hS.glob, wraps, plain, Int.ofNat_eq_natCast]; omega)) only [hS.glob, wraps, plain, Int.ofNat_eq_natCast] at h3
        obtain rfl : k = i := by omega
        obtain ⟨r1, r2⟩ := last_law (key := rank) (a := a) (m := m) (i := k) (g := g) hi hj hA hlo hhi
        rw [hQ, h1']
        exact ⟨rfl, l, rfl, r1.congr fun t _ _ => hl t, r2.trans (.refl hl)⟩
      · conv => cbv
        simp (disch := first | omega | (simp only [hS.glob, wraps, plain, Int.ofNat_eq_natCast]; omega)) only [hS.glob, wraps, plain, Int.ofNat_eq_natCast] at h3
        obtain ⟨q, hq⟩ : ∃ q, q = k - 1 := ⟨_, rfl⟩
        have eq1 : isub .i64 (ofN k) 1 = ofN q := by subst hq; (first | rfl | omega | (simp (disch := omega) only [hS.glob, wraps, plain, Int.ofNat_eq_natCast]; first | done | rfl | omega | (simp; done) | (simp; omega)) | (simp (disch := omega) only [hS.glob, wraps, plain, Int.ofNat_eq_natCast, Vx.toN]; omega))
        simp only [eq1]
        repeat (refine ⟨by first | (rw [hW]; show ordOk _ _ _ = true; kernel_rfl) | (first | trivial | omega | (simp (disch := omega) only [hS.glob, wraps, plain, Int.ofNat_eq_natCast]; first | done | omega | trivial | (simp; done) | (simp; omega) | (constructor <;> omega)) | (simp (disch := omega) only [hS.glob, wraps, plain, Int.ofNat_eq_natCast, Vx.toN]; omega)), ?_⟩)
        simp only [hS.tidy]
        rw [hVV]
        clear hVV hVA VV VA hW W
        have rb : ∀ j, rot q m (m + 1) g j = if j = q then l k else if j = k then l q else l j := fun j => by
          rw [hq, rot_back (by omega) hk2, hl, hl, hl]
        refine V.to (hback (q, rot q m (m + 1) g) ⟨by simp only; omega, by simp only; omega, fun _ => rfl⟩ (by simp only; omega)) (by (repeat' first | exact trivial | rfl | (refine And.intro ?_ ?_) | (refine sti ?_; (first | rfl | omega | (simp (disch := omega) only [hS.glob, wraps, plain, Int.ofNat_eq_natCast]; first | done | rfl | omega | (simp; done) | (simp; omega)) | (simp (disch := omega) only [hS.glob, wraps, plain, Int.ofNat_eq_natCast, Vx.toN]; omega))) | (refine slq ?_ ?_ ?_ <;> (first | rfl | omega | (simp (disch := omega) only [hS.glob, wraps, plain, Int.ofNat_eq_natCast]; first | done | rfl | omega | (simp; done) | (simp; omega)) | (simp (disch := omega) only [hS.glob, wraps, plain, Int.ofNat_eq_natCast, Vx.toN]; omega))) | (refine ptq ?_ ?_ ?_ <;> (first | rfl | omega | (simp (disch := omega) only [hS.glob, wraps, plain, Int.ofNat_eq_natCast]; first | done | rfl | omega | (simp; done) | (simp; omega)) | (simp (disch := omega) only [hS.glob, wraps, plain, Int.ofNat_eq_natCast, Vx.toN]; omega))) | (refine blq ?_; (first | rfl | omega | (simp (disch := omega) only [hS.glob, wraps, plain, Int.ofNat_eq_natCast]; first | done | rfl | omega | (simp; done) | (simp; omega)) | (simp (disch := omega) only [hS.glob, wraps, plain, Int.ofNat_eq_natCast, Vx.toN]; omega))))) rfl ?_ (by rw [hC]; simp)
        (repeat' first | exact trivial | rfl | exact Nat.le_refl _ | exact (fun _ _ => rfl) | (refine And.intro ?_ ?_) | (simp only [hS.glob, plain]; first | done | omega))
        intro j hj
        simp only [icol, hS.tidy, rb]
        cases q1 : eqN j q
        · simp only [hS.glob, plain] at q1
          simp only [if_neg q1]
          cases q2 : eqN j k
          · simp only [hS.glob, plain] at q2
            simp only [if_neg q2]
          · simp only [hS.glob, plain] at q2
            simp only [if_pos q2]
            rfl
        · simp only [hS.glob, plain] at q1
          simp only [if_pos q1]
          cases q2 : eqN j k
          · rfl
          · rfl
    · conv => cbv
      simp (disch := first | omega | (simp only [hS.glob, wraps, plain, Int.ofNat_eq_natCast]; omega)) only [hS.glob, wraps, plain, Int.ofNat_eq_natCast] at h2
      obtain ⟨q, hq⟩ : ∃ q, q = (i + j) / 2 := ⟨_, rfl⟩
      have em : iconv .i64 (ishr .u64 (iconv .u64 (iadd .i64 (ofN i) (ofN j))) 1) = ofN q := by simp only [hS.glob, Vx.ofN]; rw [hq]; exact mid_nat i j (by omega)
      simp only [em]
      repeat (refine ⟨by first | (rw [hW]; show ordOk _ _ _ = true; kernel_rfl) | (first | trivial | omega | (simp (disch := omega) only [hS.glob, wraps, plain, Int.ofNat_eq_natCast]; first | done | omega | trivial | (simp; done) | (simp; omega) | (constructor <;> omega)) | (simp (disch := omega) only [hS.glob, wraps, plain, Int.ofNat_eq_natCast, Vx.toN]; omega)), ?_⟩)
      simp only [hS.tidy]
      obtain ⟨c, hc⟩ : ∃ c, c = cmpI (rank (g m)) (rank (g q)) := ⟨_, rfl⟩
      rw [hVA]
      refine AnyT.call rfl rfl rfl rfl rfl Try.func15 rfl (by decide) [] (by simp) (by simp) (by (first | rfl | ((conv => cbv); (repeat' apply And.intro) <;> first | rfl | trivial | (first | rfl | omega | (simp (disch := omega) only [hS.glob, wraps, plain, Int.ofNat_eq_natCast]; first | done | rfl | omega | (simp; done) | (simp; omega)) | (simp (disch := omega) only [hS.glob, wraps, plain, Int.ofNat_eq_natCast, Vx.toN]; omega))))) rfl (f15_ok (g m) (g q) c (hu m (by omega)) (hu q (by omega)) hc) ?_
      rintro r Hc ⟨rfl, rfl⟩
      clear hVV hVA VV VA hW W
      refine AnyT.goF (by first | exact trivial | assumption) Try.func48 tl_ok mixed hS.ops [] 400 ?_
      intro VV VA W hVV hVA hW
      conv => cbv
      have hcn := cn m q c hc
      cases h3 : ilt c 0
      · conv => cbv
        simp (disch := first | omega | (simp only [hS.glob, wraps, plain, Int.ofNat_eq_natCast]; omega)) only [hS.glob, wraps, plain, Int.ofNat_eq_natCast] at h3
        rw [hVV]
        clear hVV hVA VV VA hW W
        refine V.to (hback (q + 1, j) ⟨by simp only; omega, by simp only; omega, hj, fun t t1 t2 => ?_, hhi⟩ (by simp only; omega)) (by (repeat' first | exact trivial | rfl | (refine And.intro ?_ ?_) | (refine sti ?_; (first | rfl | omega | (simp (disch := omega) only [hS.glob, wraps, plain, Int.ofNat_eq_natCast]; first | done | rfl | omega | (simp; done) | (simp; omega)) | (simp (disch := omega) only [hS.glob, wraps, plain, Int.ofNat_eq_natCast, Vx.toN]; omega))) | (refine slq ?_ ?_ ?_ <;> (first | rfl | omega | (simp (disch := omega) only [hS.glob, wraps, plain, Int.ofNat_eq_natCast]; first | done | rfl | omega | (simp; done) | (simp; omega)) | (simp (disch := omega) only [hS.glob, wraps, plain, Int.ofNat_eq_natCast, Vx.toN]; omega))) | (refine ptq ?_ ?_ ?_ <;> (first | rfl | omega | (simp (disch := omega) only [hS.glob, wraps, plain, Int.ofNat_eq_natCast]; first | done | rfl | omega | (simp; done) | (simp; omega)) | (simp (disch := omega) only [hS.glob, wraps, plain, Int.ofNat_eq_natCast, Vx.toN]; omega))) | (refine blq ?_; (first | rfl | omega | (simp (disch := omega) only [hS.glob, wraps, plain, Int.ofNat_eq_natCast]; first | done | rfl | omega | (simp; done) | (simp; omega)) | (simp (disch := omega) only [hS.glob, wraps, plain, Int.ofNat_eq_natCast, Vx.toN]; omega))))) rfl (by (repeat' first | exact trivial | rfl | exact Nat.le_refl _ | exact (fun _ _ => rfl) | (refine And.intro ?_ ?_) | (simp only [hS.glob, plain]; first | done | omega))) (by rw [hC]; simp)
        dsimp only at t2
        exact Int.le_trans (hA t q t1 (by omega) (by omega)) (Int.not_lt.1 fun w => absurd (hcn.2 w) (by omega))
      · conv => cbv
        simp (disch := first | omega | (simp only [hS.glob, wraps, plain, Int.ofNat_eq_natCast]; omega)) only [hS.glob, wraps, plain, Int.ofNat_eq_natCast] at h3
        rw [hVV]
        clear hVV hVA VV VA hW W
        refine V.to (hback (i, q) ⟨hi, by simp only; omega, by simp only; omega, hlo, fun t t1 t2 => ?_⟩ (by simp only; omega)) (by (repeat' first | exact trivial | rfl | (refine And.intro ?_ ?_) | (refine sti ?_; (first | rfl | omega | (simp (disch := omega) only [hS.glob, wraps, plain, Int.ofNat_eq_natCast]; first | done | rfl | omega | (simp; done) | (simp; omega)) | (simp (disch := omega) only [hS.glob, wraps, plain, Int.ofNat_eq_natCast, Vx.toN]; omega))) | (refine slq ?_ ?_ ?_ <;> (first | rfl | omega | (simp (disch := omega) only [hS.glob, wraps, plain, Int.ofNat_eq_natCast]; first | done | rfl | omega | (simp; done) | (simp; omega)) | (simp (disch := omega) only [hS.glob, wraps, plain, Int.ofNat_eq_natCast, Vx.toN]; omega))) | (refine ptq ?_ ?_ ?_ <;> (first | rfl | omega | (simp (disch := omega) only [hS.glob, wraps, plain, Int.ofNat_eq_natCast]; first | done | rfl | omega | (simp; done) | (simp; omega)) | (simp (disch := omega) only [hS.glob, wraps, plain, Int.ofNat_eq_natCast, Vx.toN]; omega))) | (refine blq ?_; (first | rfl | omega | (simp (disch := omega) only [hS.glob, wraps, plain, Int.ofNat_eq_natCast]; first | done | rfl | omega | (simp; done) | (simp; omega)) | (simp (disch := omega) only [hS.glob, wraps, plain, Int.ofNat_eq_natCast, Vx.toN]; omega))))) rfl (by (repeat' first | exact trivial | rfl | exact Nat.le_refl _ | exact (fun _ _ => rfl) | (refine And.intro ?_ ?_) | (simp only [hS.glob, plain]; first | done | omega))) (by rw [hC]; simp)
        exact Int.lt_of_lt_of_le (hcn.1 h3) (hA q t (by omega) t1 t2)
  conv => cbv
  simp (disch := first | omega | (simp only [hS.glob, wraps, plain, Int.ofNat_eq_natCast]; omega)) only [hS.glob, wraps, plain, Int.ofNat_eq_natCast] at h1b
  obtain ⟨mid, hmid⟩ : ∃ mid, mid = (a + b) / 2 := ⟨_, rfl⟩
  have em : iconv .i64 (ishr .u64 (iconv .u64 (iadd .i64 (ofN a) (ofN b))) 1) = ofN mid := by simp only [hS.glob, Vx.ofN]; rw [hmid]; exact mid_nat a b (by omega)
  obtain ⟨nn, hnn⟩ : ∃ nn, nn = mid + m := ⟨_, rfl⟩
  have en : iadd .i64 (ofN mid) (ofN m) = ofN nn := by subst hnn; (first | rfl | omega | (simp (disch := omega) only [hS.glob, wraps, plain, Int.ofNat_eq_natCast]; first | done | rfl | omega | (simp; done) | (simp; omega)) | (simp (disch := omega) only [hS.glob, wraps, plain, Int.ofNat_eq_natCast, Vx.toN]; omega))
  obtain ⟨lo, hi, hc⟩ : ∃ lo hi, (mid < m ∧ lo = mid + m - b ∧ hi = mid) ∨ (m ≤ mid ∧ lo = a ∧ hi = m) := by
    by_cases h : mid < m
    · exact ⟨_, _, .inl ⟨h, rfl, rfl⟩⟩
    · exact ⟨_, _, .inr ⟨by omega, rfl, rfl⟩⟩
  obtain ⟨p, hp⟩ : ∃ p, p = mid + m - 1 := ⟨_, rfl⟩
  have ep : isub .i64 (ofN nn) 1 = ofN p := by subst hnn hp; (first | rfl | omega | (simp (disch := omega) only [hS.glob, wraps, plain, Int.ofNat_eq_natCast]; first | done | rfl | omega | (simp; done) | (simp; omega)) | (simp (disch := omega) only [hS.glob, wraps, plain, Int.ofNat_eq_natCast, Vx.toN]; omega))
  have step := fun c => search_step (key := rank) (c := c) ham hmb hA hB hmid hc
  have found := fun s => search_law (key := rank) (s := s) ham hmb hA hB hmid hc
  simp only [em, en]
  apply cut
  · intro next
    cases h2 : igt (ofN m) (ofN mid)
    all_goals
      conv => cbv
      simp (disch := first | omega | (simp only [hS.glob, wraps, plain, Int.ofNat_eq_natCast]; omega)) only [hS.glob, wraps, plain, Int.ofNat_eq_natCast] at h2
      repeat (refine ⟨by first | (rw [hW]; show ordOk _ _ _ = true; kernel_rfl) | (first | trivial | omega | (simp (disch := omega) only [hS.glob, wraps, plain, Int.ofNat_eq_natCast]; first | done | omega | trivial | (simp; done) | (simp; omega) | (constructor <;> omega)) | (simp (disch := omega) only [hS.glob, wraps, plain, Int.ofNat_eq_natCast, Vx.toN]; omega)), ?_⟩)
      rw [hVV]
      exact V.to (s' := [(22, .int .i64 (ofN p)), (18, .int .i64 (ofN mid)), (19, .int .i64 (ofN nn)), (20, .int .i64 (ofN lo)), (21, .int .i64 (ofN hi)), (0, .sl 0 0 n), (1, .int .i64 (ofN a)), (2, .int .i64 (ofN m)), (3, .int .i64 (ofN b)), (4, .fn (.func 15) [] [])]) (H' := [some ⟨22, 1, .arr n (icol .u64 g)⟩]) next.get (by (repeat' first | exact trivial | rfl | (refine And.intro ?_ ?_) | (refine sti ?_; (first | rfl | omega | (simp (disch := omega) only [hS.glob, wraps, plain, Int.ofNat_eq_natCast]; first | done | rfl | omega | (simp; done) | (simp; omega)) | (simp (disch := omega) only [hS.glob, wraps, plain, Int.ofNat_eq_natCast, Vx.toN]; omega))) | (refine slq ?_ ?_ ?_ <;> (first | rfl | omega | (simp (disch := omega) only [hS.glob, wraps, plain, Int.ofNat_eq_natCast]; first | done | rfl | omega | (simp; done) | (simp; omega)) | (simp (disch := omega) only [hS.glob, wraps, plain, Int.ofNat_eq_natCast, Vx.toN]; omega))) | (refine ptq ?_ ?_ ?_ <;> (first | rfl | omega | (simp (disch := omega) only [hS.glob, wraps, plain, Int.ofNat_eq_natCast]; first | done | rfl | omega | (simp; done) | (simp; omega)) | (simp (disch := omega) only [hS.glob, wraps, plain, Int.ofNat_eq_natCast, Vx.toN]; omega))) | (refine blq ?_; (first | rfl | omega | (simp (disch := omega) only [hS.glob, wraps, plain, Int.ofNat_eq_natCast]; first | done | rfl | omega | (simp; done) | (simp; omega)) | (simp (disch := omega) only [hS.glob, wraps, plain, Int.ofNat_eq_natCast, Vx.toN]; omega))))) rfl (by (repeat' first | exact trivial | rfl | exact Nat.le_refl _ | exact (fun _ _ => rfl) | (refine And.intro ?_ ?_) | (simp only [hS.glob, plain]; first | done | omega))) (by rw [hC]; simp)
  clear hVV hVA VV VA hW W
  refine V.to (s' := [(20, .int .i64 (ofN lo)), (21, .int .i64 (ofN hi)), (22, .int .i64 (ofN p)), (18, .int .i64 (ofN mid)), (19, .int .i64 (ofN nn)), (0, .sl 0 0 n), (1, .int .i64 (ofN a)), (2, .int .i64 (ofN m)), (3, .int .i64 (ofN b)), (4, .fn (.func 15) [] [])]) (H' := [some ⟨22, 1, .arr n (icol .u64 g)⟩]) ?_ (by (repeat' first | exact trivial | rfl | (refine And.intro ?_ ?_) | (refine sti ?_; (first | rfl | omega | (simp (disch := omega) only [hS.glob, wraps, plain, Int.ofNat_eq_natCast]; first | done | rfl | omega | (simp; done) | (simp; omega)) | (simp (disch := omega) only [hS.glob, wraps, plain, Int.ofNat_eq_natCast, Vx.toN]; omega))) | (refine slq ?_ ?_ ?_ <;> (first | rfl | omega | (simp (disch := omega) only [hS.glob, wraps, plain, Int.ofNat_eq_natCast]; first | done | rfl | omega | (simp; done) | (simp; omega)) | (simp (disch := omega) only [hS.glob, wraps, plain, Int.ofNat_eq_natCast, Vx.toN]; omega))) | (refine ptq ?_ ?_ ?_ <;> (first | rfl | omega | (simp (disch := omega) only [hS.glob, wraps, plain, Int.ofNat_eq_natCast]; first | done | rfl | omega | (simp; done) | (simp; omega)) | (simp (disch := omega) only [hS.glob, wraps, plain, Int.ofNat_eq_natCast, Vx.toN]; omega))) | (refine blq ?_; (first | rfl | omega | (simp (disch := omega) only [hS.glob, wraps, plain, Int.ofNat_eq_natCast]; first | done | rfl | omega | (simp; done) | (simp; omega)) | (simp (disch := omega) only [hS.glob, wraps, plain, Int.ofNat_eq_natCast, Vx.toN]; omega))))) rfl (by (repeat' first | exact trivial | rfl | exact Nat.le_refl _ | exact (fun _ _ => rfl) | (refine And.intro ?_ ?_) | (simp only [hS.glob, plain]; first | done | omega))) (by rw [hC]; simp)
  refine V.loop (γ := Nat × Nat) (fun w => lo ≤ w.1 ∧ w.1 ≤ w.2 ∧ w.2 ≤ hi ∧ (∀ t, lo ≤ t → t < w.1 → rank (g t) ≤ rank (g (mid + m - 1 - t))) ∧ ∀ t, w.2 ≤ t → t < hi → rank (g (mid + m - 1 - t)) < rank (g t)) (fun w => [(20, .int .i64 (ofN w.1)), (21, .int .i64 (ofN w.2)), (22, .int .i64 (ofN p)), (18, .int .i64 (ofN mid)), (19, .int .i64 (ofN nn)), (0, .sl 0 0 n), (1, .int .i64 (ofN a)), (2, .int .i64 (ofN m)), (3, .int .i64 (ofN b)), (4, .fn (.func 15) [] [])]) (fun _ => [some ⟨22, 1, .arr n (icol .u64 g)⟩]) (fun w => w.2 - w.1) ?_ (lo, hi) ⟨Nat.le_refl _, by simp only; omega, Nat.le_refl _, fun t t1 t2 => by simp only at t2; omega, fun t t1 t2 => by simp only at t1; omega⟩
  rintro ⟨s, r⟩ ⟨hs, hsr, hr, hlo, hhi⟩ hback
  dsimp only at hs hsr hr hlo hhi hback ⊢
  refine V.goF (by first | exact trivial | assumption) Try.func48 tl_ok mixed hS.ops [] 400 ?_
  intro VV VA W hVV hVA hW
  conv => cbv
  cases h2 : ilt (ofN s) (ofN r)
  case true =>
    conv => cbv
    simp (disch := first | omega | (simp only [hS.glob, wraps, plain, Int.ofNat_eq_natCast]; omega)) only [hS.glob, wraps, plain, Int.ofNat_eq_natCast] at h2
    obtain ⟨q, hq⟩ : ∃ q, q = (s + r) / 2 := ⟨_, rfl⟩
    have em : iconv .i64 (ishr .u64 (iconv .u64 (iadd .i64 (ofN s) (ofN r))) 1) = ofN q := by simp only [hS.glob, Vx.ofN]; rw [hq]; exact mid_nat s r (by omega)
    obtain ⟨s1, s2, s3, s4, s5, s6⟩ := step q (by omega) (by omega)
    obtain ⟨u, hu2⟩ : ∃ u, u = p - q := ⟨_, rfl⟩
    have eu : isub .i64 (ofN p) (ofN q) = ofN u := by subst hu2; (first | rfl | omega | (simp (disch := omega) only [hS.glob, wraps, plain, Int.ofNat_eq_natCast]; first | done | rfl | omega | (simp; done) | (simp; omega)) | (simp (disch := omega) only [hS.glob, wraps, plain, Int.ofNat_eq_natCast, Vx.toN]; omega))
    have eu2 : mid + m - 1 - q = u := by omega
    rw [eu2] at s1 s2 s3 s4
    simp only [em, eu]
    repeat (refine ⟨by first | (rw [hW]; show ordOk _ _ _ = true; kernel_rfl) | (first | trivial | omega | (simp (disch := omega) only [hS.glob, wraps, plain, Int.ofNat_eq_natCast]; first | done | omega | trivial | (simp; done) | (simp; omega) | (constructor <;> omega)) | (simp (disch := omega) only [hS.glob, wraps, plain, Int.ofNat_eq_natCast, Vx.toN]; omega)), ?_⟩)
    simp only [hS.tidy]
    obtain ⟨c, hc⟩ : ∃ c, c = cmpI (rank (g u)) (rank (g q)) := ⟨_, rfl⟩
    rw [hVA]
    refine AnyT.call rfl rfl rfl rfl rfl Try.func15 rfl (by decide) [] (by simp) (by simp) (by (first | rfl | ((conv => cbv); (repeat' apply And.intro) <;> first | rfl | trivial | (first | rfl | omega | (simp (disch := omega) only [hS.glob, wraps, plain, Int.ofNat_eq_natCast]; first | done | rfl | omega | (simp; done) | (simp; omega)) | (simp (disch := omega) only [hS.glob, wraps, plain, Int.ofNat_eq_natCast, Vx.toN]; omega))))) rfl (f15_ok (g u) (g q) c (hu u (by omega)) (hu q (by omega)) hc) ?_
    rintro r Hc ⟨rfl, rfl⟩
    clear hVV hVA VV VA hW W
    refine AnyT.goF (by first | exact trivial | assumption) Try.func48 tl_ok mixed hS.ops [] 400 ?_
    intro VV VA W hVV hVA hW
    conv => cbv
    have hcn := cn u q c hc
    cases h3 : ilt c 0
    · conv => cbv
      simp (disch := first | omega | (simp only [hS.glob, wraps, plain, Int.ofNat_eq_natCast]; omega)) only [hS.glob, wraps, plain, Int.ofNat_eq_natCast] at h3
      rw [hVV]
      clear hVV hVA VV VA hW W
      refine V.to (hback (q + 1, _) ⟨by simp only; omega, by simp only; omega, hr, s1 (Int.not_lt.1 fun w => absurd (hcn.2 w) (by omega)), hhi⟩ (by simp only; omega)) (by (repeat' first | exact trivial | rfl | (refine And.intro ?_ ?_) | (refine sti ?_; (first | rfl | omega | (simp (disch := omega) only [hS.glob, wraps, plain, Int.ofNat_eq_natCast]; first | done | rfl | omega | (simp; done) | (simp; omega)) | (simp (disch := omega) only [hS.glob, wraps, plain, Int.ofNat_eq_natCast, Vx.toN]; omega))) | (refine slq ?_ ?_ ?_ <;> (first | rfl | omega | (simp (disch := omega) only [hS.glob, wraps, plain, Int.ofNat_eq_natCast]; first | done | rfl | omega | (simp; done) | (simp; omega)) | (simp (disch := omega) only [hS.glob, wraps, plain, Int.ofNat_eq_natCast, Vx.toN]; omega))) | (refine ptq ?_ ?_ ?_ <;> (first | rfl | omega | (simp (disch := omega) only [hS.glob, wraps, plain, Int.ofNat_eq_natCast]; first | done | rfl | omega | (simp; done) | (simp; omega)) | (simp (disch := omega) only [hS.glob, wraps, plain, Int.ofNat_eq_natCast, Vx.toN]; omega))) | (refine blq ?_; (first | rfl | omega | (simp (disch := omega) only [hS.glob, wraps, plain, Int.ofNat_eq_natCast]; first | done | rfl | omega | (simp; done) | (simp; omega)) | (simp (disch := omega) only [hS.glob, wraps, plain, Int.ofNat_eq_natCast, Vx.toN]; omega))))) rfl (by (repeat' first | exact trivial | rfl | exact Nat.le_refl _ | exact (fun _ _ => rfl) | (refine And.intro ?_ ?_) | (simp only [hS.glob, plain]; first | done | omega))) (by rw [hC]; simp)
    · conv => cbv
      simp (disch := first | omega | (simp only [hS.glob, wraps, plain, Int.ofNat_eq_natCast]; omega)) only [hS.glob, wraps, plain, Int.ofNat_eq_natCast] at h3
      rw [hVV]
      clear hVV hVA VV VA hW W
      refine V.to (hback (s, q) ⟨hs, by simp only; omega, by simp only; omega, hlo, s2 (hcn.1 h3)⟩ (by simp only; omega)) (by (repeat' first | exact trivial | rfl | (refine And.intro ?_ ?_) | (refine sti ?_; (first | rfl | omega | (simp (disch := omega) only [hS.glob, wraps, plain, Int.ofNat_eq_natCast]; first | done | rfl | omega | (simp; done) | (simp; omega)) | (simp (disch := omega) only [hS.glob, wraps, plain, Int.ofNat_eq_natCast, Vx.toN]; omega))) | (refine slq ?_ ?_ ?_ <;> (first | rfl | omega | (simp (disch := omega) only [hS.glob, wraps, plain, Int.ofNat_eq_natCast]; first | done | rfl | omega | (simp; done) | (simp; omega)) | (simp (disch := omega) only [hS.glob, wraps, plain, Int.ofNat_eq_natCast, Vx.toN]; omega))) | (refine ptq ?_ ?_ ?_ <;> (first | rfl | omega | (simp (disch := omega) only [hS.glob, wraps, plain, Int.ofNat_eq_natCast]; first | done | rfl | omega | (simp; done) | (simp; omega)) | (simp (disch := omega) only [hS.glob, wraps, plain, Int.ofNat_eq_natCast, Vx.toN]; omega))) | (refine blq ?_; (first | rfl | omega | (simp (disch := omega) only [hS.glob, wraps, plain, Int.ofNat_eq_natCast]; first | done | rfl | omega | (simp; done) | (simp; omega)) | (simp (disch := omega) only [hS.glob, wraps, plain, Int.ofNat_eq_natCast, Vx.toN]; omega))))) rfl (by (repeat' first | exact trivial | rfl | exact Nat.le_refl _ | exact (fun _ _ => rfl) | (refine And.intro ?_ ?_) | (simp only [hS.glob, plain]; first | done | omega))) (by rw [hC]; simp)
  conv => cbv
  simp (disch := first | omega | (simp only [hS.glob, wraps, plain, Int.ofNat_eq_natCast]; omega)) only [hS.glob, wraps, plain, Int.ofNat_eq_natCast] at h2
  obtain rfl : s = r := by omega
  obtain ⟨f1, f2, f3, f4, f5, f6, f7, f8⟩ := found s hs hr hlo hhi
  obtain ⟨e, he⟩ : ∃ e, e = mid + m - s := ⟨_, rfl⟩
  have ee : isub .i64 (ofN nn) (ofN s) = ofN e := by subst he hnn; (first | rfl | omega | (simp (disch := omega) only [hS.glob, wraps, plain, Int.ofNat_eq_natCast]; first | done | rfl | omega | (simp; done) | (simp; omega)) | (simp (disch := omega) only [hS.glob, wraps, plain, Int.ofNat_eq_natCast, Vx.toN]; omega))
  rw [← he] at f3 f4 f6 f7 f8
  simp only [ee]
  obtain ⟨R, hR⟩ : ∃ R, R = rot s m e g := ⟨_, rfl⟩
  obtain ⟨g1, g2, g3, g4, g5, g6⟩ := cut_law (key := rank) (e := e) (mid := mid) f1 f2 f3 f4 (by omega) hA hB f7 f8
  rw [← hR] at g1 g2 g3 g4 g5 g6
  have huR := inU_stb hbn hu g1
  have fin3 : ∀ h2, Srt rank h2 a mid → Stb rank a mid R h2 → ∀ k, Srt rank k mid b → Stb rank mid b h2 k → Q (.tup []) [some ⟨22, 1, .arr n (icol .u64 k)⟩] := by
    intro h2 x1 x2 k y1 y2
    obtain ⟨r1, r2⟩ := join_law (key := rank) (by omega) (by omega) g6 x2 x1 y2 y1
    rw [hQ]
    exact ⟨rfl, k, rfl, r1, g1.trans r2⟩
  have none : (s = m ∨ m = e) → R = g := fun h => by
    rw [hR]
    funext t
    exact rot_none f2 f3 h g t
  have call1 := f50_eq n hn g s m e
  clear step found cn hback hQ hlo hhi f7 f8
  cases c1 : ilt (ofN s) (ofN m)
  case false =>
    conv => cbv
    simp (disch := first | omega | (simp only [hS.glob, wraps, plain, Int.ofNat_eq_natCast]; omega)) only [hS.glob, wraps, plain, Int.ofNat_eq_natCast] at c1
    have hgR := none (by omega)
    rw [← hgR]
    cases c3 : ilt (ofN a) (ofN s)
    case false =>
      conv => cbv
      simp (disch := first | omega | (simp only [hS.glob, wraps, plain, Int.ofNat_eq_natCast]; omega)) only [hS.glob, wraps, plain, Int.ofNat_eq_natCast] at c3
      obtain ⟨h2, eh, w1, w2⟩ : ∃ h2, h2 = R ∧ Srt rank h2 a mid ∧ Stb rank a mid R h2 := by
        have e1 : a = s := by omega
        exact ⟨R, rfl, by rw [e1]; exact g3, .refl fun _ => rfl⟩
      rw [← eh]
      have hu2 := inU_stb (by omega) huR w2
      have v3 : Srt rank h2 mid e := g4.congr fun t t1 t2 => w2.out t (by omega)
      have v4 : Srt rank h2 e b := g5.congr fun t t1 t2 => w2.out t (by omega)
      cases c5 : ilt (ofN mid) (ofN e)
      case false =>
        conv => cbv
        simp (disch := first | omega | (simp only [hS.glob, wraps, plain, Int.ofNat_eq_natCast]; omega)) only [hS.glob, wraps, plain, Int.ofNat_eq_natCast] at c5
        have e1 : mid = e := by omega
        exact fin3 h2 w1 w2 h2 (by rw [e1]; exact v4) (.refl fun _ => rfl)
      conv => cbv
      simp (disch := first | omega | (simp only [hS.glob, wraps, plain, Int.ofNat_eq_natCast]; omega)) only [hS.glob, wraps, plain, Int.ofNat_eq_natCast] at c5
      cases c6 : ilt (ofN e) (ofN b)
      case false =>
        conv => cbv
        simp (disch := first | omega | (simp only [hS.glob, wraps, plain, Int.ofNat_eq_natCast]; omega)) only [hS.glob, wraps, plain, Int.ofNat_eq_natCast] at c6
        have e1 : e = b := by omega
        rw [e1] at v3
        exact fin3 h2 w1 w2 h2 v3 (.refl fun _ => rfl)
      conv => cbv
      simp (disch := first | omega | (simp only [hS.glob, wraps, plain, Int.ofNat_eq_natCast]; omega)) only [hS.glob, wraps, plain, Int.ofNat_eq_natCast] at c6
      rw [hVV]
      clear hVV hVA VV VA hW W
      refine V.call rfl rfl rfl rfl rfl Try.func48 rfl (by decide) [0] (by decide) (all_lt (by rfl)) (by (first | rfl | ((conv => cbv); (repeat' apply And.intro) <;> first | rfl | trivial | (first | rfl | omega | (simp (disch := omega) only [hS.glob, wraps, plain, Int.ofNat_eq_natCast]; first | done | rfl | omega | (simp; done) | (simp; omega)) | (simp (disch := omega) only [hS.glob, wraps, plain, Int.ofNat_eq_natCast, Vx.toN]; omega))))) (by rfl) (ih h2 hu2 mid e b (by omega) (by omega) (by omega) hbn v3 v4 (ofN mid) (ofN e) (ofN b) (by simp only [hS.glob, plain]) (by simp only [hS.glob, plain]) (by simp only [hS.glob, plain])) ?_
      rintro r Hc ⟨rfl, h3, rfl, y1, y2⟩
      refine V.goF (by first | exact trivial | assumption) Try.func48 tl_ok mixed hS.ops [] 400 ?_
      intro VV VA W hVV hVA hW
      conv => cbv
      exact fin3 h2 w1 w2 h3 y1 y2
    conv => cbv
    simp (disch := first | omega | (simp only [hS.glob, wraps, plain, Int.ofNat_eq_natCast]; omega)) only [hS.glob, wraps, plain, Int.ofNat_eq_natCast] at c3
    cases c4 : ilt (ofN s) (ofN mid)
    case false =>
      conv => cbv
      simp (disch := first | omega | (simp only [hS.glob, wraps, plain, Int.ofNat_eq_natCast]; omega)) only [hS.glob, wraps, plain, Int.ofNat_eq_natCast] at c4
      obtain ⟨h2, eh, w1, w2⟩ : ∃ h2, h2 = R ∧ Srt rank h2 a mid ∧ Stb rank a mid R h2 := by
        have e1 : mid = s := by omega
        exact ⟨R, rfl, by rw [e1]; exact g2, .refl fun _ => rfl⟩
      rw [← eh]
      have hu2 := inU_stb (by omega) huR w2
      have v3 : Srt rank h2 mid e := g4.congr fun t t1 t2 => w2.out t (by omega)
      have v4 : Srt rank h2 e b := g5.congr fun t t1 t2 => w2.out t (by omega)
      cases c5 : ilt (ofN mid) (ofN e)
      case false =>
        conv => cbv
        simp (disch := first | omega | (simp only [hS.glob, wraps, plain, Int.ofNat_eq_natCast]; omega)) only [hS.glob, wraps, plain, Int.ofNat_eq_natCast] at c5
        have e1 : mid = e := by omega
        exact fin3 h2 w1 w2 h2 (by rw [e1]; exact v4) (.refl fun _ => rfl)
      conv => cbv
      simp (disch := first | omega | (simp only [hS.glob, wraps, plain, Int.ofNat_eq_natCast]; omega)) only [hS.glob, wraps, plain, Int.ofNat_eq_natCast] at c5
      cases c6 : ilt (ofN e) (ofN b)
      case false =>
        conv => cbv
        simp (disch := first | omega | (simp only [hS.glob, wraps, plain, Int.ofNat_eq_natCast]; omega)) only [hS.glob, wraps, plain, Int.ofNat_eq_natCast] at c6
        have e1 : e = b := by omega
        rw [e1] at v3
        exact fin3 h2 w1 w2 h2 v3 (.refl fun _ => rfl)
      conv => cbv
      simp (disch := first | omega | (simp only [hS.glob, wraps, plain, Int.ofNat_eq_natCast]; omega)) only [hS.glob, wraps, plain, Int.ofNat_eq_natCast] at c6
      rw [hVV]
      clear hVV hVA VV VA hW W
      refine V.call rfl rfl rfl rfl rfl Try.func48 rfl (by decide) [0] (by decide) (all_lt (by rfl)) (by (first | rfl | ((conv => cbv); (repeat' apply And.intro) <;> first | rfl | trivial | (first | rfl | omega | (simp (disch := omega) only [hS.glob, wraps, plain, Int.ofNat_eq_natCast]; first | done | rfl | omega | (simp; done) | (simp; omega)) | (simp (disch := omega) only [hS.glob, wraps, plain, Int.ofNat_eq_natCast, Vx.toN]; omega))))) (by rfl) (ih h2 hu2 mid e b (by omega) (by omega) (by omega) hbn v3 v4 (ofN mid) (ofN e) (ofN b) (by simp only [hS.glob, plain]) (by simp only [hS.glob, plain]) (by simp only [hS.glob, plain])) ?_
      rintro r Hc ⟨rfl, h3, rfl, y1, y2⟩
      refine V.goF (by first | exact trivial | assumption) Try.func48 tl_ok mixed hS.ops [] 400 ?_
      intro VV VA W hVV hVA hW
      conv => cbv
      exact fin3 h2 w1 w2 h3 y1 y2
    conv => cbv
    simp (disch := first | omega | (simp only [hS.glob, wraps, plain, Int.ofNat_eq_natCast]; omega)) only [hS.glob, wraps, plain, Int.ofNat_eq_natCast] at c4
    rw [hVV]
    clear hVV hVA VV VA hW W
    refine V.call rfl rfl rfl rfl rfl Try.func48 rfl (by decide) [0] (by decide) (all_lt (by rfl)) (by (first | rfl | ((conv => cbv); (repeat' apply And.intro) <;> first | rfl | trivial | (first | rfl | omega | (simp (disch := omega) only [hS.glob, wraps, plain, Int.ofNat_eq_natCast]; first | done | rfl | omega | (simp; done) | (simp; omega)) | (simp (disch := omega) only [hS.glob, wraps, plain, Int.ofNat_eq_natCast, Vx.toN]; omega))))) (by rfl) (ih R huR a s mid (by omega) (by omega) (by omega) (by omega) g2 g3 (ofN a) (ofN s) (ofN mid) (by simp only [hS.glob, plain]) (by simp only [hS.glob, plain]) (by simp only [hS.glob, plain])) ?_
    rintro r Hc ⟨rfl, h2, rfl, w1, w2⟩
    refine V.goF (by first | exact trivial | assumption) Try.func48 tl_ok mixed hS.ops [] 400 ?_
    intro VV VA W hVV hVA hW
    conv => cbv
    have hu2 := inU_stb (by omega) huR w2
    have v3 : Srt rank h2 mid e := g4.congr fun t t1 t2 => w2.out t (by omega)
    have v4 : Srt rank h2 e b := g5.congr fun t t1 t2 => w2.out t (by omega)
    cases c5 : ilt (ofN mid) (ofN e)
    case false =>
      conv => cbv
      simp (disch := first | omega | (simp only [hS.glob, wraps, plain, Int.ofNat_eq_natCast]; omega)) only [hS.glob, wraps, plain, Int.ofNat_eq_natCast] at c5
      have e1 : mid = e := by omega
      exact fin3 h2 w1 w2 h2 (by rw [e1]; exact v4) (.refl fun _ => rfl)
    conv => cbv
    simp (disch := first | omega | (simp only [hS.glob, wraps, plain, Int.ofNat_eq_natCast]; omega)) only [hS.glob, wraps, plain, Int.ofNat_eq_natCast] at c5
    cases c6 : ilt (ofN e) (ofN b)
    case false =>
      conv => cbv
      simp (disch := first | omega | (simp only [hS.glob, wraps, plain, Int.ofNat_eq_natCast]; omega)) only [hS.glob, wraps, plain, Int.ofNat_eq_natCast] at c6
      have e1 : e = b := by omega
      rw [e1] at v3
      exact fin3 h2 w1 w2 h2 v3 (.refl fun _ => rfl)
    conv => cbv
    simp (disch := first | omega | (simp only [hS.glob, wraps, plain, Int.ofNat_eq_natCast]; omega)) only [hS.glob, wraps, plain, Int.ofNat_eq_natCast] at c6
    rw [hVV]
    clear hVV hVA VV VA hW W
    refine V.call rfl rfl rfl rfl rfl Try.func48 rfl (by decide) [0] (by decide) (all_lt (by rfl)) (by (first | rfl | ((conv => cbv); (repeat' apply And.intro) <;> first | rfl | trivial | (first | rfl | omega | (simp (disch := omega) only [hS.glob, wraps, plain, Int.ofNat_eq_natCast]; first | done | rfl | omega | (simp; done) | (simp; omega)) | (simp (disch := omega) only [hS.glob, wraps, plain, Int.ofNat_eq_natCast, Vx.toN]; omega))))) (by rfl) (ih h2 hu2 mid e b (by omega) (by omega) (by omega) hbn v3 v4 (ofN mid) (ofN e) (ofN b) (by simp only [hS.glob, plain]) (by simp only [hS.glob, plain]) (by simp only [hS.glob, plain])) ?_
    rintro r Hc ⟨rfl, h3, rfl, y1, y2⟩
    refine V.goF (by first | exact trivial | assumption) Try.func48 tl_ok mixed hS.ops [] 400 ?_
    intro VV VA W hVV hVA hW
    conv => cbv
    exact fin3 h2 w1 w2 h3 y1 y2
  conv => cbv
  simp (disch := first | omega | (simp only [hS.glob, wraps, plain, Int.ofNat_eq_natCast]; omega)) only [hS.glob, wraps, plain, Int.ofNat_eq_natCast] at c1
  cases c2 : ilt (ofN m) (ofN e)
  case false =>
    conv => cbv
    simp (disch := first | omega | (simp only [hS.glob, wraps, plain, Int.ofNat_eq_natCast]; omega)) only [hS.glob, wraps, plain, Int.ofNat_eq_natCast] at c2
    have hgR := none (by omega)
    rw [← hgR]
    cases c3 : ilt (ofN a) (ofN s)
    case false =>
      conv => cbv
      simp (disch := first | omega | (simp only [hS.glob, wraps, plain, Int.ofNat_eq_natCast]; omega)) only [hS.glob, wraps, plain, Int.ofNat_eq_natCast] at c3
      obtain ⟨h2, eh, w1, w2⟩ : ∃ h2, h2 = R ∧ Srt rank h2 a mid ∧ Stb rank a mid R h2 := by
        have e1 : a = s := by omega
        exact ⟨R, rfl, by rw [e1]; exact g3, .refl fun _ => rfl⟩
      rw [← eh]
      have hu2 := inU_stb (by omega) huR w2
      have v3 : Srt rank h2 mid e := g4.congr fun t t1 t2 => w2.out t (by omega)
      have v4 : Srt rank h2 e b := g5.congr fun t t1 t2 => w2.out t (by omega)
      cases c5 : ilt (ofN mid) (ofN e)
      case false =>
        conv => cbv
        simp (disch := first | omega | (simp only [hS.glob, wraps, plain, Int.ofNat_eq_natCast]; omega)) only [hS.glob, wraps, plain, Int.ofNat_eq_natCast] at c5
        have e1 : mid = e := by omega
        exact fin3 h2 w1 w2 h2 (by rw [e1]; exact v4) (.refl fun _ => rfl)
      conv => cbv
      simp (disch := first | omega | (simp only [hS.glob, wraps, plain, Int.ofNat_eq_natCast]; omega)) only [hS.glob, wraps, plain, Int.ofNat_eq_natCast] at c5
      cases c6 : ilt (ofN e) (ofN b)
      case false =>
        conv => cbv
        simp (disch := first | omega | (simp only [hS.glob, wraps, plain, Int.ofNat_eq_natCast]; omega)) only [hS.glob, wraps, plain, Int.ofNat_eq_natCast] at c6
        have e1 : e = b := by omega
        rw [e1] at v3
        exact fin3 h2 w1 w2 h2 v3 (.refl fun _ => rfl)
      conv => cbv
      simp (disch := first | omega | (simp only [hS.glob, wraps, plain, Int.ofNat_eq_natCast]; omega)) only [hS.glob, wraps, plain, Int.ofNat_eq_natCast] at c6
      rw [hVV]
      clear hVV hVA VV VA hW W
      refine V.call rfl rfl rfl rfl rfl Try.func48 rfl (by decide) [0] (by decide) (all_lt (by rfl)) (by (first | rfl | ((conv => cbv); (repeat' apply And.intro) <;> first | rfl | trivial | (first | rfl | omega | (simp (disch := omega) only [hS.glob, wraps, plain, Int.ofNat_eq_natCast]; first | done | rfl | omega | (simp; done) | (simp; omega)) | (simp (disch := omega) only [hS.glob, wraps, plain, Int.ofNat_eq_natCast, Vx.toN]; omega))))) (by rfl) (ih h2 hu2 mid e b (by omega) (by omega) (by omega) hbn v3 v4 (ofN mid) (ofN e) (ofN b) (by simp only [hS.glob, plain]) (by simp only [hS.glob, plain]) (by simp only [hS.glob, plain])) ?_
      rintro r Hc ⟨rfl, h3, rfl, y1, y2⟩
      refine V.goF (by first | exact trivial | assumption) Try.func48 tl_ok mixed hS.ops [] 400 ?_
      intro VV VA W hVV hVA hW
      conv => cbv
      exact fin3 h2 w1 w2 h3 y1 y2
    conv => cbv
    simp (disch := first | omega | (simp only [hS.glob, wraps, plain, Int.ofNat_eq_natCast]; omega)) only [hS.glob, wraps, plain, Int.ofNat_eq_natCast] at c3
    cases c4 : ilt (ofN s) (ofN mid)
    case false =>
      conv => cbv
      simp (disch := first | omega | (simp only [hS.glob, wraps, plain, Int.ofNat_eq_natCast]; omega)) only [hS.glob, wraps, plain, Int.ofNat_eq_natCast] at c4
      obtain ⟨h2, eh, w1, w2⟩ : ∃ h2, h2 = R ∧ Srt rank h2 a mid ∧ Stb rank a mid R h2 := by
        have e1 : mid = s := by omega
        exact ⟨R, rfl, by rw [e1]; exact g2, .refl fun _ => rfl⟩
      rw [← eh]
      have hu2 := inU_stb (by omega) huR w2
      have v3 : Srt rank h2 mid e := g4.congr fun t t1 t2 => w2.out t (by omega)
      have v4 : Srt rank h2 e b := g5.congr fun t t1 t2 => w2.out t (by omega)
      cases c5 : ilt (ofN mid) (ofN e)
      case false =>
        conv => cbv
        simp (disch := first | omega | (simp only [hS.glob, wraps, plain, Int.ofNat_eq_natCast]; omega)) only [hS.glob, wraps, plain, Int.ofNat_eq_natCast] at c5
        have e1 : mid = e := by omega
        exact fin3 h2 w1 w2 h2 (by rw [e1]; exact v4) (.refl fun _ => rfl)
      conv => cbv
      simp (disch := first | omega | (simp only [hS.glob, wraps, plain, Int.ofNat_eq_natCast]; omega)) only [hS.glob, wraps, plain, Int.ofNat_eq_natCast] at c5
      cases c6 : ilt (ofN e) (ofN b)
      case false =>
        conv => cbv
        simp (disch := first | omega | (simp only [hS.glob, wraps, plain, Int.ofNat_eq_natCast]; omega)) only [hS.glob, wraps, plain, Int.ofNat_eq_natCast] at c6
        have e1 : e = b := by omega
        rw [e1] at v3
        exact fin3 h2 w1 w2 h2 v3 (.refl fun _ => rfl)
      conv => cbv
      simp (disch := first | omega | (simp only [hS.glob, wraps, plain, Int.ofNat_eq_natCast]; omega)) only [hS.glob, wraps, plain, Int.ofNat_eq_natCast] at c6
      rw [hVV]
      clear hVV hVA VV VA hW W
      refine V.call rfl rfl rfl rfl rfl Try.func48 rfl (by decide) [0] (by decide) (all_lt (by rfl)) (by (first | rfl | ((conv => cbv); (repeat' apply And.intro) <;> first | rfl | trivial | (first | rfl | omega | (simp (disch := omega) only [hS.glob, wraps, plain, Int.ofNat_eq_natCast]; first | done | rfl | omega | (simp; done) | (simp; omega)) | (simp (disch := omega) only [hS.glob, wraps, plain, Int.ofNat_eq_natCast, Vx.toN]; omega))))) (by rfl) (ih h2 hu2 mid e b (by omega) (by omega) (by omega) hbn v3 v4 (ofN mid) (ofN e) (ofN b) (by simp only [hS.glob, plain]) (by simp only [hS.glob, plain]) (by simp only [hS.glob, plain])) ?_
      rintro r Hc ⟨rfl, h3, rfl, y1, y2⟩
      refine V.goF (by first | exact trivial | assumption) Try.func48 tl_ok mixed hS.ops [] 400 ?_
      intro VV VA W hVV hVA hW
      conv => cbv
      exact fin3 h2 w1 w2 h3 y1 y2
    conv => cbv
    simp (disch := first | omega | (simp only [hS.glob, wraps, plain, Int.ofNat_eq_natCast]; omega)) only [hS.glob, wraps, plain, Int.ofNat_eq_natCast] at c4
    rw [hVV]
    clear hVV hVA VV VA hW W
    refine V.call rfl rfl rfl rfl rfl Try.func48 rfl (by decide) [0] (by decide) (all_lt (by rfl)) (by (first | rfl | ((conv => cbv); (repeat' apply And.intro) <;> first | rfl | trivial | (first | rfl | omega | (simp (disch := omega) only [hS.glob, wraps, plain, Int.ofNat_eq_natCast]; first | done | rfl | omega | (simp; done) | (simp; omega)) | (simp (disch := omega) only [hS.glob, wraps, plain, Int.ofNat_eq_natCast, Vx.toN]; omega))))) (by rfl) (ih R huR a s mid (by omega) (by omega) (by omega) (by omega) g2 g3 (ofN a) (ofN s) (ofN mid) (by simp only [hS.glob, plain]) (by simp only [hS.glob, plain]) (by simp only [hS.glob, plain])) ?_
    rintro r Hc ⟨rfl, h2, rfl, w1, w2⟩
    refine V.goF (by first | exact trivial | assumption) Try.func48 tl_ok mixed hS.ops [] 400 ?_
    intro VV VA W hVV hVA hW
    conv => cbv
    have hu2 := inU_stb (by omega) huR w2
    have v3 : Srt rank h2 mid e := g4.congr fun t t1 t2 => w2.out t (by omega)
    have v4 : Srt rank h2 e b := g5.congr fun t t1 t2 => w2.out t (by omega)
    cases c5 : ilt (ofN mid) (ofN e)
    case false =>
      conv => cbv
      simp (disch := first | omega | (simp only [hS.glob, wraps, plain, Int.ofNat_eq_natCast]; omega)) only [hS.glob, wraps, plain, Int.ofNat_eq_natCast] at c5
      have e1 : mid = e := by omega
      exact fin3 h2 w1 w2 h2 (by rw [e1]; exact v4) (.refl fun _ => rfl)
    conv => cbv
    simp (disch := first | omega | (simp only [hS.glob, wraps, plain, Int.ofNat_eq_natCast]; omega)) only [hS.glob, wraps, plain, Int.ofNat_eq_natCast] at c5
    cases c6 : ilt (ofN e) (ofN b)
    case false =>
      conv => cbv
      simp (disch := first | omega | (simp only [hS.glob, wraps, plain, Int.ofNat_eq_natCast]; omega)) only [hS.glob, wraps, plain, Int.ofNat_eq_natCast] at c6
      have e1 : e = b := by omega
      rw [e1] at v3
      exact fin3 h2 w1 w2 h2 v3 (.refl fun _ => rfl)
    conv => cbv
    simp (disch := first | omega | (simp only [hS.glob, wraps, plain, Int.ofNat_eq_natCast]; omega)) only [hS.glob, wraps, plain, Int.ofNat_eq_natCast] at c6
    rw [hVV]
    clear hVV hVA VV VA hW W
    refine V.call rfl rfl rfl rfl rfl Try.func48 rfl (by decide) [0] (by decide) (all_lt (by rfl)) (by (first | rfl | ((conv => cbv); (repeat' apply And.intro) <;> first | rfl | trivial | (first | rfl | omega | (simp (disch := omega) only [hS.glob, wraps, plain, Int.ofNat_eq_natCast]; first | done | rfl | omega | (simp; done) | (simp; omega)) | (simp (disch := omega) only [hS.glob, wraps, plain, Int.ofNat_eq_natCast, Vx.toN]; omega))))) (by rfl) (ih h2 hu2 mid e b (by omega) (by omega) (by omega) hbn v3 v4 (ofN mid) (ofN e) (ofN b) (by simp only [hS.glob, plain]) (by simp only [hS.glob, plain]) (by simp only [hS.glob, plain])) ?_
    rintro r Hc ⟨rfl, h3, rfl, y1, y2⟩
    refine V.goF (by first | exact trivial | assumption) Try.func48 tl_ok mixed hS.ops [] 400 ?_
    intro VV VA W hVV hVA hW
    conv => cbv
    exact fin3 h2 w1 w2 h3 y1 y2
  conv => cbv
  simp (disch := first | omega | (simp only [hS.glob, wraps, plain, Int.ofNat_eq_natCast]; omega)) only [hS.glob, wraps, plain, Int.ofNat_eq_natCast] at c2
  rw [hVV]
  clear hVV hVA VV VA hW W
  refine V.call rfl rfl rfl rfl rfl Try.func50 rfl (by decide) [0] (by decide) (all_lt (by rfl)) (by (first | rfl | ((conv => cbv); (repeat' apply And.intro) <;> first | rfl | trivial | (first | rfl | omega | (simp (disch := omega) only [hS.glob, wraps, plain, Int.ofNat_eq_natCast]; first | done | rfl | omega | (simp; done) | (simp; omega)) | (simp (disch := omega) only [hS.glob, wraps, plain, Int.ofNat_eq_natCast, Vx.toN]; omega))))) (by rfl) (call1 (by omega) (by omega) (by omega) (ofN s) (ofN m) (ofN e) (by simp only [hS.glob, plain]) (by simp only [hS.glob, plain]) (by simp only [hS.glob, plain]) R hR) ?_
  rintro r Hc ⟨rfl, rfl⟩
  refine V.goF (by first | exact trivial | assumption) Try.func48 tl_ok mixed hS.ops [] 400 ?_
  intro VV VA W hVV hVA hW
  conv => cbv
  cases c3 : ilt (ofN a) (ofN s)
  case false =>
    conv => cbv
    simp (disch := first | omega | (simp only [hS.glob, wraps, plain, Int.ofNat_eq_natCast]; omega)) only [hS.glob, wraps, plain, Int.ofNat_eq_natCast] at c3
    obtain ⟨h2, eh, w1, w2⟩ : ∃ h2, h2 = R ∧ Srt rank h2 a mid ∧ Stb rank a mid R h2 := by
      have e1 : a = s := by omega
      exact ⟨R, rfl, by rw [e1]; exact g3, .refl fun _ => rfl⟩
    rw [← eh]
    have hu2 := inU_stb (by omega) huR w2
    have v3 : Srt rank h2 mid e := g4.congr fun t t1 t2 => w2.out t (by omega)
    have v4 : Srt rank h2 e b := g5.congr fun t t1 t2 => w2.out t (by omega)
    cases c5 : ilt (ofN mid) (ofN e)
    case false =>
      conv => cbv
      simp (disch := first | omega | (simp only [hS.glob, wraps, plain, Int.ofNat_eq_natCast]; omega)) only [hS.glob, wraps, plain, Int.ofNat_eq_natCast] at c5
      have e1 : mid = e := by omega
      exact fin3 h2 w1 w2 h2 (by rw [e1]; exact v4) (.refl fun _ => rfl)
    conv => cbv
    simp (disch := first | omega | (simp only [hS.glob, wraps, plain, Int.ofNat_eq_natCast]; omega)) only [hS.glob, wraps, plain, Int.ofNat_eq_natCast] at c5
    cases c6 : ilt (ofN e) (ofN b)
    case false =>
      conv => cbv
      simp (disch := first | omega | (simp only [hS.glob, wraps, plain, Int.ofNat_eq_natCast]; omega)) only [hS.glob, wraps, plain, Int.ofNat_eq_natCast] at c6
      have e1 : e = b := by omega
      rw [e1] at v3
      exact fin3 h2 w1 w2 h2 v3 (.refl fun _ => rfl)
    conv => cbv
    simp (disch := first | omega | (simp only [hS.glob, wraps, plain, Int.ofNat_eq_natCast]; omega)) only [hS.glob, wraps, plain, Int.ofNat_eq_natCast] at c6
    rw [hVV]
    clear hVV hVA VV VA hW W
    refine V.call rfl rfl rfl rfl rfl Try.func48 rfl (by decide) [0] (by decide) (all_lt (by rfl)) (by (first | rfl | ((conv => cbv); (repeat' apply And.intro) <;> first | rfl | trivial | (first | rfl | omega | (simp (disch := omega) only [hS.glob, wraps, plain, Int.ofNat_eq_natCast]; first | done | rfl | omega | (simp; done) | (simp; omega)) | (simp (disch := omega) only [hS.glob, wraps, plain, Int.ofNat_eq_natCast, Vx.toN]; omega))))) (by rfl) (ih h2 hu2 mid e b (by omega) (by omega) (by omega) hbn v3 v4 (ofN mid) (ofN e) (ofN b) (by simp only [hS.glob, plain]) (by simp only [hS.glob, plain]) (by simp only [hS.glob, plain])) ?_
    rintro r Hc ⟨rfl, h3, rfl, y1, y2⟩
    refine V.goF (by first | exact trivial | assumption) Try.func48 tl_ok mixed hS.ops [] 400 ?_
    intro VV VA W hVV hVA hW
    conv => cbv
    exact fin3 h2 w1 w2 h3 y1 y2
  conv => cbv
  simp (disch := first | omega | (simp only [hS.glob, wraps, plain, Int.ofNat_eq_natCast]; omega)) only [hS.glob, wraps, plain, Int.ofNat_eq_natCast] at c3
  cases c4 : ilt (ofN s) (ofN mid)
  case false =>
    conv => cbv
    simp (disch := first | omega | (simp only [hS.glob, wraps, plain, Int.ofNat_eq_natCast]; omega)) only [hS.glob, wraps, plain, Int.ofNat_eq_natCast] at c4
    obtain ⟨h2, eh, w1, w2⟩ : ∃ h2, h2 = R ∧ Srt rank h2 a mid ∧ Stb rank a mid R h2 := by
      have e1 : mid = s := by omega
      exact ⟨R, rfl, by rw [e1]; exact g2, .refl fun _ => rfl⟩
    rw [← eh]
    have hu2 := inU_stb (by omega) huR w2
    have v3 : Srt rank h2 mid e := g4.congr fun t t1 t2 => w2.out t (by omega)
    have v4 : Srt rank h2 e b := g5.congr fun t t1 t2 => w2.out t (by omega)
    cases c5 : ilt (ofN mid) (ofN e)
    case false =>
      conv => cbv
      simp (disch := first | omega | (simp only [hS.glob, wraps, plain, Int.ofNat_eq_natCast]; omega)) only [hS.glob, wraps, plain, Int.ofNat_eq_natCast] at c5
      have e1 : mid = e := by omega
      exact fin3 h2 w1 w2 h2 (by rw [e1]; exact v4) (.refl fun _ => rfl)
    conv => cbv
    simp (disch := first | omega | (simp only [hS.glob, wraps, plain, Int.ofNat_eq_natCast]; omega)) only [hS.glob, wraps, plain, Int.ofNat_eq_natCast] at c5
    cases c6 : ilt (ofN e) (ofN b)
    case false =>
      conv => cbv
      simp (disch := first | omega | (simp only [hS.glob, wraps, plain, Int.ofNat_eq_natCast]; omega)) only [hS.glob, wraps, plain, Int.ofNat_eq_natCast] at c6
      have e1 : e = b := by omega
      rw [e1] at v3
      exact fin3 h2 w1 w2 h2 v3 (.refl fun _ => rfl)
    conv => cbv
    simp (disch := first | omega | (simp only [hS.glob, wraps, plain, Int.ofNat_eq_natCast]; omega)) only [hS.glob, wraps, plain, Int.ofNat_eq_natCast] at c6
    rw [hVV]
    clear hVV hVA VV VA hW W
    refine V.call rfl rfl rfl rfl rfl Try.func48 rfl (by decide) [0] (by decide) (all_lt (by rfl)) (by (first | rfl | ((conv => cbv); (repeat' apply And.intro) <;> first | rfl | trivial | (first | rfl | omega | (simp (disch := omega) only [hS.glob, wraps, plain, Int.ofNat_eq_natCast]; first | done | rfl | omega | (simp; done) | (simp; omega)) | (simp (disch := omega) only [hS.glob, wraps, plain, Int.ofNat_eq_natCast, Vx.toN]; omega))))) (by rfl) (ih h2 hu2 mid e b (by omega) (by omega) (by omega) hbn v3 v4 (ofN mid) (ofN e) (ofN b) (by simp only [hS.glob, plain]) (by simp only [hS.glob, plain]) (by simp only [hS.glob, plain])) ?_
    rintro r Hc ⟨rfl, h3, rfl, y1, y2⟩
    refine V.goF (by first | exact trivial | assumption) Try.func48 tl_ok mixed hS.ops [] 400 ?_
    intro VV VA W hVV hVA hW
    conv => cbv
    exact fin3 h2 w1 w2 h3 y1 y2
  conv => cbv
  simp (disch := first | omega | (simp only [hS.glob, wraps, plain, Int.ofNat_eq_natCast]; omega)) only [hS.glob, wraps, plain, Int.ofNat_eq_natCast] at c4
  rw [hVV]
  clear hVV hVA VV VA hW W
  refine V.call rfl rfl rfl rfl rfl Try.func48 rfl (by decide) [0] (by decide) (all_lt (by rfl)) (by (first | rfl | ((conv => cbv); (repeat' apply And.intro) <;> first | rfl | trivial | (first | rfl | omega | (simp (disch := omega) only [hS.glob, wraps, plain, Int.ofNat_eq_natCast]; first | done | rfl | omega | (simp; done) | (simp; omega)) | (simp (disch := omega) only [hS.glob, wraps, plain, Int.ofNat_eq_natCast, Vx.toN]; omega))))) (by rfl) (ih R huR a s mid (by omega) (by omega) (by omega) (by omega) g2 g3 (ofN a) (ofN s) (ofN mid) (by simp only [hS.glob, plain]) (by simp only [hS.glob, plain]) (by simp only [hS.glob, plain])) ?_
  rintro r Hc ⟨rfl, h2, rfl, w1, w2⟩
  refine V.goF (by first | exact trivial | assumption) Try.func48 tl_ok mixed hS.ops [] 400 ?_
  intro VV VA W hVV hVA hW
  conv => cbv
  have hu2 := inU_stb (by omega) huR w2
  have v3 : Srt rank h2 mid e := g4.congr fun t t1 t2 => w2.out t (by omega)
  have v4 : Srt rank h2 e b := g5.congr fun t t1 t2 => w2.out t (by omega)
  cases c5 : ilt (ofN mid) (ofN e)
  case false =>
    conv => cbv
    simp (disch := first | omega | (simp only [hS.glob, wraps, plain, Int.ofNat_eq_natCast]; omega)) only [hS.glob, wraps, plain, Int.ofNat_eq_natCast] at c5
    have e1 : mid = e := by omega
    exact fin3 h2 w1 w2 h2 (by rw [e1]; exact v4) (.refl fun _ => rfl)
  conv => cbv
  simp (disch := first | omega | (simp only [hS.glob, wraps, plain, Int.ofNat_eq_natCast]; omega)) only [hS.glob, wraps, plain, Int.ofNat_eq_natCast] at c5
  cases c6 : ilt (ofN e) (ofN b)
  case false =>
    conv => cbv
    simp (disch := first | omega | (simp only [hS.glob, wraps, plain, Int.ofNat_eq_natCast]; omega)) only [hS.glob, wraps, plain, Int.ofNat_eq_natCast] at c6
    have e1 : e = b := by omega
    rw [e1] at v3
    exact fin3 h2 w1 w2 h2 v3 (.refl fun _ => rfl)
  conv => cbv
  simp (disch := first | omega | (simp only [hS.glob, wraps, plain, Int.ofNat_eq_natCast]; omega)) only [hS.glob, wraps, plain, Int.ofNat_eq_natCast] at c6
  rw [hVV]
  clear hVV hVA VV VA hW W
  refine V.call rfl rfl rfl rfl rfl Try.func48 rfl (by decide) [0] (by decide) (all_lt (by rfl)) (by (first | rfl | ((conv => cbv); (repeat' apply And.intro) <;> first | rfl | trivial | (first | rfl | omega | (simp (disch := omega) only [hS.glob, wraps, plain, Int.ofNat_eq_natCast]; first | done | rfl | omega | (simp; done) | (simp; omega)) | (simp (disch := omega) only [hS.glob, wraps, plain, Int.ofNat_eq_natCast, Vx.toN]; omega))))) (by rfl) (ih h2 hu2 mid e b (by omega) (by omega) (by omega) hbn v3 v4 (ofN mid) (ofN e) (ofN b) (by simp only [hS.glob, plain]) (by simp only [hS.glob, plain]) (by simp only [hS.glob, plain])) ?_
  rintro r Hc ⟨rfl, h3, rfl, y1, y2⟩
  refine V.goF (by first | exact trivial | assumption) Try.func48 tl_ok mixed hS.ops [] 400 ?_
  intro VV VA W hVV hVA hW
  conv => cbv
  exact fin3 h2 w1 w2 h3 y1 y2
end Go.Proofs.Ytffahckigenfcaa
