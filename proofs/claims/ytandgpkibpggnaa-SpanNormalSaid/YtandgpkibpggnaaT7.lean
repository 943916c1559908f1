/- Contracts of functions by an evaluator of the model: its part T7. -/
import Derived.Test.YtandgpkibpggnaaT6
set_option linter.all false
namespace Go.Proofs.Ytandgpkibpggnaa
open Go Vx

theorem f30_ok (ln : Nat) (l : Nat → Sp) (hl : ln ≤ 1000000) : FSpec Try.prog 30 [.rows 6 ln (spc l)] [] (fun r H' => r = .sl 0 0 (ln) ∧ H' = [some ⟨27, 6, .arr (ln) (spc l)⟩]) := by
  have run : FSpec Try.prog 30 [.rows 6 ln (spc l)] [] (fun r H' => ∃ x g, (ln = 0 ∧ r = .nil .slice ∧ H' = []) ∨ (r = .sl 1 0 (ln) ∧ H' = [x, some ⟨27, 6, .arr (ln) g⟩] ∧ ∀ i, i < ln → g i = spc l i)) := by
    refine FSpec.of (fn := Try.f30) Try.func30 rfl rfl (by simp) fun C hC => ?_
    obtain ⟨iadd, isub, imul, iquo, irem, iband, ibor, ibxor, ibandn, ishl, ishr, iconv, ieq, ine, ilt, ile, igt, ige, bbeq, bbne, bnot, bband, sseq, ssne, sscat, sssub, sslen, sssz, ssbyte, toN, ofN, addN, subN, eqN, ltB, leN, imx, imn, inb, leb, sslt, ltN, fit, ne0, ge0, ssfit, minN, inR, bcol, bstr, isBy, hS⟩ := names
    refine V.goF (by first | exact trivial | assumption) Try.func30 tl_ok mixed hS.ops [] 400 ?_
    intro VV VA W hVV hVA hW
    conv => cbv
    rw [hVV]
    refine V.isNil tl_ok rfl rfl rfl rfl rfl rfl fun b hb => ?_
    clear hVV hVA VV VA hW W
    refine V.goF (by first | exact trivial | assumption) Try.func30 tl_ok mixed hS.ops [] 400 ?_
    intro VV VA W hVV hVA hW
    conv => cbv
    cases b
    · conv => cbv
      repeat (refine ⟨by first | (rw [hW]; show ordOk _ _ _ = true; kernel_rfl) | (first | trivial | omega | (simp (disch := omega) only [hS.glob, wraps, plain, Int.ofNat_eq_natCast]; first | done | omega | trivial | (simp; done) | (simp; omega) | (constructor <;> omega)) | (simp (disch := omega) only [hS.glob, wraps, plain, Int.ofNat_eq_natCast, Vx.toN]; omega)), ?_⟩)
      have e : addN 0 (ln) = ln := by simp (disch := first | omega | (simp only [hS.glob, wraps, plain, Int.ofNat_eq_natCast]; omega)) only [hS.glob, wraps, plain, Int.ofNat_eq_natCast]; omega
      rw [e]
      refine ⟨_, _, .inr ⟨rfl, rfl, fun i hi => ?_⟩⟩
      simp only [spc]
      cases hr : ltB i 0
      · simp [hS.glob, Vx.subN]
      · simp (disch := first | omega | (simp only [hS.glob, wraps, plain, Int.ofNat_eq_natCast]; omega)) only [hS.glob, wraps, plain, Int.ofNat_eq_natCast] at hr; omega
    · conv => cbv
      exact ⟨none, fun _ => [], .inl ⟨hb rfl, rfl, rfl⟩⟩
  refine FSpec.repick (FSpec.weaken (FSpec.unnil run (Q' := fun r H' => ∃ x, r.bnd H'.length = true ∧ ((ln = 0 ∧ r = .sl 0 0 0 ∧ H' = [some ⟨27, 6, .arr 0 (spc l)⟩]) ∨ ∃ g, r = .sl 1 0 (ln) ∧ H' = [x, some ⟨27, 6, .arr (ln) g⟩] ∧ ∀ i, i < ln → g i = spc l i)) ?_) (Q' := fun r H' => (ln = 0 ∧ r = .sl 0 0 0 ∧ H' = [some ⟨27, 6, .arr 0 (spc l)⟩]) ∨ (r = .sl 1 0 (ln) ∧ H' = [none, some ⟨27, 6, .arr (ln) (spc l)⟩])) ?_) ?_
  · rintro r H' ⟨x, g, ⟨h1, rfl, rfl⟩ | ⟨rfl, rfl, hg⟩⟩
    · exact .inr ⟨rfl, 27, 6, spc l, none, rfl, .inl ⟨h1, rfl, rfl⟩⟩
    · exact .inl ⟨x, rfl, .inr ⟨g, rfl, rfl, hg⟩⟩
  · rintro r H' ⟨x, _, ⟨h1, rfl, rfl⟩ | ⟨g, rfl, rfl, hg⟩⟩
    · exact ⟨[some ⟨27, 6, .arr 0 (spc l)⟩], ⟨⟨rfl, rfl, ⟨Nat.le_refl _, fun _ _ => rfl⟩, rfl⟩, trivial⟩, rfl, by simp, .inl ⟨h1, rfl, rfl⟩⟩
    · exact ⟨[none, some ⟨27, 6, .arr (ln) (spc l)⟩], ⟨⟨rfl, rfl, ⟨Nat.le_refl _, fun i hi => (hg i hi).symm⟩, rfl⟩, trivial⟩, rfl, by simp, .inr ⟨rfl, rfl⟩⟩
  · rintro r H' (⟨h1, rfl, rfl⟩ | ⟨rfl, rfl⟩)
    · exact ⟨[0], by decide, fun k hk => by simp at hk, by rw [h1]; exact ⟨rfl, rfl⟩⟩
    · exact ⟨[1], by decide, fun k hk => by simp at hk, ⟨rfl, rfl⟩⟩
end Go.Proofs.Ytandgpkibpggnaa

/- Scalars that come, by the document. -/
namespace Go.Proofs.Ytandgpkibpggnaa
open Go Vx
/-- A fresh list of spans. -/
def LstR (N : List Sp) (r : AV) (H' : Hp) : Prop := ∃ m h, N = tab m h ∧ r = .sl 0 0 m ∧ H' = [some ⟨27, 6, .arr m (spc h)⟩]
def insS (at_ k : Int) : Sp → Sp := movS (insX at_ k) (insX (at_ + 1) k)
noncomputable def rinsU (at_ k : Int) (n : Nat) (g : Nat → Sp) : List Sp := open Classical in if at_ < 0 ∨ k < 0 then tab n g else turnU (insS at_ k) (fun s => s.co = true → (insS at_ k s).to - (insS at_ k s).fr ≤ 4) n g
/-- The same, or a copy behind an empty list. -/
def LstQ (N : List Sp) (n : Nat) (g : Nat → Sp) (r : AV) (H' : Hp) : Prop := LstR N r H' ∨ (N = tab n g ∧ ∃ x g', r = .sl 1 0 n ∧ H' = [x, some ⟨27, 6, .arr n g'⟩] ∧ ∀ i, i < n → g' i = spc g i)
theorem LstR.of {f : Nat} {args : List AV} {N : List Sp} {n : Nat} {g : Nat → Sp} (h : FSpec Try.prog f args [] (LstQ N n g)) : FSpec Try.prog f args [] (LstR N) := by
  refine FSpec.repick (FSpec.weaken h (Q' := fun r H' => LstR N r H' ∨ (N = tab n g ∧ r = .sl 1 0 n ∧ H' = [none, some ⟨27, 6, .arr n (spc g)⟩])) ?_) ?_
  · rintro r H' (⟨m, h, h1, rfl, rfl⟩ | ⟨h1, x, g', rfl, rfl, h2⟩)
    · exact ⟨[some ⟨27, 6, .arr m (spc h)⟩], ⟨⟨rfl, rfl, ⟨Nat.le_refl _, fun _ _ => rfl⟩, rfl⟩, trivial⟩, rfl, by simp, .inl ⟨m, h, h1, rfl, rfl⟩⟩
    · exact ⟨[none, some ⟨27, 6, .arr n (spc g)⟩], ⟨⟨rfl, rfl, ⟨Nat.le_refl _, fun i hi => (h2 i hi).symm⟩, rfl⟩, trivial⟩, rfl, by simp, .inr ⟨h1, rfl, rfl⟩⟩
  · rintro r H' (⟨m, h, h1, rfl, rfl⟩ | ⟨h1, rfl, rfl⟩)
    · exact ⟨[0], by decide, fun k hk => absurd hk (by simp), ⟨m, h, h1, rfl, rfl⟩⟩
    · exact ⟨[1], by decide, fun k hk => absurd hk (by simp), ⟨n, g, h1, rfl, rfl⟩⟩
theorem f20_ok (n : Nat) (hn : n ≤ 1000000) (g : Nat → Sp) (hm : ∀ j, j < n → mid2 (g j).fr ∧ mid2 (g j).to) (at_ k : Int) (ha : at_ ≤ 1000000000000) (hk : k ≤ 1000000000000) (N : List Sp) (hN : N = rinsU at_ k n g) : FSpec Try.prog 20 [.rows 6 n (spc g), .int .i64 at_, .int .i64 k] [] (LstR N) := by
  refine LstR.of (n := n) (g := g) ?_
  obtain ⟨Q, hQ⟩ : ∃ Q : AV → Hp → Prop, Q = LstQ N n g := ⟨_, rfl⟩
  rw [← hQ]
  unfold rinsU at hN
  refine FSpec.of (fn := Try.f20) Try.func20 rfl rfl (by simp) fun C hC => ?_
  obtain ⟨iadd, isub, imul, iquo, irem, iband, ibor, ibxor, ibandn, ishl, ishr, iconv, ieq, ine, ilt, ile, igt, ige, bbeq, bbne, bnot, bband, sseq, ssne, sscat, sssub, sslen, sssz, ssbyte, toN, ofN, addN, subN, eqN, ltB, leN, imx, imn, inb, leb, sslt, ltN, fit, ne0, ge0, ssfit, minN, inR, bcol, bstr, isBy, hS⟩ := names
  refine V.goF (by first | exact trivial | assumption) Try.func20 tl_ok mixed hS.ops [] 400 ?_
  intro VV VA W hVV hVA hW
  conv => cbv
  cases h1 : ilt at_ 0
  case true =>
    conv => cbv
    repeat (refine ⟨by first | (rw [hW]; show ordOk _ _ _ = true; kernel_rfl) | (first | trivial | omega | (simp (disch := omega) only [hS.glob, wraps, plain, Int.ofNat_eq_natCast]; first | done | omega | trivial | (simp; done) | (simp; omega) | (constructor <;> omega)) | (simp (disch := omega) only [hS.glob, wraps, plain, Int.ofNat_eq_natCast, Vx.toN]; omega)), ?_⟩)
    have e : addN 0 n = n := by (first | rfl | omega | (simp (disch := omega) only [hS.glob, wraps, plain, Int.ofNat_eq_natCast]; first | done | rfl | omega | (simp; done) | (simp; omega)) | (simp (disch := omega) only [hS.glob, wraps, plain, Int.ofNat_eq_natCast, Vx.toN]; omega))
    rw [e, hQ]
    refine .inr ⟨by simp (disch := first | omega | (simp only [hS.glob, wraps, plain, Int.ofNat_eq_natCast]; omega)) only [hS.glob, wraps, plain, Int.ofNat_eq_natCast] at h1; rw [hN, if_pos (.inl h1)], _, _, rfl, rfl, fun i hi => ?_⟩
    simp only [spc]
    cases hr : ltB i 0
    · simp [hS.glob, Vx.subN]
    · simp (disch := first | omega | (simp only [hS.glob, wraps, plain, Int.ofNat_eq_natCast]; omega)) only [hS.glob, wraps, plain, Int.ofNat_eq_natCast] at hr; omega
  conv => cbv
  cases h2 : ilt k 0
  case true =>
    conv => cbv
    repeat (refine ⟨by first | (rw [hW]; show ordOk _ _ _ = true; kernel_rfl) | (first | trivial | omega | (simp (disch := omega) only [hS.glob, wraps, plain, Int.ofNat_eq_natCast]; first | done | omega | trivial | (simp; done) | (simp; omega) | (constructor <;> omega)) | (simp (disch := omega) only [hS.glob, wraps, plain, Int.ofNat_eq_natCast, Vx.toN]; omega)), ?_⟩)
    have e : addN 0 n = n := by (first | rfl | omega | (simp (disch := omega) only [hS.glob, wraps, plain, Int.ofNat_eq_natCast]; first | done | rfl | omega | (simp; done) | (simp; omega)) | (simp (disch := omega) only [hS.glob, wraps, plain, Int.ofNat_eq_natCast, Vx.toN]; omega))
    rw [e, hQ]
    refine .inr ⟨by simp (disch := first | omega | (simp only [hS.glob, wraps, plain, Int.ofNat_eq_natCast]; omega)) only [hS.glob, wraps, plain, Int.ofNat_eq_natCast] at h2; rw [hN, if_pos (.inr h2)], _, _, rfl, rfl, fun i hi => ?_⟩
    simp only [spc]
    cases hr : ltB i 0
    · simp [hS.glob, Vx.subN]
    · simp (disch := first | omega | (simp only [hS.glob, wraps, plain, Int.ofNat_eq_natCast]; omega)) only [hS.glob, wraps, plain, Int.ofNat_eq_natCast] at hr; omega
  conv => cbv
  simp (disch := first | omega | (simp only [hS.glob, wraps, plain, Int.ofNat_eq_natCast]; omega)) only [hS.glob, wraps, plain, Int.ofNat_eq_natCast] at h1 h2
  rw [if_neg (by omega)] at hN
  obtain ⟨tr, htr⟩ : ∃ tr, tr = insS at_ k := ⟨_, rfl⟩
  obtain ⟨kp, hkp⟩ : ∃ kp : Sp → Prop, kp = fun s => s.co = true → (tr s).to - (tr s).fr ≤ 4 := ⟨_, rfl⟩
  have hN2 : N = turnU tr kp n g := by rw [hN, hkp, htr]
  clear hN
  rw [hVV]
  clear hVV hVA VV VA hW W
  refine V.phantom 7 27 6 (spc (fun _ => noSp)) rfl ?_
  refine V.to (s' := [(8, .int .i64 (ofN 0)), (7, .sl 0 0 0), (0, .rows 6 n (spc g)), (1, .int .i64 at_), (2, .int .i64 k)]) (H' := [some ⟨27, 6, .arr 0 (spc (fun _ => noSp))⟩]) ?_ (by (repeat' first | exact trivial | rfl | (refine And.intro ?_ ?_) | (refine sti ?_; (first | rfl | omega | (simp (disch := omega) only [hS.glob, wraps, plain, Int.ofNat_eq_natCast]; first | done | rfl | omega | (simp; done) | (simp; omega)) | (simp (disch := omega) only [hS.glob, wraps, plain, Int.ofNat_eq_natCast, Vx.toN]; omega))) | (refine slq ?_ ?_ ?_ <;> (first | rfl | omega | (simp (disch := omega) only [hS.glob, wraps, plain, Int.ofNat_eq_natCast]; first | done | rfl | omega | (simp; done) | (simp; omega)) | (simp (disch := omega) only [hS.glob, wraps, plain, Int.ofNat_eq_natCast, Vx.toN]; omega))) | (refine ptq ?_ ?_ ?_ <;> (first | rfl | omega | (simp (disch := omega) only [hS.glob, wraps, plain, Int.ofNat_eq_natCast]; first | done | rfl | omega | (simp; done) | (simp; omega)) | (simp (disch := omega) only [hS.glob, wraps, plain, Int.ofNat_eq_natCast, Vx.toN]; omega))) | (refine blq ?_; (first | rfl | omega | (simp (disch := omega) only [hS.glob, wraps, plain, Int.ofNat_eq_natCast]; first | done | rfl | omega | (simp; done) | (simp; omega)) | (simp (disch := omega) only [hS.glob, wraps, plain, Int.ofNat_eq_natCast, Vx.toN]; omega))))) rfl (by (repeat' first | exact trivial | rfl | exact Nat.le_refl _ | exact (fun _ _ => rfl) | (refine And.intro ?_ ?_) | (simp only [hS.glob, plain]; first | done | omega))) (by rw [hC]; simp)
  refine V.loop (γ := Nat × Nat × (Nat → Sp)) (fun p => p.1 ≤ n ∧ p.2.1 ≤ p.1 ∧ turnU tr kp p.1 g = tab p.2.1 p.2.2) (fun p => [(8, .int .i64 (ofN p.1)), (7, .sl 0 0 p.2.1), (0, .rows 6 n (spc g)), (1, .int .i64 at_), (2, .int .i64 k)]) (fun p => [some ⟨27, 6, .arr p.2.1 (spc p.2.2)⟩]) (fun p => n - p.1) ?_ (0, 0, fun _ => noSp) ⟨Nat.zero_le _, Nat.le_refl _, rfl⟩
  rintro ⟨i, m, h⟩ ⟨hi, hm1, hu⟩ hback
  dsimp only at hi hm1 hu hback ⊢
  refine V.goF (by first | exact trivial | assumption) Try.func20 tl_ok mixed hS.ops [] 400 ?_
  intro VV VA W hVV hVA hW
  conv => cbv
  cases h3 : ilt (ofN i) (ofN n)
  · conv => cbv
    simp (disch := first | omega | (simp only [hS.glob, wraps, plain, Int.ofNat_eq_natCast]; omega)) only [hS.glob, wraps, plain, Int.ofNat_eq_natCast] at h3
    obtain rfl : i = n := by omega
    rw [hQ]
    exact .inl ⟨m, h, by rw [hN2, hu], rfl, rfl⟩
  conv => cbv
  simp (disch := first | omega | (simp only [hS.glob, wraps, plain, Int.ofNat_eq_natCast]; omega)) only [hS.glob, wraps, plain, Int.ofNat_eq_natCast] at h3
  repeat (refine ⟨by first | (rw [hW]; show ordOk _ _ _ = true; kernel_rfl) | (first | trivial | omega | (simp (disch := omega) only [hS.glob, wraps, plain, Int.ofNat_eq_natCast]; first | done | omega | trivial | (simp; done) | (simp; omega) | (constructor <;> omega)) | (simp (disch := omega) only [hS.glob, wraps, plain, Int.ofNat_eq_natCast, Vx.toN]; omega)), ?_⟩)
  simp only [hS.tidy]
  have hmi := hm i (by omega)
  obtain ⟨t1, t2⟩ := turnU_succ tr kp i g
  rcases hgi : g i with ⟨a, b, p, d, u, x⟩
  rw [hgi] at hmi t1 t2
  unfold mid2 at hmi
  dsimp only at hmi ⊢
  rw [hu] at t1 t2
  obtain ⟨y1, hy1⟩ : ∃ y, y = insX at_ k a := ⟨_, rfl⟩
  obtain ⟨y2, hy2⟩ : ∃ y, y = insX (at_ + 1) k b := ⟨_, rfl⟩
  have eS : tr (⟨a, b, p, d, u, x⟩ : Sp) = ⟨y1, y2, p, d, u, x⟩ := by rw [htr, hy1, hy2]; rfl
  rw [eS] at t1
  have hk2 : kp (⟨a, b, p, d, u, x⟩ : Sp) ↔ (d = true → y2 - y1 ≤ 4) := by rw [hkp]; simp only; rw [eS]
  rw [hk2] at t1 t2
  clear hk2 eS
  unfold insX at hy1 hy2
  clear hgi
  have Y1 : a < at_ → y1 = a := fun h0 => by rw [hy1, if_pos (by omega)]
  have Z1 : at_ ≤ a → iadd .i64 a k = y1 := fun h0 => by rw [hy1, if_neg (by omega)]; (first | rfl | omega | (simp (disch := omega) only [hS.glob, wraps, plain, Int.ofNat_eq_natCast]; first | done | rfl | omega | (simp; done) | (simp; omega)) | (simp (disch := omega) only [hS.glob, wraps, plain, Int.ofNat_eq_natCast, Vx.toN]; omega))
  have Y2 : b ≤ at_ → y2 = b := fun h0 => by rw [hy2, if_pos (by omega)]
  have Z2 : at_ < b → iadd .i64 b k = y2 := fun h0 => by rw [hy2, if_neg (by omega)]; (first | rfl | omega | (simp (disch := omega) only [hS.glob, wraps, plain, Int.ofNat_eq_natCast]; first | done | rfl | omega | (simp; done) | (simp; omega)) | (simp (disch := omega) only [hS.glob, wraps, plain, Int.ofNat_eq_natCast, Vx.toN]; omega))
  have hyb : -1000000000000 ≤ y1 ∧ y1 ≤ 2000000000000 ∧ -1000000000000 ≤ y2 ∧ y2 ≤ 2000000000000 := by
    clear t1 t2 hu hback
    split at hy1 <;> split at hy2 <;> omega
  cases h4 : ige a at_ <;> (conv => cbv) <;> cases h5 : igt b at_ <;> (conv => cbv)
  all_goals simp only [hS.glob, plain] at h4 h5
  all_goals first
    | (have q1 := Y1 h4; subst q1)
    | (have q1 := Z1 h4; simp only [q1]; clear q1)
  all_goals first
    | (have q1 := Y2 h5; subst q1)
    | (have q1 := Z2 h5; simp only [q1]; clear q1)
  all_goals
    have key : (d = true → y2 - y1 ≤ 4) → ∃ h' : Nat → Sp, (∀ j, j < m → h' j = h j) ∧ h' m = ⟨y1, y2, p, d, u, x⟩ ∧ turnU tr kp (i + 1) g = tab (m + 1) h' := fun h6 => by
      obtain ⟨h', e2, e3⟩ := snocF h m (⟨y1, y2, p, d, u, x⟩ : Sp)
      exact ⟨h', e2, e3, by rw [t1 h6]; exact (tab_snoc rfl e2 e3).symm⟩
    clear t1
    cases d
    · conv => cbv
      repeat (refine ⟨by first | (rw [hW]; show ordOk _ _ _ = true; kernel_rfl) | (first | trivial | omega | (simp (disch := omega) only [hS.glob, wraps, plain, Int.ofNat_eq_natCast]; first | done | omega | trivial | (simp; done) | (simp; omega) | (constructor <;> omega)) | (simp (disch := omega) only [hS.glob, wraps, plain, Int.ofNat_eq_natCast, Vx.toN]; omega)), ?_⟩)
      rw [hVV]
      clear hVV hVA VV VA hW W
      refine V.pick [3] (by decide) (by rw [hC]; exact begins_of rfl) (by rfl) (by rfl) ?_
      obtain ⟨h', e2, e3, e4⟩ := key (fun h6 => absurd h6 (by decide))
      refine V.to (hback (i + 1, m + 1, h') ⟨by simp only; omega, by simp only; omega, e4⟩ (by simp only; omega)) (by (repeat' first | exact trivial | rfl | (refine And.intro ?_ ?_) | (refine sti ?_; (first | rfl | omega | (simp (disch := omega) only [hS.glob, wraps, plain, Int.ofNat_eq_natCast]; first | done | rfl | omega | (simp; done) | (simp; omega)) | (simp (disch := omega) only [hS.glob, wraps, plain, Int.ofNat_eq_natCast, Vx.toN]; omega))) | (refine slq ?_ ?_ ?_ <;> (first | rfl | omega | (simp (disch := omega) only [hS.glob, wraps, plain, Int.ofNat_eq_natCast]; first | done | rfl | omega | (simp; done) | (simp; omega)) | (simp (disch := omega) only [hS.glob, wraps, plain, Int.ofNat_eq_natCast, Vx.toN]; omega))) | (refine ptq ?_ ?_ ?_ <;> (first | rfl | omega | (simp (disch := omega) only [hS.glob, wraps, plain, Int.ofNat_eq_natCast]; first | done | rfl | omega | (simp; done) | (simp; omega)) | (simp (disch := omega) only [hS.glob, wraps, plain, Int.ofNat_eq_natCast, Vx.toN]; omega))) | (refine blq ?_; (first | rfl | omega | (simp (disch := omega) only [hS.glob, wraps, plain, Int.ofNat_eq_natCast]; first | done | rfl | omega | (simp; done) | (simp; omega)) | (simp (disch := omega) only [hS.glob, wraps, plain, Int.ofNat_eq_natCast, Vx.toN]; omega))))) rfl ⟨⟨rfl, rfl, ⟨by show m + 1 ≤ addN m 1; (first | trivial | omega | (simp (disch := omega) only [hS.glob, wraps, plain, Int.ofNat_eq_natCast]; first | done | omega | trivial | (simp; done) | (simp; omega) | (constructor <;> omega)) | (simp (disch := omega) only [hS.glob, wraps, plain, Int.ofNat_eq_natCast, Vx.toN]; omega)), fun j hj => leafR (by simp [hS.glob]) (by simp [hS.glob]) _ (spc h) (spc h') m (fun j hj => by simp only [spc, e2 j hj]) (by simp only [spc, e3]) j hj⟩, rfl⟩, trivial⟩ (by rw [hC]; simp)
    · conv => cbv
      have e5 : isub .i64 y2 y1 = y2 - y1 := by (first | rfl | omega | (simp (disch := omega) only [hS.glob, wraps, plain, Int.ofNat_eq_natCast]; first | done | rfl | omega | (simp; done) | (simp; omega)) | (simp (disch := omega) only [hS.glob, wraps, plain, Int.ofNat_eq_natCast, Vx.toN]; omega))
      simp only [e5]
      obtain ⟨w, hw⟩ : ∃ w, w = y2 - y1 := ⟨_, rfl⟩
      rw [← hw]
      cases h6 : ile w 4
      · conv => cbv
        simp (disch := first | omega | (simp only [hS.glob, wraps, plain, Int.ofNat_eq_natCast]; omega)) only [hS.glob, wraps, plain, Int.ofNat_eq_natCast] at h6
        repeat (refine ⟨by first | (rw [hW]; show ordOk _ _ _ = true; kernel_rfl) | (first | trivial | omega | (simp (disch := omega) only [hS.glob, wraps, plain, Int.ofNat_eq_natCast]; first | done | omega | trivial | (simp; done) | (simp; omega) | (constructor <;> omega)) | (simp (disch := omega) only [hS.glob, wraps, plain, Int.ofNat_eq_natCast, Vx.toN]; omega)), ?_⟩)
        rw [hVV]
        clear hVV hVA VV VA hW W
        exact V.to (hback (i + 1, m, h) ⟨by simp only; omega, by simp only; omega, by simp only; exact t2 (fun h7 => by have := h7 rfl; omega)⟩ (by simp only; omega)) (by (repeat' first | exact trivial | rfl | (refine And.intro ?_ ?_) | (refine sti ?_; (first | rfl | omega | (simp (disch := omega) only [hS.glob, wraps, plain, Int.ofNat_eq_natCast]; first | done | rfl | omega | (simp; done) | (simp; omega)) | (simp (disch := omega) only [hS.glob, wraps, plain, Int.ofNat_eq_natCast, Vx.toN]; omega))) | (refine slq ?_ ?_ ?_ <;> (first | rfl | omega | (simp (disch := omega) only [hS.glob, wraps, plain, Int.ofNat_eq_natCast]; first | done | rfl | omega | (simp; done) | (simp; omega)) | (simp (disch := omega) only [hS.glob, wraps, plain, Int.ofNat_eq_natCast, Vx.toN]; omega))) | (refine ptq ?_ ?_ ?_ <;> (first | rfl | omega | (simp (disch := omega) only [hS.glob, wraps, plain, Int.ofNat_eq_natCast]; first | done | rfl | omega | (simp; done) | (simp; omega)) | (simp (disch := omega) only [hS.glob, wraps, plain, Int.ofNat_eq_natCast, Vx.toN]; omega))) | (refine blq ?_; (first | rfl | omega | (simp (disch := omega) only [hS.glob, wraps, plain, Int.ofNat_eq_natCast]; first | done | rfl | omega | (simp; done) | (simp; omega)) | (simp (disch := omega) only [hS.glob, wraps, plain, Int.ofNat_eq_natCast, Vx.toN]; omega))))) rfl ⟨⟨rfl, rfl, ⟨Nat.le_refl _, fun _ _ => rfl⟩, rfl⟩, trivial⟩ (by rw [hC]; simp)
      · conv => cbv
        simp (disch := first | omega | (simp only [hS.glob, wraps, plain, Int.ofNat_eq_natCast]; omega)) only [hS.glob, wraps, plain, Int.ofNat_eq_natCast] at h6
        repeat (refine ⟨by first | (rw [hW]; show ordOk _ _ _ = true; kernel_rfl) | (first | trivial | omega | (simp (disch := omega) only [hS.glob, wraps, plain, Int.ofNat_eq_natCast]; first | done | omega | trivial | (simp; done) | (simp; omega) | (constructor <;> omega)) | (simp (disch := omega) only [hS.glob, wraps, plain, Int.ofNat_eq_natCast, Vx.toN]; omega)), ?_⟩)
        rw [hVV]
        clear hVV hVA VV VA hW W
        refine V.pick [3] (by decide) (by rw [hC]; exact begins_of rfl) (by rfl) (by rfl) ?_
        obtain ⟨h', e2, e3, e4⟩ := key (fun _ => by omega)
        refine V.to (hback (i + 1, m + 1, h') ⟨by simp only; omega, by simp only; omega, e4⟩ (by simp only; omega)) (by (repeat' first | exact trivial | rfl | (refine And.intro ?_ ?_) | (refine sti ?_; (first | rfl | omega | (simp (disch := omega) only [hS.glob, wraps, plain, Int.ofNat_eq_natCast]; first | done | rfl | omega | (simp; done) | (simp; omega)) | (simp (disch := omega) only [hS.glob, wraps, plain, Int.ofNat_eq_natCast, Vx.toN]; omega))) | (refine slq ?_ ?_ ?_ <;> (first | rfl | omega | (simp (disch := omega) only [hS.glob, wraps, plain, Int.ofNat_eq_natCast]; first | done | rfl | omega | (simp; done) | (simp; omega)) | (simp (disch := omega) only [hS.glob, wraps, plain, Int.ofNat_eq_natCast, Vx.toN]; omega))) | (refine ptq ?_ ?_ ?_ <;> (first | rfl | omega | (simp (disch := omega) only [hS.glob, wraps, plain, Int.ofNat_eq_natCast]; first | done | rfl | omega | (simp; done) | (simp; omega)) | (simp (disch := omega) only [hS.glob, wraps, plain, Int.ofNat_eq_natCast, Vx.toN]; omega))) | (refine blq ?_; (first | rfl | omega | (simp (disch := omega) only [hS.glob, wraps, plain, Int.ofNat_eq_natCast]; first | done | rfl | omega | (simp; done) | (simp; omega)) | (simp (disch := omega) only [hS.glob, wraps, plain, Int.ofNat_eq_natCast, Vx.toN]; omega))))) rfl ⟨⟨rfl, rfl, ⟨by show m + 1 ≤ addN m 1; (first | trivial | omega | (simp (disch := omega) only [hS.glob, wraps, plain, Int.ofNat_eq_natCast]; first | done | omega | trivial | (simp; done) | (simp; omega) | (constructor <;> omega)) | (simp (disch := omega) only [hS.glob, wraps, plain, Int.ofNat_eq_natCast, Vx.toN]; omega)), fun j hj => leafR (by simp [hS.glob]) (by simp [hS.glob]) _ (spc h) (spc h') m (fun j hj => by simp only [spc, e2 j hj]) (by simp only [spc, e3]) j hj⟩, rfl⟩, trivial⟩ (by rw [hC]; simp)
end Go.Proofs.Ytandgpkibpggnaa

/- Scalars that go, by the document. -/
namespace Go.Proofs.Ytandgpkibpggnaa
open Go Vx
def rdX (fr to_ x : Int) : Int := x - max (min x to_ - fr) 0
noncomputable def rdelU (fr to_ : Int) (n : Nat) (g : Nat → Sp) : List Sp := open Classical in if fr < 0 ∨ to_ < fr then tab n g else turnU (movS (rdX fr to_) (rdX fr to_)) (fun s => (movS (rdX fr to_) (rdX fr to_) s).fr < (movS (rdX fr to_) (rdX fr to_) s).to) n g
theorem f22_ok (n : Nat) (hn : n ≤ 1000000) (g : Nat → Sp) (hm : ∀ j, j < n → mid2 (g j).fr ∧ mid2 (g j).to) (fr to_ : Int) (ht : to_ ≤ 1000000000000) (N : List Sp) (hN : N = rdelU fr to_ n g) : FSpec Try.prog 22 [.rows 6 n (spc g), .int .i64 fr, .int .i64 to_] [] (LstR N) := by
  refine LstR.of (n := n) (g := g) ?_
  obtain ⟨Q, hQ⟩ : ∃ Q : AV → Hp → Prop, Q = LstQ N n g := ⟨_, rfl⟩
  rw [← hQ]
  unfold rdelU at hN
  refine FSpec.of (fn := Try.f22) Try.func22 rfl rfl (by simp) fun C hC => ?_
  obtain ⟨iadd, isub, imul, iquo, irem, iband, ibor, ibxor, ibandn, ishl, ishr, iconv, ieq, ine, ilt, ile, igt, ige, bbeq, bbne, bnot, bband, sseq, ssne, sscat, sssub, sslen, sssz, ssbyte, toN, ofN, addN, subN, eqN, ltB, leN, imx, imn, inb, leb, sslt, ltN, fit, ne0, ge0, ssfit, minN, inR, bcol, bstr, isBy, hS⟩ := names
  refine V.goF (by first | exact trivial | assumption) Try.func22 tl_ok mixed hS.ops [] 400 ?_
  intro VV VA W hVV hVA hW
  conv => cbv
  cases h1 : ilt fr 0
  case true =>
    conv => cbv
    repeat (refine ⟨by first | (rw [hW]; show ordOk _ _ _ = true; kernel_rfl) | (first | trivial | omega | (simp (disch := omega) only [hS.glob, wraps, plain, Int.ofNat_eq_natCast]; first | done | omega | trivial | (simp; done) | (simp; omega) | (constructor <;> omega)) | (simp (disch := omega) only [hS.glob, wraps, plain, Int.ofNat_eq_natCast, Vx.toN]; omega)), ?_⟩)
    have e : addN 0 n = n := by (first | rfl | omega | (simp (disch := omega) only [hS.glob, wraps, plain, Int.ofNat_eq_natCast]; first | done | rfl | omega | (simp; done) | (simp; omega)) | (simp (disch := omega) only [hS.glob, wraps, plain, Int.ofNat_eq_natCast, Vx.toN]; omega))
    rw [e, hQ]
    refine .inr ⟨by simp (disch := first | omega | (simp only [hS.glob, wraps, plain, Int.ofNat_eq_natCast]; omega)) only [hS.glob, wraps, plain, Int.ofNat_eq_natCast] at h1; rw [hN, if_pos (.inl h1)], _, _, rfl, rfl, fun i hi => ?_⟩
    simp only [spc]
    cases hr : ltB i 0
    · simp [hS.glob, Vx.subN]
    · simp (disch := first | omega | (simp only [hS.glob, wraps, plain, Int.ofNat_eq_natCast]; omega)) only [hS.glob, wraps, plain, Int.ofNat_eq_natCast] at hr; omega
  conv => cbv
  cases h2 : igt fr to_
  case true =>
    conv => cbv
    repeat (refine ⟨by first | (rw [hW]; show ordOk _ _ _ = true; kernel_rfl) | (first | trivial | omega | (simp (disch := omega) only [hS.glob, wraps, plain, Int.ofNat_eq_natCast]; first | done | omega | trivial | (simp; done) | (simp; omega) | (constructor <;> omega)) | (simp (disch := omega) only [hS.glob, wraps, plain, Int.ofNat_eq_natCast, Vx.toN]; omega)), ?_⟩)
    have e : addN 0 n = n := by (first | rfl | omega | (simp (disch := omega) only [hS.glob, wraps, plain, Int.ofNat_eq_natCast]; first | done | rfl | omega | (simp; done) | (simp; omega)) | (simp (disch := omega) only [hS.glob, wraps, plain, Int.ofNat_eq_natCast, Vx.toN]; omega))
    rw [e, hQ]
    refine .inr ⟨by simp (disch := first | omega | (simp only [hS.glob, wraps, plain, Int.ofNat_eq_natCast]; omega)) only [hS.glob, wraps, plain, Int.ofNat_eq_natCast] at h2; rw [hN, if_pos (.inr h2)], _, _, rfl, rfl, fun i hi => ?_⟩
    simp only [spc]
    cases hr : ltB i 0
    · simp [hS.glob, Vx.subN]
    · simp (disch := first | omega | (simp only [hS.glob, wraps, plain, Int.ofNat_eq_natCast]; omega)) only [hS.glob, wraps, plain, Int.ofNat_eq_natCast] at hr; omega
  conv => cbv
  simp (disch := first | omega | (simp only [hS.glob, wraps, plain, Int.ofNat_eq_natCast]; omega)) only [hS.glob, wraps, plain, Int.ofNat_eq_natCast] at h1 h2
  rw [if_neg (by omega)] at hN
  obtain ⟨tr, htr⟩ : ∃ tr, tr = movS (rdX fr to_) (rdX fr to_) := ⟨_, rfl⟩
  obtain ⟨kp, hkp⟩ : ∃ kp : Sp → Prop, kp = fun s => (tr s).fr < (tr s).to := ⟨_, rfl⟩
  have hN2 : N = turnU tr kp n g := by rw [hN, hkp, htr]
  clear hN
  rw [hVV]
  clear hVV hVA VV VA hW W
  refine V.phantom 7 27 6 (spc (fun _ => noSp)) rfl ?_
  refine V.to (s' := [(8, .int .i64 (ofN 0)), (7, .sl 0 0 0), (0, .rows 6 n (spc g)), (1, .int .i64 fr), (2, .int .i64 to_)]) (H' := [some ⟨27, 6, .arr 0 (spc (fun _ => noSp))⟩]) ?_ (by (repeat' first | exact trivial | rfl | (refine And.intro ?_ ?_) | (refine sti ?_; (first | rfl | omega | (simp (disch := omega) only [hS.glob, wraps, plain, Int.ofNat_eq_natCast]; first | done | rfl | omega | (simp; done) | (simp; omega)) | (simp (disch := omega) only [hS.glob, wraps, plain, Int.ofNat_eq_natCast, Vx.toN]; omega))) | (refine slq ?_ ?_ ?_ <;> (first | rfl | omega | (simp (disch := omega) only [hS.glob, wraps, plain, Int.ofNat_eq_natCast]; first | done | rfl | omega | (simp; done) | (simp; omega)) | (simp (disch := omega) only [hS.glob, wraps, plain, Int.ofNat_eq_natCast, Vx.toN]; omega))) | (refine ptq ?_ ?_ ?_ <;> (first | rfl | omega | (simp (disch := omega) only [hS.glob, wraps, plain, Int.ofNat_eq_natCast]; first | done | rfl | omega | (simp; done) | (simp; omega)) | (simp (disch := omega) only [hS.glob, wraps, plain, Int.ofNat_eq_natCast, Vx.toN]; omega))) | (refine blq ?_; (first | rfl | omega | (simp (disch := omega) only [hS.glob, wraps, plain, Int.ofNat_eq_natCast]; first | done | rfl | omega | (simp; done) | (simp; omega)) | (simp (disch := omega) only [hS.glob, wraps, plain, Int.ofNat_eq_natCast, Vx.toN]; omega))))) rfl (by (repeat' first | exact trivial | rfl | exact Nat.le_refl _ | exact (fun _ _ => rfl) | (refine And.intro ?_ ?_) | (simp only [hS.glob, plain]; first | done | omega))) (by rw [hC]; simp)
  refine V.loop (γ := Nat × Nat × (Nat → Sp)) (fun p => p.1 ≤ n ∧ p.2.1 ≤ p.1 ∧ turnU tr kp p.1 g = tab p.2.1 p.2.2) (fun p => [(8, .int .i64 (ofN p.1)), (7, .sl 0 0 p.2.1), (0, .rows 6 n (spc g)), (1, .int .i64 fr), (2, .int .i64 to_)]) (fun p => [some ⟨27, 6, .arr p.2.1 (spc p.2.2)⟩]) (fun p => n - p.1) ?_ (0, 0, fun _ => noSp) ⟨Nat.zero_le _, Nat.le_refl _, rfl⟩
  rintro ⟨i, m, h⟩ ⟨hi, hm1, hu⟩ hback
  dsimp only at hi hm1 hu hback ⊢
  refine V.goF (by first | exact trivial | assumption) Try.func22 tl_ok mixed hS.ops [] 400 ?_
  intro VV VA W hVV hVA hW
  conv => cbv
  cases h3 : ilt (ofN i) (ofN n)
  · conv => cbv
    simp (disch := first | omega | (simp only [hS.glob, wraps, plain, Int.ofNat_eq_natCast]; omega)) only [hS.glob, wraps, plain, Int.ofNat_eq_natCast] at h3
    obtain rfl : i = n := by omega
    rw [hQ]
    exact .inl ⟨m, h, by rw [hN2, hu], rfl, rfl⟩
  conv => cbv
  simp (disch := first | omega | (simp only [hS.glob, wraps, plain, Int.ofNat_eq_natCast]; omega)) only [hS.glob, wraps, plain, Int.ofNat_eq_natCast] at h3
  repeat (refine ⟨by first | (rw [hW]; show ordOk _ _ _ = true; kernel_rfl) | (first | trivial | omega | (simp (disch := omega) only [hS.glob, wraps, plain, Int.ofNat_eq_natCast]; first | done | omega | trivial | (simp; done) | (simp; omega) | (constructor <;> omega)) | (simp (disch := omega) only [hS.glob, wraps, plain, Int.ofNat_eq_natCast, Vx.toN]; omega)), ?_⟩)
  simp only [hS.tidy]
  have hmi := hm i (by omega)
  obtain ⟨t1, t2⟩ := turnU_succ tr kp i g
  rcases hgi : g i with ⟨a, b, p, d, u, x⟩
  rw [hgi] at hmi t1 t2
  unfold mid2 at hmi
  dsimp only at hmi ⊢
  rw [hu] at t1 t2
  obtain ⟨y1, hy1⟩ : ∃ y, y = rdX fr to_ a := ⟨_, rfl⟩
  obtain ⟨y2, hy2⟩ : ∃ y, y = rdX fr to_ b := ⟨_, rfl⟩
  have eS : tr (⟨a, b, p, d, u, x⟩ : Sp) = ⟨y1, y2, p, d, u, x⟩ := by rw [htr, hy1, hy2]; rfl
  rw [eS] at t1
  have hk2 : kp (⟨a, b, p, d, u, x⟩ : Sp) ↔ y1 < y2 := by rw [hkp]; simp only; rw [eS]
  rw [hk2] at t1 t2
  clear hk2 eS
  unfold rdX at hy1 hy2
  clear hgi
  have m1 : ∀ z, imn z to_ = min z to_ := fun z => by simp only [hS.glob, Vx.imn]; split <;> omega
  have m2 : ∀ z, imx z 0 = max z 0 := fun z => by simp only [hS.glob, Vx.imx]; split <;> omega
  have q1 : isub .i64 a (imx (isub .i64 (imn a to_) fr) 0) = y1 := by
    rw [m1, m2]
    have e1 : isub .i64 (min a to_) fr = min a to_ - fr := by (first | rfl | omega | (simp (disch := omega) only [hS.glob, wraps, plain, Int.ofNat_eq_natCast]; first | done | rfl | omega | (simp; done) | (simp; omega)) | (simp (disch := omega) only [hS.glob, wraps, plain, Int.ofNat_eq_natCast, Vx.toN]; omega))
    rw [e1, hy1]
    (first | rfl | omega | (simp (disch := omega) only [hS.glob, wraps, plain, Int.ofNat_eq_natCast]; first | done | rfl | omega | (simp; done) | (simp; omega)) | (simp (disch := omega) only [hS.glob, wraps, plain, Int.ofNat_eq_natCast, Vx.toN]; omega))
  have q2 : isub .i64 b (imx (isub .i64 (imn b to_) fr) 0) = y2 := by
    rw [m1, m2]
    have e1 : isub .i64 (min b to_) fr = min b to_ - fr := by (first | rfl | omega | (simp (disch := omega) only [hS.glob, wraps, plain, Int.ofNat_eq_natCast]; first | done | rfl | omega | (simp; done) | (simp; omega)) | (simp (disch := omega) only [hS.glob, wraps, plain, Int.ofNat_eq_natCast, Vx.toN]; omega))
    rw [e1, hy2]
    (first | rfl | omega | (simp (disch := omega) only [hS.glob, wraps, plain, Int.ofNat_eq_natCast]; first | done | rfl | omega | (simp; done) | (simp; omega)) | (simp (disch := omega) only [hS.glob, wraps, plain, Int.ofNat_eq_natCast, Vx.toN]; omega))
  simp only [q1, q2]
  cases h6 : ilt y1 y2
  · conv => cbv
    simp (disch := first | omega | (simp only [hS.glob, wraps, plain, Int.ofNat_eq_natCast]; omega)) only [hS.glob, wraps, plain, Int.ofNat_eq_natCast] at h6
    repeat (refine ⟨by first | (rw [hW]; show ordOk _ _ _ = true; kernel_rfl) | (first | trivial | omega | (simp (disch := omega) only [hS.glob, wraps, plain, Int.ofNat_eq_natCast]; first | done | omega | trivial | (simp; done) | (simp; omega) | (constructor <;> omega)) | (simp (disch := omega) only [hS.glob, wraps, plain, Int.ofNat_eq_natCast, Vx.toN]; omega)), ?_⟩)
    rw [hVV]
    clear hVV hVA VV VA hW W
    exact V.to (hback (i + 1, m, h) ⟨by simp only; omega, by simp only; omega, by simp only; exact t2 (fun h7 => by omega)⟩ (by simp only; omega)) (by (repeat' first | exact trivial | rfl | (refine And.intro ?_ ?_) | (refine sti ?_; (first | rfl | omega | (simp (disch := omega) only [hS.glob, wraps, plain, Int.ofNat_eq_natCast]; first | done | rfl | omega | (simp; done) | (simp; omega)) | (simp (disch := omega) only [hS.glob, wraps, plain, Int.ofNat_eq_natCast, Vx.toN]; omega))) | (refine slq ?_ ?_ ?_ <;> (first | rfl | omega | (simp (disch := omega) only [hS.glob, wraps, plain, Int.ofNat_eq_natCast]; first | done | rfl | omega | (simp; done) | (simp; omega)) | (simp (disch := omega) only [hS.glob, wraps, plain, Int.ofNat_eq_natCast, Vx.toN]; omega))) | (refine ptq ?_ ?_ ?_ <;> (first | rfl | omega | (simp (disch := omega) only [hS.glob, wraps, plain, Int.ofNat_eq_natCast]; first | done | rfl | omega | (simp; done) | (simp; omega)) | (simp (disch := omega) only [hS.glob, wraps, plain, Int.ofNat_eq_natCast, Vx.toN]; omega))) | (refine blq ?_; (first | rfl | omega | (simp (disch := omega) only [hS.glob, wraps, plain, Int.ofNat_eq_natCast]; first | done | rfl | omega | (simp; done) | (simp; omega)) | (simp (disch := omega) only [hS.glob, wraps, plain, Int.ofNat_eq_natCast, Vx.toN]; omega))))) rfl ⟨⟨rfl, rfl, ⟨Nat.le_refl _, fun _ _ => rfl⟩, rfl⟩, trivial⟩ (by rw [hC]; simp)
  · conv => cbv
    simp (disch := first | omega | (simp only [hS.glob, wraps, plain, Int.ofNat_eq_natCast]; omega)) only [hS.glob, wraps, plain, Int.ofNat_eq_natCast] at h6
    repeat (refine ⟨by first | (rw [hW]; show ordOk _ _ _ = true; kernel_rfl) | (first | trivial | omega | (simp (disch := omega) only [hS.glob, wraps, plain, Int.ofNat_eq_natCast]; first | done | omega | trivial | (simp; done) | (simp; omega) | (constructor <;> omega)) | (simp (disch := omega) only [hS.glob, wraps, plain, Int.ofNat_eq_natCast, Vx.toN]; omega)), ?_⟩)
    rw [hVV]
    clear hVV hVA VV VA hW W
    refine V.pick [3] (by decide) (by rw [hC]; exact begins_of rfl) (by rfl) (by rfl) ?_
    obtain ⟨h', e2, e3⟩ := snocF h m (⟨y1, y2, p, d, u, x⟩ : Sp)
    refine V.to (hback (i + 1, m + 1, h') ⟨by simp only; omega, by simp only; omega, by simp only; rw [t1 h6]; exact (tab_snoc rfl e2 e3).symm⟩ (by simp only; omega)) (by (repeat' first | exact trivial | rfl | (refine And.intro ?_ ?_) | (refine sti ?_; (first | rfl | omega | (simp (disch := omega) only [hS.glob, wraps, plain, Int.ofNat_eq_natCast]; first | done | rfl | omega | (simp; done) | (simp; omega)) | (simp (disch := omega) only [hS.glob, wraps, plain, Int.ofNat_eq_natCast, Vx.toN]; omega))) | (refine slq ?_ ?_ ?_ <;> (first | rfl | omega | (simp (disch := omega) only [hS.glob, wraps, plain, Int.ofNat_eq_natCast]; first | done | rfl | omega | (simp; done) | (simp; omega)) | (simp (disch := omega) only [hS.glob, wraps, plain, Int.ofNat_eq_natCast, Vx.toN]; omega))) | (refine ptq ?_ ?_ ?_ <;> (first | rfl | omega | (simp (disch := omega) only [hS.glob, wraps, plain, Int.ofNat_eq_natCast]; first | done | rfl | omega | (simp; done) | (simp; omega)) | (simp (disch := omega) only [hS.glob, wraps, plain, Int.ofNat_eq_natCast, Vx.toN]; omega))) | (refine blq ?_; (first | rfl | omega | (simp (disch := omega) only [hS.glob, wraps, plain, Int.ofNat_eq_natCast]; first | done | rfl | omega | (simp; done) | (simp; omega)) | (simp (disch := omega) only [hS.glob, wraps, plain, Int.ofNat_eq_natCast, Vx.toN]; omega))))) rfl ⟨⟨rfl, rfl, ⟨by show m + 1 ≤ addN m 1; (first | trivial | omega | (simp (disch := omega) only [hS.glob, wraps, plain, Int.ofNat_eq_natCast]; first | done | omega | trivial | (simp; done) | (simp; omega) | (constructor <;> omega)) | (simp (disch := omega) only [hS.glob, wraps, plain, Int.ofNat_eq_natCast, Vx.toN]; omega)), fun j hj => leafR (by simp [hS.glob]) (by simp [hS.glob]) _ (spc h) (spc h') m (fun j hj => by simp only [spc, e2 j hj]) (by simp only [spc, e3]) j hj⟩, rfl⟩, trivial⟩ (by rw [hC]; simp)
end Go.Proofs.Ytandgpkibpggnaa

/- Scalars that come, and go, by the program. -/
namespace Go.Proofs.Ytandgpkibpggnaa
open Go Vx
noncomputable def insU (at_ k : Int) (n : Nat) (g : Nat → Sp) : List Sp := open Classical in if at_ < 0 ∨ k < 0 then tab n g else turnU (insS at_ k) (fun s => kpS (insS at_ k s)) n g
noncomputable def delU (fr to_ : Int) (n : Nat) (g : Nat → Sp) : List Sp := open Classical in if fr < 0 ∨ to_ < fr then tab n g else turnU (movS (delX fr to_) (delX fr to_)) (fun s => kpS (movS (delX fr to_) (delX fr to_) s)) n g
theorem f19_ok (n : Nat) (hn : n ≤ 1000000) (g : Nat → Sp) (hm : ∀ j, j < n → mid2 (g j).fr ∧ mid2 (g j).to) (at_ k : Int) (ha : at_ ≤ 1000000000000) (hk : k ≤ 1000000000000) (N : List Sp) (hN : N = insU at_ k n g) : FSpec Try.prog 19 [.rows 6 n (spc g), .int .i64 at_, .int .i64 k] [] (LstR N) := by
  refine (show FSpec Try.prog 19 [.rows 6 n (spc g), .int .i64 at_, .int .i64 k] [] (fun r H' => ∃ m h, N = tab m h ∧ r = .sl 1 0 m ∧ H' = [none, some ⟨27, 6, .arr m (spc h)⟩]) from ?_).repick ?_
  case refine_2 =>
    rintro r H' ⟨m, h, h1, rfl, rfl⟩
    exact ⟨[1], by decide, fun k hk => absurd hk (by simp), m, h, h1, rfl, rfl⟩
  obtain ⟨Q, hQ⟩ : ∃ Q : AV → Hp → Prop, Q = (fun r H' => ∃ m h, N = tab m h ∧ r = .sl 1 0 m ∧ H' = [none, some ⟨27, 6, .arr m (spc h)⟩]) := ⟨_, rfl⟩
  rw [← hQ]
  unfold insU at hN
  refine FSpec.of (fn := Try.f19) Try.func19 rfl rfl (by simp) fun C hC => ?_
  obtain ⟨iadd, isub, imul, iquo, irem, iband, ibor, ibxor, ibandn, ishl, ishr, iconv, ieq, ine, ilt, ile, igt, ige, bbeq, bbne, bnot, bband, sseq, ssne, sscat, sssub, sslen, sssz, ssbyte, toN, ofN, addN, subN, eqN, ltB, leN, imx, imn, inb, leb, sslt, ltN, fit, ne0, ge0, ssfit, minN, inR, bcol, bstr, isBy, hS⟩ := names
  refine V.goF (by first | exact trivial | assumption) Try.func19 tl_ok mixed hS.ops [] 3 ?_
  intro VV VA W hVV hVA hW
  conv => cbv
  rw [hVV]
  clear hVV hVA VV VA hW W
  refine V.freezePtr 5 rfl rfl rfl ?_
  refine V.goF (by first | exact trivial | assumption) Try.func19 tl_ok mixed hS.ops [] 400 ?_
  intro VV VA W hVV hVA hW
  conv => cbv
  cases h1 : ilt at_ 0
  case true =>
    conv => cbv
    simp (disch := first | omega | (simp only [hS.glob, wraps, plain, Int.ofNat_eq_natCast]; omega)) only [hS.glob, wraps, plain, Int.ofNat_eq_natCast] at h1
    rw [if_pos (.inl h1)] at hN
    rw [hVV]
    clear hVV hVA VV VA hW W
    refine V.call rfl rfl rfl rfl rfl Try.func30 rfl (by decide) [] (by simp) (by simp) (by (first | rfl | ((conv => cbv); (repeat' apply And.intro) <;> first | rfl | trivial | (first | rfl | omega | (simp (disch := omega) only [hS.glob, wraps, plain, Int.ofNat_eq_natCast]; first | done | rfl | omega | (simp; done) | (simp; omega)) | (simp (disch := omega) only [hS.glob, wraps, plain, Int.ofNat_eq_natCast, Vx.toN]; omega))))) rfl (f30_ok n g (by omega)) ?_
    rintro r Hc ⟨rfl, rfl⟩
    refine V.goF (by first | exact trivial | assumption) Try.func19 tl_ok mixed hS.ops [] 400 ?_
    intro VV VA W hVV hVA hW
    conv => cbv
    rw [hQ]
    exact ⟨n, g, hN, rfl, rfl⟩
  conv => cbv
  cases h2 : ilt k 0
  case true =>
    conv => cbv
    simp (disch := first | omega | (simp only [hS.glob, wraps, plain, Int.ofNat_eq_natCast]; omega)) only [hS.glob, wraps, plain, Int.ofNat_eq_natCast] at h2
    rw [if_pos (.inr h2)] at hN
    rw [hVV]
    clear hVV hVA VV VA hW W
    refine V.call rfl rfl rfl rfl rfl Try.func30 rfl (by decide) [] (by simp) (by simp) (by (first | rfl | ((conv => cbv); (repeat' apply And.intro) <;> first | rfl | trivial | (first | rfl | omega | (simp (disch := omega) only [hS.glob, wraps, plain, Int.ofNat_eq_natCast]; first | done | rfl | omega | (simp; done) | (simp; omega)) | (simp (disch := omega) only [hS.glob, wraps, plain, Int.ofNat_eq_natCast, Vx.toN]; omega))))) rfl (f30_ok n g (by omega)) ?_
    rintro r Hc ⟨rfl, rfl⟩
    refine V.goF (by first | exact trivial | assumption) Try.func19 tl_ok mixed hS.ops [] 400 ?_
    intro VV VA W hVV hVA hW
    conv => cbv
    rw [hQ]
    exact ⟨n, g, hN, rfl, rfl⟩
  conv => cbv
  simp (disch := first | omega | (simp only [hS.glob, wraps, plain, Int.ofNat_eq_natCast]; omega)) only [hS.glob, wraps, plain, Int.ofNat_eq_natCast] at h1 h2
  rw [if_neg (by omega)] at hN
  rw [hVV]
  clear hVV hVA VV VA hW W
  refine V.call rfl rfl rfl rfl rfl Try.func31 rfl (by decide) [] (by simp) (by simp) (by (first | rfl | ((conv => cbv); (repeat' apply And.intro) <;> first | rfl | trivial | (first | rfl | omega | (simp (disch := omega) only [hS.glob, wraps, plain, Int.ofNat_eq_natCast]; first | done | rfl | omega | (simp; done) | (simp; omega)) | (simp (disch := omega) only [hS.glob, wraps, plain, Int.ofNat_eq_natCast, Vx.toN]; omega))))) rfl (f31_ok at_ k) ?_
  rintro r Hc ⟨rfl, rfl⟩
  refine V.goF (by first | exact trivial | assumption) Try.func19 tl_ok mixed hS.ops [] 400 ?_
  intro VV VA W hVV hVA hW
  conv => cbv
  have e1 : iadd .i64 at_ 1 = at_ + 1 := by (first | rfl | omega | (simp (disch := omega) only [hS.glob, wraps, plain, Int.ofNat_eq_natCast]; first | done | rfl | omega | (simp; done) | (simp; omega)) | (simp (disch := omega) only [hS.glob, wraps, plain, Int.ofNat_eq_natCast, Vx.toN]; omega))
  obtain ⟨z, hz⟩ : ∃ z, z = at_ + 1 := ⟨_, rfl⟩
  rw [← hz] at e1
  simp only [e1]
  rw [hVV]
  clear hVV hVA VV VA hW W
  refine V.call rfl rfl rfl rfl rfl Try.func31 rfl (by decide) [] (by simp) (by simp) (by (first | rfl | ((conv => cbv); (repeat' apply And.intro) <;> first | rfl | trivial | (first | rfl | omega | (simp (disch := omega) only [hS.glob, wraps, plain, Int.ofNat_eq_natCast]; first | done | rfl | omega | (simp; done) | (simp; omega)) | (simp (disch := omega) only [hS.glob, wraps, plain, Int.ofNat_eq_natCast, Vx.toN]; omega))))) rfl (f31_ok z k) ?_
  rintro r Hc ⟨rfl, rfl⟩
  refine V.goF (by first | exact trivial | assumption) Try.func19 tl_ok mixed hS.ops [] 400 ?_
  intro VV VA W hVV hVA hW
  conv => cbv
  rw [hVV]
  clear hVV hVA VV VA hW W
  have h33 := f33_ok 32 Try.func32 rfl (by decide) at_ k z k (insX at_ k) (insX z k) n hn g hm (fun j hj => by
      have := hm j hj
      unfold mid2 at this
      unfold insX
      split <;> split <;> omega)
    (fun x y hx hy => f32_ok x at_ k hx ⟨by omega, hk⟩ y hy) (fun x y hx hy => f32_ok x z k hx ⟨by omega, hk⟩ y hy) N (by rw [hN, hz]; rfl)
  refine V.call rfl rfl rfl rfl rfl Try.func33 rfl (by decide) [] (by simp) (by simp) (by (first | rfl | ((conv => cbv); (repeat' apply And.intro) <;> first | rfl | trivial | (first | rfl | omega | (simp (disch := omega) only [hS.glob, wraps, plain, Int.ofNat_eq_natCast]; first | done | rfl | omega | (simp; done) | (simp; omega)) | (simp (disch := omega) only [hS.glob, wraps, plain, Int.ofNat_eq_natCast, Vx.toN]; omega))))) rfl h33 ?_
  rintro r Hc ⟨m, h, h3, rfl, rfl⟩
  refine V.goF (by first | exact trivial | assumption) Try.func19 tl_ok mixed hS.ops [] 400 ?_
  intro VV VA W hVV hVA hW
  conv => cbv
  rw [hQ]
  exact ⟨m, h, h3, rfl, rfl⟩
theorem f21_ok (n : Nat) (hn : n ≤ 1000000) (g : Nat → Sp) (hm : ∀ j, j < n → mid2 (g j).fr ∧ mid2 (g j).to) (fr to_ : Int) (ht : to_ ≤ 1000000000000) (N : List Sp) (hN : N = delU fr to_ n g) : FSpec Try.prog 21 [.rows 6 n (spc g), .int .i64 fr, .int .i64 to_] [] (LstR N) := by
  refine (show FSpec Try.prog 21 [.rows 6 n (spc g), .int .i64 fr, .int .i64 to_] [] (fun r H' => ∃ m h, N = tab m h ∧ r = .sl 2 0 m ∧ H' = [none, none, some ⟨27, 6, .arr m (spc h)⟩]) from ?_).repick ?_
  case refine_2 =>
    rintro r H' ⟨m, h, h1, rfl, rfl⟩
    exact ⟨[2], by decide, fun k hk => absurd hk (by simp), m, h, h1, rfl, rfl⟩
  obtain ⟨Q, hQ⟩ : ∃ Q : AV → Hp → Prop, Q = (fun r H' => ∃ m h, N = tab m h ∧ r = .sl 2 0 m ∧ H' = [none, none, some ⟨27, 6, .arr m (spc h)⟩]) := ⟨_, rfl⟩
  rw [← hQ]
  unfold delU at hN
  refine FSpec.of (fn := Try.f21) Try.func21 rfl rfl (by simp) fun C hC => ?_
  obtain ⟨iadd, isub, imul, iquo, irem, iband, ibor, ibxor, ibandn, ishl, ishr, iconv, ieq, ine, ilt, ile, igt, ige, bbeq, bbne, bnot, bband, sseq, ssne, sscat, sssub, sslen, sssz, ssbyte, toN, ofN, addN, subN, eqN, ltB, leN, imx, imn, inb, leb, sslt, ltN, fit, ne0, ge0, ssfit, minN, inR, bcol, bstr, isBy, hS⟩ := names
  refine V.goF (by first | exact trivial | assumption) Try.func21 tl_ok mixed hS.ops [] 4 ?_
  intro VV VA W hVV hVA hW
  conv => cbv
  rw [hVV]
  clear hVV hVA VV VA hW W
  refine V.freezePtr 4 rfl rfl rfl ?_
  refine V.freezePtr 5 rfl rfl rfl ?_
  refine V.goF (by first | exact trivial | assumption) Try.func21 tl_ok mixed hS.ops [] 400 ?_
  intro VV VA W hVV hVA hW
  conv => cbv
  cases h1 : ilt fr 0
  case true =>
    conv => cbv
    simp (disch := first | omega | (simp only [hS.glob, wraps, plain, Int.ofNat_eq_natCast]; omega)) only [hS.glob, wraps, plain, Int.ofNat_eq_natCast] at h1
    rw [if_pos (.inl h1)] at hN
    rw [hVV]
    clear hVV hVA VV VA hW W
    refine V.call rfl rfl rfl rfl rfl Try.func30 rfl (by decide) [] (by simp) (by simp) (by (first | rfl | ((conv => cbv); (repeat' apply And.intro) <;> first | rfl | trivial | (first | rfl | omega | (simp (disch := omega) only [hS.glob, wraps, plain, Int.ofNat_eq_natCast]; first | done | rfl | omega | (simp; done) | (simp; omega)) | (simp (disch := omega) only [hS.glob, wraps, plain, Int.ofNat_eq_natCast, Vx.toN]; omega))))) rfl (f30_ok n g (by omega)) ?_
    rintro r Hc ⟨rfl, rfl⟩
    refine V.goF (by first | exact trivial | assumption) Try.func21 tl_ok mixed hS.ops [] 400 ?_
    intro VV VA W hVV hVA hW
    conv => cbv
    rw [hQ]
    exact ⟨n, g, hN, rfl, rfl⟩
  conv => cbv
  cases h2 : igt fr to_
  case true =>
    conv => cbv
    simp (disch := first | omega | (simp only [hS.glob, wraps, plain, Int.ofNat_eq_natCast]; omega)) only [hS.glob, wraps, plain, Int.ofNat_eq_natCast] at h2
    rw [if_pos (.inr h2)] at hN
    rw [hVV]
    clear hVV hVA VV VA hW W
    refine V.call rfl rfl rfl rfl rfl Try.func30 rfl (by decide) [] (by simp) (by simp) (by (first | rfl | ((conv => cbv); (repeat' apply And.intro) <;> first | rfl | trivial | (first | rfl | omega | (simp (disch := omega) only [hS.glob, wraps, plain, Int.ofNat_eq_natCast]; first | done | rfl | omega | (simp; done) | (simp; omega)) | (simp (disch := omega) only [hS.glob, wraps, plain, Int.ofNat_eq_natCast, Vx.toN]; omega))))) rfl (f30_ok n g (by omega)) ?_
    rintro r Hc ⟨rfl, rfl⟩
    refine V.goF (by first | exact trivial | assumption) Try.func21 tl_ok mixed hS.ops [] 400 ?_
    intro VV VA W hVV hVA hW
    conv => cbv
    rw [hQ]
    exact ⟨n, g, hN, rfl, rfl⟩
  conv => cbv
  simp (disch := first | omega | (simp only [hS.glob, wraps, plain, Int.ofNat_eq_natCast]; omega)) only [hS.glob, wraps, plain, Int.ofNat_eq_natCast] at h1 h2
  rw [if_neg (by omega)] at hN
  rw [hVV]
  clear hVV hVA VV VA hW W
  have hc : ∀ x y, mid2 x → y = delX fr to_ x → FSpec Try.prog 34 [.int .i64 x, .ref [.int .i64 fr], .ref [.int .i64 to_]] [] (fun r H' => r = .int .i64 y ∧ H' = []) := fun x y hx hy => f34_ok x fr to_ hx ⟨by omega, by omega⟩ ⟨by omega, by omega⟩ y hy
  have h33 := f33_ok 34 Try.func34 rfl (by decide) fr to_ fr to_ (delX fr to_) (delX fr to_) n hn g hm (fun j hj => by
      have := hm j hj
      unfold mid2 at this
      unfold delX
      repeat' split
      all_goals omega) hc hc N hN
  refine V.call rfl rfl rfl rfl rfl Try.func33 rfl (by decide) [] (by simp) (by simp) (by (first | rfl | ((conv => cbv); (repeat' apply And.intro) <;> first | rfl | trivial | (first | rfl | omega | (simp (disch := omega) only [hS.glob, wraps, plain, Int.ofNat_eq_natCast]; first | done | rfl | omega | (simp; done) | (simp; omega)) | (simp (disch := omega) only [hS.glob, wraps, plain, Int.ofNat_eq_natCast, Vx.toN]; omega))))) rfl h33 ?_
  rintro r Hc ⟨m, h, h3, rfl, rfl⟩
  refine V.goF (by first | exact trivial | assumption) Try.func21 tl_ok mixed hS.ops [] 400 ?_
  intro VV VA W hVV hVA hW
  conv => cbv
  rw [hQ]
  exact ⟨m, h, h3, rfl, rfl⟩
end Go.Proofs.Ytandgpkibpggnaa
