/- Contracts of functions by an evaluator of the model: its part T2. -/
import Derived.Test.YtffahckigenfcaaT1
set_option linter.all false
/- Blocks that change places. -/
namespace Go.Proofs.Ytffahckigenfcaa
open Go Vx
theorem swp_step (a b k : Nat) (hd : a + k < b) (g : Nat → Int) (j : Nat) : swp a b (k + 1) g j = if j = b + k then swp a b k g (a + k) else if j = a + k then swp a b k g (b + k) else swp a b k g j := by
  simp only [swp]
  repeat' split
  all_goals first | omega | (congr 1; omega) | rfl
theorem swp_none (a b : Nat) (g : Nat → Int) (j : Nat) : swp a b 0 g j = g j := by
  simp only [swp]
  rw [if_neg (by omega), if_neg (by omega)]
theorem f53_ok (n : Nat) (hn : n ≤ 1000000) (g : Nat → Int) (a b c : Nat) (h1 : a + c ≤ b) (h2 : b + c ≤ n) (z x y : Int) (hz : z = a) (hx : x = b) (hy : y = c) :
    FSpec Try.prog 53 [.sl 0 0 n, .int .i64 z, .int .i64 x, .int .i64 y, .fn (.func 15) [] []] [some ⟨22, 1, .arr n (icol .u64 g)⟩] (fun r H' => r = .tup [] ∧ ∃ h, H' = [some ⟨22, 1, .arr n (icol .u64 h)⟩] ∧ ∀ j, j < n → h j = swp a b c g j) := by
  refine FSpec.of (fn := Try.f53) Try.func53 rfl rfl (by simp) fun C hC => ?_
  obtain ⟨iadd, isub, imul, iquo, irem, iband, ibor, ibxor, ibandn, ishl, ishr, iconv, ieq, ine, ilt, ile, igt, ige, bbeq, bbne, bnot, bband, sseq, ssne, sscat, sssub, sslen, sssz, ssbyte, toN, ofN, addN, subN, eqN, ltB, leN, imx, imn, inb, leb, sslt, ltN, fit, ne0, ge0, ssfit, minN, inR, bcol, bstr, isBy, hS⟩ := names
  refine V.goF (by first | exact trivial | assumption) Try.func53 tl_ok mixed hS.ops [] 400 ?_
  intro VV VA W hVV hVA hW
  conv => cbv
  rw [hVV]
  clear hVV hVA VV VA hW W
  refine V.to (s' := [(10, .int .i64 (ofN 0)), (0, .sl 0 0 n), (1, .int .i64 z), (2, .int .i64 x), (3, .int .i64 y)]) (H' := [some ⟨22, 1, .arr n (icol .u64 g)⟩]) ?_ (by (repeat' first | exact trivial | rfl | (refine And.intro ?_ ?_) | (refine sti ?_; (first | rfl | omega | (simp (disch := omega) only [hS.glob, wraps, plain, Int.ofNat_eq_natCast]; first | done | rfl | omega | (simp; done) | (simp; omega)) | (simp (disch := omega) only [hS.glob, wraps, plain, Int.ofNat_eq_natCast, Vx.toN]; omega))) | (refine slq ?_ ?_ ?_ <;> (first | rfl | omega | (simp (disch := omega) only [hS.glob, wraps, plain, Int.ofNat_eq_natCast]; first | done | rfl | omega | (simp; done) | (simp; omega)) | (simp (disch := omega) only [hS.glob, wraps, plain, Int.ofNat_eq_natCast, Vx.toN]; omega))) | (refine ptq ?_ ?_ ?_ <;> (first | rfl | omega | (simp (disch := omega) only [hS.glob, wraps, plain, Int.ofNat_eq_natCast]; first | done | rfl | omega | (simp; done) | (simp; omega)) | (simp (disch := omega) only [hS.glob, wraps, plain, Int.ofNat_eq_natCast, Vx.toN]; omega))) | (refine blq ?_; (first | rfl | omega | (simp (disch := omega) only [hS.glob, wraps, plain, Int.ofNat_eq_natCast]; first | done | rfl | omega | (simp; done) | (simp; omega)) | (simp (disch := omega) only [hS.glob, wraps, plain, Int.ofNat_eq_natCast, Vx.toN]; omega))))) rfl (by (repeat' first | exact trivial | rfl | exact Nat.le_refl _ | exact (fun _ _ => rfl) | (refine And.intro ?_ ?_) | (simp only [hS.glob, plain]; first | done | omega))) (by rw [hC]; simp)
  refine V.loop (γ := Nat × (Nat → Int)) (fun p => p.1 ≤ c ∧ ∀ j, j < n → p.2 j = swp a b p.1 g j) (fun p => [(10, .int .i64 (ofN p.1)), (0, .sl 0 0 n), (1, .int .i64 z), (2, .int .i64 x), (3, .int .i64 y)]) (fun p => [some ⟨22, 1, .arr n (icol .u64 p.2)⟩]) (fun p => c - p.1) ?_ (0, g) ⟨Nat.zero_le _, fun j _ => (swp_none a b g j).symm⟩
  rintro ⟨i, h⟩ ⟨hi, hh⟩ hback
  dsimp only at hi hh ⊢
  refine V.goF (by first | exact trivial | assumption) Try.func53 tl_ok mixed hS.ops [] 400 ?_
  intro VV VA W hVV hVA hW
  conv => cbv
  split <;> rename_i h4
  rotate_left
  · conv => cbv
    simp (disch := first | omega | (simp only [hS.glob, wraps, plain, Int.ofNat_eq_natCast]; omega)) only [hS.glob, wraps, plain, Int.ofNat_eq_natCast] at h4
    obtain rfl : i = c := by omega
    exact ⟨rfl, h, rfl, hh⟩
  · conv => cbv
    simp (disch := first | omega | (simp only [hS.glob, wraps, plain, Int.ofNat_eq_natCast]; omega)) only [hS.glob, wraps, plain, Int.ofNat_eq_natCast] at h4
    repeat (refine ⟨by first | (rw [hW]; show ordOk _ _ _ = true; kernel_rfl) | (first | trivial | omega | (simp (disch := omega) only [hS.glob, wraps, plain, Int.ofNat_eq_natCast]; first | done | omega | trivial | (simp; done) | (simp; omega) | (constructor <;> omega)) | (simp (disch := omega) only [hS.glob, wraps, plain, Int.ofNat_eq_natCast, Vx.toN]; omega)), ?_⟩)
    have ex : addN 0 (toN (iadd .i64 x (ofN i))) = b + i := by
      have : iadd .i64 x (ofN i) = ((b + i : Nat) : Int) := by subst hx; (first | rfl | omega | (simp (disch := omega) only [hS.glob, wraps, plain, Int.ofNat_eq_natCast]; first | done | rfl | omega | (simp; done) | (simp; omega)) | (simp (disch := omega) only [hS.glob, wraps, plain, Int.ofNat_eq_natCast, Vx.toN]; omega))
      rw [this]
      simp [hS.glob, Vx.addN, Vx.toN]
      omega
    have ez : addN 0 (toN (iadd .i64 z (ofN i))) = a + i := by
      have : iadd .i64 z (ofN i) = ((a + i : Nat) : Int) := by subst hz; (first | rfl | omega | (simp (disch := omega) only [hS.glob, wraps, plain, Int.ofNat_eq_natCast]; first | done | rfl | omega | (simp; done) | (simp; omega)) | (simp (disch := omega) only [hS.glob, wraps, plain, Int.ofNat_eq_natCast, Vx.toN]; omega))
      rw [this]
      simp [hS.glob, Vx.addN, Vx.toN]
      omega
    simp only [ex, ez, hS.tidy]
    rw [hVV]
    clear hVV hVA VV VA hW W
    refine V.to (hback (i + 1, fun j => if j = b + i then h (a + i) else if j = a + i then h (b + i) else h j) ⟨by simp only; omega, fun j hj => ?_⟩ (by simp only; omega)) (by (repeat' first | exact trivial | rfl | (refine And.intro ?_ ?_) | (refine sti ?_; (first | rfl | omega | (simp (disch := omega) only [hS.glob, wraps, plain, Int.ofNat_eq_natCast]; first | done | rfl | omega | (simp; done) | (simp; omega)) | (simp (disch := omega) only [hS.glob, wraps, plain, Int.ofNat_eq_natCast, Vx.toN]; omega))) | (refine slq ?_ ?_ ?_ <;> (first | rfl | omega | (simp (disch := omega) only [hS.glob, wraps, plain, Int.ofNat_eq_natCast]; first | done | rfl | omega | (simp; done) | (simp; omega)) | (simp (disch := omega) only [hS.glob, wraps, plain, Int.ofNat_eq_natCast, Vx.toN]; omega))) | (refine ptq ?_ ?_ ?_ <;> (first | rfl | omega | (simp (disch := omega) only [hS.glob, wraps, plain, Int.ofNat_eq_natCast]; first | done | rfl | omega | (simp; done) | (simp; omega)) | (simp (disch := omega) only [hS.glob, wraps, plain, Int.ofNat_eq_natCast, Vx.toN]; omega))) | (refine blq ?_; (first | rfl | omega | (simp (disch := omega) only [hS.glob, wraps, plain, Int.ofNat_eq_natCast]; first | done | rfl | omega | (simp; done) | (simp; omega)) | (simp (disch := omega) only [hS.glob, wraps, plain, Int.ofNat_eq_natCast, Vx.toN]; omega))))) rfl ?_ (by rw [hC]; simp)
    · dsimp only
      rw [swp_step a b i (by omega), hh j hj, hh (a + i) (by omega), hh (b + i) (by omega)]
    · (repeat' first | exact trivial | rfl | exact Nat.le_refl _ | exact (fun _ _ => rfl) | (refine And.intro ?_ ?_) | (simp only [hS.glob, plain]; first | done | omega))
      intro j hj
      simp only [icol, hS.tidy]
      cases q1 : eqN j (b + i)
      · simp only [hS.glob, plain] at q1
        simp only [if_neg q1]
        cases q2 : eqN j (a + i)
        · simp only [hS.glob, plain] at q2
          simp only [if_neg q2]
        · simp only [hS.glob, plain] at q2
          simp only [if_pos q2]
          rfl
      · simp only [hS.glob, plain] at q1
        simp only [if_pos q1]
        cases q2 : eqN j (a + i)
        · rfl
        · rfl
theorem f53_eq (n : Nat) (hn : n ≤ 1000000) (g : Nat → Int) (a b c : Nat) (h1 : a + c ≤ b) (h2 : b + c ≤ n) (z x y : Int) (hz : z = a) (hx : x = b) (hy : y = c) (R : Nat → Int) (hR : ∀ j, j < n → R j = swp a b c g j) :
    FSpec Try.prog 53 [.sl 0 0 n, .int .i64 z, .int .i64 x, .int .i64 y, .fn (.func 15) [] []] [some ⟨22, 1, .arr n (icol .u64 g)⟩] (fun r H' => r = .tup [] ∧ H' = [some ⟨22, 1, .arr n (icol .u64 R)⟩]) := by
  refine (f53_ok n hn g a b c h1 h2 z x y hz hx hy).weaken ?_
  rintro r H' ⟨rfl, h, rfl, hh⟩
  exact ⟨[some ⟨22, 1, .arr n (icol .u64 R)⟩], ⟨⟨rfl, rfl, ⟨Nat.le_refl _, fun i hi => by simp only [icol, hh i hi, hR i hi]⟩, rfl⟩, trivial⟩, rfl, by simp, rfl, rfl⟩
end Go.Proofs.Ytffahckigenfcaa

/- Two blocks side by side change places. -/
namespace Go.Proofs.Ytffahckigenfcaa
open Go Vx
theorem rot_congr {a m b : Nat} {g h : Nat → Int} {n : Nat} (hm : a ≤ m) (hb : m ≤ b) (hn : b ≤ n) (e : ∀ j, j < n → g j = h j) : ∀ j, j < n → rot a m b g j = rot a m b h j := by
  intro j hj
  simp only [rot]
  repeat' split
  all_goals exact e _ (by omega)
theorem f50_ok (n : Nat) (hn : n ≤ 1000000) (g : Nat → Int) (a m b : Nat) (h1 : a < m) (h2 : m < b) (h3 : b ≤ n) (z x y : Int) (hz : z = a) (hx : x = m) (hy : y = b) :
    FSpec Try.prog 50 [.sl 0 0 n, .int .i64 z, .int .i64 x, .int .i64 y, .fn (.func 15) [] []] [some ⟨22, 1, .arr n (icol .u64 g)⟩] (fun r H' => r = .tup [] ∧ ∃ h, H' = [some ⟨22, 1, .arr n (icol .u64 h)⟩] ∧ ∀ j, j < n → h j = rot a m b g j) := by
  refine FSpec.of (fn := Try.f50) Try.func50 rfl rfl (by simp) fun C hC => ?_
  obtain ⟨iadd, isub, imul, iquo, irem, iband, ibor, ibxor, ibandn, ishl, ishr, iconv, ieq, ine, ilt, ile, igt, ige, bbeq, bbne, bnot, bband, sseq, ssne, sscat, sssub, sslen, sssz, ssbyte, toN, ofN, addN, subN, eqN, ltB, leN, imx, imn, inb, leb, sslt, ltN, fit, ne0, ge0, ssfit, minN, inR, bcol, bstr, isBy, hS⟩ := names
  refine V.goF (by first | exact trivial | assumption) Try.func50 tl_ok mixed hS.ops [] 400 ?_
  intro VV VA W hVV hVA hW
  conv => cbv
  rw [hVV]
  clear hVV hVA VV VA hW W
  refine V.to (s' := [(10, .int .i64 (ofN (m - a))), (11, .int .i64 (ofN (b - m))), (0, .sl 0 0 n), (2, .int .i64 x), (4, .fn (.func 15) [] [])]) (H' := [some ⟨22, 1, .arr n (icol .u64 g)⟩]) ?_ (by (repeat' first | exact trivial | rfl | (refine And.intro ?_ ?_) | (refine sti ?_; (first | rfl | omega | (simp (disch := omega) only [hS.glob, wraps, plain, Int.ofNat_eq_natCast]; first | done | rfl | omega | (simp; done) | (simp; omega)) | (simp (disch := omega) only [hS.glob, wraps, plain, Int.ofNat_eq_natCast, Vx.toN]; omega))) | (refine slq ?_ ?_ ?_ <;> (first | rfl | omega | (simp (disch := omega) only [hS.glob, wraps, plain, Int.ofNat_eq_natCast]; first | done | rfl | omega | (simp; done) | (simp; omega)) | (simp (disch := omega) only [hS.glob, wraps, plain, Int.ofNat_eq_natCast, Vx.toN]; omega))) | (refine ptq ?_ ?_ ?_ <;> (first | rfl | omega | (simp (disch := omega) only [hS.glob, wraps, plain, Int.ofNat_eq_natCast]; first | done | rfl | omega | (simp; done) | (simp; omega)) | (simp (disch := omega) only [hS.glob, wraps, plain, Int.ofNat_eq_natCast, Vx.toN]; omega))) | (refine blq ?_; (first | rfl | omega | (simp (disch := omega) only [hS.glob, wraps, plain, Int.ofNat_eq_natCast]; first | done | rfl | omega | (simp; done) | (simp; omega)) | (simp (disch := omega) only [hS.glob, wraps, plain, Int.ofNat_eq_natCast, Vx.toN]; omega))))) rfl (by (repeat' first | exact trivial | rfl | exact Nat.le_refl _ | exact (fun _ _ => rfl) | (refine And.intro ?_ ?_) | (simp only [hS.glob, plain]; first | done | omega))) (by rw [hC]; simp)
  refine V.loop (γ := Nat × Nat × (Nat → Int)) (fun p => 1 ≤ p.1 ∧ 1 ≤ p.2.1 ∧ a + p.1 ≤ m + 0 ∧ m + p.2.1 ≤ b ∧ ∀ j, j < n → rot (m - p.1) m (m + p.2.1) p.2.2 j = rot a m b g j) (fun p => [(10, .int .i64 (ofN p.1)), (11, .int .i64 (ofN p.2.1)), (0, .sl 0 0 n), (2, .int .i64 x), (4, .fn (.func 15) [] [])]) (fun p => [some ⟨22, 1, .arr n (icol .u64 p.2.2)⟩]) (fun p => p.1 + p.2.1) ?_ (m - a, b - m, g) ⟨by simp only; omega, by simp only; omega, by simp only; omega, by simp only; omega, fun j hj => ?_⟩
  rotate_left
  · dsimp only
    have e1 : m - (m - a) = a := by omega
    have e2 : m + (b - m) = b := by omega
    rw [e1, e2]
  rintro ⟨i, k, h⟩ ⟨hi, hk, hi2, hk2, hh⟩ hback
  dsimp only at hi hk hi2 hk2 hh ⊢
  refine V.goF (by first | exact trivial | assumption) Try.func50 tl_ok mixed hS.ops [] 400 ?_
  intro VV VA W hVV hVA hW
  conv => cbv
  split <;> rename_i h4
  rotate_left
  · conv => cbv
    simp (disch := first | omega | (simp only [hS.glob, wraps, plain, Int.ofNat_eq_natCast]; omega)) only [hS.glob, wraps, plain, Int.ofNat_eq_natCast] at h4
    obtain rfl : i = k := by omega
    rw [hVV]
    clear hVV hVA VV VA hW W
    refine V.call rfl rfl rfl rfl rfl Try.func53 rfl (by decide) [0] (by decide) (all_lt (by rfl)) (by (first | rfl | ((conv => cbv); (repeat' apply And.intro) <;> first | rfl | trivial | (first | rfl | omega | (simp (disch := omega) only [hS.glob, wraps, plain, Int.ofNat_eq_natCast]; first | done | rfl | omega | (simp; done) | (simp; omega)) | (simp (disch := omega) only [hS.glob, wraps, plain, Int.ofNat_eq_natCast, Vx.toN]; omega))))) (by rfl) (f53_ok n hn h (m - i) m i (by omega) (by omega) (isub .i64 x (ofN i)) x (ofN i) (by subst hx; (first | rfl | omega | (simp (disch := omega) only [hS.glob, wraps, plain, Int.ofNat_eq_natCast]; first | done | rfl | omega | (simp; done) | (simp; omega)) | (simp (disch := omega) only [hS.glob, wraps, plain, Int.ofNat_eq_natCast, Vx.toN]; omega))) hx (by simp only [hS.glob, plain])) ?_
    rintro r Hc ⟨rfl, h', rfl, hh'⟩
    refine V.goF (by first | exact trivial | assumption) Try.func50 tl_ok mixed hS.ops [] 400 ?_
    intro VV VA W hVV hVA hW
    conv => cbv
    refine ⟨rfl, h', rfl, fun j hj => ?_⟩
    rw [hh' j hj, rot_eq (a := m - i) (m := m) (b := m + i) (by omega) (by omega) (by omega) (by omega), hh j hj]
  · conv => cbv
    simp (disch := first | omega | (simp only [hS.glob, wraps, plain, Int.ofNat_eq_natCast]; omega)) only [hS.glob, wraps, plain, Int.ofNat_eq_natCast] at h4
    split <;> rename_i h5
    · conv => cbv
      simp (disch := first | omega | (simp only [hS.glob, wraps, plain, Int.ofNat_eq_natCast]; omega)) only [hS.glob, wraps, plain, Int.ofNat_eq_natCast] at h5
      rw [hVV]
      clear hVV hVA VV VA hW W
      refine V.call rfl rfl rfl rfl rfl Try.func53 rfl (by decide) [0] (by decide) (all_lt (by rfl)) (by (first | rfl | ((conv => cbv); (repeat' apply And.intro) <;> first | rfl | trivial | (first | rfl | omega | (simp (disch := omega) only [hS.glob, wraps, plain, Int.ofNat_eq_natCast]; first | done | rfl | omega | (simp; done) | (simp; omega)) | (simp (disch := omega) only [hS.glob, wraps, plain, Int.ofNat_eq_natCast, Vx.toN]; omega))))) (by rfl) (f53_ok n hn h (m - i) m k (by omega) (by omega) (isub .i64 x (ofN i)) x (ofN k) (by subst hx; (first | rfl | omega | (simp (disch := omega) only [hS.glob, wraps, plain, Int.ofNat_eq_natCast]; first | done | rfl | omega | (simp; done) | (simp; omega)) | (simp (disch := omega) only [hS.glob, wraps, plain, Int.ofNat_eq_natCast, Vx.toN]; omega))) hx (by simp only [hS.glob, plain])) ?_
      rintro r Hc ⟨rfl, h', rfl, hh'⟩
      refine V.goF (by first | exact trivial | assumption) Try.func50 tl_ok mixed hS.ops [] 400 ?_
      intro VV VA W hVV hVA hW
      conv => cbv
      rw [hVV]
      clear hVV hVA VV VA hW W
      refine V.to (hback (i - k, k, h') ⟨by simp only; omega, by simp only; omega, by simp only; omega, by simp only; omega, fun j hj => ?_⟩ (by simp only; omega)) (by (repeat' first | exact trivial | rfl | (refine And.intro ?_ ?_) | (refine sti ?_; (first | rfl | omega | (simp (disch := omega) only [hS.glob, wraps, plain, Int.ofNat_eq_natCast]; first | done | rfl | omega | (simp; done) | (simp; omega)) | (simp (disch := omega) only [hS.glob, wraps, plain, Int.ofNat_eq_natCast, Vx.toN]; omega))) | (refine slq ?_ ?_ ?_ <;> (first | rfl | omega | (simp (disch := omega) only [hS.glob, wraps, plain, Int.ofNat_eq_natCast]; first | done | rfl | omega | (simp; done) | (simp; omega)) | (simp (disch := omega) only [hS.glob, wraps, plain, Int.ofNat_eq_natCast, Vx.toN]; omega))) | (refine ptq ?_ ?_ ?_ <;> (first | rfl | omega | (simp (disch := omega) only [hS.glob, wraps, plain, Int.ofNat_eq_natCast]; first | done | rfl | omega | (simp; done) | (simp; omega)) | (simp (disch := omega) only [hS.glob, wraps, plain, Int.ofNat_eq_natCast, Vx.toN]; omega))) | (refine blq ?_; (first | rfl | omega | (simp (disch := omega) only [hS.glob, wraps, plain, Int.ofNat_eq_natCast]; first | done | rfl | omega | (simp; done) | (simp; omega)) | (simp (disch := omega) only [hS.glob, wraps, plain, Int.ofNat_eq_natCast, Vx.toN]; omega))))) rfl (by (repeat' first | exact trivial | rfl | exact Nat.le_refl _ | exact (fun _ _ => rfl) | (refine And.intro ?_ ?_) | (simp only [hS.glob, plain]; first | done | omega))) (by rw [hC]; simp)
      dsimp only
      have e1 : m - (i - k) = m - i + k := by omega
      rw [e1, rot_congr (by omega) (by omega) (by omega) hh' j hj, rot_gt (i := i) (a := m - i) (m := m) (b := m + k) (by omega) (by omega) (by omega) (by omega) (by omega), hh j hj]
    · conv => cbv
      simp (disch := first | omega | (simp only [hS.glob, wraps, plain, Int.ofNat_eq_natCast]; omega)) only [hS.glob, wraps, plain, Int.ofNat_eq_natCast] at h5
      rw [hVV]
      clear hVV hVA VV VA hW W
      refine V.call rfl rfl rfl rfl rfl Try.func53 rfl (by decide) [0] (by decide) (all_lt (by rfl)) (by (first | rfl | ((conv => cbv); (repeat' apply And.intro) <;> first | rfl | trivial | (first | rfl | omega | (simp (disch := omega) only [hS.glob, wraps, plain, Int.ofNat_eq_natCast]; first | done | rfl | omega | (simp; done) | (simp; omega)) | (simp (disch := omega) only [hS.glob, wraps, plain, Int.ofNat_eq_natCast, Vx.toN]; omega))))) (by rfl) (f53_ok n hn h (m - i) (m + k - i) i (by omega) (by omega) (isub .i64 x (ofN i)) (isub .i64 (iadd .i64 x (ofN k)) (ofN i)) (ofN i) (by subst hx; (first | rfl | omega | (simp (disch := omega) only [hS.glob, wraps, plain, Int.ofNat_eq_natCast]; first | done | rfl | omega | (simp; done) | (simp; omega)) | (simp (disch := omega) only [hS.glob, wraps, plain, Int.ofNat_eq_natCast, Vx.toN]; omega))) (by subst hx; (first | rfl | omega | (simp (disch := omega) only [hS.glob, wraps, plain, Int.ofNat_eq_natCast]; first | done | rfl | omega | (simp; done) | (simp; omega)) | (simp (disch := omega) only [hS.glob, wraps, plain, Int.ofNat_eq_natCast, Vx.toN]; omega))) (by simp only [hS.glob, plain])) ?_
      rintro r Hc ⟨rfl, h', rfl, hh'⟩
      refine V.goF (by first | exact trivial | assumption) Try.func50 tl_ok mixed hS.ops [] 400 ?_
      intro VV VA W hVV hVA hW
      conv => cbv
      rw [hVV]
      clear hVV hVA VV VA hW W
      refine V.to (hback (i, k - i, h') ⟨by simp only; omega, by simp only; omega, by simp only; omega, by simp only; omega, fun j hj => ?_⟩ (by simp only; omega)) (by (repeat' first | exact trivial | rfl | (refine And.intro ?_ ?_) | (refine sti ?_; (first | rfl | omega | (simp (disch := omega) only [hS.glob, wraps, plain, Int.ofNat_eq_natCast]; first | done | rfl | omega | (simp; done) | (simp; omega)) | (simp (disch := omega) only [hS.glob, wraps, plain, Int.ofNat_eq_natCast, Vx.toN]; omega))) | (refine slq ?_ ?_ ?_ <;> (first | rfl | omega | (simp (disch := omega) only [hS.glob, wraps, plain, Int.ofNat_eq_natCast]; first | done | rfl | omega | (simp; done) | (simp; omega)) | (simp (disch := omega) only [hS.glob, wraps, plain, Int.ofNat_eq_natCast, Vx.toN]; omega))) | (refine ptq ?_ ?_ ?_ <;> (first | rfl | omega | (simp (disch := omega) only [hS.glob, wraps, plain, Int.ofNat_eq_natCast]; first | done | rfl | omega | (simp; done) | (simp; omega)) | (simp (disch := omega) only [hS.glob, wraps, plain, Int.ofNat_eq_natCast, Vx.toN]; omega))) | (refine blq ?_; (first | rfl | omega | (simp (disch := omega) only [hS.glob, wraps, plain, Int.ofNat_eq_natCast]; first | done | rfl | omega | (simp; done) | (simp; omega)) | (simp (disch := omega) only [hS.glob, wraps, plain, Int.ofNat_eq_natCast, Vx.toN]; omega))))) rfl (by (repeat' first | exact trivial | rfl | exact Nat.le_refl _ | exact (fun _ _ => rfl) | (refine And.intro ?_ ?_) | (simp only [hS.glob, plain]; first | done | omega))) (by rw [hC]; simp)
      dsimp only
      have e1 : m + (k - i) = m + k - i := by omega
      rw [e1, rot_congr (by omega) (by omega) (by omega) hh' j hj, rot_lt (j := k) (a := m - i) (m := m) (b := m + k) (by omega) (by omega) (by omega) (by omega) (by omega), hh j hj]
theorem f50_eq (n : Nat) (hn : n ≤ 1000000) (g : Nat → Int) (a m b : Nat) (h1 : a < m) (h2 : m < b) (h3 : b ≤ n) (z x y : Int) (hz : z = a) (hx : x = m) (hy : y = b) (R : Nat → Int) (hR : R = rot a m b g) :
    FSpec Try.prog 50 [.sl 0 0 n, .int .i64 z, .int .i64 x, .int .i64 y, .fn (.func 15) [] []] [some ⟨22, 1, .arr n (icol .u64 g)⟩] (fun r H' => r = .tup [] ∧ H' = [some ⟨22, 1, .arr n (icol .u64 R)⟩]) := by
  refine (f50_ok n hn g a m b h1 h2 h3 z x y hz hx hy).weaken ?_
  rintro r H' ⟨rfl, h, rfl, hh⟩
  exact ⟨[some ⟨22, 1, .arr n (icol .u64 R)⟩], ⟨⟨rfl, rfl, ⟨Nat.le_refl _, fun i hi => by simp only [icol, hh i hi, hR]⟩, rfl⟩, trivial⟩, rfl, by simp, rfl, rfl⟩
end Go.Proofs.Ytffahckigenfcaa

/- The sort by insertion. -/
namespace Go.Proofs.Ytffahckigenfcaa
open Go Vx
theorem cmp_neg (x y : Int) : cmpI x y < 0 ↔ x < y := by
  unfold cmpI
  split
  · simp; assumption
  · split <;> simp <;> omega
/-- One step more to the front. -/
theorem rot_back {a m : Nat} (h1 : 1 ≤ a) (h2 : a ≤ m) (g : Nat → Int) (j : Nat) : rot (a - 1) m (m + 1) g j = if j = a - 1 then rot a m (m + 1) g a else if j = a then rot a m (m + 1) g (a - 1) else rot a m (m + 1) g j := by
  simp only [rot]
  repeat' split
  all_goals first | omega | (congr 1; omega) | rfl
theorem rot_self (m : Nat) (g : Nat → Int) (j : Nat) : rot m m (m + 1) g j = g j := by
  simp only [rot]
  repeat' split
  all_goals first | omega | (congr 1; omega) | rfl
theorem inU_stb {a b n : Nat} {g h : Nat → Int} (hb : b ≤ n) (hu : ∀ j, j < n → inU (g j)) (s : Stb rank a b g h) : ∀ j, j < n → inU (h j) := by
  intro j hj
  by_cases q : a ≤ j ∧ j < b
  · obtain ⟨i, i1, i2, e⟩ := s.mem q.1 q.2
    rw [← e]
    exact hu i (by omega)
  · rw [s.out j q]
    exact hu j hj
theorem f47_ok (n : Nat) (hn : n ≤ 1000000) (g : Nat → Int) (hu : ∀ j, j < n → inU (g j)) (a b : Nat) (h1 : a ≤ b) (h2 : b ≤ n) (z x : Int) (hz : z = a) (hx : x = b) :
    FSpec Try.prog 47 [.sl 0 0 n, .int .i64 z, .int .i64 x, .fn (.func 15) [] []] [some ⟨22, 1, .arr n (icol .u64 g)⟩] (fun r H' => r = .tup [] ∧ ∃ h, H' = [some ⟨22, 1, .arr n (icol .u64 h)⟩] ∧ Srt rank h a b ∧ Stb rank a b g h) := by
  obtain ⟨Q, hQ⟩ : ∃ Q : AV → Hp → Prop, Q = (fun r H' => r = .tup [] ∧ ∃ h, H' = [some ⟨22, 1, .arr n (icol .u64 h)⟩] ∧ Srt rank h a b ∧ Stb rank a b g h) := ⟨_, rfl⟩
  rw [← hQ]
  refine FSpec.of (fn := Try.f47) Try.func47 rfl rfl (by simp) fun C hC => ?_
  obtain ⟨iadd, isub, imul, iquo, irem, iband, ibor, ibxor, ibandn, ishl, ishr, iconv, ieq, ine, ilt, ile, igt, ige, bbeq, bbne, bnot, bband, sseq, ssne, sscat, sssub, sslen, sssz, ssbyte, toN, ofN, addN, subN, eqN, ltB, leN, imx, imn, inb, leb, sslt, ltN, fit, ne0, ge0, ssfit, minN, inR, bcol, bstr, isBy, hS⟩ := names
  refine V.goF (by first | exact trivial | assumption) Try.func47 tl_ok mixed hS.ops [] 400 ?_
  intro VV VA W hVV hVA hW
  conv => cbv
  rw [hVV]
  clear hVV hVA VV VA hW W
  refine V.to (s' := [(8, .int .i64 (ofN (a + 1))), (0, .sl 0 0 n), (1, .int .i64 z), (2, .int .i64 x), (3, .fn (.func 15) [] [])]) (H' := [some ⟨22, 1, .arr n (icol .u64 g)⟩]) ?_ (by (repeat' first | exact trivial | rfl | (refine And.intro ?_ ?_) | (refine sti ?_; (first | rfl | omega | (simp (disch := omega) only [hS.glob, wraps, plain, Int.ofNat_eq_natCast]; first | done | rfl | omega | (simp; done) | (simp; omega)) | (simp (disch := omega) only [hS.glob, wraps, plain, Int.ofNat_eq_natCast, Vx.toN]; omega))) | (refine slq ?_ ?_ ?_ <;> (first | rfl | omega | (simp (disch := omega) only [hS.glob, wraps, plain, Int.ofNat_eq_natCast]; first | done | rfl | omega | (simp; done) | (simp; omega)) | (simp (disch := omega) only [hS.glob, wraps, plain, Int.ofNat_eq_natCast, Vx.toN]; omega))) | (refine ptq ?_ ?_ ?_ <;> (first | rfl | omega | (simp (disch := omega) only [hS.glob, wraps, plain, Int.ofNat_eq_natCast]; first | done | rfl | omega | (simp; done) | (simp; omega)) | (simp (disch := omega) only [hS.glob, wraps, plain, Int.ofNat_eq_natCast, Vx.toN]; omega))) | (refine blq ?_; (first | rfl | omega | (simp (disch := omega) only [hS.glob, wraps, plain, Int.ofNat_eq_natCast]; first | done | rfl | omega | (simp; done) | (simp; omega)) | (simp (disch := omega) only [hS.glob, wraps, plain, Int.ofNat_eq_natCast, Vx.toN]; omega))))) rfl (by (repeat' first | exact trivial | rfl | exact Nat.le_refl _ | exact (fun _ _ => rfl) | (refine And.intro ?_ ?_) | (simp only [hS.glob, plain]; first | done | omega))) (by rw [hC]; simp)
  refine V.loop (γ := Nat × (Nat → Int)) (fun p => a < p.1 ∧ (p.1 ≤ b ∨ p.1 = a + 1) ∧ Srt rank p.2 a p.1 ∧ Stb rank a b g p.2) (fun p => [(8, .int .i64 (ofN p.1)), (0, .sl 0 0 n), (1, .int .i64 z), (2, .int .i64 x), (3, .fn (.func 15) [] [])]) (fun p => [some ⟨22, 1, .arr n (icol .u64 p.2)⟩]) (fun p => b - p.1) ?_ (a + 1, g) ⟨by simp only; omega, .inr rfl, Srt.short (Nat.le_refl _), .refl fun _ => rfl⟩
  rintro ⟨i, h⟩ ⟨hi, hi2, hs, ht⟩ hback
  dsimp only at hi hi2 hs ht ⊢
  refine V.goF (by first | exact trivial | assumption) Try.func47 tl_ok mixed hS.ops [] 400 ?_
  intro VV VA W hVV hVA hW
  conv => cbv
  split <;> rename_i h4
  rotate_left
  · conv => cbv
    simp (disch := first | omega | (simp only [hS.glob, wraps, plain, Int.ofNat_eq_natCast]; omega)) only [hS.glob, wraps, plain, Int.ofNat_eq_natCast] at h4
    rw [hQ]
    exact ⟨rfl, h, rfl, hs.sub (Nat.le_refl _) (by omega), ht⟩
  conv => cbv
  simp (disch := first | omega | (simp only [hS.glob, wraps, plain, Int.ofNat_eq_natCast]; omega)) only [hS.glob, wraps, plain, Int.ofNat_eq_natCast] at h4
  rw [hVV]
  clear hVV hVA VV VA hW W
  have hib : i < b := by omega
  refine V.to (s' := [(9, .int .i64 (ofN i)), (8, .int .i64 (ofN i)), (0, .sl 0 0 n), (1, .int .i64 z), (2, .int .i64 x), (3, .fn (.func 15) [] [])]) (H' := [some ⟨22, 1, .arr n (icol .u64 h)⟩]) ?_ (by (repeat' first | exact trivial | rfl | (refine And.intro ?_ ?_) | (refine sti ?_; (first | rfl | omega | (simp (disch := omega) only [hS.glob, wraps, plain, Int.ofNat_eq_natCast]; first | done | rfl | omega | (simp; done) | (simp; omega)) | (simp (disch := omega) only [hS.glob, wraps, plain, Int.ofNat_eq_natCast, Vx.toN]; omega))) | (refine slq ?_ ?_ ?_ <;> (first | rfl | omega | (simp (disch := omega) only [hS.glob, wraps, plain, Int.ofNat_eq_natCast]; first | done | rfl | omega | (simp; done) | (simp; omega)) | (simp (disch := omega) only [hS.glob, wraps, plain, Int.ofNat_eq_natCast, Vx.toN]; omega))) | (refine ptq ?_ ?_ ?_ <;> (first | rfl | omega | (simp (disch := omega) only [hS.glob, wraps, plain, Int.ofNat_eq_natCast]; first | done | rfl | omega | (simp; done) | (simp; omega)) | (simp (disch := omega) only [hS.glob, wraps, plain, Int.ofNat_eq_natCast, Vx.toN]; omega))) | (refine blq ?_; (first | rfl | omega | (simp (disch := omega) only [hS.glob, wraps, plain, Int.ofNat_eq_natCast]; first | done | rfl | omega | (simp; done) | (simp; omega)) | (simp (disch := omega) only [hS.glob, wraps, plain, Int.ofNat_eq_natCast, Vx.toN]; omega))))) rfl (by (repeat' first | exact trivial | rfl | exact Nat.le_refl _ | exact (fun _ _ => rfl) | (refine And.intro ?_ ?_) | (simp only [hS.glob, plain]; first | done | omega))) (by rw [hC]; simp)
  refine V.loop (γ := Nat × (Nat → Int)) (fun p => a ≤ p.1 ∧ p.1 ≤ i ∧ (∀ j, p.1 ≤ j → j < i → rank (h i) < rank (h j)) ∧ ∀ j, p.2 j = rot p.1 i (i + 1) h j) (fun p => [(9, .int .i64 (ofN p.1)), (8, .int .i64 (ofN i)), (0, .sl 0 0 n), (1, .int .i64 z), (2, .int .i64 x), (3, .fn (.func 15) [] [])]) (fun p => [some ⟨22, 1, .arr n (icol .u64 p.2)⟩]) (fun p => p.1) ?_ (i, h) ⟨by simp only; omega, Nat.le_refl _, fun j q q' => by simp only at q; omega, fun j => (rot_self i h j).symm⟩
  rintro ⟨k, l⟩ ⟨hk, hk2, hlt, hl⟩ hback2
  dsimp only at hk hk2 hlt hl ⊢
  have fin : (k = a ∨ rank (h (k - 1)) ≤ rank (h i)) → Srt rank l a (i + 1) ∧ Stb rank a b g l := by
    intro hc
    obtain ⟨r1, r2⟩ := last_law (key := rank) (g := h) hk hk2 hs (fun j j1 j2 => by
      rcases hc with rfl | hc
      · omega
      · exact Int.le_trans (hs j (k - 1) j1 (by omega) (by omega)) hc) hlt
    exact ⟨r1.congr fun j _ _ => hl j, ht.trans (((r2.widen (Nat.le_refl _) (by omega) (by omega)).trans (.refl hl)))⟩
  refine V.goF (by first | exact trivial | assumption) Try.func47 tl_ok mixed hS.ops [] 400 ?_
  intro VV VA W hVV hVA hW
  conv => cbv
  have hlu : ∀ j, j < n → inU (l j) := fun j hj => by
    rw [hl j]
    have q := inU_stb h2 hu ht
    simp only [rot]
    repeat' split
    all_goals exact q _ (by omega)
  have e1 : l k = h i := by rw [hl k, rot_lo _ _ _ _ (by omega) (by omega)]; congr 1; omega
  cases h5 : igt (ofN k) z
  · conv => cbv
    repeat (refine ⟨by first | (rw [hW]; show ordOk _ _ _ = true; kernel_rfl) | (first | trivial | omega | (simp (disch := omega) only [hS.glob, wraps, plain, Int.ofNat_eq_natCast]; first | done | omega | trivial | (simp; done) | (simp; omega) | (constructor <;> omega)) | (simp (disch := omega) only [hS.glob, wraps, plain, Int.ofNat_eq_natCast, Vx.toN]; omega)), ?_⟩)
    simp (disch := first | omega | (simp only [hS.glob, wraps, plain, Int.ofNat_eq_natCast]; omega)) only [hS.glob, wraps, plain, Int.ofNat_eq_natCast] at h5
    rw [hVV]
    clear hVV hVA VV VA hW W
    obtain ⟨f1, f2⟩ := fin (by omega)
    exact V.to (hback (i + 1, l) ⟨by simp only; omega, by simp only; omega, f1, f2⟩ (by simp only; omega)) (by (repeat' first | exact trivial | rfl | (refine And.intro ?_ ?_) | (refine sti ?_; (first | rfl | omega | (simp (disch := omega) only [hS.glob, wraps, plain, Int.ofNat_eq_natCast]; first | done | rfl | omega | (simp; done) | (simp; omega)) | (simp (disch := omega) only [hS.glob, wraps, plain, Int.ofNat_eq_natCast, Vx.toN]; omega))) | (refine slq ?_ ?_ ?_ <;> (first | rfl | omega | (simp (disch := omega) only [hS.glob, wraps, plain, Int.ofNat_eq_natCast]; first | done | rfl | omega | (simp; done) | (simp; omega)) | (simp (disch := omega) only [hS.glob, wraps, plain, Int.ofNat_eq_natCast, Vx.toN]; omega))) | (refine ptq ?_ ?_ ?_ <;> (first | rfl | omega | (simp (disch := omega) only [hS.glob, wraps, plain, Int.ofNat_eq_natCast]; first | done | rfl | omega | (simp; done) | (simp; omega)) | (simp (disch := omega) only [hS.glob, wraps, plain, Int.ofNat_eq_natCast, Vx.toN]; omega))) | (refine blq ?_; (first | rfl | omega | (simp (disch := omega) only [hS.glob, wraps, plain, Int.ofNat_eq_natCast]; first | done | rfl | omega | (simp; done) | (simp; omega)) | (simp (disch := omega) only [hS.glob, wraps, plain, Int.ofNat_eq_natCast, Vx.toN]; omega))))) rfl (by (repeat' first | exact trivial | rfl | exact Nat.le_refl _ | exact (fun _ _ => rfl) | (refine And.intro ?_ ?_) | (simp only [hS.glob, plain]; first | done | omega))) (by rw [hC]; simp)
  · conv => cbv
    have h6 := h5
    simp (disch := first | omega | (simp only [hS.glob, wraps, plain, Int.ofNat_eq_natCast]; omega)) only [hS.glob, wraps, plain, Int.ofNat_eq_natCast] at h6
    have e2 : l (k - 1) = h (k - 1) := by rw [hl, rot_out _ _ _ _ (by omega) (by omega) (by omega)]
    obtain ⟨q, hq⟩ : ∃ q, q = k - 1 := ⟨_, rfl⟩
    have eq1 : isub .i64 (ofN k) 1 = ofN q := by subst hq; (first | rfl | omega | (simp (disch := omega) only [hS.glob, wraps, plain, Int.ofNat_eq_natCast]; first | done | rfl | omega | (simp; done) | (simp; omega)) | (simp (disch := omega) only [hS.glob, wraps, plain, Int.ofNat_eq_natCast, Vx.toN]; omega))
    simp only [eq1]
    repeat (refine ⟨by first | (rw [hW]; show ordOk _ _ _ = true; kernel_rfl) | (first | trivial | omega | (simp (disch := omega) only [hS.glob, wraps, plain, Int.ofNat_eq_natCast]; first | done | omega | trivial | (simp; done) | (simp; omega) | (constructor <;> omega)) | (simp (disch := omega) only [hS.glob, wraps, plain, Int.ofNat_eq_natCast, Vx.toN]; omega)), ?_⟩)
    simp only [hS.tidy]
    obtain ⟨c, hc⟩ : ∃ c, c = cmpI (rank (l k)) (rank (l q)) := ⟨_, rfl⟩
    rw [hVA]
    refine AnyT.call rfl rfl rfl rfl rfl Try.func15 rfl (by decide) [] (by simp) (by simp) (by (first | rfl | ((conv => cbv); (repeat' apply And.intro) <;> first | rfl | trivial | (first | rfl | omega | (simp (disch := omega) only [hS.glob, wraps, plain, Int.ofNat_eq_natCast]; first | done | rfl | omega | (simp; done) | (simp; omega)) | (simp (disch := omega) only [hS.glob, wraps, plain, Int.ofNat_eq_natCast, Vx.toN]; omega))))) rfl (f15_ok (l k) (l q) c (hlu k (by omega)) (hlu q (by omega)) hc) ?_
    rintro r Hc ⟨rfl, rfl⟩
    clear hVV hVA VV VA hW W
    refine AnyT.goF (by first | exact trivial | assumption) Try.func47 tl_ok mixed hS.ops [] 400 ?_
    intro VV VA W hVV hVA hW
    conv => cbv
    have hcn : c < 0 ↔ rank (l k) < rank (l q) := by rw [hc]; exact cmp_neg _ _
    rw [e1, hq, e2] at hcn
    cases h7 : ilt c 0
    · conv => cbv
      simp (disch := first | omega | (simp only [hS.glob, wraps, plain, Int.ofNat_eq_natCast]; omega)) only [hS.glob, wraps, plain, Int.ofNat_eq_natCast] at h7
      rw [hVV]
      clear hVV hVA VV VA hW W
      obtain ⟨f1, f2⟩ := fin (.inr (by omega))
      exact V.to (hback (i + 1, l) ⟨by simp only; omega, by simp only; omega, f1, f2⟩ (by simp only; omega)) (by (repeat' first | exact trivial | rfl | (refine And.intro ?_ ?_) | (refine sti ?_; (first | rfl | omega | (simp (disch := omega) only [hS.glob, wraps, plain, Int.ofNat_eq_natCast]; first | done | rfl | omega | (simp; done) | (simp; omega)) | (simp (disch := omega) only [hS.glob, wraps, plain, Int.ofNat_eq_natCast, Vx.toN]; omega))) | (refine slq ?_ ?_ ?_ <;> (first | rfl | omega | (simp (disch := omega) only [hS.glob, wraps, plain, Int.ofNat_eq_natCast]; first | done | rfl | omega | (simp; done) | (simp; omega)) | (simp (disch := omega) only [hS.glob, wraps, plain, Int.ofNat_eq_natCast, Vx.toN]; omega))) | (refine ptq ?_ ?_ ?_ <;> (first | rfl | omega | (simp (disch := omega) only [hS.glob, wraps, plain, Int.ofNat_eq_natCast]; first | done | rfl | omega | (simp; done) | (simp; omega)) | (simp (disch := omega) only [hS.glob, wraps, plain, Int.ofNat_eq_natCast, Vx.toN]; omega))) | (refine blq ?_; (first | rfl | omega | (simp (disch := omega) only [hS.glob, wraps, plain, Int.ofNat_eq_natCast]; first | done | rfl | omega | (simp; done) | (simp; omega)) | (simp (disch := omega) only [hS.glob, wraps, plain, Int.ofNat_eq_natCast, Vx.toN]; omega))))) rfl (by (repeat' first | exact trivial | rfl | exact Nat.le_refl _ | exact (fun _ _ => rfl) | (refine And.intro ?_ ?_) | (simp only [hS.glob, plain]; first | done | omega))) (by rw [hC]; simp)
    · conv => cbv
      simp (disch := first | omega | (simp only [hS.glob, wraps, plain, Int.ofNat_eq_natCast]; omega)) only [hS.glob, wraps, plain, Int.ofNat_eq_natCast] at h7
      have eq1 : isub .i64 (ofN k) 1 = ofN q := by subst hq; (first | rfl | omega | (simp (disch := omega) only [hS.glob, wraps, plain, Int.ofNat_eq_natCast]; first | done | rfl | omega | (simp; done) | (simp; omega)) | (simp (disch := omega) only [hS.glob, wraps, plain, Int.ofNat_eq_natCast, Vx.toN]; omega))
      simp only [eq1]
      repeat (refine ⟨by first | (rw [hW]; show ordOk _ _ _ = true; kernel_rfl) | (first | trivial | omega | (simp (disch := omega) only [hS.glob, wraps, plain, Int.ofNat_eq_natCast]; first | done | omega | trivial | (simp; done) | (simp; omega) | (constructor <;> omega)) | (simp (disch := omega) only [hS.glob, wraps, plain, Int.ofNat_eq_natCast, Vx.toN]; omega)), ?_⟩)
      simp only [hS.tidy]
      rw [hVV]
      clear hVV hVA VV VA hW W
      have rb : ∀ j, rot q i (i + 1) h j = if j = q then l k else if j = k then l q else l j := fun j => by
        rw [hq, rot_back (by omega) hk2, hl, hl, hl]
      refine V.to (hback2 (q, rot q i (i + 1) h) ⟨by simp only; omega, by simp only; omega, fun j j1 j2 => ?_, fun _ => rfl⟩ (by simp only; omega)) (by (repeat' first | exact trivial | rfl | (refine And.intro ?_ ?_) | (refine sti ?_; (first | rfl | omega | (simp (disch := omega) only [hS.glob, wraps, plain, Int.ofNat_eq_natCast]; first | done | rfl | omega | (simp; done) | (simp; omega)) | (simp (disch := omega) only [hS.glob, wraps, plain, Int.ofNat_eq_natCast, Vx.toN]; omega))) | (refine slq ?_ ?_ ?_ <;> (first | rfl | omega | (simp (disch := omega) only [hS.glob, wraps, plain, Int.ofNat_eq_natCast]; first | done | rfl | omega | (simp; done) | (simp; omega)) | (simp (disch := omega) only [hS.glob, wraps, plain, Int.ofNat_eq_natCast, Vx.toN]; omega))) | (refine ptq ?_ ?_ ?_ <;> (first | rfl | omega | (simp (disch := omega) only [hS.glob, wraps, plain, Int.ofNat_eq_natCast]; first | done | rfl | omega | (simp; done) | (simp; omega)) | (simp (disch := omega) only [hS.glob, wraps, plain, Int.ofNat_eq_natCast, Vx.toN]; omega))) | (refine blq ?_; (first | rfl | omega | (simp (disch := omega) only [hS.glob, wraps, plain, Int.ofNat_eq_natCast]; first | done | rfl | omega | (simp; done) | (simp; omega)) | (simp (disch := omega) only [hS.glob, wraps, plain, Int.ofNat_eq_natCast, Vx.toN]; omega))))) rfl ?_ (by rw [hC]; simp)
      · dsimp only at j1
        rcases Nat.lt_or_ge j k with w | w
        · obtain rfl : j = k - 1 := by omega
          exact hcn.1 h7
        · exact hlt j w j2
      · (repeat' first | exact trivial | rfl | exact Nat.le_refl _ | exact (fun _ _ => rfl) | (refine And.intro ?_ ?_) | (simp only [hS.glob, plain]; first | done | omega))
        intro j hj
        simp only [icol, hS.tidy, rb]
        cases q1 : eqN j q
        · simp only [hS.glob, plain] at q1
          simp only [if_neg q1]
          cases q2 : eqN j k
          · simp only [hS.glob, plain] at q2
            simp only [if_neg q2]
          · simp only [hS.glob, plain] at q2
            simp only [if_pos q2]
            rfl
        · simp only [hS.glob, plain] at q1
          simp only [if_pos q1]
          cases q2 : eqN j k
          · rfl
          · rfl
end Go.Proofs.Ytffahckigenfcaa

/- Two sorted rows become one. -/
namespace Go.Proofs.Ytffahckigenfcaa
open Go Vx
structure Hold (A : Prop) : Prop where
  get : A
theorem cut {A B : Prop} (k : Hold A → B) (h : A) : B := k ⟨h⟩
theorem mid_nat (a b : Nat) (h : a + b ≤ 4000000) : Vx.iconv .i64 (Vx.ishr .u64 (Vx.iconv .u64 (Vx.iadd .i64 (a : Int) (b : Int))) 1) = (((a + b) / 2 : Nat) : Int) := by
  rw [wraps.1 a b (by omega)]
  have e1 : Vx.iconv .u64 ((a : Int) + b) = a + b := by simp (disch := omega) only [wraps]
  have e2 : Vx.ishr .u64 ((a : Int) + b) 1 = (((a + b) / 2 : Nat) : Int) := by
    show ((a : Int) + b).fdiv 2 = _
    rw [Int.fdiv_eq_ediv_of_nonneg _ (by decide)]
    omega
  rw [e1, e2]
  simp (disch := omega) only [wraps]
/-- One step more to the back. -/
theorem rot_fwd {a k : Nat} (h1 : a ≤ k) (g : Nat → Int) (j : Nat) : rot a (a + 1) (k + 2) g j = if j = k + 1 then rot a (a + 1) (k + 1) g k else if j = k then rot a (a + 1) (k + 1) g (k + 1) else rot a (a + 1) (k + 1) g j := by
  simp only [rot]
  repeat' split
  all_goals first | omega | (congr 1; omega) | rfl
theorem rot_self2 (a : Nat) (g : Nat → Int) (j : Nat) : rot a (a + 1) (a + 1) g j = g j := by
  simp only [rot]
  repeat' split
  all_goals first | omega | (congr 1; omega) | rfl
theorem rot_none {s m e : Nat} (hs : s ≤ m) (he : m ≤ e) (h : s = m ∨ m = e) (g : Nat → Int) (j : Nat) : rot s m e g j = g j := by
  simp only [rot]
  repeat' split
  all_goals first | omega | (congr 1; omega) | rfl
/-- What the search finds. -/
theorem search_law {key : Int → Int} {g : Nat → Int} {a m b mid lo hi s : Nat} (ham : a < m) (hmb : m < b) (hA : Srt key g a m) (hB : Srt key g m b) (hmid : mid = (a + b) / 2)
    (hc : (mid < m ∧ lo = mid + m - b ∧ hi = mid) ∨ (m ≤ mid ∧ lo = a ∧ hi = m)) (h1 : lo ≤ s) (h2 : s ≤ hi)
    (hl : ∀ t, lo ≤ t → t < s → key (g t) ≤ key (g (mid + m - 1 - t))) (hr : ∀ t, s ≤ t → t < hi → key (g (mid + m - 1 - t)) < key (g t)) :
    a ≤ s ∧ s ≤ m ∧ m ≤ mid + m - s ∧ mid + m - s ≤ b ∧ s ≤ mid ∧ mid ≤ mid + m - s ∧ (∀ i j, a ≤ i → i < s → mid + m - s ≤ j → j < b → key (g i) ≤ key (g j)) ∧ (∀ i j, s ≤ i → i < m → m ≤ j → j < mid + m - s → key (g j) < key (g i)) := by
  refine ⟨by omega, by omega, by omega, by omega, by omega, by omega, fun i j i1 i2 j1 j2 => ?_, fun i j i1 i2 j1 j2 => ?_⟩
  · have q := hl (s - 1) (by omega) (by omega)
    have e : mid + m - 1 - (s - 1) = mid + m - s := by omega
    rw [e] at q
    exact Int.le_trans (Int.le_trans (hA i (s - 1) i1 (by omega) (by omega)) q) (hB _ _ (by omega) j1 j2)
  · have q := hr s (Nat.le_refl _) (by omega)
    exact Int.lt_of_le_of_lt (hB j (mid + m - 1 - s) j1 (by omega) (by omega)) (Int.lt_of_lt_of_le q (hA _ _ (by omega) i1 i2))
theorem search_step {key : Int → Int} {g : Nat → Int} {a m b mid lo hi c : Nat} (ham : a < m) (hmb : m < b) (hA : Srt key g a m) (hB : Srt key g m b) (hmid : mid = (a + b) / 2)
    (hc : (mid < m ∧ lo = mid + m - b ∧ hi = mid) ∨ (m ≤ mid ∧ lo = a ∧ hi = m)) (h1 : lo ≤ c) (h2 : c < hi) :
    (key (g c) ≤ key (g (mid + m - 1 - c)) → ∀ t, lo ≤ t → t < c + 1 → key (g t) ≤ key (g (mid + m - 1 - t))) ∧ (key (g (mid + m - 1 - c)) < key (g c) → ∀ t, c ≤ t → t < hi → key (g (mid + m - 1 - t)) < key (g t)) ∧
    m ≤ mid + m - 1 - c ∧ mid + m - 1 - c < b ∧ a ≤ c ∧ c < m := by
  refine ⟨fun q t t1 t2 => ?_, fun q t t1 t2 => ?_, by omega, by omega, by omega, by omega⟩
  · exact Int.le_trans (Int.le_trans (hA t c (by omega) (by omega) (by omega)) q) (hB _ _ (by omega) (by omega) (by omega))
  · exact Int.lt_of_le_of_lt (hB _ _ (by omega) (by omega) (by omega)) (Int.lt_of_lt_of_le q (hA _ _ (by omega) t1 (by omega)))
end Go.Proofs.Ytffahckigenfcaa
