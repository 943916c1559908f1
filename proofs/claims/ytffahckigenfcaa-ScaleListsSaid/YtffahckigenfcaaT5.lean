/- Contracts of functions by an evaluator of the model: its part T5. -/
import Derived.Test.YtffahckigenfcaaT4
import Derived.Test.YtffahckigenfcaaV2
set_option linter.all false
/- Sums, sameness, and the list in order. -/
namespace Go.Proofs.Ytffahckigenfcaa
open Go Vx
theorem f20_ok (n : Nat) (hn : n ≤ 1000000) (g : Nat → Int) (hu : ∀ j, j < n → inU (g j)) : FSpec Try.prog 20 [.rows 1 n (icol .u64 g)] [] (fun r H' => r = .sl 0 0 n ∧ ∃ h, H' = [some ⟨22, 1, .arr n (icol .u64 h)⟩] ∧ Srt rank h 0 n ∧ Stb rank 0 n g h) := by
  have run : FSpec Try.prog 20 [.rows 1 n (icol .u64 g)] [] (fun r H' => r = .sl 1 0 n ∧ ∃ x h, H' = [x, some ⟨22, 1, .arr n (icol .u64 h)⟩] ∧ Srt rank h 0 n ∧ Stb rank 0 n g h) := by
    refine FSpec.of (fn := Try.f20) Try.func20 rfl rfl (by simp) fun C hC => ?_
    obtain ⟨iadd, isub, imul, iquo, irem, iband, ibor, ibxor, ibandn, ishl, ishr, iconv, ieq, ine, ilt, ile, igt, ige, bbeq, bbne, bnot, bband, sseq, ssne, sscat, sssub, sslen, sssz, ssbyte, toN, ofN, addN, subN, eqN, ltB, leN, imx, imn, inb, leb, sslt, ltN, fit, ne0, ge0, ssfit, minN, inR, bcol, bstr, isBy, hS⟩ := names
    refine V.goF (by first | exact trivial | assumption) Try.func20 tl_ok mixed hS.ops [] 400 ?_
    intro VV VA W hVV hVA hW
    conv => cbv
    rw [hVV]
    clear hVV hVA VV VA hW W
    refine V.call rfl rfl rfl rfl rfl Try.func33 rfl (by decide) [] (by simp) (by simp) (by (first | rfl | ((conv => cbv); (repeat' apply And.intro) <;> first | rfl | trivial | (first | rfl | omega | (simp (disch := omega) only [hS.glob, wraps, plain, Int.ofNat_eq_natCast]; first | done | rfl | omega | (simp; done) | (simp; omega)) | (simp (disch := omega) only [hS.glob, wraps, plain, Int.ofNat_eq_natCast, Vx.toN]; omega))))) rfl (f33_ok n g) ?_
    rintro r Hc ⟨rfl, rfl⟩
    refine V.goF (by first | exact trivial | assumption) Try.func20 tl_ok mixed hS.ops [] 400 ?_
    intro VV VA W hVV hVA hW
    conv => cbv
    rw [hVV]
    clear hVV hVA VV VA hW W
    refine V.call rfl rfl rfl rfl rfl Try.func32 rfl (by decide) [0] (by decide) (all_lt (by rfl)) (by (first | rfl | ((conv => cbv); (repeat' apply And.intro) <;> first | rfl | trivial | (first | rfl | omega | (simp (disch := omega) only [hS.glob, wraps, plain, Int.ofNat_eq_natCast]; first | done | rfl | omega | (simp; done) | (simp; omega)) | (simp (disch := omega) only [hS.glob, wraps, plain, Int.ofNat_eq_natCast, Vx.toN]; omega))))) (by rfl) (f32_ok n hn g hu) ?_
    rintro r Hc ⟨rfl, h, rfl, h1, h2⟩
    refine V.goF (by first | exact trivial | assumption) Try.func20 tl_ok mixed hS.ops [] 400 ?_
    intro VV VA W hVV hVA hW
    conv => cbv
    exact ⟨_, h, rfl, h1, h2⟩
  refine FSpec.repick run ?_
  rintro r H' ⟨rfl, x, h, rfl, h1, h2⟩
  exact ⟨[1], by decide, fun k hk => by simp at hk, rfl, h, rfl, h1, h2⟩
/-- The sum of cells, and the error. -/
def sumU (g : Nat → Int) : Nat → Int
  | 0 => 0
  | n + 1 => sumU g n + cellsI (g n)
def okU (g : Nat → Int) (n : Nat) : Prop := ∀ j, j < n → errI (g j) = 0
theorem cells_bd (x : Int) (hx : inU x) : 0 ≤ cellsI x ∧ cellsI x ≤ 64 := by
  obtain ⟨x0, x1⟩ := hx
  unfold cellsI
  split
  · rename_i h
    unfold okC at h
    simp only [Bool.and_eq_true, decide_eq_true_eq] at h
    unfold keyI at h
    by_cases h2 : x = 0
    · subst h2; decide
    · by_cases h3 : x = 9223372036854775808
      · subst h3; decide
      · split at h
        · omega
        · have := cells_near x.toNat (by omega) (by omega)
          omega
  · omega
theorem err_bd (x : Int) : errI x = 0 ∨ errI x = 41 := by unfold errI; split <;> simp
theorem sumU_bd (g : Nat → Int) : ∀ n, (∀ j, j < n → inU (g j)) → 0 ≤ sumU g n ∧ sumU g n ≤ 64 * n
  | 0, _ => by simp [sumU]
  | n + 1, h => by
    have h1 := sumU_bd g n fun j hj => h j (by omega)
    have h2 := cells_bd (g n) (h n (by omega))
    simp only [sumU]
    omega
def SumL (g : Nat → Int) (n : Nat) (S E : Int) : Prop := (okU g n ∧ S = sumU g n ∧ E = 0) ∨ (¬ okU g n ∧ S = 0 ∧ E = 41)
theorem sum_ex (g : Nat → Int) (n : Nat) : ∃ S E, SumL g n S E := by
  by_cases h : okU g n
  · exact ⟨_, _, .inl ⟨h, rfl, rfl⟩⟩
  · exact ⟨_, _, .inr ⟨h, rfl, rfl⟩⟩
theorem f17_ok (n : Nat) (hn : n ≤ 1000000) (g : Nat → Int) (hu : ∀ j, j < n → inU (g j)) (S E : Int) (hS0 : SumL g n S E) : FSpec Try.prog 17 [.rows 1 n (icol .u64 g)] [] (fun r H' => r = .tup [.int .i64 S, .int .i64 E] ∧ H' = []) := by
  refine (show FSpec Try.prog 17 [.rows 1 n (icol .u64 g)] [] (fun r H' => r = .tup [.int .i64 S, .int .i64 E]) from ?_).weaken ?_
  case refine_2 =>
    rintro r H' rfl
    exact ⟨[], by cases H' <;> simp [heapCov], rfl, Nat.le_refl _, rfl, rfl⟩
  obtain ⟨Q, hQ⟩ : ∃ Q : AV → Hp → Prop, Q = (fun r H' => r = .tup [.int .i64 S, .int .i64 E]) := ⟨_, rfl⟩
  rw [← hQ]
  obtain ⟨sf, hsf⟩ : ∃ sf : Nat → Int, sf = sumU g := ⟨_, rfl⟩
  have sb := fun i (hi : i ≤ n) => sumU_bd g i fun j hj => hu j (by omega)
  rw [← hsf] at sb
  refine FSpec.of (fn := Try.f17) Try.func17 rfl rfl (by simp) fun C hC => ?_
  obtain ⟨iadd, isub, imul, iquo, irem, iband, ibor, ibxor, ibandn, ishl, ishr, iconv, ieq, ine, ilt, ile, igt, ige, bbeq, bbne, bnot, bband, sseq, ssne, sscat, sssub, sslen, sssz, ssbyte, toN, ofN, addN, subN, eqN, ltB, leN, imx, imn, inb, leb, sslt, ltN, fit, ne0, ge0, ssfit, minN, inR, bcol, bstr, isBy, hS⟩ := names
  refine V.goF (by first | exact trivial | assumption) Try.func17 tl_ok mixed hS.ops [] 400 ?_
  intro VV VA W hVV hVA hW
  conv => cbv
  rw [hVV]
  clear hVV hVA VV VA hW W
  refine V.to (s' := [(11, .int .i64 (ofN 0)), (4, .int .i64 (sf 0)), (9, .rows 1 n (icol .u64 g)), (10, .int .i64 (ofN n))]) (H' := []) ?_ (by subst hsf; (repeat' first | exact trivial | rfl | (refine And.intro ?_ ?_) | (refine sti ?_; (first | rfl | omega | (simp (disch := omega) only [hS.glob, wraps, plain, Int.ofNat_eq_natCast]; first | done | rfl | omega | (simp; done) | (simp; omega)) | (simp (disch := omega) only [hS.glob, wraps, plain, Int.ofNat_eq_natCast, Vx.toN]; omega))) | (refine slq ?_ ?_ ?_ <;> (first | rfl | omega | (simp (disch := omega) only [hS.glob, wraps, plain, Int.ofNat_eq_natCast]; first | done | rfl | omega | (simp; done) | (simp; omega)) | (simp (disch := omega) only [hS.glob, wraps, plain, Int.ofNat_eq_natCast, Vx.toN]; omega))) | (refine ptq ?_ ?_ ?_ <;> (first | rfl | omega | (simp (disch := omega) only [hS.glob, wraps, plain, Int.ofNat_eq_natCast]; first | done | rfl | omega | (simp; done) | (simp; omega)) | (simp (disch := omega) only [hS.glob, wraps, plain, Int.ofNat_eq_natCast, Vx.toN]; omega))) | (refine blq ?_; (first | rfl | omega | (simp (disch := omega) only [hS.glob, wraps, plain, Int.ofNat_eq_natCast]; first | done | rfl | omega | (simp; done) | (simp; omega)) | (simp (disch := omega) only [hS.glob, wraps, plain, Int.ofNat_eq_natCast, Vx.toN]; omega))))) rfl trivial (by rw [hC]; simp)
  refine V.loop (γ := Nat) (fun i => i ≤ n ∧ okU g i) (fun i => [(11, .int .i64 (ofN i)), (4, .int .i64 (sf i)), (9, .rows 1 n (icol .u64 g)), (10, .int .i64 (ofN n))]) (fun _ => []) (fun i => n - i) ?_ 0 ⟨Nat.zero_le _, fun j hj => absurd hj (Nat.not_lt_zero _)⟩
  rintro i ⟨hi, hok⟩ hback
  refine V.goF (by first | exact trivial | assumption) Try.func17 tl_ok mixed hS.ops [] 400 ?_
  intro VV VA W hVV hVA hW
  conv => cbv
  cases h1 : ilt (ofN i) (ofN n)
  · conv => cbv
    simp (disch := first | omega | (simp only [hS.glob, wraps, plain, Int.ofNat_eq_natCast]; omega)) only [hS.glob, wraps, plain, Int.ofNat_eq_natCast] at h1
    obtain rfl : i = n := by omega
    rw [hQ]
    rcases hS0 with ⟨_, rfl, rfl⟩ | ⟨h, _⟩
    · rw [hsf]
    · exact absurd hok h
  · conv => cbv
    simp (disch := first | omega | (simp only [hS.glob, wraps, plain, Int.ofNat_eq_natCast]; omega)) only [hS.glob, wraps, plain, Int.ofNat_eq_natCast] at h1
    repeat (refine ⟨by first | (rw [hW]; show ordOk _ _ _ = true; kernel_rfl) | (first | trivial | omega | (simp (disch := omega) only [hS.glob, wraps, plain, Int.ofNat_eq_natCast]; first | done | omega | trivial | (simp; done) | (simp; omega) | (constructor <;> omega)) | (simp (disch := omega) only [hS.glob, wraps, plain, Int.ofNat_eq_natCast, Vx.toN]; omega)), ?_⟩)
    simp only [hS.tidy]
    obtain ⟨c, hc⟩ : ∃ c, c = cellsI (g i) := ⟨_, rfl⟩
    obtain ⟨e, he⟩ : ∃ e, e = errI (g i) := ⟨_, rfl⟩
    have hcb := cells_bd (g i) (hu i (by omega))
    rw [← hc] at hcb
    have hsi := sb i hi
    rw [hVV]
    clear hVV hVA VV VA hW W
    refine V.call rfl rfl rfl rfl rfl Try.func8 rfl (by decide) [] (by simp) (by simp) (by (first | rfl | ((conv => cbv); (repeat' apply And.intro) <;> first | rfl | trivial | (first | rfl | omega | (simp (disch := omega) only [hS.glob, wraps, plain, Int.ofNat_eq_natCast]; first | done | rfl | omega | (simp; done) | (simp; omega)) | (simp (disch := omega) only [hS.glob, wraps, plain, Int.ofNat_eq_natCast, Vx.toN]; omega))))) rfl (f8_ok (g i) c e (hu i (by omega)) hc he) ?_
    rintro r Hc ⟨rfl, rfl⟩
    refine V.goF (by first | exact trivial | assumption) Try.func17 tl_ok mixed hS.ops [] 400 ?_
    intro VV VA W hVV hVA hW
    conv => cbv
    cases h2 : ine e 0
    · conv => cbv
      simp (disch := first | omega | (simp only [hS.glob, wraps, plain, Int.ofNat_eq_natCast]; omega)) only [hS.glob, wraps, plain, Int.ofNat_eq_natCast] at h2
      have es : iadd .i64 (sf i) c = sf (i + 1) := by
        have : sf (i + 1) = sf i + c := by rw [hsf, hc]; rfl
        rw [this]
        (first | rfl | omega | (simp (disch := omega) only [hS.glob, wraps, plain, Int.ofNat_eq_natCast]; first | done | rfl | omega | (simp; done) | (simp; omega)) | (simp (disch := omega) only [hS.glob, wraps, plain, Int.ofNat_eq_natCast, Vx.toN]; omega))
      simp only [es]
      rw [hVV]
      clear hVV hVA VV VA hW W
      refine V.to (hback (i + 1) ⟨by omega, fun j hj => ?_⟩ (by omega)) (by (repeat' first | exact trivial | rfl | (refine And.intro ?_ ?_) | (refine sti ?_; (first | rfl | omega | (simp (disch := omega) only [hS.glob, wraps, plain, Int.ofNat_eq_natCast]; first | done | rfl | omega | (simp; done) | (simp; omega)) | (simp (disch := omega) only [hS.glob, wraps, plain, Int.ofNat_eq_natCast, Vx.toN]; omega))) | (refine slq ?_ ?_ ?_ <;> (first | rfl | omega | (simp (disch := omega) only [hS.glob, wraps, plain, Int.ofNat_eq_natCast]; first | done | rfl | omega | (simp; done) | (simp; omega)) | (simp (disch := omega) only [hS.glob, wraps, plain, Int.ofNat_eq_natCast, Vx.toN]; omega))) | (refine ptq ?_ ?_ ?_ <;> (first | rfl | omega | (simp (disch := omega) only [hS.glob, wraps, plain, Int.ofNat_eq_natCast]; first | done | rfl | omega | (simp; done) | (simp; omega)) | (simp (disch := omega) only [hS.glob, wraps, plain, Int.ofNat_eq_natCast, Vx.toN]; omega))) | (refine blq ?_; (first | rfl | omega | (simp (disch := omega) only [hS.glob, wraps, plain, Int.ofNat_eq_natCast]; first | done | rfl | omega | (simp; done) | (simp; omega)) | (simp (disch := omega) only [hS.glob, wraps, plain, Int.ofNat_eq_natCast, Vx.toN]; omega))))) rfl trivial (by rw [hC]; simp)
      rcases Nat.lt_or_ge j i with q | q
      · exact hok j q
      · obtain rfl : j = i := by omega
        rw [← he]; exact h2
    · conv => cbv
      simp (disch := first | omega | (simp only [hS.glob, wraps, plain, Int.ofNat_eq_natCast]; omega)) only [hS.glob, wraps, plain, Int.ofNat_eq_natCast] at h2
      rw [hQ]
      rcases hS0 with ⟨h, _⟩ | ⟨_, rfl, rfl⟩
      · exact absurd (h i (by omega)) (by rw [← he]; exact h2)
      · rcases err_bd (g i) with q | q
        · exact absurd q (by rw [← he]; exact h2)
        · rw [he, q]
end Go.Proofs.Ytffahckigenfcaa

/- The document's sum; sameness. -/
namespace Go.Proofs.Ytffahckigenfcaa
open Go Vx
theorem f18_ok (n : Nat) (hn : n ≤ 1000000) (g : Nat → Int) (hu : ∀ j, j < n → inU (g j)) (S E : Int) (hS0 : SumL g n S E) : FSpec Try.prog 18 [.rows 1 n (icol .u64 g)] [] (fun r H' => r = .tup [.int .i64 S, .int .i64 E] ∧ H' = []) := by
  refine (show FSpec Try.prog 18 [.rows 1 n (icol .u64 g)] [] (fun r H' => r = .tup [.int .i64 S, .int .i64 E]) from ?_).weaken ?_
  case refine_2 =>
    rintro r H' rfl
    exact ⟨[], by cases H' <;> simp [heapCov], rfl, Nat.le_refl _, rfl, rfl⟩
  obtain ⟨Q, hQ⟩ : ∃ Q : AV → Hp → Prop, Q = (fun r H' => r = .tup [.int .i64 S, .int .i64 E]) := ⟨_, rfl⟩
  rw [← hQ]
  obtain ⟨sf, hsf⟩ : ∃ sf : Nat → Int, sf = sumU g := ⟨_, rfl⟩
  have sb := fun i (hi : i ≤ n) => sumU_bd g i fun j hj => hu j (by omega)
  rw [← hsf] at sb
  refine FSpec.of (fn := Try.f18) Try.func18 rfl rfl (by simp) fun C hC => ?_
  obtain ⟨iadd, isub, imul, iquo, irem, iband, ibor, ibxor, ibandn, ishl, ishr, iconv, ieq, ine, ilt, ile, igt, ige, bbeq, bbne, bnot, bband, sseq, ssne, sscat, sssub, sslen, sssz, ssbyte, toN, ofN, addN, subN, eqN, ltB, leN, imx, imn, inb, leb, sslt, ltN, fit, ne0, ge0, ssfit, minN, inR, bcol, bstr, isBy, hS⟩ := names
  refine V.goF (by first | exact trivial | assumption) Try.func18 tl_ok mixed hS.ops [] 400 ?_
  intro VV VA W hVV hVA hW
  conv => cbv
  rw [hVV]
  clear hVV hVA VV VA hW W
  refine V.to (s' := [(5, .int .i64 (ofN 0)), (4, .int .i64 (sf 0)), (0, .rows 1 n (icol .u64 g))]) (H' := []) ?_ (by subst hsf; (repeat' first | exact trivial | rfl | (refine And.intro ?_ ?_) | (refine sti ?_; (first | rfl | omega | (simp (disch := omega) only [hS.glob, wraps, plain, Int.ofNat_eq_natCast]; first | done | rfl | omega | (simp; done) | (simp; omega)) | (simp (disch := omega) only [hS.glob, wraps, plain, Int.ofNat_eq_natCast, Vx.toN]; omega))) | (refine slq ?_ ?_ ?_ <;> (first | rfl | omega | (simp (disch := omega) only [hS.glob, wraps, plain, Int.ofNat_eq_natCast]; first | done | rfl | omega | (simp; done) | (simp; omega)) | (simp (disch := omega) only [hS.glob, wraps, plain, Int.ofNat_eq_natCast, Vx.toN]; omega))) | (refine ptq ?_ ?_ ?_ <;> (first | rfl | omega | (simp (disch := omega) only [hS.glob, wraps, plain, Int.ofNat_eq_natCast]; first | done | rfl | omega | (simp; done) | (simp; omega)) | (simp (disch := omega) only [hS.glob, wraps, plain, Int.ofNat_eq_natCast, Vx.toN]; omega))) | (refine blq ?_; (first | rfl | omega | (simp (disch := omega) only [hS.glob, wraps, plain, Int.ofNat_eq_natCast]; first | done | rfl | omega | (simp; done) | (simp; omega)) | (simp (disch := omega) only [hS.glob, wraps, plain, Int.ofNat_eq_natCast, Vx.toN]; omega))))) rfl trivial (by rw [hC]; simp)
  refine V.loop (γ := Nat) (fun i => i ≤ n ∧ okU g i) (fun i => [(5, .int .i64 (ofN i)), (4, .int .i64 (sf i)), (0, .rows 1 n (icol .u64 g))]) (fun _ => []) (fun i => n - i) ?_ 0 ⟨Nat.zero_le _, fun j hj => absurd hj (Nat.not_lt_zero _)⟩
  rintro i ⟨hi, hok⟩ hback
  refine V.goF (by first | exact trivial | assumption) Try.func18 tl_ok mixed hS.ops [] 400 ?_
  intro VV VA W hVV hVA hW
  conv => cbv
  cases h1 : ilt (ofN i) (ofN n)
  · conv => cbv
    simp (disch := first | omega | (simp only [hS.glob, wraps, plain, Int.ofNat_eq_natCast]; omega)) only [hS.glob, wraps, plain, Int.ofNat_eq_natCast] at h1
    obtain rfl : i = n := by omega
    rw [hQ]
    rcases hS0 with ⟨_, rfl, rfl⟩ | ⟨h, _⟩
    · rw [hsf]
    · exact absurd hok h
  · conv => cbv
    simp (disch := first | omega | (simp only [hS.glob, wraps, plain, Int.ofNat_eq_natCast]; omega)) only [hS.glob, wraps, plain, Int.ofNat_eq_natCast] at h1
    repeat (refine ⟨by first | (rw [hW]; show ordOk _ _ _ = true; kernel_rfl) | (first | trivial | omega | (simp (disch := omega) only [hS.glob, wraps, plain, Int.ofNat_eq_natCast]; first | done | omega | trivial | (simp; done) | (simp; omega) | (constructor <;> omega)) | (simp (disch := omega) only [hS.glob, wraps, plain, Int.ofNat_eq_natCast, Vx.toN]; omega)), ?_⟩)
    simp only [hS.tidy]
    obtain ⟨c, hc⟩ : ∃ c, c = cellsI (g i) := ⟨_, rfl⟩
    obtain ⟨e, he⟩ : ∃ e, e = errI (g i) := ⟨_, rfl⟩
    have hcb := cells_bd (g i) (hu i (by omega))
    rw [← hc] at hcb
    have hsi := sb i hi
    rw [hVV]
    clear hVV hVA VV VA hW W
    refine V.call rfl rfl rfl rfl rfl Try.func9 rfl (by decide) [] (by simp) (by simp) (by (first | rfl | ((conv => cbv); (repeat' apply And.intro) <;> first | rfl | trivial | (first | rfl | omega | (simp (disch := omega) only [hS.glob, wraps, plain, Int.ofNat_eq_natCast]; first | done | rfl | omega | (simp; done) | (simp; omega)) | (simp (disch := omega) only [hS.glob, wraps, plain, Int.ofNat_eq_natCast, Vx.toN]; omega))))) rfl (f9_ok (g i) c e (hu i (by omega)) hc he) ?_
    rintro r Hc ⟨rfl, rfl⟩
    refine V.goF (by first | exact trivial | assumption) Try.func18 tl_ok mixed hS.ops [] 400 ?_
    intro VV VA W hVV hVA hW
    conv => cbv
    cases h2 : ine e 0
    · conv => cbv
      simp (disch := first | omega | (simp only [hS.glob, wraps, plain, Int.ofNat_eq_natCast]; omega)) only [hS.glob, wraps, plain, Int.ofNat_eq_natCast] at h2
      have es : iadd .i64 (sf i) c = sf (i + 1) := by
        have : sf (i + 1) = sf i + c := by rw [hsf, hc]; rfl
        rw [this]
        (first | rfl | omega | (simp (disch := omega) only [hS.glob, wraps, plain, Int.ofNat_eq_natCast]; first | done | rfl | omega | (simp; done) | (simp; omega)) | (simp (disch := omega) only [hS.glob, wraps, plain, Int.ofNat_eq_natCast, Vx.toN]; omega))
      simp only [es]
      rw [hVV]
      clear hVV hVA VV VA hW W
      refine V.to (hback (i + 1) ⟨by omega, fun j hj => ?_⟩ (by omega)) (by (repeat' first | exact trivial | rfl | (refine And.intro ?_ ?_) | (refine sti ?_; (first | rfl | omega | (simp (disch := omega) only [hS.glob, wraps, plain, Int.ofNat_eq_natCast]; first | done | rfl | omega | (simp; done) | (simp; omega)) | (simp (disch := omega) only [hS.glob, wraps, plain, Int.ofNat_eq_natCast, Vx.toN]; omega))) | (refine slq ?_ ?_ ?_ <;> (first | rfl | omega | (simp (disch := omega) only [hS.glob, wraps, plain, Int.ofNat_eq_natCast]; first | done | rfl | omega | (simp; done) | (simp; omega)) | (simp (disch := omega) only [hS.glob, wraps, plain, Int.ofNat_eq_natCast, Vx.toN]; omega))) | (refine ptq ?_ ?_ ?_ <;> (first | rfl | omega | (simp (disch := omega) only [hS.glob, wraps, plain, Int.ofNat_eq_natCast]; first | done | rfl | omega | (simp; done) | (simp; omega)) | (simp (disch := omega) only [hS.glob, wraps, plain, Int.ofNat_eq_natCast, Vx.toN]; omega))) | (refine blq ?_; (first | rfl | omega | (simp (disch := omega) only [hS.glob, wraps, plain, Int.ofNat_eq_natCast]; first | done | rfl | omega | (simp; done) | (simp; omega)) | (simp (disch := omega) only [hS.glob, wraps, plain, Int.ofNat_eq_natCast, Vx.toN]; omega))))) rfl trivial (by rw [hC]; simp)
      rcases Nat.lt_or_ge j i with q | q
      · exact hok j q
      · obtain rfl : j = i := by omega
        rw [← he]; exact h2
    · conv => cbv
      simp (disch := first | omega | (simp only [hS.glob, wraps, plain, Int.ofNat_eq_natCast]; omega)) only [hS.glob, wraps, plain, Int.ofNat_eq_natCast] at h2
      rw [hQ]
      rcases hS0 with ⟨h, _⟩ | ⟨_, rfl, rfl⟩
      · exact absurd (h i (by omega)) (by rw [← he]; exact h2)
      · rcases err_bd (g i) with q | q
        · exact absurd q (by rw [← he]; exact h2)
        · rw [he, q]
theorem f19_ok (n : Nat) (hn : n ≤ 1000000) (g h : Nat → Int) (e : ∀ j, j < n → g j = h j) (m : Nat) (hm : m = n) : FSpec Try.prog 19 [.rows 1 n (icol .u64 g), .rows 1 m (icol .u64 h)] [] (fun r H' => r = .bool true ∧ H' = []) := by
  refine (show FSpec Try.prog 19 [.rows 1 n (icol .u64 g), .rows 1 m (icol .u64 h)] [] (fun r H' => r = .bool true) from ?_).weaken ?_
  case refine_2 =>
    rintro r H' rfl
    exact ⟨[], by cases H' <;> simp [heapCov], rfl, Nat.le_refl _, rfl, rfl⟩
  refine FSpec.of (fn := Try.f19) Try.func19 rfl rfl (by simp) fun C hC => ?_
  obtain ⟨iadd, isub, imul, iquo, irem, iband, ibor, ibxor, ibandn, ishl, ishr, iconv, ieq, ine, ilt, ile, igt, ige, bbeq, bbne, bnot, bband, sseq, ssne, sscat, sssub, sslen, sssz, ssbyte, toN, ofN, addN, subN, eqN, ltB, leN, imx, imn, inb, leb, sslt, ltN, fit, ne0, ge0, ssfit, minN, inR, bcol, bstr, isBy, hS⟩ := names
  refine V.goF (by first | exact trivial | assumption) Try.func19 tl_ok mixed hS.ops [] 400 ?_
  intro VV VA W hVV hVA hW
  conv => cbv
  cases h1 : ine (ofN n) (ofN m)
  case true =>
    simp (disch := first | omega | (simp only [hS.glob, wraps, plain, Int.ofNat_eq_natCast]; omega)) only [hS.glob, wraps, plain, Int.ofNat_eq_natCast] at h1
    omega
  conv => cbv
  rw [hVV]
  clear hVV hVA VV VA hW W
  refine V.to (s' := [(5, .int .i64 (ofN 0)), (0, .rows 1 n (icol .u64 g)), (1, .rows 1 m (icol .u64 h))]) (H' := []) ?_ (by (repeat' first | exact trivial | rfl | (refine And.intro ?_ ?_) | (refine sti ?_; (first | rfl | omega | (simp (disch := omega) only [hS.glob, wraps, plain, Int.ofNat_eq_natCast]; first | done | rfl | omega | (simp; done) | (simp; omega)) | (simp (disch := omega) only [hS.glob, wraps, plain, Int.ofNat_eq_natCast, Vx.toN]; omega))) | (refine slq ?_ ?_ ?_ <;> (first | rfl | omega | (simp (disch := omega) only [hS.glob, wraps, plain, Int.ofNat_eq_natCast]; first | done | rfl | omega | (simp; done) | (simp; omega)) | (simp (disch := omega) only [hS.glob, wraps, plain, Int.ofNat_eq_natCast, Vx.toN]; omega))) | (refine ptq ?_ ?_ ?_ <;> (first | rfl | omega | (simp (disch := omega) only [hS.glob, wraps, plain, Int.ofNat_eq_natCast]; first | done | rfl | omega | (simp; done) | (simp; omega)) | (simp (disch := omega) only [hS.glob, wraps, plain, Int.ofNat_eq_natCast, Vx.toN]; omega))) | (refine blq ?_; (first | rfl | omega | (simp (disch := omega) only [hS.glob, wraps, plain, Int.ofNat_eq_natCast]; first | done | rfl | omega | (simp; done) | (simp; omega)) | (simp (disch := omega) only [hS.glob, wraps, plain, Int.ofNat_eq_natCast, Vx.toN]; omega))))) rfl trivial (by rw [hC]; simp)
  refine V.loop (γ := Nat) (fun i => i ≤ n) (fun i => [(5, .int .i64 (ofN i)), (0, .rows 1 n (icol .u64 g)), (1, .rows 1 m (icol .u64 h))]) (fun _ => []) (fun i => n - i) ?_ 0 (Nat.zero_le _)
  rintro i hi hback
  refine V.goF (by first | exact trivial | assumption) Try.func19 tl_ok mixed hS.ops [] 400 ?_
  intro VV VA W hVV hVA hW
  conv => cbv
  cases h2 : ilt (ofN i) (ofN n)
  · conv => cbv
    trivial
  · conv => cbv
    simp (disch := first | omega | (simp only [hS.glob, wraps, plain, Int.ofNat_eq_natCast]; omega)) only [hS.glob, wraps, plain, Int.ofNat_eq_natCast] at h2
    repeat (refine ⟨by first | (rw [hW]; show ordOk _ _ _ = true; kernel_rfl) | (first | trivial | omega | (simp (disch := omega) only [hS.glob, wraps, plain, Int.ofNat_eq_natCast]; first | done | omega | trivial | (simp; done) | (simp; omega) | (constructor <;> omega)) | (simp (disch := omega) only [hS.glob, wraps, plain, Int.ofNat_eq_natCast, Vx.toN]; omega)), ?_⟩)
    simp only [hS.tidy]
    cases h3 : ine (g i) (h i)
    case true =>
      simp (disch := first | omega | (simp only [hS.glob, wraps, plain, Int.ofNat_eq_natCast]; omega)) only [hS.glob, wraps, plain, Int.ofNat_eq_natCast] at h3
      exact absurd (e i (by omega)) h3
    conv => cbv
    rw [hVV]
    clear hVV hVA VV VA hW W
    exact V.to (hback (i + 1) (by omega) (by omega)) (by (repeat' first | exact trivial | rfl | (refine And.intro ?_ ?_) | (refine sti ?_; (first | rfl | omega | (simp (disch := omega) only [hS.glob, wraps, plain, Int.ofNat_eq_natCast]; first | done | rfl | omega | (simp; done) | (simp; omega)) | (simp (disch := omega) only [hS.glob, wraps, plain, Int.ofNat_eq_natCast, Vx.toN]; omega))) | (refine slq ?_ ?_ ?_ <;> (first | rfl | omega | (simp (disch := omega) only [hS.glob, wraps, plain, Int.ofNat_eq_natCast]; first | done | rfl | omega | (simp; done) | (simp; omega)) | (simp (disch := omega) only [hS.glob, wraps, plain, Int.ofNat_eq_natCast, Vx.toN]; omega))) | (refine ptq ?_ ?_ ?_ <;> (first | rfl | omega | (simp (disch := omega) only [hS.glob, wraps, plain, Int.ofNat_eq_natCast]; first | done | rfl | omega | (simp; done) | (simp; omega)) | (simp (disch := omega) only [hS.glob, wraps, plain, Int.ofNat_eq_natCast, Vx.toN]; omega))) | (refine blq ?_; (first | rfl | omega | (simp (disch := omega) only [hS.glob, wraps, plain, Int.ofNat_eq_natCast]; first | done | rfl | omega | (simp; done) | (simp; omega)) | (simp (disch := omega) only [hS.glob, wraps, plain, Int.ofNat_eq_natCast, Vx.toN]; omega))))) rfl trivial (by rw [hC]; simp)
end Go.Proofs.Ytffahckigenfcaa

/- The document's list in order. -/
namespace Go.Proofs.Ytffahckigenfcaa
open Go Vx
theorem cmp_pos (x y : Int) : 0 < cmpI x y ↔ y < x := by
  unfold cmpI
  split
  · simp; omega
  · split <;> simp <;> omega
theorem pos_ex {key : Int → Int} {h : Nat → Int} (x : Int) : ∀ (m : Nat), Srt key h 0 m → ∃ i, i ≤ m ∧ (∀ j, j < i → key (h j) ≤ key x) ∧ ∀ j, i ≤ j → j < m → key x < key (h j)
  | 0, _ => ⟨0, Nat.le_refl _, fun j hj => absurd hj (Nat.not_lt_zero _), fun j _ hj => absurd hj (Nat.not_lt_zero _)⟩
  | m + 1, hs => by
    by_cases q : key x < key (h m)
    · obtain ⟨i, i1, i2, i3⟩ := pos_ex x m (hs.sub (Nat.le_refl _) (by omega))
      refine ⟨i, by omega, i2, fun j j1 j2 => ?_⟩
      rcases Nat.lt_or_ge j m with w | w
      · exact i3 j j1 w
      · obtain rfl : j = m := by omega
        exact q
    · refine ⟨m + 1, Nat.le_refl _, fun j hj => ?_, fun j j1 j2 => by omega⟩
      exact Int.le_trans (hs j m (Nat.zero_le _) (by omega) (by omega)) (by omega)
theorem srt_ex (key : Int → Int) (g : Nat → Int) : ∀ n, ∃ h, Srt key h 0 n ∧ Stb key 0 n g h
  | 0 => ⟨g, Srt.short (by omega), .refl fun _ => rfl⟩
  | n + 1 => by
    obtain ⟨h, h1, h2⟩ := srt_ex key g n
    obtain ⟨i, i1, i2, i3⟩ := pos_ex (key := key) (h n) n h1
    obtain ⟨r1, r2⟩ := last_law (key := key) (Nat.zero_le i) i1 h1 (fun j _ j2 => i2 j j2) i3
    exact ⟨_, r1, (h2.widen (Nat.le_refl _) (by omega) (by omega)).trans r2⟩
theorem f21_ok1 (n : Nat) (hn : n ≤ 1000000) (g : Nat → Int) (hu : ∀ j, j < n → inU (g j)) : FSpec Try.prog 21 [.rows 1 n (icol .u64 g)] [] (fun r H' => r = .sl 0 0 n ∧ ∃ h, H' = [some ⟨22, 1, .arr n (icol .u64 h)⟩] ∧ Srt rank h 0 n ∧ Stb rank 0 n g h) := by
  obtain ⟨Q, hQ⟩ : ∃ Q : AV → Hp → Prop, Q = (fun r H' => r = .sl 0 0 n ∧ ∃ h, H' = [some ⟨22, 1, .arr n (icol .u64 h)⟩] ∧ Srt rank h 0 n ∧ Stb rank 0 n g h) := ⟨_, rfl⟩
  rw [← hQ]
  refine FSpec.of (fn := Try.f21) Try.func21 rfl rfl (by simp) fun C hC => ?_
  obtain ⟨iadd, isub, imul, iquo, irem, iband, ibor, ibxor, ibandn, ishl, ishr, iconv, ieq, ine, ilt, ile, igt, ige, bbeq, bbne, bnot, bband, sseq, ssne, sscat, sssub, sslen, sssz, ssbyte, toN, ofN, addN, subN, eqN, ltB, leN, imx, imn, inb, leb, sslt, ltN, fit, ne0, ge0, ssfit, minN, inR, bcol, bstr, isBy, hS⟩ := names
  refine V.goF (by first | exact trivial | assumption) Try.func21 tl_ok mixed hS.ops [] 400 ?_
  intro VV VA W hVV hVA hW
  conv => cbv
  rw [hVV]
  clear hVV hVA VV VA hW W
  refine V.phantom 3 22 1 (icol .u64 g) rfl ?_
  refine V.to (s' := [(4, .int .i64 (ofN 0)), (3, .sl 0 0 0), (0, .rows 1 n (icol .u64 g))]) (H' := [some ⟨22, 1, .arr 0 (icol .u64 g)⟩]) ?_ (by (repeat' first | exact trivial | rfl | (refine And.intro ?_ ?_) | (refine sti ?_; (first | rfl | omega | (simp (disch := omega) only [hS.glob, wraps, plain, Int.ofNat_eq_natCast]; first | done | rfl | omega | (simp; done) | (simp; omega)) | (simp (disch := omega) only [hS.glob, wraps, plain, Int.ofNat_eq_natCast, Vx.toN]; omega))) | (refine slq ?_ ?_ ?_ <;> (first | rfl | omega | (simp (disch := omega) only [hS.glob, wraps, plain, Int.ofNat_eq_natCast]; first | done | rfl | omega | (simp; done) | (simp; omega)) | (simp (disch := omega) only [hS.glob, wraps, plain, Int.ofNat_eq_natCast, Vx.toN]; omega))) | (refine ptq ?_ ?_ ?_ <;> (first | rfl | omega | (simp (disch := omega) only [hS.glob, wraps, plain, Int.ofNat_eq_natCast]; first | done | rfl | omega | (simp; done) | (simp; omega)) | (simp (disch := omega) only [hS.glob, wraps, plain, Int.ofNat_eq_natCast, Vx.toN]; omega))) | (refine blq ?_; (first | rfl | omega | (simp (disch := omega) only [hS.glob, wraps, plain, Int.ofNat_eq_natCast]; first | done | rfl | omega | (simp; done) | (simp; omega)) | (simp (disch := omega) only [hS.glob, wraps, plain, Int.ofNat_eq_natCast, Vx.toN]; omega))))) rfl (by (repeat' first | exact trivial | rfl | exact Nat.le_refl _ | exact (fun _ _ => rfl) | (refine And.intro ?_ ?_) | (simp only [hS.glob, plain]; first | done | omega))) (by rw [hC]; simp)
  refine V.loop (γ := Nat × (Nat → Int)) (fun p => p.1 ≤ n ∧ Srt rank p.2 0 p.1 ∧ Stb rank 0 p.1 g p.2) (fun p => [(4, .int .i64 (ofN p.1)), (3, .sl 0 0 p.1), (0, .rows 1 n (icol .u64 g))]) (fun p => [some ⟨22, 1, .arr p.1 (icol .u64 p.2)⟩]) (fun p => n - p.1) ?_ (0, g) ⟨Nat.zero_le _, Srt.short (by simp only; omega), .refl fun _ => rfl⟩
  rintro ⟨i, h⟩ ⟨hi, hs, ht⟩ hback
  dsimp only at hi hs ht hback ⊢
  refine V.goF (by first | exact trivial | assumption) Try.func21 tl_ok mixed hS.ops [] 400 ?_
  intro VV VA W hVV hVA hW
  conv => cbv
  cases h1 : ilt (ofN i) (ofN n)
  · conv => cbv
    simp (disch := first | omega | (simp only [hS.glob, wraps, plain, Int.ofNat_eq_natCast]; omega)) only [hS.glob, wraps, plain, Int.ofNat_eq_natCast] at h1
    obtain rfl : i = n := by omega
    rw [hQ]
    exact ⟨rfl, h, rfl, hs, ht⟩
  conv => cbv
  simp (disch := first | omega | (simp only [hS.glob, wraps, plain, Int.ofNat_eq_natCast]; omega)) only [hS.glob, wraps, plain, Int.ofNat_eq_natCast] at h1
  rw [hVV]
  clear hVV hVA VV VA hW W
  have hu2 := inU_stb hi hu ht
  have ei : h i = g i := ht.out i (by omega)
  refine V.to (s' := [(5, .int .i64 (ofN i)), (4, .int .i64 (ofN i)), (3, .sl 0 0 i), (0, .rows 1 n (icol .u64 g))]) (H' := [some ⟨22, 1, .arr i (icol .u64 h)⟩]) ?_ (by (repeat' first | exact trivial | rfl | (refine And.intro ?_ ?_) | (refine sti ?_; (first | rfl | omega | (simp (disch := omega) only [hS.glob, wraps, plain, Int.ofNat_eq_natCast]; first | done | rfl | omega | (simp; done) | (simp; omega)) | (simp (disch := omega) only [hS.glob, wraps, plain, Int.ofNat_eq_natCast, Vx.toN]; omega))) | (refine slq ?_ ?_ ?_ <;> (first | rfl | omega | (simp (disch := omega) only [hS.glob, wraps, plain, Int.ofNat_eq_natCast]; first | done | rfl | omega | (simp; done) | (simp; omega)) | (simp (disch := omega) only [hS.glob, wraps, plain, Int.ofNat_eq_natCast, Vx.toN]; omega))) | (refine ptq ?_ ?_ ?_ <;> (first | rfl | omega | (simp (disch := omega) only [hS.glob, wraps, plain, Int.ofNat_eq_natCast]; first | done | rfl | omega | (simp; done) | (simp; omega)) | (simp (disch := omega) only [hS.glob, wraps, plain, Int.ofNat_eq_natCast, Vx.toN]; omega))) | (refine blq ?_; (first | rfl | omega | (simp (disch := omega) only [hS.glob, wraps, plain, Int.ofNat_eq_natCast]; first | done | rfl | omega | (simp; done) | (simp; omega)) | (simp (disch := omega) only [hS.glob, wraps, plain, Int.ofNat_eq_natCast, Vx.toN]; omega))))) rfl (by (repeat' first | exact trivial | rfl | exact Nat.le_refl _ | exact (fun _ _ => rfl) | (refine And.intro ?_ ?_) | (simp only [hS.glob, plain]; first | done | omega))) (by rw [hC]; simp)
  refine V.loop (γ := Nat) (fun k => k ≤ i ∧ ∀ j, k ≤ j → j < i → rank (g i) < rank (h j)) (fun k => [(5, .int .i64 (ofN k)), (4, .int .i64 (ofN i)), (3, .sl 0 0 i), (0, .rows 1 n (icol .u64 g))]) (fun _ => [some ⟨22, 1, .arr i (icol .u64 h)⟩]) (fun k => k) ?_ i ⟨Nat.le_refl _, fun j j1 j2 => by omega⟩
  rintro k ⟨hk, hgt⟩ hback2
  have fin : (k = 0 ∨ rank (h (k - 1)) ≤ rank (g i)) → Srt rank (rot k i (i + 1) h) 0 (i + 1) ∧ Stb rank 0 (i + 1) g (rot k i (i + 1) h) := by
    intro hc
    rw [← ei] at hc hgt
    obtain ⟨r1, r2⟩ := last_law (key := rank) (g := h) (Nat.zero_le k) hk hs (fun j j1 j2 => by
      rcases hc with rfl | hc
      · omega
      · exact Int.le_trans (hs j (k - 1) j1 (by omega) (by omega)) hc) hgt
    exact ⟨r1, (ht.widen (Nat.le_refl _) (by omega) (by omega)).trans r2⟩
  refine V.goF (by first | exact trivial | assumption) Try.func21 tl_ok mixed hS.ops [] 400 ?_
  intro VV VA W hVV hVA hW
  conv => cbv
  cases h2 : igt (ofN k) 0
  · conv => cbv
    repeat (refine ⟨by first | (rw [hW]; show ordOk _ _ _ = true; kernel_rfl) | (first | trivial | omega | (simp (disch := omega) only [hS.glob, wraps, plain, Int.ofNat_eq_natCast]; first | done | omega | trivial | (simp; done) | (simp; omega) | (constructor <;> omega)) | (simp (disch := omega) only [hS.glob, wraps, plain, Int.ofNat_eq_natCast, Vx.toN]; omega)), ?_⟩)
    simp (disch := first | omega | (simp only [hS.glob, wraps, plain, Int.ofNat_eq_natCast]; omega)) only [hS.glob, wraps, plain, Int.ofNat_eq_natCast] at h2
    have ff := fin (.inl (by omega))
    obtain ⟨tot, htot⟩ : ∃ tot, tot = addN (addN (addN 0 (toN (ofN k))) 1) (subN i (toN (ofN k))) := ⟨_, rfl⟩
    have et : tot = i + 1 := by
      rw [htot]
      simp [hS.glob, Vx.addN, Vx.toN, Vx.ofN, Vx.subN]
      omega
    rw [← htot]
    rw [hVV]
    clear hVV hVA VV VA hW W
    refine V.pick [5] (by decide) (by rw [hC]; exact begins_of (n := 0) (by decide)) rfl rfl ?_
    subst et
    refine V.to (hback (i + 1, rot k i (i + 1) h) ⟨by simp only; omega, ff.1, ff.2⟩ (by simp only; omega)) (by (repeat' first | exact trivial | rfl | (refine And.intro ?_ ?_) | (refine sti ?_; (first | rfl | omega | (simp (disch := omega) only [hS.glob, wraps, plain, Int.ofNat_eq_natCast]; first | done | rfl | omega | (simp; done) | (simp; omega)) | (simp (disch := omega) only [hS.glob, wraps, plain, Int.ofNat_eq_natCast, Vx.toN]; omega))) | (refine slq ?_ ?_ ?_ <;> (first | rfl | omega | (simp (disch := omega) only [hS.glob, wraps, plain, Int.ofNat_eq_natCast]; first | done | rfl | omega | (simp; done) | (simp; omega)) | (simp (disch := omega) only [hS.glob, wraps, plain, Int.ofNat_eq_natCast, Vx.toN]; omega))) | (refine ptq ?_ ?_ ?_ <;> (first | rfl | omega | (simp (disch := omega) only [hS.glob, wraps, plain, Int.ofNat_eq_natCast]; first | done | rfl | omega | (simp; done) | (simp; omega)) | (simp (disch := omega) only [hS.glob, wraps, plain, Int.ofNat_eq_natCast, Vx.toN]; omega))) | (refine blq ?_; (first | rfl | omega | (simp (disch := omega) only [hS.glob, wraps, plain, Int.ofNat_eq_natCast]; first | done | rfl | omega | (simp; done) | (simp; omega)) | (simp (disch := omega) only [hS.glob, wraps, plain, Int.ofNat_eq_natCast, Vx.toN]; omega))))) rfl ?_ (by rw [hC]; simp)
    (repeat' first | exact trivial | rfl | exact Nat.le_refl _ | exact (fun _ _ => rfl) | (refine And.intro ?_ ?_) | (simp only [hS.glob, plain]; first | done | omega))
    intro j hj
    dsimp only at hj ⊢
    have e1 : addN 0 (toN (ofN k)) = k := by simp [hS.glob, Vx.addN, Vx.toN, Vx.ofN]
    have e2 : addN k 1 = k + 1 := by simp [hS.glob, Vx.addN]
    simp only [e1, e2, hS.tidy]
    have l0 : ∀ x, ltB x 0 = false := fun x => by simp [hS.glob, Vx.ltB]
    simp only [l0]
    rcases Nat.lt_trichotomy j k with w | rfl | w
    · have b1 : ltB j (k + 1) = true := by simp [hS.glob, Vx.ltB]; omega
      have b2 : ltB j k = true := by simp [hS.glob, Vx.ltB]; omega
      simp only [b1, b2, icol]
      rw [rot_out _ _ _ _ hk (by omega) (by omega)]
    · have b1 : ltB j (j + 1) = true := by simp [hS.glob, Vx.ltB]
      have b2 : ltB j j = false := by simp [hS.glob, Vx.ltB]
      simp only [b1, b2, icol]
      rw [rot_lo _ _ _ _ (Nat.le_refl _) (by omega)]
      have e3 : j + (i - j) = i := by omega
      rw [e3, ei]
      simp [hS.glob, Vx.subN]
    · have b1 : ltB j (k + 1) = false := by simp [hS.glob, Vx.ltB]; omega
      simp only [b1, icol]
      rw [rot_hi _ _ _ _ (by omega) (by omega)]
      have e3 : addN k (subN j (k + 1)) = j - (i + 1 - i) := by simp [hS.glob, Vx.addN, Vx.subN]; omega
      rw [e3]
  · conv => cbv
    have h6 := h2
    simp (disch := first | omega | (simp only [hS.glob, wraps, plain, Int.ofNat_eq_natCast]; omega)) only [hS.glob, wraps, plain, Int.ofNat_eq_natCast] at h6
    obtain ⟨q, hq⟩ : ∃ q, q = k - 1 := ⟨_, rfl⟩
    have eq1 : isub .i64 (ofN k) 1 = ofN q := by subst hq; (first | rfl | omega | (simp (disch := omega) only [hS.glob, wraps, plain, Int.ofNat_eq_natCast]; first | done | rfl | omega | (simp; done) | (simp; omega)) | (simp (disch := omega) only [hS.glob, wraps, plain, Int.ofNat_eq_natCast, Vx.toN]; omega))
    simp only [eq1]
    repeat (refine ⟨by first | (rw [hW]; show ordOk _ _ _ = true; kernel_rfl) | (first | trivial | omega | (simp (disch := omega) only [hS.glob, wraps, plain, Int.ofNat_eq_natCast]; first | done | omega | trivial | (simp; done) | (simp; omega) | (constructor <;> omega)) | (simp (disch := omega) only [hS.glob, wraps, plain, Int.ofNat_eq_natCast, Vx.toN]; omega)), ?_⟩)
    simp only [hS.tidy]
    obtain ⟨c, hc⟩ : ∃ c, c = cmpI (rank (h q)) (rank (g i)) := ⟨_, rfl⟩
    rw [hVA]
    refine AnyT.call rfl rfl rfl rfl rfl Try.func16 rfl (by decide) [] (by simp) (by simp) (by (first | rfl | ((conv => cbv); (repeat' apply And.intro) <;> first | rfl | trivial | (first | rfl | omega | (simp (disch := omega) only [hS.glob, wraps, plain, Int.ofNat_eq_natCast]; first | done | rfl | omega | (simp; done) | (simp; omega)) | (simp (disch := omega) only [hS.glob, wraps, plain, Int.ofNat_eq_natCast, Vx.toN]; omega))))) rfl (f16_ok (h q) (g i) c (hu2 q (by omega)) (hu i (by omega)) hc) ?_
    rintro r Hc ⟨rfl, rfl⟩
    clear hVV hVA VV VA hW W
    refine AnyT.goF (by first | exact trivial | assumption) Try.func21 tl_ok mixed hS.ops [] 400 ?_
    intro VV VA W hVV hVA hW
    conv => cbv
    have hcn : 0 < c ↔ rank (g i) < rank (h q) := by rw [hc]; exact cmp_pos _ _
    cases h7 : igt c 0
    · conv => cbv
      repeat (refine ⟨by first | (rw [hW]; show ordOk _ _ _ = true; kernel_rfl) | (first | trivial | omega | (simp (disch := omega) only [hS.glob, wraps, plain, Int.ofNat_eq_natCast]; first | done | omega | trivial | (simp; done) | (simp; omega) | (constructor <;> omega)) | (simp (disch := omega) only [hS.glob, wraps, plain, Int.ofNat_eq_natCast, Vx.toN]; omega)), ?_⟩)
      simp (disch := first | omega | (simp only [hS.glob, wraps, plain, Int.ofNat_eq_natCast]; omega)) only [hS.glob, wraps, plain, Int.ofNat_eq_natCast] at h7
      have ff := fin (.inr (by rw [← hq]; omega))
      obtain ⟨tot, htot⟩ : ∃ tot, tot = addN (addN (addN 0 (toN (ofN k))) 1) (subN i (toN (ofN k))) := ⟨_, rfl⟩
      have et : tot = i + 1 := by
        rw [htot]
        simp [hS.glob, Vx.addN, Vx.toN, Vx.ofN, Vx.subN]
        omega
      rw [← htot]
      rw [hVV]
      clear hVV hVA VV VA hW W
      refine V.pick [5] (by decide) (by rw [hC]; exact begins_of (n := 0) (by decide)) rfl rfl ?_
      subst et
      refine V.to (hback (i + 1, rot k i (i + 1) h) ⟨by simp only; omega, ff.1, ff.2⟩ (by simp only; omega)) (by (repeat' first | exact trivial | rfl | (refine And.intro ?_ ?_) | (refine sti ?_; (first | rfl | omega | (simp (disch := omega) only [hS.glob, wraps, plain, Int.ofNat_eq_natCast]; first | done | rfl | omega | (simp; done) | (simp; omega)) | (simp (disch := omega) only [hS.glob, wraps, plain, Int.ofNat_eq_natCast, Vx.toN]; omega))) | (refine slq ?_ ?_ ?_ <;> (first | rfl | omega | (simp (disch := omega) only [hS.glob, wraps, plain, Int.ofNat_eq_natCast]; first | done | rfl | omega | (simp; done) | (simp; omega)) | (simp (disch := omega) only [hS.glob, wraps, plain, Int.ofNat_eq_natCast, Vx.toN]; omega))) | (refine ptq ?_ ?_ ?_ <;> (first | rfl | omega | (simp (disch := omega) only [hS.glob, wraps, plain, Int.ofNat_eq_natCast]; first | done | rfl | omega | (simp; done) | (simp; omega)) | (simp (disch := omega) only [hS.glob, wraps, plain, Int.ofNat_eq_natCast, Vx.toN]; omega))) | (refine blq ?_; (first | rfl | omega | (simp (disch := omega) only [hS.glob, wraps, plain, Int.ofNat_eq_natCast]; first | done | rfl | omega | (simp; done) | (simp; omega)) | (simp (disch := omega) only [hS.glob, wraps, plain, Int.ofNat_eq_natCast, Vx.toN]; omega))))) rfl ?_ (by rw [hC]; simp)
      (repeat' first | exact trivial | rfl | exact Nat.le_refl _ | exact (fun _ _ => rfl) | (refine And.intro ?_ ?_) | (simp only [hS.glob, plain]; first | done | omega))
      intro j hj
      dsimp only at hj ⊢
      have e1 : addN 0 (toN (ofN k)) = k := by simp [hS.glob, Vx.addN, Vx.toN, Vx.ofN]
      have e2 : addN k 1 = k + 1 := by simp [hS.glob, Vx.addN]
      simp only [e1, e2, hS.tidy]
      have l0 : ∀ x, ltB x 0 = false := fun x => by simp [hS.glob, Vx.ltB]
      simp only [l0]
      rcases Nat.lt_trichotomy j k with w | rfl | w
      · have b1 : ltB j (k + 1) = true := by simp [hS.glob, Vx.ltB]; omega
        have b2 : ltB j k = true := by simp [hS.glob, Vx.ltB]; omega
        simp only [b1, b2, icol]
        rw [rot_out _ _ _ _ hk (by omega) (by omega)]
      · have b1 : ltB j (j + 1) = true := by simp [hS.glob, Vx.ltB]
        have b2 : ltB j j = false := by simp [hS.glob, Vx.ltB]
        simp only [b1, b2, icol]
        rw [rot_lo _ _ _ _ (Nat.le_refl _) (by omega)]
        have e3 : j + (i - j) = i := by omega
        rw [e3, ei]
        simp [hS.glob, Vx.subN]
      · have b1 : ltB j (k + 1) = false := by simp [hS.glob, Vx.ltB]; omega
        simp only [b1, icol]
        rw [rot_hi _ _ _ _ (by omega) (by omega)]
        have e3 : addN k (subN j (k + 1)) = j - (i + 1 - i) := by simp [hS.glob, Vx.addN, Vx.subN]; omega
        rw [e3]
    · conv => cbv
      simp (disch := first | omega | (simp only [hS.glob, wraps, plain, Int.ofNat_eq_natCast]; omega)) only [hS.glob, wraps, plain, Int.ofNat_eq_natCast] at h7
      rw [hVV]
      clear hVV hVA VV VA hW W
      refine V.to (hback2 q ⟨by omega, fun j j1 j2 => ?_⟩ (by omega)) (by (repeat' first | exact trivial | rfl | (refine And.intro ?_ ?_) | (refine sti ?_; (first | rfl | omega | (simp (disch := omega) only [hS.glob, wraps, plain, Int.ofNat_eq_natCast]; first | done | rfl | omega | (simp; done) | (simp; omega)) | (simp (disch := omega) only [hS.glob, wraps, plain, Int.ofNat_eq_natCast, Vx.toN]; omega))) | (refine slq ?_ ?_ ?_ <;> (first | rfl | omega | (simp (disch := omega) only [hS.glob, wraps, plain, Int.ofNat_eq_natCast]; first | done | rfl | omega | (simp; done) | (simp; omega)) | (simp (disch := omega) only [hS.glob, wraps, plain, Int.ofNat_eq_natCast, Vx.toN]; omega))) | (refine ptq ?_ ?_ ?_ <;> (first | rfl | omega | (simp (disch := omega) only [hS.glob, wraps, plain, Int.ofNat_eq_natCast]; first | done | rfl | omega | (simp; done) | (simp; omega)) | (simp (disch := omega) only [hS.glob, wraps, plain, Int.ofNat_eq_natCast, Vx.toN]; omega))) | (refine blq ?_; (first | rfl | omega | (simp (disch := omega) only [hS.glob, wraps, plain, Int.ofNat_eq_natCast]; first | done | rfl | omega | (simp; done) | (simp; omega)) | (simp (disch := omega) only [hS.glob, wraps, plain, Int.ofNat_eq_natCast, Vx.toN]; omega))))) rfl (by (repeat' first | exact trivial | rfl | exact Nat.le_refl _ | exact (fun _ _ => rfl) | (refine And.intro ?_ ?_) | (simp only [hS.glob, plain]; first | done | omega))) (by rw [hC]; simp)
      rcases Nat.lt_or_ge j k with w | w
      · obtain rfl : j = q := by omega
        exact hcn.1 h7
      · exact hgt j w j2
theorem f21_ok (n : Nat) (hn : n ≤ 1000000) (g : Nat → Int) (hu : ∀ j, j < n → inU (g j)) (S : Nat → Int) (h1 : Srt rank S 0 n) (h2 : Stb rank 0 n g S) : FSpec Try.prog 21 [.rows 1 n (icol .u64 g)] [] (fun r H' => r = .rows 1 n (icol .u64 S) ∧ H' = []) := by
  refine FSpec.freeze (e := 22) (by decide) ((f21_ok1 n hn g hu).weaken ?_)
  rintro r H' ⟨rfl, h, rfl, q1, q2⟩
  have e : h = S := funext fun i => stb_uniq q2 q1 h2 h1 i
  exact ⟨[some ⟨22, 1, .arr n (icol .u64 S)⟩], ⟨⟨rfl, rfl, ⟨Nat.le_refl _, fun i _ => by rw [e]⟩, rfl⟩, trivial⟩, rfl, by simp, rfl, rfl⟩
theorem f20_fz (n : Nat) (hn : n ≤ 1000000) (g : Nat → Int) (hu : ∀ j, j < n → inU (g j)) (S : Nat → Int) (h1 : Srt rank S 0 n) (h2 : Stb rank 0 n g S) : FSpec Try.prog 20 [.rows 1 n (icol .u64 g)] [] (fun r H' => r = .rows 1 n (icol .u64 S) ∧ H' = []) := by
  refine FSpec.freeze (e := 22) (by decide) ((f20_ok n hn g hu).weaken ?_)
  rintro r H' ⟨rfl, h, rfl, q1, q2⟩
  have e : h = S := funext fun i => stb_uniq q2 q1 h2 h1 i
  exact ⟨[some ⟨22, 1, .arr n (icol .u64 S)⟩], ⟨⟨rfl, rfl, ⟨Nat.le_refl _, fun i _ => by rw [e]⟩, rfl⟩, trivial⟩, rfl, by simp, rfl, rfl⟩
end Go.Proofs.Ytffahckigenfcaa

/- The law ScaleLists. -/
namespace Go.Proofs.Ytffahckigenfcaa
open Go Vx
theorem f7_ok (n : Nat) (hn : n ≤ 20000000000000) (g : Nat → Int) (hu : ∀ j, j < n → inU (g j)) : FSpec Try.prog 7 [.rows 1 n (icol .u64 g)] [] (fun r H' => r = .bool true ∧ H' = []) := by
  refine (show FSpec Try.prog 7 [.rows 1 n (icol .u64 g)] [] (fun r H' => r = .bool true) from ?_).weaken ?_
  case refine_2 =>
    rintro r H' rfl
    exact ⟨[], by cases H' <;> simp [heapCov], rfl, Nat.le_refl _, rfl, rfl⟩
  refine FSpec.of (fn := Try.f7) Try.func7 rfl rfl (by simp) fun C hC => ?_
  obtain ⟨iadd, isub, imul, iquo, irem, iband, ibor, ibxor, ibandn, ishl, ishr, iconv, ieq, ine, ilt, ile, igt, ige, bbeq, bbne, bnot, bband, sseq, ssne, sscat, sssub, sslen, sssz, ssbyte, toN, ofN, addN, subN, eqN, ltB, leN, imx, imn, inb, leb, sslt, ltN, fit, ne0, ge0, ssfit, minN, inR, bcol, bstr, isBy, hS⟩ := names
  refine V.goF (by first | exact trivial | assumption) Try.func7 tl_ok mixed hS.ops [] 400 ?_
  intro VV VA W hVV hVA hW
  conv => cbv
  cases h1 : igt (ofN n) 60
  case true =>
    conv => cbv
    rw [hVV]
    clear hVV hVA VV VA hW W
    refine V.call rfl rfl rfl rfl rfl Try.func12 rfl (by decide) [] (by simp) (by simp) (by (first | rfl | ((conv => cbv); (repeat' apply And.intro) <;> first | rfl | trivial | (first | rfl | omega | (simp (disch := omega) only [hS.glob, wraps, plain, Int.ofNat_eq_natCast]; first | done | rfl | omega | (simp; done) | (simp; omega)) | (simp (disch := omega) only [hS.glob, wraps, plain, Int.ofNat_eq_natCast, Vx.toN]; omega))))) rfl f12_ok ?_
    rintro r Hc ⟨rfl, rfl⟩
    refine V.goF (by first | exact trivial | assumption) Try.func7 tl_ok mixed hS.ops [] 400 ?_
    intro VV VA W hVV hVA hW
    conv => cbv
    trivial
  conv => cbv
  simp (disch := first | omega | (simp only [hS.glob, wraps, plain, Int.ofNat_eq_natCast]; omega)) only [hS.glob, wraps, plain, Int.ofNat_eq_natCast] at h1
  have hn2 : n ≤ 1000000 := by omega
  obtain ⟨S, E, hSE⟩ := sum_ex g n
  obtain ⟨T, hT1, hT2⟩ := srt_ex rank g n
  repeat (refine ⟨by first | (rw [hW]; show ordOk _ _ _ = true; kernel_rfl) | (first | trivial | omega | (simp (disch := omega) only [hS.glob, wraps, plain, Int.ofNat_eq_natCast]; first | done | omega | trivial | (simp; done) | (simp; omega) | (constructor <;> omega)) | (simp (disch := omega) only [hS.glob, wraps, plain, Int.ofNat_eq_natCast, Vx.toN]; omega)), ?_⟩)
  rw [hVV]
  clear hVV hVA VV VA hW W
  have en : addN 0 n = n := by simp [hS.glob, Vx.addN]
  rw [en]
  refine V.to (s' := [(16, .rows 1 n (icol .u64 g)), (3, .sl 1 0 n), (0, .rows 1 n (icol .u64 g))]) (H' := [none, some ⟨22, 1, .arr n (icol .u64 g)⟩]) ?_ (by (repeat' first | exact trivial | rfl | (refine And.intro ?_ ?_) | (refine sti ?_; (first | rfl | omega | (simp (disch := omega) only [hS.glob, wraps, plain, Int.ofNat_eq_natCast]; first | done | rfl | omega | (simp; done) | (simp; omega)) | (simp (disch := omega) only [hS.glob, wraps, plain, Int.ofNat_eq_natCast, Vx.toN]; omega))) | (refine slq ?_ ?_ ?_ <;> (first | rfl | omega | (simp (disch := omega) only [hS.glob, wraps, plain, Int.ofNat_eq_natCast]; first | done | rfl | omega | (simp; done) | (simp; omega)) | (simp (disch := omega) only [hS.glob, wraps, plain, Int.ofNat_eq_natCast, Vx.toN]; omega))) | (refine ptq ?_ ?_ ?_ <;> (first | rfl | omega | (simp (disch := omega) only [hS.glob, wraps, plain, Int.ofNat_eq_natCast]; first | done | rfl | omega | (simp; done) | (simp; omega)) | (simp (disch := omega) only [hS.glob, wraps, plain, Int.ofNat_eq_natCast, Vx.toN]; omega))) | (refine blq ?_; (first | rfl | omega | (simp (disch := omega) only [hS.glob, wraps, plain, Int.ofNat_eq_natCast]; first | done | rfl | omega | (simp; done) | (simp; omega)) | (simp (disch := omega) only [hS.glob, wraps, plain, Int.ofNat_eq_natCast, Vx.toN]; omega))))) rfl ?_ (by rw [hC]; simp)
  case refine_2 =>
    (repeat' first | exact trivial | rfl | exact Nat.le_refl _ | exact (fun _ _ => rfl) | (refine And.intro ?_ ?_) | (simp only [hS.glob, plain]; first | done | omega))
    intro j hj
    have l0 : ltB j 0 = false := by simp [hS.glob, Vx.ltB]
    have s0 : subN j 0 = j := by simp [hS.glob, Vx.subN]
    simp only [l0, s0]
  refine V.freeze0 3 1 n (by rfl) (by rfl) (by rfl) (by first | decide | omega | exact (Nat.succ_pos _)) (by rfl) (by rfl) (by first | exact Nat.le_refl _ | decide | omega | (simp only [Cont.n]; omega)) ?_
  refine V.to (s' := [(16, .rows 1 n (icol .u64 g)), (3, .rows 1 n (icol .u64 g)), (0, .rows 1 n (icol .u64 g))]) (H' := []) ?_ (by (repeat' first | exact trivial | rfl | (refine And.intro ?_ ?_) | (refine sti ?_; (first | rfl | omega | (simp (disch := omega) only [hS.glob, wraps, plain, Int.ofNat_eq_natCast]; first | done | rfl | omega | (simp; done) | (simp; omega)) | (simp (disch := omega) only [hS.glob, wraps, plain, Int.ofNat_eq_natCast, Vx.toN]; omega))) | (refine slq ?_ ?_ ?_ <;> (first | rfl | omega | (simp (disch := omega) only [hS.glob, wraps, plain, Int.ofNat_eq_natCast]; first | done | rfl | omega | (simp; done) | (simp; omega)) | (simp (disch := omega) only [hS.glob, wraps, plain, Int.ofNat_eq_natCast, Vx.toN]; omega))) | (refine ptq ?_ ?_ ?_ <;> (first | rfl | omega | (simp (disch := omega) only [hS.glob, wraps, plain, Int.ofNat_eq_natCast]; first | done | rfl | omega | (simp; done) | (simp; omega)) | (simp (disch := omega) only [hS.glob, wraps, plain, Int.ofNat_eq_natCast, Vx.toN]; omega))) | (refine blq ?_; (first | rfl | omega | (simp (disch := omega) only [hS.glob, wraps, plain, Int.ofNat_eq_natCast]; first | done | rfl | omega | (simp; done) | (simp; omega)) | (simp (disch := omega) only [hS.glob, wraps, plain, Int.ofNat_eq_natCast, Vx.toN]; omega))))) rfl (by (repeat' first | exact trivial | rfl | exact Nat.le_refl _ | exact (fun _ _ => rfl) | (refine And.intro ?_ ?_) | (simp only [hS.glob, plain]; first | done | omega))) (by rw [hC]; simp)
  refine V.call rfl rfl rfl rfl rfl Try.func17 rfl (by decide) [] (by simp) (by simp) (by (first | rfl | ((conv => cbv); (repeat' apply And.intro) <;> first | rfl | trivial | (first | rfl | omega | (simp (disch := omega) only [hS.glob, wraps, plain, Int.ofNat_eq_natCast]; first | done | rfl | omega | (simp; done) | (simp; omega)) | (simp (disch := omega) only [hS.glob, wraps, plain, Int.ofNat_eq_natCast, Vx.toN]; omega))))) rfl (f17_ok n hn2 g hu S E hSE) ?_
  rintro r Hc ⟨rfl, rfl⟩
  refine V.goF (by first | exact trivial | assumption) Try.func7 tl_ok mixed hS.ops [] 400 ?_
  intro VV VA W hVV hVA hW
  conv => cbv
  rw [hVV]
  clear hVV hVA VV VA hW W
  refine V.call rfl rfl rfl rfl rfl Try.func18 rfl (by decide) [] (by simp) (by simp) (by (first | rfl | ((conv => cbv); (repeat' apply And.intro) <;> first | rfl | trivial | (first | rfl | omega | (simp (disch := omega) only [hS.glob, wraps, plain, Int.ofNat_eq_natCast]; first | done | rfl | omega | (simp; done) | (simp; omega)) | (simp (disch := omega) only [hS.glob, wraps, plain, Int.ofNat_eq_natCast, Vx.toN]; omega))))) rfl (f18_ok n hn2 g hu S E hSE) ?_
  rintro r Hc ⟨rfl, rfl⟩
  refine V.goF (by first | exact trivial | assumption) Try.func7 tl_ok mixed hS.ops [] 400 ?_
  intro VV VA W hVV hVA hW
  conv => cbv
  rw [hVV]
  clear hVV hVA VV VA hW W
  refine V.call rfl rfl rfl rfl rfl Try.func12 rfl (by decide) [] (by simp) (by simp) (by (first | rfl | ((conv => cbv); (repeat' apply And.intro) <;> first | rfl | trivial | (first | rfl | omega | (simp (disch := omega) only [hS.glob, wraps, plain, Int.ofNat_eq_natCast]; first | done | rfl | omega | (simp; done) | (simp; omega)) | (simp (disch := omega) only [hS.glob, wraps, plain, Int.ofNat_eq_natCast, Vx.toN]; omega))))) rfl f12_ok ?_
  rintro r Hc ⟨rfl, rfl⟩
  refine V.goF (by first | exact trivial | assumption) Try.func7 tl_ok mixed hS.ops [] 400 ?_
  intro VV VA W hVV hVA hW
  conv => cbv
  cases h2 : ieq S S
  case false =>
    simp (disch := first | omega | (simp only [hS.glob, wraps, plain, Int.ofNat_eq_natCast]; omega)) only [hS.glob, wraps, plain, Int.ofNat_eq_natCast] at h2
    exact absurd rfl h2
  conv => cbv
  cases h3 : ieq E E
  case false =>
    simp (disch := first | omega | (simp only [hS.glob, wraps, plain, Int.ofNat_eq_natCast]; omega)) only [hS.glob, wraps, plain, Int.ofNat_eq_natCast] at h3
    exact absurd rfl h3
  conv => cbv
  rw [hVV]
  clear hVV hVA VV VA hW W
  refine V.call rfl rfl rfl rfl rfl Try.func20 rfl (by decide) [] (by simp) (by simp) (by (first | rfl | ((conv => cbv); (repeat' apply And.intro) <;> first | rfl | trivial | (first | rfl | omega | (simp (disch := omega) only [hS.glob, wraps, plain, Int.ofNat_eq_natCast]; first | done | rfl | omega | (simp; done) | (simp; omega)) | (simp (disch := omega) only [hS.glob, wraps, plain, Int.ofNat_eq_natCast, Vx.toN]; omega))))) rfl (f20_fz n hn2 g hu T hT1 hT2) ?_
  rintro r Hc ⟨rfl, rfl⟩
  refine V.goF (by first | exact trivial | assumption) Try.func7 tl_ok mixed hS.ops [] 400 ?_
  intro VV VA W hVV hVA hW
  conv => cbv
  rw [hVV]
  clear hVV hVA VV VA hW W
  refine V.call rfl rfl rfl rfl rfl Try.func21 rfl (by decide) [] (by simp) (by simp) (by (first | rfl | ((conv => cbv); (repeat' apply And.intro) <;> first | rfl | trivial | (first | rfl | omega | (simp (disch := omega) only [hS.glob, wraps, plain, Int.ofNat_eq_natCast]; first | done | rfl | omega | (simp; done) | (simp; omega)) | (simp (disch := omega) only [hS.glob, wraps, plain, Int.ofNat_eq_natCast, Vx.toN]; omega))))) rfl (f21_ok n hn2 g hu T hT1 hT2) ?_
  rintro r Hc ⟨rfl, rfl⟩
  refine V.goF (by first | exact trivial | assumption) Try.func7 tl_ok mixed hS.ops [] 400 ?_
  intro VV VA W hVV hVA hW
  conv => cbv
  rw [hVV]
  clear hVV hVA VV VA hW W
  refine V.call rfl rfl rfl rfl rfl Try.func19 rfl (by decide) [] (by simp) (by simp) (by (first | rfl | ((conv => cbv); (repeat' apply And.intro) <;> first | rfl | trivial | (first | rfl | omega | (simp (disch := omega) only [hS.glob, wraps, plain, Int.ofNat_eq_natCast]; first | done | rfl | omega | (simp; done) | (simp; omega)) | (simp (disch := omega) only [hS.glob, wraps, plain, Int.ofNat_eq_natCast, Vx.toN]; omega))))) rfl (f19_ok n hn2 T T (fun _ _ => rfl) n rfl) ?_
  rintro r Hc ⟨rfl, rfl⟩
  refine V.goF (by first | exact trivial | assumption) Try.func7 tl_ok mixed hS.ops [] 400 ?_
  intro VV VA W hVV hVA hW
  conv => cbv
  rw [hVV]
  clear hVV hVA VV VA hW W
  refine V.call rfl rfl rfl rfl rfl Try.func19 rfl (by decide) [] (by simp) (by simp) (by (first | rfl | ((conv => cbv); (repeat' apply And.intro) <;> first | rfl | trivial | (first | rfl | omega | (simp (disch := omega) only [hS.glob, wraps, plain, Int.ofNat_eq_natCast]; first | done | rfl | omega | (simp; done) | (simp; omega)) | (simp (disch := omega) only [hS.glob, wraps, plain, Int.ofNat_eq_natCast, Vx.toN]; omega))))) rfl (f19_ok n hn2 g g (fun _ _ => rfl) n rfl) ?_
  rintro r Hc ⟨rfl, rfl⟩
  refine V.goF (by first | exact trivial | assumption) Try.func7 tl_ok mixed hS.ops [] 400 ?_
  intro VV VA W hVV hVA hW
  conv => cbv
  trivial
end Go.Proofs.Ytffahckigenfcaa
