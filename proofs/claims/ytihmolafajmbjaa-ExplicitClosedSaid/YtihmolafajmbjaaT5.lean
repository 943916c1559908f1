/- Contracts of functions by an evaluator of the model: its part T5. -/
import Derived.Test.YtihmolafajmbjaaT2
import Derived.Test.YtihmolafajmbjaaT1
import Derived.Test.YtihmolafajmbjaaT3
set_option linter.all false
/- What the law of closed isolates makes of its lists. -/
namespace Go.Proofs.Ytihmolafajmbjaa
open Go Vx

theorem f19_ok (ln : Nat) (l : Nat → Int) (n : Nat) (hn : n = min ln 20) : FSpec Try.prog 19 [.rows 1 ln (icol .i64 l)] [] (fun r H' => r = .rows 1 n (icol .i64 l) ∧ H' = []) := by
  refine FSpec.of (fn := Try.f19) Try.func19 rfl rfl (by simp) fun C hC => ?_
  obtain ⟨iadd, isub, imul, iquo, irem, iband, ibor, ibxor, ibandn, ishl, ishr, iconv, ieq, ine, ilt, ile, igt, ige, bbeq, bbne, bnot, bband, sseq, ssne, sscat, sssub, sslen, sssz, ssbyte, toN, ofN, addN, subN, eqN, ltB, leN, imx, imn, inb, leb, sslt, ltN, fit, ne0, ge0, ssfit, minN, inR, hS⟩ := names
  refine V.rowsLen 0 (sz := 1) (n := ln) rfl fun hl => ?_
  simp (disch := first | omega | (simp only [hS.glob, wraps, plain, Int.ofNat_eq_natCast]; omega)) only [hS.glob, wraps, plain, Int.ofNat_eq_natCast] at hl
  refine V.go Try.func19 tl_ok mixed hS.ops [] 400 ?_
  intro VV VA W hVV hVA hW
  conv => cbv
  have e : imn (ofN ln) 20 = ofN n := by simp only [hS.glob, Vx.imn, Vx.ofN]; omega
  rw [e]
  repeat (refine ⟨by first | (rw [hW]; show ordOk _ _ _ = true; kernel_rfl) | (first | trivial | omega | (simp (disch := omega) only [hS.glob, wraps, plain, Int.ofNat_eq_natCast]; first | done | omega | trivial | (simp; done) | (simp; omega) | (constructor <;> omega)) | (simp (disch := omega) only [hS.glob, wraps, plain, Int.ofNat_eq_natCast, Vx.toN]; omega)), ?_⟩)
  simp only [hS.tidy, and_self]

def whStep (c : Int) (s : List Int × Nat) : List Int × Nat := if c = 10 ∨ (c = 22 ∧ s.2 = 0) then s else (s.1 ++ [c], if c = 22 then s.2 - 1 else if begC c then s.2 + 1 else s.2)
def whRun (l : Nat → Int) : Nat → List Int × Nat
  | 0 => ([], 0)
  | k + 1 => whStep (l k) (whRun l k)
/-- A list whose isolates are all ended, and that ends none but its own. -/
def wholeL (ln : Nat) (l : Nat → Int) : List Int := (whRun l (min ln 20)).1 ++ List.replicate (whRun l (min ln 20)).2 22
theorem whRun_le (l : Nat → Int) : ∀ k, (whRun l k).1.length ≤ k ∧ (whRun l k).2 ≤ k
  | 0 => by simp [whRun]
  | k + 1 => by
    have ih := whRun_le l k
    simp only [whRun, whStep]
    split
    · omega
    · refine ⟨by simp; omega, ?_⟩
      simp only
      split
      · omega
      · split <;> omega

theorem f18_ok1 (ln : Nat) (l : Nat → Int) (hl : ln ≤ 1000000) : FSpec Try.prog 18 [.rows 1 ln (icol .i64 l)] [] (fun r H' => ∃ (n : Nat) (A : Nat → Int), r = .sl 0 0 n ∧ H' = [some ⟨34, 1, .arr n (icol .i64 A)⟩] ∧ tab n A = wholeL ln l) := by
  obtain ⟨WL, hW0⟩ : ∃ WL, WL = wholeL ln l := ⟨_, rfl⟩
  rw [← hW0]
  obtain ⟨Q, hQ⟩ : ∃ Q : AV → Hp → Prop, Q = (fun r H' => ∃ (n : Nat) (A : Nat → Int), r = .sl 0 0 n ∧ H' = [some ⟨34, 1, .arr n (icol .i64 A)⟩] ∧ tab n A = WL) := ⟨_, rfl⟩
  rw [← hQ]
  obtain ⟨m, hm⟩ : ∃ m, m = min ln 20 := ⟨_, rfl⟩
  unfold wholeL at hW0
  rw [← hm] at hW0
  have hle := whRun_le l
  have hst : ∀ k, whRun l (k + 1) = whStep (l k) (whRun l k) := fun _ => rfl
  have hs0 : whRun l 0 = ([], 0) := rfl
  generalize whRun l = R at hW0 hle hst hs0
  refine FSpec.of (fn := Try.f18) Try.func18 rfl rfl (by simp) fun C hC => ?_
  obtain ⟨iadd, isub, imul, iquo, irem, iband, ibor, ibxor, ibandn, ishl, ishr, iconv, ieq, ine, ilt, ile, igt, ige, bbeq, bbne, bnot, bband, sseq, ssne, sscat, sssub, sslen, sssz, ssbyte, toN, ofN, addN, subN, eqN, ltB, leN, imx, imn, inb, leb, sslt, ltN, fit, ne0, ge0, ssfit, minN, inR, hS⟩ := names
  refine V.go Try.func18 tl_ok mixed hS.ops [] 400 ?_
  intro VV VA W hVV hVA hW
  conv => cbv
  rw [hVV]
  clear hVV hVA VV VA hW W
  refine V.phantom 3 34 1 (icol .i64 (fun _ => 0)) rfl ?_
  refine V.to (s' := [(5, .int .i64 (ofN 0)), (4, .int .i64 (ofN 0)), (3, .sl 0 0 0), (0, .rows 1 ln (icol .i64 l))]) (H' := [some ⟨34, 1, .arr 0 (icol .i64 (fun _ => 0))⟩]) ?_ (by (repeat' first | exact trivial | rfl | (refine And.intro ?_ ?_) | (refine sti ?_; (first | rfl | omega | (simp (disch := omega) only [hS.glob, wraps, plain, Int.ofNat_eq_natCast]; first | done | rfl | omega | (simp; done) | (simp; omega)) | (simp (disch := omega) only [hS.glob, wraps, plain, Int.ofNat_eq_natCast, Vx.toN]; omega))) | (refine slq ?_ ?_ ?_ <;> (first | rfl | omega | (simp (disch := omega) only [hS.glob, wraps, plain, Int.ofNat_eq_natCast]; first | done | rfl | omega | (simp; done) | (simp; omega)) | (simp (disch := omega) only [hS.glob, wraps, plain, Int.ofNat_eq_natCast, Vx.toN]; omega))) | (refine ptq ?_ ?_ ?_ <;> (first | rfl | omega | (simp (disch := omega) only [hS.glob, wraps, plain, Int.ofNat_eq_natCast]; first | done | rfl | omega | (simp; done) | (simp; omega)) | (simp (disch := omega) only [hS.glob, wraps, plain, Int.ofNat_eq_natCast, Vx.toN]; omega))) | (refine blq ?_; (first | rfl | omega | (simp (disch := omega) only [hS.glob, wraps, plain, Int.ofNat_eq_natCast]; first | done | rfl | omega | (simp; done) | (simp; omega)) | (simp (disch := omega) only [hS.glob, wraps, plain, Int.ofNat_eq_natCast, Vx.toN]; omega))))) rfl (by (repeat' first | exact trivial | rfl | exact Nat.le_refl _ | exact (fun _ _ => rfl) | (refine And.intro ?_ ?_) | (simp only [hS.glob, plain]; first | done | omega))) (by rw [hC]; simp)
  refine V.loop (γ := Nat × Nat × Nat × (Nat → Int)) (fun p => p.1 ≤ m ∧ p.2.1 = (R p.1).2 ∧ tab p.2.2.1 p.2.2.2 = (R p.1).1) (fun p => [(5, .int .i64 (ofN p.1)), (4, .int .i64 (ofN p.2.1)), (3, .sl 0 0 p.2.2.1), (0, .rows 1 ln (icol .i64 l))]) (fun p => [some ⟨34, 1, .arr p.2.2.1 (icol .i64 p.2.2.2)⟩]) (fun p => m - p.1) ?_ (0, 0, 0, fun _ => 0) ⟨Nat.zero_le _, by rw [hs0], by rw [hs0]; rfl⟩
  rintro ⟨i, op, q, A⟩ ⟨hi, ho, hA⟩ hback
  dsimp only at hi ho hA ⊢
  have hq := (hle i).1
  rw [← hA, tab_len] at hq
  have hop := (hle i).2
  rw [← ho] at hop
  refine V.go Try.func18 tl_ok mixed hS.ops [] 400 ?_
  intro VV VA W hVV hVA hW
  conv => cbv
  cases h1 : ilt (ofN i) (ofN ln)
  · conv => cbv
    simp (disch := first | omega | (simp only [hS.glob, wraps, plain, Int.ofNat_eq_natCast]; omega)) only [hS.glob, wraps, plain, Int.ofNat_eq_natCast] at h1
    rw [hVV]
    clear hVV hVA VV VA hW W hback
    obtain rfl : i = m := by omega
    have hb2 : q + op ≤ 100 := by omega
    clear hm
    have hW1 : tab q A ++ List.replicate op 22 = WL := by rw [hW0, hA, ho]
    clear hA ho hq hop hi hle hst hs0 hW0 h1
    refine V.to (s' := [(4, .int .i64 (ofN op)), (3, .sl 0 0 q)]) (H' := [some ⟨34, 1, .arr q (icol .i64 A)⟩]) ?_ (by (repeat' first | exact trivial | rfl | (refine And.intro ?_ ?_) | (refine sti ?_; (first | rfl | omega | (simp (disch := omega) only [hS.glob, wraps, plain, Int.ofNat_eq_natCast]; first | done | rfl | omega | (simp; done) | (simp; omega)) | (simp (disch := omega) only [hS.glob, wraps, plain, Int.ofNat_eq_natCast, Vx.toN]; omega))) | (refine slq ?_ ?_ ?_ <;> (first | rfl | omega | (simp (disch := omega) only [hS.glob, wraps, plain, Int.ofNat_eq_natCast]; first | done | rfl | omega | (simp; done) | (simp; omega)) | (simp (disch := omega) only [hS.glob, wraps, plain, Int.ofNat_eq_natCast, Vx.toN]; omega))) | (refine ptq ?_ ?_ ?_ <;> (first | rfl | omega | (simp (disch := omega) only [hS.glob, wraps, plain, Int.ofNat_eq_natCast]; first | done | rfl | omega | (simp; done) | (simp; omega)) | (simp (disch := omega) only [hS.glob, wraps, plain, Int.ofNat_eq_natCast, Vx.toN]; omega))) | (refine blq ?_; (first | rfl | omega | (simp (disch := omega) only [hS.glob, wraps, plain, Int.ofNat_eq_natCast]; first | done | rfl | omega | (simp; done) | (simp; omega)) | (simp (disch := omega) only [hS.glob, wraps, plain, Int.ofNat_eq_natCast, Vx.toN]; omega))))) rfl (by (repeat' first | exact trivial | rfl | exact Nat.le_refl _ | exact (fun _ _ => rfl) | (refine And.intro ?_ ?_) | (simp only [hS.glob, plain]; first | done | omega))) (by rw [hC]; simp)
    refine V.loop (γ := Nat × Nat × (Nat → Int)) (fun p => tab p.2.1 p.2.2 ++ List.replicate p.1 22 = WL ∧ p.2.1 + p.1 ≤ 100) (fun p => [(4, .int .i64 (ofN p.1)), (3, .sl 0 0 p.2.1)]) (fun p => [some ⟨34, 1, .arr p.2.1 (icol .i64 p.2.2)⟩]) (fun p => p.1) ?_ (op, q, A) ⟨hW1, hb2⟩
    clear hW1 hb2
    rintro ⟨op, q, A⟩ ⟨hW1, hb2⟩ hback
    dsimp only at hW1 hb2 ⊢
    refine V.go Try.func18 tl_ok mixed hS.ops [] 400 ?_
    intro VV VA W hVV hVA hW
    conv => cbv
    cases h4 : igt (ofN op) 0
    · conv => cbv
      simp (disch := first | omega | (simp only [hS.glob, wraps, plain, Int.ofNat_eq_natCast]; omega)) only [hS.glob, wraps, plain, Int.ofNat_eq_natCast] at h4
      obtain rfl : op = 0 := by omega
      rw [hQ]
      exact ⟨q, A, rfl, rfl, by simpa using hW1⟩
    · conv => cbv
      simp (disch := first | omega | (simp only [hS.glob, wraps, plain, Int.ofNat_eq_natCast]; omega)) only [hS.glob, wraps, plain, Int.ofNat_eq_natCast] at h4
      repeat (refine ⟨by first | (rw [hW]; show ordOk _ _ _ = true; kernel_rfl) | (first | trivial | omega | (simp (disch := omega) only [hS.glob, wraps, plain, Int.ofNat_eq_natCast]; first | done | omega | trivial | (simp; done) | (simp; omega) | (constructor <;> omega)) | (simp (disch := omega) only [hS.glob, wraps, plain, Int.ofNat_eq_natCast, Vx.toN]; omega)), ?_⟩)
      rw [hVV]
      clear hVV hVA VV VA hW W
      obtain ⟨A', x1, x2⟩ := snocF A q 22
      refine V.pick [2] (by decide) (by rw [hC]; exact begins_of rfl) (by rfl) (by rfl) ?_
      refine V.to (hback (op - 1, q + 1, A') ⟨?_, by simp only; omega⟩ (by simp only; omega)) (by (repeat' first | exact trivial | rfl | (refine And.intro ?_ ?_) | (refine sti ?_; (first | rfl | omega | (simp (disch := omega) only [hS.glob, wraps, plain, Int.ofNat_eq_natCast]; first | done | rfl | omega | (simp; done) | (simp; omega)) | (simp (disch := omega) only [hS.glob, wraps, plain, Int.ofNat_eq_natCast, Vx.toN]; omega))) | (refine slq ?_ ?_ ?_ <;> (first | rfl | omega | (simp (disch := omega) only [hS.glob, wraps, plain, Int.ofNat_eq_natCast]; first | done | rfl | omega | (simp; done) | (simp; omega)) | (simp (disch := omega) only [hS.glob, wraps, plain, Int.ofNat_eq_natCast, Vx.toN]; omega))) | (refine ptq ?_ ?_ ?_ <;> (first | rfl | omega | (simp (disch := omega) only [hS.glob, wraps, plain, Int.ofNat_eq_natCast]; first | done | rfl | omega | (simp; done) | (simp; omega)) | (simp (disch := omega) only [hS.glob, wraps, plain, Int.ofNat_eq_natCast, Vx.toN]; omega))) | (refine blq ?_; (first | rfl | omega | (simp (disch := omega) only [hS.glob, wraps, plain, Int.ofNat_eq_natCast]; first | done | rfl | omega | (simp; done) | (simp; omega)) | (simp (disch := omega) only [hS.glob, wraps, plain, Int.ofNat_eq_natCast, Vx.toN]; omega))))) rfl ⟨⟨rfl, rfl, ⟨by show q + 1 ≤ addN q 1; (first | trivial | omega | (simp (disch := omega) only [hS.glob, wraps, plain, Int.ofNat_eq_natCast]; first | done | omega | trivial | (simp; done) | (simp; omega) | (constructor <;> omega)) | (simp (disch := omega) only [hS.glob, wraps, plain, Int.ofNat_eq_natCast, Vx.toN]; omega)), fun j hj => leaf (addN := Vx.addN) (by simp [hS.glob]) (by simp [hS.glob]) _ A A' q x1 x2 j hj⟩, rfl⟩, trivial⟩ (by rw [hC]; exact Nat.zero_le _)
      show tab (q + 1) A' ++ List.replicate (op - 1) 22 = WL
      rw [tab_snoc rfl x1 x2, ← hW1, List.append_assoc]
      congr 1
      obtain ⟨d, rfl⟩ : ∃ d, op = d + 1 := ⟨op - 1, by omega⟩
      rfl
  · conv => cbv
    simp (disch := first | omega | (simp only [hS.glob, wraps, plain, Int.ofNat_eq_natCast]; omega)) only [hS.glob, wraps, plain, Int.ofNat_eq_natCast] at h1
    cases h2 : ilt (ofN i) 20
    · conv => cbv
      simp (disch := first | omega | (simp only [hS.glob, wraps, plain, Int.ofNat_eq_natCast]; omega)) only [hS.glob, wraps, plain, Int.ofNat_eq_natCast] at h2
      rw [hVV]
      clear hVV hVA VV VA hW W hback
      obtain rfl : i = m := by omega
      have hb2 : q + op ≤ 100 := by omega
      clear hm
      have hW1 : tab q A ++ List.replicate op 22 = WL := by rw [hW0, hA, ho]
      clear hA ho hq hop hi hle hst hs0 hW0 h1 h2
      refine V.to (s' := [(4, .int .i64 (ofN op)), (3, .sl 0 0 q)]) (H' := [some ⟨34, 1, .arr q (icol .i64 A)⟩]) ?_ (by (repeat' first | exact trivial | rfl | (refine And.intro ?_ ?_) | (refine sti ?_; (first | rfl | omega | (simp (disch := omega) only [hS.glob, wraps, plain, Int.ofNat_eq_natCast]; first | done | rfl | omega | (simp; done) | (simp; omega)) | (simp (disch := omega) only [hS.glob, wraps, plain, Int.ofNat_eq_natCast, Vx.toN]; omega))) | (refine slq ?_ ?_ ?_ <;> (first | rfl | omega | (simp (disch := omega) only [hS.glob, wraps, plain, Int.ofNat_eq_natCast]; first | done | rfl | omega | (simp; done) | (simp; omega)) | (simp (disch := omega) only [hS.glob, wraps, plain, Int.ofNat_eq_natCast, Vx.toN]; omega))) | (refine ptq ?_ ?_ ?_ <;> (first | rfl | omega | (simp (disch := omega) only [hS.glob, wraps, plain, Int.ofNat_eq_natCast]; first | done | rfl | omega | (simp; done) | (simp; omega)) | (simp (disch := omega) only [hS.glob, wraps, plain, Int.ofNat_eq_natCast, Vx.toN]; omega))) | (refine blq ?_; (first | rfl | omega | (simp (disch := omega) only [hS.glob, wraps, plain, Int.ofNat_eq_natCast]; first | done | rfl | omega | (simp; done) | (simp; omega)) | (simp (disch := omega) only [hS.glob, wraps, plain, Int.ofNat_eq_natCast, Vx.toN]; omega))))) rfl (by (repeat' first | exact trivial | rfl | exact Nat.le_refl _ | exact (fun _ _ => rfl) | (refine And.intro ?_ ?_) | (simp only [hS.glob, plain]; first | done | omega))) (by rw [hC]; simp)
      refine V.loop (γ := Nat × Nat × (Nat → Int)) (fun p => tab p.2.1 p.2.2 ++ List.replicate p.1 22 = WL ∧ p.2.1 + p.1 ≤ 100) (fun p => [(4, .int .i64 (ofN p.1)), (3, .sl 0 0 p.2.1)]) (fun p => [some ⟨34, 1, .arr p.2.1 (icol .i64 p.2.2)⟩]) (fun p => p.1) ?_ (op, q, A) ⟨hW1, hb2⟩
      clear hW1 hb2
      rintro ⟨op, q, A⟩ ⟨hW1, hb2⟩ hback
      dsimp only at hW1 hb2 ⊢
      refine V.go Try.func18 tl_ok mixed hS.ops [] 400 ?_
      intro VV VA W hVV hVA hW
      conv => cbv
      cases h4 : igt (ofN op) 0
      · conv => cbv
        simp (disch := first | omega | (simp only [hS.glob, wraps, plain, Int.ofNat_eq_natCast]; omega)) only [hS.glob, wraps, plain, Int.ofNat_eq_natCast] at h4
        obtain rfl : op = 0 := by omega
        rw [hQ]
        exact ⟨q, A, rfl, rfl, by simpa using hW1⟩
      · conv => cbv
        simp (disch := first | omega | (simp only [hS.glob, wraps, plain, Int.ofNat_eq_natCast]; omega)) only [hS.glob, wraps, plain, Int.ofNat_eq_natCast] at h4
        repeat (refine ⟨by first | (rw [hW]; show ordOk _ _ _ = true; kernel_rfl) | (first | trivial | omega | (simp (disch := omega) only [hS.glob, wraps, plain, Int.ofNat_eq_natCast]; first | done | omega | trivial | (simp; done) | (simp; omega) | (constructor <;> omega)) | (simp (disch := omega) only [hS.glob, wraps, plain, Int.ofNat_eq_natCast, Vx.toN]; omega)), ?_⟩)
        rw [hVV]
        clear hVV hVA VV VA hW W
        obtain ⟨A', x1, x2⟩ := snocF A q 22
        refine V.pick [2] (by decide) (by rw [hC]; exact begins_of rfl) (by rfl) (by rfl) ?_
        refine V.to (hback (op - 1, q + 1, A') ⟨?_, by simp only; omega⟩ (by simp only; omega)) (by (repeat' first | exact trivial | rfl | (refine And.intro ?_ ?_) | (refine sti ?_; (first | rfl | omega | (simp (disch := omega) only [hS.glob, wraps, plain, Int.ofNat_eq_natCast]; first | done | rfl | omega | (simp; done) | (simp; omega)) | (simp (disch := omega) only [hS.glob, wraps, plain, Int.ofNat_eq_natCast, Vx.toN]; omega))) | (refine slq ?_ ?_ ?_ <;> (first | rfl | omega | (simp (disch := omega) only [hS.glob, wraps, plain, Int.ofNat_eq_natCast]; first | done | rfl | omega | (simp; done) | (simp; omega)) | (simp (disch := omega) only [hS.glob, wraps, plain, Int.ofNat_eq_natCast, Vx.toN]; omega))) | (refine ptq ?_ ?_ ?_ <;> (first | rfl | omega | (simp (disch := omega) only [hS.glob, wraps, plain, Int.ofNat_eq_natCast]; first | done | rfl | omega | (simp; done) | (simp; omega)) | (simp (disch := omega) only [hS.glob, wraps, plain, Int.ofNat_eq_natCast, Vx.toN]; omega))) | (refine blq ?_; (first | rfl | omega | (simp (disch := omega) only [hS.glob, wraps, plain, Int.ofNat_eq_natCast]; first | done | rfl | omega | (simp; done) | (simp; omega)) | (simp (disch := omega) only [hS.glob, wraps, plain, Int.ofNat_eq_natCast, Vx.toN]; omega))))) rfl ⟨⟨rfl, rfl, ⟨by show q + 1 ≤ addN q 1; (first | trivial | omega | (simp (disch := omega) only [hS.glob, wraps, plain, Int.ofNat_eq_natCast]; first | done | omega | trivial | (simp; done) | (simp; omega) | (constructor <;> omega)) | (simp (disch := omega) only [hS.glob, wraps, plain, Int.ofNat_eq_natCast, Vx.toN]; omega)), fun j hj => leaf (addN := Vx.addN) (by simp [hS.glob]) (by simp [hS.glob]) _ A A' q x1 x2 j hj⟩, rfl⟩, trivial⟩ (by rw [hC]; exact Nat.zero_le _)
        show tab (q + 1) A' ++ List.replicate (op - 1) 22 = WL
        rw [tab_snoc rfl x1 x2, ← hW1, List.append_assoc]
        congr 1
        obtain ⟨d, rfl⟩ : ∃ d, op = d + 1 := ⟨op - 1, by omega⟩
        rfl
    · conv => cbv
      simp (disch := first | omega | (simp only [hS.glob, wraps, plain, Int.ofNat_eq_natCast]; omega)) only [hS.glob, wraps, plain, Int.ofNat_eq_natCast] at h2
      repeat (refine ⟨by first | (rw [hW]; show ordOk _ _ _ = true; kernel_rfl) | (first | trivial | omega | (simp (disch := omega) only [hS.glob, wraps, plain, Int.ofNat_eq_natCast]; first | done | omega | trivial | (simp; done) | (simp; omega) | (constructor <;> omega)) | (simp (disch := omega) only [hS.glob, wraps, plain, Int.ofNat_eq_natCast, Vx.toN]; omega)), ?_⟩)
      simp only [hS.tidy]
      obtain ⟨beg, hbeg⟩ : ∃ b, b = begC (l i) := ⟨_, rfl⟩
      rw [hVV]
      clear hVV hVA VV VA hW W
      refine V.call rfl rfl rfl rfl rfl Try.func24 rfl (by decide) [] (by simp) (by simp) (by (first | rfl | ((conv => cbv); (repeat' apply And.intro) <;> first | rfl | trivial | (first | rfl | omega | (simp (disch := omega) only [hS.glob, wraps, plain, Int.ofNat_eq_natCast]; first | done | rfl | omega | (simp; done) | (simp; omega)) | (simp (disch := omega) only [hS.glob, wraps, plain, Int.ofNat_eq_natCast, Vx.toN]; omega))))) rfl (f24_ok (l i) beg hbeg) ?_
      rintro r Hc ⟨rfl, rfl⟩
      refine V.go Try.func18 tl_ok mixed hS.ops [] 400 ?_
      intro VV VA W hVV hVA hW
      conv => cbv
      repeat (refine ⟨by first | (rw [hW]; show ordOk _ _ _ = true; kernel_rfl) | (first | trivial | omega | (simp (disch := omega) only [hS.glob, wraps, plain, Int.ofNat_eq_natCast]; first | done | omega | trivial | (simp; done) | (simp; omega) | (constructor <;> omega)) | (simp (disch := omega) only [hS.glob, wraps, plain, Int.ofNat_eq_natCast, Vx.toN]; omega)), ?_⟩)
      simp only [hS.tidy]
      cases g1 : ieq (l i) 10
      · conv => cbv
        simp (disch := first | omega | (simp only [hS.glob, wraps, plain, Int.ofNat_eq_natCast]; omega)) only [hS.glob, wraps, plain, Int.ofNat_eq_natCast] at g1
        repeat (refine ⟨by first | (rw [hW]; show ordOk _ _ _ = true; kernel_rfl) | (first | trivial | omega | (simp (disch := omega) only [hS.glob, wraps, plain, Int.ofNat_eq_natCast]; first | done | omega | trivial | (simp; done) | (simp; omega) | (constructor <;> omega)) | (simp (disch := omega) only [hS.glob, wraps, plain, Int.ofNat_eq_natCast, Vx.toN]; omega)), ?_⟩)
        simp only [hS.tidy]
        cases g2 : ieq (l i) 22
        · conv => cbv
          repeat (refine ⟨by first | (rw [hW]; show ordOk _ _ _ = true; kernel_rfl) | (first | trivial | omega | (simp (disch := omega) only [hS.glob, wraps, plain, Int.ofNat_eq_natCast]; first | done | omega | trivial | (simp; done) | (simp; omega) | (constructor <;> omega)) | (simp (disch := omega) only [hS.glob, wraps, plain, Int.ofNat_eq_natCast, Vx.toN]; omega)), ?_⟩)
          simp only [hS.tidy, g2]
          conv => cbv
          simp (disch := first | omega | (simp only [hS.glob, wraps, plain, Int.ofNat_eq_natCast]; omega)) only [hS.glob, wraps, plain, Int.ofNat_eq_natCast] at g2
          cases beg
          · conv => cbv
            obtain ⟨A', x1, x2⟩ := snocF A q (l i)
            repeat (refine ⟨by first | (rw [hW]; show ordOk _ _ _ = true; kernel_rfl) | (first | trivial | omega | (simp (disch := omega) only [hS.glob, wraps, plain, Int.ofNat_eq_natCast]; first | done | omega | trivial | (simp; done) | (simp; omega) | (constructor <;> omega)) | (simp (disch := omega) only [hS.glob, wraps, plain, Int.ofNat_eq_natCast, Vx.toN]; omega)), ?_⟩)
            simp only [hS.tidy]
            rw [hVV]
            clear hVV hVA VV VA hW W
            refine V.pick [2] (by decide) (by rw [hC]; exact begins_of rfl) (by rfl) (by rfl) ?_
            exact V.to (hback (i + 1, op, q + 1, A') ⟨by simp only; omega, by simp only; rw [hst, whStep, if_neg (by omega)]; simp only [if_neg g2]; rw [← hbeg, ← ho]; rfl, by simp only; rw [hst, whStep, if_neg (by omega), ← hA]; exact tab_snoc rfl x1 x2⟩ (by simp only; omega)) (by (repeat' first | exact trivial | rfl | (refine And.intro ?_ ?_) | (refine sti ?_; (first | rfl | omega | (simp (disch := omega) only [hS.glob, wraps, plain, Int.ofNat_eq_natCast]; first | done | rfl | omega | (simp; done) | (simp; omega)) | (simp (disch := omega) only [hS.glob, wraps, plain, Int.ofNat_eq_natCast, Vx.toN]; omega))) | (refine slq ?_ ?_ ?_ <;> (first | rfl | omega | (simp (disch := omega) only [hS.glob, wraps, plain, Int.ofNat_eq_natCast]; first | done | rfl | omega | (simp; done) | (simp; omega)) | (simp (disch := omega) only [hS.glob, wraps, plain, Int.ofNat_eq_natCast, Vx.toN]; omega))) | (refine ptq ?_ ?_ ?_ <;> (first | rfl | omega | (simp (disch := omega) only [hS.glob, wraps, plain, Int.ofNat_eq_natCast]; first | done | rfl | omega | (simp; done) | (simp; omega)) | (simp (disch := omega) only [hS.glob, wraps, plain, Int.ofNat_eq_natCast, Vx.toN]; omega))) | (refine blq ?_; (first | rfl | omega | (simp (disch := omega) only [hS.glob, wraps, plain, Int.ofNat_eq_natCast]; first | done | rfl | omega | (simp; done) | (simp; omega)) | (simp (disch := omega) only [hS.glob, wraps, plain, Int.ofNat_eq_natCast, Vx.toN]; omega))))) rfl ⟨⟨rfl, rfl, ⟨by show q + 1 ≤ addN q 1; (first | trivial | omega | (simp (disch := omega) only [hS.glob, wraps, plain, Int.ofNat_eq_natCast]; first | done | omega | trivial | (simp; done) | (simp; omega) | (constructor <;> omega)) | (simp (disch := omega) only [hS.glob, wraps, plain, Int.ofNat_eq_natCast, Vx.toN]; omega)), fun j hj => leaf (addN := Vx.addN) (by simp [hS.glob]) (by simp [hS.glob]) _ A A' q x1 x2 j hj⟩, rfl⟩, trivial⟩ (by rw [hC]; exact Nat.zero_le _)
          · conv => cbv
            obtain ⟨A', x1, x2⟩ := snocF A q (l i)
            repeat (refine ⟨by first | (rw [hW]; show ordOk _ _ _ = true; kernel_rfl) | (first | trivial | omega | (simp (disch := omega) only [hS.glob, wraps, plain, Int.ofNat_eq_natCast]; first | done | omega | trivial | (simp; done) | (simp; omega) | (constructor <;> omega)) | (simp (disch := omega) only [hS.glob, wraps, plain, Int.ofNat_eq_natCast, Vx.toN]; omega)), ?_⟩)
            simp only [hS.tidy]
            rw [hVV]
            clear hVV hVA VV VA hW W
            refine V.pick [2] (by decide) (by rw [hC]; exact begins_of rfl) (by rfl) (by rfl) ?_
            exact V.to (hback (i + 1, op + 1, q + 1, A') ⟨by simp only; omega, by simp only; rw [hst, whStep, if_neg (by omega)]; simp only [if_neg g2]; rw [← hbeg, ← ho]; rfl, by simp only; rw [hst, whStep, if_neg (by omega), ← hA]; exact tab_snoc rfl x1 x2⟩ (by simp only; omega)) (by (repeat' first | exact trivial | rfl | (refine And.intro ?_ ?_) | (refine sti ?_; (first | rfl | omega | (simp (disch := omega) only [hS.glob, wraps, plain, Int.ofNat_eq_natCast]; first | done | rfl | omega | (simp; done) | (simp; omega)) | (simp (disch := omega) only [hS.glob, wraps, plain, Int.ofNat_eq_natCast, Vx.toN]; omega))) | (refine slq ?_ ?_ ?_ <;> (first | rfl | omega | (simp (disch := omega) only [hS.glob, wraps, plain, Int.ofNat_eq_natCast]; first | done | rfl | omega | (simp; done) | (simp; omega)) | (simp (disch := omega) only [hS.glob, wraps, plain, Int.ofNat_eq_natCast, Vx.toN]; omega))) | (refine ptq ?_ ?_ ?_ <;> (first | rfl | omega | (simp (disch := omega) only [hS.glob, wraps, plain, Int.ofNat_eq_natCast]; first | done | rfl | omega | (simp; done) | (simp; omega)) | (simp (disch := omega) only [hS.glob, wraps, plain, Int.ofNat_eq_natCast, Vx.toN]; omega))) | (refine blq ?_; (first | rfl | omega | (simp (disch := omega) only [hS.glob, wraps, plain, Int.ofNat_eq_natCast]; first | done | rfl | omega | (simp; done) | (simp; omega)) | (simp (disch := omega) only [hS.glob, wraps, plain, Int.ofNat_eq_natCast, Vx.toN]; omega))))) rfl ⟨⟨rfl, rfl, ⟨by show q + 1 ≤ addN q 1; (first | trivial | omega | (simp (disch := omega) only [hS.glob, wraps, plain, Int.ofNat_eq_natCast]; first | done | omega | trivial | (simp; done) | (simp; omega) | (constructor <;> omega)) | (simp (disch := omega) only [hS.glob, wraps, plain, Int.ofNat_eq_natCast, Vx.toN]; omega)), fun j hj => leaf (addN := Vx.addN) (by simp [hS.glob]) (by simp [hS.glob]) _ A A' q x1 x2 j hj⟩, rfl⟩, trivial⟩ (by rw [hC]; exact Nat.zero_le _)
        · conv => cbv
          cases g3 : ieq (ofN op) 0
          · conv => cbv
            repeat (refine ⟨by first | (rw [hW]; show ordOk _ _ _ = true; kernel_rfl) | (first | trivial | omega | (simp (disch := omega) only [hS.glob, wraps, plain, Int.ofNat_eq_natCast]; first | done | omega | trivial | (simp; done) | (simp; omega) | (constructor <;> omega)) | (simp (disch := omega) only [hS.glob, wraps, plain, Int.ofNat_eq_natCast, Vx.toN]; omega)), ?_⟩)
            simp only [hS.tidy, g2]
            conv => cbv
            simp (disch := first | omega | (simp only [hS.glob, wraps, plain, Int.ofNat_eq_natCast]; omega)) only [hS.glob, wraps, plain, Int.ofNat_eq_natCast] at g2 g3
            obtain rfl : beg = false := by rw [hbeg, g2]; rfl
            conv => cbv
            obtain ⟨A', x1, x2⟩ := snocF A q (l i)
            repeat (refine ⟨by first | (rw [hW]; show ordOk _ _ _ = true; kernel_rfl) | (first | trivial | omega | (simp (disch := omega) only [hS.glob, wraps, plain, Int.ofNat_eq_natCast]; first | done | omega | trivial | (simp; done) | (simp; omega) | (constructor <;> omega)) | (simp (disch := omega) only [hS.glob, wraps, plain, Int.ofNat_eq_natCast, Vx.toN]; omega)), ?_⟩)
            simp only [hS.tidy]
            rw [hVV]
            clear hVV hVA VV VA hW W
            refine V.pick [2] (by decide) (by rw [hC]; exact begins_of rfl) (by rfl) (by rfl) ?_
            exact V.to (hback (i + 1, op - 1, q + 1, A') ⟨by simp only; omega, by simp only; rw [hst, whStep, if_neg (by omega)]; simp only [if_pos g2]; rw [← ho], by simp only; rw [hst, whStep, if_neg (by omega), ← hA]; exact tab_snoc rfl x1 x2⟩ (by simp only; omega)) (by (repeat' first | exact trivial | rfl | (refine And.intro ?_ ?_) | (refine sti ?_; (first | rfl | omega | (simp (disch := omega) only [hS.glob, wraps, plain, Int.ofNat_eq_natCast]; first | done | rfl | omega | (simp; done) | (simp; omega)) | (simp (disch := omega) only [hS.glob, wraps, plain, Int.ofNat_eq_natCast, Vx.toN]; omega))) | (refine slq ?_ ?_ ?_ <;> (first | rfl | omega | (simp (disch := omega) only [hS.glob, wraps, plain, Int.ofNat_eq_natCast]; first | done | rfl | omega | (simp; done) | (simp; omega)) | (simp (disch := omega) only [hS.glob, wraps, plain, Int.ofNat_eq_natCast, Vx.toN]; omega))) | (refine ptq ?_ ?_ ?_ <;> (first | rfl | omega | (simp (disch := omega) only [hS.glob, wraps, plain, Int.ofNat_eq_natCast]; first | done | rfl | omega | (simp; done) | (simp; omega)) | (simp (disch := omega) only [hS.glob, wraps, plain, Int.ofNat_eq_natCast, Vx.toN]; omega))) | (refine blq ?_; (first | rfl | omega | (simp (disch := omega) only [hS.glob, wraps, plain, Int.ofNat_eq_natCast]; first | done | rfl | omega | (simp; done) | (simp; omega)) | (simp (disch := omega) only [hS.glob, wraps, plain, Int.ofNat_eq_natCast, Vx.toN]; omega))))) rfl ⟨⟨rfl, rfl, ⟨by show q + 1 ≤ addN q 1; (first | trivial | omega | (simp (disch := omega) only [hS.glob, wraps, plain, Int.ofNat_eq_natCast]; first | done | omega | trivial | (simp; done) | (simp; omega) | (constructor <;> omega)) | (simp (disch := omega) only [hS.glob, wraps, plain, Int.ofNat_eq_natCast, Vx.toN]; omega)), fun j hj => leaf (addN := Vx.addN) (by simp [hS.glob]) (by simp [hS.glob]) _ A A' q x1 x2 j hj⟩, rfl⟩, trivial⟩ (by rw [hC]; exact Nat.zero_le _)
          · conv => cbv
            simp (disch := first | omega | (simp only [hS.glob, wraps, plain, Int.ofNat_eq_natCast]; omega)) only [hS.glob, wraps, plain, Int.ofNat_eq_natCast] at g2 g3
            rw [hVV]
            clear hVV hVA VV VA hW W
            exact V.to (hback (i + 1, op, q, A) ⟨by simp only; omega, by simp only; rw [hst, whStep, if_pos (by omega)]; exact ho, by simp only; rw [hst, whStep, if_pos (by omega)]; exact hA⟩ (by simp only; omega)) (by (repeat' first | exact trivial | rfl | (refine And.intro ?_ ?_) | (refine sti ?_; (first | rfl | omega | (simp (disch := omega) only [hS.glob, wraps, plain, Int.ofNat_eq_natCast]; first | done | rfl | omega | (simp; done) | (simp; omega)) | (simp (disch := omega) only [hS.glob, wraps, plain, Int.ofNat_eq_natCast, Vx.toN]; omega))) | (refine slq ?_ ?_ ?_ <;> (first | rfl | omega | (simp (disch := omega) only [hS.glob, wraps, plain, Int.ofNat_eq_natCast]; first | done | rfl | omega | (simp; done) | (simp; omega)) | (simp (disch := omega) only [hS.glob, wraps, plain, Int.ofNat_eq_natCast, Vx.toN]; omega))) | (refine ptq ?_ ?_ ?_ <;> (first | rfl | omega | (simp (disch := omega) only [hS.glob, wraps, plain, Int.ofNat_eq_natCast]; first | done | rfl | omega | (simp; done) | (simp; omega)) | (simp (disch := omega) only [hS.glob, wraps, plain, Int.ofNat_eq_natCast, Vx.toN]; omega))) | (refine blq ?_; (first | rfl | omega | (simp (disch := omega) only [hS.glob, wraps, plain, Int.ofNat_eq_natCast]; first | done | rfl | omega | (simp; done) | (simp; omega)) | (simp (disch := omega) only [hS.glob, wraps, plain, Int.ofNat_eq_natCast, Vx.toN]; omega))))) rfl (by (repeat' first | exact trivial | rfl | exact Nat.le_refl _ | exact (fun _ _ => rfl) | (refine And.intro ?_ ?_) | (simp only [hS.glob, plain]; first | done | omega))) (by rw [hC]; exact Nat.zero_le _)
      · conv => cbv
        simp (disch := first | omega | (simp only [hS.glob, wraps, plain, Int.ofNat_eq_natCast]; omega)) only [hS.glob, wraps, plain, Int.ofNat_eq_natCast] at g1
        rw [hVV]
        clear hVV hVA VV VA hW W
        exact V.to (hback (i + 1, op, q, A) ⟨by simp only; omega, by simp only; rw [hst, whStep, if_pos (by omega)]; exact ho, by simp only; rw [hst, whStep, if_pos (by omega)]; exact hA⟩ (by simp only; omega)) (by (repeat' first | exact trivial | rfl | (refine And.intro ?_ ?_) | (refine sti ?_; (first | rfl | omega | (simp (disch := omega) only [hS.glob, wraps, plain, Int.ofNat_eq_natCast]; first | done | rfl | omega | (simp; done) | (simp; omega)) | (simp (disch := omega) only [hS.glob, wraps, plain, Int.ofNat_eq_natCast, Vx.toN]; omega))) | (refine slq ?_ ?_ ?_ <;> (first | rfl | omega | (simp (disch := omega) only [hS.glob, wraps, plain, Int.ofNat_eq_natCast]; first | done | rfl | omega | (simp; done) | (simp; omega)) | (simp (disch := omega) only [hS.glob, wraps, plain, Int.ofNat_eq_natCast, Vx.toN]; omega))) | (refine ptq ?_ ?_ ?_ <;> (first | rfl | omega | (simp (disch := omega) only [hS.glob, wraps, plain, Int.ofNat_eq_natCast]; first | done | rfl | omega | (simp; done) | (simp; omega)) | (simp (disch := omega) only [hS.glob, wraps, plain, Int.ofNat_eq_natCast, Vx.toN]; omega))) | (refine blq ?_; (first | rfl | omega | (simp (disch := omega) only [hS.glob, wraps, plain, Int.ofNat_eq_natCast]; first | done | rfl | omega | (simp; done) | (simp; omega)) | (simp (disch := omega) only [hS.glob, wraps, plain, Int.ofNat_eq_natCast, Vx.toN]; omega))))) rfl (by (repeat' first | exact trivial | rfl | exact Nat.le_refl _ | exact (fun _ _ => rfl) | (refine And.intro ?_ ?_) | (simp only [hS.glob, plain]; first | done | omega))) (by rw [hC]; exact Nat.zero_le _)
end Go.Proofs.Ytihmolafajmbjaa

/- The law of closed isolates, plain: where isolates end. -/
namespace Go.Proofs.Ytihmolafajmbjaa
open Go Vx

/-- How many isolates are open behind t scalars from a place s on. -/
def opnA (A : Nat → Int) (s : Nat) : Nat → Nat
  | 0 => 0
  | t + 1 => if A (s + t) = 22 then opnA A s t - 1 else if begC (A (s + t)) then opnA A s t + 1 else opnA A s t
/-- A stretch without a B, whose isolates are all ended, and that ends none but its own. -/
structure Bal (A : Nat → Int) (s k : Nat) : Prop where
  noB : ∀ t, t < k → A (s + t) ≠ 10
  pdi : ∀ t, t < k → A (s + t) = 22 → 0 < opnA A s t
  fin : opnA A s k = 0

theorem mrun_bal {A : Nat → Int} {s k : Nat} (h : Bal A s k) : ∀ t, t ≤ k → ∃ U : List Int, (mrun A (s + t)).1 = (mrun A s).1 ++ U ∧ U.length = opnA A s t ∧ (∀ x ∈ U, (s : Int) ≤ x) ∧ ∀ j, j < s → (mrun A (s + t)).2 j = (mrun A s).2 j
  | 0, _ => ⟨[], by simp, rfl, by simp, fun _ _ => rfl⟩
  | t + 1, ht => by
    obtain ⟨U, h1, h2, h3, h4⟩ := mrun_bal h t (by omega)
    have r : mrun A (s + (t + 1)) = mstep (A (s + t)) (s + t) (mrun A (s + t)) := rfl
    rw [r]
    have hB := h.noB t (by omega)
    have hP := h.pdi t (by omega)
    generalize mrun A (s + t) = m at h1 h4
    obtain ⟨st, out⟩ := m
    simp only at h1 h4
    subst h1
    rw [mstep, if_neg hB, opnA]
    by_cases cb : begC (A (s + t)) = true
    · have n22 : A (s + t) ≠ 22 := fun e => by rw [e] at cb; cases cb
      rw [if_pos cb, if_neg n22, if_pos cb]
      refine ⟨U ++ [((s + t : Nat) : Int)], by simp, by simp [h2], fun x hx => ?_, h4⟩
      simp only [List.mem_append, List.mem_singleton] at hx
      rcases hx with hx | rfl
      · exact h3 x hx
      · omega
    · rw [if_neg cb]
      by_cases c22 : A (s + t) = 22
      · rw [if_pos c22, if_pos c22]
        have hpos := hP c22
        have hU : U ≠ [] := fun e => by rw [e] at h2; simp at h2; omega
        obtain ⟨V, x, rfl⟩ := snoc_of hU
        rw [if_neg (by simp)]
        have hx := h3 x (by simp)
        refine ⟨V, by simp only [← List.append_assoc, List.dropLast_concat], by simp at h2; omega, fun y hy => h3 y (by simp [hy]), fun j hj => ?_⟩
        simp only [← List.append_assoc]
        have : ((mrun A s).1 ++ V ++ [x]).getD (((mrun A s).1 ++ V ++ [x]).length - 1) 0 = x := by simp
        rw [this, if_neg (by omega)]
        exact h4 j hj
      · rw [if_neg c22, if_neg c22, if_neg cb]
        exact ⟨U, rfl, h2, h3, h4⟩

/-- A list with an isolate that is ended (a beginning at n, k scalars, its end), against the list without it. -/
structure Cut (A C : Nat → Int) (n k : Nat) : Prop where
  ahead : ∀ j, j < n → A j = C j
  beg : begC (A n) = true
  bal : Bal A (n + 1) k
  pdi : A (n + 1 + k) = 22
  behind : ∀ q, A (n + k + 2 + q) = C (n + q)
def phi (n k : Nat) (x : Int) : Int := if x < n then x else x + (k + 2)

theorem mrun_congr {A C : Nat → Int} : ∀ n, (∀ j, j < n → A j = C j) → mrun A n = mrun C n
  | 0, _ => rfl
  | n + 1, h => by rw [mrun, mrun, mrun_congr n (fun j hj => h j (by omega)), h n (by omega)]
theorem mrun_nonneg (l : Nat → Int) (k : Nat) : ∀ x ∈ (mrun l k).1, 0 ≤ x ∧ x < k := by
  intro x hx
  obtain ⟨j, hj, rfl⟩ := List.getElem_of_mem hx
  have := mrun_lt l k j hj
  rw [List.getD_eq_getElem?_getD, List.getElem?_eq_getElem hj] at this
  exact this

theorem mrun_iso {A C : Nat → Int} {n k : Nat} (h : Cut A C n k) : (mrun A (n + k + 2)).1 = (mrun C n).1 ∧ (mrun A (n + k + 2)).2 n = (n + 1 + k : Nat) ∧ ∀ j, j < n → (mrun A (n + k + 2)).2 j = (mrun C n).2 j := by
  have e0 := mrun_congr n h.ahead
  have hn := mrun_nonneg A n
  have r1 : mrun A (n + 1) = ((mrun A n).1 ++ [(n : Int)], (mrun A n).2) := by
    have c10 : A n ≠ 10 := fun e => by have := h.beg; rw [e] at this; cases this
    show mstep (A n) n (mrun A n) = _
    rw [mstep, if_neg c10, if_pos h.beg]
  obtain ⟨U, h1, h2, h3, h4⟩ := mrun_bal h.bal k (Nat.le_refl _)
  rw [h.bal.fin] at h2
  obtain rfl : U = [] := List.eq_nil_of_length_eq_zero h2
  rw [List.append_nil, r1] at h1
  rw [r1] at h4
  have r2 : mrun A (n + k + 2) = mstep (A (n + 1 + k)) (n + 1 + k) (mrun A (n + 1 + k)) := by rw [show n + k + 2 = n + 1 + k + 1 by omega]; rfl
  rw [h.pdi] at r2
  generalize mrun A (n + 1 + k) = m at h1 h4 r2
  obtain ⟨st, out⟩ := m
  simp only at h1 h4
  subst h1
  have r3 : mstep 22 (n + 1 + k) ((mrun A n).1 ++ [(n : Int)], out) = ((mrun A n).1, fun j : Nat => if (j : Int) = n then ((n + 1 + k : Nat) : Int) else out j) := by
    have hb : begC 22 = false := rfl
    rw [mstep, if_neg (by decide), hb, if_neg (by simp), if_pos rfl, if_neg (by simp)]
    simp
  rw [r2, r3]
  refine ⟨by rw [e0], by simp, fun j hj => ?_⟩
  show (if (j : Int) = n then _ else out j) = _
  rw [if_neg (by omega), h4 j (by omega), e0]

theorem phi_inj {n k : Nat} {x y : Int} : phi n k x = phi n k y ↔ x = y := by
  unfold phi
  split <;> split <;> omega
theorem mrun_cut {A C : Nat → Int} {n k : Nat} (h : Cut A C n k) : ∀ p, (mrun A (n + k + 2 + p)).1 = (mrun C (n + p)).1.map (phi n k) ∧ (mrun A (n + k + 2 + p)).2 n = (n + 1 + k : Nat) ∧
    (∀ j, j < n → (mrun A (n + k + 2 + p)).2 j = phi n k ((mrun C (n + p)).2 j)) ∧ ∀ q, (mrun A (n + k + 2 + p)).2 (n + k + 2 + q) = (if (mrun C (n + p)).2 (n + q) = -1 then -1 else phi n k ((mrun C (n + p)).2 (n + q)))
  | 0 => by
    obtain ⟨h1, h2, h3⟩ := mrun_iso h
    refine ⟨?_, h2, fun j hj => ?_, fun q => ?_⟩
    · show (mrun A (n + k + 2)).1 = (mrun C n).1.map (phi n k)
      rw [h1]
      refine (List.map_id _).symm.trans (List.map_congr_left fun x hx => ?_)
      have := mrun_nonneg C n x hx
      unfold phi
      rw [if_pos (by omega)]; rfl
    · show (mrun A (n + k + 2)).2 j = phi n k ((mrun C n).2 j)
      rw [h3 j hj]
      have := mrun_out C n j
      unfold phi
      rw [if_pos (by omega)]
    · show (mrun A (n + k + 2)).2 (n + k + 2 + q) = (if (mrun C n).2 (n + q) = -1 then -1 else phi n k ((mrun C n).2 (n + q)))
      have a := mrun_out A (n + k + 2) (n + k + 2 + q)
      have b := mrun_out C n (n + q)
      rw [if_pos (by omega)]; omega
  | p + 1 => by
    obtain ⟨h1, h2, h3, h4⟩ := mrun_cut h p
    have r1 : mrun A (n + k + 2 + (p + 1)) = mstep (C (n + p)) (n + k + 2 + p) (mrun A (n + k + 2 + p)) := by rw [← h.behind p]; rfl
    have r2 : mrun C (n + (p + 1)) = mstep (C (n + p)) (n + p) (mrun C (n + p)) := rfl
    have hnn := mrun_nonneg C (n + p)
    have hphi : phi n k ((n + p : Nat) : Int) = ((n + k + 2 + p : Nat) : Int) := by unfold phi; rw [if_neg (by omega)]; omega
    rw [r1, r2]
    generalize mrun A (n + k + 2 + p) = m at h1 h2 h3 h4
    generalize mrun C (n + p) = m' at h1 h3 h4 hnn
    obtain ⟨st, out⟩ := m
    obtain ⟨st', out'⟩ := m'
    simp only at h1 h2 h3 h4 hnn
    subst h1
    simp only [mstep]
    split
    · exact ⟨rfl, h2, h3, h4⟩
    split
    · exact ⟨by rw [List.map_append, List.map_cons, List.map_nil, hphi], h2, h3, h4⟩
    split
    · by_cases hst : st' = []
      · subst hst
        simp only [List.map_nil, if_true]
        exact ⟨trivial, h2, h3, h4⟩
      · rw [if_neg (by simpa using hst), if_neg hst]
        obtain ⟨s, x, rfl⟩ := snoc_of hst
        have hx := hnn x (by simp)
        have e1 : (List.map (phi n k) (s ++ [x])).getD ((List.map (phi n k) (s ++ [x])).length - 1) 0 = phi n k x := by simp
        have e2 : (s ++ [x]).getD ((s ++ [x]).length - 1) 0 = x := by simp
        simp only [e1, e2]
        refine ⟨by simp, ?_, fun j hj => ?_, fun q => ?_⟩
        · rw [if_neg (by unfold phi; split <;> omega)]; exact h2
        · by_cases hj2 : (j : Int) = x
          · rw [if_pos (by rw [← hj2]; unfold phi; rw [if_pos (by omega)]), if_pos hj2, hphi]
          · rw [if_neg (by unfold phi; split <;> omega), if_neg hj2]; exact h3 j hj
        · by_cases hq2 : ((n + q : Nat) : Int) = x
          · rw [if_pos (by rw [← hq2]; unfold phi; rw [if_neg (by omega)]; omega), if_pos hq2, if_neg (by omega), hphi]
          · rw [if_neg (by unfold phi; split <;> omega), if_neg hq2]; exact h4 q
    · exact ⟨rfl, h2, h3, h4⟩
end Go.Proofs.Ytihmolafajmbjaa

/- The law of closed isolates, plain: what the first strong makes. -/
namespace Go.Proofs.Ytihmolafajmbjaa
open Go Vx

theorem sgo_fuel (l e : Nat → Int) (to : Nat) (he : ∀ p, e p = -1 ∨ (p : Int) < e p) : ∀ f f' p, to ≤ p + f → to ≤ p + f' → sgo l e to f p = sgo l e to f' p
  | 0, 0, _, _, _ => rfl
  | 0, f' + 1, p, h1, h2 => by
    have t1 : ¬ p < to := by omega
    rw [sgo, sgo, if_neg t1]
  | f + 1, 0, p, h1, h2 => by
    have t1 : ¬ p < to := by omega
    rw [sgo, sgo, if_neg t1]
  | f + 1, f' + 1, p, h1, h2 => by
    rw [sgo, sgo]
    have a := sgo_fuel l e to he f f' (p + 1) (by omega) (by omega)
    have b := sgo_fuel l e to he f f' ((e p).toNat + 1)
    have := he p
    by_cases hp : p < to
    · simp only [if_pos hp, a]
      by_cases h3 : e p = -1 ∨ (to : Int) ≤ e p
      · simp only [if_pos h3]
      · rw [b (by omega) (by omega)]
    · simp only [if_neg hp]

/-- Where isolates end, in both lists. -/
structure CutE (eA eC : Nat → Int) (n k : Nat) : Prop where
  ahead : ∀ j, j < n → eA j = phi n k (eC j)
  at' : eA n = (n + 1 + k : Nat)
  behind : ∀ q, eA (n + k + 2 + q) = if eC (n + q) = -1 then -1 else phi n k (eC (n + q))
  upA : ∀ p, eA p = -1 ∨ (p : Int) < eA p
  upC : ∀ p, eC p = -1 ∨ (p : Int) < eC p
theorem sgo_behind {A C eA eC : Nat → Int} {n k : Nat} (hB : ∀ q, A (n + k + 2 + q) = C (n + q)) (h : CutE eA eC n k) (t : Nat) : ∀ f q, sgo A eA (n + k + 2 + t) f (n + k + 2 + q) = sgo C eC (n + t) f (n + q) := by
  have hs := sgo_shift A eA (fun q => C (n + q)) (fun q => if eC (n + q) = -1 then -1 else eC (n + q) - n) (n + k + 2) t hB (fun q => by
    have := h.upC (n + q)
    rw [h.behind]; unfold shI phi
    by_cases h4 : eC (n + q) = -1
    · simp only [if_pos h4, if_true]
    · simp only [if_neg h4]
      rw [if_neg (by omega), if_neg (by omega)]; omega) (fun q => by
    have := h.upC (n + q)
    by_cases h4 : eC (n + q) = -1
    · rw [if_pos h4]; exact .inl rfl
    · rw [if_neg h4]; exact .inr (by omega))
  have hc := sgo_shift C eC (fun q => C (n + q)) (fun q => if eC (n + q) = -1 then -1 else eC (n + q) - n) n t (fun _ => rfl) (fun q => by
    have := h.upC (n + q)
    unfold shI
    by_cases h4 : eC (n + q) = -1
    · simp only [if_pos h4, if_true]; exact h4
    · simp only [if_neg h4]
      rw [if_neg (by omega)]; omega) (fun q => by
    have := h.upC (n + q)
    by_cases h4 : eC (n + q) = -1
    · rw [if_pos h4]; exact .inl rfl
    · rw [if_neg h4]; exact .inr (by omega))
  intro f q
  rw [hs, hc]
def phN (n k x : Nat) : Nat := if x < n then x else x + (k + 2)
theorem sgo_ahead {A C eA eC : Nat → Int} {n k : Nat} (hA : ∀ j, j < n → A j = C j) (hn : begC (A n) = true) (hB : ∀ q, A (n + k + 2 + q) = C (n + q)) (h : CutE eA eC n k) (to : Nat) :
    ∀ fC fA p, p ≤ n → to ≤ p + fC → phN n k to ≤ p + fA → sgo A eA (phN n k to) fA p = sgo C eC to fC p := by
  have atn : ∀ fC fA, n ≤ to → to ≤ n + fC → phN n k to ≤ n + fA → sgo A eA (phN n k to) fA n = sgo C eC to fC n := by
    intro fC fA h0 h1 h2
    have e1 : phN n k to = n + k + 2 + (to - n) := by unfold phN; rw [if_neg (by omega)]; omega
    rw [e1] at h2 ⊢
    obtain ⟨g, rfl⟩ : ∃ g, fA = g + 1 := ⟨fA - 1, by omega⟩
    have t1 : n < n + k + 2 + (to - n) := by omega
    have n1 : ¬ (A n = 10 ∨ A n = 0) := by rintro (e | e) <;> rw [e] at hn <;> cases hn
    have n2 : ¬ (A n = 1 ∨ A n = 2) := by rintro (e | e) <;> rw [e] at hn <;> cases hn
    have n3 : ¬ (eA n = -1 ∨ ((n + k + 2 + (to - n) : Nat) : Int) ≤ eA n) := by rw [h.at']; omega
    rw [sgo, if_pos t1, if_neg n1, if_neg n2, if_pos hn, if_neg n3, h.at']
    have e2 : ((n + 1 + k : Nat) : Int).toNat + 1 = n + k + 2 + 0 := by omega
    rw [e2, sgo_behind hB h (to - n) g 0, show n + (to - n) = to by omega, Nat.add_zero]
    exact sgo_fuel C eC to h.upC _ _ _ (by omega) h1
  intro fC
  induction fC with
  | zero =>
    intro fA p hp h1 h2
    by_cases hpn : p = n
    · subst hpn
      by_cases h0 : p ≤ to
      · exact atn 0 fA h0 h1 h2
      · have : ¬ p < phN p k to := by unfold phN; split <;> omega
        cases fA with
        | zero => rfl
        | succ g => rw [sgo, sgo, if_neg this]
    · have : ¬ p < phN n k to := by unfold phN; split <;> omega
      cases fA with
      | zero => rfl
      | succ g => rw [sgo, sgo, if_neg this]
  | succ f ih =>
    intro fA p hp h1 h2
    by_cases hpn : p = n
    · subst hpn
      by_cases h0 : p ≤ to
      · exact atn (f + 1) fA h0 h1 h2
      · have t1 : ¬ p < phN p k to := by unfold phN; split <;> omega
        have t2 : ¬ p < to := by omega
        cases fA with
        | zero => rw [sgo, sgo, if_neg t2]
        | succ g => rw [sgo, sgo, if_neg t1, if_neg t2]
    · have hlt : p < n := by omega
      by_cases ht : p < to
      · have t1 : p < phN n k to := by unfold phN; split <;> omega
        obtain ⟨g, rfl⟩ : ∃ g, fA = g + 1 := ⟨fA - 1, by omega⟩
        rw [sgo, sgo]
        simp only [if_pos ht, if_pos t1, hA p hlt]
        have hep := h.ahead p hlt
        have hup := h.upC p
        have i1 := ih g (p + 1) (by omega) (by omega) (by omega)
        rw [i1]
        by_cases h3 : eC p = -1 ∨ (to : Int) ≤ eC p
        · have h3' : eA p = -1 ∨ ((phN n k to : Nat) : Int) ≤ eA p := by
            rw [hep]; unfold phi phN
            split <;> split <;> omega
          simp only [if_pos h3, if_pos h3']
        · have h3' : ¬ (eA p = -1 ∨ ((phN n k to : Nat) : Int) ≤ eA p) := by
            rw [hep]; unfold phi phN
            split <;> split <;> omega
          simp only [if_neg h3, if_neg h3']
          have hj : sgo A eA (phN n k to) g ((eA p).toNat + 1) = sgo C eC to f ((eC p).toNat + 1) := by
            rw [hep]
            unfold phi
            by_cases h5 : eC p < n
            · rw [if_pos h5]
              exact ih g _ (by omega) (by omega) (by omega)
            · rw [if_neg h5]
              have e1 : phN n k to = n + k + 2 + (to - n) := by unfold phN; rw [if_neg (by omega)]; omega
              have e2 : (eC p + (k + 2)).toNat + 1 = n + k + 2 + ((eC p).toNat + 1 - n) := by omega
              rw [e1] at h2 ⊢
              rw [e2, sgo_behind hB h (to - n) g, show n + (to - n) = to by omega, show n + ((eC p).toNat + 1 - n) = (eC p).toNat + 1 by omega]
              exact sgo_fuel C eC to h.upC _ _ _ (by omega) (by omega)
          rw [hj]
      · have t1 : ¬ p < phN n k to := by unfold phN; split <;> omega
        cases fA with
        | zero => rw [sgo, sgo, if_neg ht]
        | succ g => rw [sgo, sgo, if_neg t1, if_neg ht]
end Go.Proofs.Ytihmolafajmbjaa

/- The law of closed isolates, plain: which isolates are odd. -/
namespace Go.Proofs.Ytihmolafajmbjaa
open Go Vx

theorem cutE {A C : Nat → Int} {n k : Nat} (h : Cut A C n k) (m : Nat) : CutE (mrun A (n + k + 2 + m)).2 (mrun C (n + m)).2 n k := by
  obtain ⟨_, h2, h3, h4⟩ := mrun_cut h m
  exact ⟨h3, h2, h4, fun p => by have := mrun_out A (n + k + 2 + m) p; omega, fun p => by have := mrun_out C (n + m) p; omega⟩
theorem kn_beg {A : Nat → Int} {j : Nat} (h : begC (A j) = true) : begC (kn A j) = true := by
  simp only [begC, Bool.or_eq_true, beq_iff_eq] at h
  have : kn A j = A j := by unfold kn knownC; rw [if_neg (by omega)]
  rw [this]
  simp only [begC, Bool.or_eq_true, beq_iff_eq]; exact h
theorem odds_ahead {A C : Nat → Int} {n k : Nat} (h : Cut A C n k) (m j : Nat) (hj : j < n) : oddsOf (n + k + 2 + m) A j = oddsOf (n + m) C j := by
  have hE := cutE h m
  unfold oddsOf
  generalize (mrun A (n + k + 2 + m)).2 = eA at hE ⊢
  generalize (mrun C (n + m)).2 = eC at hE ⊢
  have hto : toI (n + k + 2 + m) eA j = phN n k (toI (n + m) eC j) := by
    have h1 := hE.ahead j hj
    have h2 := hE.upC j
    unfold toI phN
    rw [h1]
    unfold phi
    by_cases h4 : eC j = -1
    · rw [if_pos h4, if_pos (by split <;> omega), if_neg (by omega)]; omega
    · rw [if_neg h4, if_neg (by split <;> omega)]
      split <;> split <;> omega
  have hK : kn A j = kn C j := by unfold kn; rw [h.ahead j hj]
  have hs := sgo_ahead (A := kn A) (C := kn C) (fun i hi => by unfold kn; rw [h.ahead i hi]) (kn_beg h.beg) (fun q => by unfold kn; rw [h.behind q]) hE (toI (n + m) eC j) (toI (n + m) eC j - (j + 1)) (phN n k (toI (n + m) eC j) - (j + 1)) (j + 1) (by omega) (by omega) (by omega)
  unfold oddI
  rw [hK, hto, hs]
theorem odds_behind {A C : Nat → Int} {n k : Nat} (h : Cut A C n k) (m q : Nat) : oddsOf (n + k + 2 + m) A (n + k + 2 + q) = oddsOf (n + m) C (n + q) := by
  have hE := cutE h m
  unfold oddsOf
  generalize (mrun A (n + k + 2 + m)).2 = eA at hE ⊢
  generalize (mrun C (n + m)).2 = eC at hE ⊢
  have h1 := hE.behind q
  have h2 := hE.upC (n + q)
  obtain ⟨t, ht⟩ : ∃ t, toI (n + m) eC (n + q) = n + t := ⟨toI (n + m) eC (n + q) - n, by unfold toI; split <;> omega⟩
  have hto : toI (n + k + 2 + m) eA (n + k + 2 + q) = n + k + 2 + t := by
    unfold toI at ht ⊢
    rw [h1]
    unfold phi
    by_cases h4 : eC (n + q) = -1
    · rw [if_pos h4] at ht
      rw [if_pos h4, if_pos rfl]; omega
    · rw [if_neg h4] at ht
      rw [if_neg h4, if_neg (by split <;> omega), if_neg (by omega)]; omega
  have hK : kn A (n + k + 2 + q) = kn C (n + q) := by unfold kn; rw [h.behind q]
  have hs := sgo_behind (A := kn A) (C := kn C) (fun q => by unfold kn; rw [h.behind q]) hE t (t - (q + 1)) (q + 1)
  unfold oddI
  rw [hK, hto, ht, show n + k + 2 + t - (n + k + 2 + q + 1) = t - (q + 1) by omega, show n + t - (n + q + 1) = t - (q + 1) by omega, Nat.add_assoc (n + k + 2) q 1, Nat.add_assoc n q 1, hs]
end Go.Proofs.Ytihmolafajmbjaa

/- The law of closed isolates, plain: nothing is too deep. -/
namespace Go.Proofs.Ytihmolafajmbjaa
open Go Vx

/-- Nothing is too deep, and no level is above L. -/
structure Shallow (L : Int) (m : Ms) : Prop where
  iso : m.iso = 0
  emb : m.emb = 0
  lev : ∀ p ∈ m.st, p.1 ≤ L
theorem next_le {t odd : Int} : nextLv t odd ≤ t + 2 := by unfold nextLv; omega
theorem top_le {L : Int} {m : Ms} (hne : m.st ≠ []) (h : ∀ p ∈ m.st, p.1 ≤ L) : (topM m).1 ≤ L := by
  obtain ⟨s, x, hs⟩ := snoc_of hne
  have := h x (by rw [hs]; simp)
  unfold topM
  rw [hs]; simpa using this
theorem can_shallow {L : Int} {m : Ms} (hne : m.st ≠ []) (h : Shallow L m) (hL : L + 2 ≤ 125) (odd : Int) : canP odd m = true := by
  have h1 := top_le hne h.lev
  have h2 := next_le (t := (topM m).1) (odd := odd)
  simp only [canP, h.iso, h.emb, Bool.and_eq_true, decide_eq_true_eq]
  omega
theorem push_shallow {L : Int} {m : Ms} (hne : m.st ≠ []) (h : Shallow L m) (odd ov : Int) (b : Bool) : ∀ p ∈ (pushM odd ov b m).st, p.1 ≤ L + 2 := by
  intro p hp
  simp only [pushM, List.mem_append, List.mem_singleton] at hp
  rcases hp with hp | rfl
  · have := h.lev p hp; omega
  · have h1 := top_le hne h.lev
    have h2 := next_le (t := (topM m).1) (odd := odd)
    simp only; omega
theorem cutI_mem : ∀ (f : Nat) (st : List (Int × Int × Bool)), ∀ p ∈ cutI f st, p ∈ st
  | 0, _, _, h => h
  | f + 1, st, p, h => by
    rw [cutI] at h
    split at h
    · exact List.dropLast_subset _ h
    · exact List.dropLast_subset _ (cutI_mem f _ p h)
theorem shallow_step {base L : Int} (hb : base ≤ L) (hL : L + 2 ≤ 125) {m : Ms} (hne : m.st ≠ []) (h : Shallow L m) (odd c : Int) : Shallow (L + 2) (stepM base odd c m) := by
  have lev2 : ∀ p ∈ m.st, p.1 ≤ L + 2 := fun p hp => by have := h.lev p hp; omega
  unfold stepM
  split
  · unfold embM
    rw [if_pos (can_shallow hne h hL _)]
    exact ⟨h.iso, h.emb, push_shallow hne h _ _ _⟩
  split
  · unfold isoM
    dsimp only
    have hp : Shallow L (plainM c m) := ⟨h.iso, h.emb, h.lev⟩
    rw [if_pos (can_shallow (m := plainM c m) hne hp hL _)]
    exact ⟨h.iso, h.emb, push_shallow (m := plainM c m) hne hp _ _ _⟩
  split
  · unfold closingM closeM
    rw [if_neg (by rw [h.iso]; omega)]
    split
    · exact ⟨h.iso, rfl, fun p hp => lev2 p (cutI_mem _ _ p hp)⟩
    · exact ⟨h.iso, h.emb, lev2⟩
  split
  · unfold popM
    rw [if_neg (by rw [h.iso]; omega), if_neg (by rw [h.emb]; omega)]
    split
    · exact ⟨h.iso, h.emb, fun p hp => lev2 p (List.dropLast_subset _ hp)⟩
    · exact ⟨h.iso, h.emb, lev2⟩
  split
  · refine ⟨rfl, rfl, fun p hp => ?_⟩
    simp only [parM, freshM, List.mem_singleton] at hp
    subst hp
    simp only; omega
  split
  · exact ⟨h.iso, h.emb, lev2⟩
  · exact ⟨h.iso, h.emb, lev2⟩
theorem shallow_run {base : Int} (hb : 0 ≤ base ∧ base ≤ 1) (odd l : Nat → Int) (ho : ∀ i, 0 ≤ odd i ∧ odd i ≤ 1) : ∀ i : Nat, i ≤ 61 → Shallow (base + 2 * (i : Int)) (runM base odd l i)
  | 0, _ => ⟨rfl, rfl, fun p hp => by simp only [runM, List.mem_singleton] at hp; subst hp; simp⟩
  | i + 1, h => by
    have ih := shallow_run hb odd l ho i (by omega)
    have g := good_run hb odd l ho i
    have := shallow_step (base := base) (L := base + 2 * i) (by omega) (by omega) g.ne ih (odd i) (l i)
    rw [show base + 2 * ((i + 1 : Nat) : Int) = base + 2 * i + 2 by omega]
    exact this
end Go.Proofs.Ytihmolafajmbjaa

/- The law of closed isolates, plain: the stack within an isolate. -/
namespace Go.Proofs.Ytihmolafajmbjaa
open Go Vx

def isl (p : Int × Int × Bool) : Bool := p.2.2
theorem countP_snoc (V : List (Int × Int × Bool)) (x : Int × Int × Bool) : (V ++ [x]).countP isl = V.countP isl + (if x.2.2 = true then 1 else 0) := by
  rw [List.countP_append, List.countP_cons, List.countP_nil, Nat.zero_add]; rfl
theorem last_snoc (V : List (Int × Int × Bool)) (x d : Int × Int × Bool) : (V ++ [x]).getLastD d = x := by simp
theorem cutI_app (S : List (Int × Int × Bool)) : ∀ (f : Nat) (T : List (Int × Int × Bool)), T.length ≤ f → 0 < T.countP isl → ∃ T', cutI f (S ++ T) = S ++ T' ∧ T'.countP isl + 1 = T.countP isl
  | 0, T, hf, hc => by
    have : T = [] := List.eq_nil_of_length_eq_zero (by omega)
    subst this; simp at hc
  | f + 1, T, hf, hc => by
    have hT : T ≠ [] := fun e => by subst e; simp at hc
    obtain ⟨V, x, rfl⟩ := snoc_of hT
    have e1 : (S ++ (V ++ [x])).getLastD (0, 13, false) = x := by rw [← List.append_assoc, last_snoc]
    have e2 : (S ++ (V ++ [x])).dropLast = S ++ V := by rw [← List.append_assoc, List.dropLast_concat]
    have e3 : (V ++ [x]).countP isl = V.countP isl + (if x.2.2 = true then 1 else 0) := countP_snoc V x
    rw [cutI, e1, e2]
    by_cases hx : x.2.2 = true
    · rw [if_pos hx]
      rw [if_pos hx] at e3
      exact ⟨V, rfl, e3.symm⟩
    · rw [if_neg hx]
      rw [if_neg hx] at e3
      obtain ⟨T', h1, h2⟩ := cutI_app S f V (by simp at hf; omega) (by omega)
      exact ⟨T', h1, by omega⟩
theorem cutI_end (S : List (Int × Int × Bool)) (e : Int × Int × Bool) (he : e.2.2 = true) : ∀ (f : Nat) (T : List (Int × Int × Bool)), T.length + 1 ≤ f → T.countP isl = 0 → cutI f (S ++ [e] ++ T) = S
  | 0, T, hf, _ => by omega
  | f + 1, T, hf, hc => by
    rcases List.eq_nil_or_concat T with rfl | ⟨V, x, rfl⟩
    · rw [List.append_nil, cutI]
      have e1 : (S ++ [e]).getLastD (0, 13, false) = e := by simp
      rw [e1, if_pos he, List.dropLast_concat]
    · rw [List.concat_eq_append] at hc hf ⊢
      have e1 : (S ++ [e] ++ (V ++ [x])).getLastD (0, 13, false) = x := by rw [← List.append_assoc (S ++ [e]) V [x], last_snoc]
      have e2 : (S ++ [e] ++ (V ++ [x])).dropLast = S ++ [e] ++ V := by rw [← List.append_assoc (S ++ [e]) V [x], List.dropLast_concat]
      have e3 : (V ++ [x]).countP isl = V.countP isl + (if x.2.2 = true then 1 else 0) := countP_snoc V x
      rw [cutI, e1, e2]
      by_cases hx : x.2.2 = true
      · rw [if_pos hx] at e3; omega
      · rw [if_neg hx]
        rw [if_neg hx] at e3
        exact cutI_end S e he f V (by simp at hf; omega) (by omega)
theorem kn_22 (A : Nat → Int) (j : Nat) : kn A j = 22 ↔ A j = 22 := by unfold kn knownC; split <;> omega
theorem kn_10 (A : Nat → Int) (j : Nat) : kn A j = 10 ↔ A j = 10 := by unfold kn knownC; split <;> omega
theorem kn_begC (A : Nat → Int) (j : Nat) : begC (kn A j) = begC (A j) := by
  unfold kn knownC
  split
  · have : begC (A j) = false := by simp only [begC, Bool.or_eq_false_iff, beq_eq_false_iff_ne, ne_eq]; omega
    rw [this]; rfl
  · rfl
end Go.Proofs.Ytihmolafajmbjaa

/- The law of closed isolates, plain: behind an isolate the stack is what it was. -/
namespace Go.Proofs.Ytihmolafajmbjaa
open Go Vx

/-- Within an isolate: what it found, its own entry, and what it made. -/
def Inn (S : List (Int × Int × Bool)) (o : Int) (c : Nat) (m : Ms) : Prop := ∃ e T, m.st = S ++ [e] ++ T ∧ e.2.2 = true ∧ m.opn = o + 1 + (T.countP isl : Nat) ∧ T.countP isl = c
theorem inn_step {base : Int} {S : List (Int × Int × Bool)} {o : Int} (ho : 0 ≤ o) {c : Nat} {m : Ms} (h : Inn S o c m) {L : Int} (hs : Shallow L m) (hL : L + 2 ≤ 125) (odd k : Int) (hB : k ≠ 10) (hP : k = 22 → 0 < c) :
    Inn S o (if k = 22 then c - 1 else if begC k then c + 1 else c) (stepM base odd k m) := by
  obtain ⟨e, T, h1, h2, h3, h4⟩ := h
  have hne : m.st ≠ [] := by rw [h1]; simp
  have same : ∀ m' : Ms, m'.st = m.st → m'.opn = m.opn → Inn S o c m' := fun m' a b => ⟨e, T, by rw [a, h1], h2, by rw [b, h3], h4⟩
  obtain ⟨d, hd⟩ : ∃ d, (if k = 22 then c - 1 else if begC k = true then c + 1 else c) = d := ⟨_, rfl⟩
  rw [hd]
  unfold stepM
  split
  · rename_i hk
    have n22 : k ≠ 22 := by omega
    have nb : begC k = false := by simp only [begC, Bool.or_eq_false_iff, beq_eq_false_iff_ne, ne_eq]; omega
    rw [if_neg n22, nb, if_neg (by simp)] at hd
    subst hd
    unfold embM
    rw [if_pos (can_shallow hne hs hL _)]
    refine ⟨e, T ++ [(nextLv (topM m).1 (oddM k), ovM k, false)], ?_, h2, ?_, ?_⟩
    · show m.st ++ _ = _
      rw [h1, List.append_assoc]
    · rw [countP_snoc]; exact h3
    · rw [countP_snoc]; exact h4
  split
  · rename_i hk
    have n22 : k ≠ 22 := by omega
    have nb : begC k = true := by simp only [begC, Bool.or_eq_true, beq_iff_eq]; omega
    rw [if_neg n22, nb, if_pos rfl] at hd
    subst hd
    unfold isoM
    dsimp only
    have hp : Shallow L (plainM k m) := ⟨hs.iso, hs.emb, hs.lev⟩
    rw [if_pos (can_shallow (m := plainM k m) hne hp hL _)]
    refine ⟨e, T ++ [(nextLv (topM (plainM k m)).1 odd, 13, true)], ?_, h2, ?_, ?_⟩
    · show m.st ++ _ = _
      rw [h1, List.append_assoc]
    · rw [countP_snoc]
      show m.opn + 1 = _
      rw [h3, if_pos rfl]; omega
    · rw [countP_snoc, h4, if_pos rfl]
  split
  · rename_i hk
    rw [if_pos hk] at hd
    subst hd
    have hc := hP hk
    unfold closingM closeM
    rw [if_neg (by rw [hs.iso]; omega), if_pos (by omega)]
    obtain ⟨T', t1, t2⟩ := cutI_app (S ++ [e]) m.st.length T (by rw [h1]; simp; omega) (by omega)
    refine ⟨e, T', ?_, h2, ?_, by omega⟩
    · show cutI m.st.length m.st = _
      rw [← t1, ← h1]
    · show m.opn - 1 = _
      rw [h3]; omega
  split
  · rename_i hk
    have n22 : k ≠ 22 := by omega
    have nb : begC k = false := by simp only [begC, Bool.or_eq_false_iff, beq_eq_false_iff_ne, ne_eq]; omega
    rw [if_neg n22, nb, if_neg (by simp)] at hd
    subst hd
    unfold popM
    rw [if_neg (by rw [hs.iso]; omega), if_neg (by rw [hs.emb]; omega)]
    split
    · rename_i hd2
      have ht : (topM m).2.2 = false := hd2.2
      rcases List.eq_nil_or_concat T with rfl | ⟨V, x, rfl⟩
      · unfold topM at ht
        rw [h1, List.append_nil, last_snoc] at ht
        rw [h2] at ht; cases ht
      · rw [List.concat_eq_append] at h1 h3 h4
        have e1 : m.st = (S ++ [e] ++ V) ++ [x] := by rw [h1, List.append_assoc (S ++ [e])]
        unfold topM at ht
        rw [e1, last_snoc] at ht
        rw [countP_snoc, ht] at h3 h4
        refine ⟨e, V, ?_, h2, h3, h4⟩
        show m.st.dropLast = _
        rw [e1, List.dropLast_concat]
    · exact same _ rfl rfl
  have n22 : k ≠ 22 := by omega
  have nb : begC k = false := by simp only [begC, Bool.or_eq_false_iff, beq_eq_false_iff_ne, ne_eq]; omega
  rw [if_neg n22, nb, if_neg (by simp)] at hd
  subst hd
  split
  · exact same _ rfl rfl
  · exact same _ rfl rfl
end Go.Proofs.Ytihmolafajmbjaa

/- The law of closed isolates, plain: the machine goes through an isolate. -/
namespace Go.Proofs.Ytihmolafajmbjaa
open Go Vx

theorem inn_run {A C : Nat → Int} {n k : Nat} (h : Cut A C n k) (hk : n + 1 + k ≤ 61) {base : Int} (hb : 0 ≤ base ∧ base ≤ 1) (odd : Nat → Int) (ho : ∀ i, 0 ≤ odd i ∧ odd i ≤ 1) :
    ∀ t, t ≤ k → Inn (runM base odd (kn A) n).st (runM base odd (kn A) n).opn (opnA A (n + 1) t) (runM base odd (kn A) (n + 1 + t))
  | 0, _ => by
    have hs := shallow_run hb odd (kn A) ho n (by omega)
    have g := good_run hb odd (kn A) ho n
    have hbeg := kn_beg h.beg
    show Inn _ _ 0 (stepM base (odd n) (kn A n) (runM base odd (kn A) n))
    generalize runM base odd (kn A) n = m at hs g ⊢
    simp only [begC, Bool.or_eq_true, beq_iff_eq] at hbeg
    unfold stepM
    rw [if_neg (by omega), if_pos (by omega)]
    unfold isoM
    dsimp only
    have hp : Shallow (base + 2 * (n : Int)) (plainM (kn A n) m) := ⟨hs.iso, hs.emb, hs.lev⟩
    rw [if_pos (can_shallow (m := plainM (kn A n) m) g.ne hp (by omega) _)]
    exact ⟨_, [], by rw [List.append_nil]; rfl, rfl, by show m.opn + 1 = _; simp, rfl⟩
  | t + 1, ht => by
    have ih := inn_run h hk hb odd ho t (by omega)
    have hs := shallow_run hb odd (kn A) ho (n + 1 + t) (by omega)
    have g := good_run hb odd (kn A) ho n
    have hB : kn A (n + 1 + t) ≠ 10 := fun e => h.bal.noB t (by omega) ((kn_10 A _).1 e)
    have hP : kn A (n + 1 + t) = 22 → 0 < opnA A (n + 1) t := fun e => h.bal.pdi t (by omega) ((kn_22 A _).1 e)
    have ho0 : 0 ≤ (runM base odd (kn A) n).opn := by rw [g.opn]; omega
    have := inn_step (base := base) ho0 ih hs (by omega) (odd (n + 1 + t)) (kn A (n + 1 + t)) hB hP
    rw [kn_begC] at this
    simp only [kn_22] at this
    exact this
/-- Behind the isolate's end all is as it was; its end has the level of what stood ahead. -/
theorem inn_end {A C : Nat → Int} {n k : Nat} (h : Cut A C n k) (hk : n + 1 + k ≤ 61) {base : Int} (hb : 0 ≤ base ∧ base ≤ 1) (odd : Nat → Int) (ho : ∀ i, 0 ≤ odd i ∧ odd i ≤ 1) :
    (runM base odd (kn A) (n + 1 + k + 1)).st = (runM base odd (kn A) n).st ∧ (runM base odd (kn A) (n + 1 + k + 1)).iso = (runM base odd (kn A) n).iso ∧ (runM base odd (kn A) (n + 1 + k + 1)).emb = (runM base odd (kn A) n).emb ∧
      (runM base odd (kn A) (n + 1 + k + 1)).opn = (runM base odd (kn A) n).opn ∧ (runM base odd (kn A) (n + 1 + k + 1)).xs = (runM base odd (kn A) (n + 1 + k)).xs ++ [(topM (runM base odd (kn A) n)).1] := by
  obtain ⟨e, T, h1, h2, h3, h4⟩ := inn_run h hk hb odd ho k (Nat.le_refl _)
  rw [h.bal.fin] at h4
  have hs := shallow_run hb odd (kn A) ho (n + 1 + k) hk
  have hs0 := shallow_run hb odd (kn A) ho n (by omega)
  have g := good_run hb odd (kn A) ho n
  have ho0 : 0 ≤ (runM base odd (kn A) n).opn := by rw [g.opn]; omega
  have r : runM base odd (kn A) (n + 1 + k + 1) = closingM 22 (runM base odd (kn A) (n + 1 + k)) := by
    show stepM base (odd (n + 1 + k)) (kn A (n + 1 + k)) _ = _
    rw [(kn_22 A _).2 h.pdi]; rfl
  rw [r]
  generalize runM base odd (kn A) (n + 1 + k) = m at h1 h3 hs ⊢
  have hc : closeM m = { m with emb := 0, st := (runM base odd (kn A) n).st, opn := m.opn - 1 } := by
    unfold closeM
    rw [if_neg (by rw [hs.iso]; omega), if_pos (by omega)]
    have : cutI m.st.length m.st = (runM base odd (kn A) n).st := by
      have := cutI_end (runM base odd (kn A) n).st e h2 m.st.length T (by rw [h1]; simp) h4
      rw [← h1] at this; exact this
    rw [this]
  unfold closingM
  rw [hc]
  refine ⟨rfl, hs.iso.trans hs0.iso.symm, hs0.emb.symm, ?_, rfl⟩
  show m.opn - 1 = _
  omega
end Go.Proofs.Ytihmolafajmbjaa

/- The law of closed isolates, plain. -/
namespace Go.Proofs.Ytihmolafajmbjaa
open Go Vx

theorem run_more {base : Int} (hb : 0 ≤ base ∧ base ≤ 1) (odd l : Nat → Int) (ho : ∀ i, 0 ≤ odd i ∧ odd i ≤ 1) (i : Nat) : ∀ t, ∃ I : List Int, (runM base odd l (i + t)).xs = (runM base odd l i).xs ++ I ∧ I.length = t
  | 0 => ⟨[], by simp, rfl⟩
  | t + 1 => by
    obtain ⟨I, h1, h2⟩ := run_more hb odd l ho i t
    obtain ⟨x, h3, _⟩ := step_lv hb (good_run hb odd l ho (i + t)) (odd (i + t)) (l (i + t))
    refine ⟨I ++ [x], ?_, by simp [h2]⟩
    show (stepM base (odd (i + t)) (l (i + t)) (runM base odd l (i + t))).xs = _
    rw [h3, h1, List.append_assoc]
theorem run_two {base : Int} {odd odd' l l' : Nat → Int} {i i' : Nat} {X Y X' Y' : List Int} {M : Ms} (h : runM base odd l i = preM X Y M) (h' : runM base odd' l' i' = preM X' Y' M) (m : Nat) (ho : ∀ q, q < m → odd (i + q) = odd' (i' + q)) (hl : ∀ q, q < m → l (i + q) = l' (i' + q)) :
    ∃ M', runM base odd l (i + m) = preM X Y M' ∧ runM base odd' l' (i' + m) = preM X' Y' M' := by
  induction m with
  | zero => exact ⟨M, h, h'⟩
  | succ m ih =>
    obtain ⟨M', h1, h2⟩ := ih (fun q hq => ho q (by omega)) (fun q hq => hl q (by omega))
    refine ⟨stepM base (odd (i + m)) (l (i + m)) M', ?_, ?_⟩
    · show stepM base (odd (i + m)) (l (i + m)) (runM base odd l (i + m)) = _
      rw [h1, step_pre]
    · show stepM base (odd' (i' + m)) (l' (i' + m)) (runM base odd' l' (i' + m)) = _
      rw [h2, step_pre, ← ho m (by omega), ← hl m (by omega)]

theorem told_iso' (base odd c : Int) (m : Ms) (h : begC c = true) : (stepM base odd c m).xs = m.xs ++ [(topM m).1] := by
  unfold stepM
  simp only [begC, Bool.or_eq_true, beq_iff_eq] at h
  rw [if_neg (by omega), if_pos (by omega)]
  unfold isoM
  dsimp only
  split <;> rfl
/-- Levels of a list with a closed isolate: those ahead, the isolate's own, those behind, as without it. -/
theorem closed_law (C : Nat → Int) (n m : Nat) (base : Int) (hb : 0 ≤ base ∧ base ≤ 1) : ∃ (P Z : List Int) (top : Int), P.length = n ∧ Z.length = m ∧
    ∀ (A : Nat → Int) (k : Nat), Cut A C n k → n + 1 + k ≤ 61 → ∃ I : List Int, I.length = k ∧ (levM (n + k + 2 + m) A base).xs = P ++ [top] ++ I ++ [top] ++ Z := by
  have hoC : ∀ i, 0 ≤ oddsOf (n + m) C i ∧ oddsOf (n + m) C i ≤ 1 := fun i => oddI_01 _ _ _ _
  have gC := good_run hb (oddsOf (n + m) C) (kn C) hoC
  obtain ⟨Z, z1, z2⟩ := run_more hb (oddsOf (n + m) C) (kn C) hoC n m
  refine ⟨(runM base (oddsOf (n + m) C) (kn C) n).xs, Z, (topM (runM base (oddsOf (n + m) C) (kn C) n)).1, (gC n).xs, z2, fun A k h hk => ?_⟩
  have hoA : ∀ i, 0 ≤ oddsOf (n + k + 2 + m) A i ∧ oddsOf (n + k + 2 + m) A i ≤ 1 := fun i => oddI_01 _ _ _ _
  have e0 : runM base (oddsOf (n + k + 2 + m) A) (kn A) n = runM base (oddsOf (n + m) C) (kn C) n := run_congr base n (fun j hj => odds_ahead h m j hj) (fun j hj => by unfold kn; rw [h.ahead j hj])
  obtain ⟨s1, s2, s3, s4, s5⟩ := inn_end h hk hb (oddsOf (n + k + 2 + m) A) hoA
  rw [e0] at s1 s2 s3 s4 s5
  obtain ⟨I, i1, i2⟩ := run_more hb (oddsOf (n + k + 2 + m) A) (kn A) hoA (n + 1) k
  have b1 : (runM base (oddsOf (n + k + 2 + m) A) (kn A) (n + 1)).xs = (runM base (oddsOf (n + m) C) (kn C) n).xs ++ [(topM (runM base (oddsOf (n + m) C) (kn C) n)).1] := by
    have t := told_iso' base (oddsOf (n + k + 2 + m) A n) (kn A n) (runM base (oddsOf (n + k + 2 + m) A) (kn A) n) (kn_beg h.beg)
    rw [e0] at t
    show (stepM base (oddsOf (n + k + 2 + m) A n) (kn A n) (runM base (oddsOf (n + k + 2 + m) A) (kn A) n)).xs = _
    rw [e0]; exact t
  refine ⟨I, i2, ?_⟩
  obtain ⟨M, hM⟩ : ∃ M : Ms, M = { runM base (oddsOf (n + m) C) (kn C) n with xs := [], cs := [] } := ⟨_, rfl⟩
  have a1 : runM base (oddsOf (n + m) C) (kn C) n = preM (runM base (oddsOf (n + m) C) (kn C) n).xs (runM base (oddsOf (n + m) C) (kn C) n).cs M := by rw [hM]; simp [preM]
  have a2 : runM base (oddsOf (n + k + 2 + m) A) (kn A) (n + 1 + k + 1) = preM (runM base (oddsOf (n + k + 2 + m) A) (kn A) (n + 1 + k + 1)).xs (runM base (oddsOf (n + k + 2 + m) A) (kn A) (n + 1 + k + 1)).cs M := by
    rw [hM]
    generalize runM base (oddsOf (n + k + 2 + m) A) (kn A) (n + 1 + k + 1) = x at s1 s2 s3 s4
    generalize runM base (oddsOf (n + m) C) (kn C) n = y at s1 s2 s3 s4
    obtain ⟨q1, q2, q3, q4, q5, q6⟩ := x
    simp only at s1 s2 s3 s4
    simp [preM, s1, s2, s3, s4]
  have eN : n + 1 + k + 1 = n + k + 2 := by omega
  obtain ⟨M', m1, m2⟩ := run_two a2 a1 m (fun q _ => by rw [eN]; exact odds_behind h m q) (fun q _ => by unfold kn; rw [eN, h.behind q])
  rw [m2] at z1
  have z3 : M'.xs = Z := List.append_cancel_left z1
  have f : levM (n + k + 2 + m) A base = runM base (oddsOf (n + k + 2 + m) A) (kn A) (n + 1 + k + 1 + m) := by rw [eN]; rfl
  rw [f, m1]
  show (runM base (oddsOf (n + k + 2 + m) A) (kn A) (n + 1 + k + 1)).xs ++ M'.xs = _
  rw [s5, i1, b1, z3]
end Go.Proofs.Ytihmolafajmbjaa

/- What 'whole' makes is a stretch whose isolates are all ended. -/
namespace Go.Proofs.Ytihmolafajmbjaa
open Go Vx

/-- A list lies in A from s on. -/
def Lies (A : Nat → Int) (s : Nat) (W : List Int) : Prop := ∀ j x, W[j]? = some x → A (s + j) = x
theorem Lies.left {A : Nat → Int} {s : Nat} {V W : List Int} (h : Lies A s (V ++ W)) : Lies A s V := fun j x hx => h j x (by
  have := (List.getElem?_eq_some_iff.1 hx).1
  rw [List.getElem?_append_left this]; exact hx)
theorem Lies.right {A : Nat → Int} {s : Nat} {V W : List Int} (h : Lies A s (V ++ W)) : Lies A (s + V.length) W := fun j x hx => by
  rw [Nat.add_assoc]
  exact h _ x (by rw [List.getElem?_append_right (by omega), Nat.add_sub_cancel_left]; exact hx)
structure Pre (A : Nat → Int) (s k c : Nat) : Prop where
  noB : ∀ t, t < k → A (s + t) ≠ 10
  pdi : ∀ t, t < k → A (s + t) = 22 → 0 < opnA A s t
  opn : opnA A s k = c
theorem Pre.snoc {A : Nat → Int} {s k c : Nat} (h : Pre A s k c) (hB : A (s + k) ≠ 10) (hP : A (s + k) = 22 → 0 < c) : Pre A s (k + 1) (if A (s + k) = 22 then c - 1 else if begC (A (s + k)) then c + 1 else c) := by
  refine ⟨fun t ht => ?_, fun t ht => ?_, by rw [opnA, h.opn]⟩
  · by_cases e : t = k
    · subst e; exact hB
    · exact h.noB t (by omega)
  · by_cases e : t = k
    · subst e; rw [h.opn]; exact hP
    · exact h.pdi t (by omega)
theorem wh_pre {A l : Nat → Int} {s : Nat} : ∀ k, Lies A s (whRun l k).1 → Pre A s (whRun l k).1.length (whRun l k).2
  | 0, _ => ⟨fun t ht => absurd ht (Nat.not_lt_zero _), fun t ht => absurd ht (Nat.not_lt_zero _), rfl⟩
  | k + 1, h => by
    have r : whRun l (k + 1) = whStep (l k) (whRun l k) := rfl
    rw [r] at h ⊢
    have ih := wh_pre (A := A) (l := l) (s := s) k
    generalize whRun l k = m at h ih ⊢
    unfold whStep at h ⊢
    by_cases hc : l k = 10 ∨ (l k = 22 ∧ m.2 = 0)
    · rw [if_pos hc] at h ⊢
      exact ih h
    · rw [if_neg hc] at h ⊢
      have i := ih h.left
      have e : A (s + m.1.length) = l k := h m.1.length (l k) (by simp)
      have := i.snoc (by rw [e]; omega) (by rw [e]; omega)
      rw [e] at this
      simpa using this
theorem rep_pre {A : Nat → Int} {s k : Nat} : ∀ c, Pre A s k c → Lies A (s + k) (List.replicate c 22) → Bal A s (k + c)
  | 0, h, _ => ⟨h.noB, h.pdi, h.opn⟩
  | c + 1, h, hl => by
    have e : A (s + k) = 22 := by
      have := hl 0 22 (by simp)
      simpa using this
    have h2 := h.snoc (by rw [e]; decide) (by omega)
    rw [if_pos e, Nat.add_sub_cancel] at h2
    have := rep_pre c h2 (fun j x hx => by
      have := hl (j + 1) x (by rw [List.replicate_succ, List.getElem?_cons_succ]; exact hx)
      rw [← this]; congr 1; omega)
    rw [show k + (c + 1) = k + 1 + c by omega]
    exact this
theorem whole_bal {A l : Nat → Int} {s ln : Nat} (h : Lies A s (wholeL ln l)) : Bal A s (wholeL ln l).length := by
  have := rep_pre _ (wh_pre (A := A) (l := l) (s := s) (min ln 20) h.left) h.right
  unfold wholeL
  rw [List.length_append, List.length_replicate]
  exact this
theorem whole_len (ln : Nat) (l : Nat → Int) : (wholeL ln l).length ≤ 40 := by
  have := whRun_le l (min ln 20)
  unfold wholeL
  rw [List.length_append, List.length_replicate]
  omega
end Go.Proofs.Ytihmolafajmbjaa

/- The law of closed isolates: two lists that differ in the isolate alone. -/
namespace Go.Proofs.Ytihmolafajmbjaa
open Go Vx

def mkA (n k : Nat) (bg : Int) (l0 X l2 : Nat → Int) : Nat → Int := fun j => if j < n then l0 j else if j < n + 1 then bg else if j < n + 1 + k then X (j - (n + 1)) else if j < n + 1 + k + 1 then 22 else l2 (j - (n + 1 + k + 1))
theorem mk_cut {n k : Nat} {bg : Int} {l0 X l2 : Nat → Int} (hb : begC bg = true) {n1 : Nat} {l1 : Nat → Int} (hX : tab k X = wholeL n1 l1) : Cut (mkA n k bg l0 X l2) (fun j => if j < n then l0 j else l2 (j - n)) n k := by
  refine ⟨fun j hj => ?_, ?_, ?_, ?_, fun q => ?_⟩
  · simp only [mkA]; rw [if_pos hj, if_pos hj]
  · simp only [mkA]; rw [if_neg (by omega), if_pos (by omega)]; exact hb
  · have := whole_bal (A := mkA n k bg l0 X l2) (l := l1) (s := n + 1) (ln := n1) (by
      rw [← hX]
      intro j x hx
      have hj : j < k := by
        have := (List.getElem?_eq_some_iff.1 hx).1
        rwa [tab_len] at this
      rw [tab_get _ _ _ hj] at hx
      injection hx with hx
      simp only [mkA]
      rw [if_neg (by omega), if_neg (by omega), if_pos (by omega), ← hx]
      congr 1; omega)
    rw [← hX, tab_len] at this
    exact this
  · simp only [mkA]; rw [if_neg (by omega), if_neg (by omega), if_neg (by omega), if_pos (by omega)]
  · simp only [mkA]
    rw [if_neg (by omega), if_neg (by omega), if_neg (by omega), if_neg (by omega), if_neg (by omega)]
    congr 1; omega
theorem lev_parts {n k m : Nat} {xs : Nat → Int} {P I Z : List Int} {top : Int} (h : tab (n + k + 2 + m) xs = P ++ [top] ++ I ++ [top] ++ Z) (hP : P.length = n) (hI : I.length = k) (hZ : Z.length = m) :
    (∀ i, i ≤ n → xs i = (P ++ [top]).getD i 0) ∧ ∀ i, i ≤ m → xs (n + k + 2 + m - 1 - i) = ([top] ++ Z).getD (m - i) 0 := by
  have g : ∀ j, j < n + k + 2 + m → some (xs j) = (P ++ [top] ++ I ++ [top] ++ Z)[j]? := fun j hj => by rw [← h, tab_get _ _ _ hj]
  refine ⟨fun i hi => ?_, fun i hi => ?_⟩
  · have := g i (by omega)
    rw [List.append_assoc (P ++ [top]), List.append_assoc (P ++ [top]), List.getElem?_append_left (by simp; omega)] at this
    rw [List.getD_eq_getElem?_getD, ← this]; rfl
  · have := g (n + k + 2 + m - 1 - i) (by omega)
    rw [List.append_assoc (P ++ [top] ++ I), List.getElem?_append_right (by simp; omega)] at this
    rw [List.getD_eq_getElem?_getD, show m - i = n + k + 2 + m - 1 - i - (P ++ [top] ++ I).length by simp; omega, ← this]; rfl
theorem closed_pair (n n2 : Nat) (hn : n ≤ 20) (l0 l2 : Nat → Int) (bg : Int) (hb : begC bg = true) (base : Int) (hbb : 0 ≤ base ∧ base ≤ 1) {kx ky n1 n3 : Nat} {X Y l1 l3 : Nat → Int} (hX : tab kx X = wholeL n1 l1) (hY : tab ky Y = wholeL n3 l3) (xs ys : Nat → Int)
    (h1 : tab (n + kx + 2 + n2) xs = (levM (n + kx + 2 + n2) (mkA n kx bg l0 X l2) base).xs) (h2 : tab (n + ky + 2 + n2) ys = (levM (n + ky + 2 + n2) (mkA n ky bg l0 Y l2) base).xs) :
    (∀ i, i ≤ n → xs i = ys i) ∧ ∀ i, i ≤ n2 → xs (n + kx + 2 + n2 - 1 - i) = ys (n + ky + 2 + n2 - 1 - i) := by
  obtain ⟨P, Z, top, hP, hZ, h⟩ := closed_law (fun j => if j < n then l0 j else l2 (j - n)) n n2 base hbb
  have wx := whole_len n1 l1
  have wy := whole_len n3 l3
  rw [← hX, tab_len] at wx
  rw [← hY, tab_len] at wy
  obtain ⟨I, i1, i2⟩ := h _ kx (mk_cut hb hX) (by omega)
  obtain ⟨J, j1, j2⟩ := h _ ky (mk_cut hb hY) (by omega)
  rw [i2] at h1
  rw [j2] at h2
  obtain ⟨a1, a2⟩ := lev_parts h1 hP i1 hZ
  obtain ⟨b1, b2⟩ := lev_parts h2 hP j1 hZ
  exact ⟨fun i hi => by rw [a1 i hi, b1 i hi], fun i hi => by rw [a2 i hi, b2 i hi]⟩

theorem leafA {ltB : Nat → Nat → Bool} {addN subN : Nat → Nat → Nat} (h1 : ltB = Vx.ltB) (h2 : addN = Vx.addN) (h3 : subN = Vx.subN) (n k : Nat) (bg : Int) (l0 X l2 : Nat → Int) (e : Nat → List AV) (j : Nat) :
    icol .i64 (mkA n k bg l0 X l2) j = match ltB j (addN (addN (addN (addN 0 n) 1) k) 1) with
      | true => (match ltB j (addN (addN (addN 0 n) 1) k) with
        | true => (match ltB j (addN (addN 0 n) 1) with
          | true => (match ltB j (addN 0 n) with
            | true => (match ltB j 0 with
              | true => e j
              | false => icol .i64 l0 (subN j 0))
            | false => [[AV.int .i64 bg]].getD (subN j (addN 0 n)) [])
          | false => icol .i64 X (subN j (addN (addN 0 n) 1)))
        | false => [[AV.int .i64 22]].getD (subN j (addN (addN (addN 0 n) 1) k)) [])
      | false => icol .i64 l2 (subN j (addN (addN (addN (addN 0 n) 1) k) 1)) := by
  subst h1 h2 h3
  simp only [plain, Vx.addN, Vx.subN, icol, mkA, Nat.zero_add, Nat.sub_zero]
  have lt : ∀ a b : Nat, Vx.ltB a b = decide (a < b) := fun a b => by
    cases h : Vx.ltB a b
    · simp only [plain] at h; simp [h]
    · simp only [plain] at h; simp [h]
  simp only [lt]
  by_cases c1 : j < n
  · simp [c1, show j < n + 1 by omega, show j < n + 1 + k by omega, show j < n + 1 + k + 1 by omega]
  · by_cases c2 : j < n + 1
    · obtain rfl : j = n := by omega
      simp [show j < j + 1 + k by omega, show j < j + 1 + k + 1 by omega]
    · by_cases c3 : j < n + 1 + k
      · simp [c1, c2, c3, show j < n + 1 + k + 1 by omega]
      · by_cases c4 : j < n + 1 + k + 1
        · obtain rfl : j = n + 1 + k := by omega
          simp [show ¬ n + 1 + k < n by omega, show ¬ n + 1 + k < n + 1 by omega]
        · simp [c1, c2, c3, c4]
end Go.Proofs.Ytihmolafajmbjaa

/- The law of closed isolates: the walk. -/
namespace Go.Proofs.Ytihmolafajmbjaa
open Go Vx

theorem f6_ok1 (n0 n1 n2 n3 : Nat) (l0 l1 l2 l3 : Nat → Int) (how : Int) (m0 : n0 ≤ 140737488355328) (m1 : n1 ≤ 140737488355328) (m2 : n2 ≤ 140737488355328) (m3 : n3 ≤ 140737488355328) : FSpec Try.prog 6 [.agg [.rows 1 n0 (icol .i64 l0), .rows 1 n1 (icol .i64 l1), .rows 1 n2 (icol .i64 l2)], .rows 1 n3 (icol .i64 l3), .int .i64 how] [] (fun r H' => r = .bool true) := by
  have h8 := f8_ok
  obtain ⟨base, hbs, hbs2⟩ := band_le (Vx.ishr .i64 how 1) 1 (by decide)
  obtain ⟨bz, hbz⟩ : ∃ bz : Int, bz = base := ⟨_, rfl⟩
  refine FSpec.of (fn := Try.f6) Try.func6 rfl rfl (by simp) fun C hC => ?_
  obtain ⟨iadd, isub, imul, iquo, irem, iband, ibor, ibxor, ibandn, ishl, ishr, iconv, ieq, ine, ilt, ile, igt, ige, bbeq, bbne, bnot, bband, sseq, ssne, sscat, sssub, sslen, sssz, ssbyte, toN, ofN, addN, subN, eqN, ltB, leN, imx, imn, inb, leb, sslt, ltN, fit, ne0, ge0, ssfit, minN, inR, hS⟩ := names
  have eb : iband .i64 (ishr .i64 how 1) 1 = bz := by simp only [hS.glob]; rw [hbz]; exact hbs
  have hb : 0 ≤ bz ∧ bz ≤ 1 := by omega
  clear hbs hbs2 hbz
  refine V.go Try.func6 tl_ok mixed hS.ops [] 400 ?_
  intro VV VA W hVV hVA hW
  conv => cbv
  obtain ⟨bg, hbg⟩ : ∃ bg : Int, bg = if ieq (iband .i64 how 1) 1 = true then 19 else 20 := ⟨_, rfl⟩
  cases g0 : ieq (iband .i64 how 1) 1
  · conv => cbv
    cases g1 : igt (iadd .i64 (iadd .i64 (ofN n0) (ofN n1)) (ofN n2)) 400
    · conv => cbv
      cases g2 : igt (ofN n3) 400
      · conv => cbv
        simp (disch := first | omega | (simp only [hS.glob, wraps, plain, Int.ofNat_eq_natCast]; omega)) only [hS.glob, wraps, plain, Int.ofNat_eq_natCast] at g1 g2
        rw [hVV]
        clear hVV hVA VV VA hW W
        obtain ⟨bg, hbg, hbg2⟩ : ∃ bg : Int, bg = 20 ∧ begC bg = true := ⟨20, rfl, rfl⟩
        rw [← hbg]
        clear hbg
        refine V.to (s' := [(44, .rows 1 n1 (icol .i64 l1)), (7, .int .i64 bg), (3, .ptr 0 0 0), (1, .rows 1 n3 (icol .i64 l3)), (2, .int .i64 how)]) (H' := [some ⟨38, 3, .lit [[.rows 1 n0 (icol .i64 l0), .rows 1 n1 (icol .i64 l1), .rows 1 n2 (icol .i64 l2)]]⟩]) ?_ (by (repeat' first | exact trivial | rfl | (refine And.intro ?_ ?_) | (refine sti ?_; (first | rfl | omega | (simp (disch := omega) only [hS.glob, wraps, plain, Int.ofNat_eq_natCast]; first | done | rfl | omega | (simp; done) | (simp; omega)) | (simp (disch := omega) only [hS.glob, wraps, plain, Int.ofNat_eq_natCast, Vx.toN]; omega))) | (refine slq ?_ ?_ ?_ <;> (first | rfl | omega | (simp (disch := omega) only [hS.glob, wraps, plain, Int.ofNat_eq_natCast]; first | done | rfl | omega | (simp; done) | (simp; omega)) | (simp (disch := omega) only [hS.glob, wraps, plain, Int.ofNat_eq_natCast, Vx.toN]; omega))) | (refine ptq ?_ ?_ ?_ <;> (first | rfl | omega | (simp (disch := omega) only [hS.glob, wraps, plain, Int.ofNat_eq_natCast]; first | done | rfl | omega | (simp; done) | (simp; omega)) | (simp (disch := omega) only [hS.glob, wraps, plain, Int.ofNat_eq_natCast, Vx.toN]; omega))) | (refine blq ?_; (first | rfl | omega | (simp (disch := omega) only [hS.glob, wraps, plain, Int.ofNat_eq_natCast]; first | done | rfl | omega | (simp; done) | (simp; omega)) | (simp (disch := omega) only [hS.glob, wraps, plain, Int.ofNat_eq_natCast, Vx.toN]; omega))))) rfl (by (repeat' first | exact trivial | rfl | exact Nat.le_refl _ | exact (fun _ _ => rfl) | (refine And.intro ?_ ?_) | (simp only [hS.glob, plain]; first | done | omega))) (by rw [hC]; simp)
        refine V.call rfl rfl rfl rfl rfl Try.func18 rfl (by decide) [] (by simp) (by simp) (by (first | rfl | ((conv => cbv); (repeat' apply And.intro) <;> first | rfl | trivial | (first | rfl | omega | (simp (disch := omega) only [hS.glob, wraps, plain, Int.ofNat_eq_natCast]; first | done | rfl | omega | (simp; done) | (simp; omega)) | (simp (disch := omega) only [hS.glob, wraps, plain, Int.ofNat_eq_natCast, Vx.toN]; omega))))) rfl (f18_ok1 n1 l1 (by omega)) ?_
        rintro r Hc ⟨kx, X, rfl, rfl, hX⟩
        refine V.freeze0 45 1 kx (by rfl) (by rfl) (by rfl) (by first | decide | omega | exact Nat.zero_lt_one) (by rfl) (by rfl) (by first | exact Nat.le_refl _ | decide | omega | (simp only [Cont.n]; omega)) ?_
        refine V.go Try.func6 tl_ok mixed hS.ops [] 400 ?_
        intro VV VA W hVV hVA hW
        conv => cbv
        rw [hVV]
        clear hVV hVA VV VA hW W
        refine V.call rfl rfl rfl rfl rfl Try.func18 rfl (by decide) [] (by simp) (by simp) (by (first | rfl | ((conv => cbv); (repeat' apply And.intro) <;> first | rfl | trivial | (first | rfl | omega | (simp (disch := omega) only [hS.glob, wraps, plain, Int.ofNat_eq_natCast]; first | done | rfl | omega | (simp; done) | (simp; omega)) | (simp (disch := omega) only [hS.glob, wraps, plain, Int.ofNat_eq_natCast, Vx.toN]; omega))))) rfl (f18_ok1 n3 l3 (by omega)) ?_
        rintro r Hc ⟨ky, Y, rfl, rfl, hY⟩
        refine V.freeze0 47 2 ky (by rfl) (by rfl) (by rfl) (by first | decide | omega | exact Nat.zero_lt_one) (by rfl) (by rfl) (by first | exact Nat.le_refl _ | decide | omega | (simp only [Cont.n]; omega)) ?_
        refine V.go Try.func6 tl_ok mixed hS.ops [] 400 ?_
        intro VV VA W hVV hVA hW
        conv => cbv
        rw [hVV]
        clear hVV hVA VV VA hW W
        obtain ⟨n, hn⟩ : ∃ n, n = min n0 20 := ⟨_, rfl⟩
        refine V.call rfl rfl rfl rfl rfl Try.func19 rfl (by decide) [] (by simp) (by simp) (by (first | rfl | ((conv => cbv); (repeat' apply And.intro) <;> first | rfl | trivial | (first | rfl | omega | (simp (disch := omega) only [hS.glob, wraps, plain, Int.ofNat_eq_natCast]; first | done | rfl | omega | (simp; done) | (simp; omega)) | (simp (disch := omega) only [hS.glob, wraps, plain, Int.ofNat_eq_natCast, Vx.toN]; omega))))) rfl (f19_ok n0 l0 n hn) ?_
        rintro r Hc ⟨rfl, rfl⟩
        have wx := whole_len n1 l1
        have wy := whole_len n3 l3
        rw [← hX, tab_len] at wx
        rw [← hY, tab_len] at wy
        refine V.go Try.func6 tl_ok mixed hS.ops [] 77 ?_
        intro VV VA W hVV hVA hW
        conv => cbv
        repeat (refine ⟨by first | (rw [hW]; show ordOk _ _ _ = true; kernel_rfl) | (first | trivial | omega | (simp (disch := omega) only [hS.glob, wraps, plain, Int.ofNat_eq_natCast]; first | done | omega | trivial | (simp; done) | (simp; omega) | (constructor <;> omega)) | (simp (disch := omega) only [hS.glob, wraps, plain, Int.ofNat_eq_natCast, Vx.toN]; omega)), ?_⟩)
        rw [hVV]
        clear hVV hVA VV VA hW W
        obtain ⟨na, hna⟩ : ∃ na, na = n + kx + 2 + n2 := ⟨_, rfl⟩
        obtain ⟨nb, hnb⟩ : ∃ nb, nb = n + ky + 2 + n2 := ⟨_, rfl⟩
        obtain ⟨A, hA⟩ : ∃ A, A = mkA n kx bg l0 X l2 := ⟨_, rfl⟩
        obtain ⟨B, hB⟩ : ∃ B, B = mkA n ky bg l0 Y l2 := ⟨_, rfl⟩
        refine V.to (s' := [(11, .sl 10 0 na), (12, .sl 18 0 nb), (10, .rows 1 n (icol .i64 l0)), (2, .int .i64 how), (3, .ptr 0 0 0)]) (H' := [some ⟨38, 3, .lit [[.rows 1 n0 (icol .i64 l0), .rows 1 n1 (icol .i64 l1), .rows 1 n2 (icol .i64 l2)]]⟩, none, none, none, none, none, none, none, none, none, some ⟨34, 1, .arr na (icol .i64 A)⟩, none, none, none, none, none, none, none, some ⟨34, 1, .arr nb (icol .i64 B)⟩]) ?_ (by (repeat' first | exact trivial | rfl | (refine And.intro ?_ ?_) | (refine sti ?_; (first | rfl | omega | (simp (disch := omega) only [hS.glob, wraps, plain, Int.ofNat_eq_natCast]; first | done | rfl | omega | (simp; done) | (simp; omega)) | (simp (disch := omega) only [hS.glob, wraps, plain, Int.ofNat_eq_natCast, Vx.toN]; omega))) | (refine slq ?_ ?_ ?_ <;> (first | rfl | omega | (simp (disch := omega) only [hS.glob, wraps, plain, Int.ofNat_eq_natCast]; first | done | rfl | omega | (simp; done) | (simp; omega)) | (simp (disch := omega) only [hS.glob, wraps, plain, Int.ofNat_eq_natCast, Vx.toN]; omega))) | (refine ptq ?_ ?_ ?_ <;> (first | rfl | omega | (simp (disch := omega) only [hS.glob, wraps, plain, Int.ofNat_eq_natCast]; first | done | rfl | omega | (simp; done) | (simp; omega)) | (simp (disch := omega) only [hS.glob, wraps, plain, Int.ofNat_eq_natCast, Vx.toN]; omega))) | (refine blq ?_; (first | rfl | omega | (simp (disch := omega) only [hS.glob, wraps, plain, Int.ofNat_eq_natCast]; first | done | rfl | omega | (simp; done) | (simp; omega)) | (simp (disch := omega) only [hS.glob, wraps, plain, Int.ofNat_eq_natCast, Vx.toN]; omega))))) rfl ⟨⟨rfl, rfl, rfl, rfl⟩, ⟨rfl, rfl, ⟨by (first | trivial | omega | (simp (disch := omega) only [hS.glob, wraps, plain, Int.ofNat_eq_natCast]; first | done | omega | trivial | (simp; done) | (simp; omega) | (constructor <;> omega)) | (simp (disch := omega) only [hS.glob, wraps, plain, Int.ofNat_eq_natCast, Vx.toN]; omega)), fun j hj => (by subst hA; exact leafA (ltB := ltB) (addN := addN) (subN := subN) (by simp [hS.glob]) (by simp [hS.glob]) (by simp [hS.glob]) n kx bg l0 X l2 (fun j => [].getD j []) j)⟩, rfl⟩, ⟨rfl, rfl, ⟨by (first | trivial | omega | (simp (disch := omega) only [hS.glob, wraps, plain, Int.ofNat_eq_natCast]; first | done | omega | trivial | (simp; done) | (simp; omega) | (constructor <;> omega)) | (simp (disch := omega) only [hS.glob, wraps, plain, Int.ofNat_eq_natCast, Vx.toN]; omega)), fun j hj => (by subst hB; exact leafA (ltB := ltB) (addN := addN) (subN := subN) (by simp [hS.glob]) (by simp [hS.glob]) (by simp [hS.glob]) n ky bg l0 Y l2 (fun j => [].getD j []) j)⟩, rfl⟩, trivial⟩ (by rw [hC]; simp)
        refine V.freeze0 11 10 na (by rfl) (by rfl) (by rfl) (by first | decide | omega | exact Nat.zero_lt_one) (by rfl) (by rfl) (by first | exact Nat.le_refl _ | decide | omega | (simp only [Cont.n]; omega)) ?_
        refine V.freeze0 12 18 nb (by rfl) (by rfl) (by rfl) (by first | decide | omega | exact Nat.zero_lt_one) (by rfl) (by rfl) (by first | exact Nat.le_refl _ | decide | omega | (simp only [Cont.n]; omega)) ?_
        have hpair := fun xs ys => closed_pair n n2 (by omega) l0 l2 bg hbg2 bz hb hX hY xs ys
        rw [← hA, ← hB, ← hna, ← hnb] at hpair
        have h15a := f15_ok na A (by omega) bz (by omega)
        have h15b := f15_ok nb B (by omega) bz (by omega)
        rw [show baseOf na A bz = bz by unfold baseOf; rw [if_neg (by omega)]] at h15a
        rw [show baseOf nb B bz = bz by unfold baseOf; rw [if_neg (by omega)]] at h15b
        generalize levM na A bz = M at hpair h15a
        generalize levM nb B bz = M' at hpair h15b
        refine V.to (s' := [(11, .rows 1 na (icol .i64 A)), (12, .rows 1 nb (icol .i64 B)), (10, .rows 1 n (icol .i64 l0)), (2, .int .i64 how), (3, .ptr 0 0 0)]) (H' := [some ⟨38, 3, .lit [[.rows 1 n0 (icol .i64 l0), .rows 1 n1 (icol .i64 l1), .rows 1 n2 (icol .i64 l2)]]⟩]) ?_ (by (repeat' first | exact trivial | rfl | (refine And.intro ?_ ?_) | (refine sti ?_; (first | rfl | omega | (simp (disch := omega) only [hS.glob, wraps, plain, Int.ofNat_eq_natCast]; first | done | rfl | omega | (simp; done) | (simp; omega)) | (simp (disch := omega) only [hS.glob, wraps, plain, Int.ofNat_eq_natCast, Vx.toN]; omega))) | (refine slq ?_ ?_ ?_ <;> (first | rfl | omega | (simp (disch := omega) only [hS.glob, wraps, plain, Int.ofNat_eq_natCast]; first | done | rfl | omega | (simp; done) | (simp; omega)) | (simp (disch := omega) only [hS.glob, wraps, plain, Int.ofNat_eq_natCast, Vx.toN]; omega))) | (refine ptq ?_ ?_ ?_ <;> (first | rfl | omega | (simp (disch := omega) only [hS.glob, wraps, plain, Int.ofNat_eq_natCast]; first | done | rfl | omega | (simp; done) | (simp; omega)) | (simp (disch := omega) only [hS.glob, wraps, plain, Int.ofNat_eq_natCast, Vx.toN]; omega))) | (refine blq ?_; (first | rfl | omega | (simp (disch := omega) only [hS.glob, wraps, plain, Int.ofNat_eq_natCast]; first | done | rfl | omega | (simp; done) | (simp; omega)) | (simp (disch := omega) only [hS.glob, wraps, plain, Int.ofNat_eq_natCast, Vx.toN]; omega))))) rfl ⟨⟨rfl, rfl, rfl, rfl⟩, trivial⟩ (by rw [hC]; simp)
        clear hA hB hX hY
        refine V.go Try.func6 tl_ok mixed hS.ops [] 400 ?_
        intro VV VA W hVV hVA hW
        conv => cbv
        repeat (refine ⟨by first | (rw [hW]; show ordOk _ _ _ = true; kernel_rfl) | (first | trivial | omega | (simp (disch := omega) only [hS.glob, wraps, plain, Int.ofNat_eq_natCast]; first | done | omega | trivial | (simp; done) | (simp; omega) | (constructor <;> omega)) | (simp (disch := omega) only [hS.glob, wraps, plain, Int.ofNat_eq_natCast, Vx.toN]; omega)), ?_⟩)
        simp only [eb]
        rw [hVV]
        clear hVV hVA VV VA hW W
        refine V.call rfl rfl rfl rfl rfl Try.func15 rfl (by decide) [] (by simp) (by simp) (by (first | rfl | ((conv => cbv); (repeat' apply And.intro) <;> first | rfl | trivial | (first | rfl | omega | (simp (disch := omega) only [hS.glob, wraps, plain, Int.ofNat_eq_natCast]; first | done | rfl | omega | (simp; done) | (simp; omega)) | (simp (disch := omega) only [hS.glob, wraps, plain, Int.ofNat_eq_natCast, Vx.toN]; omega))))) rfl h15a ?_
        rintro r Hc ⟨xs, cs, rfl, rfl, x1, -⟩
        clear h15a
        refine V.go Try.func6 tl_ok mixed hS.ops [] 400 ?_
        intro VV VA W hVV hVA hW
        conv => cbv
        repeat (refine ⟨by first | (rw [hW]; show ordOk _ _ _ = true; kernel_rfl) | (first | trivial | omega | (simp (disch := omega) only [hS.glob, wraps, plain, Int.ofNat_eq_natCast]; first | done | omega | trivial | (simp; done) | (simp; omega) | (constructor <;> omega)) | (simp (disch := omega) only [hS.glob, wraps, plain, Int.ofNat_eq_natCast, Vx.toN]; omega)), ?_⟩)
        simp only [eb]
        rw [hVV]
        clear hVV hVA VV VA hW W
        refine V.call rfl rfl rfl rfl rfl Try.func15 rfl (by decide) [] (by simp) (by simp) (by (first | rfl | ((conv => cbv); (repeat' apply And.intro) <;> first | rfl | trivial | (first | rfl | omega | (simp (disch := omega) only [hS.glob, wraps, plain, Int.ofNat_eq_natCast]; first | done | rfl | omega | (simp; done) | (simp; omega)) | (simp (disch := omega) only [hS.glob, wraps, plain, Int.ofNat_eq_natCast, Vx.toN]; omega))))) rfl h15b ?_
        rintro r Hc ⟨ys, ds, rfl, rfl, x2, -⟩
        clear h15b
        obtain ⟨p1, p2⟩ := hpair xs ys x1 x2
        clear hpair x1 x2 M M'
        refine V.go Try.func6 tl_ok mixed hS.ops [] 400 ?_
        intro VV VA W hVV hVA hW
        conv => cbv
        have e1 : ine 0 0 = false := by simp (disch := first | omega | (simp only [hS.glob, wraps, plain, Int.ofNat_eq_natCast]; omega)) only [hS.glob, wraps, plain, Int.ofNat_eq_natCast]
        have e2 : ine (ofN na) (ofN na) = false := by simp (disch := first | omega | (simp only [hS.glob, wraps, plain, Int.ofNat_eq_natCast]; omega)) only [hS.glob, wraps, plain, Int.ofNat_eq_natCast]
        have e3 : ine (ofN nb) (ofN nb) = false := by simp (disch := first | omega | (simp only [hS.glob, wraps, plain, Int.ofNat_eq_natCast]; omega)) only [hS.glob, wraps, plain, Int.ofNat_eq_natCast]
        simp only [e1]
        conv => cbv
        simp only [e1]
        conv => cbv
        simp only [e2]
        conv => cbv
        simp only [e3]
        conv => cbv
        rw [hVV]
        clear hVV hVA VV VA hW W e1 e2 e3
        refine V.freeze0 13 1 na (by rfl) (by rfl) (by rfl) (by first | decide | omega | exact Nat.zero_lt_one) (by rfl) (by rfl) (by first | exact Nat.le_refl _ | decide | omega | (simp only [Cont.n]; omega)) ?_
        refine V.freeze0 16 3 nb (by rfl) (by rfl) (by rfl) (by first | decide | omega | exact Nat.zero_lt_one) (by rfl) (by rfl) (by first | exact Nat.le_refl _ | decide | omega | (simp only [Cont.n]; omega)) ?_
        refine V.to (s' := [(20, .int .i64 (ofN 0)), (13, .rows 1 na (icol .i64 xs)), (16, .rows 1 nb (icol .i64 ys)), (19, .int .i64 (ofN n)), (3, .ptr 0 0 0)]) (H' := [some ⟨38, 3, .lit [[.rows 1 n0 (icol .i64 l0), .rows 1 n1 (icol .i64 l1), .rows 1 n2 (icol .i64 l2)]]⟩]) ?_ (by (repeat' first | exact trivial | rfl | (refine And.intro ?_ ?_) | (refine sti ?_; (first | rfl | omega | (simp (disch := omega) only [hS.glob, wraps, plain, Int.ofNat_eq_natCast]; first | done | rfl | omega | (simp; done) | (simp; omega)) | (simp (disch := omega) only [hS.glob, wraps, plain, Int.ofNat_eq_natCast, Vx.toN]; omega))) | (refine slq ?_ ?_ ?_ <;> (first | rfl | omega | (simp (disch := omega) only [hS.glob, wraps, plain, Int.ofNat_eq_natCast]; first | done | rfl | omega | (simp; done) | (simp; omega)) | (simp (disch := omega) only [hS.glob, wraps, plain, Int.ofNat_eq_natCast, Vx.toN]; omega))) | (refine ptq ?_ ?_ ?_ <;> (first | rfl | omega | (simp (disch := omega) only [hS.glob, wraps, plain, Int.ofNat_eq_natCast]; first | done | rfl | omega | (simp; done) | (simp; omega)) | (simp (disch := omega) only [hS.glob, wraps, plain, Int.ofNat_eq_natCast, Vx.toN]; omega))) | (refine blq ?_; (first | rfl | omega | (simp (disch := omega) only [hS.glob, wraps, plain, Int.ofNat_eq_natCast]; first | done | rfl | omega | (simp; done) | (simp; omega)) | (simp (disch := omega) only [hS.glob, wraps, plain, Int.ofNat_eq_natCast, Vx.toN]; omega))))) rfl ⟨⟨rfl, rfl, rfl, rfl⟩, trivial⟩ (by rw [hC]; simp)
        refine V.loop (γ := Nat) (fun i => i ≤ n + 1) (fun i => [(20, .int .i64 (ofN i)), (13, .rows 1 na (icol .i64 xs)), (16, .rows 1 nb (icol .i64 ys)), (19, .int .i64 (ofN n)), (3, .ptr 0 0 0)]) (fun _ => [some ⟨38, 3, .lit [[.rows 1 n0 (icol .i64 l0), .rows 1 n1 (icol .i64 l1), .rows 1 n2 (icol .i64 l2)]]⟩]) (fun i => n + 1 - i) ?_ 0 (Nat.zero_le _)
        rintro i hi hback
        refine V.go Try.func6 tl_ok mixed hS.ops [] 400 ?_
        intro VV VA W hVV hVA hW
        conv => cbv
        cases h1 : ile (ofN i) (ofN n)
        · conv => cbv
          rw [hVV]
          clear hVV hVA VV VA hW W hback
          refine V.to (s' := [(21, .int .i64 (ofN 0)), (13, .rows 1 na (icol .i64 xs)), (16, .rows 1 nb (icol .i64 ys)), (3, .ptr 0 0 0)]) (H' := [some ⟨38, 3, .lit [[.rows 1 n0 (icol .i64 l0), .rows 1 n1 (icol .i64 l1), .rows 1 n2 (icol .i64 l2)]]⟩]) ?_ (by (repeat' first | exact trivial | rfl | (refine And.intro ?_ ?_) | (refine sti ?_; (first | rfl | omega | (simp (disch := omega) only [hS.glob, wraps, plain, Int.ofNat_eq_natCast]; first | done | rfl | omega | (simp; done) | (simp; omega)) | (simp (disch := omega) only [hS.glob, wraps, plain, Int.ofNat_eq_natCast, Vx.toN]; omega))) | (refine slq ?_ ?_ ?_ <;> (first | rfl | omega | (simp (disch := omega) only [hS.glob, wraps, plain, Int.ofNat_eq_natCast]; first | done | rfl | omega | (simp; done) | (simp; omega)) | (simp (disch := omega) only [hS.glob, wraps, plain, Int.ofNat_eq_natCast, Vx.toN]; omega))) | (refine ptq ?_ ?_ ?_ <;> (first | rfl | omega | (simp (disch := omega) only [hS.glob, wraps, plain, Int.ofNat_eq_natCast]; first | done | rfl | omega | (simp; done) | (simp; omega)) | (simp (disch := omega) only [hS.glob, wraps, plain, Int.ofNat_eq_natCast, Vx.toN]; omega))) | (refine blq ?_; (first | rfl | omega | (simp (disch := omega) only [hS.glob, wraps, plain, Int.ofNat_eq_natCast]; first | done | rfl | omega | (simp; done) | (simp; omega)) | (simp (disch := omega) only [hS.glob, wraps, plain, Int.ofNat_eq_natCast, Vx.toN]; omega))))) rfl ⟨⟨rfl, rfl, rfl, rfl⟩, trivial⟩ (by rw [hC]; simp)
          refine V.loop (γ := Nat) (fun i => i ≤ n2 + 1) (fun i => [(21, .int .i64 (ofN i)), (13, .rows 1 na (icol .i64 xs)), (16, .rows 1 nb (icol .i64 ys)), (3, .ptr 0 0 0)]) (fun _ => [some ⟨38, 3, .lit [[.rows 1 n0 (icol .i64 l0), .rows 1 n1 (icol .i64 l1), .rows 1 n2 (icol .i64 l2)]]⟩]) (fun i => n2 + 1 - i) ?_ 0 (Nat.zero_le _)
          clear hi h1 i
          rintro i hi hback
          refine V.go Try.func6 tl_ok mixed hS.ops [] 400 ?_
          intro VV VA W hVV hVA hW
          conv => cbv
          cases h1 : ile (ofN i) (ofN n2)
          · conv => cbv
            rw [hVV]
            clear hVV hVA VV VA hW W hback
            refine V.call rfl rfl rfl rfl rfl Try.func8 rfl (by decide) [] (by simp) (by simp) (by (first | rfl | ((conv => cbv); (repeat' apply And.intro) <;> first | rfl | trivial | (first | rfl | omega | (simp (disch := omega) only [hS.glob, wraps, plain, Int.ofNat_eq_natCast]; first | done | rfl | omega | (simp; done) | (simp; omega)) | (simp (disch := omega) only [hS.glob, wraps, plain, Int.ofNat_eq_natCast, Vx.toN]; omega))))) rfl h8 ?_
            rintro r Hc ⟨rfl, rfl⟩
            refine V.go Try.func6 tl_ok mixed hS.ops [] 400 ?_
            intro VV VA W hVV hVA hW
            conv => cbv
            trivial
          · conv => cbv
            simp (disch := first | omega | (simp only [hS.glob, wraps, plain, Int.ofNat_eq_natCast]; omega)) only [hS.glob, wraps, plain, Int.ofNat_eq_natCast] at h1
            repeat (refine ⟨by first | (rw [hW]; show ordOk _ _ _ = true; kernel_rfl) | (first | trivial | omega | (simp (disch := omega) only [hS.glob, wraps, plain, Int.ofNat_eq_natCast]; first | done | omega | trivial | (simp; done) | (simp; omega) | (constructor <;> omega)) | (simp (disch := omega) only [hS.glob, wraps, plain, Int.ofNat_eq_natCast, Vx.toN]; omega)), ?_⟩)
            have q1 : toN (isub .i64 (isub .i64 (ofN na) 1) (ofN i)) = na - 1 - i := by simp (disch := first | omega | (simp only [hS.glob, wraps, plain, Int.ofNat_eq_natCast]; omega)) only [hS.glob, wraps, plain, Int.ofNat_eq_natCast]; simp only [Vx.toN]; omega
            have q2 : toN (isub .i64 (isub .i64 (ofN nb) 1) (ofN i)) = nb - 1 - i := by simp (disch := first | omega | (simp only [hS.glob, wraps, plain, Int.ofNat_eq_natCast]; omega)) only [hS.glob, wraps, plain, Int.ofNat_eq_natCast]; simp only [Vx.toN]; omega
            have e1 : ine (xs (na - 1 - i)) (ys (nb - 1 - i)) = false := by simp (disch := first | omega | (simp only [hS.glob, wraps, plain, Int.ofNat_eq_natCast]; omega)) only [hS.glob, wraps, plain, Int.ofNat_eq_natCast]; exact p2 i (by omega)
            simp only [q1, q2, e1]
            conv => cbv
            repeat (refine ⟨by first | (rw [hW]; show ordOk _ _ _ = true; kernel_rfl) | (first | trivial | omega | (simp (disch := omega) only [hS.glob, wraps, plain, Int.ofNat_eq_natCast]; first | done | omega | trivial | (simp; done) | (simp; omega) | (constructor <;> omega)) | (simp (disch := omega) only [hS.glob, wraps, plain, Int.ofNat_eq_natCast, Vx.toN]; omega)), ?_⟩)
            rw [hVV]
            exact V.to (hback (i + 1) (by omega) (by omega)) (by (repeat' first | exact trivial | rfl | (refine And.intro ?_ ?_) | (refine sti ?_; (first | rfl | omega | (simp (disch := omega) only [hS.glob, wraps, plain, Int.ofNat_eq_natCast]; first | done | rfl | omega | (simp; done) | (simp; omega)) | (simp (disch := omega) only [hS.glob, wraps, plain, Int.ofNat_eq_natCast, Vx.toN]; omega))) | (refine slq ?_ ?_ ?_ <;> (first | rfl | omega | (simp (disch := omega) only [hS.glob, wraps, plain, Int.ofNat_eq_natCast]; first | done | rfl | omega | (simp; done) | (simp; omega)) | (simp (disch := omega) only [hS.glob, wraps, plain, Int.ofNat_eq_natCast, Vx.toN]; omega))) | (refine ptq ?_ ?_ ?_ <;> (first | rfl | omega | (simp (disch := omega) only [hS.glob, wraps, plain, Int.ofNat_eq_natCast]; first | done | rfl | omega | (simp; done) | (simp; omega)) | (simp (disch := omega) only [hS.glob, wraps, plain, Int.ofNat_eq_natCast, Vx.toN]; omega))) | (refine blq ?_; (first | rfl | omega | (simp (disch := omega) only [hS.glob, wraps, plain, Int.ofNat_eq_natCast]; first | done | rfl | omega | (simp; done) | (simp; omega)) | (simp (disch := omega) only [hS.glob, wraps, plain, Int.ofNat_eq_natCast, Vx.toN]; omega))))) rfl (by (repeat' first | exact trivial | rfl | exact Nat.le_refl _ | exact (fun _ _ => rfl) | (refine And.intro ?_ ?_) | (simp only [hS.glob, plain]; first | done | omega))) (by rw [hC]; simp)
        · conv => cbv
          simp (disch := first | omega | (simp only [hS.glob, wraps, plain, Int.ofNat_eq_natCast]; omega)) only [hS.glob, wraps, plain, Int.ofNat_eq_natCast] at h1
          repeat (refine ⟨by first | (rw [hW]; show ordOk _ _ _ = true; kernel_rfl) | (first | trivial | omega | (simp (disch := omega) only [hS.glob, wraps, plain, Int.ofNat_eq_natCast]; first | done | omega | trivial | (simp; done) | (simp; omega) | (constructor <;> omega)) | (simp (disch := omega) only [hS.glob, wraps, plain, Int.ofNat_eq_natCast, Vx.toN]; omega)), ?_⟩)
          simp only [hS.tidy]
          have e1 : ine (xs i) (ys i) = false := by simp (disch := first | omega | (simp only [hS.glob, wraps, plain, Int.ofNat_eq_natCast]; omega)) only [hS.glob, wraps, plain, Int.ofNat_eq_natCast]; exact p1 i (by omega)
          simp only [e1]
          conv => cbv
          repeat (refine ⟨by first | (rw [hW]; show ordOk _ _ _ = true; kernel_rfl) | (first | trivial | omega | (simp (disch := omega) only [hS.glob, wraps, plain, Int.ofNat_eq_natCast]; first | done | omega | trivial | (simp; done) | (simp; omega) | (constructor <;> omega)) | (simp (disch := omega) only [hS.glob, wraps, plain, Int.ofNat_eq_natCast, Vx.toN]; omega)), ?_⟩)
          rw [hVV]
          exact V.to (hback (i + 1) (by omega) (by omega)) (by (repeat' first | exact trivial | rfl | (refine And.intro ?_ ?_) | (refine sti ?_; (first | rfl | omega | (simp (disch := omega) only [hS.glob, wraps, plain, Int.ofNat_eq_natCast]; first | done | rfl | omega | (simp; done) | (simp; omega)) | (simp (disch := omega) only [hS.glob, wraps, plain, Int.ofNat_eq_natCast, Vx.toN]; omega))) | (refine slq ?_ ?_ ?_ <;> (first | rfl | omega | (simp (disch := omega) only [hS.glob, wraps, plain, Int.ofNat_eq_natCast]; first | done | rfl | omega | (simp; done) | (simp; omega)) | (simp (disch := omega) only [hS.glob, wraps, plain, Int.ofNat_eq_natCast, Vx.toN]; omega))) | (refine ptq ?_ ?_ ?_ <;> (first | rfl | omega | (simp (disch := omega) only [hS.glob, wraps, plain, Int.ofNat_eq_natCast]; first | done | rfl | omega | (simp; done) | (simp; omega)) | (simp (disch := omega) only [hS.glob, wraps, plain, Int.ofNat_eq_natCast, Vx.toN]; omega))) | (refine blq ?_; (first | rfl | omega | (simp (disch := omega) only [hS.glob, wraps, plain, Int.ofNat_eq_natCast]; first | done | rfl | omega | (simp; done) | (simp; omega)) | (simp (disch := omega) only [hS.glob, wraps, plain, Int.ofNat_eq_natCast, Vx.toN]; omega))))) rfl (by (repeat' first | exact trivial | rfl | exact Nat.le_refl _ | exact (fun _ _ => rfl) | (refine And.intro ?_ ?_) | (simp only [hS.glob, plain]; first | done | omega))) (by rw [hC]; simp)
      · conv => cbv
        rw [hVV]
        clear hVV hVA VV VA hW W
        refine V.call rfl rfl rfl rfl rfl Try.func8 rfl (by decide) [] (by simp) (by simp) (by (first | rfl | ((conv => cbv); (repeat' apply And.intro) <;> first | rfl | trivial | (first | rfl | omega | (simp (disch := omega) only [hS.glob, wraps, plain, Int.ofNat_eq_natCast]; first | done | rfl | omega | (simp; done) | (simp; omega)) | (simp (disch := omega) only [hS.glob, wraps, plain, Int.ofNat_eq_natCast, Vx.toN]; omega))))) rfl h8 ?_
        rintro r Hc ⟨rfl, rfl⟩
        refine V.go Try.func6 tl_ok mixed hS.ops [] 400 ?_
        intro VV VA W hVV hVA hW
        conv => cbv
        trivial
    · conv => cbv
      rw [hVV]
      clear hVV hVA VV VA hW W
      refine V.call rfl rfl rfl rfl rfl Try.func8 rfl (by decide) [] (by simp) (by simp) (by (first | rfl | ((conv => cbv); (repeat' apply And.intro) <;> first | rfl | trivial | (first | rfl | omega | (simp (disch := omega) only [hS.glob, wraps, plain, Int.ofNat_eq_natCast]; first | done | rfl | omega | (simp; done) | (simp; omega)) | (simp (disch := omega) only [hS.glob, wraps, plain, Int.ofNat_eq_natCast, Vx.toN]; omega))))) rfl h8 ?_
      rintro r Hc ⟨rfl, rfl⟩
      refine V.go Try.func6 tl_ok mixed hS.ops [] 400 ?_
      intro VV VA W hVV hVA hW
      conv => cbv
      trivial
  · conv => cbv
    cases g1 : igt (iadd .i64 (iadd .i64 (ofN n0) (ofN n1)) (ofN n2)) 400
    · conv => cbv
      cases g2 : igt (ofN n3) 400
      · conv => cbv
        simp (disch := first | omega | (simp only [hS.glob, wraps, plain, Int.ofNat_eq_natCast]; omega)) only [hS.glob, wraps, plain, Int.ofNat_eq_natCast] at g1 g2
        rw [hVV]
        clear hVV hVA VV VA hW W
        obtain ⟨bg, hbg, hbg2⟩ : ∃ bg : Int, bg = 19 ∧ begC bg = true := ⟨19, rfl, rfl⟩
        rw [← hbg]
        clear hbg
        refine V.to (s' := [(44, .rows 1 n1 (icol .i64 l1)), (7, .int .i64 bg), (3, .ptr 0 0 0), (1, .rows 1 n3 (icol .i64 l3)), (2, .int .i64 how)]) (H' := [some ⟨38, 3, .lit [[.rows 1 n0 (icol .i64 l0), .rows 1 n1 (icol .i64 l1), .rows 1 n2 (icol .i64 l2)]]⟩]) ?_ (by (repeat' first | exact trivial | rfl | (refine And.intro ?_ ?_) | (refine sti ?_; (first | rfl | omega | (simp (disch := omega) only [hS.glob, wraps, plain, Int.ofNat_eq_natCast]; first | done | rfl | omega | (simp; done) | (simp; omega)) | (simp (disch := omega) only [hS.glob, wraps, plain, Int.ofNat_eq_natCast, Vx.toN]; omega))) | (refine slq ?_ ?_ ?_ <;> (first | rfl | omega | (simp (disch := omega) only [hS.glob, wraps, plain, Int.ofNat_eq_natCast]; first | done | rfl | omega | (simp; done) | (simp; omega)) | (simp (disch := omega) only [hS.glob, wraps, plain, Int.ofNat_eq_natCast, Vx.toN]; omega))) | (refine ptq ?_ ?_ ?_ <;> (first | rfl | omega | (simp (disch := omega) only [hS.glob, wraps, plain, Int.ofNat_eq_natCast]; first | done | rfl | omega | (simp; done) | (simp; omega)) | (simp (disch := omega) only [hS.glob, wraps, plain, Int.ofNat_eq_natCast, Vx.toN]; omega))) | (refine blq ?_; (first | rfl | omega | (simp (disch := omega) only [hS.glob, wraps, plain, Int.ofNat_eq_natCast]; first | done | rfl | omega | (simp; done) | (simp; omega)) | (simp (disch := omega) only [hS.glob, wraps, plain, Int.ofNat_eq_natCast, Vx.toN]; omega))))) rfl (by (repeat' first | exact trivial | rfl | exact Nat.le_refl _ | exact (fun _ _ => rfl) | (refine And.intro ?_ ?_) | (simp only [hS.glob, plain]; first | done | omega))) (by rw [hC]; simp)
        refine V.call rfl rfl rfl rfl rfl Try.func18 rfl (by decide) [] (by simp) (by simp) (by (first | rfl | ((conv => cbv); (repeat' apply And.intro) <;> first | rfl | trivial | (first | rfl | omega | (simp (disch := omega) only [hS.glob, wraps, plain, Int.ofNat_eq_natCast]; first | done | rfl | omega | (simp; done) | (simp; omega)) | (simp (disch := omega) only [hS.glob, wraps, plain, Int.ofNat_eq_natCast, Vx.toN]; omega))))) rfl (f18_ok1 n1 l1 (by omega)) ?_
        rintro r Hc ⟨kx, X, rfl, rfl, hX⟩
        refine V.freeze0 45 1 kx (by rfl) (by rfl) (by rfl) (by first | decide | omega | exact Nat.zero_lt_one) (by rfl) (by rfl) (by first | exact Nat.le_refl _ | decide | omega | (simp only [Cont.n]; omega)) ?_
        refine V.go Try.func6 tl_ok mixed hS.ops [] 400 ?_
        intro VV VA W hVV hVA hW
        conv => cbv
        rw [hVV]
        clear hVV hVA VV VA hW W
        refine V.call rfl rfl rfl rfl rfl Try.func18 rfl (by decide) [] (by simp) (by simp) (by (first | rfl | ((conv => cbv); (repeat' apply And.intro) <;> first | rfl | trivial | (first | rfl | omega | (simp (disch := omega) only [hS.glob, wraps, plain, Int.ofNat_eq_natCast]; first | done | rfl | omega | (simp; done) | (simp; omega)) | (simp (disch := omega) only [hS.glob, wraps, plain, Int.ofNat_eq_natCast, Vx.toN]; omega))))) rfl (f18_ok1 n3 l3 (by omega)) ?_
        rintro r Hc ⟨ky, Y, rfl, rfl, hY⟩
        refine V.freeze0 47 2 ky (by rfl) (by rfl) (by rfl) (by first | decide | omega | exact Nat.zero_lt_one) (by rfl) (by rfl) (by first | exact Nat.le_refl _ | decide | omega | (simp only [Cont.n]; omega)) ?_
        refine V.go Try.func6 tl_ok mixed hS.ops [] 400 ?_
        intro VV VA W hVV hVA hW
        conv => cbv
        rw [hVV]
        clear hVV hVA VV VA hW W
        obtain ⟨n, hn⟩ : ∃ n, n = min n0 20 := ⟨_, rfl⟩
        refine V.call rfl rfl rfl rfl rfl Try.func19 rfl (by decide) [] (by simp) (by simp) (by (first | rfl | ((conv => cbv); (repeat' apply And.intro) <;> first | rfl | trivial | (first | rfl | omega | (simp (disch := omega) only [hS.glob, wraps, plain, Int.ofNat_eq_natCast]; first | done | rfl | omega | (simp; done) | (simp; omega)) | (simp (disch := omega) only [hS.glob, wraps, plain, Int.ofNat_eq_natCast, Vx.toN]; omega))))) rfl (f19_ok n0 l0 n hn) ?_
        rintro r Hc ⟨rfl, rfl⟩
        have wx := whole_len n1 l1
        have wy := whole_len n3 l3
        rw [← hX, tab_len] at wx
        rw [← hY, tab_len] at wy
        refine V.go Try.func6 tl_ok mixed hS.ops [] 77 ?_
        intro VV VA W hVV hVA hW
        conv => cbv
        repeat (refine ⟨by first | (rw [hW]; show ordOk _ _ _ = true; kernel_rfl) | (first | trivial | omega | (simp (disch := omega) only [hS.glob, wraps, plain, Int.ofNat_eq_natCast]; first | done | omega | trivial | (simp; done) | (simp; omega) | (constructor <;> omega)) | (simp (disch := omega) only [hS.glob, wraps, plain, Int.ofNat_eq_natCast, Vx.toN]; omega)), ?_⟩)
        rw [hVV]
        clear hVV hVA VV VA hW W
        obtain ⟨na, hna⟩ : ∃ na, na = n + kx + 2 + n2 := ⟨_, rfl⟩
        obtain ⟨nb, hnb⟩ : ∃ nb, nb = n + ky + 2 + n2 := ⟨_, rfl⟩
        obtain ⟨A, hA⟩ : ∃ A, A = mkA n kx bg l0 X l2 := ⟨_, rfl⟩
        obtain ⟨B, hB⟩ : ∃ B, B = mkA n ky bg l0 Y l2 := ⟨_, rfl⟩
        refine V.to (s' := [(11, .sl 10 0 na), (12, .sl 18 0 nb), (10, .rows 1 n (icol .i64 l0)), (2, .int .i64 how), (3, .ptr 0 0 0)]) (H' := [some ⟨38, 3, .lit [[.rows 1 n0 (icol .i64 l0), .rows 1 n1 (icol .i64 l1), .rows 1 n2 (icol .i64 l2)]]⟩, none, none, none, none, none, none, none, none, none, some ⟨34, 1, .arr na (icol .i64 A)⟩, none, none, none, none, none, none, none, some ⟨34, 1, .arr nb (icol .i64 B)⟩]) ?_ (by (repeat' first | exact trivial | rfl | (refine And.intro ?_ ?_) | (refine sti ?_; (first | rfl | omega | (simp (disch := omega) only [hS.glob, wraps, plain, Int.ofNat_eq_natCast]; first | done | rfl | omega | (simp; done) | (simp; omega)) | (simp (disch := omega) only [hS.glob, wraps, plain, Int.ofNat_eq_natCast, Vx.toN]; omega))) | (refine slq ?_ ?_ ?_ <;> (first | rfl | omega | (simp (disch := omega) only [hS.glob, wraps, plain, Int.ofNat_eq_natCast]; first | done | rfl | omega | (simp; done) | (simp; omega)) | (simp (disch := omega) only [hS.glob, wraps, plain, Int.ofNat_eq_natCast, Vx.toN]; omega))) | (refine ptq ?_ ?_ ?_ <;> (first | rfl | omega | (simp (disch := omega) only [hS.glob, wraps, plain, Int.ofNat_eq_natCast]; first | done | rfl | omega | (simp; done) | (simp; omega)) | (simp (disch := omega) only [hS.glob, wraps, plain, Int.ofNat_eq_natCast, Vx.toN]; omega))) | (refine blq ?_; (first | rfl | omega | (simp (disch := omega) only [hS.glob, wraps, plain, Int.ofNat_eq_natCast]; first | done | rfl | omega | (simp; done) | (simp; omega)) | (simp (disch := omega) only [hS.glob, wraps, plain, Int.ofNat_eq_natCast, Vx.toN]; omega))))) rfl ⟨⟨rfl, rfl, rfl, rfl⟩, ⟨rfl, rfl, ⟨by (first | trivial | omega | (simp (disch := omega) only [hS.glob, wraps, plain, Int.ofNat_eq_natCast]; first | done | omega | trivial | (simp; done) | (simp; omega) | (constructor <;> omega)) | (simp (disch := omega) only [hS.glob, wraps, plain, Int.ofNat_eq_natCast, Vx.toN]; omega)), fun j hj => (by subst hA; exact leafA (ltB := ltB) (addN := addN) (subN := subN) (by simp [hS.glob]) (by simp [hS.glob]) (by simp [hS.glob]) n kx bg l0 X l2 (fun j => [].getD j []) j)⟩, rfl⟩, ⟨rfl, rfl, ⟨by (first | trivial | omega | (simp (disch := omega) only [hS.glob, wraps, plain, Int.ofNat_eq_natCast]; first | done | omega | trivial | (simp; done) | (simp; omega) | (constructor <;> omega)) | (simp (disch := omega) only [hS.glob, wraps, plain, Int.ofNat_eq_natCast, Vx.toN]; omega)), fun j hj => (by subst hB; exact leafA (ltB := ltB) (addN := addN) (subN := subN) (by simp [hS.glob]) (by simp [hS.glob]) (by simp [hS.glob]) n ky bg l0 Y l2 (fun j => [].getD j []) j)⟩, rfl⟩, trivial⟩ (by rw [hC]; simp)
        refine V.freeze0 11 10 na (by rfl) (by rfl) (by rfl) (by first | decide | omega | exact Nat.zero_lt_one) (by rfl) (by rfl) (by first | exact Nat.le_refl _ | decide | omega | (simp only [Cont.n]; omega)) ?_
        refine V.freeze0 12 18 nb (by rfl) (by rfl) (by rfl) (by first | decide | omega | exact Nat.zero_lt_one) (by rfl) (by rfl) (by first | exact Nat.le_refl _ | decide | omega | (simp only [Cont.n]; omega)) ?_
        have hpair := fun xs ys => closed_pair n n2 (by omega) l0 l2 bg hbg2 bz hb hX hY xs ys
        rw [← hA, ← hB, ← hna, ← hnb] at hpair
        have h15a := f15_ok na A (by omega) bz (by omega)
        have h15b := f15_ok nb B (by omega) bz (by omega)
        rw [show baseOf na A bz = bz by unfold baseOf; rw [if_neg (by omega)]] at h15a
        rw [show baseOf nb B bz = bz by unfold baseOf; rw [if_neg (by omega)]] at h15b
        generalize levM na A bz = M at hpair h15a
        generalize levM nb B bz = M' at hpair h15b
        refine V.to (s' := [(11, .rows 1 na (icol .i64 A)), (12, .rows 1 nb (icol .i64 B)), (10, .rows 1 n (icol .i64 l0)), (2, .int .i64 how), (3, .ptr 0 0 0)]) (H' := [some ⟨38, 3, .lit [[.rows 1 n0 (icol .i64 l0), .rows 1 n1 (icol .i64 l1), .rows 1 n2 (icol .i64 l2)]]⟩]) ?_ (by (repeat' first | exact trivial | rfl | (refine And.intro ?_ ?_) | (refine sti ?_; (first | rfl | omega | (simp (disch := omega) only [hS.glob, wraps, plain, Int.ofNat_eq_natCast]; first | done | rfl | omega | (simp; done) | (simp; omega)) | (simp (disch := omega) only [hS.glob, wraps, plain, Int.ofNat_eq_natCast, Vx.toN]; omega))) | (refine slq ?_ ?_ ?_ <;> (first | rfl | omega | (simp (disch := omega) only [hS.glob, wraps, plain, Int.ofNat_eq_natCast]; first | done | rfl | omega | (simp; done) | (simp; omega)) | (simp (disch := omega) only [hS.glob, wraps, plain, Int.ofNat_eq_natCast, Vx.toN]; omega))) | (refine ptq ?_ ?_ ?_ <;> (first | rfl | omega | (simp (disch := omega) only [hS.glob, wraps, plain, Int.ofNat_eq_natCast]; first | done | rfl | omega | (simp; done) | (simp; omega)) | (simp (disch := omega) only [hS.glob, wraps, plain, Int.ofNat_eq_natCast, Vx.toN]; omega))) | (refine blq ?_; (first | rfl | omega | (simp (disch := omega) only [hS.glob, wraps, plain, Int.ofNat_eq_natCast]; first | done | rfl | omega | (simp; done) | (simp; omega)) | (simp (disch := omega) only [hS.glob, wraps, plain, Int.ofNat_eq_natCast, Vx.toN]; omega))))) rfl ⟨⟨rfl, rfl, rfl, rfl⟩, trivial⟩ (by rw [hC]; simp)
        clear hA hB hX hY
        refine V.go Try.func6 tl_ok mixed hS.ops [] 400 ?_
        intro VV VA W hVV hVA hW
        conv => cbv
        repeat (refine ⟨by first | (rw [hW]; show ordOk _ _ _ = true; kernel_rfl) | (first | trivial | omega | (simp (disch := omega) only [hS.glob, wraps, plain, Int.ofNat_eq_natCast]; first | done | omega | trivial | (simp; done) | (simp; omega) | (constructor <;> omega)) | (simp (disch := omega) only [hS.glob, wraps, plain, Int.ofNat_eq_natCast, Vx.toN]; omega)), ?_⟩)
        simp only [eb]
        rw [hVV]
        clear hVV hVA VV VA hW W
        refine V.call rfl rfl rfl rfl rfl Try.func15 rfl (by decide) [] (by simp) (by simp) (by (first | rfl | ((conv => cbv); (repeat' apply And.intro) <;> first | rfl | trivial | (first | rfl | omega | (simp (disch := omega) only [hS.glob, wraps, plain, Int.ofNat_eq_natCast]; first | done | rfl | omega | (simp; done) | (simp; omega)) | (simp (disch := omega) only [hS.glob, wraps, plain, Int.ofNat_eq_natCast, Vx.toN]; omega))))) rfl h15a ?_
        rintro r Hc ⟨xs, cs, rfl, rfl, x1, -⟩
        clear h15a
        refine V.go Try.func6 tl_ok mixed hS.ops [] 400 ?_
        intro VV VA W hVV hVA hW
        conv => cbv
        repeat (refine ⟨by first | (rw [hW]; show ordOk _ _ _ = true; kernel_rfl) | (first | trivial | omega | (simp (disch := omega) only [hS.glob, wraps, plain, Int.ofNat_eq_natCast]; first | done | omega | trivial | (simp; done) | (simp; omega) | (constructor <;> omega)) | (simp (disch := omega) only [hS.glob, wraps, plain, Int.ofNat_eq_natCast, Vx.toN]; omega)), ?_⟩)
        simp only [eb]
        rw [hVV]
        clear hVV hVA VV VA hW W
        refine V.call rfl rfl rfl rfl rfl Try.func15 rfl (by decide) [] (by simp) (by simp) (by (first | rfl | ((conv => cbv); (repeat' apply And.intro) <;> first | rfl | trivial | (first | rfl | omega | (simp (disch := omega) only [hS.glob, wraps, plain, Int.ofNat_eq_natCast]; first | done | rfl | omega | (simp; done) | (simp; omega)) | (simp (disch := omega) only [hS.glob, wraps, plain, Int.ofNat_eq_natCast, Vx.toN]; omega))))) rfl h15b ?_
        rintro r Hc ⟨ys, ds, rfl, rfl, x2, -⟩
        clear h15b
        obtain ⟨p1, p2⟩ := hpair xs ys x1 x2
        clear hpair x1 x2 M M'
        refine V.go Try.func6 tl_ok mixed hS.ops [] 400 ?_
        intro VV VA W hVV hVA hW
        conv => cbv
        have e1 : ine 0 0 = false := by simp (disch := first | omega | (simp only [hS.glob, wraps, plain, Int.ofNat_eq_natCast]; omega)) only [hS.glob, wraps, plain, Int.ofNat_eq_natCast]
        have e2 : ine (ofN na) (ofN na) = false := by simp (disch := first | omega | (simp only [hS.glob, wraps, plain, Int.ofNat_eq_natCast]; omega)) only [hS.glob, wraps, plain, Int.ofNat_eq_natCast]
        have e3 : ine (ofN nb) (ofN nb) = false := by simp (disch := first | omega | (simp only [hS.glob, wraps, plain, Int.ofNat_eq_natCast]; omega)) only [hS.glob, wraps, plain, Int.ofNat_eq_natCast]
        simp only [e1]
        conv => cbv
        simp only [e1]
        conv => cbv
        simp only [e2]
        conv => cbv
        simp only [e3]
        conv => cbv
        rw [hVV]
        clear hVV hVA VV VA hW W e1 e2 e3
        refine V.freeze0 13 1 na (by rfl) (by rfl) (by rfl) (by first | decide | omega | exact Nat.zero_lt_one) (by rfl) (by rfl) (by first | exact Nat.le_refl _ | decide | omega | (simp only [Cont.n]; omega)) ?_
        refine V.freeze0 16 3 nb (by rfl) (by rfl) (by rfl) (by first | decide | omega | exact Nat.zero_lt_one) (by rfl) (by rfl) (by first | exact Nat.le_refl _ | decide | omega | (simp only [Cont.n]; omega)) ?_
        refine V.to (s' := [(20, .int .i64 (ofN 0)), (13, .rows 1 na (icol .i64 xs)), (16, .rows 1 nb (icol .i64 ys)), (19, .int .i64 (ofN n)), (3, .ptr 0 0 0)]) (H' := [some ⟨38, 3, .lit [[.rows 1 n0 (icol .i64 l0), .rows 1 n1 (icol .i64 l1), .rows 1 n2 (icol .i64 l2)]]⟩]) ?_ (by (repeat' first | exact trivial | rfl | (refine And.intro ?_ ?_) | (refine sti ?_; (first | rfl | omega | (simp (disch := omega) only [hS.glob, wraps, plain, Int.ofNat_eq_natCast]; first | done | rfl | omega | (simp; done) | (simp; omega)) | (simp (disch := omega) only [hS.glob, wraps, plain, Int.ofNat_eq_natCast, Vx.toN]; omega))) | (refine slq ?_ ?_ ?_ <;> (first | rfl | omega | (simp (disch := omega) only [hS.glob, wraps, plain, Int.ofNat_eq_natCast]; first | done | rfl | omega | (simp; done) | (simp; omega)) | (simp (disch := omega) only [hS.glob, wraps, plain, Int.ofNat_eq_natCast, Vx.toN]; omega))) | (refine ptq ?_ ?_ ?_ <;> (first | rfl | omega | (simp (disch := omega) only [hS.glob, wraps, plain, Int.ofNat_eq_natCast]; first | done | rfl | omega | (simp; done) | (simp; omega)) | (simp (disch := omega) only [hS.glob, wraps, plain, Int.ofNat_eq_natCast, Vx.toN]; omega))) | (refine blq ?_; (first | rfl | omega | (simp (disch := omega) only [hS.glob, wraps, plain, Int.ofNat_eq_natCast]; first | done | rfl | omega | (simp; done) | (simp; omega)) | (simp (disch := omega) only [hS.glob, wraps, plain, Int.ofNat_eq_natCast, Vx.toN]; omega))))) rfl ⟨⟨rfl, rfl, rfl, rfl⟩, trivial⟩ (by rw [hC]; simp)
        refine V.loop (γ := Nat) (fun i => i ≤ n + 1) (fun i => [(20, .int .i64 (ofN i)), (13, .rows 1 na (icol .i64 xs)), (16, .rows 1 nb (icol .i64 ys)), (19, .int .i64 (ofN n)), (3, .ptr 0 0 0)]) (fun _ => [some ⟨38, 3, .lit [[.rows 1 n0 (icol .i64 l0), .rows 1 n1 (icol .i64 l1), .rows 1 n2 (icol .i64 l2)]]⟩]) (fun i => n + 1 - i) ?_ 0 (Nat.zero_le _)
        rintro i hi hback
        refine V.go Try.func6 tl_ok mixed hS.ops [] 400 ?_
        intro VV VA W hVV hVA hW
        conv => cbv
        cases h1 : ile (ofN i) (ofN n)
        · conv => cbv
          rw [hVV]
          clear hVV hVA VV VA hW W hback
          refine V.to (s' := [(21, .int .i64 (ofN 0)), (13, .rows 1 na (icol .i64 xs)), (16, .rows 1 nb (icol .i64 ys)), (3, .ptr 0 0 0)]) (H' := [some ⟨38, 3, .lit [[.rows 1 n0 (icol .i64 l0), .rows 1 n1 (icol .i64 l1), .rows 1 n2 (icol .i64 l2)]]⟩]) ?_ (by (repeat' first | exact trivial | rfl | (refine And.intro ?_ ?_) | (refine sti ?_; (first | rfl | omega | (simp (disch := omega) only [hS.glob, wraps, plain, Int.ofNat_eq_natCast]; first | done | rfl | omega | (simp; done) | (simp; omega)) | (simp (disch := omega) only [hS.glob, wraps, plain, Int.ofNat_eq_natCast, Vx.toN]; omega))) | (refine slq ?_ ?_ ?_ <;> (first | rfl | omega | (simp (disch := omega) only [hS.glob, wraps, plain, Int.ofNat_eq_natCast]; first | done | rfl | omega | (simp; done) | (simp; omega)) | (simp (disch := omega) only [hS.glob, wraps, plain, Int.ofNat_eq_natCast, Vx.toN]; omega))) | (refine ptq ?_ ?_ ?_ <;> (first | rfl | omega | (simp (disch := omega) only [hS.glob, wraps, plain, Int.ofNat_eq_natCast]; first | done | rfl | omega | (simp; done) | (simp; omega)) | (simp (disch := omega) only [hS.glob, wraps, plain, Int.ofNat_eq_natCast, Vx.toN]; omega))) | (refine blq ?_; (first | rfl | omega | (simp (disch := omega) only [hS.glob, wraps, plain, Int.ofNat_eq_natCast]; first | done | rfl | omega | (simp; done) | (simp; omega)) | (simp (disch := omega) only [hS.glob, wraps, plain, Int.ofNat_eq_natCast, Vx.toN]; omega))))) rfl ⟨⟨rfl, rfl, rfl, rfl⟩, trivial⟩ (by rw [hC]; simp)
          refine V.loop (γ := Nat) (fun i => i ≤ n2 + 1) (fun i => [(21, .int .i64 (ofN i)), (13, .rows 1 na (icol .i64 xs)), (16, .rows 1 nb (icol .i64 ys)), (3, .ptr 0 0 0)]) (fun _ => [some ⟨38, 3, .lit [[.rows 1 n0 (icol .i64 l0), .rows 1 n1 (icol .i64 l1), .rows 1 n2 (icol .i64 l2)]]⟩]) (fun i => n2 + 1 - i) ?_ 0 (Nat.zero_le _)
          clear hi h1 i
          rintro i hi hback
          refine V.go Try.func6 tl_ok mixed hS.ops [] 400 ?_
          intro VV VA W hVV hVA hW
          conv => cbv
          cases h1 : ile (ofN i) (ofN n2)
          · conv => cbv
            rw [hVV]
            clear hVV hVA VV VA hW W hback
            refine V.call rfl rfl rfl rfl rfl Try.func8 rfl (by decide) [] (by simp) (by simp) (by (first | rfl | ((conv => cbv); (repeat' apply And.intro) <;> first | rfl | trivial | (first | rfl | omega | (simp (disch := omega) only [hS.glob, wraps, plain, Int.ofNat_eq_natCast]; first | done | rfl | omega | (simp; done) | (simp; omega)) | (simp (disch := omega) only [hS.glob, wraps, plain, Int.ofNat_eq_natCast, Vx.toN]; omega))))) rfl h8 ?_
            rintro r Hc ⟨rfl, rfl⟩
            refine V.go Try.func6 tl_ok mixed hS.ops [] 400 ?_
            intro VV VA W hVV hVA hW
            conv => cbv
            trivial
          · conv => cbv
            simp (disch := first | omega | (simp only [hS.glob, wraps, plain, Int.ofNat_eq_natCast]; omega)) only [hS.glob, wraps, plain, Int.ofNat_eq_natCast] at h1
            repeat (refine ⟨by first | (rw [hW]; show ordOk _ _ _ = true; kernel_rfl) | (first | trivial | omega | (simp (disch := omega) only [hS.glob, wraps, plain, Int.ofNat_eq_natCast]; first | done | omega | trivial | (simp; done) | (simp; omega) | (constructor <;> omega)) | (simp (disch := omega) only [hS.glob, wraps, plain, Int.ofNat_eq_natCast, Vx.toN]; omega)), ?_⟩)
            have q1 : toN (isub .i64 (isub .i64 (ofN na) 1) (ofN i)) = na - 1 - i := by simp (disch := first | omega | (simp only [hS.glob, wraps, plain, Int.ofNat_eq_natCast]; omega)) only [hS.glob, wraps, plain, Int.ofNat_eq_natCast]; simp only [Vx.toN]; omega
            have q2 : toN (isub .i64 (isub .i64 (ofN nb) 1) (ofN i)) = nb - 1 - i := by simp (disch := first | omega | (simp only [hS.glob, wraps, plain, Int.ofNat_eq_natCast]; omega)) only [hS.glob, wraps, plain, Int.ofNat_eq_natCast]; simp only [Vx.toN]; omega
            have e1 : ine (xs (na - 1 - i)) (ys (nb - 1 - i)) = false := by simp (disch := first | omega | (simp only [hS.glob, wraps, plain, Int.ofNat_eq_natCast]; omega)) only [hS.glob, wraps, plain, Int.ofNat_eq_natCast]; exact p2 i (by omega)
            simp only [q1, q2, e1]
            conv => cbv
            repeat (refine ⟨by first | (rw [hW]; show ordOk _ _ _ = true; kernel_rfl) | (first | trivial | omega | (simp (disch := omega) only [hS.glob, wraps, plain, Int.ofNat_eq_natCast]; first | done | omega | trivial | (simp; done) | (simp; omega) | (constructor <;> omega)) | (simp (disch := omega) only [hS.glob, wraps, plain, Int.ofNat_eq_natCast, Vx.toN]; omega)), ?_⟩)
            rw [hVV]
            exact V.to (hback (i + 1) (by omega) (by omega)) (by (repeat' first | exact trivial | rfl | (refine And.intro ?_ ?_) | (refine sti ?_; (first | rfl | omega | (simp (disch := omega) only [hS.glob, wraps, plain, Int.ofNat_eq_natCast]; first | done | rfl | omega | (simp; done) | (simp; omega)) | (simp (disch := omega) only [hS.glob, wraps, plain, Int.ofNat_eq_natCast, Vx.toN]; omega))) | (refine slq ?_ ?_ ?_ <;> (first | rfl | omega | (simp (disch := omega) only [hS.glob, wraps, plain, Int.ofNat_eq_natCast]; first | done | rfl | omega | (simp; done) | (simp; omega)) | (simp (disch := omega) only [hS.glob, wraps, plain, Int.ofNat_eq_natCast, Vx.toN]; omega))) | (refine ptq ?_ ?_ ?_ <;> (first | rfl | omega | (simp (disch := omega) only [hS.glob, wraps, plain, Int.ofNat_eq_natCast]; first | done | rfl | omega | (simp; done) | (simp; omega)) | (simp (disch := omega) only [hS.glob, wraps, plain, Int.ofNat_eq_natCast, Vx.toN]; omega))) | (refine blq ?_; (first | rfl | omega | (simp (disch := omega) only [hS.glob, wraps, plain, Int.ofNat_eq_natCast]; first | done | rfl | omega | (simp; done) | (simp; omega)) | (simp (disch := omega) only [hS.glob, wraps, plain, Int.ofNat_eq_natCast, Vx.toN]; omega))))) rfl (by (repeat' first | exact trivial | rfl | exact Nat.le_refl _ | exact (fun _ _ => rfl) | (refine And.intro ?_ ?_) | (simp only [hS.glob, plain]; first | done | omega))) (by rw [hC]; simp)
        · conv => cbv
          simp (disch := first | omega | (simp only [hS.glob, wraps, plain, Int.ofNat_eq_natCast]; omega)) only [hS.glob, wraps, plain, Int.ofNat_eq_natCast] at h1
          repeat (refine ⟨by first | (rw [hW]; show ordOk _ _ _ = true; kernel_rfl) | (first | trivial | omega | (simp (disch := omega) only [hS.glob, wraps, plain, Int.ofNat_eq_natCast]; first | done | omega | trivial | (simp; done) | (simp; omega) | (constructor <;> omega)) | (simp (disch := omega) only [hS.glob, wraps, plain, Int.ofNat_eq_natCast, Vx.toN]; omega)), ?_⟩)
          simp only [hS.tidy]
          have e1 : ine (xs i) (ys i) = false := by simp (disch := first | omega | (simp only [hS.glob, wraps, plain, Int.ofNat_eq_natCast]; omega)) only [hS.glob, wraps, plain, Int.ofNat_eq_natCast]; exact p1 i (by omega)
          simp only [e1]
          conv => cbv
          repeat (refine ⟨by first | (rw [hW]; show ordOk _ _ _ = true; kernel_rfl) | (first | trivial | omega | (simp (disch := omega) only [hS.glob, wraps, plain, Int.ofNat_eq_natCast]; first | done | omega | trivial | (simp; done) | (simp; omega) | (constructor <;> omega)) | (simp (disch := omega) only [hS.glob, wraps, plain, Int.ofNat_eq_natCast, Vx.toN]; omega)), ?_⟩)
          rw [hVV]
          exact V.to (hback (i + 1) (by omega) (by omega)) (by (repeat' first | exact trivial | rfl | (refine And.intro ?_ ?_) | (refine sti ?_; (first | rfl | omega | (simp (disch := omega) only [hS.glob, wraps, plain, Int.ofNat_eq_natCast]; first | done | rfl | omega | (simp; done) | (simp; omega)) | (simp (disch := omega) only [hS.glob, wraps, plain, Int.ofNat_eq_natCast, Vx.toN]; omega))) | (refine slq ?_ ?_ ?_ <;> (first | rfl | omega | (simp (disch := omega) only [hS.glob, wraps, plain, Int.ofNat_eq_natCast]; first | done | rfl | omega | (simp; done) | (simp; omega)) | (simp (disch := omega) only [hS.glob, wraps, plain, Int.ofNat_eq_natCast, Vx.toN]; omega))) | (refine ptq ?_ ?_ ?_ <;> (first | rfl | omega | (simp (disch := omega) only [hS.glob, wraps, plain, Int.ofNat_eq_natCast]; first | done | rfl | omega | (simp; done) | (simp; omega)) | (simp (disch := omega) only [hS.glob, wraps, plain, Int.ofNat_eq_natCast, Vx.toN]; omega))) | (refine blq ?_; (first | rfl | omega | (simp (disch := omega) only [hS.glob, wraps, plain, Int.ofNat_eq_natCast]; first | done | rfl | omega | (simp; done) | (simp; omega)) | (simp (disch := omega) only [hS.glob, wraps, plain, Int.ofNat_eq_natCast, Vx.toN]; omega))))) rfl (by (repeat' first | exact trivial | rfl | exact Nat.le_refl _ | exact (fun _ _ => rfl) | (refine And.intro ?_ ?_) | (simp only [hS.glob, plain]; first | done | omega))) (by rw [hC]; simp)
      · conv => cbv
        rw [hVV]
        clear hVV hVA VV VA hW W
        refine V.call rfl rfl rfl rfl rfl Try.func8 rfl (by decide) [] (by simp) (by simp) (by (first | rfl | ((conv => cbv); (repeat' apply And.intro) <;> first | rfl | trivial | (first | rfl | omega | (simp (disch := omega) only [hS.glob, wraps, plain, Int.ofNat_eq_natCast]; first | done | rfl | omega | (simp; done) | (simp; omega)) | (simp (disch := omega) only [hS.glob, wraps, plain, Int.ofNat_eq_natCast, Vx.toN]; omega))))) rfl h8 ?_
        rintro r Hc ⟨rfl, rfl⟩
        refine V.go Try.func6 tl_ok mixed hS.ops [] 400 ?_
        intro VV VA W hVV hVA hW
        conv => cbv
        trivial
    · conv => cbv
      rw [hVV]
      clear hVV hVA VV VA hW W
      refine V.call rfl rfl rfl rfl rfl Try.func8 rfl (by decide) [] (by simp) (by simp) (by (first | rfl | ((conv => cbv); (repeat' apply And.intro) <;> first | rfl | trivial | (first | rfl | omega | (simp (disch := omega) only [hS.glob, wraps, plain, Int.ofNat_eq_natCast]; first | done | rfl | omega | (simp; done) | (simp; omega)) | (simp (disch := omega) only [hS.glob, wraps, plain, Int.ofNat_eq_natCast, Vx.toN]; omega))))) rfl h8 ?_
      rintro r Hc ⟨rfl, rfl⟩
      refine V.go Try.func6 tl_ok mixed hS.ops [] 400 ?_
      intro VV VA W hVV hVA hW
      conv => cbv
      trivial
theorem f6_ok (n0 n1 n2 n3 : Nat) (l0 l1 l2 l3 : Nat → Int) (how : Int) (m0 : n0 ≤ 140737488355328) (m1 : n1 ≤ 140737488355328) (m2 : n2 ≤ 140737488355328) (m3 : n3 ≤ 140737488355328) : FSpec Try.prog 6 [.agg [.rows 1 n0 (icol .i64 l0), .rows 1 n1 (icol .i64 l1), .rows 1 n2 (icol .i64 l2)], .rows 1 n3 (icol .i64 l3), .int .i64 how] [] (fun r H' => r = .bool true ∧ H' = []) := by
  refine (f6_ok1 n0 n1 n2 n3 l0 l1 l2 l3 how m0 m1 m2 m3).weaken ?_
  rintro r H' rfl
  exact ⟨[], by cases H' <;> simp [heapCov], rfl, Nat.le_refl _, rfl, rfl⟩
end Go.Proofs.Ytihmolafajmbjaa
