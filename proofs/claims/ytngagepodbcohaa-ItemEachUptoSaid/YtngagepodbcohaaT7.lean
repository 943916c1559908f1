/- Contracts of functions by an evaluator of the model: its part T7. -/
import Derived.Test.YtngagepodbcohaaT6
set_option linter.all false
/- Where lines may end: the rules. -/
namespace Go.Proofs.Ytngagepodbcohaa
open Go Vx
set_option maxRecDepth 100000
def openK (k : Int) : Bool := decide (k = 8) || decide (k = 9) || decide (k = 11)
def wordK (k : Int) : Bool := decide (k = 0) || decide (k = 1)
def rl (a b : Int) (mk : Bool) (ah : Int) : Nat → Bool
  | 0 => mk && !(openK a)
  | 1 => decide (a = 11)
  | 2 => openK b
  | 3 => decide (ah = 9)
  | 4 => decide (b = 4) || decide (ah = 3)
  | 5 => decide (a = 8)
  | 6 => decide (a = 7) || decide (b = 7)
  | 7 => decide (b = 5) || decide (b = 6)
  | 8 => wordK a && wordK b
  | _ => decide (a = 5) && decide (b = 1)
theorem f47_ok (k : Int) (R : Bool) (hR : R = openK k) : FSpec Try.prog 47 [.int .i64 k] [] (fun r H' => r = .bool R ∧ H' = []) := by
  refine pure_of rfl ?_
  unfold openK at hR
  refine FSpec.of (fn := Try.f47) Try.func47 rfl rfl (by simp) fun C hC => ?_
  obtain ⟨iadd, isub, imul, iquo, irem, iband, ibor, ibxor, ibandn, ishl, ishr, iconv, ieq, ine, ilt, ile, igt, ige, bbeq, bbne, bnot, bband, sseq, ssne, sscat, sssub, sslen, sssz, ssbyte, toN, ofN, addN, subN, eqN, ltB, leN, imx, imn, inb, leb, sslt, ltN, fit, ne0, ge0, ssfit, minN, inR, bcol, bstr, isBy, hS⟩ := names
  refine V.goF (by first | exact trivial | assumption) Try.func47 tl_ok mixed hS.ops [] 400 ?_
  intro VV VA W hVV hVA hW
  conv => cbv
  (cases e1 : ieq k 8 <;> (conv => cbv))
  all_goals first | (with_reducible refine congrArg AV.bool ?_; clear hVV hVA VV VA hW W; simp only [hS.glob, plain] at *; subst hR; first | (simp [*, Vx.bnot]; done) | omega | (split <;> simp [*]; done)) | (cases e2 : ieq k 9 <;> (conv => cbv) <;> (repeat (simp only [e1, e2]; (conv => cbv))))
  all_goals first | (with_reducible refine congrArg AV.bool ?_; clear hVV hVA VV VA hW W; simp only [hS.glob, plain] at *; subst hR; first | (simp [*, Vx.bnot]; done) | omega | (split <;> simp [*]; done)) | (cases e3 : ieq k 11 <;> (conv => cbv) <;> (repeat (simp only [e1, e2, e3]; (conv => cbv))))
  all_goals (with_reducible refine congrArg AV.bool ?_; clear hVV hVA VV VA hW W; simp only [hS.glob, plain] at *; subst hR; first | (simp [*, Vx.bnot]; done) | omega | (split <;> simp [*]; done))
theorem f58_ok (k : Int) (R : Bool) (hR : R = wordK k) : FSpec Try.prog 58 [.int .i64 k] [] (fun r H' => r = .bool R ∧ H' = []) := by
  refine pure_of rfl ?_
  unfold wordK at hR
  refine FSpec.of (fn := Try.f58) Try.func58 rfl rfl (by simp) fun C hC => ?_
  obtain ⟨iadd, isub, imul, iquo, irem, iband, ibor, ibxor, ibandn, ishl, ishr, iconv, ieq, ine, ilt, ile, igt, ige, bbeq, bbne, bnot, bband, sseq, ssne, sscat, sssub, sslen, sssz, ssbyte, toN, ofN, addN, subN, eqN, ltB, leN, imx, imn, inb, leb, sslt, ltN, fit, ne0, ge0, ssfit, minN, inR, bcol, bstr, isBy, hS⟩ := names
  refine V.goF (by first | exact trivial | assumption) Try.func58 tl_ok mixed hS.ops [] 400 ?_
  intro VV VA W hVV hVA hW
  conv => cbv
  (cases e1 : ieq k 0 <;> (conv => cbv))
  all_goals first | (with_reducible refine congrArg AV.bool ?_; clear hVV hVA VV VA hW W; simp only [hS.glob, plain] at *; subst hR; first | (simp [*, Vx.bnot]; done) | omega | (split <;> simp [*]; done)) | (cases e2 : ieq k 1 <;> (conv => cbv) <;> (repeat (simp only [e1, e2]; (conv => cbv))))
  all_goals (with_reducible refine congrArg AV.bool ?_; clear hVV hVA VV VA hW W; simp only [hS.glob, plain] at *; subst hR; first | (simp [*, Vx.bnot]; done) | omega | (split <;> simp [*]; done))
theorem f49_ok (a b : Int) (mk : Bool) (ah : Int) (R : Bool) (hR : R = rl a b mk ah 0) : FSpec Try.prog 49 [.agg [.int .i64 a, .int .i64 b, .bool mk, .int .i64 ah]] [] (fun r H' => r = .bool R ∧ H' = []) := by
  refine pure_of rfl ?_
  obtain ⟨B, hB⟩ : ∃ y, y = openK a := ⟨_, rfl⟩
  unfold rl at hR
  rw [← hB] at hR
  refine FSpec.of (fn := Try.f49) Try.func49 rfl rfl (by simp) fun C hC => ?_
  obtain ⟨iadd, isub, imul, iquo, irem, iband, ibor, ibxor, ibandn, ishl, ishr, iconv, ieq, ine, ilt, ile, igt, ige, bbeq, bbne, bnot, bband, sseq, ssne, sscat, sssub, sslen, sssz, ssbyte, toN, ofN, addN, subN, eqN, ltB, leN, imx, imn, inb, leb, sslt, ltN, fit, ne0, ge0, ssfit, minN, inR, bcol, bstr, isBy, hS⟩ := names
  refine V.goF (by first | exact trivial | assumption) Try.func49 tl_ok mixed hS.ops [] 400 ?_
  intro VV VA W hVV hVA hW
  conv => cbv
  cases mk
  case false =>
    conv => cbv
    rw [hR]
    rfl
  conv => cbv
  rw [hVV]
  clear hVV hVA VV VA hW W
  refine V.call rfl rfl rfl rfl rfl Try.func47 rfl (by decide) [] (by simp) (by simp) (by (first | rfl | ((conv => cbv); (repeat' apply And.intro) <;> first | rfl | trivial | (first | rfl | omega | (simp (disch := omega) only [hS.glob, wraps, plain, Int.ofNat_eq_natCast]; first | done | rfl | omega | (simp; done) | (simp; omega)) | (simp (disch := omega) only [hS.glob, wraps, plain, Int.ofNat_eq_natCast, Vx.toN]; omega))))) rfl (f47_ok a B hB) ?_
  rintro r Hc ⟨rfl, rfl⟩
  refine V.goF (by first | exact trivial | assumption) Try.func49 tl_ok mixed hS.ops [] 400 ?_
  intro VV VA W hVV hVA hW
  conv => cbv
  rw [hR]
  cases B <;> rfl
theorem f51_ok (a b : Int) (mk : Bool) (ah : Int) (R : Bool) (hR : R = rl a b mk ah 2) : FSpec Try.prog 51 [.agg [.int .i64 a, .int .i64 b, .bool mk, .int .i64 ah]] [] (fun r H' => r = .bool R ∧ H' = []) := by
  refine pure_of rfl ?_
  unfold rl at hR
  refine FSpec.of (fn := Try.f51) Try.func51 rfl rfl (by simp) fun C hC => ?_
  obtain ⟨iadd, isub, imul, iquo, irem, iband, ibor, ibxor, ibandn, ishl, ishr, iconv, ieq, ine, ilt, ile, igt, ige, bbeq, bbne, bnot, bband, sseq, ssne, sscat, sssub, sslen, sssz, ssbyte, toN, ofN, addN, subN, eqN, ltB, leN, imx, imn, inb, leb, sslt, ltN, fit, ne0, ge0, ssfit, minN, inR, bcol, bstr, isBy, hS⟩ := names
  refine V.goF (by first | exact trivial | assumption) Try.func51 tl_ok mixed hS.ops [] 400 ?_
  intro VV VA W hVV hVA hW
  conv => cbv
  rw [hVV]
  clear hVV hVA VV VA hW W
  refine V.call rfl rfl rfl rfl rfl Try.func47 rfl (by decide) [] (by simp) (by simp) (by (first | rfl | ((conv => cbv); (repeat' apply And.intro) <;> first | rfl | trivial | (first | rfl | omega | (simp (disch := omega) only [hS.glob, wraps, plain, Int.ofNat_eq_natCast]; first | done | rfl | omega | (simp; done) | (simp; omega)) | (simp (disch := omega) only [hS.glob, wraps, plain, Int.ofNat_eq_natCast, Vx.toN]; omega))))) rfl (f47_ok b R hR) ?_
  rintro r Hc ⟨rfl, rfl⟩
  refine V.goF (by first | exact trivial | assumption) Try.func51 tl_ok mixed hS.ops [] 400 ?_
  intro VV VA W hVV hVA hW
  conv => cbv
  trivial
theorem f57_ok (a b : Int) (mk : Bool) (ah : Int) (R : Bool) (hR : R = rl a b mk ah 8) : FSpec Try.prog 57 [.agg [.int .i64 a, .int .i64 b, .bool mk, .int .i64 ah]] [] (fun r H' => r = .bool R ∧ H' = []) := by
  refine pure_of rfl ?_
  obtain ⟨A, hA⟩ : ∃ y, y = wordK a := ⟨_, rfl⟩
  obtain ⟨B, hB⟩ : ∃ y, y = wordK b := ⟨_, rfl⟩
  unfold rl at hR
  rw [← hA, ← hB] at hR
  refine FSpec.of (fn := Try.f57) Try.func57 rfl rfl (by simp) fun C hC => ?_
  obtain ⟨iadd, isub, imul, iquo, irem, iband, ibor, ibxor, ibandn, ishl, ishr, iconv, ieq, ine, ilt, ile, igt, ige, bbeq, bbne, bnot, bband, sseq, ssne, sscat, sssub, sslen, sssz, ssbyte, toN, ofN, addN, subN, eqN, ltB, leN, imx, imn, inb, leb, sslt, ltN, fit, ne0, ge0, ssfit, minN, inR, bcol, bstr, isBy, hS⟩ := names
  refine V.goF (by first | exact trivial | assumption) Try.func57 tl_ok mixed hS.ops [] 400 ?_
  intro VV VA W hVV hVA hW
  conv => cbv
  rw [hVV]
  clear hVV hVA VV VA hW W
  refine V.call rfl rfl rfl rfl rfl Try.func58 rfl (by decide) [] (by simp) (by simp) (by (first | rfl | ((conv => cbv); (repeat' apply And.intro) <;> first | rfl | trivial | (first | rfl | omega | (simp (disch := omega) only [hS.glob, wraps, plain, Int.ofNat_eq_natCast]; first | done | rfl | omega | (simp; done) | (simp; omega)) | (simp (disch := omega) only [hS.glob, wraps, plain, Int.ofNat_eq_natCast, Vx.toN]; omega))))) rfl (f58_ok a A hA) ?_
  rintro r Hc ⟨rfl, rfl⟩
  refine V.goF (by first | exact trivial | assumption) Try.func57 tl_ok mixed hS.ops [] 400 ?_
  intro VV VA W hVV hVA hW
  conv => cbv
  cases A
  case false =>
    conv => cbv
    rw [hR]
    rfl
  conv => cbv
  rw [hVV]
  clear hVV hVA VV VA hW W
  refine V.call rfl rfl rfl rfl rfl Try.func58 rfl (by decide) [] (by simp) (by simp) (by (first | rfl | ((conv => cbv); (repeat' apply And.intro) <;> first | rfl | trivial | (first | rfl | omega | (simp (disch := omega) only [hS.glob, wraps, plain, Int.ofNat_eq_natCast]; first | done | rfl | omega | (simp; done) | (simp; omega)) | (simp (disch := omega) only [hS.glob, wraps, plain, Int.ofNat_eq_natCast, Vx.toN]; omega))))) rfl (f58_ok b B hB) ?_
  rintro r Hc ⟨rfl, rfl⟩
  refine V.goF (by first | exact trivial | assumption) Try.func57 tl_ok mixed hS.ops [] 400 ?_
  intro VV VA W hVV hVA hW
  conv => cbv
  rw [hR]
  rfl
theorem f50_ok (a b : Int) (mk : Bool) (ah : Int) (R : Bool) (hR : R = rl a b mk ah 1) : FSpec Try.prog 50 [.agg [.int .i64 a, .int .i64 b, .bool mk, .int .i64 ah]] [] (fun r H' => r = .bool R ∧ H' = []) := by
  refine pure_of rfl ?_
  unfold rl at hR
  refine FSpec.of (fn := Try.f50) Try.func50 rfl rfl (by simp) fun C hC => ?_
  obtain ⟨iadd, isub, imul, iquo, irem, iband, ibor, ibxor, ibandn, ishl, ishr, iconv, ieq, ine, ilt, ile, igt, ige, bbeq, bbne, bnot, bband, sseq, ssne, sscat, sssub, sslen, sssz, ssbyte, toN, ofN, addN, subN, eqN, ltB, leN, imx, imn, inb, leb, sslt, ltN, fit, ne0, ge0, ssfit, minN, inR, bcol, bstr, isBy, hS⟩ := names
  refine V.goF (by first | exact trivial | assumption) Try.func50 tl_ok mixed hS.ops [] 400 ?_
  intro VV VA W hVV hVA hW
  conv => cbv
  (cases e1 : ieq a 11 <;> (conv => cbv))
  all_goals (with_reducible refine congrArg AV.bool ?_; clear hVV hVA VV VA hW W; simp only [hS.glob, plain] at *; subst hR; first | (simp [*, Vx.bnot]; done) | omega | (split <;> simp [*]; done))
theorem f52_ok (a b : Int) (mk : Bool) (ah : Int) (R : Bool) (hR : R = rl a b mk ah 3) : FSpec Try.prog 52 [.agg [.int .i64 a, .int .i64 b, .bool mk, .int .i64 ah]] [] (fun r H' => r = .bool R ∧ H' = []) := by
  refine pure_of rfl ?_
  unfold rl at hR
  refine FSpec.of (fn := Try.f52) Try.func52 rfl rfl (by simp) fun C hC => ?_
  obtain ⟨iadd, isub, imul, iquo, irem, iband, ibor, ibxor, ibandn, ishl, ishr, iconv, ieq, ine, ilt, ile, igt, ige, bbeq, bbne, bnot, bband, sseq, ssne, sscat, sssub, sslen, sssz, ssbyte, toN, ofN, addN, subN, eqN, ltB, leN, imx, imn, inb, leb, sslt, ltN, fit, ne0, ge0, ssfit, minN, inR, bcol, bstr, isBy, hS⟩ := names
  refine V.goF (by first | exact trivial | assumption) Try.func52 tl_ok mixed hS.ops [] 400 ?_
  intro VV VA W hVV hVA hW
  conv => cbv
  (cases e1 : ieq ah 9 <;> (conv => cbv))
  all_goals (with_reducible refine congrArg AV.bool ?_; clear hVV hVA VV VA hW W; simp only [hS.glob, plain] at *; subst hR; first | (simp [*, Vx.bnot]; done) | omega | (split <;> simp [*]; done))
theorem f53_ok (a b : Int) (mk : Bool) (ah : Int) (R : Bool) (hR : R = rl a b mk ah 4) : FSpec Try.prog 53 [.agg [.int .i64 a, .int .i64 b, .bool mk, .int .i64 ah]] [] (fun r H' => r = .bool R ∧ H' = []) := by
  refine pure_of rfl ?_
  unfold rl at hR
  refine FSpec.of (fn := Try.f53) Try.func53 rfl rfl (by simp) fun C hC => ?_
  obtain ⟨iadd, isub, imul, iquo, irem, iband, ibor, ibxor, ibandn, ishl, ishr, iconv, ieq, ine, ilt, ile, igt, ige, bbeq, bbne, bnot, bband, sseq, ssne, sscat, sssub, sslen, sssz, ssbyte, toN, ofN, addN, subN, eqN, ltB, leN, imx, imn, inb, leb, sslt, ltN, fit, ne0, ge0, ssfit, minN, inR, bcol, bstr, isBy, hS⟩ := names
  refine V.goF (by first | exact trivial | assumption) Try.func53 tl_ok mixed hS.ops [] 400 ?_
  intro VV VA W hVV hVA hW
  conv => cbv
  (cases e1 : ieq b 4 <;> (conv => cbv))
  all_goals first | (with_reducible refine congrArg AV.bool ?_; clear hVV hVA VV VA hW W; simp only [hS.glob, plain] at *; subst hR; first | (simp [*, Vx.bnot]; done) | omega | (split <;> simp [*]; done)) | (cases e2 : ieq ah 3 <;> (conv => cbv) <;> (repeat (simp only [e1, e2]; (conv => cbv))))
  all_goals (with_reducible refine congrArg AV.bool ?_; clear hVV hVA VV VA hW W; simp only [hS.glob, plain] at *; subst hR; first | (simp [*, Vx.bnot]; done) | omega | (split <;> simp [*]; done))
theorem f54_ok (a b : Int) (mk : Bool) (ah : Int) (R : Bool) (hR : R = rl a b mk ah 5) : FSpec Try.prog 54 [.agg [.int .i64 a, .int .i64 b, .bool mk, .int .i64 ah]] [] (fun r H' => r = .bool R ∧ H' = []) := by
  refine pure_of rfl ?_
  unfold rl at hR
  refine FSpec.of (fn := Try.f54) Try.func54 rfl rfl (by simp) fun C hC => ?_
  obtain ⟨iadd, isub, imul, iquo, irem, iband, ibor, ibxor, ibandn, ishl, ishr, iconv, ieq, ine, ilt, ile, igt, ige, bbeq, bbne, bnot, bband, sseq, ssne, sscat, sssub, sslen, sssz, ssbyte, toN, ofN, addN, subN, eqN, ltB, leN, imx, imn, inb, leb, sslt, ltN, fit, ne0, ge0, ssfit, minN, inR, bcol, bstr, isBy, hS⟩ := names
  refine V.goF (by first | exact trivial | assumption) Try.func54 tl_ok mixed hS.ops [] 400 ?_
  intro VV VA W hVV hVA hW
  conv => cbv
  (cases e1 : ieq a 8 <;> (conv => cbv))
  all_goals (with_reducible refine congrArg AV.bool ?_; clear hVV hVA VV VA hW W; simp only [hS.glob, plain] at *; subst hR; first | (simp [*, Vx.bnot]; done) | omega | (split <;> simp [*]; done))
theorem f55_ok (a b : Int) (mk : Bool) (ah : Int) (R : Bool) (hR : R = rl a b mk ah 6) : FSpec Try.prog 55 [.agg [.int .i64 a, .int .i64 b, .bool mk, .int .i64 ah]] [] (fun r H' => r = .bool R ∧ H' = []) := by
  refine pure_of rfl ?_
  unfold rl at hR
  refine FSpec.of (fn := Try.f55) Try.func55 rfl rfl (by simp) fun C hC => ?_
  obtain ⟨iadd, isub, imul, iquo, irem, iband, ibor, ibxor, ibandn, ishl, ishr, iconv, ieq, ine, ilt, ile, igt, ige, bbeq, bbne, bnot, bband, sseq, ssne, sscat, sssub, sslen, sssz, ssbyte, toN, ofN, addN, subN, eqN, ltB, leN, imx, imn, inb, leb, sslt, ltN, fit, ne0, ge0, ssfit, minN, inR, bcol, bstr, isBy, hS⟩ := names
  refine V.goF (by first | exact trivial | assumption) Try.func55 tl_ok mixed hS.ops [] 400 ?_
  intro VV VA W hVV hVA hW
  conv => cbv
  (cases e1 : ieq a 7 <;> (conv => cbv))
  all_goals first | (with_reducible refine congrArg AV.bool ?_; clear hVV hVA VV VA hW W; simp only [hS.glob, plain] at *; subst hR; first | (simp [*, Vx.bnot]; done) | omega | (split <;> simp [*]; done)) | (cases e2 : ieq b 7 <;> (conv => cbv) <;> (repeat (simp only [e1, e2]; (conv => cbv))))
  all_goals (with_reducible refine congrArg AV.bool ?_; clear hVV hVA VV VA hW W; simp only [hS.glob, plain] at *; subst hR; first | (simp [*, Vx.bnot]; done) | omega | (split <;> simp [*]; done))
theorem f56_ok (a b : Int) (mk : Bool) (ah : Int) (R : Bool) (hR : R = rl a b mk ah 7) : FSpec Try.prog 56 [.agg [.int .i64 a, .int .i64 b, .bool mk, .int .i64 ah]] [] (fun r H' => r = .bool R ∧ H' = []) := by
  refine pure_of rfl ?_
  unfold rl at hR
  refine FSpec.of (fn := Try.f56) Try.func56 rfl rfl (by simp) fun C hC => ?_
  obtain ⟨iadd, isub, imul, iquo, irem, iband, ibor, ibxor, ibandn, ishl, ishr, iconv, ieq, ine, ilt, ile, igt, ige, bbeq, bbne, bnot, bband, sseq, ssne, sscat, sssub, sslen, sssz, ssbyte, toN, ofN, addN, subN, eqN, ltB, leN, imx, imn, inb, leb, sslt, ltN, fit, ne0, ge0, ssfit, minN, inR, bcol, bstr, isBy, hS⟩ := names
  refine V.goF (by first | exact trivial | assumption) Try.func56 tl_ok mixed hS.ops [] 400 ?_
  intro VV VA W hVV hVA hW
  conv => cbv
  (cases e1 : ieq b 5 <;> (conv => cbv))
  all_goals first | (with_reducible refine congrArg AV.bool ?_; clear hVV hVA VV VA hW W; simp only [hS.glob, plain] at *; subst hR; first | (simp [*, Vx.bnot]; done) | omega | (split <;> simp [*]; done)) | (cases e2 : ieq b 6 <;> (conv => cbv) <;> (repeat (simp only [e1, e2]; (conv => cbv))))
  all_goals (with_reducible refine congrArg AV.bool ?_; clear hVV hVA VV VA hW W; simp only [hS.glob, plain] at *; subst hR; first | (simp [*, Vx.bnot]; done) | omega | (split <;> simp [*]; done))
theorem f59_ok (a b : Int) (mk : Bool) (ah : Int) (R : Bool) (hR : R = rl a b mk ah 9) : FSpec Try.prog 59 [.agg [.int .i64 a, .int .i64 b, .bool mk, .int .i64 ah]] [] (fun r H' => r = .bool R ∧ H' = []) := by
  refine pure_of rfl ?_
  unfold rl at hR
  refine FSpec.of (fn := Try.f59) Try.func59 rfl rfl (by simp) fun C hC => ?_
  obtain ⟨iadd, isub, imul, iquo, irem, iband, ibor, ibxor, ibandn, ishl, ishr, iconv, ieq, ine, ilt, ile, igt, ige, bbeq, bbne, bnot, bband, sseq, ssne, sscat, sssub, sslen, sssz, ssbyte, toN, ofN, addN, subN, eqN, ltB, leN, imx, imn, inb, leb, sslt, ltN, fit, ne0, ge0, ssfit, minN, inR, bcol, bstr, isBy, hS⟩ := names
  refine V.goF (by first | exact trivial | assumption) Try.func59 tl_ok mixed hS.ops [] 400 ?_
  intro VV VA W hVV hVA hW
  conv => cbv
  (cases e1 : ieq a 5 <;> (conv => cbv))
  all_goals first | (with_reducible refine congrArg AV.bool ?_; clear hVV hVA VV VA hW W; simp only [hS.glob, plain] at *; subst hR; first | (simp [*, Vx.bnot]; done) | omega | (split <;> simp [*]; done)) | (cases e2 : ieq b 1 <;> (conv => cbv) <;> (repeat (simp only [e1, e2]; (conv => cbv))))
  all_goals (with_reducible refine congrArg AV.bool ?_; clear hVV hVA VV VA hW W; simp only [hS.glob, plain] at *; subst hR; first | (simp [*, Vx.bnot]; done) | omega | (split <;> simp [*]; done))
theorem f76_ok (a b : Int) (mk : Bool) (ah : Int) (g : Nat) (gfn : Func) (how : Int) (B : Bool) (hg : Try.prog.funcs[g]? = some gfn) (hgb : gfn.body.isNone = false) (hgn : (gfn.name == "runtime.NumGoroutine") = false) (hB : FSpec Try.prog g [.agg [.int .i64 a, .int .i64 b, .bool mk, .int .i64 ah]] [] (fun r H' => r = .bool B ∧ H' = [])) (R : Int) (hR : R = if B = true then how else -1) :
    FSpec Try.prog 76 [.agg [.int .i64 a, .int .i64 b, .bool mk, .int .i64 ah], .ref [.fn (.func g) [] []], .ref [.int .i64 how]] [] (fun r H' => r = .int .i64 R ∧ H' = []) := by
  refine pure_of rfl ?_
  refine FSpec.of (fn := Try.f76) Try.func76 rfl rfl (by simp) fun C hC => ?_
  obtain ⟨iadd, isub, imul, iquo, irem, iband, ibor, ibxor, ibandn, ishl, ishr, iconv, ieq, ine, ilt, ile, igt, ige, bbeq, bbne, bnot, bband, sseq, ssne, sscat, sssub, sslen, sssz, ssbyte, toN, ofN, addN, subN, eqN, ltB, leN, imx, imn, inb, leb, sslt, ltN, fit, ne0, ge0, ssfit, minN, inR, bcol, bstr, isBy, hS⟩ := names
  refine V.goF (by first | exact trivial | assumption) Try.func76 tl_ok mixed hS.ops [] 400 ?_
  intro VV VA W hVV hVA hW
  conv => cbv
  rw [hVV]
  clear hVV hVA VV VA hW W
  refine V.call rfl rfl rfl rfl rfl hg hgb hgn [] (by simp) (by simp) rfl rfl hB ?_
  rintro r Hc ⟨rfl, rfl⟩
  refine V.goF (by first | exact trivial | assumption) Try.func76 tl_ok mixed hS.ops [] 400 ?_
  intro VV VA W hVV hVA hW
  conv => cbv
  rw [hR]
  cases B
  · conv => cbv
    trivial
  · conv => cbv
    trivial
theorem f48_ok (how : Int) (g : Nat) : FSpec Try.prog 48 [.int .i64 how, .fn (.func g) [] []] [] (fun r H' => r = .fn (.func 76) [] [.ref [.fn (.func g) [] []], .ref [.int .i64 how]] ∧ H' = []) := by
  refine pure_of rfl ?_
  refine FSpec.of (fn := Try.f48) Try.func48 rfl rfl (by simp) fun C hC => ?_
  obtain ⟨iadd, isub, imul, iquo, irem, iband, ibor, ibxor, ibandn, ishl, ishr, iconv, ieq, ine, ilt, ile, igt, ige, bbeq, bbne, bnot, bband, sseq, ssne, sscat, sssub, sslen, sssz, ssbyte, toN, ofN, addN, subN, eqN, ltB, leN, imx, imn, inb, leb, sslt, ltN, fit, ne0, ge0, ssfit, minN, inR, bcol, bstr, isBy, hS⟩ := names
  refine V.goF (by first | exact trivial | assumption) Try.func48 tl_ok mixed hS.ops [] 6 ?_
  intro VV VA W hVV hVA hW
  conv => cbv
  rw [hVV]
  clear hVV hVA VV VA hW W
  refine V.freezePtr 2 rfl rfl rfl ?_
  refine V.freezePtr 3 rfl rfl rfl ?_
  refine V.goF (by first | exact trivial | assumption) Try.func48 tl_ok mixed hS.ops [] 400 ?_
  intro VV VA W hVV hVA hW
  conv => cbv
  trivial
def fnv (g : Nat) (how : Int) : List AV := [.fn (.func 76) [] [.ref [.fn (.func g) [] []], .ref [.int .i64 how]]]
def rulesL : List (List AV) := [fnv 49 0, fnv 50 2, fnv 51 0, fnv 52 1, fnv 53 0, fnv 54 1, fnv 55 0, fnv 56 0, fnv 57 0, fnv 59 0]
theorem f28_ok : FSpec Try.prog 28 [] [] (fun r H' => r = .rows 1 10 (fun i => rulesL.getD i []) ∧ H' = []) := by
  refine pure_of rfl ?_
  refine FSpec.of (fn := Try.f28) Try.func28 rfl rfl (by simp) fun C hC => ?_
  obtain ⟨iadd, isub, imul, iquo, irem, iband, ibor, ibxor, ibandn, ishl, ishr, iconv, ieq, ine, ilt, ile, igt, ige, bbeq, bbne, bnot, bband, sseq, ssne, sscat, sssub, sslen, sssz, ssbyte, toN, ofN, addN, subN, eqN, ltB, leN, imx, imn, inb, leb, sslt, ltN, fit, ne0, ge0, ssfit, minN, inR, bcol, bstr, isBy, hS⟩ := names
  refine V.goF (by first | exact trivial | assumption) Try.func28 tl_ok mixed hS.ops [] 400 ?_
  intro VV VA W hVV hVA hW
  conv => cbv
  rw [hVV]
  clear hVV hVA VV VA hW W
  refine V.call rfl rfl rfl rfl rfl Try.func48 rfl (by decide) [] (by simp) (by simp) (by (first | rfl | ((conv => cbv); (repeat' apply And.intro) <;> first | rfl | trivial | (first | rfl | omega | (simp (disch := omega) only [hS.glob, wraps, plain, Int.ofNat_eq_natCast]; first | done | rfl | omega | (simp; done) | (simp; omega)) | (simp (disch := omega) only [hS.glob, wraps, plain, Int.ofNat_eq_natCast, Vx.toN]; omega))))) rfl (f48_ok 0 49) ?_
  rintro r Hc ⟨rfl, rfl⟩
  refine V.goF (by first | exact trivial | assumption) Try.func28 tl_ok mixed hS.ops [] 400 ?_
  intro VV VA W hVV hVA hW
  conv => cbv
  rw [hVV]
  clear hVV hVA VV VA hW W
  refine V.call rfl rfl rfl rfl rfl Try.func48 rfl (by decide) [] (by simp) (by simp) (by (first | rfl | ((conv => cbv); (repeat' apply And.intro) <;> first | rfl | trivial | (first | rfl | omega | (simp (disch := omega) only [hS.glob, wraps, plain, Int.ofNat_eq_natCast]; first | done | rfl | omega | (simp; done) | (simp; omega)) | (simp (disch := omega) only [hS.glob, wraps, plain, Int.ofNat_eq_natCast, Vx.toN]; omega))))) rfl (f48_ok 2 50) ?_
  rintro r Hc ⟨rfl, rfl⟩
  refine V.goF (by first | exact trivial | assumption) Try.func28 tl_ok mixed hS.ops [] 400 ?_
  intro VV VA W hVV hVA hW
  conv => cbv
  rw [hVV]
  clear hVV hVA VV VA hW W
  refine V.call rfl rfl rfl rfl rfl Try.func48 rfl (by decide) [] (by simp) (by simp) (by (first | rfl | ((conv => cbv); (repeat' apply And.intro) <;> first | rfl | trivial | (first | rfl | omega | (simp (disch := omega) only [hS.glob, wraps, plain, Int.ofNat_eq_natCast]; first | done | rfl | omega | (simp; done) | (simp; omega)) | (simp (disch := omega) only [hS.glob, wraps, plain, Int.ofNat_eq_natCast, Vx.toN]; omega))))) rfl (f48_ok 0 51) ?_
  rintro r Hc ⟨rfl, rfl⟩
  refine V.goF (by first | exact trivial | assumption) Try.func28 tl_ok mixed hS.ops [] 400 ?_
  intro VV VA W hVV hVA hW
  conv => cbv
  rw [hVV]
  clear hVV hVA VV VA hW W
  refine V.call rfl rfl rfl rfl rfl Try.func48 rfl (by decide) [] (by simp) (by simp) (by (first | rfl | ((conv => cbv); (repeat' apply And.intro) <;> first | rfl | trivial | (first | rfl | omega | (simp (disch := omega) only [hS.glob, wraps, plain, Int.ofNat_eq_natCast]; first | done | rfl | omega | (simp; done) | (simp; omega)) | (simp (disch := omega) only [hS.glob, wraps, plain, Int.ofNat_eq_natCast, Vx.toN]; omega))))) rfl (f48_ok 1 52) ?_
  rintro r Hc ⟨rfl, rfl⟩
  refine V.goF (by first | exact trivial | assumption) Try.func28 tl_ok mixed hS.ops [] 400 ?_
  intro VV VA W hVV hVA hW
  conv => cbv
  rw [hVV]
  clear hVV hVA VV VA hW W
  refine V.call rfl rfl rfl rfl rfl Try.func48 rfl (by decide) [] (by simp) (by simp) (by (first | rfl | ((conv => cbv); (repeat' apply And.intro) <;> first | rfl | trivial | (first | rfl | omega | (simp (disch := omega) only [hS.glob, wraps, plain, Int.ofNat_eq_natCast]; first | done | rfl | omega | (simp; done) | (simp; omega)) | (simp (disch := omega) only [hS.glob, wraps, plain, Int.ofNat_eq_natCast, Vx.toN]; omega))))) rfl (f48_ok 0 53) ?_
  rintro r Hc ⟨rfl, rfl⟩
  refine V.goF (by first | exact trivial | assumption) Try.func28 tl_ok mixed hS.ops [] 400 ?_
  intro VV VA W hVV hVA hW
  conv => cbv
  rw [hVV]
  clear hVV hVA VV VA hW W
  refine V.call rfl rfl rfl rfl rfl Try.func48 rfl (by decide) [] (by simp) (by simp) (by (first | rfl | ((conv => cbv); (repeat' apply And.intro) <;> first | rfl | trivial | (first | rfl | omega | (simp (disch := omega) only [hS.glob, wraps, plain, Int.ofNat_eq_natCast]; first | done | rfl | omega | (simp; done) | (simp; omega)) | (simp (disch := omega) only [hS.glob, wraps, plain, Int.ofNat_eq_natCast, Vx.toN]; omega))))) rfl (f48_ok 1 54) ?_
  rintro r Hc ⟨rfl, rfl⟩
  refine V.goF (by first | exact trivial | assumption) Try.func28 tl_ok mixed hS.ops [] 400 ?_
  intro VV VA W hVV hVA hW
  conv => cbv
  rw [hVV]
  clear hVV hVA VV VA hW W
  refine V.call rfl rfl rfl rfl rfl Try.func48 rfl (by decide) [] (by simp) (by simp) (by (first | rfl | ((conv => cbv); (repeat' apply And.intro) <;> first | rfl | trivial | (first | rfl | omega | (simp (disch := omega) only [hS.glob, wraps, plain, Int.ofNat_eq_natCast]; first | done | rfl | omega | (simp; done) | (simp; omega)) | (simp (disch := omega) only [hS.glob, wraps, plain, Int.ofNat_eq_natCast, Vx.toN]; omega))))) rfl (f48_ok 0 55) ?_
  rintro r Hc ⟨rfl, rfl⟩
  refine V.goF (by first | exact trivial | assumption) Try.func28 tl_ok mixed hS.ops [] 400 ?_
  intro VV VA W hVV hVA hW
  conv => cbv
  rw [hVV]
  clear hVV hVA VV VA hW W
  refine V.call rfl rfl rfl rfl rfl Try.func48 rfl (by decide) [] (by simp) (by simp) (by (first | rfl | ((conv => cbv); (repeat' apply And.intro) <;> first | rfl | trivial | (first | rfl | omega | (simp (disch := omega) only [hS.glob, wraps, plain, Int.ofNat_eq_natCast]; first | done | rfl | omega | (simp; done) | (simp; omega)) | (simp (disch := omega) only [hS.glob, wraps, plain, Int.ofNat_eq_natCast, Vx.toN]; omega))))) rfl (f48_ok 0 56) ?_
  rintro r Hc ⟨rfl, rfl⟩
  refine V.goF (by first | exact trivial | assumption) Try.func28 tl_ok mixed hS.ops [] 400 ?_
  intro VV VA W hVV hVA hW
  conv => cbv
  rw [hVV]
  clear hVV hVA VV VA hW W
  refine V.call rfl rfl rfl rfl rfl Try.func48 rfl (by decide) [] (by simp) (by simp) (by (first | rfl | ((conv => cbv); (repeat' apply And.intro) <;> first | rfl | trivial | (first | rfl | omega | (simp (disch := omega) only [hS.glob, wraps, plain, Int.ofNat_eq_natCast]; first | done | rfl | omega | (simp; done) | (simp; omega)) | (simp (disch := omega) only [hS.glob, wraps, plain, Int.ofNat_eq_natCast, Vx.toN]; omega))))) rfl (f48_ok 0 57) ?_
  rintro r Hc ⟨rfl, rfl⟩
  refine V.goF (by first | exact trivial | assumption) Try.func28 tl_ok mixed hS.ops [] 400 ?_
  intro VV VA W hVV hVA hW
  conv => cbv
  rw [hVV]
  clear hVV hVA VV VA hW W
  refine V.call rfl rfl rfl rfl rfl Try.func48 rfl (by decide) [] (by simp) (by simp) (by (first | rfl | ((conv => cbv); (repeat' apply And.intro) <;> first | rfl | trivial | (first | rfl | omega | (simp (disch := omega) only [hS.glob, wraps, plain, Int.ofNat_eq_natCast]; first | done | rfl | omega | (simp; done) | (simp; omega)) | (simp (disch := omega) only [hS.glob, wraps, plain, Int.ofNat_eq_natCast, Vx.toN]; omega))))) rfl (f48_ok 0 59) ?_
  rintro r Hc ⟨rfl, rfl⟩
  refine V.goF (by first | exact trivial | assumption) Try.func28 tl_ok mixed hS.ops [] 1 ?_
  intro VV VA W hVV hVA hW
  conv => cbv
  rw [hVV]
  clear hVV hVA VV VA hW W
  refine V.freeze0 11 0 10 (by rfl) (by rfl) (by rfl) (by first | decide | omega | exact (Nat.succ_pos _)) (by rfl) (by rfl) (by first | exact Nat.le_refl _ | decide | omega | (simp only [Cont.n]; omega)) ?_
  refine V.goF (by first | exact trivial | assumption) Try.func28 tl_ok mixed hS.ops [] 400 ?_
  intro VV VA W hVV hVA hW
  conv => cbv
  rfl
end Go.Proofs.Ytngagepodbcohaa

/- What clusters count as. -/
namespace Go.Proofs.Ytngagepodbcohaa
open Go Vx
set_option maxRecDepth 100000
def cstep (last k : Int) : Int := if k < 0 ∨ k > 11 ∨ (k = 10 ∧ openK last = true) then 0 else if k = 10 then last else k
def cnt (ki : Nat → Int) : Nat → Int
  | 0 => 11
  | i + 1 => cstep (cnt ki i) (ki i)
theorem f27_ok1 (n : Nat) (hn : n ≤ 2000000) (ki : Nat → Int) : FSpec Try.prog 27 [.rows 1 n (icol .i64 ki)] [] (fun r H' => ∃ c, (∀ j, j < n → c j = cnt ki (j + 1)) ∧ r = .sl 0 0 n ∧ H' = [some ⟨45, 1, .arr n (icol .i64 c)⟩]) := by
  obtain ⟨Q, hQ⟩ : ∃ Q : AV → Hp → Prop, Q = (fun r H' => ∃ c, (∀ j, j < n → c j = cnt ki (j + 1)) ∧ r = .sl 0 0 n ∧ H' = [some ⟨45, 1, .arr n (icol .i64 c)⟩]) := ⟨_, rfl⟩
  rw [← hQ]
  obtain ⟨L, hL⟩ : ∃ L, L = cnt ki := ⟨_, rfl⟩
  have h0 : L 0 = 11 := by rw [hL]; rfl
  have hs : ∀ i, L (i + 1) = cstep (L i) (ki i) := fun i => by rw [hL]; rfl
  rw [← hL] at hQ
  clear hL
  refine FSpec.of (fn := Try.f27) Try.func27 rfl rfl (by simp) fun C hC => ?_
  obtain ⟨iadd, isub, imul, iquo, irem, iband, ibor, ibxor, ibandn, ishl, ishr, iconv, ieq, ine, ilt, ile, igt, ige, bbeq, bbne, bnot, bband, sseq, ssne, sscat, sssub, sslen, sssz, ssbyte, toN, ofN, addN, subN, eqN, ltB, leN, imx, imn, inb, leb, sslt, ltN, fit, ne0, ge0, ssfit, minN, inR, bcol, bstr, isBy, hS⟩ := names
  refine V.goF (by first | exact trivial | assumption) Try.func27 tl_ok mixed hS.ops [] 400 ?_
  intro VV VA W hVV hVA hW
  conv => cbv
  rw [hVV]
  clear hVV hVA VV VA hW W
  refine V.phantom 3 45 1 (icol .i64 (fun _ => 0)) rfl ?_
  refine V.to (s' := [(9, .int .i64 (ofN 0)), (4, .int .i64 (L 0)), (3, .sl 0 0 0), (8, .int .i64 (ofN n)), (7, .rows 1 n (icol .i64 ki))]) (H' := [some ⟨45, 1, .arr 0 (icol .i64 (fun _ => 0))⟩]) ?_ (by
    refine ⟨sti (by (first | rfl | omega | (simp (disch := omega) only [hS.glob, wraps, plain, Int.ofNat_eq_natCast]; first | done | rfl | omega | (simp; done) | (simp; omega)) | (simp (disch := omega) only [hS.glob, wraps, plain, Int.ofNat_eq_natCast, Vx.toN]; omega))), sti h0.symm, rfl, rfl, rfl, trivial⟩) rfl (by (repeat' first | exact trivial | rfl | exact Nat.le_refl _ | exact (fun _ _ => rfl) | (refine And.intro ?_ ?_) | (simp only [hS.glob, plain]; first | done | omega))) (by rw [hC]; simp)
  refine V.loop (γ := Nat × (Nat → Int)) (fun p => p.1 ≤ n ∧ ∀ j, j < p.1 → p.2 j = L (j + 1)) (fun p => [(9, .int .i64 (ofN p.1)), (4, .int .i64 (L p.1)), (3, .sl 0 0 p.1), (8, .int .i64 (ofN n)), (7, .rows 1 n (icol .i64 ki))]) (fun p => [some ⟨45, 1, .arr p.1 (icol .i64 p.2)⟩]) (fun p => n - p.1) ?_ (0, fun _ => 0) ⟨Nat.zero_le _, fun j hj => absurd hj (Nat.not_lt_zero _)⟩
  rintro ⟨i, c⟩ ⟨hi, hc⟩ hback
  dsimp only at hi hc hback ⊢
  have hsi := hs i
  obtain ⟨la, hla⟩ : ∃ la, la = L i := ⟨_, rfl⟩
  obtain ⟨R, hR⟩ : ∃ R, R = L (i + 1) := ⟨_, rfl⟩
  obtain ⟨B, hB⟩ : ∃ B, B = openK la := ⟨_, rfl⟩
  unfold cstep at hsi
  rw [← hla, ← hR, ← hB] at hsi
  rw [← hla]
  obtain ⟨c', e2, e3⟩ := snocF c i R
  refine V.goF (by first | exact trivial | assumption) Try.func27 tl_ok mixed hS.ops [] 400 ?_
  intro VV VA W hVV hVA hW
  conv => cbv
  cases h1 : ilt (ofN i) (ofN n)
  · conv => cbv
    simp (disch := first | omega | (simp only [hS.glob, wraps, plain, Int.ofNat_eq_natCast]; omega)) only [hS.glob, wraps, plain, Int.ofNat_eq_natCast] at h1
    obtain rfl : i = n := by omega
    rw [hQ]
    exact ⟨c, hc, rfl, rfl⟩
  conv => cbv
  simp (disch := first | omega | (simp only [hS.glob, wraps, plain, Int.ofNat_eq_natCast]; omega)) only [hS.glob, wraps, plain, Int.ofNat_eq_natCast] at h1
  repeat (refine ⟨by first | (rw [hW]; show ordOk _ _ _ = true; kernel_rfl) | (first | trivial | omega | (simp (disch := omega) only [hS.glob, wraps, plain, Int.ofNat_eq_natCast]; first | done | omega | trivial | (simp; done) | (simp; omega) | (constructor <;> omega)) | (simp (disch := omega) only [hS.glob, wraps, plain, Int.ofNat_eq_natCast, Vx.toN]; omega)), ?_⟩)
  simp only [hS.tidy]
  obtain ⟨k, hk⟩ : ∃ k, k = ki i := ⟨_, rfl⟩
  rw [← hk] at hsi ⊢
  cases h2 : ilt k 0
  case' true =>
    conv => cbv
    simp (disch := first | omega | (simp only [hS.glob, wraps, plain, Int.ofNat_eq_natCast]; omega)) only [hS.glob, wraps, plain, Int.ofNat_eq_natCast] at h2
    rw [if_pos (.inl h2)] at hsi
  case' false =>
    conv => cbv
    cases h3 : igt k 11
    case' true =>
      conv => cbv
      simp (disch := first | omega | (simp only [hS.glob, wraps, plain, Int.ofNat_eq_natCast]; omega)) only [hS.glob, wraps, plain, Int.ofNat_eq_natCast] at h3
      rw [if_pos (.inr (.inl h3))] at hsi
    case' false =>
      conv => cbv
      simp (disch := first | omega | (simp only [hS.glob, wraps, plain, Int.ofNat_eq_natCast]; omega)) only [hS.glob, wraps, plain, Int.ofNat_eq_natCast] at h2 h3
      cases h4 : ieq k 10
      case' false =>
        conv => cbv
        simp (disch := first | omega | (simp only [hS.glob, wraps, plain, Int.ofNat_eq_natCast]; omega)) only [hS.glob, wraps, plain, Int.ofNat_eq_natCast] at h4
        simp only [show ieq k 10 = false by simp only [hS.glob, plain]; exact h4]
        conv => cbv
        rw [if_neg (by omega), if_neg h4] at hsi
      case' true =>
        conv => cbv
        rw [hVV]
        clear hVV hVA VV VA hW W
        refine V.call rfl rfl rfl rfl rfl Try.func47 rfl (by decide) [] (by simp) (by simp) (by (first | rfl | ((conv => cbv); (repeat' apply And.intro) <;> first | rfl | trivial | (first | rfl | omega | (simp (disch := omega) only [hS.glob, wraps, plain, Int.ofNat_eq_natCast]; first | done | rfl | omega | (simp; done) | (simp; omega)) | (simp (disch := omega) only [hS.glob, wraps, plain, Int.ofNat_eq_natCast, Vx.toN]; omega))))) rfl (f47_ok la B hB) ?_
        rintro r Hc ⟨rfl, rfl⟩
        refine V.goF (by first | exact trivial | assumption) Try.func27 tl_ok mixed hS.ops [] 400 ?_
        intro VV VA W hVV hVA hW
        conv => cbv
        cases B
        case' true =>
          conv => cbv
          simp (disch := first | omega | (simp only [hS.glob, wraps, plain, Int.ofNat_eq_natCast]; omega)) only [hS.glob, wraps, plain, Int.ofNat_eq_natCast] at h4
          rw [if_pos (.inr (.inr ⟨h4, rfl⟩))] at hsi
        case' false =>
          conv => cbv
          simp only [h4]
          conv => cbv
          simp (disch := first | omega | (simp only [hS.glob, wraps, plain, Int.ofNat_eq_natCast]; omega)) only [hS.glob, wraps, plain, Int.ofNat_eq_natCast] at h4
          rw [if_neg (fun h => by rcases h with h | h | h; omega; omega; cases h.2), if_pos h4] at hsi
  all_goals
    repeat (refine ⟨by first | (rw [hW]; show ordOk _ _ _ = true; kernel_rfl) | (first | trivial | omega | (simp (disch := omega) only [hS.glob, wraps, plain, Int.ofNat_eq_natCast]; first | done | omega | trivial | (simp; done) | (simp; omega) | (constructor <;> omega)) | (simp (disch := omega) only [hS.glob, wraps, plain, Int.ofNat_eq_natCast, Vx.toN]; omega)), ?_⟩)
    rw [hVV]
    clear hVV hVA VV VA hW W
    refine V.pick [2] (by decide) (by rw [hC]; exact begins_of rfl) (by rfl) (by rfl) ?_
    refine V.to (hback (i + 1, c') ⟨by simp only; omega, fun j hj => by
      rcases Nat.lt_or_ge j i with h | h
      · exact (e2 j h).trans (hc j h)
      · obtain rfl : j = i := by omega
        exact e3.trans hR⟩ (by simp only; omega)) (by
      refine ⟨sti (by (first | rfl | omega | (simp (disch := omega) only [hS.glob, wraps, plain, Int.ofNat_eq_natCast]; first | done | rfl | omega | (simp; done) | (simp; omega)) | (simp (disch := omega) only [hS.glob, wraps, plain, Int.ofNat_eq_natCast, Vx.toN]; omega))), sti (hsi.symm.trans hR), ?_, rfl, rfl, trivial⟩
      exact slq rfl rfl (by (first | rfl | omega | (simp (disch := omega) only [hS.glob, wraps, plain, Int.ofNat_eq_natCast]; first | done | rfl | omega | (simp; done) | (simp; omega)) | (simp (disch := omega) only [hS.glob, wraps, plain, Int.ofNat_eq_natCast, Vx.toN]; omega)))) rfl ⟨⟨rfl, rfl, ⟨by show i + 1 ≤ addN i 1; (first | trivial | omega | (simp (disch := omega) only [hS.glob, wraps, plain, Int.ofNat_eq_natCast]; first | done | omega | trivial | (simp; done) | (simp; omega) | (constructor <;> omega)) | (simp (disch := omega) only [hS.glob, wraps, plain, Int.ofNat_eq_natCast, Vx.toN]; omega)), fun j hj => leaf (by simp [hS.glob]) (by simp [hS.glob]) _ c c' i e2 (e3.trans hsi) j hj⟩, rfl⟩, trivial⟩ (by rw [hC]; simp)
theorem f27_ok (n : Nat) (hn : n ≤ 2000000) (ki : Nat → Int) : FSpec Try.prog 27 [.rows 1 n (icol .i64 ki)] [] (fun r H' => H' = [] ∧ ∃ k f, (n = k ∧ ∃ c, f = icol .i64 c ∧ ∀ j, j < n → c j = cnt ki (j + 1)) ∧ r = .rows 1 k f) := by
  refine FSpec.froz (by decide) (f27_ok1 n hn ki) ?_
  rintro r H' ⟨c, h1, rfl, rfl⟩
  exact ⟨n, _, ⟨rfl, c, rfl, h1⟩, .inr ⟨0, 45, n, _, rfl, Nat.le_refl _, rfl, fun _ _ => rfl⟩⟩
end Go.Proofs.Ytngagepodbcohaa

/- Where lines may end. -/
namespace Go.Proofs.Ytngagepodbcohaa
open Go Vx
set_option maxRecDepth 100000
def hwN (j : Nat) : Int := [0, 2, 0, 1, 0, 1, 0, 0, 0, 0].getD j 0
def howF (f : Nat → Bool) : Nat → Nat → Int
  | 0, _ => 1
  | c + 1, j => if f j = true then hwN j else howF f c (j + 1)
theorem howF_at (f : Nat → Bool) (i : Nat) (h : f i = true) : ∀ (c j : Nat), j ≤ i → i < j + c → (∀ k, j ≤ k → k < i → f k = false) → howF f c j = hwN i
  | 0, j, h1, h2, _ => by omega
  | c + 1, j, h1, h2, h3 => by
    unfold howF
    by_cases hj : j = i
    · subst hj; rw [if_pos h]
    · rw [if_neg (by rw [h3 j (Nat.le_refl _) (by omega)]; decide)]
      exact howF_at f i h c (j + 1) (by omega) (by omega) (fun k h4 h5 => h3 k (by omega) h5)
theorem howF_no (f : Nat → Bool) : ∀ (c j : Nat), (∀ k, j ≤ k → k < j + c → f k = false) → howF f c j = 1
  | 0, _, _ => rfl
  | c + 1, j, h => by
    unfold howF
    rw [if_neg (by rw [h j (Nat.le_refl _) (by omega)]; decide)]
    exact howF_no f c (j + 1) (fun k h4 h5 => h k (by omega) (by omega))
def ahd (ki : Nat → Int) : Nat → Int
  | 0 => 11
  | i + 1 => if cnt ki (i + 1) = 8 then ahd ki i else cnt ki (i + 1)
/-- How a line may end behind a cluster. -/
def allI (n : Nat) (ki : Nat → Int) (i : Nat) : Int := if i + 1 = n then 2 else howF (rl (cnt ki (i + 1)) (cnt ki (i + 2)) (decide (ki (i + 1) = 10)) (ahd ki (i + 1))) 10 0
theorem rule_at (a b : Int) (mk : Bool) (ah : Int) (j : Nat) (hj : j < 10) : ∃ (g : Nat) (gfn : Func), rulesL.getD j [] = fnv g (hwN j) ∧ Try.prog.funcs[g]? = some gfn ∧ gfn.body.isNone = false ∧ (gfn.name == "runtime.NumGoroutine") = false ∧ FSpec Try.prog g [.agg [.int .i64 a, .int .i64 b, .bool mk, .int .i64 ah]] [] (fun r H' => r = .bool (rl a b mk ah j) ∧ H' = []) := by
  match j, hj with
  | 0, _ => exact ⟨49, Try.f49, rfl, Try.func49, rfl, by decide, f49_ok a b mk ah _ rfl⟩
  | 1, _ => exact ⟨50, Try.f50, rfl, Try.func50, rfl, by decide, f50_ok a b mk ah _ rfl⟩
  | 2, _ => exact ⟨51, Try.f51, rfl, Try.func51, rfl, by decide, f51_ok a b mk ah _ rfl⟩
  | 3, _ => exact ⟨52, Try.f52, rfl, Try.func52, rfl, by decide, f52_ok a b mk ah _ rfl⟩
  | 4, _ => exact ⟨53, Try.f53, rfl, Try.func53, rfl, by decide, f53_ok a b mk ah _ rfl⟩
  | 5, _ => exact ⟨54, Try.f54, rfl, Try.func54, rfl, by decide, f54_ok a b mk ah _ rfl⟩
  | 6, _ => exact ⟨55, Try.f55, rfl, Try.func55, rfl, by decide, f55_ok a b mk ah _ rfl⟩
  | 7, _ => exact ⟨56, Try.f56, rfl, Try.func56, rfl, by decide, f56_ok a b mk ah _ rfl⟩
  | 8, _ => exact ⟨57, Try.f57, rfl, Try.func57, rfl, by decide, f57_ok a b mk ah _ rfl⟩
  | 9, _ => exact ⟨59, Try.f59, rfl, Try.func59, rfl, by decide, f59_ok a b mk ah _ rfl⟩
theorem f15_ok1 (n : Nat) (hn : n ≤ 2000000) (ki : Nat → Int) : FSpec Try.prog 15 [.rows 1 n (icol .i64 ki)] [] (fun r H' => ∃ w, (∀ j, j < n → w j = allI n ki j) ∧ Fresh H' 1 n (icol .i64 w) r) := by
  obtain ⟨Q, hQ⟩ : ∃ Q : AV → Hp → Prop, Q = (fun r H' => ∃ w, (∀ j, j < n → w j = allI n ki j) ∧ Fresh H' 1 n (icol .i64 w) r) := ⟨_, rfl⟩
  rw [← hQ]
  have hAll : ∀ i, allI n ki i = if i + 1 = n then 2 else howF (rl (cnt ki (i + 1)) (cnt ki (i + 2)) (decide (ki (i + 1) = 10)) (ahd ki (i + 1))) 10 0 := fun _ => rfl
  have hAh : ∀ i, ahd ki (i + 1) = if cnt ki (i + 1) = 8 then ahd ki i else cnt ki (i + 1) := fun _ => rfl
  have hAh0 : ahd ki 0 = 11 := rfl
  generalize allI n ki = AL at hQ hAll
  generalize ahd ki = AH at hAll hAh hAh0
  refine FSpec.of (fn := Try.f15) Try.func15 rfl rfl (by simp) fun C hC => ?_
  obtain ⟨iadd, isub, imul, iquo, irem, iband, ibor, ibxor, ibandn, ishl, ishr, iconv, ieq, ine, ilt, ile, igt, ige, bbeq, bbne, bnot, bband, sseq, ssne, sscat, sssub, sslen, sssz, ssbyte, toN, ofN, addN, subN, eqN, ltB, leN, imx, imn, inb, leb, sslt, ltN, fit, ne0, ge0, ssfit, minN, inR, bcol, bstr, isBy, hS⟩ := names
  refine V.goF (by first | exact trivial | assumption) Try.func15 tl_ok mixed hS.ops [] 400 ?_
  intro VV VA W hVV hVA hW
  conv => cbv
  rw [hVV]
  clear hVV hVA VV VA hW W
  refine V.call rfl rfl rfl rfl rfl Try.func27 rfl (by decide) [] (by simp) (by simp) (by (first | rfl | ((conv => cbv); (repeat' apply And.intro) <;> first | rfl | trivial | (first | rfl | omega | (simp (disch := omega) only [hS.glob, wraps, plain, Int.ofNat_eq_natCast]; first | done | rfl | omega | (simp; done) | (simp; omega)) | (simp (disch := omega) only [hS.glob, wraps, plain, Int.ofNat_eq_natCast, Vx.toN]; omega))))) rfl (f27_ok n hn ki) ?_
  rintro r Hc ⟨rfl, k0, f0, ⟨rfl, c, rfl, hc⟩, rfl⟩
  refine V.goF (by first | exact trivial | assumption) Try.func15 tl_ok mixed hS.ops [] 400 ?_
  intro VV VA W hVV hVA hW
  conv => cbv
  rw [hVV]
  clear hVV hVA VV VA hW W
  refine V.phantom 4 3 1 (icol .i64 (fun _ => 0)) rfl ?_
  refine V.to (s' := [(17, .int .i64 (ofN 0)), (5, .int .i64 (AH 0)), (4, .sl 0 0 0), (16, .int .i64 (ofN n)), (15, .rows 1 n (icol .i64 c)), (3, .rows 1 n (icol .i64 c)), (0, .rows 1 n (icol .i64 ki))]) (H' := [some ⟨3, 1, .arr 0 (icol .i64 (fun _ => 0))⟩]) ?_ (by
    refine ⟨sti (by (first | rfl | omega | (simp (disch := omega) only [hS.glob, wraps, plain, Int.ofNat_eq_natCast]; first | done | rfl | omega | (simp; done) | (simp; omega)) | (simp (disch := omega) only [hS.glob, wraps, plain, Int.ofNat_eq_natCast, Vx.toN]; omega))), sti hAh0.symm, rfl, rfl, rfl, rfl, rfl, trivial⟩) rfl (by (repeat' first | exact trivial | rfl | exact Nat.le_refl _ | exact (fun _ _ => rfl) | (refine And.intro ?_ ?_) | (simp only [hS.glob, plain]; first | done | omega))) (by rw [hC]; simp)
  refine V.loop (γ := Nat × (Nat → Int)) (fun p => p.1 ≤ n ∧ ∀ j, j < p.1 → p.2 j = AL j) (fun p => [(17, .int .i64 (ofN p.1)), (5, .int .i64 (AH p.1)), (4, .sl 0 0 p.1), (16, .int .i64 (ofN n)), (15, .rows 1 n (icol .i64 c)), (3, .rows 1 n (icol .i64 c)), (0, .rows 1 n (icol .i64 ki))]) (fun p => [some ⟨3, 1, .arr p.1 (icol .i64 p.2)⟩]) (fun p => n - p.1) ?_ (0, fun _ => 0) ⟨Nat.zero_le _, fun j hj => absurd hj (Nat.not_lt_zero _)⟩
  rintro ⟨i, w⟩ ⟨hi, hw⟩ hback
  dsimp only at hi hw hback ⊢
  have hsi := hAh i
  obtain ⟨la, hla⟩ : ∃ la, la = AH i := ⟨_, rfl⟩
  obtain ⟨ah, hah⟩ : ∃ ah, ah = AH (i + 1) := ⟨_, rfl⟩
  obtain ⟨R, hR⟩ : ∃ R, R = AL i := ⟨_, rfl⟩
  have hRi := hAll i
  rw [← hR, ← hah] at hRi
  rw [← hla, ← hah] at hsi
  rw [← hla]
  obtain ⟨w', e2, e3⟩ := snocF w i R
  refine V.goF (by first | exact trivial | assumption) Try.func15 tl_ok mixed hS.ops [] 400 ?_
  intro VV VA W hVV hVA hW
  conv => cbv
  cases h1 : ilt (ofN i) (ofN n)
  · conv => cbv
    simp (disch := first | omega | (simp only [hS.glob, wraps, plain, Int.ofNat_eq_natCast]; omega)) only [hS.glob, wraps, plain, Int.ofNat_eq_natCast] at h1
    obtain rfl : i = n := by omega
    rw [hQ]
    exact ⟨w, hw, .inr ⟨0, 3, i, _, rfl, Nat.le_refl _, rfl, fun _ _ => rfl⟩⟩
  conv => cbv
  simp (disch := first | omega | (simp only [hS.glob, wraps, plain, Int.ofNat_eq_natCast]; omega)) only [hS.glob, wraps, plain, Int.ofNat_eq_natCast] at h1
  repeat (refine ⟨by first | (rw [hW]; show ordOk _ _ _ = true; kernel_rfl) | (first | trivial | omega | (simp (disch := omega) only [hS.glob, wraps, plain, Int.ofNat_eq_natCast]; first | done | omega | trivial | (simp; done) | (simp; omega) | (constructor <;> omega)) | (simp (disch := omega) only [hS.glob, wraps, plain, Int.ofNat_eq_natCast, Vx.toN]; omega)), ?_⟩)
  simp only [hS.tidy]
  obtain ⟨k, hk⟩ : ∃ k, k = c i := ⟨_, rfl⟩
  have hk2 : k = cnt ki (i + 1) := by rw [hk]; exact hc i (by omega)
  rw [← hk2] at hsi hRi
  rw [← hk]
  cases h2 : ine k 8
  case' true =>
    conv => cbv
    simp (disch := first | omega | (simp only [hS.glob, wraps, plain, Int.ofNat_eq_natCast]; omega)) only [hS.glob, wraps, plain, Int.ofNat_eq_natCast] at h2
    rw [if_neg h2] at hsi
  case' false =>
    conv => cbv
    simp (disch := first | omega | (simp only [hS.glob, wraps, plain, Int.ofNat_eq_natCast]; omega)) only [hS.glob, wraps, plain, Int.ofNat_eq_natCast] at h2
    rw [if_pos h2] at hsi
  all_goals
    have ei : iadd .i64 (ofN i) 1 = ofN (i + 1) := by (first | rfl | omega | (simp (disch := omega) only [hS.glob, wraps, plain, Int.ofNat_eq_natCast]; first | done | rfl | omega | (simp; done) | (simp; omega)) | (simp (disch := omega) only [hS.glob, wraps, plain, Int.ofNat_eq_natCast, Vx.toN]; omega))
    simp only [ei]
    cases h3 : ieq (ofN (i + 1)) (ofN n)
    case true =>
      conv => cbv
      simp (disch := first | omega | (simp only [hS.glob, wraps, plain, Int.ofNat_eq_natCast]; omega)) only [hS.glob, wraps, plain, Int.ofNat_eq_natCast] at h3
      rw [if_pos (by omega)] at hRi
      repeat (refine ⟨by first | (rw [hW]; show ordOk _ _ _ = true; kernel_rfl) | (first | trivial | omega | (simp (disch := omega) only [hS.glob, wraps, plain, Int.ofNat_eq_natCast]; first | done | omega | trivial | (simp; done) | (simp; omega) | (constructor <;> omega)) | (simp (disch := omega) only [hS.glob, wraps, plain, Int.ofNat_eq_natCast, Vx.toN]; omega)), ?_⟩)
      rw [hQ]
      have en : addN i 1 = n := by (first | rfl | omega | (simp (disch := omega) only [hS.glob, wraps, plain, Int.ofNat_eq_natCast]; first | done | rfl | omega | (simp; done) | (simp; omega)) | (simp (disch := omega) only [hS.glob, wraps, plain, Int.ofNat_eq_natCast, Vx.toN]; omega))
      rw [en]
      refine ⟨w', fun j hj => ?_, .inr ⟨_, _, n, _, rfl, Nat.le_refl _, rfl, fun j hj => ?_⟩⟩
      · rcases Nat.lt_or_ge j i with h | h
        · exact (e2 j h).trans (hw j h)
        · obtain rfl : j = i := by omega
          exact e3.trans hR
      · exact (leaf (by simp [hS.glob]) (by simp [hS.glob]) _ w w' i e2 (e3.trans hRi) j (by omega)).symm
    conv => cbv
    simp (disch := first | omega | (simp only [hS.glob, wraps, plain, Int.ofNat_eq_natCast]; omega)) only [hS.glob, wraps, plain, Int.ofNat_eq_natCast] at h3
    rw [if_neg (by omega)] at hRi
    refine ⟨by rw [hW]; show ordOk _ _ _ = true; kernel_rfl, ?_⟩
    try simp only [ei]
    repeat (refine ⟨by first | (rw [hW]; show ordOk _ _ _ = true; kernel_rfl) | (first | trivial | omega | (simp (disch := omega) only [hS.glob, wraps, plain, Int.ofNat_eq_natCast]; first | done | omega | trivial | (simp; done) | (simp; omega) | (constructor <;> omega)) | (simp (disch := omega) only [hS.glob, wraps, plain, Int.ofNat_eq_natCast, Vx.toN]; omega)), ?_⟩)
    try simp only [hS.tidy, ei]
    repeat (refine ⟨by first | (rw [hW]; show ordOk _ _ _ = true; kernel_rfl) | (first | trivial | omega | (simp (disch := omega) only [hS.glob, wraps, plain, Int.ofNat_eq_natCast]; first | done | omega | trivial | (simp; done) | (simp; omega) | (constructor <;> omega)) | (simp (disch := omega) only [hS.glob, wraps, plain, Int.ofNat_eq_natCast, Vx.toN]; omega)), ?_⟩)
    try simp only [hS.tidy]
    obtain ⟨b, hb⟩ : ∃ b, b = c (i + 1) := ⟨_, rfl⟩
    have hb2 : b = cnt ki (i + 2) := by rw [hb]; exact hc (i + 1) (by omega)
    obtain ⟨mk, hmk⟩ : ∃ mk, mk = decide (ki (i + 1) = 10) := ⟨_, rfl⟩
    rw [← hb2, ← hmk] at hRi
    have hmk2 : ieq (ki (i + 1)) 10 = mk := by simp only [hS.glob]; rw [hmk]; rfl
    simp only [hmk2]
    rw [← hb]
    obtain ⟨RF, hRF⟩ : ∃ RF : Nat → List AV, RF = fun i => rulesL.getD i [] := ⟨_, rfl⟩
    have hrule : ∀ j, j < 10 → _ := rule_at k b mk ah
    obtain ⟨rf, hrf⟩ : ∃ rf, rf = rl k b mk ah := ⟨_, rfl⟩
    rw [← hrf] at hRi hrule
    have hF := hRF
    have h28 := f28_ok
    rw [← hRF] at h28
    have hRFj : ∀ j, RF j = rulesL.getD j [] := fun j => by rw [hF]
    clear hrf hF hRF
    rw [hVV]
    clear hVV hVA VV VA hW W
    refine V.call rfl rfl rfl rfl rfl Try.func28 rfl (by decide) [] (by simp) (by simp) (by (first | rfl | ((conv => cbv); (repeat' apply And.intro) <;> first | rfl | trivial | (first | rfl | omega | (simp (disch := omega) only [hS.glob, wraps, plain, Int.ofNat_eq_natCast]; first | done | rfl | omega | (simp; done) | (simp; omega)) | (simp (disch := omega) only [hS.glob, wraps, plain, Int.ofNat_eq_natCast, Vx.toN]; omega))))) rfl h28 ?_
    rintro r Hc ⟨rfl, rfl⟩
    refine V.goF (by first | exact trivial | assumption) Try.func15 tl_ok mixed hS.ops [] 400 ?_
    intro VV VA W hVV hVA hW
    conv => cbv
    rw [hVV]
    clear hVV hVA VV VA hW W
    refine V.to (s' := [(49, .int .i64 (ofN 0)), (48, .int .i64 10), (47, .rows 1 10 RF), (9, .int .i64 1), (8, .ptr 1 0 0), (17, .int .i64 (ofN i)), (5, .int .i64 ah), (4, .sl 0 0 i), (16, .int .i64 (ofN n)), (15, .rows 1 n (icol .i64 c)), (3, .rows 1 n (icol .i64 c)), (0, .rows 1 n (icol .i64 ki))]) (H' := [some ⟨3, 1, .arr i (icol .i64 w)⟩, some ⟨77, 4, .lit [[.int .i64 k, .int .i64 b, .bool mk, .int .i64 ah]]⟩]) ?_ (by
      refine ⟨sti (by (first | rfl | omega | (simp (disch := omega) only [hS.glob, wraps, plain, Int.ofNat_eq_natCast]; first | done | rfl | omega | (simp; done) | (simp; omega)) | (simp (disch := omega) only [hS.glob, wraps, plain, Int.ofNat_eq_natCast, Vx.toN]; omega))), sti (by (first | rfl | omega | (simp (disch := omega) only [hS.glob, wraps, plain, Int.ofNat_eq_natCast]; first | done | rfl | omega | (simp; done) | (simp; omega)) | (simp (disch := omega) only [hS.glob, wraps, plain, Int.ofNat_eq_natCast, Vx.toN]; omega))), rfl, rfl, rfl, rfl, sti (by first | exact hsi.symm | rfl), rfl, rfl, rfl, rfl, rfl, trivial⟩) rfl (by
      refine ⟨⟨rfl, rfl, ⟨Nat.le_refl _, fun _ _ => rfl⟩, rfl⟩, ⟨rfl, rfl, ?_, rfl⟩, trivial⟩
      first | (rw [hsi]; rfl) | (rw [← hsi]; rfl)) (by rw [hC]; simp)
    refine V.loop (γ := Nat) (fun q => q ≤ 10 ∧ ∀ j, j < q → rf j = false) (fun q => [(49, .int .i64 (ofN q)), (48, .int .i64 10), (47, .rows 1 10 RF), (9, .int .i64 1), (8, .ptr 1 0 0), (17, .int .i64 (ofN i)), (5, .int .i64 ah), (4, .sl 0 0 i), (16, .int .i64 (ofN n)), (15, .rows 1 n (icol .i64 c)), (3, .rows 1 n (icol .i64 c)), (0, .rows 1 n (icol .i64 ki))]) (fun _ => [some ⟨3, 1, .arr i (icol .i64 w)⟩, some ⟨77, 4, .lit [[.int .i64 k, .int .i64 b, .bool mk, .int .i64 ah]]⟩]) (fun q => 10 - q) ?_ 0 ⟨Nat.zero_le _, fun j hj => absurd hj (Nat.not_lt_zero _)⟩
    rintro q ⟨hq, hrq⟩ hback2
    refine V.goF (by first | exact trivial | assumption) Try.func15 tl_ok mixed hS.ops [] 400 ?_
    intro VV VA W hVV hVA hW
    conv => cbv
    cases h5 : ilt (ofN q) 10
    case' false =>
      conv => cbv
      simp (disch := first | omega | (simp only [hS.glob, wraps, plain, Int.ofNat_eq_natCast]; omega)) only [hS.glob, wraps, plain, Int.ofNat_eq_natCast] at h5
      have hv : R = 1 := by
        rw [hRi]
        exact howF_no rf 10 0 (fun j _ h6 => hrq j (by omega))
    case' true =>
      conv => cbv
      simp (disch := first | omega | (simp only [hS.glob, wraps, plain, Int.ofNat_eq_natCast]; omega)) only [hS.glob, wraps, plain, Int.ofNat_eq_natCast] at h5
      repeat (refine ⟨by first | (rw [hW]; show ordOk _ _ _ = true; kernel_rfl) | (first | trivial | omega | (simp (disch := omega) only [hS.glob, wraps, plain, Int.ofNat_eq_natCast]; first | done | omega | trivial | (simp; done) | (simp; omega) | (constructor <;> omega)) | (simp (disch := omega) only [hS.glob, wraps, plain, Int.ofNat_eq_natCast, Vx.toN]; omega)), ?_⟩)
      simp only [hS.tidy]
      obtain ⟨g, gfn, g1, g2, g3, g4, g5⟩ := hrule q (by omega)
      rw [hRFj q, g1]
      unfold fnv
      obtain ⟨hw0, hhw⟩ : ∃ h, h = hwN q := ⟨_, rfl⟩
      obtain ⟨B, hB⟩ : ∃ B, B = rf q := ⟨_, rfl⟩
      rw [← hhw]
      rw [← hB] at g5
      obtain ⟨R2, hR2⟩ : ∃ R2, R2 = if B = true then hw0 else -1 := ⟨_, rfl⟩
      have hw1 : hw0 ≠ -1 := by
        rw [hhw]
        unfold hwN
        match q, h5 with
        | 0, _ | 1, _ | 2, _ | 3, _ | 4, _ | 5, _ | 6, _ | 7, _ | 8, _ | 9, _ => decide
      conv => cbv
      rw [hVV]
      clear hVV hVA VV VA hW W
      refine V.call rfl rfl rfl rfl rfl Try.func76 rfl (by decide) [] (by simp) (by simp) (by (first | rfl | ((conv => cbv); (repeat' apply And.intro) <;> first | rfl | trivial | (first | rfl | omega | (simp (disch := omega) only [hS.glob, wraps, plain, Int.ofNat_eq_natCast]; first | done | rfl | omega | (simp; done) | (simp; omega)) | (simp (disch := omega) only [hS.glob, wraps, plain, Int.ofNat_eq_natCast, Vx.toN]; omega))))) rfl (f76_ok k b mk ah g gfn hw0 B g2 g3 g4 g5 R2 hR2) ?_
      rintro r Hc ⟨rfl, rfl⟩
      refine V.goF (by first | exact trivial | assumption) Try.func15 tl_ok mixed hS.ops [] 400 ?_
      intro VV VA W hVV hVA hW
      conv => cbv
      cases B
      case false =>
        rw [if_neg (by decide)] at hR2
        subst hR2
        have el0 : ine (-1) (-1) = false := by (first | rfl | omega | (simp (disch := omega) only [hS.glob, wraps, plain, Int.ofNat_eq_natCast]; first | done | rfl | omega | (simp; done) | (simp; omega)) | (simp (disch := omega) only [hS.glob, wraps, plain, Int.ofNat_eq_natCast, Vx.toN]; omega))
        simp only [el0]
        clear el0
        conv => cbv
        rw [hVV]
        clear hVV hVA VV VA hW W
        exact V.to (hback2 (q + 1) ⟨by omega, fun j hj => by
          rcases Nat.lt_or_ge j q with h | h
          · exact hrq j h
          · obtain rfl : j = q := by omega
            exact hB.symm⟩ (by omega)) (by (repeat' first | exact trivial | rfl | (refine And.intro ?_ ?_) | (refine sti ?_; (first | rfl | omega | (simp (disch := omega) only [hS.glob, wraps, plain, Int.ofNat_eq_natCast]; first | done | rfl | omega | (simp; done) | (simp; omega)) | (simp (disch := omega) only [hS.glob, wraps, plain, Int.ofNat_eq_natCast, Vx.toN]; omega))) | (refine slq ?_ ?_ ?_ <;> (first | rfl | omega | (simp (disch := omega) only [hS.glob, wraps, plain, Int.ofNat_eq_natCast]; first | done | rfl | omega | (simp; done) | (simp; omega)) | (simp (disch := omega) only [hS.glob, wraps, plain, Int.ofNat_eq_natCast, Vx.toN]; omega))) | (refine ptq ?_ ?_ ?_ <;> (first | rfl | omega | (simp (disch := omega) only [hS.glob, wraps, plain, Int.ofNat_eq_natCast]; first | done | rfl | omega | (simp; done) | (simp; omega)) | (simp (disch := omega) only [hS.glob, wraps, plain, Int.ofNat_eq_natCast, Vx.toN]; omega))) | (refine blq ?_; (first | rfl | omega | (simp (disch := omega) only [hS.glob, wraps, plain, Int.ofNat_eq_natCast]; first | done | rfl | omega | (simp; done) | (simp; omega)) | (simp (disch := omega) only [hS.glob, wraps, plain, Int.ofNat_eq_natCast, Vx.toN]; omega))))) rfl (by (repeat' first | exact trivial | rfl | exact Nat.le_refl _ | exact (fun _ _ => rfl) | (refine And.intro ?_ ?_) | (simp only [hS.glob, plain]; first | done | omega))) (by rw [hC]; simp)
      case' true =>
        rw [if_pos rfl] at hR2
        have e5 : ine R2 (-1) = true := by simp only [hS.glob, plain]; rw [hR2]; exact hw1
        simp only [e5]
        conv => cbv
        have hv : R = R2 := by
          rw [hRi, hR2, hhw]
          exact howF_at rf q hB.symm 10 0 (Nat.zero_le _) (by omega) (fun j _ h6 => hrq j h6)
    all_goals
      repeat (refine ⟨by first | (rw [hW]; show ordOk _ _ _ = true; kernel_rfl) | (first | trivial | omega | (simp (disch := omega) only [hS.glob, wraps, plain, Int.ofNat_eq_natCast]; first | done | omega | trivial | (simp; done) | (simp; omega) | (constructor <;> omega)) | (simp (disch := omega) only [hS.glob, wraps, plain, Int.ofNat_eq_natCast, Vx.toN]; omega)), ?_⟩)
      rw [hVV]
      clear hVV hVA VV VA hW W
      refine V.pick [3] (by decide) (by rw [hC]; exact begins_of rfl) (by rfl) (by rfl) ?_
      refine V.to (hback (i + 1, w') ⟨by simp only; omega, fun j hj => by
        rcases Nat.lt_or_ge j i with h | h
        · exact (e2 j h).trans (hw j h)
        · obtain rfl : j = i := by omega
          exact e3.trans hR⟩ (by simp only; omega)) (by
        refine ⟨sti (by (first | rfl | omega | (simp (disch := omega) only [hS.glob, wraps, plain, Int.ofNat_eq_natCast]; first | done | rfl | omega | (simp; done) | (simp; omega)) | (simp (disch := omega) only [hS.glob, wraps, plain, Int.ofNat_eq_natCast, Vx.toN]; omega))), sti hah, ?_, rfl, rfl, rfl, rfl, trivial⟩
        exact slq rfl rfl (by (first | rfl | omega | (simp (disch := omega) only [hS.glob, wraps, plain, Int.ofNat_eq_natCast]; first | done | rfl | omega | (simp; done) | (simp; omega)) | (simp (disch := omega) only [hS.glob, wraps, plain, Int.ofNat_eq_natCast, Vx.toN]; omega)))) rfl ⟨⟨rfl, rfl, ⟨by show i + 1 ≤ addN i 1; (first | trivial | omega | (simp (disch := omega) only [hS.glob, wraps, plain, Int.ofNat_eq_natCast]; first | done | omega | trivial | (simp; done) | (simp; omega) | (constructor <;> omega)) | (simp (disch := omega) only [hS.glob, wraps, plain, Int.ofNat_eq_natCast, Vx.toN]; omega)), fun j hj => leaf (by simp [hS.glob]) (by simp [hS.glob]) _ w w' i e2 (e3.trans hv) j hj⟩, rfl⟩, trivial⟩ (by rw [hC]; simp)
theorem f15_ok (n : Nat) (hn : n ≤ 2000000) (ki : Nat → Int) : FSpec Try.prog 15 [.rows 1 n (icol .i64 ki)] [] (fun r H' => H' = [] ∧ ∃ k f, (n = k ∧ ∃ w, f = icol .i64 w ∧ ∀ j, j < n → w j = allI n ki j) ∧ r = .rows 1 k f) := by
  refine FSpec.froz (by decide) (f15_ok1 n hn ki) ?_
  rintro r H' ⟨w, h1, h2⟩
  exact ⟨n, _, ⟨rfl, w, rfl, h1⟩, h2⟩
end Go.Proofs.Ytngagepodbcohaa

/- The items of a paragraph: in plain words. -/
namespace Go.Proofs.Ytngagepodbcohaa
open Go Vx
set_option maxRecDepth 100000
structure Tx where
  n : Nat
  p : Nat → Pr
  ns : Nat
  l : Nat → Sp
  m : Int
  K : Nat
  s : Nat → Int
  al : Nat → Int
def Tx.q (t : Tx) (k : Nat) : Nat := (t.s k).toNat
def Tx.to (t : Tx) (k : Nat) : Int := toI t.n t.K t.s k
def Tx.ki (t : Tx) (k : Nat) : Int := (t.p (t.q k)).ki
def Tx.kept (t : Tx) (k : Nat) : Prop := ∃ i : Nat, t.s k ≤ i ∧ (i : Int) < t.to k ∧ remB (t.p i).cl = false
def Tx.laid (t : Tx) (k : Nat) : Prop := t.kept k ∧ t.ki k ≠ 11
noncomputable def Tx.spn (t : Tx) (k : Nat) : Int := match atF t.l (t.q k : Int) 0 t.ns with | none => -1 | some j => j
noncomputable def Tx.sing (t : Tx) (k : Nat) : It := singI (t.p (t.q k)) (styS t.l t.ns (t.q k)) (t.s k) (t.to k) t.m (t.spn k)
noncomputable def Tx.endR (t : Tx) (a b : Nat) : Int := open Classical in if ∃ k, a ≤ k ∧ k < b ∧ t.ki k = 11 then 2 else t.al (b - 1)
structure MS where
  m : Nat
  g : Nat → It
  la : Int
  sp : Int
def noIt : It := ⟨0, 0, 0, 0, 0, 0, false⟩
def enI (y x : It) (e : Int) : Int := if y.rb ≠ -1 ∧ y.rb = x.rb ∧ e ≠ 2 then 0 else e
/-- One cluster more. -/
noncomputable def mput (S : MS) (x : It) (k : Nat) (sp e : Int) : MS :=
  if S.m = 0 then ⟨1, fun _ => x, k, sp⟩
  else if x.gr = true ∧ (S.g (S.m - 1)).gr = true ∧ sp = S.sp then ⟨S.m, fun j => if j + 1 = S.m then { S.g j with to := x.to } else S.g j, k, sp⟩
  else ⟨S.m + 1, fun j => if j = S.m then x else if j + 1 = S.m then { S.g j with en := enI (S.g j) x e } else S.g j, k, sp⟩
noncomputable def mstep (t : Tx) (S : MS) (k : Nat) : MS := open Classical in if t.laid k then mput S (t.sing k) k (t.spn k) (t.endR S.la.toNat k) else S
noncomputable def mrun (t : Tx) : Nat → MS
  | 0 => ⟨0, fun _ => noIt, -1, -1⟩
  | k + 1 => mstep t (mrun t k) k
/-- The items, with the last one's end. -/
noncomputable def mfin (S : MS) : Nat → It := fun j => if j + 1 = S.m then { S.g j with en := 2 } else S.g j
/-- A paragraph as it is made of the arguments. -/
structure Tx.Of (t : Tx) (n : Nat) (p : Nat → Pr) (ns : Nat) (l : Nat → Sp) (m : Int) : Prop where
  en : t.n = n
  ep : t.p = p
  ens : t.ns = ns
  el : t.l = l
  em : t.m = m
  es : tab t.K t.s = (startsL (fun i => (p i).jo) n).map (fun (x : Nat) => (x : Int))
  eal : ∀ k, k < t.K → t.al k = allI t.K (fun j => t.ki j) k
theorem Tx.Of.at_ {t : Tx} {n : Nat} {p : Nat → Pr} {ns : Nat} {l : Nat → Sp} {m : Int} (h : t.Of n p ns l m) : (∀ k, k < t.K → t.s k = t.q k ∧ t.q k < n) ∧ (∀ j k, j < k → k < t.K → t.q j < t.q k) ∧ t.K ≤ n := by
  have hL := h.es
  have hlen : t.K = (startsL (fun i => (p i).jo) n).length := by
    have := congrArg List.length hL
    rw [tab_len, List.length_map] at this
    exact this
  have hget : ∀ k (hk : k < (startsL (fun i => (p i).jo) n).length), t.s k = ((startsL (fun i => (p i).jo) n)[k] : Nat) := fun k hk => by
    have := congrArg (fun l : List Int => l[k]?) hL
    rw [tab_get _ _ _ (by omega)] at this
    simp [hk] at this
    exact this
  have hmem : ∀ x ∈ startsL (fun i => (p i).jo) n, x < n := fun x hx => by
    unfold startsL at hx
    have := (List.mem_filter.1 hx).1
    simpa using this
  have hsort : (startsL (fun i => (p i).jo) n).Pairwise (· < ·) := by
    unfold startsL
    exact List.Pairwise.filter _ List.pairwise_lt_range
  have hq : ∀ k (hk : k < (startsL (fun i => (p i).jo) n).length), t.q k = (startsL (fun i => (p i).jo) n)[k] := fun k hk => by
    unfold Tx.q
    rw [hget k hk]; simp
  refine ⟨fun k hk => ?_, fun j k hjk hk => ?_, ?_⟩
  · have hk' : k < (startsL (fun i => (p i).jo) n).length := by omega
    rw [hq k hk', hget k hk']
    exact ⟨rfl, hmem _ (List.getElem_mem _)⟩
  · rw [hq j (by omega), hq k (by omega)]
    exact (List.pairwise_iff_getElem.1 hsort) j k (by omega) (by omega) hjk
  · rw [hlen]
    unfold startsL
    exact Nat.le_trans (List.length_filter_le _ _) (by simp)
theorem mput_la (S : MS) (x : It) (k : Nat) (sp e : Int) : (mput S x k sp e).la = k ∧ (mput S x k sp e).sp = sp := by
  unfold mput
  split
  · exact ⟨rfl, rfl⟩
  · split <;> exact ⟨rfl, rfl⟩
theorem mrun_inv (t : Tx) (k : Nat) : (mrun t k).m ≤ k ∧ ((mrun t k).m ≠ 0 → ∃ a : Nat, a < k ∧ (mrun t k).la = a) := by
  induction k with
  | zero => exact ⟨Nat.le_refl _, fun h => absurd rfl h⟩
  | succ k ih =>
    have e : mrun t (k + 1) = mstep t (mrun t k) k := rfl
    rw [e]
    unfold mstep
    split
    · unfold mput
      split
      · exact ⟨by simp only; omega, fun _ => ⟨k, Nat.lt_succ_self _, rfl⟩⟩
      · split
        · exact ⟨by simp only; omega, fun _ => ⟨k, Nat.lt_succ_self _, rfl⟩⟩
        · exact ⟨by simp only; omega, fun _ => ⟨k, Nat.lt_succ_self _, rfl⟩⟩
    · exact ⟨by omega, fun h => by obtain ⟨a, h1, h2⟩ := ih.2 h; exact ⟨a, by omega, h2⟩⟩
end Go.Proofs.Ytngagepodbcohaa
