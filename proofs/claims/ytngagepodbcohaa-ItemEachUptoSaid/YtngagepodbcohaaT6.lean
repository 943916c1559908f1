/- Contracts of functions by an evaluator of the model: its part T6. -/
import Derived.Test.YtngagepodbcohaaT5
import Derived.Test.YtngagepodbcohaaV3
set_option linter.all false
/- Scalars, as clusters see them: the small functions. -/
namespace Go.Proofs.Ytngagepodbcohaa
open Go Vx
set_option maxRecDepth 100000
structure Pr where
  cl : Int
  st : Int
  jo : Int
  ki : Int
  wi : Bool
  fo : Bool
  mi : Int
  pa : Int
  op : Bool
def prc (g : Nat → Pr) : Nat → List AV := fun i => [.int .i64 (g i).cl, .int .i64 (g i).st, .int .i64 (g i).jo, .int .i64 (g i).ki, .bool (g i).wi, .bool (g i).fo, .int .i64 (g i).mi, .int .i64 (g i).pa, .bool (g i).op]
def remB (c : Int) : Bool := decide (c = 14) || decide (c = 16) || decide (c = 15) || decide (c = 17) || decide (c = 18) || decide (c = 9)
def endsB (j : Int) : Bool := decide (j = 1) || decide (j = 2) || decide (j = 3)
def sylB (a b : Int) : Bool := if a = 9 then decide (b = 9) || decide (b = 10) || decide (b = 12) || decide (b = 13) else if a = 12 ∨ a = 10 then decide (b = 10) || decide (b = 11) else if a = 13 ∨ a = 11 then decide (b = 11) else false
def brkB (a : Int) (pic odd : Bool) (b : Int) : Bool :=
  if a = 1 ∧ b = 2 then false else if endsB a = true ∨ endsB b = true then true else if sylB a b = true ∨ a = 7 then false else if b = 4 ∨ b = 5 ∨ b = 8 then false
  else if a = 5 ∧ b = 14 then !pic else if a = 6 ∧ b = 6 then !odd else true
def picB (a : Int) (pic : Bool) (b : Int) : Bool := decide (b = 14) || (pic && (decide (a = 4) || decide (a = 14)) && (decide (b = 4) || decide (b = 5)))
def oddB (a : Int) (odd : Bool) (b : Int) : Bool := decide (b = 6) && !(decide (a = 6) && odd)
theorem pure_of {P : Program} {g : FuncId} {args : List AV} {R : AV} (hb : R.bnd 0 = true) (h : FSpec P g args [] (fun r H' => r = R)) : FSpec P g args [] (fun r H' => r = R ∧ H' = []) :=
  h.weaken (by
    rintro r H' rfl
    exact ⟨[], by cases H' <;> simp [heapCov], hb, Nat.le_refl _, rfl, rfl⟩)
theorem f33_ok (c : Int) (R : Bool) (hR : R = remB c) : FSpec Try.prog 33 [.int .i64 c] [] (fun r H' => r = .bool R ∧ H' = []) := by
  refine pure_of rfl ?_
  unfold remB at hR
  refine FSpec.of (fn := Try.f33) Try.func33 rfl rfl (by simp) fun C hC => ?_
  obtain ⟨iadd, isub, imul, iquo, irem, iband, ibor, ibxor, ibandn, ishl, ishr, iconv, ieq, ine, ilt, ile, igt, ige, bbeq, bbne, bnot, bband, sseq, ssne, sscat, sssub, sslen, sssz, ssbyte, toN, ofN, addN, subN, eqN, ltB, leN, imx, imn, inb, leb, sslt, ltN, fit, ne0, ge0, ssfit, minN, inR, bcol, bstr, isBy, hS⟩ := names
  refine V.goF (by first | exact trivial | assumption) Try.func33 tl_ok mixed hS.ops [] 400 ?_
  intro VV VA W hVV hVA hW
  conv => cbv
  (cases e1 : ieq c 14 <;> (conv => cbv))
  all_goals first | (with_reducible refine congrArg AV.bool ?_; clear hVV hVA VV VA hW W; simp only [hS.glob, plain] at *; subst hR; first | (simp [*, Vx.bnot]; done) | omega | (split <;> simp [*]; done)) | (cases e2 : ieq c 16 <;> (conv => cbv) <;> (repeat (simp only [e1, e2]; (conv => cbv))))
  all_goals first | (with_reducible refine congrArg AV.bool ?_; clear hVV hVA VV VA hW W; simp only [hS.glob, plain] at *; subst hR; first | (simp [*, Vx.bnot]; done) | omega | (split <;> simp [*]; done)) | (cases e3 : ieq c 15 <;> (conv => cbv) <;> (repeat (simp only [e1, e2, e3]; (conv => cbv))))
  all_goals first | (with_reducible refine congrArg AV.bool ?_; clear hVV hVA VV VA hW W; simp only [hS.glob, plain] at *; subst hR; first | (simp [*, Vx.bnot]; done) | omega | (split <;> simp [*]; done)) | (cases e4 : ieq c 17 <;> (conv => cbv) <;> (repeat (simp only [e1, e2, e3, e4]; (conv => cbv))))
  all_goals first | (with_reducible refine congrArg AV.bool ?_; clear hVV hVA VV VA hW W; simp only [hS.glob, plain] at *; subst hR; first | (simp [*, Vx.bnot]; done) | omega | (split <;> simp [*]; done)) | (cases e5 : ieq c 18 <;> (conv => cbv) <;> (repeat (simp only [e1, e2, e3, e4, e5]; (conv => cbv))))
  all_goals first | (with_reducible refine congrArg AV.bool ?_; clear hVV hVA VV VA hW W; simp only [hS.glob, plain] at *; subst hR; first | (simp [*, Vx.bnot]; done) | omega | (split <;> simp [*]; done)) | (cases e6 : ieq c 9 <;> (conv => cbv) <;> (repeat (simp only [e1, e2, e3, e4, e5, e6]; (conv => cbv))))
  all_goals (with_reducible refine congrArg AV.bool ?_; clear hVV hVA VV VA hW W; simp only [hS.glob, plain] at *; subst hR; first | (simp [*, Vx.bnot]; done) | omega | (split <;> simp [*]; done))
theorem f74_ok (j : Int) (R : Bool) (hR : R = endsB j) : FSpec Try.prog 74 [.int .i64 j] [] (fun r H' => r = .bool R ∧ H' = []) := by
  refine pure_of rfl ?_
  unfold endsB at hR
  refine FSpec.of (fn := Try.f74) Try.func74 rfl rfl (by simp) fun C hC => ?_
  obtain ⟨iadd, isub, imul, iquo, irem, iband, ibor, ibxor, ibandn, ishl, ishr, iconv, ieq, ine, ilt, ile, igt, ige, bbeq, bbne, bnot, bband, sseq, ssne, sscat, sssub, sslen, sssz, ssbyte, toN, ofN, addN, subN, eqN, ltB, leN, imx, imn, inb, leb, sslt, ltN, fit, ne0, ge0, ssfit, minN, inR, bcol, bstr, isBy, hS⟩ := names
  refine V.goF (by first | exact trivial | assumption) Try.func74 tl_ok mixed hS.ops [] 400 ?_
  intro VV VA W hVV hVA hW
  conv => cbv
  (cases e1 : ieq j 1 <;> (conv => cbv))
  all_goals first | (with_reducible refine congrArg AV.bool ?_; clear hVV hVA VV VA hW W; simp only [hS.glob, plain] at *; subst hR; first | (simp [*, Vx.bnot]; done) | omega | (split <;> simp [*]; done)) | (cases e2 : ieq j 2 <;> (conv => cbv) <;> (repeat (simp only [e1, e2]; (conv => cbv))))
  all_goals first | (with_reducible refine congrArg AV.bool ?_; clear hVV hVA VV VA hW W; simp only [hS.glob, plain] at *; subst hR; first | (simp [*, Vx.bnot]; done) | omega | (split <;> simp [*]; done)) | (cases e3 : ieq j 3 <;> (conv => cbv) <;> (repeat (simp only [e1, e2, e3]; (conv => cbv))))
  all_goals (with_reducible refine congrArg AV.bool ?_; clear hVV hVA VV VA hW W; simp only [hS.glob, plain] at *; subst hR; first | (simp [*, Vx.bnot]; done) | omega | (split <;> simp [*]; done))
theorem f75_ok (a b : Int) (R : Bool) (hR : R = sylB a b) : FSpec Try.prog 75 [.int .i64 a, .int .i64 b] [] (fun r H' => r = .bool R ∧ H' = []) := by
  refine pure_of rfl ?_
  unfold sylB at hR
  refine FSpec.of (fn := Try.f75) Try.func75 rfl rfl (by simp) fun C hC => ?_
  obtain ⟨iadd, isub, imul, iquo, irem, iband, ibor, ibxor, ibandn, ishl, ishr, iconv, ieq, ine, ilt, ile, igt, ige, bbeq, bbne, bnot, bband, sseq, ssne, sscat, sssub, sslen, sssz, ssbyte, toN, ofN, addN, subN, eqN, ltB, leN, imx, imn, inb, leb, sslt, ltN, fit, ne0, ge0, ssfit, minN, inR, bcol, bstr, isBy, hS⟩ := names
  refine V.goF (by first | exact trivial | assumption) Try.func75 tl_ok mixed hS.ops [] 400 ?_
  intro VV VA W hVV hVA hW
  conv => cbv
  (cases e1 : ieq a 9 <;> (conv => cbv))
  all_goals first | (with_reducible refine congrArg AV.bool ?_; clear hVV hVA VV VA hW W; simp only [hS.glob, plain] at *; subst hR; first | (simp [*, Vx.bnot]; done) | omega | (split <;> simp [*]; done)) | (cases e2 : ieq a 12 <;> (conv => cbv) <;> (repeat (simp only [e1, e2]; (conv => cbv))))
  all_goals first | (with_reducible refine congrArg AV.bool ?_; clear hVV hVA VV VA hW W; simp only [hS.glob, plain] at *; subst hR; first | (simp [*, Vx.bnot]; done) | omega | (split <;> simp [*]; done)) | (cases e3 : ieq a 10 <;> (conv => cbv) <;> (repeat (simp only [e1, e2, e3]; (conv => cbv))))
  all_goals first | (with_reducible refine congrArg AV.bool ?_; clear hVV hVA VV VA hW W; simp only [hS.glob, plain] at *; subst hR; first | (simp [*, Vx.bnot]; done) | omega | (split <;> simp [*]; done)) | (cases e4 : ieq a 13 <;> (conv => cbv) <;> (repeat (simp only [e1, e2, e3, e4]; (conv => cbv))))
  all_goals first | (with_reducible refine congrArg AV.bool ?_; clear hVV hVA VV VA hW W; simp only [hS.glob, plain] at *; subst hR; first | (simp [*, Vx.bnot]; done) | omega | (split <;> simp [*]; done)) | (cases e5 : ieq a 11 <;> (conv => cbv) <;> (repeat (simp only [e1, e2, e3, e4, e5]; (conv => cbv))))
  all_goals first | (with_reducible refine congrArg AV.bool ?_; clear hVV hVA VV VA hW W; simp only [hS.glob, plain] at *; subst hR; first | (simp [*, Vx.bnot]; done) | omega | (split <;> simp [*]; done)) | (cases e6 : ieq b 10 <;> (conv => cbv) <;> (repeat (simp only [e1, e2, e3, e4, e5, e6]; (conv => cbv))))
  all_goals first | (with_reducible refine congrArg AV.bool ?_; clear hVV hVA VV VA hW W; simp only [hS.glob, plain] at *; subst hR; first | (simp [*, Vx.bnot]; done) | omega | (split <;> simp [*]; done)) | (cases e7 : ieq b 11 <;> (conv => cbv) <;> (repeat (simp only [e1, e2, e3, e4, e5, e6, e7]; (conv => cbv))))
  all_goals first | (with_reducible refine congrArg AV.bool ?_; clear hVV hVA VV VA hW W; simp only [hS.glob, plain] at *; subst hR; first | (simp [*, Vx.bnot]; done) | omega | (split <;> simp [*]; done)) | (cases e8 : ieq b 9 <;> (conv => cbv) <;> (repeat (simp only [e1, e2, e3, e4, e5, e6, e7, e8]; (conv => cbv))))
  all_goals first | (with_reducible refine congrArg AV.bool ?_; clear hVV hVA VV VA hW W; simp only [hS.glob, plain] at *; subst hR; first | (simp [*, Vx.bnot]; done) | omega | (split <;> simp [*]; done)) | (cases e9 : ieq b 12 <;> (conv => cbv) <;> (repeat (simp only [e1, e2, e3, e4, e5, e6, e7, e8, e9]; (conv => cbv))))
  all_goals first | (with_reducible refine congrArg AV.bool ?_; clear hVV hVA VV VA hW W; simp only [hS.glob, plain] at *; subst hR; first | (simp [*, Vx.bnot]; done) | omega | (split <;> simp [*]; done)) | (cases e10 : ieq b 13 <;> (conv => cbv) <;> (repeat (simp only [e1, e2, e3, e4, e5, e6, e7, e8, e9, e10]; (conv => cbv))))
  all_goals (with_reducible refine congrArg AV.bool ?_; clear hVV hVA VV VA hW W; simp only [hS.glob, plain] at *; subst hR; first | (simp [*, Vx.bnot]; done) | omega | (split <;> simp [*]; done))
end Go.Proofs.Ytngagepodbcohaa

/- Where clusters break: the state. -/
namespace Go.Proofs.Ytngagepodbcohaa
open Go Vx
set_option maxRecDepth 100000
theorem f45_ok (a : Int) (pic odd : Bool) (b : Int) (R : Bool) (hR : R = brkB a pic odd b) : FSpec Try.prog 45 [.agg [.int .i64 a, .bool pic, .bool odd], .int .i64 b] [] (fun r H' => r = .bool R ∧ H' = []) := by
  refine pure_of rfl ?_
  unfold brkB at hR
  obtain ⟨EA, hEA⟩ : ∃ x, x = endsB a := ⟨_, rfl⟩
  obtain ⟨EB, hEB⟩ : ∃ x, x = endsB b := ⟨_, rfl⟩
  obtain ⟨SY, hSY⟩ : ∃ x, x = sylB a b := ⟨_, rfl⟩
  rw [← hEA, ← hEB, ← hSY] at hR
  refine FSpec.of (fn := Try.f45) Try.func45 rfl rfl (by simp) fun C hC => ?_
  obtain ⟨iadd, isub, imul, iquo, irem, iband, ibor, ibxor, ibandn, ishl, ishr, iconv, ieq, ine, ilt, ile, igt, ige, bbeq, bbne, bnot, bband, sseq, ssne, sscat, sssub, sslen, sssz, ssbyte, toN, ofN, addN, subN, eqN, ltB, leN, imx, imn, inb, leb, sslt, ltN, fit, ne0, ge0, ssfit, minN, inR, bcol, bstr, isBy, hS⟩ := names
  refine V.goF (by first | exact trivial | assumption) Try.func45 tl_ok mixed hS.ops [] 400 ?_
  intro VV VA W hVV hVA hW
  conv => cbv
  cases h1 : ieq a 1
  case' false =>
    conv => cbv
    simp (disch := first | omega | (simp only [hS.glob, wraps, plain, Int.ofNat_eq_natCast]; omega)) only [hS.glob, wraps, plain, Int.ofNat_eq_natCast] at h1
    have h12 : ¬ (a = 1 ∧ b = 2) := fun h => h1 h.1
  case' true =>
    conv => cbv
    cases h2 : ieq b 2
    case true =>
      conv => cbv
      simp (disch := first | omega | (simp only [hS.glob, wraps, plain, Int.ofNat_eq_natCast]; omega)) only [hS.glob, wraps, plain, Int.ofNat_eq_natCast] at h1 h2
      congr 1
      subst hR
      simp [h1, h2]
    conv => cbv
    simp (disch := first | omega | (simp only [hS.glob, wraps, plain, Int.ofNat_eq_natCast]; omega)) only [hS.glob, wraps, plain, Int.ofNat_eq_natCast] at h1 h2
    have h12 : ¬ (a = 1 ∧ b = 2) := fun h => h2 h.2
  all_goals
    rw [hVV]
    clear hVV hVA VV VA hW W
    refine V.call rfl rfl rfl rfl rfl Try.func74 rfl (by decide) [] (by simp) (by simp) (by (first | rfl | ((conv => cbv); (repeat' apply And.intro) <;> first | rfl | trivial | (first | rfl | omega | (simp (disch := omega) only [hS.glob, wraps, plain, Int.ofNat_eq_natCast]; first | done | rfl | omega | (simp; done) | (simp; omega)) | (simp (disch := omega) only [hS.glob, wraps, plain, Int.ofNat_eq_natCast, Vx.toN]; omega))))) rfl (f74_ok a EA hEA) ?_
    rintro r Hc ⟨rfl, rfl⟩
    refine V.goF (by first | exact trivial | assumption) Try.func45 tl_ok mixed hS.ops [] 400 ?_
    intro VV VA W hVV hVA hW
    conv => cbv
    cases EA
    case true =>
      conv => cbv
      congr 1
      subst hR
      simp [h12]
    conv => cbv
    rw [hVV]
    clear hVV hVA VV VA hW W
    refine V.call rfl rfl rfl rfl rfl Try.func74 rfl (by decide) [] (by simp) (by simp) (by (first | rfl | ((conv => cbv); (repeat' apply And.intro) <;> first | rfl | trivial | (first | rfl | omega | (simp (disch := omega) only [hS.glob, wraps, plain, Int.ofNat_eq_natCast]; first | done | rfl | omega | (simp; done) | (simp; omega)) | (simp (disch := omega) only [hS.glob, wraps, plain, Int.ofNat_eq_natCast, Vx.toN]; omega))))) rfl (f74_ok b EB hEB) ?_
    rintro r Hc ⟨rfl, rfl⟩
    refine V.goF (by first | exact trivial | assumption) Try.func45 tl_ok mixed hS.ops [] 400 ?_
    intro VV VA W hVV hVA hW
    conv => cbv
    cases EB
    case true =>
      conv => cbv
      congr 1
      subst hR
      simp [h12]
    conv => cbv
    rw [hVV]
    clear hVV hVA VV VA hW W
    refine V.call rfl rfl rfl rfl rfl Try.func75 rfl (by decide) [] (by simp) (by simp) (by (first | rfl | ((conv => cbv); (repeat' apply And.intro) <;> first | rfl | trivial | (first | rfl | omega | (simp (disch := omega) only [hS.glob, wraps, plain, Int.ofNat_eq_natCast]; first | done | rfl | omega | (simp; done) | (simp; omega)) | (simp (disch := omega) only [hS.glob, wraps, plain, Int.ofNat_eq_natCast, Vx.toN]; omega))))) rfl (f75_ok a b SY hSY) ?_
    rintro r Hc ⟨rfl, rfl⟩
    refine V.goF (by first | exact trivial | assumption) Try.func45 tl_ok mixed hS.ops [] 400 ?_
    intro VV VA W hVV hVA hW
    conv => cbv
    cases SY
    case true =>
      conv => cbv
      congr 1
      subst hR
      simp [h12]
    conv => cbv
    clear hEA hEB hSY
    (cases e1 : ieq a 7 <;> (conv => cbv))
    all_goals first | (with_reducible refine congrArg AV.bool ?_; clear hVV hVA VV VA hW W; simp only [hS.glob, plain] at *; subst hR; first | (simp [*, Vx.bnot]; done) | omega | (split <;> simp [*]; done)) | (cases e2 : ieq b 4 <;> (conv => cbv) <;> (repeat (simp only [e1, e2]; (conv => cbv))))
    all_goals first | (with_reducible refine congrArg AV.bool ?_; clear hVV hVA VV VA hW W; simp only [hS.glob, plain] at *; subst hR; first | (simp [*, Vx.bnot]; done) | omega | (split <;> simp [*]; done)) | (cases e3 : ieq b 5 <;> (conv => cbv) <;> (repeat (simp only [e1, e2, e3]; (conv => cbv))))
    all_goals first | (with_reducible refine congrArg AV.bool ?_; clear hVV hVA VV VA hW W; simp only [hS.glob, plain] at *; subst hR; first | (simp [*, Vx.bnot]; done) | omega | (split <;> simp [*]; done)) | (cases e4 : ieq b 8 <;> (conv => cbv) <;> (repeat (simp only [e1, e2, e3, e4]; (conv => cbv))))
    all_goals first | (with_reducible refine congrArg AV.bool ?_; clear hVV hVA VV VA hW W; simp only [hS.glob, plain] at *; subst hR; first | (simp [*, Vx.bnot]; done) | omega | (split <;> simp [*]; done)) | (cases e5 : ieq a 5 <;> (conv => cbv) <;> (repeat (simp only [e1, e2, e3, e4, e5]; (conv => cbv))))
    all_goals first | (with_reducible refine congrArg AV.bool ?_; clear hVV hVA VV VA hW W; simp only [hS.glob, plain] at *; subst hR; first | (simp [*, Vx.bnot]; done) | omega | (split <;> simp [*]; done)) | (cases e6 : ieq b 14 <;> (conv => cbv) <;> (repeat (simp only [e1, e2, e3, e4, e5, e6]; (conv => cbv))))
    all_goals first | (with_reducible refine congrArg AV.bool ?_; clear hVV hVA VV VA hW W; simp only [hS.glob, plain] at *; subst hR; first | (simp [*, Vx.bnot]; done) | omega | (split <;> simp [*]; done)) | (cases e7 : ieq a 6 <;> (conv => cbv) <;> (repeat (simp only [e1, e2, e3, e4, e5, e6, e7]; (conv => cbv))))
    all_goals first | (with_reducible refine congrArg AV.bool ?_; clear hVV hVA VV VA hW W; simp only [hS.glob, plain] at *; subst hR; first | (simp [*, Vx.bnot]; done) | omega | (split <;> simp [*]; done)) | (cases e8 : ieq b 6 <;> (conv => cbv) <;> (repeat (simp only [e1, e2, e3, e4, e5, e6, e7, e8]; (conv => cbv))))
    all_goals (with_reducible refine congrArg AV.bool ?_; clear hVV hVA VV VA hW W; simp only [hS.glob, plain] at *; subst hR; first | (simp [*, Vx.bnot]; done) | omega | (split <;> simp [*]; done))
structure Hold (A : Prop) : Prop where
  get : A
theorem cut {A B : Prop} (k : Hold A → B) (h : A) : B := k ⟨h⟩
theorem f46_t (a : Int) (odd : Bool) (b : Int) (R S : Bool) (hR : R = picB a true b) (hO : S = oddB a odd b) : FSpec Try.prog 46 [.agg [.int .i64 a, .bool true, .bool odd], .int .i64 b] [] (fun r H' => r = .agg [.int .i64 b, .bool R, .bool S] ∧ H' = []) := by
  refine pure_of rfl ?_
  obtain ⟨J, hJ⟩ : ∃ J, J = (true && (decide (a = 4) || decide (a = 14)) && (decide (b = 4) || decide (b = 5))) := ⟨_, rfl⟩
  unfold picB at hR
  rw [← hJ] at hR
  unfold oddB at hO
  refine FSpec.of (fn := Try.f46) Try.func46 rfl rfl (by simp) fun C hC => ?_
  obtain ⟨iadd, isub, imul, iquo, irem, iband, ibor, ibxor, ibandn, ishl, ishr, iconv, ieq, ine, ilt, ile, igt, ige, bbeq, bbne, bnot, bband, sseq, ssne, sscat, sssub, sslen, sssz, ssbyte, toN, ofN, addN, subN, eqN, ltB, leN, imx, imn, inb, leb, sslt, ltN, fit, ne0, ge0, ssfit, minN, inR, bcol, bstr, isBy, hS⟩ := names
  apply cut
  · intro next
    refine V.goF (by first | exact trivial | assumption) Try.func46 tl_ok mixed hS.ops [] 28 ?_
    intro VV VA W hVV hVA hW
    conv => cbv
    (cases e1 : ieq a 4 <;> (conv => cbv))
    all_goals first | (with_reducible refine (id : VV _ _ _ → VV _ _ _) ?_) | (cases e2 : ieq a 14 <;> (conv => cbv) <;> (repeat (simp only [e1, e2]; (conv => cbv))))
    all_goals first | (with_reducible refine (id : VV _ _ _ → VV _ _ _) ?_) | (cases e3 : ieq b 4 <;> (conv => cbv) <;> (repeat (simp only [e1, e2, e3]; (conv => cbv))))
    all_goals first | (with_reducible refine (id : VV _ _ _ → VV _ _ _) ?_) | (cases e4 : ieq b 5 <;> (conv => cbv) <;> (repeat (simp only [e1, e2, e3, e4]; (conv => cbv))))
    all_goals
      rw [hVV]
      clear hVV hVA VV VA hW W
      refine V.to (s' := [(5, .bool J), (1, .int .i64 b), (2, .ptr 0 0 0), (4, .ptr 1 0 0)]) (H' := [some ⟨97, 3, .lit [[.int .i64 a, .bool true, .bool odd]]⟩, some ⟨97, 3, .lit [[.int .i64 0, .bool false, .bool false]]⟩]) next.get (by refine ⟨blq ?_, rfl, rfl, rfl, trivial⟩; simp only [hS.glob, plain] at *; rw [hJ]; first | (simp [*, Vx.ieq]; done) | (simp [*, Vx.ieq]; rfl)) rfl (by (repeat' first | exact trivial | rfl | exact Nat.le_refl _ | exact (fun _ _ => rfl) | (refine And.intro ?_ ?_) | (simp only [hS.glob, plain]; first | done | omega))) (by rw [hC]; simp)
  · clear hJ
    refine V.goF (by first | exact trivial | assumption) Try.func46 tl_ok mixed hS.ops [] 400 ?_
    intro VV VA W hVV hVA hW
    conv => cbv
    cases J <;> cases odd
    all_goals
      conv => cbv
      (cases e1 : ieq b 14 <;> (conv => cbv))
      all_goals first | (with_reducible refine id (α := _ = _) ?_) | (cases e2 : ieq b 6 <;> (conv => cbv) <;> (repeat (simp only [e1, e2]; (conv => cbv))))
      all_goals first | (with_reducible refine id (α := _ = _) ?_) | (cases e3 : ieq a 6 <;> (conv => cbv) <;> (repeat (simp only [e1, e2, e3]; (conv => cbv))))
      all_goals clear hVV hVA VV VA hW W
      all_goals simp only [hS.glob, plain] at *
      all_goals
        subst hR hO
        first | (simp [*]; done) | omega
theorem f46_f (a : Int) (odd : Bool) (b : Int) (R S : Bool) (hR : R = picB a false b) (hO : S = oddB a odd b) : FSpec Try.prog 46 [.agg [.int .i64 a, .bool false, .bool odd], .int .i64 b] [] (fun r H' => r = .agg [.int .i64 b, .bool R, .bool S] ∧ H' = []) := by
  refine pure_of rfl ?_
  obtain ⟨J, hJ⟩ : ∃ J, J = (false && (decide (a = 4) || decide (a = 14)) && (decide (b = 4) || decide (b = 5))) := ⟨_, rfl⟩
  unfold picB at hR
  rw [← hJ] at hR
  unfold oddB at hO
  refine FSpec.of (fn := Try.f46) Try.func46 rfl rfl (by simp) fun C hC => ?_
  obtain ⟨iadd, isub, imul, iquo, irem, iband, ibor, ibxor, ibandn, ishl, ishr, iconv, ieq, ine, ilt, ile, igt, ige, bbeq, bbne, bnot, bband, sseq, ssne, sscat, sssub, sslen, sssz, ssbyte, toN, ofN, addN, subN, eqN, ltB, leN, imx, imn, inb, leb, sslt, ltN, fit, ne0, ge0, ssfit, minN, inR, bcol, bstr, isBy, hS⟩ := names
  apply cut
  · intro next
    refine V.goF (by first | exact trivial | assumption) Try.func46 tl_ok mixed hS.ops [] 28 ?_
    intro VV VA W hVV hVA hW
    conv => cbv
    all_goals
      rw [hVV]
      clear hVV hVA VV VA hW W
      refine V.to (s' := [(5, .bool J), (1, .int .i64 b), (2, .ptr 0 0 0), (4, .ptr 1 0 0)]) (H' := [some ⟨97, 3, .lit [[.int .i64 a, .bool false, .bool odd]]⟩, some ⟨97, 3, .lit [[.int .i64 0, .bool false, .bool false]]⟩]) next.get (by refine ⟨blq ?_, rfl, rfl, rfl, trivial⟩; simp only [hS.glob, plain] at *; rw [hJ]; first | (simp [*, Vx.ieq]; done) | (simp [*, Vx.ieq]; rfl)) rfl (by (repeat' first | exact trivial | rfl | exact Nat.le_refl _ | exact (fun _ _ => rfl) | (refine And.intro ?_ ?_) | (simp only [hS.glob, plain]; first | done | omega))) (by rw [hC]; simp)
  · clear hJ
    refine V.goF (by first | exact trivial | assumption) Try.func46 tl_ok mixed hS.ops [] 400 ?_
    intro VV VA W hVV hVA hW
    conv => cbv
    cases J <;> cases odd
    all_goals
      conv => cbv
      (cases e1 : ieq b 14 <;> (conv => cbv))
      all_goals first | (with_reducible refine id (α := _ = _) ?_) | (cases e2 : ieq b 6 <;> (conv => cbv) <;> (repeat (simp only [e1, e2]; (conv => cbv))))
      all_goals first | (with_reducible refine id (α := _ = _) ?_) | (cases e3 : ieq a 6 <;> (conv => cbv) <;> (repeat (simp only [e1, e2, e3]; (conv => cbv))))
      all_goals clear hVV hVA VV VA hW W
      all_goals simp only [hS.glob, plain] at *
      all_goals
        subst hR hO
        first | (simp [*]; done) | omega
theorem f46_ok (a : Int) (pic odd : Bool) (b : Int) (R S : Bool) (hR : R = picB a pic b) (hO : S = oddB a odd b) : FSpec Try.prog 46 [.agg [.int .i64 a, .bool pic, .bool odd], .int .i64 b] [] (fun r H' => r = .agg [.int .i64 b, .bool R, .bool S] ∧ H' = []) := by
  cases pic
  · exact f46_f a odd b R S hR hO
  · exact f46_t a odd b R S hR hO
def st0 (jo : Nat → Int) : Nat → Int × Bool × Bool
  | 0 => (3, false, false)
  | i + 1 => (jo i, picB (st0 jo i).1 (st0 jo i).2.1 (jo i), oddB (st0 jo i).1 (st0 jo i).2.2 (jo i))
/-- Is there a break ahead of a scalar? -/
def brkS (jo : Nat → Int) (i : Nat) : Bool := brkB (st0 jo i).1 (st0 jo i).2.1 (st0 jo i).2.2 (jo i)
def startsL (jo : Nat → Int) (n : Nat) : List Nat := (List.range n).filter (brkS jo)
theorem startsL_succ (jo : Nat → Int) (n : Nat) : startsL jo (n + 1) = if brkS jo n = true then startsL jo n ++ [n] else startsL jo n := by
  unfold startsL
  rw [List.range_succ, List.filter_append]
  cases h : brkS jo n <;> simp [h]
end Go.Proofs.Ytngagepodbcohaa

/- Where clusters begin: the walk. -/
namespace Go.Proofs.Ytngagepodbcohaa
open Go Vx
set_option maxRecDepth 100000
theorem f26_ok (n : Nat) (jo : Nat → Int) : FSpec Try.prog 26 [.rows 1 n (icol .i64 jo)] [] (fun r H' => r = .fn (.func 44) [] [.ref [.rows 1 n (icol .i64 jo)]] ∧ H' = []) := by
  refine (show FSpec Try.prog 26 [.rows 1 n (icol .i64 jo)] [] (fun r H' => r = .fn (.func 44) [] [.ref [.rows 1 n (icol .i64 jo)]]) from ?_).weaken ?_
  case refine_2 =>
    rintro r H' rfl
    exact ⟨[], by cases H' <;> simp [heapCov], rfl, Nat.le_refl _, rfl, rfl⟩
  refine FSpec.of (fn := Try.f26) Try.func26 rfl rfl (by simp) fun C hC => ?_
  obtain ⟨iadd, isub, imul, iquo, irem, iband, ibor, ibxor, ibandn, ishl, ishr, iconv, ieq, ine, ilt, ile, igt, ige, bbeq, bbne, bnot, bband, sseq, ssne, sscat, sssub, sslen, sssz, ssbyte, toN, ofN, addN, subN, eqN, ltB, leN, imx, imn, inb, leb, sslt, ltN, fit, ne0, ge0, ssfit, minN, inR, bcol, bstr, isBy, hS⟩ := names
  refine V.goF (by first | exact trivial | assumption) Try.func26 tl_ok mixed hS.ops [] 5 ?_
  intro VV VA W hVV hVA hW
  conv => cbv
  rw [hVV]
  clear hVV hVA VV VA hW W
  refine V.freezePtr 1 rfl rfl rfl ?_
  refine V.goF (by first | exact trivial | assumption) Try.func26 tl_ok mixed hS.ops [] 400 ?_
  intro VV VA W hVV hVA hW
  conv => cbv
  trivial
def hT (a : Int) (p o : Bool) (k : Nat) (S : Nat → Int) : Hp := [some ⟨37, 1, .lit [[.sl 2 0 k]]⟩, some ⟨97, 3, .lit [[.int .i64 a, .bool p, .bool o]]⟩, some ⟨3, 1, .arr k (icol .i64 S)⟩]
theorem f13_ok1 (n : Nat) (hn : n ≤ 2000000) (jo : Nat → Int) : FSpec Try.prog 13 [.rows 1 n (icol .i64 jo)] [] (fun r H' => ∃ k S a p o, tab k S = (startsL jo n).map (fun (x : Nat) => (x : Int)) ∧ r = .sl 2 0 k ∧ H' = hT a p o k S) := by
  obtain ⟨Q, hQ⟩ : ∃ Q : AV → Hp → Prop, Q = (fun r H' => ∃ k S a p o, tab k S = (startsL jo n).map (fun (x : Nat) => (x : Int)) ∧ r = .sl 2 0 k ∧ H' = hT a p o k S) := ⟨_, rfl⟩
  rw [← hQ]
  have hsucc := startsL_succ jo
  have h0 : startsL jo 0 = [] := rfl
  have hlen : ∀ i, (startsL jo i).length ≤ i := fun i => by
    unfold startsL
    exact Nat.le_trans (List.length_filter_le _ _) (by simp)
  obtain ⟨L, hL⟩ : ∃ L, L = startsL jo := ⟨_, rfl⟩
  rw [← hL] at hsucc h0 hlen hQ
  clear hL
  have hb : ∀ i, brkS jo i = brkB (st0 jo i).1 (st0 jo i).2.1 (st0 jo i).2.2 (jo i) := fun _ => rfl
  have ht0 : st0 jo 0 = (3, false, false) := rfl
  have ht : ∀ i, st0 jo (i + 1) = (jo i, picB (st0 jo i).1 (st0 jo i).2.1 (jo i), oddB (st0 jo i).1 (st0 jo i).2.2 (jo i)) := fun _ => rfl
  generalize brkS jo = B at hsucc hb
  generalize st0 jo = T at hb ht0 ht
  refine FSpec.of (fn := Try.f13) Try.func13 rfl rfl (by simp) fun C hC => ?_
  obtain ⟨iadd, isub, imul, iquo, irem, iband, ibor, ibxor, ibandn, ishl, ishr, iconv, ieq, ine, ilt, ile, igt, ige, bbeq, bbne, bnot, bband, sseq, ssne, sscat, sssub, sslen, sssz, ssbyte, toN, ofN, addN, subN, eqN, ltB, leN, imx, imn, inb, leb, sslt, ltN, fit, ne0, ge0, ssfit, minN, inR, bcol, bstr, isBy, hS⟩ := names
  refine V.goF (by first | exact trivial | assumption) Try.func13 tl_ok mixed hS.ops [] 400 ?_
  intro VV VA W hVV hVA hW
  conv => cbv
  rw [hVV]
  clear hVV hVA VV VA hW W
  refine V.call rfl rfl rfl rfl rfl Try.func26 rfl (by decide) [] (by simp) (by simp) (by (first | rfl | ((conv => cbv); (repeat' apply And.intro) <;> first | rfl | trivial | (first | rfl | omega | (simp (disch := omega) only [hS.glob, wraps, plain, Int.ofNat_eq_natCast]; first | done | rfl | omega | (simp; done) | (simp; omega)) | (simp (disch := omega) only [hS.glob, wraps, plain, Int.ofNat_eq_natCast, Vx.toN]; omega))))) rfl (f26_ok n jo) ?_
  rintro r Hc ⟨rfl, rfl⟩
  refine V.goF (by first | exact trivial | assumption) Try.func13 tl_ok mixed hS.ops [] 400 ?_
  intro VV VA W hVV hVA hW
  conv => cbv
  rw [hVV]
  clear hVV hVA VV VA hW W
  refine V.rangeFunc (.inl rfl) (g := 44) (gfn := Try.f44) rfl Try.func44 rfl rfl (by simp) rfl rfl (QN := fun H' => ∃ k S a p o, H' = hT a p o k S ∧ tab k S = (L n).map (fun (x : Nat) => (x : Int))) (QS := fun _ _ => False) ?_ ?_ ?_ ?_
  · intro C' lp hC' it
    refine V.goF (by first | exact trivial | assumption) Try.func44 tl_ok mixed hS.ops [] 400 ?_
    intro VV VA W hVV hVA hW
    conv => cbv
    rw [hVV]
    clear hVV hVA VV VA hW W
    refine V.phantomOb 0 0 3 1 (icol .i64 (fun _ => 0)) rfl rfl ?_
    refine V.to (s' := [(9, .int .i64 (ofN 0)), (8, .int .i64 (ofN n)), (7, .rows 1 n (icol .i64 jo)), (0, .fn (.yield lp) [] []), (3, .ptr 1 0 0)]) (H' := hT (T 0).1 (T 0).2.1 (T 0).2.2 0 (fun _ => 0)) ?_ (by (repeat' first | exact trivial | rfl | (refine And.intro ?_ ?_) | (refine sti ?_; (first | rfl | omega | (simp (disch := omega) only [hS.glob, wraps, plain, Int.ofNat_eq_natCast]; first | done | rfl | omega | (simp; done) | (simp; omega)) | (simp (disch := omega) only [hS.glob, wraps, plain, Int.ofNat_eq_natCast, Vx.toN]; omega))) | (refine slq ?_ ?_ ?_ <;> (first | rfl | omega | (simp (disch := omega) only [hS.glob, wraps, plain, Int.ofNat_eq_natCast]; first | done | rfl | omega | (simp; done) | (simp; omega)) | (simp (disch := omega) only [hS.glob, wraps, plain, Int.ofNat_eq_natCast, Vx.toN]; omega))) | (refine ptq ?_ ?_ ?_ <;> (first | rfl | omega | (simp (disch := omega) only [hS.glob, wraps, plain, Int.ofNat_eq_natCast]; first | done | rfl | omega | (simp; done) | (simp; omega)) | (simp (disch := omega) only [hS.glob, wraps, plain, Int.ofNat_eq_natCast, Vx.toN]; omega))) | (refine blq ?_; (first | rfl | omega | (simp (disch := omega) only [hS.glob, wraps, plain, Int.ofNat_eq_natCast]; first | done | rfl | omega | (simp; done) | (simp; omega)) | (simp (disch := omega) only [hS.glob, wraps, plain, Int.ofNat_eq_natCast, Vx.toN]; omega))))) rfl (by rw [ht0]; unfold hT; (repeat' first | exact trivial | rfl | exact Nat.le_refl _ | exact (fun _ _ => rfl) | (refine And.intro ?_ ?_) | (simp only [hS.glob, plain]; first | done | omega))) (by rw [hC']; simp [hT])
    refine V.loop (γ := Nat × Nat × (Nat → Int)) (fun p => p.1 ≤ n ∧ tab p.2.1 p.2.2 = (L p.1).map (fun (x : Nat) => (x : Int))) (fun p => [(9, .int .i64 (ofN p.1)), (8, .int .i64 (ofN n)), (7, .rows 1 n (icol .i64 jo)), (0, .fn (.yield lp) [] []), (3, .ptr 1 0 0)]) (fun p => hT (T p.1).1 (T p.1).2.1 (T p.1).2.2 p.2.1 p.2.2) (fun p => n - p.1) ?_ (0, 0, fun _ => 0) ⟨Nat.zero_le _, by rw [h0]; rfl⟩
    rintro ⟨i, k, S⟩ ⟨hi, hS0⟩ hback
    dsimp only at hi hS0 hback ⊢
    have hki : k ≤ i := by
      have e := congrArg List.length hS0
      rw [tab_len, List.length_map] at e
      have := hlen i
      omega
    have hbi := hb i
    have hti := ht i
    rcases hTi : T i with ⟨a, p, o⟩
    rw [hTi] at hbi hti
    dsimp only at hbi hti ⊢
    unfold hT
    refine V.goF (by first | exact trivial | assumption) Try.func44 tl_ok mixed hS.ops [] 400 ?_
    intro VV VA W hVV hVA hW
    conv => cbv
    cases h1 : ilt (ofN i) (ofN n)
    · conv => cbv
      simp (disch := first | omega | (simp only [hS.glob, wraps, plain, Int.ofNat_eq_natCast]; omega)) only [hS.glob, wraps, plain, Int.ofNat_eq_natCast] at h1
      obtain rfl : i = n := by omega
      exact ⟨k, S, a, p, o, rfl, hS0⟩
    conv => cbv
    simp (disch := first | omega | (simp only [hS.glob, wraps, plain, Int.ofNat_eq_natCast]; omega)) only [hS.glob, wraps, plain, Int.ofNat_eq_natCast] at h1
    repeat (refine ⟨by first | (rw [hW]; show ordOk _ _ _ = true; kernel_rfl) | (first | trivial | omega | (simp (disch := omega) only [hS.glob, wraps, plain, Int.ofNat_eq_natCast]; first | done | omega | trivial | (simp; done) | (simp; omega) | (constructor <;> omega)) | (simp (disch := omega) only [hS.glob, wraps, plain, Int.ofNat_eq_natCast, Vx.toN]; omega)), ?_⟩)
    simp only [hS.tidy]
    obtain ⟨j, hj⟩ : ∃ j, j = jo i := ⟨_, rfl⟩
    rw [← hj] at hbi hti ⊢
    obtain ⟨P2, hP2⟩ : ∃ x, x = picB a p j := ⟨_, rfl⟩
    obtain ⟨O2, hO2⟩ : ∃ x, x = oddB a o j := ⟨_, rfl⟩
    rw [hVV]
    clear hVV hVA VV VA hW W
    refine V.call rfl rfl rfl rfl rfl Try.func45 rfl (by decide) [] (by simp) (by simp) (by (first | rfl | ((conv => cbv); (repeat' apply And.intro) <;> first | rfl | trivial | (first | rfl | omega | (simp (disch := omega) only [hS.glob, wraps, plain, Int.ofNat_eq_natCast]; first | done | rfl | omega | (simp; done) | (simp; omega)) | (simp (disch := omega) only [hS.glob, wraps, plain, Int.ofNat_eq_natCast, Vx.toN]; omega))))) rfl (f45_ok a p o j (B i) hbi) ?_
    rintro r Hc ⟨rfl, rfl⟩
    refine V.goF (by first | exact trivial | assumption) Try.func44 tl_ok mixed hS.ops [] 400 ?_
    intro VV VA W hVV hVA hW
    conv => cbv
    cases hBi : B i
    · conv => cbv
      rw [hVV]
      clear hVV hVA VV VA hW W
      refine V.call rfl rfl rfl rfl rfl Try.func46 rfl (by decide) [] (by simp) (by simp) (by (first | rfl | ((conv => cbv); (repeat' apply And.intro) <;> first | rfl | trivial | (first | rfl | omega | (simp (disch := omega) only [hS.glob, wraps, plain, Int.ofNat_eq_natCast]; first | done | rfl | omega | (simp; done) | (simp; omega)) | (simp (disch := omega) only [hS.glob, wraps, plain, Int.ofNat_eq_natCast, Vx.toN]; omega))))) rfl (f46_ok a p o j P2 O2 hP2 hO2) ?_
      rintro r Hc ⟨rfl, rfl⟩
      refine V.goF (by first | exact trivial | assumption) Try.func44 tl_ok mixed hS.ops [] 400 ?_
      intro VV VA W hVV hVA hW
      conv => cbv
      repeat (refine ⟨by first | (rw [hW]; show ordOk _ _ _ = true; kernel_rfl) | (first | trivial | omega | (simp (disch := omega) only [hS.glob, wraps, plain, Int.ofNat_eq_natCast]; first | done | omega | trivial | (simp; done) | (simp; omega) | (constructor <;> omega)) | (simp (disch := omega) only [hS.glob, wraps, plain, Int.ofNat_eq_natCast, Vx.toN]; omega)), ?_⟩)
      rw [hVV]
      clear hVV hVA VV VA hW W
      refine V.to (hback (i + 1, k, S) ⟨by simp only; omega, by simp only; rw [hsucc, hBi]; exact hS0⟩ (by simp only; omega)) (by (repeat' first | exact trivial | rfl | (refine And.intro ?_ ?_) | (refine sti ?_; (first | rfl | omega | (simp (disch := omega) only [hS.glob, wraps, plain, Int.ofNat_eq_natCast]; first | done | rfl | omega | (simp; done) | (simp; omega)) | (simp (disch := omega) only [hS.glob, wraps, plain, Int.ofNat_eq_natCast, Vx.toN]; omega))) | (refine slq ?_ ?_ ?_ <;> (first | rfl | omega | (simp (disch := omega) only [hS.glob, wraps, plain, Int.ofNat_eq_natCast]; first | done | rfl | omega | (simp; done) | (simp; omega)) | (simp (disch := omega) only [hS.glob, wraps, plain, Int.ofNat_eq_natCast, Vx.toN]; omega))) | (refine ptq ?_ ?_ ?_ <;> (first | rfl | omega | (simp (disch := omega) only [hS.glob, wraps, plain, Int.ofNat_eq_natCast]; first | done | rfl | omega | (simp; done) | (simp; omega)) | (simp (disch := omega) only [hS.glob, wraps, plain, Int.ofNat_eq_natCast, Vx.toN]; omega))) | (refine blq ?_; (first | rfl | omega | (simp (disch := omega) only [hS.glob, wraps, plain, Int.ofNat_eq_natCast]; first | done | rfl | omega | (simp; done) | (simp; omega)) | (simp (disch := omega) only [hS.glob, wraps, plain, Int.ofNat_eq_natCast, Vx.toN]; omega))))) rfl (by dsimp only; rw [hti]; unfold hT; rw [← hP2, ← hO2]; (repeat' first | exact trivial | rfl | exact Nat.le_refl _ | exact (fun _ _ => rfl) | (refine And.intro ?_ ?_) | (simp only [hS.glob, plain]; first | done | omega))) (by rw [hC']; simp [hT])
    · conv => cbv
      rw [hVV]
      clear hVV hVA VV VA hW W
      obtain ⟨QR, hQR⟩ : ∃ QR : Option Code → Hp → Prop, QR = fun q H' => q = none ∧ ∃ w b, H' = [some ⟨37, 1, .lit [[.sl 4 0 (k + 1)]]⟩, some ⟨97, 3, .lit [[.int .i64 a, .bool p, .bool o]]⟩, none, w, some ⟨3, 1, .arr (k + 1) b⟩] ∧ (∀ q, q < k → b q = icol .i64 S q) ∧ b k = [.int .i64 (ofN i)] := ⟨_, rfl⟩
      refine V.yield it rfl rfl rfl rfl rfl rfl rfl rfl (QR := QR) ?_ ?_ ?_
      · clear it hback
        intro C2 hC2 hR2
        have hfit := hR2.fits QR
        refine V.goF (by first | exact trivial | assumption) Try.func13 tl_ok mixed hS.ops [] 400 ?_
        intro VV VA W hVV hVA hW
        conv => cbv
        rw [hVV]
        clear hVV hVA VV VA hW W
        refine V.beginRound hR2 fun C3 hC3 hfit3 => ?_
        refine V.goF (by first | exact trivial | assumption) Try.func13 tl_ok mixed hS.ops [] 400 ?_
        intro VV VA W hVV hVA hW
        conv => cbv
        repeat (refine ⟨by first | (rw [hW]; show ordOk _ _ _ = true; kernel_rfl) | (first | trivial | omega | (simp (disch := omega) only [hS.glob, wraps, plain, Int.ofNat_eq_natCast]; first | done | omega | trivial | (simp; done) | (simp; omega) | (constructor <;> omega)) | (simp (disch := omega) only [hS.glob, wraps, plain, Int.ofNat_eq_natCast, Vx.toN]; omega)), ?_⟩)
        have ea : addN k 1 = k + 1 := by simp [hS.glob, Vx.addN]
        simp only [ea]
        rw [hQR]
        refine ⟨rfl, _, _, rfl, fun q hq => ?_, ?_⟩
        · have : ltB q k = true := by simp only [hS.glob, plain]; exact hq
          rw [this]
        · have : ltB k k = false := by simp only [hS.glob, plain]; omega
          rw [this]
          simp [hS.glob, Vx.subN]
      · rw [hQR]
        rintro H' ⟨_, w, b, rfl, hb1, hb2⟩
        refine V.goF (by first | exact trivial | assumption) Try.func44 tl_ok mixed hS.ops [] 400 ?_
        intro VV VA W hVV hVA hW
        conv => cbv
        rw [hVV]
        clear hVV hVA VV VA hW W
        refine V.call rfl rfl rfl rfl rfl Try.func46 rfl (by decide) [] (by simp) (by simp) (by (first | rfl | ((conv => cbv); (repeat' apply And.intro) <;> first | rfl | trivial | (first | rfl | omega | (simp (disch := omega) only [hS.glob, wraps, plain, Int.ofNat_eq_natCast]; first | done | rfl | omega | (simp; done) | (simp; omega)) | (simp (disch := omega) only [hS.glob, wraps, plain, Int.ofNat_eq_natCast, Vx.toN]; omega))))) rfl (f46_ok a p o j P2 O2 hP2 hO2) ?_
        rintro r Hc ⟨rfl, rfl⟩
        refine V.goF (by first | exact trivial | assumption) Try.func44 tl_ok mixed hS.ops [] 400 ?_
        intro VV VA W hVV hVA hW
        conv => cbv
        repeat (refine ⟨by first | (rw [hW]; show ordOk _ _ _ = true; kernel_rfl) | (first | trivial | omega | (simp (disch := omega) only [hS.glob, wraps, plain, Int.ofNat_eq_natCast]; first | done | omega | trivial | (simp; done) | (simp; omega) | (constructor <;> omega)) | (simp (disch := omega) only [hS.glob, wraps, plain, Int.ofNat_eq_natCast, Vx.toN]; omega)), ?_⟩)
        rw [hVV]
        clear hVV hVA VV VA hW W
        obtain ⟨S', e1, e2⟩ := snocF S k (ofN i)
        refine V.pick [0, 1, 4] (by decide) (by rw [hC']; exact begins_of (n := 1) (by decide)) rfl rfl ?_
        refine V.to (hback (i + 1, k + 1, S') ⟨by simp only; omega, ?_⟩ (by simp only; omega)) (by (repeat' first | exact trivial | rfl | (refine And.intro ?_ ?_) | (refine sti ?_; (first | rfl | omega | (simp (disch := omega) only [hS.glob, wraps, plain, Int.ofNat_eq_natCast]; first | done | rfl | omega | (simp; done) | (simp; omega)) | (simp (disch := omega) only [hS.glob, wraps, plain, Int.ofNat_eq_natCast, Vx.toN]; omega))) | (refine slq ?_ ?_ ?_ <;> (first | rfl | omega | (simp (disch := omega) only [hS.glob, wraps, plain, Int.ofNat_eq_natCast]; first | done | rfl | omega | (simp; done) | (simp; omega)) | (simp (disch := omega) only [hS.glob, wraps, plain, Int.ofNat_eq_natCast, Vx.toN]; omega))) | (refine ptq ?_ ?_ ?_ <;> (first | rfl | omega | (simp (disch := omega) only [hS.glob, wraps, plain, Int.ofNat_eq_natCast]; first | done | rfl | omega | (simp; done) | (simp; omega)) | (simp (disch := omega) only [hS.glob, wraps, plain, Int.ofNat_eq_natCast, Vx.toN]; omega))) | (refine blq ?_; (first | rfl | omega | (simp (disch := omega) only [hS.glob, wraps, plain, Int.ofNat_eq_natCast]; first | done | rfl | omega | (simp; done) | (simp; omega)) | (simp (disch := omega) only [hS.glob, wraps, plain, Int.ofNat_eq_natCast, Vx.toN]; omega))))) rfl ?_ (by rw [hC']; simp [hT])
        · dsimp only
          rw [hsucc, hBi, if_pos rfl, List.map_append, ← hS0]
          exact tab_snoc rfl e1 (by rw [e2]; simp (disch := first | omega | (simp only [hS.glob, wraps, plain, Int.ofNat_eq_natCast]; omega)) only [hS.glob, wraps, plain, Int.ofNat_eq_natCast])
        · dsimp only
          rw [hti]
          unfold hT
          rw [← hP2, ← hO2]
          (repeat' first | exact trivial | rfl | exact Nat.le_refl _ | exact (fun _ _ => rfl) | (refine And.intro ?_ ?_) | (simp only [hS.glob, plain]; first | done | omega))
          intro q hq
          rcases Nat.lt_or_ge q k with h | h
          · simp only [icol, e1 q h]
            exact (hb1 q h).symm
          · obtain rfl : q = k := by omega
            simp only [icol, e2]
            exact hb2.symm
      · rw [hQR]
        rintro j H' ⟨h, _⟩
        cases h
  · rintro H' ⟨k, S, a, p, o, rfl, hS0⟩ C2 hC2
    unfold hT
    refine V.goF (by first | exact trivial | assumption) Try.func13 tl_ok mixed hS.ops [] 400 ?_
    intro VV VA W hVV hVA hW
    conv => cbv
    rw [hQ]
    exact ⟨k, S, a, p, o, hS0, rfl, rfl⟩
  · rintro j H' h
    exact h.elim
  · rintro H' h
    exact h
theorem f13_ok (n : Nat) (hn : n ≤ 2000000) (jo : Nat → Int) : FSpec Try.prog 13 [.rows 1 n (icol .i64 jo)] [] (fun r H' => H' = [] ∧ ∃ k f, (∃ S, f = icol .i64 S ∧ tab k S = (startsL jo n).map (fun (x : Nat) => (x : Int))) ∧ r = .rows 1 k f) := by
  refine FSpec.froz (by decide) (f13_ok1 n hn jo) ?_
  rintro r H' ⟨k, S, a, p, o, h1, rfl, rfl⟩
  exact ⟨k, _, ⟨S, rfl, h1⟩, .inr ⟨2, 3, k, _, rfl, Nat.le_refl _, rfl, fun _ _ => rfl⟩⟩
end Go.Proofs.Ytngagepodbcohaa

/- How a cluster stands, and how far it reaches. -/
namespace Go.Proofs.Ytngagepodbcohaa
open Go Vx
set_option maxRecDepth 100000
def colB (m : Int) : Bool := decide (m = 1) || decide (m = 2)
def mixI (st : Int) (fo : Bool) : Int := if st = 1 then 0 else if st = 3 ∧ fo = true then 2 else if st = 2 then 2 else 1
def wayI (st : Int) (fo : Bool) (p m : Int) : Int := if colB m = false ∨ p = 1 then 0 else if p = 2 then 1 else mixI st fo
def reachI (st : Int) (fo wi : Bool) (size p m : Int) : Int := if wi = true ∧ (colB m = false ∨ wayI st fo p m = 1) then min (max size 1) 64 * 2 else min (max size 1) 64
theorem f39_ok (m : Int) (R : Bool) (hR : R = colB m) : FSpec Try.prog 39 [.int .i64 m] [] (fun r H' => r = .bool R ∧ H' = []) := by
  refine pure_of rfl ?_
  unfold colB at hR
  refine FSpec.of (fn := Try.f39) Try.func39 rfl rfl (by simp) fun C hC => ?_
  obtain ⟨iadd, isub, imul, iquo, irem, iband, ibor, ibxor, ibandn, ishl, ishr, iconv, ieq, ine, ilt, ile, igt, ige, bbeq, bbne, bnot, bband, sseq, ssne, sscat, sssub, sslen, sssz, ssbyte, toN, ofN, addN, subN, eqN, ltB, leN, imx, imn, inb, leb, sslt, ltN, fit, ne0, ge0, ssfit, minN, inR, bcol, bstr, isBy, hS⟩ := names
  refine V.goF (by first | exact trivial | assumption) Try.func39 tl_ok mixed hS.ops [] 400 ?_
  intro VV VA W hVV hVA hW
  conv => cbv
  (cases e1 : ieq m 1 <;> (conv => cbv))
  all_goals first | (with_reducible refine congrArg AV.bool ?_; clear hVV hVA VV VA hW W; simp only [hS.glob, plain] at *; subst hR; first | (simp [*, Vx.bnot]; done) | omega | (split <;> simp [*]; done)) | (cases e2 : ieq m 2 <;> (conv => cbv) <;> (repeat (simp only [e1, e2]; (conv => cbv))))
  all_goals (with_reducible refine congrArg AV.bool ?_; clear hVV hVA VV VA hW W; simp only [hS.glob, plain] at *; subst hR; first | (simp [*, Vx.bnot]; done) | omega | (split <;> simp [*]; done))
theorem f66_ok (st : Int) (fo wi : Bool) (size : Int) (R : Int) (hR : R = mixI st fo) : FSpec Try.prog 66 [.agg [.int .i64 st, .bool fo, .bool wi, .int .i64 size]] [] (fun r H' => r = .int .i64 R ∧ H' = []) := by
  refine pure_of rfl ?_
  unfold mixI at hR
  refine FSpec.of (fn := Try.f66) Try.func66 rfl rfl (by simp) fun C hC => ?_
  obtain ⟨iadd, isub, imul, iquo, irem, iband, ibor, ibxor, ibandn, ishl, ishr, iconv, ieq, ine, ilt, ile, igt, ige, bbeq, bbne, bnot, bband, sseq, ssne, sscat, sssub, sslen, sssz, ssbyte, toN, ofN, addN, subN, eqN, ltB, leN, imx, imn, inb, leb, sslt, ltN, fit, ne0, ge0, ssfit, minN, inR, bcol, bstr, isBy, hS⟩ := names
  refine V.goF (by first | exact trivial | assumption) Try.func66 tl_ok mixed hS.ops [] 400 ?_
  intro VV VA W hVV hVA hW
  conv => cbv
  cases fo
  all_goals
    (cases e1 : ieq st 1 <;> (conv => cbv))
    all_goals first | (with_reducible refine id (α := _ = _) ?_) | (cases e2 : ieq st 3 <;> (conv => cbv) <;> (repeat (simp only [e1, e2]; (conv => cbv))))
    all_goals first | (with_reducible refine id (α := _ = _) ?_) | (cases e3 : ieq st 2 <;> (conv => cbv) <;> (repeat (simp only [e1, e2, e3]; (conv => cbv))))
    all_goals clear hVV hVA VV VA hW W
    all_goals simp only [hS.glob, plain] at *
    all_goals
      subst hR
      first | (simp [*]; done) | omega
theorem f37_ok (st : Int) (fo wi : Bool) (size p m : Int) (R : Int) (hR : R = wayI st fo p m) : FSpec Try.prog 37 [.agg [.int .i64 st, .bool fo, .bool wi, .int .i64 size], .int .i64 p, .int .i64 m] [] (fun r H' => r = .int .i64 R ∧ H' = []) := by
  refine pure_of rfl ?_
  unfold wayI at hR
  obtain ⟨B, hB⟩ : ∃ x, x = colB m := ⟨_, rfl⟩
  obtain ⟨M, hM⟩ : ∃ x, x = mixI st fo := ⟨_, rfl⟩
  rw [← hB, ← hM] at hR
  refine FSpec.of (fn := Try.f37) Try.func37 rfl rfl (by simp) fun C hC => ?_
  obtain ⟨iadd, isub, imul, iquo, irem, iband, ibor, ibxor, ibandn, ishl, ishr, iconv, ieq, ine, ilt, ile, igt, ige, bbeq, bbne, bnot, bband, sseq, ssne, sscat, sssub, sslen, sssz, ssbyte, toN, ofN, addN, subN, eqN, ltB, leN, imx, imn, inb, leb, sslt, ltN, fit, ne0, ge0, ssfit, minN, inR, bcol, bstr, isBy, hS⟩ := names
  refine V.goF (by first | exact trivial | assumption) Try.func37 tl_ok mixed hS.ops [] 400 ?_
  intro VV VA W hVV hVA hW
  conv => cbv
  rw [hVV]
  clear hVV hVA VV VA hW W
  refine V.call rfl rfl rfl rfl rfl Try.func39 rfl (by decide) [] (by simp) (by simp) (by (first | rfl | ((conv => cbv); (repeat' apply And.intro) <;> first | rfl | trivial | (first | rfl | omega | (simp (disch := omega) only [hS.glob, wraps, plain, Int.ofNat_eq_natCast]; first | done | rfl | omega | (simp; done) | (simp; omega)) | (simp (disch := omega) only [hS.glob, wraps, plain, Int.ofNat_eq_natCast, Vx.toN]; omega))))) rfl (f39_ok m B hB) ?_
  rintro r Hc ⟨rfl, rfl⟩
  refine V.goF (by first | exact trivial | assumption) Try.func37 tl_ok mixed hS.ops [] 400 ?_
  intro VV VA W hVV hVA hW
  conv => cbv
  cases B
  case false =>
    conv => cbv
    rw [hR, if_pos (.inl rfl)]
  conv => cbv
  cases h1 : ieq p 1
  case true =>
    conv => cbv
    simp (disch := first | omega | (simp only [hS.glob, wraps, plain, Int.ofNat_eq_natCast]; omega)) only [hS.glob, wraps, plain, Int.ofNat_eq_natCast] at h1
    rw [hR, if_pos (.inr h1)]
  conv => cbv
  cases h2 : ieq p 2
  case true =>
    conv => cbv
    simp (disch := first | omega | (simp only [hS.glob, wraps, plain, Int.ofNat_eq_natCast]; omega)) only [hS.glob, wraps, plain, Int.ofNat_eq_natCast] at h1 h2
    rw [hR, if_neg (by simp [h1]), if_pos h2]
  conv => cbv
  simp (disch := first | omega | (simp only [hS.glob, wraps, plain, Int.ofNat_eq_natCast]; omega)) only [hS.glob, wraps, plain, Int.ofNat_eq_natCast] at h1 h2
  rw [hVV]
  clear hVV hVA VV VA hW W
  refine V.call rfl rfl rfl rfl rfl Try.func66 rfl (by decide) [] (by simp) (by simp) (by (first | rfl | ((conv => cbv); (repeat' apply And.intro) <;> first | rfl | trivial | (first | rfl | omega | (simp (disch := omega) only [hS.glob, wraps, plain, Int.ofNat_eq_natCast]; first | done | rfl | omega | (simp; done) | (simp; omega)) | (simp (disch := omega) only [hS.glob, wraps, plain, Int.ofNat_eq_natCast, Vx.toN]; omega))))) rfl (f66_ok st fo wi size M hM) ?_
  rintro r Hc ⟨rfl, rfl⟩
  refine V.goF (by first | exact trivial | assumption) Try.func37 tl_ok mixed hS.ops [] 400 ?_
  intro VV VA W hVV hVA hW
  conv => cbv
  rw [hR, if_neg (by simp [h1]), if_neg h2]
theorem f38_ok (st : Int) (fo wi : Bool) (size p m : Int) (R : Int) (hR : R = reachI st fo wi size p m) : FSpec Try.prog 38 [.agg [.int .i64 st, .bool fo, .bool wi, .int .i64 size], .int .i64 p, .int .i64 m] [] (fun r H' => r = .int .i64 R ∧ H' = []) := by
  refine pure_of rfl ?_
  unfold reachI at hR
  obtain ⟨B, hB⟩ : ∃ x, x = colB m := ⟨_, rfl⟩
  obtain ⟨W0, hW0⟩ : ∃ x, x = wayI st fo p m := ⟨_, rfl⟩
  obtain ⟨n, hn⟩ : ∃ x, x = min (max size 1) 64 := ⟨_, rfl⟩
  have hn1 : 1 ≤ n ∧ n ≤ 64 := by omega
  rw [← hB, ← hW0, ← hn] at hR
  refine FSpec.of (fn := Try.f38) Try.func38 rfl rfl (by simp) fun C hC => ?_
  obtain ⟨iadd, isub, imul, iquo, irem, iband, ibor, ibxor, ibandn, ishl, ishr, iconv, ieq, ine, ilt, ile, igt, ige, bbeq, bbne, bnot, bband, sseq, ssne, sscat, sssub, sslen, sssz, ssbyte, toN, ofN, addN, subN, eqN, ltB, leN, imx, imn, inb, leb, sslt, ltN, fit, ne0, ge0, ssfit, minN, inR, bcol, bstr, isBy, hS⟩ := names
  refine V.goF (by first | exact trivial | assumption) Try.func38 tl_ok mixed hS.ops [] 400 ?_
  intro VV VA W hVV hVA hW
  conv => cbv
  have en : imn (imx size 1) 64 = n := by simp only [hS.glob, Vx.imn, Vx.imx]; omega
  simp only [en]
  cases wi
  case false =>
    conv => cbv
    rw [hR, if_neg (by simp)]
  conv => cbv
  rw [hVV]
  clear hVV hVA VV VA hW W
  refine V.call rfl rfl rfl rfl rfl Try.func39 rfl (by decide) [] (by simp) (by simp) (by (first | rfl | ((conv => cbv); (repeat' apply And.intro) <;> first | rfl | trivial | (first | rfl | omega | (simp (disch := omega) only [hS.glob, wraps, plain, Int.ofNat_eq_natCast]; first | done | rfl | omega | (simp; done) | (simp; omega)) | (simp (disch := omega) only [hS.glob, wraps, plain, Int.ofNat_eq_natCast, Vx.toN]; omega))))) rfl (f39_ok m B hB) ?_
  rintro r Hc ⟨rfl, rfl⟩
  refine V.goF (by first | exact trivial | assumption) Try.func38 tl_ok mixed hS.ops [] 400 ?_
  intro VV VA W hVV hVA hW
  conv => cbv
  have e2 : imul .i64 n 2 = n * 2 := by simp only [hS.glob]; simp (disch := omega) only [wraps]
  cases B
  case false =>
    conv => cbv
    rw [hR, if_pos ⟨rfl, .inl rfl⟩, e2]
  conv => cbv
  rw [hVV]
  clear hVV hVA VV VA hW W
  refine V.call rfl rfl rfl rfl rfl Try.func37 rfl (by decide) [] (by simp) (by simp) (by (first | rfl | ((conv => cbv); (repeat' apply And.intro) <;> first | rfl | trivial | (first | rfl | omega | (simp (disch := omega) only [hS.glob, wraps, plain, Int.ofNat_eq_natCast]; first | done | rfl | omega | (simp; done) | (simp; omega)) | (simp (disch := omega) only [hS.glob, wraps, plain, Int.ofNat_eq_natCast, Vx.toN]; omega))))) rfl (f37_ok st fo true size p m W0 hW0) ?_
  rintro r Hc ⟨rfl, rfl⟩
  refine V.goF (by first | exact trivial | assumption) Try.func38 tl_ok mixed hS.ops [] 400 ?_
  intro VV VA W hVV hVA hW
  conv => cbv
  cases h1 : ieq W0 1
  · conv => cbv
    simp (disch := first | omega | (simp only [hS.glob, wraps, plain, Int.ofNat_eq_natCast]; omega)) only [hS.glob, wraps, plain, Int.ofNat_eq_natCast] at h1
    rw [hR, if_neg (by simp [h1])]
  · conv => cbv
    simp (disch := first | omega | (simp only [hS.glob, wraps, plain, Int.ofNat_eq_natCast]; omega)) only [hS.glob, wraps, plain, Int.ofNat_eq_natCast] at h1
    rw [hR, if_pos ⟨rfl, .inr h1⟩, e2]
end Go.Proofs.Ytngagepodbcohaa

/- A text's clusters. -/
namespace Go.Proofs.Ytngagepodbcohaa
open Go Vx
set_option maxRecDepth 100000
def toI (n K : Nat) (s : Nat → Int) (k : Nat) : Int := if k + 1 < K then s (k + 1) else n
theorem f14_ok (n : Nat) (p : Nat → Pr) (ns : Nat) (l : Nat → Sp) (m : Int) (K : Nat) (s : Nat → Int) (k : Nat) (hk : k < K) (z : Int) (hz : z = k) (q : Nat) (hq : s k = q) (hqn : q < n) : FSpec Try.prog 14 [.agg [.rows 9 n (prc p), .rows 6 ns (spc l), .int .i64 m, .rows 1 K (icol .i64 s)], .int .i64 z] [] (fun r H' => r = .int .i64 (p q).ki ∧ H' = []) := by
  refine pure_of rfl ?_
  refine FSpec.of (fn := Try.f14) Try.func14 rfl rfl (by simp) fun C hC => ?_
  obtain ⟨iadd, isub, imul, iquo, irem, iband, ibor, ibxor, ibandn, ishl, ishr, iconv, ieq, ine, ilt, ile, igt, ige, bbeq, bbne, bnot, bband, sseq, ssne, sscat, sssub, sslen, sssz, ssbyte, toN, ofN, addN, subN, eqN, ltB, leN, imx, imn, inb, leb, sslt, ltN, fit, ne0, ge0, ssfit, minN, inR, bcol, bstr, isBy, hS⟩ := names
  refine V.goF (by first | exact trivial | assumption) Try.func14 tl_ok mixed hS.ops [] 400 ?_
  intro VV VA W hVV hVA hW
  conv => cbv
  refine ⟨by rw [hW]; show ordOk _ _ _ = true; kernel_rfl, ?_⟩
  have ez : z = ofN k := by (first | rfl | omega | (simp (disch := omega) only [hS.glob, wraps, plain, Int.ofNat_eq_natCast]; first | done | rfl | omega | (simp; done) | (simp; omega)) | (simp (disch := omega) only [hS.glob, wraps, plain, Int.ofNat_eq_natCast, Vx.toN]; omega))
  rw [ez]
  repeat (refine ⟨by first | (rw [hW]; show ordOk _ _ _ = true; kernel_rfl) | (first | trivial | omega | (simp (disch := omega) only [hS.glob, wraps, plain, Int.ofNat_eq_natCast]; first | done | omega | trivial | (simp; done) | (simp; omega) | (constructor <;> omega)) | (simp (disch := omega) only [hS.glob, wraps, plain, Int.ofNat_eq_natCast, Vx.toN]; omega)), ?_⟩)
  simp only [hS.tidy]
  have es : s k = ofN q := by rw [hq]; (first | rfl | omega | (simp (disch := omega) only [hS.glob, wraps, plain, Int.ofNat_eq_natCast]; first | done | rfl | omega | (simp; done) | (simp; omega)) | (simp (disch := omega) only [hS.glob, wraps, plain, Int.ofNat_eq_natCast, Vx.toN]; omega))
  rw [es]
  repeat (refine ⟨by first | (rw [hW]; show ordOk _ _ _ = true; kernel_rfl) | (first | trivial | omega | (simp (disch := omega) only [hS.glob, wraps, plain, Int.ofNat_eq_natCast]; first | done | omega | trivial | (simp; done) | (simp; omega) | (constructor <;> omega)) | (simp (disch := omega) only [hS.glob, wraps, plain, Int.ofNat_eq_natCast, Vx.toN]; omega)), ?_⟩)
  simp only [hS.tidy]
theorem f31_ok (n : Nat) (p : Nat → Pr) (ns : Nat) (l : Nat → Sp) (m : Int) (K : Nat) (hK : K ≤ 2000000) (s : Nat → Int) (k : Nat) (hk : k < K) (z : Int) (hz : z = k) (R : Int) (hR : R = toI n K s k) : FSpec Try.prog 31 [.agg [.rows 9 n (prc p), .rows 6 ns (spc l), .int .i64 m, .rows 1 K (icol .i64 s)], .int .i64 z] [] (fun r H' => r = .int .i64 R ∧ H' = []) := by
  refine pure_of rfl ?_
  unfold toI at hR
  refine FSpec.of (fn := Try.f31) Try.func31 rfl rfl (by simp) fun C hC => ?_
  obtain ⟨iadd, isub, imul, iquo, irem, iband, ibor, ibxor, ibandn, ishl, ishr, iconv, ieq, ine, ilt, ile, igt, ige, bbeq, bbne, bnot, bband, sseq, ssne, sscat, sssub, sslen, sssz, ssbyte, toN, ofN, addN, subN, eqN, ltB, leN, imx, imn, inb, leb, sslt, ltN, fit, ne0, ge0, ssfit, minN, inR, bcol, bstr, isBy, hS⟩ := names
  refine V.goF (by first | exact trivial | assumption) Try.func31 tl_ok mixed hS.ops [] 400 ?_
  intro VV VA W hVV hVA hW
  conv => cbv
  have e1 : iadd .i64 z 1 = ofN (k + 1) := by rw [hz]; (first | rfl | omega | (simp (disch := omega) only [hS.glob, wraps, plain, Int.ofNat_eq_natCast]; first | done | rfl | omega | (simp; done) | (simp; omega)) | (simp (disch := omega) only [hS.glob, wraps, plain, Int.ofNat_eq_natCast, Vx.toN]; omega))
  simp only [e1]
  cases h1 : ilt (ofN (k + 1)) (ofN K)
  · conv => cbv
    simp (disch := first | omega | (simp only [hS.glob, wraps, plain, Int.ofNat_eq_natCast]; omega)) only [hS.glob, wraps, plain, Int.ofNat_eq_natCast] at h1
    rw [hR, if_neg (by omega)]
    congr 1
    (first | rfl | omega | (simp (disch := omega) only [hS.glob, wraps, plain, Int.ofNat_eq_natCast]; first | done | rfl | omega | (simp; done) | (simp; omega)) | (simp (disch := omega) only [hS.glob, wraps, plain, Int.ofNat_eq_natCast, Vx.toN]; omega))
  · conv => cbv
    simp (disch := first | omega | (simp only [hS.glob, wraps, plain, Int.ofNat_eq_natCast]; omega)) only [hS.glob, wraps, plain, Int.ofNat_eq_natCast] at h1
    simp only [e1]
    repeat (refine ⟨by first | (rw [hW]; show ordOk _ _ _ = true; kernel_rfl) | (first | trivial | omega | (simp (disch := omega) only [hS.glob, wraps, plain, Int.ofNat_eq_natCast]; first | done | omega | trivial | (simp; done) | (simp; omega) | (constructor <;> omega)) | (simp (disch := omega) only [hS.glob, wraps, plain, Int.ofNat_eq_natCast, Vx.toN]; omega)), ?_⟩)
    simp only [hS.tidy]
    rw [hR, if_pos (by omega)]
theorem f32_ok (x : Pr) (R : Bool) (hR : R = !(remB x.cl)) : FSpec Try.prog 32 [.agg [.int .i64 x.cl, .int .i64 x.st, .int .i64 x.jo, .int .i64 x.ki, .bool x.wi, .bool x.fo, .int .i64 x.mi, .int .i64 x.pa, .bool x.op]] [] (fun r H' => r = .bool R ∧ H' = []) := by
  refine pure_of rfl ?_
  obtain ⟨B, hB⟩ : ∃ y, y = remB x.cl := ⟨_, rfl⟩
  rw [← hB] at hR
  refine FSpec.of (fn := Try.f32) Try.func32 rfl rfl (by simp) fun C hC => ?_
  obtain ⟨iadd, isub, imul, iquo, irem, iband, ibor, ibxor, ibandn, ishl, ishr, iconv, ieq, ine, ilt, ile, igt, ige, bbeq, bbne, bnot, bband, sseq, ssne, sscat, sssub, sslen, sssz, ssbyte, toN, ofN, addN, subN, eqN, ltB, leN, imx, imn, inb, leb, sslt, ltN, fit, ne0, ge0, ssfit, minN, inR, bcol, bstr, isBy, hS⟩ := names
  refine V.goF (by first | exact trivial | assumption) Try.func32 tl_ok mixed hS.ops [] 400 ?_
  intro VV VA W hVV hVA hW
  conv => cbv
  rw [hVV]
  clear hVV hVA VV VA hW W
  refine V.call rfl rfl rfl rfl rfl Try.func33 rfl (by decide) [] (by simp) (by simp) (by (first | rfl | ((conv => cbv); (repeat' apply And.intro) <;> first | rfl | trivial | (first | rfl | omega | (simp (disch := omega) only [hS.glob, wraps, plain, Int.ofNat_eq_natCast]; first | done | rfl | omega | (simp; done) | (simp; omega)) | (simp (disch := omega) only [hS.glob, wraps, plain, Int.ofNat_eq_natCast, Vx.toN]; omega))))) rfl (f33_ok x.cl B hB) ?_
  rintro r Hc ⟨rfl, rfl⟩
  refine V.goF (by first | exact trivial | assumption) Try.func32 tl_ok mixed hS.ops [] 400 ?_
  intro VV VA W hVV hVA hW
  conv => cbv
  rw [hR]
  cases B <;> rfl
theorem f60_ok (n : Nat) (hn : n ≤ 2000000) (p : Nat → Pr) (R : Bool) (hR : R = true ↔ ∃ i, i < n ∧ remB (p i).cl = false) : FSpec Try.prog 60 [.rows 9 n (prc p), .fn (.func 32) [] []] [] (fun r H' => H' = [] ∧ ∃ z, r = .int .i64 z ∧ (R = true ↔ 0 ≤ z)) := by
  obtain ⟨Q, hQ⟩ : ∃ Q : AV → Hp → Prop, Q = (fun r H' => H' = [] ∧ ∃ z, r = .int .i64 z ∧ (R = true ↔ 0 ≤ z)) := ⟨_, rfl⟩
  rw [← hQ]
  refine FSpec.of (fn := Try.f60) Try.func60 rfl rfl (by simp) fun C hC => ?_
  obtain ⟨iadd, isub, imul, iquo, irem, iband, ibor, ibxor, ibandn, ishl, ishr, iconv, ieq, ine, ilt, ile, igt, ige, bbeq, bbne, bnot, bband, sseq, ssne, sscat, sssub, sslen, sssz, ssbyte, toN, ofN, addN, subN, eqN, ltB, leN, imx, imn, inb, leb, sslt, ltN, fit, ne0, ge0, ssfit, minN, inR, bcol, bstr, isBy, hS⟩ := names
  refine V.goF (by first | exact trivial | assumption) Try.func60 tl_ok mixed hS.ops [] 400 ?_
  intro VV VA W hVV hVA hW
  conv => cbv
  rw [hVV]
  clear hVV hVA VV VA hW W
  refine V.to (s' := [(8, .int .i64 (ofN 0)), (7, .int .i64 (ofN n)), (0, .rows 9 n (prc p)), (1, .fn (.func 32) [] [])]) (H' := []) ?_ (by (repeat' first | exact trivial | rfl | (refine And.intro ?_ ?_) | (refine sti ?_; (first | rfl | omega | (simp (disch := omega) only [hS.glob, wraps, plain, Int.ofNat_eq_natCast]; first | done | rfl | omega | (simp; done) | (simp; omega)) | (simp (disch := omega) only [hS.glob, wraps, plain, Int.ofNat_eq_natCast, Vx.toN]; omega))) | (refine slq ?_ ?_ ?_ <;> (first | rfl | omega | (simp (disch := omega) only [hS.glob, wraps, plain, Int.ofNat_eq_natCast]; first | done | rfl | omega | (simp; done) | (simp; omega)) | (simp (disch := omega) only [hS.glob, wraps, plain, Int.ofNat_eq_natCast, Vx.toN]; omega))) | (refine ptq ?_ ?_ ?_ <;> (first | rfl | omega | (simp (disch := omega) only [hS.glob, wraps, plain, Int.ofNat_eq_natCast]; first | done | rfl | omega | (simp; done) | (simp; omega)) | (simp (disch := omega) only [hS.glob, wraps, plain, Int.ofNat_eq_natCast, Vx.toN]; omega))) | (refine blq ?_; (first | rfl | omega | (simp (disch := omega) only [hS.glob, wraps, plain, Int.ofNat_eq_natCast]; first | done | rfl | omega | (simp; done) | (simp; omega)) | (simp (disch := omega) only [hS.glob, wraps, plain, Int.ofNat_eq_natCast, Vx.toN]; omega))))) rfl trivial (by rw [hC]; simp)
  refine V.loop (γ := Nat) (fun i => i ≤ n ∧ ∀ j, j < i → remB (p j).cl = true) (fun i => [(8, .int .i64 (ofN i)), (7, .int .i64 (ofN n)), (0, .rows 9 n (prc p)), (1, .fn (.func 32) [] [])]) (fun _ => []) (fun i => n - i) ?_ 0 ⟨Nat.zero_le _, fun j hj => absurd hj (Nat.not_lt_zero _)⟩
  rintro i ⟨hi, hu⟩ hback
  refine V.goF (by first | exact trivial | assumption) Try.func60 tl_ok mixed hS.ops [] 400 ?_
  intro VV VA W hVV hVA hW
  conv => cbv
  cases h1 : ilt (ofN i) (ofN n)
  · conv => cbv
    simp (disch := first | omega | (simp only [hS.glob, wraps, plain, Int.ofNat_eq_natCast]; omega)) only [hS.glob, wraps, plain, Int.ofNat_eq_natCast] at h1
    rw [hQ]
    refine ⟨rfl, _, rfl, ⟨fun h => ?_, fun h => absurd h (by decide)⟩⟩
    obtain ⟨j, h2, h3⟩ := hR.1 h
    rw [hu j (by omega)] at h3
    cases h3
  · conv => cbv
    simp (disch := first | omega | (simp only [hS.glob, wraps, plain, Int.ofNat_eq_natCast]; omega)) only [hS.glob, wraps, plain, Int.ofNat_eq_natCast] at h1
    repeat (refine ⟨by first | (rw [hW]; show ordOk _ _ _ = true; kernel_rfl) | (first | trivial | omega | (simp (disch := omega) only [hS.glob, wraps, plain, Int.ofNat_eq_natCast]; first | done | omega | trivial | (simp; done) | (simp; omega) | (constructor <;> omega)) | (simp (disch := omega) only [hS.glob, wraps, plain, Int.ofNat_eq_natCast, Vx.toN]; omega)), ?_⟩)
    simp only [hS.tidy]
    obtain ⟨B, hB⟩ : ∃ y, y = !(remB (p i).cl) := ⟨_, rfl⟩
    rw [hVV]
    clear hVV hVA VV VA hW W
    refine V.call rfl rfl rfl rfl rfl Try.func32 rfl (by decide) [] (by simp) (by simp) (by (first | rfl | ((conv => cbv); (repeat' apply And.intro) <;> first | rfl | trivial | (first | rfl | omega | (simp (disch := omega) only [hS.glob, wraps, plain, Int.ofNat_eq_natCast]; first | done | rfl | omega | (simp; done) | (simp; omega)) | (simp (disch := omega) only [hS.glob, wraps, plain, Int.ofNat_eq_natCast, Vx.toN]; omega))))) rfl (f32_ok (p i) B hB) ?_
    rintro r Hc ⟨rfl, rfl⟩
    refine V.goF (by first | exact trivial | assumption) Try.func60 tl_ok mixed hS.ops [] 400 ?_
    intro VV VA W hVV hVA hW
    conv => cbv
    cases B
    · conv => cbv
      have e1 : remB (p i).cl = true := by
        cases h : remB (p i).cl
        · rw [h] at hB; cases hB
        · rfl
      rw [hVV]
      clear hVV hVA VV VA hW W
      exact V.to (hback (i + 1) ⟨by omega, fun j hj => by
        rcases Nat.lt_or_ge j i with h | h
        · exact hu j h
        · obtain rfl : j = i := by omega
          exact e1⟩ (by omega)) (by (repeat' first | exact trivial | rfl | (refine And.intro ?_ ?_) | (refine sti ?_; (first | rfl | omega | (simp (disch := omega) only [hS.glob, wraps, plain, Int.ofNat_eq_natCast]; first | done | rfl | omega | (simp; done) | (simp; omega)) | (simp (disch := omega) only [hS.glob, wraps, plain, Int.ofNat_eq_natCast, Vx.toN]; omega))) | (refine slq ?_ ?_ ?_ <;> (first | rfl | omega | (simp (disch := omega) only [hS.glob, wraps, plain, Int.ofNat_eq_natCast]; first | done | rfl | omega | (simp; done) | (simp; omega)) | (simp (disch := omega) only [hS.glob, wraps, plain, Int.ofNat_eq_natCast, Vx.toN]; omega))) | (refine ptq ?_ ?_ ?_ <;> (first | rfl | omega | (simp (disch := omega) only [hS.glob, wraps, plain, Int.ofNat_eq_natCast]; first | done | rfl | omega | (simp; done) | (simp; omega)) | (simp (disch := omega) only [hS.glob, wraps, plain, Int.ofNat_eq_natCast, Vx.toN]; omega))) | (refine blq ?_; (first | rfl | omega | (simp (disch := omega) only [hS.glob, wraps, plain, Int.ofNat_eq_natCast]; first | done | rfl | omega | (simp; done) | (simp; omega)) | (simp (disch := omega) only [hS.glob, wraps, plain, Int.ofNat_eq_natCast, Vx.toN]; omega))))) rfl trivial (by rw [hC]; simp)
    · conv => cbv
      have e1 : remB (p i).cl = false := by
        cases h : remB (p i).cl
        · rfl
        · rw [h] at hB; cases hB
      rw [hQ]
      refine ⟨rfl, _, rfl, ⟨fun _ => by simp only [hS.glob, Vx.ofN]; omega, fun _ => hR.2 ⟨i, by omega, e1⟩⟩⟩
theorem f30_ok (n : Nat) (hn : n ≤ 2000000) (p : Nat → Pr) (R : Bool) (hR : R = true ↔ ∃ i, i < n ∧ remB (p i).cl = false) : FSpec Try.prog 30 [.rows 9 n (prc p), .fn (.func 32) [] []] [] (fun r H' => r = .bool R ∧ H' = []) := by
  refine pure_of rfl ?_
  refine FSpec.of (fn := Try.f30) Try.func30 rfl rfl (by simp) fun C hC => ?_
  obtain ⟨iadd, isub, imul, iquo, irem, iband, ibor, ibxor, ibandn, ishl, ishr, iconv, ieq, ine, ilt, ile, igt, ige, bbeq, bbne, bnot, bband, sseq, ssne, sscat, sssub, sslen, sssz, ssbyte, toN, ofN, addN, subN, eqN, ltB, leN, imx, imn, inb, leb, sslt, ltN, fit, ne0, ge0, ssfit, minN, inR, bcol, bstr, isBy, hS⟩ := names
  refine V.goF (by first | exact trivial | assumption) Try.func30 tl_ok mixed hS.ops [] 400 ?_
  intro VV VA W hVV hVA hW
  conv => cbv
  rw [hVV]
  clear hVV hVA VV VA hW W
  refine V.call rfl rfl rfl rfl rfl Try.func60 rfl (by decide) [] (by simp) (by simp) (by (first | rfl | ((conv => cbv); (repeat' apply And.intro) <;> first | rfl | trivial | (first | rfl | omega | (simp (disch := omega) only [hS.glob, wraps, plain, Int.ofNat_eq_natCast]; first | done | rfl | omega | (simp; done) | (simp; omega)) | (simp (disch := omega) only [hS.glob, wraps, plain, Int.ofNat_eq_natCast, Vx.toN]; omega))))) rfl (f60_ok n hn p R hR) ?_
  rintro r Hc ⟨rfl, z, rfl, hz⟩
  refine V.goF (by first | exact trivial | assumption) Try.func30 tl_ok mixed hS.ops [] 400 ?_
  intro VV VA W hVV hVA hW
  conv => cbv
  congr 1
  cases h1 : ige z 0
  · simp (disch := first | omega | (simp only [hS.glob, wraps, plain, Int.ofNat_eq_natCast]; omega)) only [hS.glob, wraps, plain, Int.ofNat_eq_natCast] at h1
    cases R
    · rfl
    · have := hz.1 rfl; omega
  · simp (disch := first | omega | (simp only [hS.glob, wraps, plain, Int.ofNat_eq_natCast]; omega)) only [hS.glob, wraps, plain, Int.ofNat_eq_natCast] at h1
    exact (hz.2 h1).symm
end Go.Proofs.Ytngagepodbcohaa

/- An item of one cluster. -/
namespace Go.Proofs.Ytngagepodbcohaa
open Go Vx
set_option maxRecDepth 100000
structure It where
  fr : Int
  to : Int
  wy : Int
  rc : Int
  rb : Int
  en : Int
  gr : Bool
def itc (g : Nat → It) : Nat → List AV := fun i => [.int .i64 (g i).fr, .int .i64 (g i).to, .int .i64 (g i).wy, .int .i64 (g i).rc, .int .i64 (g i).rb, .int .i64 (g i).en, .bool (g i).gr]
noncomputable def sizeI (st : Sp) : Int := if st.sc = 0 then 1 else cellsI st.sc
noncomputable def singI (x : Pr) (st : Sp) (fr to m sp : Int) : It :=
  if st.co = true ∧ colB m = true then ⟨fr, to, 0, 1, if st.ru.size = 0 then -1 else sp, 0, true⟩
  else ⟨fr, to, wayI x.st x.fo st.po m, reachI x.st x.fo x.wi (sizeI st) st.po m, if st.ru.size = 0 then -1 else sp, 0, false⟩
theorem f17_ok (n : Nat) (p : Nat → Pr) (ns : Nat) (hns : ns ≤ 2000000) (l : Nat → Sp) (hl : Ord l ns) (hl2 : ∀ i, i < ns → 0 ≤ (l i).sc ∧ (l i).sc ≤ 18446744073709551615) (m : Int) (K : Nat) (hK : K ≤ 2000000) (s : Nat → Int) (k : Nat) (hk : k < K) (z : Int) (hz : z = k) (q : Nat) (hq : s k = q) (hqn : q < n) (sp : Int) (x : It) (hx : x = singI (p q) (styS l ns q) (s k) (toI n K s k) m sp) :
    FSpec Try.prog 17 [.agg [.rows 9 n (prc p), .rows 6 ns (spc l), .int .i64 m, .rows 1 K (icol .i64 s)], .int .i64 z, .int .i64 sp] [] (fun r H' => r = .agg [.int .i64 x.fr, .int .i64 x.to, .int .i64 x.wy, .int .i64 x.rc, .int .i64 x.rb, .int .i64 x.en, .bool x.gr] ∧ H' = []) := by
  refine pure_of rfl ?_
  obtain ⟨st, hst⟩ : ∃ st, st = styS l ns q := ⟨_, rfl⟩
  have hsc : 0 ≤ st.sc ∧ st.sc ≤ 18446744073709551615 := by
    rw [hst]
    unfold styS
    split
    · simp [noSp]
    · rename_i j hj
      have : j < ns := by
        have := (show ∀ (m a : Nat), atF l (q : Int) a m = some j → j < a + m from ?_) ns 0 hj
        · omega
        · intro m
          induction m with
          | zero => intro a h; cases h
          | succ m ih =>
            intro a h
            rw [atF] at h
            split at h
            · injection h with h; omega
            · have := ih (a + 1) h; omega
      exact hl2 j this
  rw [← hst] at hx
  have hst2 : st = styS l ns (s k) := by rw [hst, hq]
  clear hst
  obtain ⟨T0, hT0⟩ : ∃ y, y = toI n K s k := ⟨_, rfl⟩
  rw [← hT0] at hx
  obtain ⟨B, hB⟩ : ∃ y, y = colB m := ⟨_, rfl⟩
  obtain ⟨sz, hsz⟩ : ∃ y, y = sizeI st := ⟨_, rfl⟩
  obtain ⟨wy, hwy⟩ : ∃ y, y = wayI (p q).st (p q).fo st.po m := ⟨_, rfl⟩
  obtain ⟨rc, hrc⟩ : ∃ y, y = reachI (p q).st (p q).fo (p q).wi sz st.po m := ⟨_, rfl⟩
  unfold singI at hx
  rw [← hB, ← hsz, ← hwy, ← hrc] at hx
  obtain ⟨c, hc⟩ : ∃ c, c = cellsI st.sc := ⟨_, rfl⟩
  obtain ⟨e, he⟩ : ∃ e, e = errI st.sc := ⟨_, rfl⟩
  unfold sizeI at hsz
  rw [← hc] at hsz
  have hE := sseq_empty st.ru
  refine FSpec.of (fn := Try.f17) Try.func17 rfl rfl (by simp) fun C hC => ?_
  obtain ⟨iadd, isub, imul, iquo, irem, iband, ibor, ibxor, ibandn, ishl, ishr, iconv, ieq, ine, ilt, ile, igt, ige, bbeq, bbne, bnot, bband, sseq, ssne, sscat, sssub, sslen, sssz, ssbyte, toN, ofN, addN, subN, eqN, ltB, leN, imx, imn, inb, leb, sslt, ltN, fit, ne0, ge0, ssfit, minN, inR, bcol, bstr, isBy, hS⟩ := names
  refine V.goF (by first | exact trivial | assumption) Try.func17 tl_ok mixed hS.ops [] 400 ?_
  intro VV VA W hVV hVA hW
  conv => cbv
  have ez : z = ofN k := by (first | rfl | omega | (simp (disch := omega) only [hS.glob, wraps, plain, Int.ofNat_eq_natCast]; first | done | rfl | omega | (simp; done) | (simp; omega)) | (simp (disch := omega) only [hS.glob, wraps, plain, Int.ofNat_eq_natCast, Vx.toN]; omega))
  have es : s k = ofN q := by rw [hq]; (first | rfl | omega | (simp (disch := omega) only [hS.glob, wraps, plain, Int.ofNat_eq_natCast]; first | done | rfl | omega | (simp; done) | (simp; omega)) | (simp (disch := omega) only [hS.glob, wraps, plain, Int.ofNat_eq_natCast, Vx.toN]; omega))
  rw [ez]
  repeat (refine ⟨by first | (rw [hW]; show ordOk _ _ _ = true; kernel_rfl) | (first | trivial | omega | (simp (disch := omega) only [hS.glob, wraps, plain, Int.ofNat_eq_natCast]; first | done | omega | trivial | (simp; done) | (simp; omega) | (constructor <;> omega)) | (simp (disch := omega) only [hS.glob, wraps, plain, Int.ofNat_eq_natCast, Vx.toN]; omega)), ?_⟩)
  simp only [hS.tidy]
  rw [hVV]
  clear hVV hVA VV VA hW W
  refine V.call rfl rfl rfl rfl rfl Try.func35 rfl (by decide) [] (by simp) (by simp) (by (first | rfl | ((conv => cbv); (repeat' apply And.intro) <;> first | rfl | trivial | (first | rfl | omega | (simp (disch := omega) only [hS.glob, wraps, plain, Int.ofNat_eq_natCast]; first | done | rfl | omega | (simp; done) | (simp; omega)) | (simp (disch := omega) only [hS.glob, wraps, plain, Int.ofNat_eq_natCast, Vx.toN]; omega))))) rfl (f35_ok ns hns l hl (s k) st hst2) ?_
  rintro r Hc ⟨rfl, rfl⟩
  rcases hpq : p q with ⟨pcl, pst, pjo, pki, pwi, pfo, pmi, ppa, pop⟩
  rw [hpq] at hwy hrc
  dsimp only at hwy hrc
  rcases hst3 : st with ⟨a1, a2, a3, a4, a5, a6⟩
  rw [hst3] at hsc hx hwy hrc hsz hc he hE
  dsimp only at hsc hx hwy hrc hsz hc he hE
  refine V.goF (by first | exact trivial | assumption) Try.func17 tl_ok mixed hS.ops [(8, .none)] 400 ?_
  intro VV VA W hVV hVA hW
  conv => cbv
  cases h1 : ine a6 0
  case' false =>
    conv => cbv
    simp (disch := first | omega | (simp only [hS.glob, wraps, plain, Int.ofNat_eq_natCast]; omega)) only [hS.glob, wraps, plain, Int.ofNat_eq_natCast] at h1
    rw [if_pos h1] at hsz
  case' true =>
    conv => cbv
    rw [hVV]
    clear hVV hVA VV VA hW W
    refine V.call rfl rfl rfl rfl rfl Try.func36 rfl (by decide) [] (by simp) (by simp) (by (first | rfl | ((conv => cbv); (repeat' apply And.intro) <;> first | rfl | trivial | (first | rfl | omega | (simp (disch := omega) only [hS.glob, wraps, plain, Int.ofNat_eq_natCast]; first | done | rfl | omega | (simp; done) | (simp; omega)) | (simp (disch := omega) only [hS.glob, wraps, plain, Int.ofNat_eq_natCast, Vx.toN]; omega))))) rfl (f36_ok a6 c e hsc hc he) ?_
    rintro r Hc ⟨rfl, rfl⟩
    refine V.goF (by first | exact trivial | assumption) Try.func17 tl_ok mixed hS.ops [(8, .none)] 400 ?_
    intro VV VA W hVV hVA hW
    conv => cbv
    simp (disch := first | omega | (simp only [hS.glob, wraps, plain, Int.ofNat_eq_natCast]; omega)) only [hS.glob, wraps, plain, Int.ofNat_eq_natCast] at h1
    rw [if_neg h1] at hsz
  all_goals
    rw [es]
    repeat (refine ⟨by first | (rw [hW]; show ordOk _ _ _ = true; kernel_rfl) | (first | trivial | omega | (simp (disch := omega) only [hS.glob, wraps, plain, Int.ofNat_eq_natCast]; first | done | omega | trivial | (simp; done) | (simp; omega) | (constructor <;> omega)) | (simp (disch := omega) only [hS.glob, wraps, plain, Int.ofNat_eq_natCast, Vx.toN]; omega)), ?_⟩)
    simp only [hS.tidy, hpq]
    rw [hVV]
    clear hVV hVA VV VA hW W
    subst hsz
    refine V.steady 18 17 (.one 18 .none .done) tl_ok mixed (by kernel_rfl) (by kernel_rfl) ?_
    refine Det.go hS.ops ?_
    intro KD VD hKD hVD
    conv => cbv
    rw [hVD]
    clear hVD hKD VD KD
    refine Det.call rfl rfl rfl rfl rfl rfl Try.func31 rfl (by decide) (by (first | rfl | ((conv => cbv); (repeat' apply And.intro) <;> first | rfl | trivial | (first | rfl | omega | (simp (disch := omega) only [hS.glob, wraps, plain, Int.ofNat_eq_natCast]; first | done | rfl | omega | (simp; done) | (simp; omega)) | (simp (disch := omega) only [hS.glob, wraps, plain, Int.ofNat_eq_natCast, Vx.toN]; omega))))) (.int .i64 T0) (fun _ => rfl) (f31_ok n p ns l m K hK s k hk _ (by simp only [hS.glob, plain]) T0 hT0) ?_
    refine Det.go hS.ops ?_
    intro KD VD hKD hVD
    conv => cbv
    rw [hVD]
    clear hVD hKD VD KD
    refine Det.call rfl rfl rfl rfl rfl rfl Try.func37 rfl (by decide) (by (first | rfl | ((conv => cbv); (repeat' apply And.intro) <;> first | rfl | trivial | (first | rfl | omega | (simp (disch := omega) only [hS.glob, wraps, plain, Int.ofNat_eq_natCast]; first | done | rfl | omega | (simp; done) | (simp; omega)) | (simp (disch := omega) only [hS.glob, wraps, plain, Int.ofNat_eq_natCast, Vx.toN]; omega))))) (.int .i64 wy) (fun _ => rfl) (f37_ok pst pfo pwi _ a3 m wy hwy) ?_
    refine Det.go hS.ops ?_
    intro KD VD hKD hVD
    conv => cbv
    rw [hVD]
    clear hVD hKD VD KD
    refine Det.call rfl rfl rfl rfl rfl rfl Try.func38 rfl (by decide) (by (first | rfl | ((conv => cbv); (repeat' apply And.intro) <;> first | rfl | trivial | (first | rfl | omega | (simp (disch := omega) only [hS.glob, wraps, plain, Int.ofNat_eq_natCast]; first | done | rfl | omega | (simp; done) | (simp; omega)) | (simp (disch := omega) only [hS.glob, wraps, plain, Int.ofNat_eq_natCast, Vx.toN]; omega))))) (.int .i64 rc) (fun _ => rfl) (f38_ok pst pfo pwi _ a3 m rc hrc) ?_
    refine Det.go hS.ops ?_
    intro KD VD hKD hVD
    conv => cbv
    rw [hKD]
    clear hVD hKD VD KD
    refine AnyT.goF (by first | exact trivial | assumption) Try.func17 tl_ok mixed hS.ops [] 400 ?_
    intro VV VA W hVV hVA hW
    conv => cbv
    have h11 : Vx.ssne a5 ⟨#[]⟩ = !(Vx.sseq a5 ⟨#[]⟩) := rfl
    cases h2 : ssne a5 ⟨#[]⟩
    case' false =>
      have h3 : a5.size = 0 := by
        simp only [hS.glob] at h2
        rw [h11] at h2
        exact hE.1 (by simpa using h2)
    case' true =>
      have h3 : a5.size ≠ 0 := fun h4 => by
        simp only [hS.glob] at h2
        rw [h11, hE.2 h4] at h2
        cases h2
    all_goals
      conv => cbv
      cases a4
      case false =>
        conv => cbv
        subst hx
        simp [h3, es]
      conv => cbv
      rw [hVV]
      clear hVV hVA VV VA hW W
      refine V.call rfl rfl rfl rfl rfl Try.func39 rfl (by decide) [] (by simp) (by simp) (by (first | rfl | ((conv => cbv); (repeat' apply And.intro) <;> first | rfl | trivial | (first | rfl | omega | (simp (disch := omega) only [hS.glob, wraps, plain, Int.ofNat_eq_natCast]; first | done | rfl | omega | (simp; done) | (simp; omega)) | (simp (disch := omega) only [hS.glob, wraps, plain, Int.ofNat_eq_natCast, Vx.toN]; omega))))) rfl (f39_ok m B hB) ?_
      rintro r Hc ⟨rfl, rfl⟩
      refine V.goF (by first | exact trivial | assumption) Try.func17 tl_ok mixed hS.ops [] 400 ?_
      intro VV VA W hVV hVA hW
      conv => cbv
      cases B
      case false =>
        conv => cbv
        subst hx
        simp [h3, es]
      conv => cbv
      subst hx
      simp [h3, es]
theorem f18_ok (n : Nat) (hn : n ≤ 2000000) (p : Nat → Pr) (ns : Nat) (l : Nat → Sp) (m : Int) (K : Nat) (hK : K ≤ 2000000) (s : Nat → Int) (hs : ∀ k, k < K → ∃ q : Nat, s k = q ∧ q < n) (a b : Nat) (hab : a < b) (hb : b < K) (na : Nat) (hna : b ≤ na) (al : Nat → Int) (za zb : Int) (hza : za = a) (hzb : zb = b) (R : Int)
    (hR1 : (∃ k, a ≤ k ∧ k < b ∧ (p (s k).toNat).ki = 11) → R = 2) (hR2 : (∀ k, a ≤ k → k < b → (p (s k).toNat).ki ≠ 11) → R = al (b - 1)) :
    FSpec Try.prog 18 [.agg [.rows 9 n (prc p), .rows 6 ns (spc l), .int .i64 m, .rows 1 K (icol .i64 s)], .int .i64 za, .int .i64 zb, .rows 1 na (icol .i64 al)] [] (fun r H' => r = .int .i64 R ∧ H' = []) := by
  refine pure_of rfl ?_
  refine FSpec.of (fn := Try.f18) Try.func18 rfl rfl (by simp) fun C hC => ?_
  obtain ⟨iadd, isub, imul, iquo, irem, iband, ibor, ibxor, ibandn, ishl, ishr, iconv, ieq, ine, ilt, ile, igt, ige, bbeq, bbne, bnot, bband, sseq, ssne, sscat, sssub, sslen, sssz, ssbyte, toN, ofN, addN, subN, eqN, ltB, leN, imx, imn, inb, leb, sslt, ltN, fit, ne0, ge0, ssfit, minN, inR, bcol, bstr, isBy, hS⟩ := names
  refine V.goF (by first | exact trivial | assumption) Try.func18 tl_ok mixed hS.ops [] 400 ?_
  intro VV VA W hVV hVA hW
  conv => cbv
  rw [hVV]
  clear hVV hVA VV VA hW W
  refine V.freezePtr 4 rfl rfl rfl ?_
  refine V.to (s' := [(9, .int .i64 (ofN a)), (4, .ref [.rows 9 n (prc p), .rows 6 ns (spc l), .int .i64 m, .rows 1 K (icol .i64 s)]), (3, .rows 1 na (icol .i64 al)), (2, .int .i64 (ofN b))]) (H' := []) ?_ (by
    refine ⟨sti ?_, rfl, rfl, sti ?_, trivial⟩
    · rw [hza]; (first | rfl | omega | (simp (disch := omega) only [hS.glob, wraps, plain, Int.ofNat_eq_natCast]; first | done | rfl | omega | (simp; done) | (simp; omega)) | (simp (disch := omega) only [hS.glob, wraps, plain, Int.ofNat_eq_natCast, Vx.toN]; omega))
    · rw [hzb]; (first | rfl | omega | (simp (disch := omega) only [hS.glob, wraps, plain, Int.ofNat_eq_natCast]; first | done | rfl | omega | (simp; done) | (simp; omega)) | (simp (disch := omega) only [hS.glob, wraps, plain, Int.ofNat_eq_natCast, Vx.toN]; omega))) rfl trivial (by rw [hC]; simp)
  refine V.loop (γ := Nat) (fun i => a ≤ i ∧ i ≤ b ∧ ∀ k, a ≤ k → k < i → (p (s k).toNat).ki ≠ 11) (fun i => [(9, .int .i64 (ofN i)), (4, .ref [.rows 9 n (prc p), .rows 6 ns (spc l), .int .i64 m, .rows 1 K (icol .i64 s)]), (3, .rows 1 na (icol .i64 al)), (2, .int .i64 (ofN b))]) (fun _ => []) (fun i => b - i) ?_ a ⟨Nat.le_refl _, by omega, fun k h1 h2 => by omega⟩
  rintro i ⟨hi, hib, hu⟩ hback
  refine V.goF (by first | exact trivial | assumption) Try.func18 tl_ok mixed hS.ops [] 400 ?_
  intro VV VA W hVV hVA hW
  conv => cbv
  cases h1 : ilt (ofN i) (ofN b)
  · conv => cbv
    simp (disch := first | omega | (simp only [hS.glob, wraps, plain, Int.ofNat_eq_natCast]; omega)) only [hS.glob, wraps, plain, Int.ofNat_eq_natCast] at h1
    obtain rfl : i = b := by omega
    have e1 : isub .i64 (ofN i) 1 = ofN (i - 1) := by (first | rfl | omega | (simp (disch := omega) only [hS.glob, wraps, plain, Int.ofNat_eq_natCast]; first | done | rfl | omega | (simp; done) | (simp; omega)) | (simp (disch := omega) only [hS.glob, wraps, plain, Int.ofNat_eq_natCast, Vx.toN]; omega))
    simp only [e1]
    repeat (refine ⟨by first | (rw [hW]; show ordOk _ _ _ = true; kernel_rfl) | (first | trivial | omega | (simp (disch := omega) only [hS.glob, wraps, plain, Int.ofNat_eq_natCast]; first | done | omega | trivial | (simp; done) | (simp; omega) | (constructor <;> omega)) | (simp (disch := omega) only [hS.glob, wraps, plain, Int.ofNat_eq_natCast, Vx.toN]; omega)), ?_⟩)
    simp only [hS.tidy]
    rw [hR2 hu]
  · conv => cbv
    simp (disch := first | omega | (simp only [hS.glob, wraps, plain, Int.ofNat_eq_natCast]; omega)) only [hS.glob, wraps, plain, Int.ofNat_eq_natCast] at h1
    obtain ⟨q, hq, hqn⟩ := hs i (by omega)
    have eq : (s i).toNat = q := by omega
    rw [hVV]
    clear hVV hVA VV VA hW W
    refine V.call rfl rfl rfl rfl rfl Try.func14 rfl (by decide) [] (by simp) (by simp) (by (first | rfl | ((conv => cbv); (repeat' apply And.intro) <;> first | rfl | trivial | (first | rfl | omega | (simp (disch := omega) only [hS.glob, wraps, plain, Int.ofNat_eq_natCast]; first | done | rfl | omega | (simp; done) | (simp; omega)) | (simp (disch := omega) only [hS.glob, wraps, plain, Int.ofNat_eq_natCast, Vx.toN]; omega))))) rfl (f14_ok n p ns l m K s i (by omega) _ (by simp only [hS.glob, plain]) q hq hqn) ?_
    rintro r Hc ⟨rfl, rfl⟩
    refine V.goF (by first | exact trivial | assumption) Try.func18 tl_ok mixed hS.ops [] 400 ?_
    intro VV VA W hVV hVA hW
    conv => cbv
    cases h2 : ieq (p q).ki 11
    · conv => cbv
      simp (disch := first | omega | (simp only [hS.glob, wraps, plain, Int.ofNat_eq_natCast]; omega)) only [hS.glob, wraps, plain, Int.ofNat_eq_natCast] at h2
      rw [hVV]
      clear hVV hVA VV VA hW W
      exact V.to (hback (i + 1) ⟨by omega, by omega, fun k h3 h4 => by
        rcases Nat.lt_or_ge k i with h | h
        · exact hu k h3 h
        · obtain rfl : k = i := by omega
          rw [eq]; exact h2⟩ (by omega)) (by (repeat' first | exact trivial | rfl | (refine And.intro ?_ ?_) | (refine sti ?_; (first | rfl | omega | (simp (disch := omega) only [hS.glob, wraps, plain, Int.ofNat_eq_natCast]; first | done | rfl | omega | (simp; done) | (simp; omega)) | (simp (disch := omega) only [hS.glob, wraps, plain, Int.ofNat_eq_natCast, Vx.toN]; omega))) | (refine slq ?_ ?_ ?_ <;> (first | rfl | omega | (simp (disch := omega) only [hS.glob, wraps, plain, Int.ofNat_eq_natCast]; first | done | rfl | omega | (simp; done) | (simp; omega)) | (simp (disch := omega) only [hS.glob, wraps, plain, Int.ofNat_eq_natCast, Vx.toN]; omega))) | (refine ptq ?_ ?_ ?_ <;> (first | rfl | omega | (simp (disch := omega) only [hS.glob, wraps, plain, Int.ofNat_eq_natCast]; first | done | rfl | omega | (simp; done) | (simp; omega)) | (simp (disch := omega) only [hS.glob, wraps, plain, Int.ofNat_eq_natCast, Vx.toN]; omega))) | (refine blq ?_; (first | rfl | omega | (simp (disch := omega) only [hS.glob, wraps, plain, Int.ofNat_eq_natCast]; first | done | rfl | omega | (simp; done) | (simp; omega)) | (simp (disch := omega) only [hS.glob, wraps, plain, Int.ofNat_eq_natCast, Vx.toN]; omega))))) rfl trivial (by rw [hC]; simp)
    · conv => cbv
      simp (disch := first | omega | (simp only [hS.glob, wraps, plain, Int.ofNat_eq_natCast]; omega)) only [hS.glob, wraps, plain, Int.ofNat_eq_natCast] at h2
      rw [hR1 ⟨i, hi, by omega, by rw [eq]; exact h2⟩]
end Go.Proofs.Ytngagepodbcohaa
