/- Contracts of functions by an evaluator of the model: its part T9. -/
import Derived.Test.YtngagepodbcohaaT8
import Derived.Test.YtngagepodbcohaaV4
set_option linter.all false
/- The document's clusters: small functions. -/
namespace Go.Proofs.Ytngagepodbcohaa
open Go Vx
set_option maxRecDepth 100000
theorem f10_ok (c : Int) (R : Bool) (hR : R = remB c) : FSpec Try.prog 10 [.int .i64 c] [] (fun r H' => r = .bool R ∧ H' = []) := by
  refine pure_of rfl ?_
  unfold remB at hR
  refine FSpec.of (fn := Try.f10) Try.func10 rfl rfl (by simp) fun C hC => ?_
  obtain ⟨iadd, isub, imul, iquo, irem, iband, ibor, ibxor, ibandn, ishl, ishr, iconv, ieq, ine, ilt, ile, igt, ige, bbeq, bbne, bnot, bband, sseq, ssne, sscat, sssub, sslen, sssz, ssbyte, toN, ofN, addN, subN, eqN, ltB, leN, imx, imn, inb, leb, sslt, ltN, fit, ne0, ge0, ssfit, minN, inR, bcol, bstr, isBy, hS⟩ := names
  refine V.goF (by first | exact trivial | assumption) Try.func10 tl_ok mixed hS.ops [] 400 ?_
  intro VV VA W hVV hVA hW
  conv => cbv
  (cases e1 : ieq c 14 <;> (conv => cbv))
  all_goals first | (with_reducible refine congrArg AV.bool ?_; clear hVV hVA VV VA hW W; simp only [hS.glob, plain] at *; subst hR; first | (simp [*, Vx.bnot]; done) | omega | (split <;> simp [*]; done)) | (cases e2 : ieq c 16 <;> (conv => cbv) <;> (repeat (simp only [e1, e2]; (conv => cbv))))
  all_goals first | (with_reducible refine congrArg AV.bool ?_; clear hVV hVA VV VA hW W; simp only [hS.glob, plain] at *; subst hR; first | (simp [*, Vx.bnot]; done) | omega | (split <;> simp [*]; done)) | (cases e3 : ieq c 15 <;> (conv => cbv) <;> (repeat (simp only [e1, e2, e3]; (conv => cbv))))
  all_goals first | (with_reducible refine congrArg AV.bool ?_; clear hVV hVA VV VA hW W; simp only [hS.glob, plain] at *; subst hR; first | (simp [*, Vx.bnot]; done) | omega | (split <;> simp [*]; done)) | (cases e4 : ieq c 17 <;> (conv => cbv) <;> (repeat (simp only [e1, e2, e3, e4]; (conv => cbv))))
  all_goals first | (with_reducible refine congrArg AV.bool ?_; clear hVV hVA VV VA hW W; simp only [hS.glob, plain] at *; subst hR; first | (simp [*, Vx.bnot]; done) | omega | (split <;> simp [*]; done)) | (cases e5 : ieq c 18 <;> (conv => cbv) <;> (repeat (simp only [e1, e2, e3, e4, e5]; (conv => cbv))))
  all_goals first | (with_reducible refine congrArg AV.bool ?_; clear hVV hVA VV VA hW W; simp only [hS.glob, plain] at *; subst hR; first | (simp [*, Vx.bnot]; done) | omega | (split <;> simp [*]; done)) | (cases e6 : ieq c 9 <;> (conv => cbv) <;> (repeat (simp only [e1, e2, e3, e4, e5, e6]; (conv => cbv))))
  all_goals (with_reducible refine congrArg AV.bool ?_; clear hVV hVA VV VA hW W; simp only [hS.glob, plain] at *; subst hR; first | (simp [*, Vx.bnot]; done) | omega | (split <;> simp [*]; done))
theorem f67_ok (j : Int) (R : Bool) (hR : R = endsB j) : FSpec Try.prog 67 [.int .i64 j] [] (fun r H' => r = .bool R ∧ H' = []) := by
  refine pure_of rfl ?_
  unfold endsB at hR
  refine FSpec.of (fn := Try.f67) Try.func67 rfl rfl (by simp) fun C hC => ?_
  obtain ⟨iadd, isub, imul, iquo, irem, iband, ibor, ibxor, ibandn, ishl, ishr, iconv, ieq, ine, ilt, ile, igt, ige, bbeq, bbne, bnot, bband, sseq, ssne, sscat, sssub, sslen, sssz, ssbyte, toN, ofN, addN, subN, eqN, ltB, leN, imx, imn, inb, leb, sslt, ltN, fit, ne0, ge0, ssfit, minN, inR, bcol, bstr, isBy, hS⟩ := names
  refine V.goF (by first | exact trivial | assumption) Try.func67 tl_ok mixed hS.ops [] 400 ?_
  intro VV VA W hVV hVA hW
  conv => cbv
  (cases e1 : ieq j 1 <;> (conv => cbv))
  all_goals first | (with_reducible refine congrArg AV.bool ?_; clear hVV hVA VV VA hW W; simp only [hS.glob, plain] at *; subst hR; first | (simp [*, Vx.bnot]; done) | omega | (split <;> simp [*]; done)) | (cases e2 : ieq j 2 <;> (conv => cbv) <;> (repeat (simp only [e1, e2]; (conv => cbv))))
  all_goals first | (with_reducible refine congrArg AV.bool ?_; clear hVV hVA VV VA hW W; simp only [hS.glob, plain] at *; subst hR; first | (simp [*, Vx.bnot]; done) | omega | (split <;> simp [*]; done)) | (cases e3 : ieq j 3 <;> (conv => cbv) <;> (repeat (simp only [e1, e2, e3]; (conv => cbv))))
  all_goals (with_reducible refine congrArg AV.bool ?_; clear hVV hVA VV VA hW W; simp only [hS.glob, plain] at *; subst hR; first | (simp [*, Vx.bnot]; done) | omega | (split <;> simp [*]; done))
theorem f79_ok (n : Nat) (hn : n ≤ 2000000) (l : Nat → Int) (j : Int) (R : Bool) (hR : R = true ↔ ∃ i, i < n ∧ l i = j) : FSpec Try.prog 79 [.int .i64 j, .rows 1 n (icol .i64 l)] [] (fun r H' => r = .bool R ∧ H' = []) := by
  refine pure_of rfl ?_
  refine FSpec.of (fn := Try.f79) Try.func79 rfl rfl (by simp) fun C hC => ?_
  obtain ⟨iadd, isub, imul, iquo, irem, iband, ibor, ibxor, ibandn, ishl, ishr, iconv, ieq, ine, ilt, ile, igt, ige, bbeq, bbne, bnot, bband, sseq, ssne, sscat, sssub, sslen, sssz, ssbyte, toN, ofN, addN, subN, eqN, ltB, leN, imx, imn, inb, leb, sslt, ltN, fit, ne0, ge0, ssfit, minN, inR, bcol, bstr, isBy, hS⟩ := names
  refine V.goF (by first | exact trivial | assumption) Try.func79 tl_ok mixed hS.ops [] 400 ?_
  intro VV VA W hVV hVA hW
  conv => cbv
  rw [hVV]
  clear hVV hVA VV VA hW W
  refine V.to (s' := [(5, .int .i64 (ofN 0)), (1, .rows 1 n (icol .i64 l)), (0, .int .i64 j)]) (H' := []) ?_ (by (repeat' first | exact trivial | rfl | (refine And.intro ?_ ?_) | (refine sti ?_; (first | rfl | omega | (simp (disch := omega) only [hS.glob, wraps, plain, Int.ofNat_eq_natCast]; first | done | rfl | omega | (simp; done) | (simp; omega)) | (simp (disch := omega) only [hS.glob, wraps, plain, Int.ofNat_eq_natCast, Vx.toN]; omega))) | (refine slq ?_ ?_ ?_ <;> (first | rfl | omega | (simp (disch := omega) only [hS.glob, wraps, plain, Int.ofNat_eq_natCast]; first | done | rfl | omega | (simp; done) | (simp; omega)) | (simp (disch := omega) only [hS.glob, wraps, plain, Int.ofNat_eq_natCast, Vx.toN]; omega))) | (refine ptq ?_ ?_ ?_ <;> (first | rfl | omega | (simp (disch := omega) only [hS.glob, wraps, plain, Int.ofNat_eq_natCast]; first | done | rfl | omega | (simp; done) | (simp; omega)) | (simp (disch := omega) only [hS.glob, wraps, plain, Int.ofNat_eq_natCast, Vx.toN]; omega))) | (refine blq ?_; (first | rfl | omega | (simp (disch := omega) only [hS.glob, wraps, plain, Int.ofNat_eq_natCast]; first | done | rfl | omega | (simp; done) | (simp; omega)) | (simp (disch := omega) only [hS.glob, wraps, plain, Int.ofNat_eq_natCast, Vx.toN]; omega))))) rfl trivial (by rw [hC]; simp)
  refine V.loop (γ := Nat) (fun i => i ≤ n ∧ ∀ k, k < i → l k ≠ j) (fun i => [(5, .int .i64 (ofN i)), (1, .rows 1 n (icol .i64 l)), (0, .int .i64 j)]) (fun _ => []) (fun i => n - i) ?_ 0 ⟨Nat.zero_le _, fun k hk => absurd hk (Nat.not_lt_zero _)⟩
  rintro i ⟨hi, hu⟩ hback
  refine V.goF (by first | exact trivial | assumption) Try.func79 tl_ok mixed hS.ops [] 400 ?_
  intro VV VA W hVV hVA hW
  conv => cbv
  cases h1 : ilt (ofN i) (ofN n)
  · conv => cbv
    simp (disch := first | omega | (simp only [hS.glob, wraps, plain, Int.ofNat_eq_natCast]; omega)) only [hS.glob, wraps, plain, Int.ofNat_eq_natCast] at h1
    cases R
    · rfl
    · obtain ⟨k, h2, h3⟩ := hR.1 rfl
      exact absurd h3 (hu k (by omega))
  · conv => cbv
    simp (disch := first | omega | (simp only [hS.glob, wraps, plain, Int.ofNat_eq_natCast]; omega)) only [hS.glob, wraps, plain, Int.ofNat_eq_natCast] at h1
    repeat (refine ⟨by first | (rw [hW]; show ordOk _ _ _ = true; kernel_rfl) | (first | trivial | omega | (simp (disch := omega) only [hS.glob, wraps, plain, Int.ofNat_eq_natCast]; first | done | omega | trivial | (simp; done) | (simp; omega) | (constructor <;> omega)) | (simp (disch := omega) only [hS.glob, wraps, plain, Int.ofNat_eq_natCast, Vx.toN]; omega)), ?_⟩)
    simp only [hS.tidy]
    cases h2 : ieq (l i) j
    · conv => cbv
      simp (disch := first | omega | (simp only [hS.glob, wraps, plain, Int.ofNat_eq_natCast]; omega)) only [hS.glob, wraps, plain, Int.ofNat_eq_natCast] at h2
      rw [hVV]
      clear hVV hVA VV VA hW W
      exact V.to (hback (i + 1) ⟨by omega, fun k hk => by
        rcases Nat.lt_or_ge k i with h | h
        · exact hu k h
        · obtain rfl : k = i := by omega
          exact h2⟩ (by omega)) (by (repeat' first | exact trivial | rfl | (refine And.intro ?_ ?_) | (refine sti ?_; (first | rfl | omega | (simp (disch := omega) only [hS.glob, wraps, plain, Int.ofNat_eq_natCast]; first | done | rfl | omega | (simp; done) | (simp; omega)) | (simp (disch := omega) only [hS.glob, wraps, plain, Int.ofNat_eq_natCast, Vx.toN]; omega))) | (refine slq ?_ ?_ ?_ <;> (first | rfl | omega | (simp (disch := omega) only [hS.glob, wraps, plain, Int.ofNat_eq_natCast]; first | done | rfl | omega | (simp; done) | (simp; omega)) | (simp (disch := omega) only [hS.glob, wraps, plain, Int.ofNat_eq_natCast, Vx.toN]; omega))) | (refine ptq ?_ ?_ ?_ <;> (first | rfl | omega | (simp (disch := omega) only [hS.glob, wraps, plain, Int.ofNat_eq_natCast]; first | done | rfl | omega | (simp; done) | (simp; omega)) | (simp (disch := omega) only [hS.glob, wraps, plain, Int.ofNat_eq_natCast, Vx.toN]; omega))) | (refine blq ?_; (first | rfl | omega | (simp (disch := omega) only [hS.glob, wraps, plain, Int.ofNat_eq_natCast]; first | done | rfl | omega | (simp; done) | (simp; omega)) | (simp (disch := omega) only [hS.glob, wraps, plain, Int.ofNat_eq_natCast, Vx.toN]; omega))))) rfl trivial (by rw [hC]; simp)
    · conv => cbv
      simp (disch := first | omega | (simp only [hS.glob, wraps, plain, Int.ofNat_eq_natCast]; omega)) only [hS.glob, wraps, plain, Int.ofNat_eq_natCast] at h2
      rw [hR.2 ⟨i, by omega, h2⟩]
def HL (i : Nat) : Int := [9, 10, 12, 13].getD i 0
theorem f68_ok (a b : Int) (R : Bool) (hR : R = sylB a b) : FSpec Try.prog 68 [.int .i64 a, .int .i64 b] [] (fun r H' => r = .bool R ∧ H' = []) := by
  refine pure_of rfl ?_
  obtain ⟨B, hB⟩ := bool_of (∃ i, i < 4 ∧ HL i = b)
  have hB2 : B = (decide (b = 9) || decide (b = 10) || decide (b = 12) || decide (b = 13)) := by
    refine Bool.eq_iff_iff.2 ?_
    rw [hB]
    simp only [Bool.or_eq_true, decide_eq_true_eq]
    constructor
    · rintro ⟨i, h1, h2⟩
      rcases (by omega : i = 0 ∨ i = 1 ∨ i = 2 ∨ i = 3) with rfl | rfl | rfl | rfl <;> simp [HL] at h2 <;> omega
    · rintro (((h | h) | h) | h)
      · exact ⟨0, by omega, h.symm⟩
      · exact ⟨1, by omega, h.symm⟩
      · exact ⟨2, by omega, h.symm⟩
      · exact ⟨3, by omega, h.symm⟩
  have h79 := f79_ok 4 (by decide) HL b B hB
  obtain ⟨G, hG⟩ : ∃ G, G = icol .i64 HL := ⟨_, rfl⟩
  rw [← hG] at h79
  unfold sylB at hR
  rw [← hB2] at hR
  clear hB2 hB
  refine FSpec.of (fn := Try.f68) Try.func68 rfl rfl (by simp) fun C hC => ?_
  obtain ⟨iadd, isub, imul, iquo, irem, iband, ibor, ibxor, ibandn, ishl, ishr, iconv, ieq, ine, ilt, ile, igt, ige, bbeq, bbne, bnot, bband, sseq, ssne, sscat, sssub, sslen, sssz, ssbyte, toN, ofN, addN, subN, eqN, ltB, leN, imx, imn, inb, leb, sslt, ltN, fit, ne0, ge0, ssfit, minN, inR, bcol, bstr, isBy, hS⟩ := names
  refine V.goF (by first | exact trivial | assumption) Try.func68 tl_ok mixed hS.ops [] 400 ?_
  intro VV VA W hVV hVA hW
  conv => cbv
  cases h1 : ieq a 9
  case' true =>
    conv => cbv
    rw [hVV]
    clear hVV hVA VV VA hW W
    refine V.freeze0 12 0 4 (by rfl) (by rfl) (by rfl) (by first | decide | omega | exact (Nat.succ_pos _)) (by rfl) (by rfl) (by first | exact Nat.le_refl _ | decide | omega | (simp only [Cont.n]; omega)) ?_
    refine V.sub 12 (y := .rows 1 4 G) (Sub.rows fun i hi => ?_) ?_
    · rw [hG]
      rcases (by omega : i = 0 ∨ i = 1 ∨ i = 2 ∨ i = 3) with rfl | rfl | rfl | rfl <;> exact Subs.refl _
    refine V.call rfl rfl rfl rfl rfl Try.func79 rfl (by decide) [] (by simp) (by simp) (by (first | rfl | ((conv => cbv); (repeat' apply And.intro) <;> first | rfl | trivial | (first | rfl | omega | (simp (disch := omega) only [hS.glob, wraps, plain, Int.ofNat_eq_natCast]; first | done | rfl | omega | (simp; done) | (simp; omega)) | (simp (disch := omega) only [hS.glob, wraps, plain, Int.ofNat_eq_natCast, Vx.toN]; omega))))) rfl h79 ?_
    rintro r Hc ⟨rfl, rfl⟩
    refine V.goF (by first | exact trivial | assumption) Try.func68 tl_ok mixed hS.ops [] 400 ?_
    intro VV VA W hVV hVA hW
    conv => cbv
    simp (disch := first | omega | (simp only [hS.glob, wraps, plain, Int.ofNat_eq_natCast]; omega)) only [hS.glob, wraps, plain, Int.ofNat_eq_natCast] at h1
    rw [if_pos h1] at hR
    subst h1
    have z1 : ieq 9 12 = false := by (first | rfl | omega | (simp (disch := omega) only [hS.glob, wraps, plain, Int.ofNat_eq_natCast]; first | done | rfl | omega | (simp; done) | (simp; omega)) | (simp (disch := omega) only [hS.glob, wraps, plain, Int.ofNat_eq_natCast, Vx.toN]; omega))
    have z2 : ieq 9 10 = false := by (first | rfl | omega | (simp (disch := omega) only [hS.glob, wraps, plain, Int.ofNat_eq_natCast]; first | done | rfl | omega | (simp; done) | (simp; omega)) | (simp (disch := omega) only [hS.glob, wraps, plain, Int.ofNat_eq_natCast, Vx.toN]; omega))
    have z3 : ieq 9 13 = false := by (first | rfl | omega | (simp (disch := omega) only [hS.glob, wraps, plain, Int.ofNat_eq_natCast]; first | done | rfl | omega | (simp; done) | (simp; omega)) | (simp (disch := omega) only [hS.glob, wraps, plain, Int.ofNat_eq_natCast, Vx.toN]; omega))
    have z4 : ieq 9 11 = false := by (first | rfl | omega | (simp (disch := omega) only [hS.glob, wraps, plain, Int.ofNat_eq_natCast]; first | done | rfl | omega | (simp; done) | (simp; omega)) | (simp (disch := omega) only [hS.glob, wraps, plain, Int.ofNat_eq_natCast, Vx.toN]; omega))
    subst hR
    repeat (simp only [z1, z2, z3, z4]; try (conv => cbv))
    cases R
    · conv => cbv
      trivial
    · conv => cbv
      trivial
  conv => cbv
  simp (disch := first | omega | (simp only [hS.glob, wraps, plain, Int.ofNat_eq_natCast]; omega)) only [hS.glob, wraps, plain, Int.ofNat_eq_natCast] at h1
  rw [if_neg h1] at hR
  (cases e1 : ieq a 12 <;> (conv => cbv))
  all_goals first | (with_reducible refine congrArg AV.bool ?_; clear hVV hVA VV VA hW W; simp only [hS.glob, plain] at *; subst hR; first | (simp [*, Vx.bnot]; done) | omega | (split <;> simp [*]; done)) | (cases e2 : ieq a 10 <;> (conv => cbv) <;> (repeat (simp only [e1, e2]; (conv => cbv))))
  all_goals first | (with_reducible refine congrArg AV.bool ?_; clear hVV hVA VV VA hW W; simp only [hS.glob, plain] at *; subst hR; first | (simp [*, Vx.bnot]; done) | omega | (split <;> simp [*]; done)) | (cases e3 : ieq a 13 <;> (conv => cbv) <;> (repeat (simp only [e1, e2, e3]; (conv => cbv))))
  all_goals first | (with_reducible refine congrArg AV.bool ?_; clear hVV hVA VV VA hW W; simp only [hS.glob, plain] at *; subst hR; first | (simp [*, Vx.bnot]; done) | omega | (split <;> simp [*]; done)) | (cases e4 : ieq a 11 <;> (conv => cbv) <;> (repeat (simp only [e1, e2, e3, e4]; (conv => cbv))))
  all_goals first | (with_reducible refine congrArg AV.bool ?_; clear hVV hVA VV VA hW W; simp only [hS.glob, plain] at *; subst hR; first | (simp [*, Vx.bnot]; done) | omega | (split <;> simp [*]; done)) | (cases e5 : ieq b 10 <;> (conv => cbv) <;> (repeat (simp only [e1, e2, e3, e4, e5]; (conv => cbv))))
  all_goals first | (with_reducible refine congrArg AV.bool ?_; clear hVV hVA VV VA hW W; simp only [hS.glob, plain] at *; subst hR; first | (simp [*, Vx.bnot]; done) | omega | (split <;> simp [*]; done)) | (cases e6 : ieq b 11 <;> (conv => cbv) <;> (repeat (simp only [e1, e2, e3, e4, e5, e6]; (conv => cbv))))
  all_goals (with_reducible refine congrArg AV.bool ?_; clear hVV hVA VV VA hW W; simp only [hS.glob, plain] at *; subst hR; first | (simp [*, Vx.bnot]; done) | omega | (split <;> simp [*]; done))
end Go.Proofs.Ytngagepodbcohaa

/- The document's clusters. -/
namespace Go.Proofs.Ytngagepodbcohaa
open Go Vx
set_option maxRecDepth 100000
/-- Behind what stands ahead of the Extends. -/
def dn (l : Nat → Int) : Nat → Nat
  | 0 => 0
  | k + 1 => if l k = 4 then dn l k else k + 1
/-- How many Regionals stand last. -/
def trg (l : Nat → Int) : Nat → Nat
  | 0 => 0
  | k + 1 => if l k = 6 then trg l k + 1 else 0
theorem dn_le (l : Nat → Int) : ∀ k, dn l k ≤ k
  | 0 => Nat.le_refl _
  | k + 1 => by
    unfold dn
    split
    · have := dn_le l k; omega
    · exact Nat.le_refl _
theorem trg_le (l : Nat → Int) : ∀ k, trg l k ≤ k
  | 0 => Nat.le_refl _
  | k + 1 => by
    unfold trg
    split
    · have := trg_le l k; omega
    · omega
def picR (l : Nat → Int) (at_ : Nat) : Prop := l at_ = 5 ∧ 0 < dn l at_ ∧ l (dn l at_ - 1) = 14
theorem f69_ok (n : Nat) (hn : n ≤ 2000000) (l : Nat → Int) (a : Nat) (ha : a < n) (z : Int) (hz : z = a) (R : Bool) (hR : R = true ↔ picR l a) : FSpec Try.prog 69 [.rows 1 n (icol .i64 l), .int .i64 z] [] (fun r H' => r = .bool R ∧ H' = []) := by
  refine pure_of rfl ?_
  unfold picR at hR
  obtain ⟨zf, hzf⟩ : ∃ zf : Nat → Int, ∀ n : Nat, zf n = (n : Int) - 1 := ⟨_, fun _ => rfl⟩
  have hd : ∀ k, dn l (k + 1) = if l k = 4 then dn l k else k + 1 := fun _ => rfl
  have hd0 : dn l 0 = 0 := rfl
  have hdl := dn_le l a
  generalize dn l = D at hR hd hd0 hdl
  refine FSpec.of (fn := Try.f69) Try.func69 rfl rfl (by simp) fun C hC => ?_
  obtain ⟨iadd, isub, imul, iquo, irem, iband, ibor, ibxor, ibandn, ishl, ishr, iconv, ieq, ine, ilt, ile, igt, ige, bbeq, bbne, bnot, bband, sseq, ssne, sscat, sssub, sslen, sssz, ssbyte, toN, ofN, addN, subN, eqN, ltB, leN, imx, imn, inb, leb, sslt, ltN, fit, ne0, ge0, ssfit, minN, inR, bcol, bstr, isBy, hS⟩ := names
  refine V.goF (by first | exact trivial | assumption) Try.func69 tl_ok mixed hS.ops [] 400 ?_
  intro VV VA W hVV hVA hW
  conv => cbv
  rw [hVV]
  clear hVV hVA VV VA hW W
  refine V.to (s' := [(5, .int .i64 (zf a)), (1, .int .i64 z), (0, .rows 1 n (icol .i64 l))]) (H' := []) ?_ (by
    refine ⟨sti ?_, rfl, rfl, trivial⟩
    rw [hz, hzf]; (first | rfl | omega | (simp (disch := omega) only [hS.glob, wraps, plain, Int.ofNat_eq_natCast]; first | done | rfl | omega | (simp; done) | (simp; omega)) | (simp (disch := omega) only [hS.glob, wraps, plain, Int.ofNat_eq_natCast, Vx.toN]; omega))) rfl trivial (by rw [hC]; simp)
  apply cut
  · intro next
    refine V.loop (γ := Nat) (fun k => k ≤ a ∧ D k = D a) (fun k => [(5, .int .i64 (zf k)), (1, .int .i64 z), (0, .rows 1 n (icol .i64 l))]) (fun _ => []) (fun k => k) ?_ a ⟨Nat.le_refl _, rfl⟩
    rintro k ⟨hk, hD⟩ hback
    refine V.goF (by first | exact trivial | assumption) Try.func69 tl_ok mixed hS.ops [] 13 ?_
    intro VV VA W hVV hVA hW
    conv => cbv
    have last : D k = k → zf k = zf (D a) := fun h => by rw [← hD, h]
    rcases Nat.eq_zero_or_pos k with h0 | h0
    · subst h0
      have e1 : ige (zf 0) 0 = false := by simp only [hS.glob, plain]; rw [hzf]; omega
      simp only [e1]
      conv => cbv
      rw [hVV]
      clear hVV hVA VV VA hW W
      refine V.goF (by first | exact trivial | assumption) Try.func69 tl_ok mixed hS.ops [] 2 ?_
      intro VV VA W hVV hVA hW
      conv => cbv
      rw [hVV]
      clear hVV hVA VV VA hW W
      exact V.to (s' := [(5, .int .i64 (zf (D a))), (1, .int .i64 z), (0, .rows 1 n (icol .i64 l))]) (H' := []) next.get (by
        refine ⟨sti (last hd0), rfl, rfl, trivial⟩) rfl trivial (by rw [hC]; simp)
    · obtain ⟨q, hq⟩ : ∃ q, k = q + 1 := ⟨k - 1, by omega⟩
      have e0 : zf k = ofN q := by rw [hzf, hq]; (first | rfl | omega | (simp (disch := omega) only [hS.glob, wraps, plain, Int.ofNat_eq_natCast]; first | done | rfl | omega | (simp; done) | (simp; omega)) | (simp (disch := omega) only [hS.glob, wraps, plain, Int.ofNat_eq_natCast, Vx.toN]; omega))
      have e1 : ige (ofN q) 0 = true := by simp only [hS.glob, plain]; omega
      rw [e0]
      simp only [e1]
      conv => cbv
      repeat (refine ⟨by first | (rw [hW]; show ordOk _ _ _ = true; kernel_rfl) | (first | trivial | omega | (simp (disch := omega) only [hS.glob, wraps, plain, Int.ofNat_eq_natCast]; first | done | omega | trivial | (simp; done) | (simp; omega) | (constructor <;> omega)) | (simp (disch := omega) only [hS.glob, wraps, plain, Int.ofNat_eq_natCast, Vx.toN]; omega)), ?_⟩)
      simp only [hS.tidy]
      have hdk := hd q
      rw [← hq] at hdk
      cases h1 : ieq (l q) 4
      · conv => cbv
        simp (disch := first | omega | (simp only [hS.glob, wraps, plain, Int.ofNat_eq_natCast]; omega)) only [hS.glob, wraps, plain, Int.ofNat_eq_natCast] at h1
        rw [if_neg h1] at hdk
        rw [hVV]
        clear hVV hVA VV VA hW W
        refine V.goF (by first | exact trivial | assumption) Try.func69 tl_ok mixed hS.ops [] 2 ?_
        intro VV VA W hVV hVA hW
        conv => cbv
        rw [hVV]
        clear hVV hVA VV VA hW W
        exact V.to (s' := [(5, .int .i64 (zf (D a))), (1, .int .i64 z), (0, .rows 1 n (icol .i64 l))]) (H' := []) next.get (by
          refine ⟨sti (e0.symm.trans (last hdk)), rfl, rfl, trivial⟩) rfl trivial (by rw [hC]; simp)
      · conv => cbv
        simp (disch := first | omega | (simp only [hS.glob, wraps, plain, Int.ofNat_eq_natCast]; omega)) only [hS.glob, wraps, plain, Int.ofNat_eq_natCast] at h1
        rw [if_pos h1] at hdk
        rw [hVV]
        clear hVV hVA VV VA hW W
        refine V.goF (by first | exact trivial | assumption) Try.func69 tl_ok mixed hS.ops [] 400 ?_
        intro VV VA W hVV hVA hW
        conv => cbv
        rw [hVV]
        clear hVV hVA VV VA hW W
        exact V.to (hback q ⟨by omega, by rw [← hdk]; exact hD⟩ (by omega)) (by
          refine ⟨sti ?_, rfl, rfl, trivial⟩
          rw [hzf]; (first | rfl | omega | (simp (disch := omega) only [hS.glob, wraps, plain, Int.ofNat_eq_natCast]; first | done | rfl | omega | (simp; done) | (simp; omega)) | (simp (disch := omega) only [hS.glob, wraps, plain, Int.ofNat_eq_natCast, Vx.toN]; omega))) rfl trivial (by rw [hC]; simp)
  have ez : z = ofN a := by rw [hz]; (first | rfl | omega | (simp (disch := omega) only [hS.glob, wraps, plain, Int.ofNat_eq_natCast]; first | done | rfl | omega | (simp; done) | (simp; omega)) | (simp (disch := omega) only [hS.glob, wraps, plain, Int.ofNat_eq_natCast, Vx.toN]; omega))
  rw [ez]
  refine V.goF (by first | exact trivial | assumption) Try.func69 tl_ok mixed hS.ops [] 400 ?_
  intro VV VA W hVV hVA hW
  conv => cbv
  repeat (refine ⟨by first | (rw [hW]; show ordOk _ _ _ = true; kernel_rfl) | (first | trivial | omega | (simp (disch := omega) only [hS.glob, wraps, plain, Int.ofNat_eq_natCast]; first | done | omega | trivial | (simp; done) | (simp; omega) | (constructor <;> omega)) | (simp (disch := omega) only [hS.glob, wraps, plain, Int.ofNat_eq_natCast, Vx.toN]; omega)), ?_⟩)
  simp only [hS.tidy]
  have no : ¬ (l a = 5 ∧ 0 < D a ∧ l (D a - 1) = 14) → AV.bool false = AV.bool R := fun h => by
    cases R
    · rfl
    · exact absurd (hR.1 rfl) h
  cases h1 : ieq (l a) 5
  case false =>
    conv => cbv
    simp (disch := first | omega | (simp only [hS.glob, wraps, plain, Int.ofNat_eq_natCast]; omega)) only [hS.glob, wraps, plain, Int.ofNat_eq_natCast] at h1
    exact no (fun h => h1 h.1)
  conv => cbv
  simp (disch := first | omega | (simp only [hS.glob, wraps, plain, Int.ofNat_eq_natCast]; omega)) only [hS.glob, wraps, plain, Int.ofNat_eq_natCast] at h1
  rcases Nat.eq_zero_or_pos (D a) with h0 | h0
  · have e1 : ige (zf (D a)) 0 = false := by simp only [hS.glob, plain]; rw [hzf]; omega
    simp only [e1]
    conv => cbv
    exact no (fun h => by omega)
  · obtain ⟨q, hq⟩ : ∃ q, D a = q + 1 := ⟨D a - 1, by omega⟩
    have e0 : zf (D a) = ofN q := by rw [hzf, hq]; (first | rfl | omega | (simp (disch := omega) only [hS.glob, wraps, plain, Int.ofNat_eq_natCast]; first | done | rfl | omega | (simp; done) | (simp; omega)) | (simp (disch := omega) only [hS.glob, wraps, plain, Int.ofNat_eq_natCast, Vx.toN]; omega))
    have e1 : ige (ofN q) 0 = true := by simp only [hS.glob, plain]; omega
    rw [e0]
    simp only [e1]
    conv => cbv
    repeat (refine ⟨by first | (rw [hW]; show ordOk _ _ _ = true; kernel_rfl) | (first | trivial | omega | (simp (disch := omega) only [hS.glob, wraps, plain, Int.ofNat_eq_natCast]; first | done | omega | trivial | (simp; done) | (simp; omega) | (constructor <;> omega)) | (simp (disch := omega) only [hS.glob, wraps, plain, Int.ofNat_eq_natCast, Vx.toN]; omega)), ?_⟩)
    simp only [hS.tidy]
    have eq : D a - 1 = q := by omega
    rw [eq] at hR
    cases h2 : ieq (l q) 14
    · conv => cbv
      simp (disch := first | omega | (simp only [hS.glob, wraps, plain, Int.ofNat_eq_natCast]; omega)) only [hS.glob, wraps, plain, Int.ofNat_eq_natCast] at h2
      cases R
      · trivial
      · exact absurd (hR.1 rfl).2.2 h2
    · conv => cbv
      simp (disch := first | omega | (simp only [hS.glob, wraps, plain, Int.ofNat_eq_natCast]; omega)) only [hS.glob, wraps, plain, Int.ofNat_eq_natCast] at h2
      rw [hR.2 ⟨h1, h0, h2⟩]
theorem f70_ok (n : Nat) (hn : n ≤ 2000000) (l : Nat → Int) (a : Nat) (ha : a < n) (z : Int) (hz : z = a) (R : Bool) (hR : R = true ↔ trg l (a + 1) % 2 = 1) : FSpec Try.prog 70 [.rows 1 n (icol .i64 l), .int .i64 z] [] (fun r H' => r = .bool R ∧ H' = []) := by
  refine pure_of rfl ?_
  obtain ⟨zf, hzf⟩ : ∃ zf : Nat → Int, ∀ n : Nat, zf n = (n : Int) - 1 := ⟨_, fun _ => rfl⟩
  have hd : ∀ k, trg l (k + 1) = if l k = 6 then trg l k + 1 else 0 := fun _ => rfl
  have hd0 : trg l 0 = 0 := rfl
  have hdl := trg_le l (a + 1)
  obtain ⟨T, hT⟩ : ∃ T, T = trg l (a + 1) := ⟨_, rfl⟩
  rw [← hT] at hR hdl
  generalize trg l = D at hT hd hd0
  refine FSpec.of (fn := Try.f70) Try.func70 rfl rfl (by simp) fun C hC => ?_
  obtain ⟨iadd, isub, imul, iquo, irem, iband, ibor, ibxor, ibandn, ishl, ishr, iconv, ieq, ine, ilt, ile, igt, ige, bbeq, bbne, bnot, bband, sseq, ssne, sscat, sssub, sslen, sssz, ssbyte, toN, ofN, addN, subN, eqN, ltB, leN, imx, imn, inb, leb, sslt, ltN, fit, ne0, ge0, ssfit, minN, inR, bcol, bstr, isBy, hS⟩ := names
  refine V.goF (by first | exact trivial | assumption) Try.func70 tl_ok mixed hS.ops [] 400 ?_
  intro VV VA W hVV hVA hW
  conv => cbv
  rw [hVV]
  clear hVV hVA VV VA hW W
  refine V.to (s' := [(6, .int .i64 (zf (a + 1))), (5, .int .i64 (ofN 0)), (1, .int .i64 z), (0, .rows 1 n (icol .i64 l))]) (H' := []) ?_ (by
    refine ⟨sti ?_, sti (by (first | rfl | omega | (simp (disch := omega) only [hS.glob, wraps, plain, Int.ofNat_eq_natCast]; first | done | rfl | omega | (simp; done) | (simp; omega)) | (simp (disch := omega) only [hS.glob, wraps, plain, Int.ofNat_eq_natCast, Vx.toN]; omega))), rfl, rfl, trivial⟩
    rw [hz, hzf]; (first | rfl | omega | (simp (disch := omega) only [hS.glob, wraps, plain, Int.ofNat_eq_natCast]; first | done | rfl | omega | (simp; done) | (simp; omega)) | (simp (disch := omega) only [hS.glob, wraps, plain, Int.ofNat_eq_natCast, Vx.toN]; omega))) rfl trivial (by rw [hC]; simp)
  refine V.loop (γ := Nat × Nat) (fun p => p.1 ≤ a + 1 ∧ p.2 + D p.1 = T) (fun p => [(6, .int .i64 (zf p.1)), (5, .int .i64 (ofN p.2)), (1, .int .i64 z), (0, .rows 1 n (icol .i64 l))]) (fun _ => []) (fun p => p.1) ?_ (a + 1, 0) ⟨Nat.le_refl _, by rw [hT]; simp⟩
  rintro ⟨k, c⟩ ⟨hk, hD⟩ hback
  dsimp only at hk hD hback ⊢
  have fin : D k = 0 → AV.bool (ieq (irem (ofN c) 2) 1) = AV.bool R := fun h => by
    have : c = T := by omega
    subst this
    congr 1
    refine Bool.eq_iff_iff.2 ?_
    rw [hR]
    have e : irem (ofN c) 2 = ((c % 2 : Nat) : Int) := by
      simp only [hS.glob, Vx.irem, Vx.ofN]
      show Int.tmod (c : Int) 2 = _
      rw [Int.tmod_eq_emod_of_nonneg (by omega)]
      omega
    rw [e]
    simp only [hS.glob, plain]
    omega
  refine V.goF (by first | exact trivial | assumption) Try.func70 tl_ok mixed hS.ops [(99, .none)] 400 ?_
  intro VV VA W hVV hVA hW
  conv => cbv
  rcases Nat.eq_zero_or_pos k with h0 | h0
  · subst h0
    have e1 : ige (zf 0) 0 = false := by simp only [hS.glob, plain]; rw [hzf]; omega
    simp only [e1]
    conv => cbv
    repeat (refine ⟨by first | (rw [hW]; show ordOk _ _ _ = true; kernel_rfl) | (first | trivial | omega | (simp (disch := omega) only [hS.glob, wraps, plain, Int.ofNat_eq_natCast]; first | done | omega | trivial | (simp; done) | (simp; omega) | (constructor <;> omega)) | (simp (disch := omega) only [hS.glob, wraps, plain, Int.ofNat_eq_natCast, Vx.toN]; omega)), ?_⟩)
    exact fin hd0
  · obtain ⟨q, hq⟩ : ∃ q, k = q + 1 := ⟨k - 1, by omega⟩
    have e0 : zf k = ofN q := by rw [hzf, hq]; (first | rfl | omega | (simp (disch := omega) only [hS.glob, wraps, plain, Int.ofNat_eq_natCast]; first | done | rfl | omega | (simp; done) | (simp; omega)) | (simp (disch := omega) only [hS.glob, wraps, plain, Int.ofNat_eq_natCast, Vx.toN]; omega))
    have e1 : ige (ofN q) 0 = true := by simp only [hS.glob, plain]; omega
    rw [e0]
    simp only [e1]
    conv => cbv
    repeat (refine ⟨by first | (rw [hW]; show ordOk _ _ _ = true; kernel_rfl) | (first | trivial | omega | (simp (disch := omega) only [hS.glob, wraps, plain, Int.ofNat_eq_natCast]; first | done | omega | trivial | (simp; done) | (simp; omega) | (constructor <;> omega)) | (simp (disch := omega) only [hS.glob, wraps, plain, Int.ofNat_eq_natCast, Vx.toN]; omega)), ?_⟩)
    simp only [hS.tidy]
    have hdk := hd q
    rw [← hq] at hdk
    cases h1 : ieq (l q) 6
    · conv => cbv
      simp (disch := first | omega | (simp only [hS.glob, wraps, plain, Int.ofNat_eq_natCast]; omega)) only [hS.glob, wraps, plain, Int.ofNat_eq_natCast] at h1
      rw [if_neg h1] at hdk
      repeat (refine ⟨by first | (rw [hW]; show ordOk _ _ _ = true; kernel_rfl) | (first | trivial | omega | (simp (disch := omega) only [hS.glob, wraps, plain, Int.ofNat_eq_natCast]; first | done | omega | trivial | (simp; done) | (simp; omega) | (constructor <;> omega)) | (simp (disch := omega) only [hS.glob, wraps, plain, Int.ofNat_eq_natCast, Vx.toN]; omega)), ?_⟩)
      exact fin hdk
    · conv => cbv
      simp (disch := first | omega | (simp only [hS.glob, wraps, plain, Int.ofNat_eq_natCast]; omega)) only [hS.glob, wraps, plain, Int.ofNat_eq_natCast] at h1
      rw [if_pos h1] at hdk
      rw [hVV]
      clear hVV hVA VV VA hW W
      exact V.to (hback (q, c + 1) ⟨by simp only; omega, by simp only; omega⟩ (by simp only; omega)) (by
        refine ⟨sti ?_, sti (by (first | rfl | omega | (simp (disch := omega) only [hS.glob, wraps, plain, Int.ofNat_eq_natCast]; first | done | rfl | omega | (simp; done) | (simp; omega)) | (simp (disch := omega) only [hS.glob, wraps, plain, Int.ofNat_eq_natCast, Vx.toN]; omega))), rfl, rfl, trivial⟩
        dsimp only
        rw [hzf]; (first | rfl | omega | (simp (disch := omega) only [hS.glob, wraps, plain, Int.ofNat_eq_natCast]; first | done | rfl | omega | (simp; done) | (simp; omega)) | (simp (disch := omega) only [hS.glob, wraps, plain, Int.ofNat_eq_natCast, Vx.toN]; omega))) rfl trivial (by rw [hC]; simp)
/-! ### The state of the program is what the document sees -/
theorem st_facts (l : Nat → Int) : ∀ k, ((0 < dn l k ∧ l (dn l k - 1) = 14) ↔ 0 < k ∧ (st0 l k).2.1 = true ∧ ((st0 l k).1 = 4 ∨ (st0 l k).1 = 14)) ∧ ((st0 l k).2.2 = true ↔ trg l k % 2 = 1) ∧ (0 < trg l k → (st0 l k).1 = 6)
  | 0 => by
    refine ⟨⟨fun h => by simp [dn] at h, fun h => by omega⟩, ?_, fun h => by simp [trg] at h⟩
    simp [st0, trg]
  | k + 1 => by
    obtain ⟨h1, h2, h3⟩ := st_facts l k
    have e : st0 l (k + 1) = (l k, picB (st0 l k).1 (st0 l k).2.1 (l k), oddB (st0 l k).1 (st0 l k).2.2 (l k)) := rfl
    rw [e]
    dsimp only
    have h0 : k = 0 → (st0 l k).2.1 = false := fun h => by subst h; rfl
    generalize st0 l k = S at h1 h2 h3 h0
    rcases S with ⟨a, p, o⟩
    dsimp only at h1 h2 h3 h0 ⊢
    refine ⟨?_, ?_, ?_⟩
    · unfold dn
      by_cases h4 : l k = 4
      · rw [if_pos h4, h1, h4]
        unfold picB
        simp
        intro h5 h6
        rcases Nat.eq_zero_or_pos k with h7 | h7
        · rw [h0 h7] at h5; cases h5
        · exact h7
      · rw [if_neg h4]
        simp only [Nat.succ_pos, Nat.add_sub_cancel, true_and]
        unfold picB
        by_cases h5 : l k = 14
        · simp [h5]
        · simp [h4, h5]
    · unfold oddB trg
      by_cases h4 : l k = 6
      · rw [if_pos h4]
        simp only [h4, decide_true, Bool.true_and, Bool.not_eq_true', Bool.and_eq_false_iff, decide_eq_false_iff_not]
        cases ho : o
        · have : ¬ trg l k % 2 = 1 := fun h => by rw [← h2, ho] at h; cases h
          simp; omega
        · have h5 := h2.1 ho
          have h6 := h3 (by omega)
          simp [h6]; omega
      · rw [if_neg h4]
        simp [h4]
    · intro h
      unfold trg at h
      split at h
      · assumption
      · omega
end Go.Proofs.Ytngagepodbcohaa

/- The document's breaks are the program's. -/
namespace Go.Proofs.Ytngagepodbcohaa
open Go Vx
set_option maxRecDepth 100000
theorem pic_fact (l : Nat → Int) (i : Nat) (h5 : l i = 5) : (st0 l (i + 1)).2.1 = true ↔ picR l i := by
  have e : (st0 l (i + 1)).2.1 = picB (st0 l i).1 (st0 l i).2.1 (l i) := rfl
  have h0 : i = 0 → (st0 l i).2.1 = false := fun h => by subst h; rfl
  have h1 := (st_facts l i).1
  unfold picR
  rw [e, h5, h1]
  generalize st0 l i = S at h0
  rcases S with ⟨a, p, o⟩
  dsimp only at h0 ⊢
  unfold picB
  simp
  intro h2 _
  rcases Nat.eq_zero_or_pos i with h | h
  · rw [h0 h] at h2; cases h2
  · exact h
set_option maxHeartbeats 4000000 in
theorem f40_ok (n : Nat) (hn : n ≤ 2000000) (l : Nat → Int) (i : Nat) (hi : i < n) (z : Int) (hz : z = i) (R : Bool) (hR : R = brkS l i) : FSpec Try.prog 40 [.rows 1 n (icol .i64 l), .int .i64 z] [] (fun r H' => r = .bool R ∧ H' = []) := by
  refine pure_of rfl ?_
  have hL : ∀ q, i = q + 1 → R = brkB (l q) (st0 l i).2.1 (st0 l i).2.2 (l i) ∧ (l q = 5 → ((st0 l i).2.1 = true ↔ picR l q)) ∧ (l q = 6 → ((st0 l i).2.2 = true ↔ trg l (q + 1) % 2 = 1)) := fun q hq => by
    subst hq
    exact ⟨hR, pic_fact l q, fun _ => (st_facts l (q + 1)).2.1⟩
  have h0 : i = 0 → R = true := fun h => by
    rw [hR, h]
    show brkB 3 false false (l 0) = true
    unfold brkB
    rw [if_neg (by omega), if_pos (.inl rfl)]
  clear hR
  refine FSpec.of (fn := Try.f40) Try.func40 rfl rfl (by simp) fun C hC => ?_
  obtain ⟨iadd, isub, imul, iquo, irem, iband, ibor, ibxor, ibandn, ishl, ishr, iconv, ieq, ine, ilt, ile, igt, ige, bbeq, bbne, bnot, bband, sseq, ssne, sscat, sssub, sslen, sssz, ssbyte, toN, ofN, addN, subN, eqN, ltB, leN, imx, imn, inb, leb, sslt, ltN, fit, ne0, ge0, ssfit, minN, inR, bcol, bstr, isBy, hS⟩ := names
  have ez : z = ofN i := by rw [hz]; (first | rfl | omega | (simp (disch := omega) only [hS.glob, wraps, plain, Int.ofNat_eq_natCast]; first | done | rfl | omega | (simp; done) | (simp; omega)) | (simp (disch := omega) only [hS.glob, wraps, plain, Int.ofNat_eq_natCast, Vx.toN]; omega))
  rw [ez]
  refine V.goF (by first | exact trivial | assumption) Try.func40 tl_ok mixed hS.ops [] 400 ?_
  intro VV VA W hVV hVA hW
  conv => cbv
  have e1 : ilt (ofN i) 0 = false := by simp only [hS.glob, plain]; omega
  have e2 : igt (ofN i) (ofN n) = false := by simp only [hS.glob, plain]; omega
  have e3 : ieq (ofN n) 0 = false := by simp only [hS.glob, plain]; omega
  repeat (first | (refine ⟨by (first | trivial | omega | (simp (disch := omega) only [hS.glob, wraps, plain, Int.ofNat_eq_natCast]; first | done | omega | trivial | (simp; done) | (simp; omega) | (constructor <;> omega)) | (simp (disch := omega) only [hS.glob, wraps, plain, Int.ofNat_eq_natCast, Vx.toN]; omega)), ?_⟩) | (simp only [e1, e2, e3]; try (conv => cbv)))
  rcases Nat.eq_zero_or_pos i with hi0 | hi0
  · have e4 : ieq (ofN i) 0 = true := by simp only [hS.glob, plain]; omega
    repeat (first | (refine ⟨by (first | trivial | omega | (simp (disch := omega) only [hS.glob, wraps, plain, Int.ofNat_eq_natCast]; first | done | omega | trivial | (simp; done) | (simp; omega) | (constructor <;> omega)) | (simp (disch := omega) only [hS.glob, wraps, plain, Int.ofNat_eq_natCast, Vx.toN]; omega)), ?_⟩) | (simp only [e4]; try (conv => cbv)))
    rw [h0 hi0]
  obtain ⟨q, hq⟩ : ∃ q, i = q + 1 := ⟨i - 1, by omega⟩
  obtain ⟨hR, hp, ho⟩ := hL q hq
  generalize (st0 l i).2.1 = P at hR hp
  generalize (st0 l i).2.2 = O at hR ho
  have e4 : ieq (ofN i) 0 = false := by simp only [hS.glob, plain]; omega
  have e5 : ieq (ofN i) (ofN n) = false := by simp only [hS.glob, plain]; omega
  have e6 : isub .i64 (ofN i) 1 = ofN q := by (first | rfl | omega | (simp (disch := omega) only [hS.glob, wraps, plain, Int.ofNat_eq_natCast]; first | done | rfl | omega | (simp; done) | (simp; omega)) | (simp (disch := omega) only [hS.glob, wraps, plain, Int.ofNat_eq_natCast, Vx.toN]; omega))
  repeat (first | (refine ⟨by (first | trivial | omega | (simp (disch := omega) only [hS.glob, wraps, plain, Int.ofNat_eq_natCast]; first | done | omega | trivial | (simp; done) | (simp; omega) | (constructor <;> omega)) | (simp (disch := omega) only [hS.glob, wraps, plain, Int.ofNat_eq_natCast, Vx.toN]; omega)), ?_⟩) | (simp only [e4, e5, e6, hS.tidy]; try (conv => cbv)))
  obtain ⟨a, ha⟩ : ∃ a, a = l q := ⟨_, rfl⟩
  obtain ⟨b, hb⟩ : ∃ b, b = l i := ⟨_, rfl⟩
  rw [← ha, ← hb] at hR
  rw [← ha] at hp ho
  rw [← ha, ← hb]
  obtain ⟨EA, hEA⟩ : ∃ x, x = endsB a := ⟨_, rfl⟩
  obtain ⟨EB, hEB⟩ : ∃ x, x = endsB b := ⟨_, rfl⟩
  obtain ⟨SY, hSY⟩ : ∃ x, x = sylB a b := ⟨_, rfl⟩
  unfold brkB at hR
  rw [← hEA, ← hEB, ← hSY] at hR
  have fin : ∀ b0 : Bool, R = b0 → AV.bool b0 = AV.bool R := fun b0 h => by rw [h]
  cases h1 : ieq a 1
  case' false =>
    conv => cbv
    simp (disch := first | omega | (simp only [hS.glob, wraps, plain, Int.ofNat_eq_natCast]; omega)) only [hS.glob, wraps, plain, Int.ofNat_eq_natCast] at h1
    have h12 : ¬ (a = 1 ∧ b = 2) := fun h => h1 h.1
  case' true =>
    conv => cbv
    cases h2 : ieq b 2
    case true =>
      conv => cbv
      simp (disch := first | omega | (simp only [hS.glob, wraps, plain, Int.ofNat_eq_natCast]; omega)) only [hS.glob, wraps, plain, Int.ofNat_eq_natCast] at h1 h2
      exact fin _ (by rw [hR, if_pos ⟨h1, h2⟩])
    conv => cbv
    simp (disch := first | omega | (simp only [hS.glob, wraps, plain, Int.ofNat_eq_natCast]; omega)) only [hS.glob, wraps, plain, Int.ofNat_eq_natCast] at h1 h2
    have h12 : ¬ (a = 1 ∧ b = 2) := fun h => h2 h.2
  all_goals
    rw [if_neg h12] at hR
    rw [hVV]
    clear hVV hVA VV VA hW W
    refine V.call rfl rfl rfl rfl rfl Try.func67 rfl (by decide) [] (by simp) (by simp) (by (first | rfl | ((conv => cbv); (repeat' apply And.intro) <;> first | rfl | trivial | (first | rfl | omega | (simp (disch := omega) only [hS.glob, wraps, plain, Int.ofNat_eq_natCast]; first | done | rfl | omega | (simp; done) | (simp; omega)) | (simp (disch := omega) only [hS.glob, wraps, plain, Int.ofNat_eq_natCast, Vx.toN]; omega))))) rfl (f67_ok a EA hEA) ?_
    rintro r Hc ⟨rfl, rfl⟩
    refine V.goF (by first | exact trivial | assumption) Try.func40 tl_ok mixed hS.ops [] 400 ?_
    intro VV VA W hVV hVA hW
    conv => cbv
    rw [hVV]
    clear hVV hVA VV VA hW W
    refine V.call rfl rfl rfl rfl rfl Try.func67 rfl (by decide) [] (by simp) (by simp) (by (first | rfl | ((conv => cbv); (repeat' apply And.intro) <;> first | rfl | trivial | (first | rfl | omega | (simp (disch := omega) only [hS.glob, wraps, plain, Int.ofNat_eq_natCast]; first | done | rfl | omega | (simp; done) | (simp; omega)) | (simp (disch := omega) only [hS.glob, wraps, plain, Int.ofNat_eq_natCast, Vx.toN]; omega))))) rfl (f67_ok b EB hEB) ?_
    rintro r Hc ⟨rfl, rfl⟩
    refine V.goF (by first | exact trivial | assumption) Try.func40 tl_ok mixed hS.ops [] 400 ?_
    intro VV VA W hVV hVA hW
    conv => cbv
    cases EA
    case true =>
      conv => cbv
      exact fin _ (by rw [hR, if_pos (.inl rfl)])
    conv => cbv
    cases EB
    case true =>
      conv => cbv
      exact fin _ (by rw [hR, if_pos (.inr rfl)])
    conv => cbv
    rw [if_neg (fun h => by rcases h with h | h <;> cases h)] at hR
    rw [hVV]
    clear hVV hVA VV VA hW W
    refine V.call rfl rfl rfl rfl rfl Try.func68 rfl (by decide) [] (by simp) (by simp) (by (first | rfl | ((conv => cbv); (repeat' apply And.intro) <;> first | rfl | trivial | (first | rfl | omega | (simp (disch := omega) only [hS.glob, wraps, plain, Int.ofNat_eq_natCast]; first | done | rfl | omega | (simp; done) | (simp; omega)) | (simp (disch := omega) only [hS.glob, wraps, plain, Int.ofNat_eq_natCast, Vx.toN]; omega))))) rfl (f68_ok a b SY hSY) ?_
    rintro r Hc ⟨rfl, rfl⟩
    refine V.goF (by first | exact trivial | assumption) Try.func40 tl_ok mixed hS.ops [] 400 ?_
    intro VV VA W hVV hVA hW
    conv => cbv
    cases SY
    case true =>
      conv => cbv
      exact fin _ (by rw [hR, if_pos (.inl rfl)])
    conv => cbv
    cases h3 : ieq b 4
    case true =>
      conv => cbv
      simp (disch := first | omega | (simp only [hS.glob, wraps, plain, Int.ofNat_eq_natCast]; omega)) only [hS.glob, wraps, plain, Int.ofNat_eq_natCast] at h3
      refine fin _ ?_
      rw [hR]
      by_cases h4 : a = 7
      · rw [if_pos (.inr h4)]
      · rw [if_neg (fun h => by rcases h with h | h; cases h; exact h4 h), if_pos (.inl h3)]
    conv => cbv
    cases h5 : ieq b 5
    case true =>
      conv => cbv
      simp (disch := first | omega | (simp only [hS.glob, wraps, plain, Int.ofNat_eq_natCast]; omega)) only [hS.glob, wraps, plain, Int.ofNat_eq_natCast] at h5
      refine fin _ ?_
      rw [hR]
      by_cases h4 : a = 7
      · rw [if_pos (.inr h4)]
      · rw [if_neg (fun h => by rcases h with h | h; cases h; exact h4 h), if_pos (.inr (.inl h5))]
    conv => cbv
    cases h8 : ieq b 8
    case true =>
      conv => cbv
      simp (disch := first | omega | (simp only [hS.glob, wraps, plain, Int.ofNat_eq_natCast]; omega)) only [hS.glob, wraps, plain, Int.ofNat_eq_natCast] at h8
      refine fin _ ?_
      rw [hR]
      by_cases h4 : a = 7
      · rw [if_pos (.inr h4)]
      · rw [if_neg (fun h => by rcases h with h | h; cases h; exact h4 h), if_pos (.inr (.inr h8))]
    conv => cbv
    cases h7 : ieq a 7
    case true =>
      conv => cbv
      simp (disch := first | omega | (simp only [hS.glob, wraps, plain, Int.ofNat_eq_natCast]; omega)) only [hS.glob, wraps, plain, Int.ofNat_eq_natCast] at h7
      exact fin _ (by rw [hR, if_pos (.inr h7)])
    conv => cbv
    simp (disch := first | omega | (simp only [hS.glob, wraps, plain, Int.ofNat_eq_natCast]; omega)) only [hS.glob, wraps, plain, Int.ofNat_eq_natCast] at h3 h5 h8 h7
    rw [if_neg (fun h => by rcases h with h | h; cases h; exact h7 h), if_neg (by omega)] at hR
    have e7 : isub .i64 (ofN i) 1 = ofN q := by (first | rfl | omega | (simp (disch := omega) only [hS.glob, wraps, plain, Int.ofNat_eq_natCast]; first | done | rfl | omega | (simp; done) | (simp; omega)) | (simp (disch := omega) only [hS.glob, wraps, plain, Int.ofNat_eq_natCast, Vx.toN]; omega))
    cases h9 : ieq b 14
    case true =>
      conv => cbv
      try simp only [e7]
      simp (disch := first | omega | (simp only [hS.glob, wraps, plain, Int.ofNat_eq_natCast]; omega)) only [hS.glob, wraps, plain, Int.ofNat_eq_natCast] at h9
      rw [hVV]
      clear hVV hVA VV VA hW W
      obtain ⟨X, hX⟩ := bool_of (picR l q)
      refine V.call rfl rfl rfl rfl rfl Try.func69 rfl (by decide) [] (by simp) (by simp) (by (first | rfl | ((conv => cbv); (repeat' apply And.intro) <;> first | rfl | trivial | (first | rfl | omega | (simp (disch := omega) only [hS.glob, wraps, plain, Int.ofNat_eq_natCast]; first | done | rfl | omega | (simp; done) | (simp; omega)) | (simp (disch := omega) only [hS.glob, wraps, plain, Int.ofNat_eq_natCast, Vx.toN]; omega))))) rfl (f69_ok n hn l q (by omega) _ (by simp only [hS.glob, plain]) X hX) ?_
      rintro r Hc ⟨rfl, rfl⟩
      refine V.goF (by first | exact trivial | assumption) Try.func40 tl_ok mixed hS.ops [] 400 ?_
      intro VV VA W hVV hVA hW
      conv => cbv
      by_cases h10 : a = 5
      · rw [if_pos ⟨h10, h9⟩] at hR
        have : P = X := Bool.eq_iff_iff.2 ((hp h10).trans hX.symm)
        rw [hR, this]
        cases X <;> rfl
      · rw [if_neg (fun h => h10 h.1), if_neg (by omega)] at hR
        have : X = false := by
          cases X
          · rfl
          · exact absurd (ha.trans (hX.1 rfl).1) h10
        rw [hR, this]
    conv => cbv
    simp (disch := first | omega | (simp only [hS.glob, wraps, plain, Int.ofNat_eq_natCast]; omega)) only [hS.glob, wraps, plain, Int.ofNat_eq_natCast] at h9
    rw [if_neg (fun h => h9 h.2)] at hR
    cases h10 : ieq a 6
    case false =>
      conv => cbv
      simp (disch := first | omega | (simp only [hS.glob, wraps, plain, Int.ofNat_eq_natCast]; omega)) only [hS.glob, wraps, plain, Int.ofNat_eq_natCast] at h10
      exact fin _ (by rw [hR, if_neg (fun h => h10 h.1)])
    conv => cbv
    cases h11 : ieq b 6
    case false =>
      conv => cbv
      simp (disch := first | omega | (simp only [hS.glob, wraps, plain, Int.ofNat_eq_natCast]; omega)) only [hS.glob, wraps, plain, Int.ofNat_eq_natCast] at h11
      exact fin _ (by rw [hR, if_neg (fun h => h11 h.2)])
    conv => cbv
    try simp only [e7]
    simp (disch := first | omega | (simp only [hS.glob, wraps, plain, Int.ofNat_eq_natCast]; omega)) only [hS.glob, wraps, plain, Int.ofNat_eq_natCast] at h10 h11
    rw [if_pos ⟨h10, h11⟩] at hR
    rw [hVV]
    clear hVV hVA VV VA hW W
    refine V.call rfl rfl rfl rfl rfl Try.func70 rfl (by decide) [] (by simp) (by simp) (by (first | rfl | ((conv => cbv); (repeat' apply And.intro) <;> first | rfl | trivial | (first | rfl | omega | (simp (disch := omega) only [hS.glob, wraps, plain, Int.ofNat_eq_natCast]; first | done | rfl | omega | (simp; done) | (simp; omega)) | (simp (disch := omega) only [hS.glob, wraps, plain, Int.ofNat_eq_natCast, Vx.toN]; omega))))) rfl (f70_ok n hn l q (by omega) _ (by simp only [hS.glob, plain]) O (ho h10)) ?_
    rintro r Hc ⟨rfl, rfl⟩
    refine V.goF (by first | exact trivial | assumption) Try.func40 tl_ok mixed hS.ops [] 400 ?_
    intro VV VA W hVV hVA hW
    conv => cbv
    rw [hR]
    cases O <;> rfl
theorem f19_ok1 (n : Nat) (hn : n ≤ 2000000) (l : Nat → Int) : FSpec Try.prog 19 [.rows 1 n (icol .i64 l)] [] (fun r H' => ∃ k S, tab k S = (startsL l n).map (fun (x : Nat) => (x : Int)) ∧ r = .sl 0 0 k ∧ H' = [some ⟨3, 1, .arr k (icol .i64 S)⟩]) := by
  obtain ⟨Q, hQ⟩ : ∃ Q : AV → Hp → Prop, Q = (fun r H' => ∃ k S, tab k S = (startsL l n).map (fun (x : Nat) => (x : Int)) ∧ r = .sl 0 0 k ∧ H' = [some ⟨3, 1, .arr k (icol .i64 S)⟩]) := ⟨_, rfl⟩
  rw [← hQ]
  have hsucc := startsL_succ l
  have h0 : startsL l 0 = [] := rfl
  have hlen : ∀ i, (startsL l i).length ≤ i := fun i => by
    unfold startsL
    exact Nat.le_trans (List.length_filter_le _ _) (by simp)
  generalize startsL l = L at hsucc h0 hlen hQ
  refine FSpec.of (fn := Try.f19) Try.func19 rfl rfl (by simp) fun C hC => ?_
  obtain ⟨iadd, isub, imul, iquo, irem, iband, ibor, ibxor, ibandn, ishl, ishr, iconv, ieq, ine, ilt, ile, igt, ige, bbeq, bbne, bnot, bband, sseq, ssne, sscat, sssub, sslen, sssz, ssbyte, toN, ofN, addN, subN, eqN, ltB, leN, imx, imn, inb, leb, sslt, ltN, fit, ne0, ge0, ssfit, minN, inR, bcol, bstr, isBy, hS⟩ := names
  refine V.goF (by first | exact trivial | assumption) Try.func19 tl_ok mixed hS.ops [] 400 ?_
  intro VV VA W hVV hVA hW
  conv => cbv
  rw [hVV]
  clear hVV hVA VV VA hW W
  refine V.phantom 3 3 1 (icol .i64 (fun _ => 0)) rfl ?_
  refine V.to (s' := [(4, .int .i64 (ofN 0)), (3, .sl 0 0 0), (0, .rows 1 n (icol .i64 l))]) (H' := [some ⟨3, 1, .arr 0 (icol .i64 (fun _ => 0))⟩]) ?_ (by (repeat' first | exact trivial | rfl | (refine And.intro ?_ ?_) | (refine sti ?_; (first | rfl | omega | (simp (disch := omega) only [hS.glob, wraps, plain, Int.ofNat_eq_natCast]; first | done | rfl | omega | (simp; done) | (simp; omega)) | (simp (disch := omega) only [hS.glob, wraps, plain, Int.ofNat_eq_natCast, Vx.toN]; omega))) | (refine slq ?_ ?_ ?_ <;> (first | rfl | omega | (simp (disch := omega) only [hS.glob, wraps, plain, Int.ofNat_eq_natCast]; first | done | rfl | omega | (simp; done) | (simp; omega)) | (simp (disch := omega) only [hS.glob, wraps, plain, Int.ofNat_eq_natCast, Vx.toN]; omega))) | (refine ptq ?_ ?_ ?_ <;> (first | rfl | omega | (simp (disch := omega) only [hS.glob, wraps, plain, Int.ofNat_eq_natCast]; first | done | rfl | omega | (simp; done) | (simp; omega)) | (simp (disch := omega) only [hS.glob, wraps, plain, Int.ofNat_eq_natCast, Vx.toN]; omega))) | (refine blq ?_; (first | rfl | omega | (simp (disch := omega) only [hS.glob, wraps, plain, Int.ofNat_eq_natCast]; first | done | rfl | omega | (simp; done) | (simp; omega)) | (simp (disch := omega) only [hS.glob, wraps, plain, Int.ofNat_eq_natCast, Vx.toN]; omega))))) rfl (by (repeat' first | exact trivial | rfl | exact Nat.le_refl _ | exact (fun _ _ => rfl) | (refine And.intro ?_ ?_) | (simp only [hS.glob, plain]; first | done | omega))) (by rw [hC]; simp)
  refine V.loop (γ := Nat × Nat × (Nat → Int)) (fun p => p.1 ≤ n ∧ tab p.2.1 p.2.2 = (L p.1).map (fun (x : Nat) => (x : Int))) (fun p => [(4, .int .i64 (ofN p.1)), (3, .sl 0 0 p.2.1), (0, .rows 1 n (icol .i64 l))]) (fun p => [some ⟨3, 1, .arr p.2.1 (icol .i64 p.2.2)⟩]) (fun p => n - p.1) ?_ (0, 0, fun _ => 0) ⟨Nat.zero_le _, by rw [h0]; rfl⟩
  rintro ⟨i, k, S⟩ ⟨hi, hS0⟩ hback
  dsimp only at hi hS0 hback ⊢
  have hki : k ≤ i := by
    have e := congrArg List.length hS0
    rw [tab_len, List.length_map] at e
    have := hlen i
    omega
  refine V.goF (by first | exact trivial | assumption) Try.func19 tl_ok mixed hS.ops [] 400 ?_
  intro VV VA W hVV hVA hW
  conv => cbv
  cases h1 : ilt (ofN i) (ofN n)
  · conv => cbv
    simp (disch := first | omega | (simp only [hS.glob, wraps, plain, Int.ofNat_eq_natCast]; omega)) only [hS.glob, wraps, plain, Int.ofNat_eq_natCast] at h1
    obtain rfl : i = n := by omega
    rw [hQ]
    exact ⟨k, S, hS0, rfl, rfl⟩
  conv => cbv
  simp (disch := first | omega | (simp only [hS.glob, wraps, plain, Int.ofNat_eq_natCast]; omega)) only [hS.glob, wraps, plain, Int.ofNat_eq_natCast] at h1
  obtain ⟨B, hB⟩ : ∃ B, B = brkS l i := ⟨_, rfl⟩
  have hsi := hsucc i
  rw [← hB] at hsi
  rw [hVV]
  clear hVV hVA VV VA hW W
  refine V.call rfl rfl rfl rfl rfl Try.func40 rfl (by decide) [] (by simp) (by simp) (by (first | rfl | ((conv => cbv); (repeat' apply And.intro) <;> first | rfl | trivial | (first | rfl | omega | (simp (disch := omega) only [hS.glob, wraps, plain, Int.ofNat_eq_natCast]; first | done | rfl | omega | (simp; done) | (simp; omega)) | (simp (disch := omega) only [hS.glob, wraps, plain, Int.ofNat_eq_natCast, Vx.toN]; omega))))) rfl (f40_ok n hn l i (by omega) _ (by simp only [hS.glob, plain]) B hB) ?_
  rintro r Hc ⟨rfl, rfl⟩
  refine V.goF (by first | exact trivial | assumption) Try.func19 tl_ok mixed hS.ops [] 400 ?_
  intro VV VA W hVV hVA hW
  conv => cbv
  cases B
  · conv => cbv
    rw [hVV]
    clear hVV hVA VV VA hW W
    exact V.to (hback (i + 1, k, S) ⟨by simp only; omega, by simp only; rw [hsi]; exact hS0⟩ (by simp only; omega)) (by (repeat' first | exact trivial | rfl | (refine And.intro ?_ ?_) | (refine sti ?_; (first | rfl | omega | (simp (disch := omega) only [hS.glob, wraps, plain, Int.ofNat_eq_natCast]; first | done | rfl | omega | (simp; done) | (simp; omega)) | (simp (disch := omega) only [hS.glob, wraps, plain, Int.ofNat_eq_natCast, Vx.toN]; omega))) | (refine slq ?_ ?_ ?_ <;> (first | rfl | omega | (simp (disch := omega) only [hS.glob, wraps, plain, Int.ofNat_eq_natCast]; first | done | rfl | omega | (simp; done) | (simp; omega)) | (simp (disch := omega) only [hS.glob, wraps, plain, Int.ofNat_eq_natCast, Vx.toN]; omega))) | (refine ptq ?_ ?_ ?_ <;> (first | rfl | omega | (simp (disch := omega) only [hS.glob, wraps, plain, Int.ofNat_eq_natCast]; first | done | rfl | omega | (simp; done) | (simp; omega)) | (simp (disch := omega) only [hS.glob, wraps, plain, Int.ofNat_eq_natCast, Vx.toN]; omega))) | (refine blq ?_; (first | rfl | omega | (simp (disch := omega) only [hS.glob, wraps, plain, Int.ofNat_eq_natCast]; first | done | rfl | omega | (simp; done) | (simp; omega)) | (simp (disch := omega) only [hS.glob, wraps, plain, Int.ofNat_eq_natCast, Vx.toN]; omega))))) rfl (by (repeat' first | exact trivial | rfl | exact Nat.le_refl _ | exact (fun _ _ => rfl) | (refine And.intro ?_ ?_) | (simp only [hS.glob, plain]; first | done | omega))) (by rw [hC]; simp)
  · conv => cbv
    repeat (refine ⟨by first | (rw [hW]; show ordOk _ _ _ = true; kernel_rfl) | (first | trivial | omega | (simp (disch := omega) only [hS.glob, wraps, plain, Int.ofNat_eq_natCast]; first | done | omega | trivial | (simp; done) | (simp; omega) | (constructor <;> omega)) | (simp (disch := omega) only [hS.glob, wraps, plain, Int.ofNat_eq_natCast, Vx.toN]; omega)), ?_⟩)
    rw [hVV]
    clear hVV hVA VV VA hW W
    refine V.pick [2] (by decide) (by rw [hC]; exact begins_of rfl) (by rfl) (by rfl) ?_
    obtain ⟨S', e1, e2⟩ := snocF S k (ofN i)
    refine V.to (hback (i + 1, k + 1, S') ⟨by simp only; omega, ?_⟩ (by simp only; omega)) (by (repeat' first | exact trivial | rfl | (refine And.intro ?_ ?_) | (refine sti ?_; (first | rfl | omega | (simp (disch := omega) only [hS.glob, wraps, plain, Int.ofNat_eq_natCast]; first | done | rfl | omega | (simp; done) | (simp; omega)) | (simp (disch := omega) only [hS.glob, wraps, plain, Int.ofNat_eq_natCast, Vx.toN]; omega))) | (refine slq ?_ ?_ ?_ <;> (first | rfl | omega | (simp (disch := omega) only [hS.glob, wraps, plain, Int.ofNat_eq_natCast]; first | done | rfl | omega | (simp; done) | (simp; omega)) | (simp (disch := omega) only [hS.glob, wraps, plain, Int.ofNat_eq_natCast, Vx.toN]; omega))) | (refine ptq ?_ ?_ ?_ <;> (first | rfl | omega | (simp (disch := omega) only [hS.glob, wraps, plain, Int.ofNat_eq_natCast]; first | done | rfl | omega | (simp; done) | (simp; omega)) | (simp (disch := omega) only [hS.glob, wraps, plain, Int.ofNat_eq_natCast, Vx.toN]; omega))) | (refine blq ?_; (first | rfl | omega | (simp (disch := omega) only [hS.glob, wraps, plain, Int.ofNat_eq_natCast]; first | done | rfl | omega | (simp; done) | (simp; omega)) | (simp (disch := omega) only [hS.glob, wraps, plain, Int.ofNat_eq_natCast, Vx.toN]; omega))))) rfl ⟨⟨rfl, rfl, ⟨by show k + 1 ≤ addN k 1; (first | trivial | omega | (simp (disch := omega) only [hS.glob, wraps, plain, Int.ofNat_eq_natCast]; first | done | omega | trivial | (simp; done) | (simp; omega) | (constructor <;> omega)) | (simp (disch := omega) only [hS.glob, wraps, plain, Int.ofNat_eq_natCast, Vx.toN]; omega)), fun j hj => leaf (by simp [hS.glob]) (by simp [hS.glob]) _ S S' k e1 e2 j hj⟩, rfl⟩, trivial⟩ (by rw [hC]; simp)
    dsimp only
    rw [hsi, if_pos rfl, List.map_append, ← hS0]
    exact tab_snoc rfl e1 (by rw [e2]; simp (disch := first | omega | (simp only [hS.glob, wraps, plain, Int.ofNat_eq_natCast]; omega)) only [hS.glob, wraps, plain, Int.ofNat_eq_natCast])
theorem f19_ok (n : Nat) (hn : n ≤ 2000000) (l : Nat → Int) : FSpec Try.prog 19 [.rows 1 n (icol .i64 l)] [] (fun r H' => H' = [] ∧ ∃ k f, (∃ S, f = icol .i64 S ∧ tab k S = (startsL l n).map (fun (x : Nat) => (x : Int))) ∧ r = .rows 1 k f) := by
  refine FSpec.froz (by decide) (f19_ok1 n hn l) ?_
  rintro r H' ⟨k, S, h1, rfl, rfl⟩
  exact ⟨k, _, ⟨S, rfl, h1⟩, .inr ⟨0, 3, k, _, rfl, Nat.le_refl _, rfl, fun _ _ => rfl⟩⟩
end Go.Proofs.Ytngagepodbcohaa

/- The clusters of a paragraph, by the document: the walk. -/
namespace Go.Proofs.Ytngagepodbcohaa
open Go Vx
set_option maxRecDepth 100000
structure Pt where
  fr : Int
  to : Int
  sp : Int
  la : Bool
  en : Bool
def ptc (g : Nat → Pt) : Nat → List AV := fun i => [.int .i64 (g i).fr, .int .i64 (g i).to, .int .i64 (g i).sp, .bool (g i).la, .bool (g i).en]
noncomputable def partOf (t : Tx) (k : Nat) : Pt := open Classical in ⟨t.s k, t.to k, t.spn k, decide (t.laid k), decide (t.ki k = 11)⟩
set_option maxHeartbeats 4000000 in
theorem f8_ok1 (n : Nat) (hn : n ≤ 2000000) (p : Nat → Pr) (ns : Nat) (hns : ns ≤ 2000000) (l : Nat → Sp) : FSpec Try.prog 8 [.rows 9 n (prc p), .rows 6 ns (spc l)] [] (fun r H' => Fresh H' 5 (canT n p ns l 0).K (ptc (partOf (canT n p ns l 0))) r) := by
  obtain ⟨Q, hQ⟩ : ∃ Q : AV → Hp → Prop, Q = (fun r H' => Fresh H' 5 (canT n p ns l 0).K (ptc (partOf (canT n p ns l 0))) r) := ⟨_, rfl⟩
  rw [← hQ]
  have hOf := canT_of n p ns l 0
  generalize canT n p ns l 0 = t at hQ hOf
  obtain ⟨hat1, hat2, hKn⟩ := hOf.at_
  obtain ⟨JO, hJO⟩ : ∃ JO : Nat → Int, JO = fun i => (p i).jo := ⟨_, rfl⟩
  have hjo : ∀ i, JO i = (p i).jo := fun i => by rw [hJO]
  have hes := hOf.es
  rw [← hJO] at hes
  refine FSpec.of (fn := Try.f8) Try.func8 rfl rfl (by simp) fun C hC => ?_
  obtain ⟨iadd, isub, imul, iquo, irem, iband, ibor, ibxor, ibandn, ishl, ishr, iconv, ieq, ine, ilt, ile, igt, ige, bbeq, bbne, bnot, bband, sseq, ssne, sscat, sssub, sslen, sssz, ssbyte, toN, ofN, addN, subN, eqN, ltB, leN, imx, imn, inb, leb, sslt, ltN, fit, ne0, ge0, ssfit, minN, inR, bcol, bstr, isBy, hS⟩ := names
  refine V.goF (by first | exact trivial | assumption) Try.func8 tl_ok mixed hS.ops [] 400 ?_
  intro VV VA W hVV hVA hW
  conv => cbv
  rw [hVV]
  clear hVV hVA VV VA hW W
  refine V.phantom 5 44 1 (icol .i64 JO) rfl ?_
  refine V.to (s' := [(6, .int .i64 (ofN 0)), (5, .sl 0 0 0), (0, .rows 9 n (prc p)), (1, .rows 6 ns (spc l))]) (H' := [some ⟨44, 1, .arr 0 (icol .i64 JO)⟩]) ?_ (by (repeat' first | exact trivial | rfl | (refine And.intro ?_ ?_) | (refine sti ?_; (first | rfl | omega | (simp (disch := omega) only [hS.glob, wraps, plain, Int.ofNat_eq_natCast]; first | done | rfl | omega | (simp; done) | (simp; omega)) | (simp (disch := omega) only [hS.glob, wraps, plain, Int.ofNat_eq_natCast, Vx.toN]; omega))) | (refine slq ?_ ?_ ?_ <;> (first | rfl | omega | (simp (disch := omega) only [hS.glob, wraps, plain, Int.ofNat_eq_natCast]; first | done | rfl | omega | (simp; done) | (simp; omega)) | (simp (disch := omega) only [hS.glob, wraps, plain, Int.ofNat_eq_natCast, Vx.toN]; omega))) | (refine ptq ?_ ?_ ?_ <;> (first | rfl | omega | (simp (disch := omega) only [hS.glob, wraps, plain, Int.ofNat_eq_natCast]; first | done | rfl | omega | (simp; done) | (simp; omega)) | (simp (disch := omega) only [hS.glob, wraps, plain, Int.ofNat_eq_natCast, Vx.toN]; omega))) | (refine blq ?_; (first | rfl | omega | (simp (disch := omega) only [hS.glob, wraps, plain, Int.ofNat_eq_natCast]; first | done | rfl | omega | (simp; done) | (simp; omega)) | (simp (disch := omega) only [hS.glob, wraps, plain, Int.ofNat_eq_natCast, Vx.toN]; omega))))) rfl (by (repeat' first | exact trivial | rfl | exact Nat.le_refl _ | exact (fun _ _ => rfl) | (refine And.intro ?_ ?_) | (simp only [hS.glob, plain]; first | done | omega))) (by rw [hC]; simp)
  apply cut
  · intro next
    refine V.loop (γ := Nat) (fun i => i ≤ n) (fun i => [(6, .int .i64 (ofN i)), (5, .sl 0 0 i), (0, .rows 9 n (prc p)), (1, .rows 6 ns (spc l))]) (fun i => [some ⟨44, 1, .arr i (icol .i64 JO)⟩]) (fun i => n - i) ?_ 0 (Nat.zero_le _)
    intro i hi hback
    refine V.goF (by first | exact trivial | assumption) Try.func8 tl_ok mixed hS.ops [] 8 ?_
    intro VV VA W hVV hVA hW
    conv => cbv
    cases h4 : ilt (ofN i) (ofN n)
    · rw [hVV]
      clear hVV hVA VV VA hW W
      simp (disch := first | omega | (simp only [hS.glob, wraps, plain, Int.ofNat_eq_natCast]; omega)) only [hS.glob, wraps, plain, Int.ofNat_eq_natCast] at h4
      obtain rfl : n = i := by omega
      refine V.goF (by first | exact trivial | assumption) Try.func8 tl_ok mixed hS.ops [] 2 ?_
      intro VV VA W hVV hVA hW
      conv => cbv
      rw [hVV]
      clear hVV hVA VV VA hW W
      exact V.to (s' := [(5, .sl 0 0 n), (0, .rows 9 n (prc p)), (1, .rows 6 ns (spc l))]) (H' := [some ⟨44, 1, .arr n (icol .i64 JO)⟩]) next.get (by (repeat' first | exact trivial | rfl | (refine And.intro ?_ ?_) | (refine sti ?_; (first | rfl | omega | (simp (disch := omega) only [hS.glob, wraps, plain, Int.ofNat_eq_natCast]; first | done | rfl | omega | (simp; done) | (simp; omega)) | (simp (disch := omega) only [hS.glob, wraps, plain, Int.ofNat_eq_natCast, Vx.toN]; omega))) | (refine slq ?_ ?_ ?_ <;> (first | rfl | omega | (simp (disch := omega) only [hS.glob, wraps, plain, Int.ofNat_eq_natCast]; first | done | rfl | omega | (simp; done) | (simp; omega)) | (simp (disch := omega) only [hS.glob, wraps, plain, Int.ofNat_eq_natCast, Vx.toN]; omega))) | (refine ptq ?_ ?_ ?_ <;> (first | rfl | omega | (simp (disch := omega) only [hS.glob, wraps, plain, Int.ofNat_eq_natCast]; first | done | rfl | omega | (simp; done) | (simp; omega)) | (simp (disch := omega) only [hS.glob, wraps, plain, Int.ofNat_eq_natCast, Vx.toN]; omega))) | (refine blq ?_; (first | rfl | omega | (simp (disch := omega) only [hS.glob, wraps, plain, Int.ofNat_eq_natCast]; first | done | rfl | omega | (simp; done) | (simp; omega)) | (simp (disch := omega) only [hS.glob, wraps, plain, Int.ofNat_eq_natCast, Vx.toN]; omega))))) rfl (by (repeat' first | exact trivial | rfl | exact Nat.le_refl _ | exact (fun _ _ => rfl) | (refine And.intro ?_ ?_) | (simp only [hS.glob, plain]; first | done | omega))) (by rw [hC]; simp)
    · rw [hVV]
      clear hVV hVA VV VA hW W
      simp (disch := first | omega | (simp only [hS.glob, wraps, plain, Int.ofNat_eq_natCast]; omega)) only [hS.glob, wraps, plain, Int.ofNat_eq_natCast] at h4
      refine V.goF (by first | exact trivial | assumption) Try.func8 tl_ok mixed hS.ops [] 400 ?_
      intro VV VA W hVV hVA hW
      conv => cbv
      repeat (refine ⟨by first | (rw [hW]; show ordOk _ _ _ = true; kernel_rfl) | (first | trivial | omega | (simp (disch := omega) only [hS.glob, wraps, plain, Int.ofNat_eq_natCast]; first | done | omega | trivial | (simp; done) | (simp; omega) | (constructor <;> omega)) | (simp (disch := omega) only [hS.glob, wraps, plain, Int.ofNat_eq_natCast, Vx.toN]; omega)), ?_⟩)
      simp only [hS.tidy]
      repeat (refine ⟨by first | (rw [hW]; show ordOk _ _ _ = true; kernel_rfl) | (first | trivial | omega | (simp (disch := omega) only [hS.glob, wraps, plain, Int.ofNat_eq_natCast]; first | done | omega | trivial | (simp; done) | (simp; omega) | (constructor <;> omega)) | (simp (disch := omega) only [hS.glob, wraps, plain, Int.ofNat_eq_natCast, Vx.toN]; omega)), ?_⟩)
      rw [hVV]
      clear hVV hVA VV VA hW W
      refine V.pick [2] (by decide) (by rw [hC]; exact begins_of rfl) (by rfl) (by rfl) ?_
      exact V.to (hback (i + 1) (by omega) (by omega)) (by (repeat' first | exact trivial | rfl | (refine And.intro ?_ ?_) | (refine sti ?_; (first | rfl | omega | (simp (disch := omega) only [hS.glob, wraps, plain, Int.ofNat_eq_natCast]; first | done | rfl | omega | (simp; done) | (simp; omega)) | (simp (disch := omega) only [hS.glob, wraps, plain, Int.ofNat_eq_natCast, Vx.toN]; omega))) | (refine slq ?_ ?_ ?_ <;> (first | rfl | omega | (simp (disch := omega) only [hS.glob, wraps, plain, Int.ofNat_eq_natCast]; first | done | rfl | omega | (simp; done) | (simp; omega)) | (simp (disch := omega) only [hS.glob, wraps, plain, Int.ofNat_eq_natCast, Vx.toN]; omega))) | (refine ptq ?_ ?_ ?_ <;> (first | rfl | omega | (simp (disch := omega) only [hS.glob, wraps, plain, Int.ofNat_eq_natCast]; first | done | rfl | omega | (simp; done) | (simp; omega)) | (simp (disch := omega) only [hS.glob, wraps, plain, Int.ofNat_eq_natCast, Vx.toN]; omega))) | (refine blq ?_; (first | rfl | omega | (simp (disch := omega) only [hS.glob, wraps, plain, Int.ofNat_eq_natCast]; first | done | rfl | omega | (simp; done) | (simp; omega)) | (simp (disch := omega) only [hS.glob, wraps, plain, Int.ofNat_eq_natCast, Vx.toN]; omega))))) rfl ⟨⟨rfl, rfl, ⟨by show i + 1 ≤ addN i 1; (first | trivial | omega | (simp (disch := omega) only [hS.glob, wraps, plain, Int.ofNat_eq_natCast]; first | done | omega | trivial | (simp; done) | (simp; omega) | (constructor <;> omega)) | (simp (disch := omega) only [hS.glob, wraps, plain, Int.ofNat_eq_natCast, Vx.toN]; omega)), fun j hj => leaf (by simp [hS.glob]) (by simp [hS.glob]) _ JO JO i (fun _ _ => rfl) (hjo i) j hj⟩, rfl⟩, trivial⟩ (by rw [hC]; simp)
  refine V.freeze0 5 0 n (by rfl) (by rfl) (by rfl) (by first | decide | omega | exact (Nat.succ_pos _)) (by rfl) (by rfl) (by first | exact Nat.le_refl _ | decide | omega | (simp only [Cont.n]; omega)) ?_
  refine V.goF (by first | exact trivial | assumption) Try.func8 tl_ok mixed hS.ops [] 400 ?_
  intro VV VA W hVV hVA hW
  conv => cbv
  rw [hVV]
  clear hVV hVA VV VA hW W
  refine V.call rfl rfl rfl rfl rfl Try.func19 rfl (by decide) [] (by simp) (by simp) (by (first | rfl | ((conv => cbv); (repeat' apply And.intro) <;> first | rfl | trivial | (first | rfl | omega | (simp (disch := omega) only [hS.glob, wraps, plain, Int.ofNat_eq_natCast]; first | done | rfl | omega | (simp; done) | (simp; omega)) | (simp (disch := omega) only [hS.glob, wraps, plain, Int.ofNat_eq_natCast, Vx.toN]; omega))))) rfl (f19_ok n hn JO) ?_
  rintro r Hc ⟨rfl, K, f0, ⟨s, rfl, hS0⟩, rfl⟩
  have e0 := hes.trans hS0.symm
  have eK : t.K = K := by
    have := congrArg List.length e0
    rwa [tab_len, tab_len] at this
  rw [eK] at e0
  have es := tab_inj e0
  obtain ⟨PT, hPT⟩ : ∃ PT, PT = ptc (partOf t) := ⟨_, rfl⟩
  rw [eK, ← hPT] at hQ
  rw [eK] at hat1 hat2 hKn
  refine V.goF (by first | exact trivial | assumption) Try.func8 tl_ok mixed hS.ops [] 400 ?_
  intro VV VA W hVV hVA hW
  conv => cbv
  rw [hVV]
  clear hVV hVA VV VA hW W
  refine V.phantom 8 39 5 PT rfl ?_
  refine V.pick [1] (by decide) (by rw [hC]; exact begins_of rfl) (by rfl) (by rfl) ?_
  refine V.to (s' := [(9, .int .i64 (ofN 0)), (8, .sl 0 0 0), (7, .rows 1 K (icol .i64 s)), (0, .rows 9 n (prc p)), (1, .rows 6 ns (spc l))]) (H' := [some ⟨39, 5, .arr 0 PT⟩]) ?_ (by (repeat' first | exact trivial | rfl | (refine And.intro ?_ ?_) | (refine sti ?_; (first | rfl | omega | (simp (disch := omega) only [hS.glob, wraps, plain, Int.ofNat_eq_natCast]; first | done | rfl | omega | (simp; done) | (simp; omega)) | (simp (disch := omega) only [hS.glob, wraps, plain, Int.ofNat_eq_natCast, Vx.toN]; omega))) | (refine slq ?_ ?_ ?_ <;> (first | rfl | omega | (simp (disch := omega) only [hS.glob, wraps, plain, Int.ofNat_eq_natCast]; first | done | rfl | omega | (simp; done) | (simp; omega)) | (simp (disch := omega) only [hS.glob, wraps, plain, Int.ofNat_eq_natCast, Vx.toN]; omega))) | (refine ptq ?_ ?_ ?_ <;> (first | rfl | omega | (simp (disch := omega) only [hS.glob, wraps, plain, Int.ofNat_eq_natCast]; first | done | rfl | omega | (simp; done) | (simp; omega)) | (simp (disch := omega) only [hS.glob, wraps, plain, Int.ofNat_eq_natCast, Vx.toN]; omega))) | (refine blq ?_; (first | rfl | omega | (simp (disch := omega) only [hS.glob, wraps, plain, Int.ofNat_eq_natCast]; first | done | rfl | omega | (simp; done) | (simp; omega)) | (simp (disch := omega) only [hS.glob, wraps, plain, Int.ofNat_eq_natCast, Vx.toN]; omega))))) rfl (by (repeat' first | exact trivial | rfl | exact Nat.le_refl _ | exact (fun _ _ => rfl) | (refine And.intro ?_ ?_) | (simp only [hS.glob, plain]; first | done | omega))) (by rw [hC]; simp)
  refine V.loop (γ := Nat) (fun k => k ≤ K) (fun k => [(9, .int .i64 (ofN k)), (8, .sl 0 0 k), (7, .rows 1 K (icol .i64 s)), (0, .rows 9 n (prc p)), (1, .rows 6 ns (spc l))]) (fun k => [some ⟨39, 5, .arr k PT⟩]) (fun k => K - k) ?_ 0 (Nat.zero_le _)
  intro k hk hback
  refine V.goF (by first | exact trivial | assumption) Try.func8 tl_ok mixed hS.ops [] 400 ?_
  intro VV VA W hVV hVA hW
  conv => cbv
  cases h1 : ilt (ofN k) (ofN K)
  · conv => cbv
    simp (disch := first | omega | (simp only [hS.glob, wraps, plain, Int.ofNat_eq_natCast]; omega)) only [hS.glob, wraps, plain, Int.ofNat_eq_natCast] at h1
    obtain rfl : K = k := by omega
    rw [hQ]
    exact .inr ⟨0, 39, K, _, rfl, Nat.le_refl _, rfl, fun _ _ => rfl⟩
  conv => cbv
  simp (disch := first | omega | (simp only [hS.glob, wraps, plain, Int.ofNat_eq_natCast]; omega)) only [hS.glob, wraps, plain, Int.ofNat_eq_natCast] at h1
  obtain ⟨q1, q2⟩ := hat1 k (by omega)
  have hsk : s k = ofN (t.q k) := by rw [← es k (by omega), q1]; (first | rfl | omega | (simp (disch := omega) only [hS.glob, wraps, plain, Int.ofNat_eq_natCast]; first | done | rfl | omega | (simp; done) | (simp; omega)) | (simp (disch := omega) only [hS.glob, wraps, plain, Int.ofNat_eq_natCast, Vx.toN]; omega))
  obtain ⟨q, hq⟩ : ∃ q, q = t.q k := ⟨_, rfl⟩
  rw [← hq] at hsk q1 q2
  obtain ⟨T0, hT0⟩ : ∃ T0, T0 = t.to k := ⟨_, rfl⟩
  have hto : T0 = if k + 1 < K then s (k + 1) else n := by
    rw [hT0]; unfold Tx.to toI; rw [eK, hOf.en]
    by_cases h : k + 1 < K
    · rw [if_pos h, if_pos h, es _ h]
    · rw [if_neg h, if_neg h]
  obtain ⟨tn, ht1, ht2⟩ : ∃ tn : Nat, T0 = tn ∧ tn ≤ n := by
    by_cases h : k + 1 < K
    · rw [if_pos h, ← es _ h, (hat1 _ h).1] at hto
      exact ⟨_, hto, by have := (hat1 _ h).2; omega⟩
    · rw [if_neg h] at hto
      exact ⟨n, hto, Nat.le_refl _⟩
  obtain ⟨SP, hSP⟩ : ∃ SP, SP = t.spn k := ⟨_, rfl⟩
  obtain ⟨A, hA⟩ : ∃ A, A = atF l (q : Int) 0 ns := ⟨_, rfl⟩
  have hSPn : A = none → SP = -1 := fun h => by
    rw [hSP]; unfold Tx.spn; simp only [hOf.el, hOf.ens, ← hq, ← hA, h]
  have hSPs : ∀ j, A = some j → SP = j := fun j h => by
    rw [hSP]; unfold Tx.spn; simp only [hOf.el, hOf.ens, ← hq, ← hA, h]
  obtain ⟨EN, hEN⟩ : ∃ EN, EN = decide ((p q).ki = 11) := ⟨_, rfl⟩
  have hENi : EN = ieq (p q).ki 11 := by rw [hEN]; simp only [hS.glob]; rfl
  have hki : t.ki k = (p q).ki := by unfold Tx.ki; rw [hOf.ep, ← hq]
  repeat (refine ⟨by first | (rw [hW]; show ordOk _ _ _ = true; kernel_rfl) | (first | trivial | omega | (simp (disch := omega) only [hS.glob, wraps, plain, Int.ofNat_eq_natCast]; first | done | omega | trivial | (simp; done) | (simp; omega) | (constructor <;> omega)) | (simp (disch := omega) only [hS.glob, wraps, plain, Int.ofNat_eq_natCast, Vx.toN]; omega)), ?_⟩)
  simp only [hS.tidy, hsk]
  have e1 : iadd .i64 (ofN k) 1 = ofN (k + 1) := by (first | rfl | omega | (simp (disch := omega) only [hS.glob, wraps, plain, Int.ofNat_eq_natCast]; first | done | rfl | omega | (simp; done) | (simp; omega)) | (simp (disch := omega) only [hS.glob, wraps, plain, Int.ofNat_eq_natCast, Vx.toN]; omega))
  simp only [e1]
  apply cut
  · intro next
    cases h2 : ilt (ofN (k + 1)) (ofN K)
    case' false =>
      conv => cbv
      simp (disch := first | omega | (simp only [hS.glob, wraps, plain, Int.ofNat_eq_natCast]; omega)) only [hS.glob, wraps, plain, Int.ofNat_eq_natCast] at h2
      rw [if_neg (by omega)] at hto
    case' true =>
      conv => cbv
      simp (disch := first | omega | (simp only [hS.glob, wraps, plain, Int.ofNat_eq_natCast]; omega)) only [hS.glob, wraps, plain, Int.ofNat_eq_natCast] at h2
      rw [if_pos (by omega)] at hto
      simp only [e1]
      repeat (refine ⟨by first | (rw [hW]; show ordOk _ _ _ = true; kernel_rfl) | (first | trivial | omega | (simp (disch := omega) only [hS.glob, wraps, plain, Int.ofNat_eq_natCast]; first | done | omega | trivial | (simp; done) | (simp; omega) | (constructor <;> omega)) | (simp (disch := omega) only [hS.glob, wraps, plain, Int.ofNat_eq_natCast, Vx.toN]; omega)), ?_⟩)
      simp only [hS.tidy]
    all_goals
      rw [hVV]
      exact V.to (s' := [(56, .rows 6 ns (spc l)), (58, .int .i64 (ofN q)), (10, .ptr 1 0 0), (9, .int .i64 (ofN k)), (8, .sl 0 0 k), (7, .rows 1 K (icol .i64 s)), (0, .rows 9 n (prc p)), (1, .rows 6 ns (spc l))]) (H' := [some ⟨39, 5, .arr k PT⟩, some ⟨39, 5, .lit [[.int .i64 (ofN q), .int .i64 T0, .int .i64 (-1), .bool false, .bool false]]⟩]) next.get (by (repeat' first | exact trivial | rfl | (refine And.intro ?_ ?_) | (refine sti ?_; (first | rfl | omega | (simp (disch := omega) only [hS.glob, wraps, plain, Int.ofNat_eq_natCast]; first | done | rfl | omega | (simp; done) | (simp; omega)) | (simp (disch := omega) only [hS.glob, wraps, plain, Int.ofNat_eq_natCast, Vx.toN]; omega))) | (refine slq ?_ ?_ ?_ <;> (first | rfl | omega | (simp (disch := omega) only [hS.glob, wraps, plain, Int.ofNat_eq_natCast]; first | done | rfl | omega | (simp; done) | (simp; omega)) | (simp (disch := omega) only [hS.glob, wraps, plain, Int.ofNat_eq_natCast, Vx.toN]; omega))) | (refine ptq ?_ ?_ ?_ <;> (first | rfl | omega | (simp (disch := omega) only [hS.glob, wraps, plain, Int.ofNat_eq_natCast]; first | done | rfl | omega | (simp; done) | (simp; omega)) | (simp (disch := omega) only [hS.glob, wraps, plain, Int.ofNat_eq_natCast, Vx.toN]; omega))) | (refine blq ?_; (first | rfl | omega | (simp (disch := omega) only [hS.glob, wraps, plain, Int.ofNat_eq_natCast]; first | done | rfl | omega | (simp; done) | (simp; omega)) | (simp (disch := omega) only [hS.glob, wraps, plain, Int.ofNat_eq_natCast, Vx.toN]; omega))))) rfl (by
        rw [hto]
        refine ⟨⟨rfl, rfl, ⟨Nat.le_refl _, fun _ _ => rfl⟩, rfl⟩, ⟨rfl, rfl, ?_, rfl⟩, trivial⟩
        first | rfl | (simp only [hS.glob, plain]; rfl)) (by rw [hC]; simp)
  clear hVV hVA VV VA hW W
  apply cut
  · intro next
    refine V.call rfl rfl rfl rfl rfl Try.func20 rfl (by decide) [] (by simp) (by simp) (by (first | rfl | ((conv => cbv); (repeat' apply And.intro) <;> first | rfl | trivial | (first | rfl | omega | (simp (disch := omega) only [hS.glob, wraps, plain, Int.ofNat_eq_natCast]; first | done | rfl | omega | (simp; done) | (simp; omega)) | (simp (disch := omega) only [hS.glob, wraps, plain, Int.ofNat_eq_natCast, Vx.toN]; omega))))) rfl (f20_ok ns hns l (ofN q) A (by rw [hA]; simp only [hS.glob, Vx.ofN])) ?_
    rintro r Hc ⟨rfl, ⟨h6, rfl⟩ | ⟨j, h6, z, hz, rfl⟩⟩
    · have hx1 : SP = -1 := hSPn h6
      refine V.goF (by first | exact trivial | assumption) Try.func8 tl_ok mixed hS.ops [] 400 ?_
      intro VV VA W hVV hVA hW
      conv => cbv
      repeat (refine ⟨by first | (rw [hW]; show ordOk _ _ _ = true; kernel_rfl) | (first | trivial | omega | (simp (disch := omega) only [hS.glob, wraps, plain, Int.ofNat_eq_natCast]; first | done | omega | trivial | (simp; done) | (simp; omega) | (constructor <;> omega)) | (simp (disch := omega) only [hS.glob, wraps, plain, Int.ofNat_eq_natCast, Vx.toN]; omega)), ?_⟩)
      simp only [hS.tidy]
      rw [hVV]
      exact V.to (s' := [(13, .int .i64 (ofN q)), (10, .ptr 1 0 0), (9, .int .i64 (ofN k)), (8, .sl 0 0 k), (7, .rows 1 K (icol .i64 s)), (0, .rows 9 n (prc p)), (1, .rows 6 ns (spc l))]) (H' := [some ⟨39, 5, .arr k PT⟩, some ⟨39, 5, .lit [[.int .i64 (ofN q), .int .i64 T0, .int .i64 SP, .bool false, .bool EN]]⟩]) next.get (by (repeat' first | exact trivial | rfl | (refine And.intro ?_ ?_) | (refine sti ?_; (first | rfl | omega | (simp (disch := omega) only [hS.glob, wraps, plain, Int.ofNat_eq_natCast]; first | done | rfl | omega | (simp; done) | (simp; omega)) | (simp (disch := omega) only [hS.glob, wraps, plain, Int.ofNat_eq_natCast, Vx.toN]; omega))) | (refine slq ?_ ?_ ?_ <;> (first | rfl | omega | (simp (disch := omega) only [hS.glob, wraps, plain, Int.ofNat_eq_natCast]; first | done | rfl | omega | (simp; done) | (simp; omega)) | (simp (disch := omega) only [hS.glob, wraps, plain, Int.ofNat_eq_natCast, Vx.toN]; omega))) | (refine ptq ?_ ?_ ?_ <;> (first | rfl | omega | (simp (disch := omega) only [hS.glob, wraps, plain, Int.ofNat_eq_natCast]; first | done | rfl | omega | (simp; done) | (simp; omega)) | (simp (disch := omega) only [hS.glob, wraps, plain, Int.ofNat_eq_natCast, Vx.toN]; omega))) | (refine blq ?_; (first | rfl | omega | (simp (disch := omega) only [hS.glob, wraps, plain, Int.ofNat_eq_natCast]; first | done | rfl | omega | (simp; done) | (simp; omega)) | (simp (disch := omega) only [hS.glob, wraps, plain, Int.ofNat_eq_natCast, Vx.toN]; omega))))) rfl (by
        rw [hx1, hENi]
        exact ⟨⟨rfl, rfl, ⟨Nat.le_refl _, fun _ _ => rfl⟩, rfl⟩, ⟨rfl, rfl, rfl, rfl⟩, trivial⟩) (by rw [hC]; simp)
    · have hx1 : SP = z := (hSPs j h6).trans hz.symm
      refine V.goF (by first | exact trivial | assumption) Try.func8 tl_ok mixed hS.ops [] 400 ?_
      intro VV VA W hVV hVA hW
      conv => cbv
      repeat (refine ⟨by first | (rw [hW]; show ordOk _ _ _ = true; kernel_rfl) | (first | trivial | omega | (simp (disch := omega) only [hS.glob, wraps, plain, Int.ofNat_eq_natCast]; first | done | omega | trivial | (simp; done) | (simp; omega) | (constructor <;> omega)) | (simp (disch := omega) only [hS.glob, wraps, plain, Int.ofNat_eq_natCast, Vx.toN]; omega)), ?_⟩)
      simp only [hS.tidy]
      rw [hVV]
      exact V.to (s' := [(13, .int .i64 (ofN q)), (10, .ptr 1 0 0), (9, .int .i64 (ofN k)), (8, .sl 0 0 k), (7, .rows 1 K (icol .i64 s)), (0, .rows 9 n (prc p)), (1, .rows 6 ns (spc l))]) (H' := [some ⟨39, 5, .arr k PT⟩, some ⟨39, 5, .lit [[.int .i64 (ofN q), .int .i64 T0, .int .i64 SP, .bool false, .bool EN]]⟩]) next.get (by (repeat' first | exact trivial | rfl | (refine And.intro ?_ ?_) | (refine sti ?_; (first | rfl | omega | (simp (disch := omega) only [hS.glob, wraps, plain, Int.ofNat_eq_natCast]; first | done | rfl | omega | (simp; done) | (simp; omega)) | (simp (disch := omega) only [hS.glob, wraps, plain, Int.ofNat_eq_natCast, Vx.toN]; omega))) | (refine slq ?_ ?_ ?_ <;> (first | rfl | omega | (simp (disch := omega) only [hS.glob, wraps, plain, Int.ofNat_eq_natCast]; first | done | rfl | omega | (simp; done) | (simp; omega)) | (simp (disch := omega) only [hS.glob, wraps, plain, Int.ofNat_eq_natCast, Vx.toN]; omega))) | (refine ptq ?_ ?_ ?_ <;> (first | rfl | omega | (simp (disch := omega) only [hS.glob, wraps, plain, Int.ofNat_eq_natCast]; first | done | rfl | omega | (simp; done) | (simp; omega)) | (simp (disch := omega) only [hS.glob, wraps, plain, Int.ofNat_eq_natCast, Vx.toN]; omega))) | (refine blq ?_; (first | rfl | omega | (simp (disch := omega) only [hS.glob, wraps, plain, Int.ofNat_eq_natCast]; first | done | rfl | omega | (simp; done) | (simp; omega)) | (simp (disch := omega) only [hS.glob, wraps, plain, Int.ofNat_eq_natCast, Vx.toN]; omega))))) rfl (by
        rw [hx1, hENi]
        exact ⟨⟨rfl, rfl, ⟨Nat.le_refl _, fun _ _ => rfl⟩, rfl⟩, ⟨rfl, rfl, rfl, rfl⟩, trivial⟩) (by rw [hC]; simp)
  have hT0n : T0 = ofN tn := by rw [ht1]; (first | rfl | omega | (simp (disch := omega) only [hS.glob, wraps, plain, Int.ofNat_eq_natCast]; first | done | rfl | omega | (simp; done) | (simp; omega)) | (simp (disch := omega) only [hS.glob, wraps, plain, Int.ofNat_eq_natCast, Vx.toN]; omega))
  refine V.loop (γ := Nat × Bool) (fun w => q ≤ w.1 ∧ (w.2 = true ↔ ∃ j, q ≤ j ∧ j < w.1 ∧ remB (p j).cl = false) ∧ (w.1 ≤ tn ∨ w.1 = q)) (fun w => [(13, .int .i64 (ofN w.1)), (10, .ptr 1 0 0), (9, .int .i64 (ofN k)), (8, .sl 0 0 k), (7, .rows 1 K (icol .i64 s)), (0, .rows 9 n (prc p)), (1, .rows 6 ns (spc l))]) (fun w => [some ⟨39, 5, .arr k PT⟩, some ⟨39, 5, .lit [[.int .i64 (ofN q), .int .i64 T0, .int .i64 SP, .bool w.2, .bool EN]]⟩]) (fun w => tn - w.1) ?_ (q, false) ⟨Nat.le_refl _, ⟨fun h => (by cases h), fun ⟨j, h1, h2, _⟩ => absurd h1 (by omega)⟩, .inr rfl⟩
  rintro ⟨i, B⟩ ⟨hi, hB, hit⟩ hback2
  dsimp only at hi hB hit hback2 ⊢
  refine V.goF (by first | exact trivial | assumption) Try.func8 tl_ok mixed hS.ops [] 400 ?_
  intro VV VA W hVV hVA hW
  conv => cbv
  rw [hT0n]
  cases h3 : ilt (ofN i) (ofN tn)
  case true =>
    conv => cbv
    simp (disch := first | omega | (simp only [hS.glob, wraps, plain, Int.ofNat_eq_natCast]; omega)) only [hS.glob, wraps, plain, Int.ofNat_eq_natCast] at h3
    repeat (refine ⟨by first | (rw [hW]; show ordOk _ _ _ = true; kernel_rfl) | (first | trivial | omega | (simp (disch := omega) only [hS.glob, wraps, plain, Int.ofNat_eq_natCast]; first | done | omega | trivial | (simp; done) | (simp; omega) | (constructor <;> omega)) | (simp (disch := omega) only [hS.glob, wraps, plain, Int.ofNat_eq_natCast, Vx.toN]; omega)), ?_⟩)
    simp only [hS.tidy]
    obtain ⟨X, hX⟩ : ∃ X, X = remB (p i).cl := ⟨_, rfl⟩
    rw [hVV]
    clear hVV hVA VV VA hW W
    refine V.call rfl rfl rfl rfl rfl Try.func10 rfl (by decide) [] (by simp) (by simp) (by (first | rfl | ((conv => cbv); (repeat' apply And.intro) <;> first | rfl | trivial | (first | rfl | omega | (simp (disch := omega) only [hS.glob, wraps, plain, Int.ofNat_eq_natCast]; first | done | rfl | omega | (simp; done) | (simp; omega)) | (simp (disch := omega) only [hS.glob, wraps, plain, Int.ofNat_eq_natCast, Vx.toN]; omega))))) rfl (f10_ok (p i).cl X hX) ?_
    rintro r Hc ⟨rfl, rfl⟩
    refine V.goF (by first | exact trivial | assumption) Try.func8 tl_ok mixed hS.ops [] 400 ?_
    intro VV VA W hVV hVA hW
    conv => cbv
    have hn1 : (B || !X) = true ↔ ∃ j, q ≤ j ∧ j < i + 1 ∧ remB (p j).cl = false := by
      rw [Bool.or_eq_true, hB]
      constructor
      · rintro (⟨j, h4, h5, h6⟩ | h4)
        · exact ⟨j, h4, by omega, h6⟩
        · exact ⟨i, hi, by omega, by rw [← hX]; simpa using h4⟩
      · rintro ⟨j, h4, h5, h6⟩
        rcases Nat.lt_or_ge j i with h | h
        · exact .inl ⟨j, h4, h, h6⟩
        · obtain rfl : j = i := by omega
          right; rw [← hX] at h6; simp [h6]
    cases B
    · conv => cbv
      rw [hVV]
      clear hVV hVA VV VA hW W
      refine V.to (hback2 (i + 1, !X) ⟨by simp only; omega, by simpa using hn1, by simp only; omega⟩ (by simp only; omega)) (by (repeat' first | exact trivial | rfl | (refine And.intro ?_ ?_) | (refine sti ?_; (first | rfl | omega | (simp (disch := omega) only [hS.glob, wraps, plain, Int.ofNat_eq_natCast]; first | done | rfl | omega | (simp; done) | (simp; omega)) | (simp (disch := omega) only [hS.glob, wraps, plain, Int.ofNat_eq_natCast, Vx.toN]; omega))) | (refine slq ?_ ?_ ?_ <;> (first | rfl | omega | (simp (disch := omega) only [hS.glob, wraps, plain, Int.ofNat_eq_natCast]; first | done | rfl | omega | (simp; done) | (simp; omega)) | (simp (disch := omega) only [hS.glob, wraps, plain, Int.ofNat_eq_natCast, Vx.toN]; omega))) | (refine ptq ?_ ?_ ?_ <;> (first | rfl | omega | (simp (disch := omega) only [hS.glob, wraps, plain, Int.ofNat_eq_natCast]; first | done | rfl | omega | (simp; done) | (simp; omega)) | (simp (disch := omega) only [hS.glob, wraps, plain, Int.ofNat_eq_natCast, Vx.toN]; omega))) | (refine blq ?_; (first | rfl | omega | (simp (disch := omega) only [hS.glob, wraps, plain, Int.ofNat_eq_natCast]; first | done | rfl | omega | (simp; done) | (simp; omega)) | (simp (disch := omega) only [hS.glob, wraps, plain, Int.ofNat_eq_natCast, Vx.toN]; omega))))) rfl ?_ (by rw [hC]; simp)
      rw [hT0n]
      refine ⟨⟨rfl, rfl, ⟨Nat.le_refl _, fun _ _ => rfl⟩, rfl⟩, ⟨rfl, rfl, ?_, rfl⟩, trivial⟩
      simp only [hS.glob]
      rfl
    · conv => cbv
      rw [hVV]
      clear hVV hVA VV VA hW W
      refine V.to (hback2 (i + 1, true) ⟨by simp only; omega, by simpa using hn1, by simp only; omega⟩ (by simp only; omega)) (by (repeat' first | exact trivial | rfl | (refine And.intro ?_ ?_) | (refine sti ?_; (first | rfl | omega | (simp (disch := omega) only [hS.glob, wraps, plain, Int.ofNat_eq_natCast]; first | done | rfl | omega | (simp; done) | (simp; omega)) | (simp (disch := omega) only [hS.glob, wraps, plain, Int.ofNat_eq_natCast, Vx.toN]; omega))) | (refine slq ?_ ?_ ?_ <;> (first | rfl | omega | (simp (disch := omega) only [hS.glob, wraps, plain, Int.ofNat_eq_natCast]; first | done | rfl | omega | (simp; done) | (simp; omega)) | (simp (disch := omega) only [hS.glob, wraps, plain, Int.ofNat_eq_natCast, Vx.toN]; omega))) | (refine ptq ?_ ?_ ?_ <;> (first | rfl | omega | (simp (disch := omega) only [hS.glob, wraps, plain, Int.ofNat_eq_natCast]; first | done | rfl | omega | (simp; done) | (simp; omega)) | (simp (disch := omega) only [hS.glob, wraps, plain, Int.ofNat_eq_natCast, Vx.toN]; omega))) | (refine blq ?_; (first | rfl | omega | (simp (disch := omega) only [hS.glob, wraps, plain, Int.ofNat_eq_natCast]; first | done | rfl | omega | (simp; done) | (simp; omega)) | (simp (disch := omega) only [hS.glob, wraps, plain, Int.ofNat_eq_natCast, Vx.toN]; omega))))) rfl ?_ (by rw [hC]; simp)
      rw [hT0n]
      exact ⟨⟨rfl, rfl, ⟨Nat.le_refl _, fun _ _ => rfl⟩, rfl⟩, ⟨rfl, rfl, rfl, rfl⟩, trivial⟩
  conv => cbv
  simp (disch := first | omega | (simp only [hS.glob, wraps, plain, Int.ofNat_eq_natCast]; omega)) only [hS.glob, wraps, plain, Int.ofNat_eq_natCast] at h3
  have hkept : t.kept k ↔ B = true := by
    rw [hB]
    unfold Tx.kept
    rw [hOf.ep, ← hT0, q1, ht1]
    constructor
    · rintro ⟨j, h4, h5, h6⟩
      exact ⟨j, by omega, by omega, h6⟩
    · rintro ⟨j, h4, h5, h6⟩
      refine ⟨j, by omega, ?_, h6⟩
      rcases hit with h | h <;> omega
  have hlaid : @decide (t.laid k) (Classical.propDecidable _) = (B && !EN) := by
    have key : t.laid k ↔ (B && !EN) = true := by
      rw [Bool.and_eq_true, Bool.not_eq_true', hEN, decide_eq_false_iff_not]
      unfold Tx.laid
      rw [hkept, hki]
    cases h : (B && !EN)
    · exact @decide_eq_false _ (Classical.propDecidable _) (fun h2 => by rw [key.1 h2] at h; cases h)
    · exact @decide_eq_true _ (Classical.propDecidable _) (key.2 h)
  have hrow : PT k = [.int .i64 (q : Int), .int .i64 tn, .int .i64 SP, .bool (B && !EN), .bool EN] := by
    rw [hPT]
    simp only [ptc, partOf]
    rw [q1, ← hT0, ← hSP, hlaid, hki, hEN, ht1]
  clear hlaid hkept hENi hPT
  have hfin : ∀ X : Bool, X = (B && !EN) → PT k = [.int .i64 (ofN q), .int .i64 (ofN tn), .int .i64 SP, .bool X, .bool EN] := fun X h => by
    rw [hrow, h]; simp only [hS.glob, plain]
  cases B
  · conv => cbv
    repeat (refine ⟨by first | (rw [hW]; show ordOk _ _ _ = true; kernel_rfl) | (first | trivial | omega | (simp (disch := omega) only [hS.glob, wraps, plain, Int.ofNat_eq_natCast]; first | done | omega | trivial | (simp; done) | (simp; omega) | (constructor <;> omega)) | (simp (disch := omega) only [hS.glob, wraps, plain, Int.ofNat_eq_natCast, Vx.toN]; omega)), ?_⟩)
    rw [hVV]
    clear hVV hVA VV VA hW W
    refine V.pick [3] (by decide) (by rw [hC]; exact begins_of rfl) (by rfl) (by rfl) ?_
    exact V.to (hback (k + 1) (by omega) (by omega)) (by (repeat' first | exact trivial | rfl | (refine And.intro ?_ ?_) | (refine sti ?_; (first | rfl | omega | (simp (disch := omega) only [hS.glob, wraps, plain, Int.ofNat_eq_natCast]; first | done | rfl | omega | (simp; done) | (simp; omega)) | (simp (disch := omega) only [hS.glob, wraps, plain, Int.ofNat_eq_natCast, Vx.toN]; omega))) | (refine slq ?_ ?_ ?_ <;> (first | rfl | omega | (simp (disch := omega) only [hS.glob, wraps, plain, Int.ofNat_eq_natCast]; first | done | rfl | omega | (simp; done) | (simp; omega)) | (simp (disch := omega) only [hS.glob, wraps, plain, Int.ofNat_eq_natCast, Vx.toN]; omega))) | (refine ptq ?_ ?_ ?_ <;> (first | rfl | omega | (simp (disch := omega) only [hS.glob, wraps, plain, Int.ofNat_eq_natCast]; first | done | rfl | omega | (simp; done) | (simp; omega)) | (simp (disch := omega) only [hS.glob, wraps, plain, Int.ofNat_eq_natCast, Vx.toN]; omega))) | (refine blq ?_; (first | rfl | omega | (simp (disch := omega) only [hS.glob, wraps, plain, Int.ofNat_eq_natCast]; first | done | rfl | omega | (simp; done) | (simp; omega)) | (simp (disch := omega) only [hS.glob, wraps, plain, Int.ofNat_eq_natCast, Vx.toN]; omega))))) rfl ⟨⟨rfl, rfl, ⟨by show k + 1 ≤ addN k 1; (first | trivial | omega | (simp (disch := omega) only [hS.glob, wraps, plain, Int.ofNat_eq_natCast]; first | done | omega | trivial | (simp; done) | (simp; omega) | (constructor <;> omega)) | (simp (disch := omega) only [hS.glob, wraps, plain, Int.ofNat_eq_natCast, Vx.toN]; omega)), fun j hj => leafR (by simp [hS.glob]) (by simp [hS.glob]) _ PT PT k (fun _ _ => rfl) (hfin _ rfl) j hj⟩, rfl⟩, trivial⟩ (by rw [hC]; simp)
  · conv => cbv
    repeat (refine ⟨by first | (rw [hW]; show ordOk _ _ _ = true; kernel_rfl) | (first | trivial | omega | (simp (disch := omega) only [hS.glob, wraps, plain, Int.ofNat_eq_natCast]; first | done | omega | trivial | (simp; done) | (simp; omega) | (constructor <;> omega)) | (simp (disch := omega) only [hS.glob, wraps, plain, Int.ofNat_eq_natCast, Vx.toN]; omega)), ?_⟩)
    rw [hVV]
    clear hVV hVA VV VA hW W
    refine V.pick [3] (by decide) (by rw [hC]; exact begins_of rfl) (by rfl) (by rfl) ?_
    exact V.to (hback (k + 1) (by omega) (by omega)) (by (repeat' first | exact trivial | rfl | (refine And.intro ?_ ?_) | (refine sti ?_; (first | rfl | omega | (simp (disch := omega) only [hS.glob, wraps, plain, Int.ofNat_eq_natCast]; first | done | rfl | omega | (simp; done) | (simp; omega)) | (simp (disch := omega) only [hS.glob, wraps, plain, Int.ofNat_eq_natCast, Vx.toN]; omega))) | (refine slq ?_ ?_ ?_ <;> (first | rfl | omega | (simp (disch := omega) only [hS.glob, wraps, plain, Int.ofNat_eq_natCast]; first | done | rfl | omega | (simp; done) | (simp; omega)) | (simp (disch := omega) only [hS.glob, wraps, plain, Int.ofNat_eq_natCast, Vx.toN]; omega))) | (refine ptq ?_ ?_ ?_ <;> (first | rfl | omega | (simp (disch := omega) only [hS.glob, wraps, plain, Int.ofNat_eq_natCast]; first | done | rfl | omega | (simp; done) | (simp; omega)) | (simp (disch := omega) only [hS.glob, wraps, plain, Int.ofNat_eq_natCast, Vx.toN]; omega))) | (refine blq ?_; (first | rfl | omega | (simp (disch := omega) only [hS.glob, wraps, plain, Int.ofNat_eq_natCast]; first | done | rfl | omega | (simp; done) | (simp; omega)) | (simp (disch := omega) only [hS.glob, wraps, plain, Int.ofNat_eq_natCast, Vx.toN]; omega))))) rfl ⟨⟨rfl, rfl, ⟨by show k + 1 ≤ addN k 1; (first | trivial | omega | (simp (disch := omega) only [hS.glob, wraps, plain, Int.ofNat_eq_natCast]; first | done | omega | trivial | (simp; done) | (simp; omega) | (constructor <;> omega)) | (simp (disch := omega) only [hS.glob, wraps, plain, Int.ofNat_eq_natCast, Vx.toN]; omega)), fun j hj => leafR (by simp [hS.glob]) (by simp [hS.glob]) _ PT PT k (fun _ _ => rfl) (hfin _ (by generalize EN = e; cases e <;> first | rfl | (simp only [hS.glob]; rfl))) j hj⟩, rfl⟩, trivial⟩ (by rw [hC]; simp)
theorem f8_ok (n : Nat) (hn : n ≤ 2000000) (p : Nat → Pr) (ns : Nat) (hns : ns ≤ 2000000) (l : Nat → Sp) : FSpec Try.prog 8 [.rows 9 n (prc p), .rows 6 ns (spc l)] [] (fun r H' => H' = [] ∧ ∃ k f, (k = (canT n p ns l 0).K ∧ f = ptc (partOf (canT n p ns l 0))) ∧ r = .rows 5 k f) := by
  refine FSpec.froz (by decide) (f8_ok1 n hn p ns hns l) ?_
  rintro r H' h
  exact ⟨_, _, ⟨rfl, rfl⟩, h⟩
end Go.Proofs.Ytngagepodbcohaa

/- Which item has a scalar. -/
namespace Go.Proofs.Ytngagepodbcohaa
open Go Vx
set_option maxRecDepth 100000
theorem f22_ok (x : It) (i R : Int) (hb : 0 ≤ x.to ∧ x.to ≤ 9223372036854775807) (hR : R = cmpC (x.to - 1) i) : FSpec Try.prog 22 [.agg [.int .i64 x.fr, .int .i64 x.to, .int .i64 x.wy, .int .i64 x.rc, .int .i64 x.rb, .int .i64 x.en, .bool x.gr], .int .i64 i] [] (fun r H' => r = .int .i64 R ∧ H' = []) := by
  refine pure_of rfl ?_
  obtain ⟨b, hb2⟩ : ∃ b, b = x.to := ⟨_, rfl⟩
  rw [← hb2] at hb hR
  rw [← hb2]
  refine FSpec.of (fn := Try.f22) Try.func22 rfl rfl (by simp) fun C hC => ?_
  obtain ⟨iadd, isub, imul, iquo, irem, iband, ibor, ibxor, ibandn, ishl, ishr, iconv, ieq, ine, ilt, ile, igt, ige, bbeq, bbne, bnot, bband, sseq, ssne, sscat, sssub, sslen, sssz, ssbyte, toN, ofN, addN, subN, eqN, ltB, leN, imx, imn, inb, leb, sslt, ltN, fit, ne0, ge0, ssfit, minN, inR, bcol, bstr, isBy, hS⟩ := names
  refine V.goF (by first | exact trivial | assumption) Try.func22 tl_ok mixed hS.ops [] 400 ?_
  intro VV VA W hVV hVA hW
  conv => cbv
  have e1 : isub .i64 b 1 = b - 1 := by simp (disch := first | omega | (simp only [hS.glob, wraps, plain, Int.ofNat_eq_natCast]; omega)) only [hS.glob, wraps, plain, Int.ofNat_eq_natCast]
  simp only [e1]
  obtain ⟨y, hy⟩ : ∃ y, y = b - 1 := ⟨_, rfl⟩
  rw [← hy] at hR ⊢
  have h27 := f23_ok y i
  rw [← hR] at h27
  rw [hVV]
  clear hVV hVA VV VA hW W
  refine V.call rfl rfl rfl rfl rfl Try.func23 rfl (by decide) [] (by simp) (by simp) (by (first | rfl | ((conv => cbv); (repeat' apply And.intro) <;> first | rfl | trivial | (first | rfl | omega | (simp (disch := omega) only [hS.glob, wraps, plain, Int.ofNat_eq_natCast]; first | done | rfl | omega | (simp; done) | (simp; omega)) | (simp (disch := omega) only [hS.glob, wraps, plain, Int.ofNat_eq_natCast, Vx.toN]; omega))))) rfl h27 ?_
  rintro r Hc ⟨rfl, rfl⟩
  refine V.goF (by first | exact trivial | assumption) Try.func22 tl_ok mixed hS.ops [] 400 ?_
  intro VV VA W hVV hVA hW
  conv => cbv
  trivial
theorem f21_ok (n : Nat) (hn : n ≤ 2000000) (g : Nat → It) (i : Int) (hpos : ∀ j, j < n → 0 ≤ (g j).to ∧ (g j).to ≤ 9223372036854775807) (hmono : ∀ j k, j < k → k < n → (g j).to ≤ (g k).to) : FSpec Try.prog 21 [.rows 7 n (itc g), .int .i64 i, .fn (.func 22) [] []] [] (fun r H' => H' = [] ∧ ∃ (k : Nat) (z : Int) (b : Bool), r = .tup [.int .i64 z, .bool b] ∧ z = k ∧ k ≤ n ∧ (∀ j, j < k → (g j).to - 1 < i) ∧ ∀ j, k ≤ j → j < n → i ≤ (g j).to - 1) := by
  obtain ⟨Q, hQ⟩ : ∃ Q : AV → Hp → Prop, Q = (fun r H' => H' = [] ∧ ∃ (k : Nat) (z : Int) (b : Bool), r = .tup [.int .i64 z, .bool b] ∧ z = k ∧ k ≤ n ∧ (∀ j, j < k → (g j).to - 1 < i) ∧ ∀ j, k ≤ j → j < n → i ≤ (g j).to - 1) := ⟨_, rfl⟩
  rw [← hQ]
  refine FSpec.of (fn := Try.f21) Try.func21 rfl rfl (by simp) fun C hC => ?_
  obtain ⟨iadd, isub, imul, iquo, irem, iband, ibor, ibxor, ibandn, ishl, ishr, iconv, ieq, ine, ilt, ile, igt, ige, bbeq, bbne, bnot, bband, sseq, ssne, sscat, sssub, sslen, sssz, ssbyte, toN, ofN, addN, subN, eqN, ltB, leN, imx, imn, inb, leb, sslt, ltN, fit, ne0, ge0, ssfit, minN, inR, bcol, bstr, isBy, hS⟩ := names
  refine V.goF (by first | exact trivial | assumption) Try.func21 tl_ok mixed hS.ops [] 400 ?_
  intro VV VA W hVV hVA hW
  conv => cbv
  rw [hVV]
  clear hVV hVA VV VA hW W
  refine V.to (s' := [(9, .int .i64 (ofN 0)), (10, .int .i64 (ofN n)), (8, .int .i64 (ofN n)), (0, .rows 7 n (itc g)), (1, .int .i64 i), (2, .fn (.func 22) [] [])]) (H' := []) ?_ (by (repeat' first | exact trivial | rfl | (refine And.intro ?_ ?_) | (refine sti ?_; (first | rfl | omega | (simp (disch := omega) only [hS.glob, wraps, plain, Int.ofNat_eq_natCast]; first | done | rfl | omega | (simp; done) | (simp; omega)) | (simp (disch := omega) only [hS.glob, wraps, plain, Int.ofNat_eq_natCast, Vx.toN]; omega))) | (refine slq ?_ ?_ ?_ <;> (first | rfl | omega | (simp (disch := omega) only [hS.glob, wraps, plain, Int.ofNat_eq_natCast]; first | done | rfl | omega | (simp; done) | (simp; omega)) | (simp (disch := omega) only [hS.glob, wraps, plain, Int.ofNat_eq_natCast, Vx.toN]; omega))) | (refine ptq ?_ ?_ ?_ <;> (first | rfl | omega | (simp (disch := omega) only [hS.glob, wraps, plain, Int.ofNat_eq_natCast]; first | done | rfl | omega | (simp; done) | (simp; omega)) | (simp (disch := omega) only [hS.glob, wraps, plain, Int.ofNat_eq_natCast, Vx.toN]; omega))) | (refine blq ?_; (first | rfl | omega | (simp (disch := omega) only [hS.glob, wraps, plain, Int.ofNat_eq_natCast]; first | done | rfl | omega | (simp; done) | (simp; omega)) | (simp (disch := omega) only [hS.glob, wraps, plain, Int.ofNat_eq_natCast, Vx.toN]; omega))))) rfl trivial (by rw [hC]; simp)
  refine V.loop (γ := Nat × Nat) (fun p => p.1 ≤ p.2 ∧ p.2 ≤ n ∧ (∀ j, j < p.1 → (g j).to - 1 < i) ∧ ∀ j, p.2 ≤ j → j < n → i ≤ (g j).to - 1) (fun p => [(9, .int .i64 (ofN p.1)), (10, .int .i64 (ofN p.2)), (8, .int .i64 (ofN n)), (0, .rows 7 n (itc g)), (1, .int .i64 i), (2, .fn (.func 22) [] [])]) (fun _ => []) (fun p => p.2 - p.1) ?_ (0, n) ⟨Nat.zero_le _, Nat.le_refl _, fun j hj => absurd hj (Nat.not_lt_zero _), fun j h1 h2 => by omega⟩
  rintro ⟨a, b⟩ ⟨hab, hbn, hlo, hhi⟩ hback
  dsimp only at hab hbn hlo hhi hback ⊢
  refine V.goF (by first | exact trivial | assumption) Try.func21 tl_ok mixed hS.ops [] 400 ?_
  intro VV VA W hVV hVA hW
  conv => cbv
  cases h1 : ilt (ofN a) (ofN b)
  · conv => cbv
    simp (disch := first | omega | (simp only [hS.glob, wraps, plain, Int.ofNat_eq_natCast]; omega)) only [hS.glob, wraps, plain, Int.ofNat_eq_natCast] at h1
    obtain rfl : a = b := by omega
    cases h2 : ilt (ofN a) (ofN n)
    · conv => cbv
      rw [hQ]
      exact ⟨rfl, a, ofN a, _, rfl, by simp (disch := first | omega | (simp only [hS.glob, wraps, plain, Int.ofNat_eq_natCast]; omega)) only [hS.glob, wraps, plain, Int.ofNat_eq_natCast], hbn, hlo, hhi⟩
    · conv => cbv
      simp (disch := first | omega | (simp only [hS.glob, wraps, plain, Int.ofNat_eq_natCast]; omega)) only [hS.glob, wraps, plain, Int.ofNat_eq_natCast] at h2
      repeat (refine ⟨by first | (rw [hW]; show ordOk _ _ _ = true; kernel_rfl) | (first | trivial | omega | (simp (disch := omega) only [hS.glob, wraps, plain, Int.ofNat_eq_natCast]; first | done | omega | trivial | (simp; done) | (simp; omega) | (constructor <;> omega)) | (simp (disch := omega) only [hS.glob, wraps, plain, Int.ofNat_eq_natCast, Vx.toN]; omega)), ?_⟩)
      simp only [hS.tidy]
      rw [hVV]
      clear hVV hVA VV VA hW W
      obtain ⟨R, hR⟩ : ∃ R, R = cmpC ((g a).to - 1) i := ⟨_, rfl⟩
      refine V.call rfl rfl rfl rfl rfl Try.func22 rfl (by decide) [] (by simp) (by simp) (by (first | rfl | ((conv => cbv); (repeat' apply And.intro) <;> first | rfl | trivial | (first | rfl | omega | (simp (disch := omega) only [hS.glob, wraps, plain, Int.ofNat_eq_natCast]; first | done | rfl | omega | (simp; done) | (simp; omega)) | (simp (disch := omega) only [hS.glob, wraps, plain, Int.ofNat_eq_natCast, Vx.toN]; omega))))) rfl (f22_ok (g a) i R (hpos a (by omega)) hR) ?_
      rintro r Hc ⟨rfl, rfl⟩
      refine V.goF (by first | exact trivial | assumption) Try.func21 tl_ok mixed hS.ops [] 400 ?_
      intro VV VA W hVV hVA hW
      conv => cbv
      rw [hQ]
      exact ⟨rfl, a, ofN a, _, rfl, by simp (disch := first | omega | (simp only [hS.glob, wraps, plain, Int.ofNat_eq_natCast]; omega)) only [hS.glob, wraps, plain, Int.ofNat_eq_natCast], hbn, hlo, hhi⟩
  · conv => cbv
    simp (disch := first | omega | (simp only [hS.glob, wraps, plain, Int.ofNat_eq_natCast]; omega)) only [hS.glob, wraps, plain, Int.ofNat_eq_natCast] at h1
    obtain ⟨m, hm⟩ : ∃ m, m = (a + b) / 2 := ⟨_, rfl⟩
    have em : iconv .i64 (ishr .u64 (iconv .u64 (iadd .i64 (ofN a) (ofN b))) 1) = ofN m := by simp only [hS.glob, Vx.ofN]; rw [hm]; exact mid a b (by omega)
    simp only [em]
    repeat (refine ⟨by first | (rw [hW]; show ordOk _ _ _ = true; kernel_rfl) | (first | trivial | omega | (simp (disch := omega) only [hS.glob, wraps, plain, Int.ofNat_eq_natCast]; first | done | omega | trivial | (simp; done) | (simp; omega) | (constructor <;> omega)) | (simp (disch := omega) only [hS.glob, wraps, plain, Int.ofNat_eq_natCast, Vx.toN]; omega)), ?_⟩)
    simp only [hS.tidy]
    rw [hVV]
    clear hVV hVA VV VA hW W
    obtain ⟨R, hR⟩ : ∃ R, R = cmpC ((g m).to - 1) i := ⟨_, rfl⟩
    refine V.call rfl rfl rfl rfl rfl Try.func22 rfl (by decide) [] (by simp) (by simp) (by (first | rfl | ((conv => cbv); (repeat' apply And.intro) <;> first | rfl | trivial | (first | rfl | omega | (simp (disch := omega) only [hS.glob, wraps, plain, Int.ofNat_eq_natCast]; first | done | rfl | omega | (simp; done) | (simp; omega)) | (simp (disch := omega) only [hS.glob, wraps, plain, Int.ofNat_eq_natCast, Vx.toN]; omega))))) rfl (f22_ok (g m) i R (hpos m (by omega)) hR) ?_
    rintro r Hc ⟨rfl, rfl⟩
    refine V.goF (by first | exact trivial | assumption) Try.func21 tl_ok mixed hS.ops [] 400 ?_
    intro VV VA W hVV hVA hW
    conv => cbv
    have hc := cmpC_neg ((g m).to - 1) i
    rw [← hR] at hc
    cases h2 : ilt R 0
    · conv => cbv
      simp (disch := first | omega | (simp only [hS.glob, wraps, plain, Int.ofNat_eq_natCast]; omega)) only [hS.glob, wraps, plain, Int.ofNat_eq_natCast] at h2
      rw [hVV]
      clear hVV hVA VV VA hW W
      refine V.to (hback (a, m) ⟨by simp only; omega, by simp only; omega, hlo, fun j h3 h4 => ?_⟩ (by simp only; omega)) (by (repeat' first | exact trivial | rfl | (refine And.intro ?_ ?_) | (refine sti ?_; (first | rfl | omega | (simp (disch := omega) only [hS.glob, wraps, plain, Int.ofNat_eq_natCast]; first | done | rfl | omega | (simp; done) | (simp; omega)) | (simp (disch := omega) only [hS.glob, wraps, plain, Int.ofNat_eq_natCast, Vx.toN]; omega))) | (refine slq ?_ ?_ ?_ <;> (first | rfl | omega | (simp (disch := omega) only [hS.glob, wraps, plain, Int.ofNat_eq_natCast]; first | done | rfl | omega | (simp; done) | (simp; omega)) | (simp (disch := omega) only [hS.glob, wraps, plain, Int.ofNat_eq_natCast, Vx.toN]; omega))) | (refine ptq ?_ ?_ ?_ <;> (first | rfl | omega | (simp (disch := omega) only [hS.glob, wraps, plain, Int.ofNat_eq_natCast]; first | done | rfl | omega | (simp; done) | (simp; omega)) | (simp (disch := omega) only [hS.glob, wraps, plain, Int.ofNat_eq_natCast, Vx.toN]; omega))) | (refine blq ?_; (first | rfl | omega | (simp (disch := omega) only [hS.glob, wraps, plain, Int.ofNat_eq_natCast]; first | done | rfl | omega | (simp; done) | (simp; omega)) | (simp (disch := omega) only [hS.glob, wraps, plain, Int.ofNat_eq_natCast, Vx.toN]; omega))))) rfl trivial (by rw [hC]; simp)
      simp only at h3
      have hge : i ≤ (g m).to - 1 := by
        apply Classical.byContradiction
        intro hh
        have := hc.2 (by omega)
        omega
      rcases Nat.lt_or_eq_of_le h3 with h | rfl
      · have := hmono m j h h4; omega
      · exact hge
    · conv => cbv
      simp (disch := first | omega | (simp only [hS.glob, wraps, plain, Int.ofNat_eq_natCast]; omega)) only [hS.glob, wraps, plain, Int.ofNat_eq_natCast] at h2
      rw [hVV]
      clear hVV hVA VV VA hW W
      refine V.to (hback (m + 1, b) ⟨by simp only; omega, hbn, fun j h3 => ?_, hhi⟩ (by simp only; omega)) (by (repeat' first | exact trivial | rfl | (refine And.intro ?_ ?_) | (refine sti ?_; (first | rfl | omega | (simp (disch := omega) only [hS.glob, wraps, plain, Int.ofNat_eq_natCast]; first | done | rfl | omega | (simp; done) | (simp; omega)) | (simp (disch := omega) only [hS.glob, wraps, plain, Int.ofNat_eq_natCast, Vx.toN]; omega))) | (refine slq ?_ ?_ ?_ <;> (first | rfl | omega | (simp (disch := omega) only [hS.glob, wraps, plain, Int.ofNat_eq_natCast]; first | done | rfl | omega | (simp; done) | (simp; omega)) | (simp (disch := omega) only [hS.glob, wraps, plain, Int.ofNat_eq_natCast, Vx.toN]; omega))) | (refine ptq ?_ ?_ ?_ <;> (first | rfl | omega | (simp (disch := omega) only [hS.glob, wraps, plain, Int.ofNat_eq_natCast]; first | done | rfl | omega | (simp; done) | (simp; omega)) | (simp (disch := omega) only [hS.glob, wraps, plain, Int.ofNat_eq_natCast, Vx.toN]; omega))) | (refine blq ?_; (first | rfl | omega | (simp (disch := omega) only [hS.glob, wraps, plain, Int.ofNat_eq_natCast]; first | done | rfl | omega | (simp; done) | (simp; omega)) | (simp (disch := omega) only [hS.glob, wraps, plain, Int.ofNat_eq_natCast, Vx.toN]; omega))))) rfl trivial (by rw [hC]; simp)
      simp only at h3
      have hlt := hc.1 h2
      rcases Nat.lt_succ_iff_lt_or_eq.1 h3 with h | rfl
      · have := hmono j m h (by omega); omega
      · exact hlt
/-- Items in order. -/
structure IOrd (g : Nat → It) (n : Nat) : Prop where
  one : ∀ j, j < n → 0 ≤ (g j).fr ∧ (g j).fr < (g j).to ∧ (g j).to ≤ 9223372036854775807
  two : ∀ j k, j < k → k < n → (g j).to ≤ (g k).fr
def IsOf (g : Nat → It) (n : Nat) (i R : Int) : Prop := (∀ j, j < n → (g j).fr ≤ i → i < (g j).to → R = j) ∧ ((∀ j, j < n → ¬ ((g j).fr ≤ i ∧ i < (g j).to)) → R = -1)
theorem f9_ok (n : Nat) (hn : n ≤ 2000000) (g : Nat → It) (ho : IOrd g n) (i : Int) : FSpec Try.prog 9 [.rows 7 n (itc g), .int .i64 i] [] (fun r H' => H' = [] ∧ ∃ R, r = .int .i64 R ∧ IsOf g n i R) := by
  obtain ⟨Q, hQ⟩ : ∃ Q : AV → Hp → Prop, Q = (fun r H' => H' = [] ∧ ∃ R, r = .int .i64 R ∧ IsOf g n i R) := ⟨_, rfl⟩
  rw [← hQ]
  refine FSpec.of (fn := Try.f9) Try.func9 rfl rfl (by simp) fun C hC => ?_
  obtain ⟨iadd, isub, imul, iquo, irem, iband, ibor, ibxor, ibandn, ishl, ishr, iconv, ieq, ine, ilt, ile, igt, ige, bbeq, bbne, bnot, bband, sseq, ssne, sscat, sssub, sslen, sssz, ssbyte, toN, ofN, addN, subN, eqN, ltB, leN, imx, imn, inb, leb, sslt, ltN, fit, ne0, ge0, ssfit, minN, inR, bcol, bstr, isBy, hS⟩ := names
  refine V.goF (by first | exact trivial | assumption) Try.func9 tl_ok mixed hS.ops [] 400 ?_
  intro VV VA W hVV hVA hW
  conv => cbv
  rw [hVV]
  clear hVV hVA VV VA hW W
  refine V.call rfl rfl rfl rfl rfl Try.func21 rfl (by decide) [] (by simp) (by simp) (by (first | rfl | ((conv => cbv); (repeat' apply And.intro) <;> first | rfl | trivial | (first | rfl | omega | (simp (disch := omega) only [hS.glob, wraps, plain, Int.ofNat_eq_natCast]; first | done | rfl | omega | (simp; done) | (simp; omega)) | (simp (disch := omega) only [hS.glob, wraps, plain, Int.ofNat_eq_natCast, Vx.toN]; omega))))) rfl (f21_ok n hn g i (fun j hj => ⟨by have := ho.one j hj; omega, (ho.one j hj).2.2⟩) (fun j k h1 h2 => by have := ho.two j k h1 h2; have := ho.one k h2; omega)) ?_
  rintro r Hc ⟨rfl, k, z, b, rfl, hz, hk, hlo, hhi⟩
  refine V.goF (by first | exact trivial | assumption) Try.func9 tl_ok mixed hS.ops [] 400 ?_
  intro VV VA W hVV hVA hW
  conv => cbv
  have ez : z = ofN k := by rw [hz]; (first | rfl | omega | (simp (disch := omega) only [hS.glob, wraps, plain, Int.ofNat_eq_natCast]; first | done | rfl | omega | (simp; done) | (simp; omega)) | (simp (disch := omega) only [hS.glob, wraps, plain, Int.ofNat_eq_natCast, Vx.toN]; omega))
  rw [ez]
  have none_lo : ∀ j, j < k → ¬ ((g j).fr ≤ i ∧ i < (g j).to) := fun j hj h => by have := hlo j hj; omega
  cases h1 : ieq (ofN k) (ofN n)
  case true =>
    conv => cbv
    simp (disch := first | omega | (simp only [hS.glob, wraps, plain, Int.ofNat_eq_natCast]; omega)) only [hS.glob, wraps, plain, Int.ofNat_eq_natCast] at h1
    rw [hQ]
    exact ⟨rfl, _, rfl, fun j hj h2 h3 => absurd ⟨h2, h3⟩ (none_lo j (by omega)), fun _ => rfl⟩
  conv => cbv
  simp (disch := first | omega | (simp only [hS.glob, wraps, plain, Int.ofNat_eq_natCast]; omega)) only [hS.glob, wraps, plain, Int.ofNat_eq_natCast] at h1
  repeat (refine ⟨by first | (rw [hW]; show ordOk _ _ _ = true; kernel_rfl) | (first | trivial | omega | (simp (disch := omega) only [hS.glob, wraps, plain, Int.ofNat_eq_natCast]; first | done | omega | trivial | (simp; done) | (simp; omega) | (constructor <;> omega)) | (simp (disch := omega) only [hS.glob, wraps, plain, Int.ofNat_eq_natCast, Vx.toN]; omega)), ?_⟩)
  simp only [hS.tidy]
  have hkn : k < n := by omega
  have hge := hhi k (Nat.le_refl _) hkn
  cases h2 : igt (g k).fr i
  · conv => cbv
    simp (disch := first | omega | (simp only [hS.glob, wraps, plain, Int.ofNat_eq_natCast]; omega)) only [hS.glob, wraps, plain, Int.ofNat_eq_natCast] at h2
    rw [hQ]
    refine ⟨rfl, _, rfl, fun j hj h3 h4 => ?_, fun h => absurd ⟨h2, by omega⟩ (h k hkn)⟩
    simp only [hS.glob, plain]
    rcases Nat.lt_trichotomy j k with h | h | h
    · exact absurd ⟨h3, h4⟩ (none_lo j h)
    · rw [h]
    · have := ho.two k j h hj; omega
  · conv => cbv
    simp (disch := first | omega | (simp only [hS.glob, wraps, plain, Int.ofNat_eq_natCast]; omega)) only [hS.glob, wraps, plain, Int.ofNat_eq_natCast] at h2
    rw [hQ]
    refine ⟨rfl, _, rfl, fun j hj h3 h4 => ?_, fun _ => rfl⟩
    exfalso
    rcases Nat.lt_trichotomy j k with h | h | h
    · exact none_lo j h ⟨h3, h4⟩
    · subst h; omega
    · have := ho.two k j h hj; have := ho.one k hkn; omega
end Go.Proofs.Ytngagepodbcohaa

/- Each scalar once: in plain words. -/
namespace Go.Proofs.Ytngagepodbcohaa
open Go Vx
set_option maxRecDepth 100000
theorem howF_range (f : Nat → Bool) : ∀ (c j : Nat), 0 ≤ howF f c j ∧ howF f c j ≤ 2
  | 0, _ => by unfold howF; omega
  | c + 1, j => by
    unfold howF
    split
    · unfold hwN
      rcases Nat.lt_or_ge j 10 with h | h
      · rcases (by omega : j = 0 ∨ j = 1 ∨ j = 2 ∨ j = 3 ∨ j = 4 ∨ j = 5 ∨ j = 6 ∨ j = 7 ∨ j = 8 ∨ j = 9) with rfl | rfl | rfl | rfl | rfl | rfl | rfl | rfl | rfl | rfl <;> decide
      · rw [List.getD_eq_getElem?_getD, List.getElem?_eq_none (by simpa using h)]; decide
    · exact howF_range f c (j + 1)
theorem allI_range (n : Nat) (ki : Nat → Int) (i : Nat) : 0 ≤ allI n ki i ∧ allI n ki i ≤ 2 := by
  unfold allI
  split
  · omega
  · exact howF_range _ _ _
/-- From which cluster to which an item goes. -/
structure IInv (t : Tx) (k : Nat) (S : MS) (fa fb : Nat → Nat) : Prop where
  ord : ∀ j, j < S.m → fa j ≤ fb j ∧ fb j < k ∧ t.laid (fa j)
  fr : ∀ j, j < S.m → (S.g j).fr = t.s (fa j) ∧ (S.g j).to = t.to (fb j)
  sep : ∀ j, j + 1 < S.m → fb j < fa (j + 1)
  grp : ∀ j, j < S.m → (S.g j).gr = false → fa j = fb j
  rng : ∀ j, j < S.m → 1 ≤ (S.g j).rc ∧ 0 ≤ (S.g j).en ∧ (S.g j).en ≤ 2
  all : ∀ c, c < k → t.laid c → ∃ j, j < S.m ∧ fa j ≤ c ∧ c ≤ fb j
theorem sing_facts (t : Tx) (k : Nat) : (t.sing k).fr = t.s k ∧ (t.sing k).to = t.to k ∧ 1 ≤ (t.sing k).rc ∧ (t.sing k).en = 0 := by
  unfold Tx.sing singI
  generalize styS t.l t.ns (t.q k) = st
  by_cases hc : st.co = true ∧ colB t.m = true
  · rw [if_pos hc]
    exact ⟨rfl, rfl, Int.le_refl _, rfl⟩
  · rw [if_neg hc]
    exact ⟨rfl, rfl, reach_pos _ _ _ _ _ _, rfl⟩
theorem mrun_items (t : Tx) (hal : ∀ k, k < t.K → 0 ≤ t.al k ∧ t.al k ≤ 2) : ∀ k, k ≤ t.K → ∃ fa fb, IInv t k (mrun t k) fa fb
  | 0, _ => ⟨fun _ => 0, fun _ => 0, fun j hj => absurd hj (Nat.not_lt_zero _), fun j hj => absurd hj (Nat.not_lt_zero _), fun j hj => absurd hj (Nat.not_lt_zero _), fun j hj => absurd hj (Nat.not_lt_zero _), fun j hj => absurd hj (Nat.not_lt_zero _), fun c hc => absurd hc (Nat.not_lt_zero _)⟩
  | k + 1, hk => by
    obtain ⟨fa, fb, ih⟩ := mrun_items t hal k (by omega)
    have e1 : mrun t (k + 1) = mstep t (mrun t k) k := rfl
    rw [e1]
    unfold mstep
    by_cases hl : t.laid k
    case neg =>
      rw [if_neg hl]
      exact ⟨fa, fb, fun j hj => ⟨(ih.ord j hj).1, by have := (ih.ord j hj).2.1; omega, (ih.ord j hj).2.2⟩, ih.fr, ih.sep, ih.grp, ih.rng, fun c hc hcl => ih.all c (by
        rcases Nat.lt_or_ge c k with h | h
        · exact h
        · obtain rfl : c = k := by omega
          exact absurd hcl hl) hcl⟩
    rw [if_pos hl]
    have hs := sing_facts t k
    have hE : 0 ≤ t.endR (mrun t k).la.toNat k ∧ t.endR (mrun t k).la.toNat k ≤ 2 := by
      unfold Tx.endR
      split
      · omega
      · exact hal _ (by omega)
    generalize mrun t k = S at ih hE
    generalize t.endR S.la.toNat k = E at hE
    generalize t.sing k = x at hs
    generalize t.spn k = sp
    have hen : ∀ y : It, 0 ≤ enI y x E ∧ enI y x E ≤ 2 := fun y => by
      unfold enI
      split <;> omega
    unfold mput
    by_cases h0 : S.m = 0
    · rw [if_pos h0]
      refine ⟨fun _ => k, fun _ => k, fun j hj => ⟨Nat.le_refl _, Nat.lt_succ_self _, hl⟩, fun j hj => ⟨hs.1, hs.2.1⟩, fun j hj => ?_, fun _ _ _ => rfl, fun j hj => ⟨hs.2.2.1, by dsimp only; omega, by dsimp only; omega⟩, fun c hc hcl => ?_⟩
      · dsimp only at hj; omega
      · rcases Nat.lt_or_ge c k with h | h
        · obtain ⟨j, hj, _⟩ := ih.all c h hcl
          omega
        · exact ⟨0, by dsimp only; omega, by omega, by omega⟩
    rw [if_neg h0]
    split
    · rename_i hg
      refine ⟨fa, fun j => if j + 1 = S.m then k else fb j, fun j hj => ?_, fun j hj => ?_, fun j hj => ?_, fun j hj => ?_, fun j hj => ?_, fun c hc hcl => ?_⟩
      · dsimp only at hj ⊢
        have a := ih.ord j hj
        by_cases h : j + 1 = S.m
        · rw [if_pos h]; exact ⟨by omega, by omega, a.2.2⟩
        · rw [if_neg h]; exact ⟨a.1, by omega, a.2.2⟩
      · dsimp only at hj ⊢
        have a := ih.fr j hj
        by_cases h : j + 1 = S.m
        · rw [if_pos h, if_pos h]; exact ⟨a.1, hs.2.1⟩
        · rw [if_neg h, if_neg h]; exact a
      · dsimp only at hj ⊢
        rw [if_neg (by omega)]
        exact ih.sep j hj
      · dsimp only at hj ⊢
        by_cases h : j + 1 = S.m
        · rw [if_pos h]
          intro h2
          exfalso
          dsimp only at h2
          have : S.m - 1 = j := by omega
          rw [this] at hg
          rw [hg.2.1] at h2; cases h2
        · rw [if_neg h, if_neg h]; exact ih.grp j hj
      · dsimp only at hj ⊢
        have a := ih.rng j hj
        by_cases h : j + 1 = S.m
        · rw [if_pos h]; exact a
        · rw [if_neg h]; exact a
      · dsimp only
        rcases Nat.lt_or_ge c k with h | h
        · obtain ⟨j, hj, h1, h2⟩ := ih.all c h hcl
          refine ⟨j, hj, h1, ?_⟩
          by_cases h3 : j + 1 = S.m
          · rw [if_pos h3]; omega
          · rw [if_neg h3]; exact h2
        · have a := ih.ord (S.m - 1) (by omega)
          refine ⟨S.m - 1, by omega, by omega, ?_⟩
          rw [if_pos (by omega)]; omega
    · refine ⟨fun j => if j = S.m then k else fa j, fun j => if j = S.m then k else fb j, fun j hj => ?_, fun j hj => ?_, fun j hj => ?_, fun j hj => ?_, fun j hj => ?_, fun c hc hcl => ?_⟩
      · dsimp only at hj ⊢
        by_cases h : j = S.m
        · rw [if_pos h, if_pos h]; exact ⟨Nat.le_refl _, Nat.lt_succ_self _, hl⟩
        · have a := ih.ord j (by omega)
          rw [if_neg h, if_neg h]; exact ⟨a.1, by omega, a.2.2⟩
      · dsimp only at hj ⊢
        by_cases h : j = S.m
        · rw [if_pos h, if_pos h, if_pos h]; exact ⟨hs.1, hs.2.1⟩
        · have a := ih.fr j (by omega)
          rw [if_neg h, if_neg h, if_neg h]
          by_cases h2 : j + 1 = S.m
          · rw [if_pos h2]; exact a
          · rw [if_neg h2]; exact a
      · dsimp only at hj ⊢
        rw [if_neg (by omega)]
        by_cases h : j + 1 = S.m
        · rw [if_pos h]
          exact (ih.ord j (by omega)).2.1
        · rw [if_neg h]
          exact ih.sep j (by omega)
      · dsimp only at hj ⊢
        by_cases h : j = S.m
        · rw [if_pos h, if_pos h, if_pos h]; intro _; rfl
        · rw [if_neg h, if_neg h, if_neg h]
          have a := ih.grp j (by omega)
          by_cases h2 : j + 1 = S.m
          · rw [if_pos h2]; exact a
          · rw [if_neg h2]; exact a
      · dsimp only at hj ⊢
        by_cases h : j = S.m
        · rw [if_pos h]; exact ⟨hs.2.2.1, by omega, by omega⟩
        · rw [if_neg h]
          have a := ih.rng j (by omega)
          by_cases h2 : j + 1 = S.m
          · rw [if_pos h2]; exact ⟨a.1, hen _⟩
          · rw [if_neg h2]; exact a
      · dsimp only
        rcases Nat.lt_or_ge c k with h | h
        · obtain ⟨j, hj, h1, h2⟩ := ih.all c h hcl
          refine ⟨j, by omega, ?_, ?_⟩
          · rw [if_neg (by omega)]; exact h1
          · rw [if_neg (by omega)]; exact h2
        · refine ⟨S.m, by omega, ?_, ?_⟩
          · rw [if_pos rfl]; omega
          · rw [if_pos rfl]; omega
/-- What items are, told of a paragraph's clusters. -/
structure EachL (t : Tx) (cnt : Nat) (g : Nat → It) (fa fb : Nat → Nat) : Prop where
  ord : ∀ j, j < cnt → fa j ≤ fb j ∧ fb j < t.K ∧ t.laid (fa j)
  fr : ∀ j, j < cnt → (g j).fr = t.s (fa j) ∧ (g j).to = t.to (fb j)
  sep : ∀ j k, j < k → k < cnt → fb j < fa k
  grp : ∀ j, j < cnt → (g j).gr = false → fa j = fb j
  rng : ∀ j, j < cnt → 1 ≤ (g j).rc ∧ 0 ≤ (g j).en ∧ (g j).en ≤ 2
  all : ∀ c, c < t.K → t.laid c → ∃ j, j < cnt ∧ fa j ≤ c ∧ c ≤ fb j
  last : ∀ j, j + 1 = cnt → (g j).en = 2
theorem laid_same {t u : Tx} (h : TEq t u) : ∀ k, k < t.K → (t.laid k ↔ u.laid k) := fun k hk => h.laid hk
theorem each_law {n : Nat} {p : Nat → Pr} {ns : Nat} {l : Nat → Sp} {m : Int} {cnt : Nat} {g : Nat → It} (h : itemsF n p ns l m cnt g) : ∃ fa fb, EachL (canT n p ns l 0) cnt g fa fb := by
  obtain ⟨h1, h2⟩ := items_can (m := m) (m' := m) rfl h
  have hu := canT_of n p ns l m
  have h0 := canT_of n p ns l 0
  have e := hu.eq h0
  obtain ⟨fa, fb, hi⟩ := mrun_items (canT n p ns l m) (fun k hk => by rw [hu.eal k hk]; exact allI_range _ _ _) _ (Nat.le_refl _)
  generalize mrun (canT n p ns l m) (canT n p ns l m).K = S at h1 h2 hi
  subst h1
  have hf : ∀ j, _ := mfin_facts S
  rw [← h2] at hf
  have hsep : ∀ d j, j + d + 1 < S.m → fb j < fa (j + d + 1) := by
    intro d
    induction d with
    | zero => intro j hj; exact hi.sep j hj
    | succ d ih =>
      intro j hj
      have a := ih j (by omega)
      have b := hi.sep (j + d + 1) (by omega)
      have c := hi.ord (j + d + 1) (by omega)
      have e : j + (d + 1) + 1 = j + d + 1 + 1 := by omega
      rw [e]; omega
  refine ⟨fa, fb, fun j hj => ?_, fun j hj => ?_, fun j k hjk hk => ?_, fun j hj hg => ?_, fun j hj => ?_, fun c hc hcl => ?_, fun j hj => ?_⟩
  · have a := hi.ord j hj
    exact ⟨a.1, by rw [← e.K]; exact a.2.1, (e.laid (by omega)).1 a.2.2⟩
  · obtain ⟨f1, f2, _⟩ := hf j
    have a := hi.ord j hj
    rw [f1, f2, (hi.fr j hj).1, (hi.fr j hj).2, e.s _ (by omega), e.to (by omega)]
    exact ⟨rfl, rfl⟩
  · have := hsep (k - j - 1) j (by omega)
    rw [show j + (k - j - 1) + 1 = k by omega] at this
    exact this
  · exact hi.grp j hj (by rw [← (hf j).2.2.2.2.2.1]; exact hg)
  · obtain ⟨f1, f2, f3, f4, f5, f6, f7⟩ := hf j
    have a := hi.rng j hj
    rw [f4, f7]
    refine ⟨a.1, ?_, ?_⟩ <;> split <;> omega
  · rw [← e.K] at hc
    exact hi.all c hc ((e.laid hc).2 hcl)
  · rw [(hf j).2.2.2.2.2.2, if_pos hj]
/-- Clusters stand one behind the other. -/
theorem can_steps {t : Tx} {n : Nat} {p : Nat → Pr} {ns : Nat} {l : Nat → Sp} {m : Int} (hOf : t.Of n p ns l m) :
    (∀ k, k < t.K → t.s k = t.q k ∧ t.q k < n) ∧ (∀ k, k < t.K → t.s k < t.to k ∧ t.to k ≤ n) ∧ (∀ j k, j < k → k < t.K → t.to j ≤ t.s k) ∧ (∀ j k, j ≤ k → k < t.K → t.s j ≤ t.s k ∧ t.to j ≤ t.to k) := by
  obtain ⟨h1, h2, h3⟩ := hOf.at_
  have hn : t.n = n := hOf.en
  have mono : ∀ j k, j < k → k < t.K → t.s j < t.s k := fun j k h4 h5 => by
    have := h2 j k h4 h5
    have a := (h1 j (by omega)).1
    have b := (h1 k h5).1
    omega
  have hto : ∀ k, k < t.K → t.s k < t.to k ∧ t.to k ≤ n := fun k hk => by
    unfold Tx.to toI
    have a := h1 k hk
    by_cases h : k + 1 < t.K
    · rw [if_pos h]
      have b := h1 _ h
      have := mono k (k + 1) (by omega) h
      exact ⟨this, by omega⟩
    · rw [if_neg h, hn]
      exact ⟨by omega, Int.le_refl _⟩
  have hts : ∀ j k, j < k → k < t.K → t.to j ≤ t.s k := fun j k h4 h5 => by
    unfold Tx.to toI
    rw [if_pos (by omega)]
    rcases Nat.lt_or_ge (j + 1) k with h | h
    · have := mono (j + 1) k h h5; omega
    · obtain rfl : k = j + 1 := by omega
      exact Int.le_refl _
  refine ⟨h1, hto, hts, fun j k h4 h5 => ?_⟩
  rcases Nat.lt_or_ge j k with h | h
  · have := mono j k h h5
    have := hts j k h h5
    have := hto k h5
    omega
  · obtain rfl : j = k := by omega
    exact ⟨Int.le_refl _, Int.le_refl _⟩
/-- In which item a cluster's scalars are. -/
theorem each_of {n : Nat} {p : Nat → Pr} {ns : Nat} {l : Nat → Sp} {cnt : Nat} {g : Nat → It} {fa fb : Nat → Nat} (hn : n ≤ 2000000) (h : EachL (canT n p ns l 0) cnt g fa fb) : IOrd g cnt ∧ (∀ j, j < cnt → (g j).to ≤ n) ∧ ∀ c, c < (canT n p ns l 0).K → ∀ i : Int, (canT n p ns l 0).s c ≤ i → i < (canT n p ns l 0).to c → ∀ j, j < cnt → ((g j).fr ≤ i ∧ i < (g j).to ↔ fa j ≤ c ∧ c ≤ fb j) := by
  obtain ⟨s1, s2, s3, s4⟩ := can_steps (canT_of n p ns l 0)
  generalize canT n p ns l 0 = t at *
  have hto : ∀ j, j < cnt → (g j).to ≤ n := fun j hj => by
    rw [(h.fr j hj).2]
    exact (s2 _ (h.ord j hj).2.1).2
  refine ⟨⟨fun j hj => ?_, fun j k hjk hk => ?_⟩, hto, fun c hc i h1 h2 j hj => ?_⟩
  · have a := h.ord j hj
    rw [(h.fr j hj).1, (h.fr j hj).2]
    have b := s1 (fa j) (by omega)
    have c := s2 (fb j) a.2.1
    have d := (s4 (fa j) (fb j) a.1 a.2.1).1
    omega
  · rw [(h.fr j (by omega)).2, (h.fr k hk).1]
    exact s3 _ _ (h.sep j k hjk hk) (by have := h.ord k hk; omega)
  · have a := h.ord j hj
    rw [(h.fr j hj).1, (h.fr j hj).2]
    constructor
    · rintro ⟨h3, h4⟩
      refine ⟨?_, ?_⟩
      · apply Classical.byContradiction
        intro h5
        have := s3 c (fa j) (by omega) (by omega)
        omega
      · apply Classical.byContradiction
        intro h5
        have := s3 (fb j) c (by omega) hc
        omega
    · rintro ⟨h3, h4⟩
      have b := (s4 (fa j) c h3 hc).1
      have d := (s4 c (fb j) h4 a.2.1).2
      omega
end Go.Proofs.Ytngagepodbcohaa

/- The law ItemEach. -/
namespace Go.Proofs.Ytngagepodbcohaa
open Go Vx
set_option maxRecDepth 100000
set_option maxHeartbeats 4000000 in
theorem f4_ok (n : Nat) (hn : n ≤ 2000000) (p : Nat → Pr) (ns : Nat) (hns : ns ≤ 2000000) (l : Nat → Sp) (hs : ∀ j, j < ns → inSz (l j)) (m : Int) : FSpec Try.prog 4 [.agg [.rows 9 n (prc p), .rows 6 ns (spc l)], .int .i64 m] [] (fun r H' => r = .bool true ∧ H' = []) := by
  refine pure_of rfl ?_
  obtain ⟨R, hR⟩ := bool_of (fitsT n ns l)
  refine FSpec.of (fn := Try.f4) Try.func4 rfl rfl (by simp) fun C hC => ?_
  obtain ⟨iadd, isub, imul, iquo, irem, iband, ibor, ibxor, ibandn, ishl, ishr, iconv, ieq, ine, ilt, ile, igt, ige, bbeq, bbne, bnot, bband, sseq, ssne, sscat, sssub, sslen, sssz, ssbyte, toN, ofN, addN, subN, eqN, ltB, leN, imx, imn, inb, leb, sslt, ltN, fit, ne0, ge0, ssfit, minN, inR, bcol, bstr, isBy, hS⟩ := names
  refine V.goF (by first | exact trivial | assumption) Try.func4 tl_ok mixed hS.ops [] 5 ?_
  intro VV VA W hVV hVA hW
  conv => cbv
  rw [hVV]
  clear hVV hVA VV VA hW W
  refine V.freezePtr 2 rfl rfl rfl ?_
  refine V.goF (by first | exact trivial | assumption) Try.func4 tl_ok mixed hS.ops [] 400 ?_
  intro VV VA W hVV hVA hW
  conv => cbv
  rw [hVV]
  clear hVV hVA VV VA hW W
  refine V.call rfl rfl rfl rfl rfl Try.func5 rfl (by decide) [] (by simp) (by simp) (by (first | rfl | ((conv => cbv); (repeat' apply And.intro) <;> first | rfl | trivial | (first | rfl | omega | (simp (disch := omega) only [hS.glob, wraps, plain, Int.ofNat_eq_natCast]; first | done | rfl | omega | (simp; done) | (simp; omega)) | (simp (disch := omega) only [hS.glob, wraps, plain, Int.ofNat_eq_natCast, Vx.toN]; omega))))) rfl (f5_ok n (by omega) p ns (by omega) l (fun j hj => ⟨(hs j hj).1, (hs j hj).2.1, (hs j hj).2.2.1, by have := (hs j hj).2.2.2; omega⟩) R hR) ?_
  rintro r Hc ⟨rfl, rfl⟩
  refine V.goF (by first | exact trivial | assumption) Try.func4 tl_ok mixed hS.ops [] 400 ?_
  intro VV VA W hVV hVA hW
  conv => cbv
  rw [hVV]
  clear hVV hVA VV VA hW W
  by_cases hM : n ≤ 2000 ∧ RightL l ns n ∧ 0 ≤ m ∧ m ≤ 3
  case neg =>
    refine V.call rfl rfl rfl rfl rfl Try.func7 rfl (by decide) [] (by simp) (by simp) (by (first | rfl | ((conv => cbv); (repeat' apply And.intro) <;> first | rfl | trivial | (first | rfl | omega | (simp (disch := omega) only [hS.glob, wraps, plain, Int.ofNat_eq_natCast]; first | done | rfl | omega | (simp; done) | (simp; omega)) | (simp (disch := omega) only [hS.glob, wraps, plain, Int.ofNat_eq_natCast, Vx.toN]; omega))))) rfl (f7_no n (by omega) p ns hns l hs m hM) ?_
    rintro r Hc ⟨rfl, rfl⟩
    refine V.goF (by first | exact trivial | assumption) Try.func4 tl_ok mixed hS.ops [] 400 ?_
    intro VV VA W hVV hVA hW
    conv => cbv
    have e1 : ine 161 0 = true := by (first | rfl | omega | (simp (disch := omega) only [hS.glob, wraps, plain, Int.ofNat_eq_natCast]; first | done | rfl | omega | (simp; done) | (simp; omega)) | (simp (disch := omega) only [hS.glob, wraps, plain, Int.ofNat_eq_natCast, Vx.toN]; omega))
    cases R <;> repeat (simp only [e1]; try (conv => cbv))
    all_goals
      conv => cbv
      repeat (simp only [e1]; try (conv => cbv))
      rw [hVV]
      clear hVV hVA VV VA hW W
      refine V.call rfl rfl rfl rfl rfl Try.func6 rfl (by decide) [] (by simp) (by simp) (by (first | rfl | ((conv => cbv); (repeat' apply And.intro) <;> first | rfl | trivial | (first | rfl | omega | (simp (disch := omega) only [hS.glob, wraps, plain, Int.ofNat_eq_natCast]; first | done | rfl | omega | (simp; done) | (simp; omega)) | (simp (disch := omega) only [hS.glob, wraps, plain, Int.ofNat_eq_natCast, Vx.toN]; omega))))) rfl f6_ok ?_
      rintro r Hc ⟨rfl, rfl⟩
      refine V.goF (by first | exact trivial | assumption) Try.func4 tl_ok mixed hS.ops [] 400 ?_
      intro VV VA W hVV hVA hW
      conv => cbv
      trivial
  refine V.call rfl rfl rfl rfl rfl Try.func7 rfl (by decide) [] (by simp) (by simp) (by (first | rfl | ((conv => cbv); (repeat' apply And.intro) <;> first | rfl | trivial | (first | rfl | omega | (simp (disch := omega) only [hS.glob, wraps, plain, Int.ofNat_eq_natCast]; first | done | rfl | omega | (simp; done) | (simp; omega)) | (simp (disch := omega) only [hS.glob, wraps, plain, Int.ofNat_eq_natCast, Vx.toN]; omega))))) rfl (f7_yes n (by omega) p ns hns l hs m hM) ?_
  rintro r Hc ⟨rfl, cnt, f0, y0, ⟨⟨g, rfl, hi⟩, rfl⟩, rfl⟩
  refine V.goF (by first | exact trivial | assumption) Try.func4 tl_ok mixed hS.ops [] 400 ?_
  intro VV VA W hVV hVA hW
  conv => cbv
  cases R
  case false =>
    conv => cbv
    rw [hVV]
    clear hVV hVA VV VA hW W
    refine V.call rfl rfl rfl rfl rfl Try.func6 rfl (by decide) [] (by simp) (by simp) (by (first | rfl | ((conv => cbv); (repeat' apply And.intro) <;> first | rfl | trivial | (first | rfl | omega | (simp (disch := omega) only [hS.glob, wraps, plain, Int.ofNat_eq_natCast]; first | done | rfl | omega | (simp; done) | (simp; omega)) | (simp (disch := omega) only [hS.glob, wraps, plain, Int.ofNat_eq_natCast, Vx.toN]; omega))))) rfl f6_ok ?_
    rintro r Hc ⟨rfl, rfl⟩
    refine V.goF (by first | exact trivial | assumption) Try.func4 tl_ok mixed hS.ops [] 400 ?_
    intro VV VA W hVV hVA hW
    conv => cbv
    trivial
  have N0 : ine 0 0 = false := by (first | rfl | omega | (simp (disch := omega) only [hS.glob, wraps, plain, Int.ofNat_eq_natCast]; first | done | rfl | omega | (simp; done) | (simp; omega)) | (simp (disch := omega) only [hS.glob, wraps, plain, Int.ofNat_eq_natCast, Vx.toN]; omega))
  conv => cbv
  repeat (simp only [N0]; try (conv => cbv))
  obtain ⟨fa, fb, hE⟩ := each_law hi
  have hcn := items_le hi
  obtain ⟨hord, hto, hof⟩ := each_of hn hE
  obtain ⟨s1, s2, s3, s4⟩ := can_steps (canT_of n p ns l 0)
  obtain ⟨AT, hA0, hAs⟩ : ∃ AT : Nat → Int, AT 0 = 0 ∧ ∀ i, AT (i + 1) = (g i).to := ⟨fun i => match i with | 0 => 0 | i + 1 => (g i).to, rfl, fun _ => rfl⟩
  rw [hVV]
  clear hVV hVA VV VA hW W
  refine V.to (s' := [(9, .int .i64 (ofN 0)), (8, .int .i64 (AT 0)), (6, .rows 7 cnt (itc g)), (2, .ref [.rows 9 n (prc p), .rows 6 ns (spc l)])]) (H' := []) ?_ (by
    refine ⟨sti (by (first | rfl | omega | (simp (disch := omega) only [hS.glob, wraps, plain, Int.ofNat_eq_natCast]; first | done | rfl | omega | (simp; done) | (simp; omega)) | (simp (disch := omega) only [hS.glob, wraps, plain, Int.ofNat_eq_natCast, Vx.toN]; omega))), sti hA0.symm, rfl, rfl, trivial⟩) rfl trivial (by rw [hC]; simp)
  apply cut
  · intro next
    refine V.loop (γ := Nat) (fun i => i ≤ cnt) (fun i => [(9, .int .i64 (ofN i)), (8, .int .i64 (AT i)), (6, .rows 7 cnt (itc g)), (2, .ref [.rows 9 n (prc p), .rows 6 ns (spc l)])]) (fun _ => []) (fun i => cnt - i) ?_ 0 (Nat.zero_le _)
    intro i hic hback
    refine V.goF (by first | exact trivial | assumption) Try.func4 tl_ok mixed hS.ops [] 8 ?_
    intro VV VA W hVV hVA hW
    conv => cbv
    cases h1 : ilt (ofN i) (ofN cnt)
    · rw [hVV]
      clear hVV hVA VV VA hW W
      refine V.goF (by first | exact trivial | assumption) Try.func4 tl_ok mixed hS.ops [] 2 ?_
      intro VV VA W hVV hVA hW
      conv => cbv
      rw [hVV]
      clear hVV hVA VV VA hW W
      exact V.to (s' := [(6, .rows 7 cnt (itc g)), (2, .ref [.rows 9 n (prc p), .rows 6 ns (spc l)])]) (H' := []) next.get (by (repeat' first | exact trivial | rfl | (refine And.intro ?_ ?_) | (refine sti ?_; (first | rfl | omega | (simp (disch := omega) only [hS.glob, wraps, plain, Int.ofNat_eq_natCast]; first | done | rfl | omega | (simp; done) | (simp; omega)) | (simp (disch := omega) only [hS.glob, wraps, plain, Int.ofNat_eq_natCast, Vx.toN]; omega))) | (refine slq ?_ ?_ ?_ <;> (first | rfl | omega | (simp (disch := omega) only [hS.glob, wraps, plain, Int.ofNat_eq_natCast]; first | done | rfl | omega | (simp; done) | (simp; omega)) | (simp (disch := omega) only [hS.glob, wraps, plain, Int.ofNat_eq_natCast, Vx.toN]; omega))) | (refine ptq ?_ ?_ ?_ <;> (first | rfl | omega | (simp (disch := omega) only [hS.glob, wraps, plain, Int.ofNat_eq_natCast]; first | done | rfl | omega | (simp; done) | (simp; omega)) | (simp (disch := omega) only [hS.glob, wraps, plain, Int.ofNat_eq_natCast, Vx.toN]; omega))) | (refine blq ?_; (first | rfl | omega | (simp (disch := omega) only [hS.glob, wraps, plain, Int.ofNat_eq_natCast]; first | done | rfl | omega | (simp; done) | (simp; omega)) | (simp (disch := omega) only [hS.glob, wraps, plain, Int.ofNat_eq_natCast, Vx.toN]; omega))))) rfl trivial (by rw [hC]; simp)
    · rw [hVV]
      clear hVV hVA VV VA hW W
      simp (disch := first | omega | (simp only [hS.glob, wraps, plain, Int.ofNat_eq_natCast]; omega)) only [hS.glob, wraps, plain, Int.ofNat_eq_natCast] at h1
      change V _ _ _ _ _ (_ :: _ :: _ :: Item.inBlock 0 :: ?kk1) _ _
      generalize hkk1 : ?kk1 = kk1 at hback ⊢
      clear hkk1 next
      have o1 := hord.one i (by omega)
      have o2 := hto i (by omega)
      have o3 := hE.rng i (by omega)
      have o4 : AT i ≤ (g i).fr := by
        rcases Nat.eq_zero_or_pos i with h | h
        · rw [h, hA0]; have := hord.one 0 (by omega); omega
        · obtain ⟨q, rfl⟩ : ∃ q, i = q + 1 := ⟨i - 1, by omega⟩
          rw [hAs]; exact hord.two q (q + 1) (by omega) (by omega)
      have hAi := hAs i
      rcases hgi : g i with ⟨y1, y2, y3, y4, y5, y6, y7⟩
      rw [hgi] at o1 o2 o3 o4 hAi
      dsimp only at o1 o2 o3 o4 hAi
      have e1 : ilt y1 (AT i) = false := by simp only [hS.glob, plain]; omega
      have e2 : ige y1 y2 = false := by simp only [hS.glob, plain]; omega
      have e3 : igt y2 (ofN n) = false := by simp only [hS.glob, plain]; omega
      have e4 : ilt y4 1 = false := by simp only [hS.glob, plain]; omega
      have e5 : ilt y6 0 = false := by simp only [hS.glob, plain]; omega
      have e6 : igt y6 2 = false := by simp only [hS.glob, plain]; omega
      refine V.goF (by first | exact trivial | assumption) Try.func4 tl_ok mixed hS.ops [] 400 ?_
      intro VV VA W hVV hVA hW
      conv => cbv
      repeat (first | (with_reducible refine And.intro ?_ ?_; · first | (rw [hW]; show ordOk _ _ _ = true; kernel_rfl) | (first | trivial | omega | (simp (disch := omega) only [hS.glob, wraps, plain, Int.ofNat_eq_natCast]; first | done | omega | trivial | (simp; done) | (simp; omega) | (constructor <;> omega)) | (simp (disch := omega) only [hS.glob, wraps, plain, Int.ofNat_eq_natCast, Vx.toN]; omega))) | (simp only [e1, e2, e3, e4, e5, e6, hS.tidy, hgi]; try (conv => cbv)))
      rw [hVV]
      clear hVV hVA VV VA hW W
      exact V.to (hback (i + 1) (by omega) (by omega)) (by
        refine ⟨sti (by (first | rfl | omega | (simp (disch := omega) only [hS.glob, wraps, plain, Int.ofNat_eq_natCast]; first | done | rfl | omega | (simp; done) | (simp; omega)) | (simp (disch := omega) only [hS.glob, wraps, plain, Int.ofNat_eq_natCast, Vx.toN]; omega))), sti hAi.symm, rfl, rfl, trivial⟩) rfl trivial (by rw [hC]; simp)
  clear hAs hA0 AT
  refine V.goF (by first | exact trivial | assumption) Try.func4 tl_ok mixed hS.ops [] 400 ?_
  intro VV VA W hVV hVA hW
  conv => cbv
  apply cut
  · intro next
    cases h1 : igt (ofN cnt) 0
    case' true =>
      conv => cbv
      simp (disch := first | omega | (simp only [hS.glob, wraps, plain, Int.ofNat_eq_natCast]; omega)) only [hS.glob, wraps, plain, Int.ofNat_eq_natCast] at h1
      obtain ⟨c0, hc0⟩ : ∃ c0, cnt = c0 + 1 := ⟨cnt - 1, by omega⟩
      have e1 : isub .i64 (ofN cnt) 1 = ofN c0 := by (first | rfl | omega | (simp (disch := omega) only [hS.glob, wraps, plain, Int.ofNat_eq_natCast]; first | done | rfl | omega | (simp; done) | (simp; omega)) | (simp (disch := omega) only [hS.glob, wraps, plain, Int.ofNat_eq_natCast, Vx.toN]; omega))
      have hl := hE.last c0 hc0.symm
      rcases hgi : g c0 with ⟨y1, y2, y3, y4, y5, y6, y7⟩
      rw [hgi] at hl
      dsimp only at hl
      subst hl
      have e2 : ine 2 2 = false := by (first | rfl | omega | (simp (disch := omega) only [hS.glob, wraps, plain, Int.ofNat_eq_natCast]; first | done | rfl | omega | (simp; done) | (simp; omega)) | (simp (disch := omega) only [hS.glob, wraps, plain, Int.ofNat_eq_natCast, Vx.toN]; omega))
      repeat (first | (with_reducible refine And.intro ?_ ?_; · (first | trivial | omega | (simp (disch := omega) only [hS.glob, wraps, plain, Int.ofNat_eq_natCast]; first | done | omega | trivial | (simp; done) | (simp; omega) | (constructor <;> omega)) | (simp (disch := omega) only [hS.glob, wraps, plain, Int.ofNat_eq_natCast, Vx.toN]; omega))) | (simp only [e1, e2, hS.tidy, hgi]; try (conv => cbv)))
    case' false =>
      conv => cbv
    all_goals
      rw [hVV]
      exact V.to (s' := [(115, .rows 9 n (prc p)), (117, .rows 6 ns (spc l)), (6, .rows 7 cnt (itc g)), (2, .ref [.rows 9 n (prc p), .rows 6 ns (spc l)])]) (H' := []) next.get (by (repeat' first | exact trivial | rfl | (refine And.intro ?_ ?_) | (refine sti ?_; (first | rfl | omega | (simp (disch := omega) only [hS.glob, wraps, plain, Int.ofNat_eq_natCast]; first | done | rfl | omega | (simp; done) | (simp; omega)) | (simp (disch := omega) only [hS.glob, wraps, plain, Int.ofNat_eq_natCast, Vx.toN]; omega))) | (refine slq ?_ ?_ ?_ <;> (first | rfl | omega | (simp (disch := omega) only [hS.glob, wraps, plain, Int.ofNat_eq_natCast]; first | done | rfl | omega | (simp; done) | (simp; omega)) | (simp (disch := omega) only [hS.glob, wraps, plain, Int.ofNat_eq_natCast, Vx.toN]; omega))) | (refine ptq ?_ ?_ ?_ <;> (first | rfl | omega | (simp (disch := omega) only [hS.glob, wraps, plain, Int.ofNat_eq_natCast]; first | done | rfl | omega | (simp; done) | (simp; omega)) | (simp (disch := omega) only [hS.glob, wraps, plain, Int.ofNat_eq_natCast, Vx.toN]; omega))) | (refine blq ?_; (first | rfl | omega | (simp (disch := omega) only [hS.glob, wraps, plain, Int.ofNat_eq_natCast]; first | done | rfl | omega | (simp; done) | (simp; omega)) | (simp (disch := omega) only [hS.glob, wraps, plain, Int.ofNat_eq_natCast, Vx.toN]; omega))))) rfl trivial (by rw [hC]; simp)
  clear hVV hVA VV VA hW W
  refine V.call rfl rfl rfl rfl rfl Try.func8 rfl (by decide) [] (by simp) (by simp) (by (first | rfl | ((conv => cbv); (repeat' apply And.intro) <;> first | rfl | trivial | (first | rfl | omega | (simp (disch := omega) only [hS.glob, wraps, plain, Int.ofNat_eq_natCast]; first | done | rfl | omega | (simp; done) | (simp; omega)) | (simp (disch := omega) only [hS.glob, wraps, plain, Int.ofNat_eq_natCast, Vx.toN]; omega))))) rfl (f8_ok n hn p ns hns l) ?_
  rintro r Hc ⟨rfl, K, f8, ⟨hK, rfl⟩, rfl⟩
  have hTp : (canT n p ns l 0).p = p := rfl
  have hKn := (canT_of n p ns l 0).at_.2.2
  generalize canT n p ns l 0 = t at *
  subst hK
  obtain ⟨P, hP⟩ : ∃ P, P = partOf t := ⟨_, rfl⟩
  have hPk : ∀ k, (P k).fr = t.s k ∧ (P k).to = t.to k ∧ ((P k).en = true ↔ t.ki k = 11) := fun k => by
    rw [hP]
    exact ⟨rfl, rfl, by simp [partOf]⟩
  rw [← hP]
  clear hP
  -- a scalar of each item that counts
  have hwit : ∀ j, ∃ w : Nat, j < cnt → t.s (fa j) ≤ w ∧ (w : Int) < t.to (fa j) ∧ remB (p w).cl = false := fun j => by
    by_cases hj : j < cnt
    · obtain ⟨i, h1, h2, h3⟩ := (hE.ord j hj).2.2.1
      rw [hTp] at h3
      exact ⟨i, fun _ => ⟨h1, h2, h3⟩⟩
    · exact ⟨0, fun h => absurd h hj⟩
  obtain ⟨W0, hW0⟩ := Classical.axiomOfChoice hwit
  clear hwit
  obtain ⟨K, hK⟩ : ∃ K, K = t.K := ⟨_, rfl⟩
  rw [← hK] at s1 s2 s3 s4 hof
  have hEo := hE.ord
  have hEa := hE.all
  rw [← hK] at hEo hEa hKn
  rw [← hK]
  refine V.goF (by first | exact trivial | assumption) Try.func4 tl_ok mixed hS.ops [] 400 ?_
  intro VV VA W hVV hVA hW
  conv => cbv
  repeat (refine ⟨by first | (rw [hW]; show ordOk _ _ _ = true; kernel_rfl) | (first | trivial | omega | (simp (disch := omega) only [hS.glob, wraps, plain, Int.ofNat_eq_natCast]; first | done | omega | trivial | (simp; done) | (simp; omega) | (constructor <;> omega)) | (simp (disch := omega) only [hS.glob, wraps, plain, Int.ofNat_eq_natCast, Vx.toN]; omega)), ?_⟩)
  simp only [hS.tidy]
  rw [hVV]
  clear hVV hVA VV VA hW W
  refine V.to (s' := [(12, .int .i64 (ofN 0)), (10, .rows 5 K (ptc P)), (11, .sl 0 0 cnt), (6, .rows 7 cnt (itc g)), (2, .ref [.rows 9 n (prc p), .rows 6 ns (spc l)])]) (H' := [some ⟨3, 1, .arr cnt (icol .i64 (fun _ => 0))⟩]) ?_ (by (repeat' first | exact trivial | rfl | (refine And.intro ?_ ?_) | (refine sti ?_; (first | rfl | omega | (simp (disch := omega) only [hS.glob, wraps, plain, Int.ofNat_eq_natCast]; first | done | rfl | omega | (simp; done) | (simp; omega)) | (simp (disch := omega) only [hS.glob, wraps, plain, Int.ofNat_eq_natCast, Vx.toN]; omega))) | (refine slq ?_ ?_ ?_ <;> (first | rfl | omega | (simp (disch := omega) only [hS.glob, wraps, plain, Int.ofNat_eq_natCast]; first | done | rfl | omega | (simp; done) | (simp; omega)) | (simp (disch := omega) only [hS.glob, wraps, plain, Int.ofNat_eq_natCast, Vx.toN]; omega))) | (refine ptq ?_ ?_ ?_ <;> (first | rfl | omega | (simp (disch := omega) only [hS.glob, wraps, plain, Int.ofNat_eq_natCast]; first | done | rfl | omega | (simp; done) | (simp; omega)) | (simp (disch := omega) only [hS.glob, wraps, plain, Int.ofNat_eq_natCast, Vx.toN]; omega))) | (refine blq ?_; (first | rfl | omega | (simp (disch := omega) only [hS.glob, wraps, plain, Int.ofNat_eq_natCast]; first | done | rfl | omega | (simp; done) | (simp; omega)) | (simp (disch := omega) only [hS.glob, wraps, plain, Int.ofNat_eq_natCast, Vx.toN]; omega))))) rfl (by (repeat' first | exact trivial | rfl | exact Nat.le_refl _ | exact (fun _ _ => rfl) | (refine And.intro ?_ ?_) | (simp only [hS.glob, plain]; first | done | omega))) (by rw [hC]; simp)
  refine V.loop (γ := Nat × (Nat → Int)) (fun w => w.1 ≤ K ∧ ∀ j, j < cnt → 0 ≤ w.2 j ∧ w.2 j ≤ n ∧ (w.1 < K → w.2 j ≤ t.s w.1) ∧ (fa j < w.1 → 1 ≤ w.2 j)) (fun w => [(12, .int .i64 (ofN w.1)), (10, .rows 5 K (ptc P)), (11, .sl 0 0 cnt), (6, .rows 7 cnt (itc g)), (2, .ref [.rows 9 n (prc p), .rows 6 ns (spc l)])]) (fun w => [some ⟨3, 1, .arr cnt (icol .i64 w.2)⟩]) (fun w => K - w.1) ?_ (0, fun _ => 0) ⟨Nat.zero_le _, fun j hj => ⟨Int.le_refl _, by simp, fun h => by have := s1 0 h; simp only; omega, fun h => absurd h (Nat.not_lt_zero _)⟩⟩
  rintro ⟨k, cf⟩ ⟨hk, hcf⟩ hback
  dsimp only at hk hcf hback ⊢
  refine V.goF (by first | exact trivial | assumption) Try.func4 tl_ok mixed hS.ops [] 400 ?_
  intro VV VA W hVV hVA hW
  conv => cbv
  cases h1 : ilt (ofN k) (ofN K)
  · conv => cbv
    simp (disch := first | omega | (simp only [hS.glob, wraps, plain, Int.ofNat_eq_natCast]; omega)) only [hS.glob, wraps, plain, Int.ofNat_eq_natCast] at h1
    rw [hVV]
    clear hVV hVA VV VA hW W
    refine V.to (s' := [(16, .int .i64 (ofN 0)), (10, .rows 5 K (ptc P)), (11, .sl 0 0 cnt), (6, .rows 7 cnt (itc g)), (2, .ref [.rows 9 n (prc p), .rows 6 ns (spc l)])]) (H' := [some ⟨3, 1, .arr cnt (icol .i64 cf)⟩]) ?_ (by (repeat' first | exact trivial | rfl | (refine And.intro ?_ ?_) | (refine sti ?_; (first | rfl | omega | (simp (disch := omega) only [hS.glob, wraps, plain, Int.ofNat_eq_natCast]; first | done | rfl | omega | (simp; done) | (simp; omega)) | (simp (disch := omega) only [hS.glob, wraps, plain, Int.ofNat_eq_natCast, Vx.toN]; omega))) | (refine slq ?_ ?_ ?_ <;> (first | rfl | omega | (simp (disch := omega) only [hS.glob, wraps, plain, Int.ofNat_eq_natCast]; first | done | rfl | omega | (simp; done) | (simp; omega)) | (simp (disch := omega) only [hS.glob, wraps, plain, Int.ofNat_eq_natCast, Vx.toN]; omega))) | (refine ptq ?_ ?_ ?_ <;> (first | rfl | omega | (simp (disch := omega) only [hS.glob, wraps, plain, Int.ofNat_eq_natCast]; first | done | rfl | omega | (simp; done) | (simp; omega)) | (simp (disch := omega) only [hS.glob, wraps, plain, Int.ofNat_eq_natCast, Vx.toN]; omega))) | (refine blq ?_; (first | rfl | omega | (simp (disch := omega) only [hS.glob, wraps, plain, Int.ofNat_eq_natCast]; first | done | rfl | omega | (simp; done) | (simp; omega)) | (simp (disch := omega) only [hS.glob, wraps, plain, Int.ofNat_eq_natCast, Vx.toN]; omega))))) rfl (by (repeat' first | exact trivial | rfl | exact Nat.le_refl _ | exact (fun _ _ => rfl) | (refine And.intro ?_ ?_) | (simp only [hS.glob, plain]; first | done | omega))) (by rw [hC]; simp)
    refine V.loop (γ := Nat) (fun i => i ≤ cnt) (fun i => [(16, .int .i64 (ofN i)), (10, .rows 5 K (ptc P)), (11, .sl 0 0 cnt), (6, .rows 7 cnt (itc g)), (2, .ref [.rows 9 n (prc p), .rows 6 ns (spc l)])]) (fun _ => [some ⟨3, 1, .arr cnt (icol .i64 cf)⟩]) (fun i => cnt - i) ?_ 0 (Nat.zero_le _)
    intro i hic hback2
    refine V.goF (by first | exact trivial | assumption) Try.func4 tl_ok mixed hS.ops [] 400 ?_
    intro VV VA W hVV hVA hW
    conv => cbv
    cases h2 : ilt (ofN i) (ofN cnt)
    · conv => cbv
      rw [hVV]
      clear hVV hVA VV VA hW W
      refine V.call rfl rfl rfl rfl rfl Try.func6 rfl (by decide) [] (by simp) (by simp) (by (first | rfl | ((conv => cbv); (repeat' apply And.intro) <;> first | rfl | trivial | (first | rfl | omega | (simp (disch := omega) only [hS.glob, wraps, plain, Int.ofNat_eq_natCast]; first | done | rfl | omega | (simp; done) | (simp; omega)) | (simp (disch := omega) only [hS.glob, wraps, plain, Int.ofNat_eq_natCast, Vx.toN]; omega))))) rfl f6_ok ?_
      rintro r Hc ⟨rfl, rfl⟩
      refine V.goF (by first | exact trivial | assumption) Try.func4 tl_ok mixed hS.ops [] 400 ?_
      intro VV VA W hVV hVA hW
      conv => cbv
      trivial
    · conv => cbv
      simp (disch := first | omega | (simp only [hS.glob, wraps, plain, Int.ofNat_eq_natCast]; omega)) only [hS.glob, wraps, plain, Int.ofNat_eq_natCast] at h2
      have hfa := hEo i (by omega)
      have hc1 := (hcf i (by omega)).2.2.2 (by omega)
      have e1 : ieq (cf i) 0 = false := by simp only [hS.glob, plain]; omega
      repeat (first | (with_reducible refine And.intro ?_ ?_; · (first | trivial | omega | (simp (disch := omega) only [hS.glob, wraps, plain, Int.ofNat_eq_natCast]; first | done | omega | trivial | (simp; done) | (simp; omega) | (constructor <;> omega)) | (simp (disch := omega) only [hS.glob, wraps, plain, Int.ofNat_eq_natCast, Vx.toN]; omega))) | (simp only [e1, hS.tidy]; try (conv => cbv)))
      rw [hVV]
      clear hVV hVA VV VA hW W
      exact V.to (hback2 (i + 1) (by omega) (by omega)) (by (repeat' first | exact trivial | rfl | (refine And.intro ?_ ?_) | (refine sti ?_; (first | rfl | omega | (simp (disch := omega) only [hS.glob, wraps, plain, Int.ofNat_eq_natCast]; first | done | rfl | omega | (simp; done) | (simp; omega)) | (simp (disch := omega) only [hS.glob, wraps, plain, Int.ofNat_eq_natCast, Vx.toN]; omega))) | (refine slq ?_ ?_ ?_ <;> (first | rfl | omega | (simp (disch := omega) only [hS.glob, wraps, plain, Int.ofNat_eq_natCast]; first | done | rfl | omega | (simp; done) | (simp; omega)) | (simp (disch := omega) only [hS.glob, wraps, plain, Int.ofNat_eq_natCast, Vx.toN]; omega))) | (refine ptq ?_ ?_ ?_ <;> (first | rfl | omega | (simp (disch := omega) only [hS.glob, wraps, plain, Int.ofNat_eq_natCast]; first | done | rfl | omega | (simp; done) | (simp; omega)) | (simp (disch := omega) only [hS.glob, wraps, plain, Int.ofNat_eq_natCast, Vx.toN]; omega))) | (refine blq ?_; (first | rfl | omega | (simp (disch := omega) only [hS.glob, wraps, plain, Int.ofNat_eq_natCast]; first | done | rfl | omega | (simp; done) | (simp; omega)) | (simp (disch := omega) only [hS.glob, wraps, plain, Int.ofNat_eq_natCast, Vx.toN]; omega))))) rfl (by (repeat' first | exact trivial | rfl | exact Nat.le_refl _ | exact (fun _ _ => rfl) | (refine And.intro ?_ ?_) | (simp only [hS.glob, plain]; first | done | omega))) (by rw [hC]; simp)
  · conv => cbv
    simp (disch := first | omega | (simp only [hS.glob, wraps, plain, Int.ofNat_eq_natCast]; omega)) only [hS.glob, wraps, plain, Int.ofNat_eq_natCast] at h1
    repeat (refine ⟨by first | (rw [hW]; show ordOk _ _ _ = true; kernel_rfl) | (first | trivial | omega | (simp (disch := omega) only [hS.glob, wraps, plain, Int.ofNat_eq_natCast]; first | done | omega | trivial | (simp; done) | (simp; omega) | (constructor <;> omega)) | (simp (disch := omega) only [hS.glob, wraps, plain, Int.ofNat_eq_natCast, Vx.toN]; omega)), ?_⟩)
    simp only [hS.tidy]
    obtain ⟨p1, p2, p5⟩ := hPk k
    rcases hPe : P k with ⟨f1, f2, f3, f4, EN⟩
    rw [hPe] at p1 p2 p5
    dsimp only at p1 p2 p5
    obtain ⟨q1, q2⟩ := s1 k (by omega)
    obtain ⟨q, hq⟩ : ∃ q, q = t.q k := ⟨_, rfl⟩
    rw [← hq] at q1 q2
    have s2k := s2 k (by omega)
    obtain ⟨tn, htn⟩ : ∃ tn : Nat, t.to k = tn := ⟨(t.to k).toNat, by omega⟩
    have ef1 : f1 = ofN q := by rw [p1, q1]; (first | rfl | omega | (simp (disch := omega) only [hS.glob, wraps, plain, Int.ofNat_eq_natCast]; first | done | rfl | omega | (simp; done) | (simp; omega)) | (simp (disch := omega) only [hS.glob, wraps, plain, Int.ofNat_eq_natCast, Vx.toN]; omega))
    have ef2 : f2 = ofN tn := by rw [p2, htn]; (first | rfl | omega | (simp (disch := omega) only [hS.glob, wraps, plain, Int.ofNat_eq_natCast]; first | done | rfl | omega | (simp; done) | (simp; omega)) | (simp (disch := omega) only [hS.glob, wraps, plain, Int.ofNat_eq_natCast, Vx.toN]; omega))
    try simp only [hPe]
    rw [hVV]
    clear hVV hVA VV VA hW W
    refine V.to (s' := [(13, .int .i64 (ofN q)), (12, .int .i64 (ofN k)), (10, .rows 5 K (ptc P)), (11, .sl 0 0 cnt), (6, .rows 7 cnt (itc g)), (2, .ref [.rows 9 n (prc p), .rows 6 ns (spc l)])]) (H' := [some ⟨3, 1, .arr cnt (icol .i64 cf)⟩]) ?_ (by
      refine ⟨sti (by first | exact ef1 | (rw [hPe]; exact ef1)), rfl, rfl, rfl, rfl, rfl, trivial⟩) rfl (by (repeat' first | exact trivial | rfl | exact Nat.le_refl _ | exact (fun _ _ => rfl) | (refine And.intro ?_ ?_) | (simp only [hS.glob, plain]; first | done | omega))) (by rw [hC]; simp)
    refine V.loop (γ := Nat × (Nat → Int)) (fun w => q ≤ w.1 ∧ w.1 ≤ tn ∧ ∀ j, j < cnt → 0 ≤ w.2 j ∧ w.2 j ≤ w.1 ∧ (fa j < k → 1 ≤ w.2 j) ∧ (fa j = k → W0 j < w.1 → 1 ≤ w.2 j)) (fun w => [(13, .int .i64 (ofN w.1)), (12, .int .i64 (ofN k)), (10, .rows 5 K (ptc P)), (11, .sl 0 0 cnt), (6, .rows 7 cnt (itc g)), (2, .ref [.rows 9 n (prc p), .rows 6 ns (spc l)])]) (fun w => [some ⟨3, 1, .arr cnt (icol .i64 w.2)⟩]) (fun w => tn - w.1) ?_ (q, cf) ⟨Nat.le_refl _, by omega, fun j hj => by
      have a := hcf j hj
      exact ⟨a.1, by have := a.2.2.1 (by omega); dsimp only; omega, a.2.2.2, fun h5 h6 => by have := hW0 j hj; rw [h5] at this; dsimp only at h6; omega⟩⟩
    rintro ⟨i, cg⟩ ⟨hi1, hi2, hcg⟩ hback2
    dsimp only at hi1 hi2 hcg hback2 ⊢
    refine V.goF (by first | exact trivial | assumption) Try.func4 tl_ok mixed hS.ops [] 400 ?_
    intro VV VA W hVV hVA hW
    conv => cbv
    repeat (refine ⟨by first | (rw [hW]; show ordOk _ _ _ = true; kernel_rfl) | (first | trivial | omega | (simp (disch := omega) only [hS.glob, wraps, plain, Int.ofNat_eq_natCast]; first | done | omega | trivial | (simp; done) | (simp; omega) | (constructor <;> omega)) | (simp (disch := omega) only [hS.glob, wraps, plain, Int.ofNat_eq_natCast, Vx.toN]; omega)), ?_⟩)
    simp only [hS.tidy, hPe, ef2]
    cases h2 : ilt (ofN i) (ofN tn)
    · conv => cbv
      simp (disch := first | omega | (simp only [hS.glob, wraps, plain, Int.ofNat_eq_natCast]; omega)) only [hS.glob, wraps, plain, Int.ofNat_eq_natCast] at h2
      rw [hVV]
      clear hVV hVA VV VA hW W
      exact V.to (hback (k + 1, cg) ⟨by simp only; omega, fun j hj => by
        have a := hcg j hj
        refine ⟨a.1, by dsimp only; omega, fun h => ?_, fun h => ?_⟩
        · have := s3 k (k + 1) (by omega) h
          dsimp only; omega
        · rcases Nat.lt_or_ge (fa j) k with h3 | h3
          · exact a.2.2.1 h3
          · have h4 : fa j = k := by simp only at h; omega
            have := hW0 j hj
            rw [h4] at this
            exact a.2.2.2 h4 (by omega)⟩ (by simp only; omega)) (by (repeat' first | exact trivial | rfl | (refine And.intro ?_ ?_) | (refine sti ?_; (first | rfl | omega | (simp (disch := omega) only [hS.glob, wraps, plain, Int.ofNat_eq_natCast]; first | done | rfl | omega | (simp; done) | (simp; omega)) | (simp (disch := omega) only [hS.glob, wraps, plain, Int.ofNat_eq_natCast, Vx.toN]; omega))) | (refine slq ?_ ?_ ?_ <;> (first | rfl | omega | (simp (disch := omega) only [hS.glob, wraps, plain, Int.ofNat_eq_natCast]; first | done | rfl | omega | (simp; done) | (simp; omega)) | (simp (disch := omega) only [hS.glob, wraps, plain, Int.ofNat_eq_natCast, Vx.toN]; omega))) | (refine ptq ?_ ?_ ?_ <;> (first | rfl | omega | (simp (disch := omega) only [hS.glob, wraps, plain, Int.ofNat_eq_natCast]; first | done | rfl | omega | (simp; done) | (simp; omega)) | (simp (disch := omega) only [hS.glob, wraps, plain, Int.ofNat_eq_natCast, Vx.toN]; omega))) | (refine blq ?_; (first | rfl | omega | (simp (disch := omega) only [hS.glob, wraps, plain, Int.ofNat_eq_natCast]; first | done | rfl | omega | (simp; done) | (simp; omega)) | (simp (disch := omega) only [hS.glob, wraps, plain, Int.ofNat_eq_natCast, Vx.toN]; omega))))) rfl (by (repeat' first | exact trivial | rfl | exact Nat.le_refl _ | exact (fun _ _ => rfl) | (refine And.intro ?_ ?_) | (simp only [hS.glob, plain]; first | done | omega))) (by rw [hC]; simp)
    conv => cbv
    simp (disch := first | omega | (simp only [hS.glob, wraps, plain, Int.ofNat_eq_natCast]; omega)) only [hS.glob, wraps, plain, Int.ofNat_eq_natCast] at h2
    rw [hVV]
    clear hVV hVA VV VA hW W
    change V _ _ _ _ _ (_ :: _ :: Item.inBlock 5 :: _ :: _ :: Item.inBlock 4 :: ?kk) _ _
    generalize hkk : ?kk = kk0 at hback2 ⊢
    clear hkk hback
    refine V.call rfl rfl rfl rfl rfl Try.func9 rfl (by decide) [] (by simp) (by simp) (by (first | rfl | ((conv => cbv); (repeat' apply And.intro) <;> first | rfl | trivial | (first | rfl | omega | (simp (disch := omega) only [hS.glob, wraps, plain, Int.ofNat_eq_natCast]; first | done | rfl | omega | (simp; done) | (simp; omega)) | (simp (disch := omega) only [hS.glob, wraps, plain, Int.ofNat_eq_natCast, Vx.toN]; omega))))) rfl (f9_ok cnt (by omega) g hord (ofN i)) ?_
    rintro r Hc ⟨rfl, R, rfl, hR1, hR2⟩
    refine V.to (s' := [(144, .int .i64 R), (13, .int .i64 (ofN i)), (12, .int .i64 (ofN k)), (10, .rows 5 K (ptc P)), (11, .sl 0 0 cnt), (6, .rows 7 cnt (itc g)), (2, .ref [.rows 9 n (prc p), .rows 6 ns (spc l)])]) (H' := [some ⟨3, 1, .arr cnt (icol .i64 cg)⟩]) ?_ (by (repeat' first | exact trivial | rfl | (refine And.intro ?_ ?_) | (refine sti ?_; (first | rfl | omega | (simp (disch := omega) only [hS.glob, wraps, plain, Int.ofNat_eq_natCast]; first | done | rfl | omega | (simp; done) | (simp; omega)) | (simp (disch := omega) only [hS.glob, wraps, plain, Int.ofNat_eq_natCast, Vx.toN]; omega))) | (refine slq ?_ ?_ ?_ <;> (first | rfl | omega | (simp (disch := omega) only [hS.glob, wraps, plain, Int.ofNat_eq_natCast]; first | done | rfl | omega | (simp; done) | (simp; omega)) | (simp (disch := omega) only [hS.glob, wraps, plain, Int.ofNat_eq_natCast, Vx.toN]; omega))) | (refine ptq ?_ ?_ ?_ <;> (first | rfl | omega | (simp (disch := omega) only [hS.glob, wraps, plain, Int.ofNat_eq_natCast]; first | done | rfl | omega | (simp; done) | (simp; omega)) | (simp (disch := omega) only [hS.glob, wraps, plain, Int.ofNat_eq_natCast, Vx.toN]; omega))) | (refine blq ?_; (first | rfl | omega | (simp (disch := omega) only [hS.glob, wraps, plain, Int.ofNat_eq_natCast]; first | done | rfl | omega | (simp; done) | (simp; omega)) | (simp (disch := omega) only [hS.glob, wraps, plain, Int.ofNat_eq_natCast, Vx.toN]; omega))))) rfl (by (repeat' first | exact trivial | rfl | exact Nat.le_refl _ | exact (fun _ _ => rfl) | (refine And.intro ?_ ?_) | (simp only [hS.glob, plain]; first | done | omega))) (by rw [hC]; simp)
    have hik := hof k (by omega) (i : Int) (by omega) (by omega)
    have eI : ofN i = (i : Int) := by simp only [hS.glob, plain]
    rw [eI] at hR1 hR2
    obtain ⟨X, hX⟩ : ∃ X, X = remB (p i).cl := ⟨_, rfl⟩
    have hlaid : X = false → EN = false → t.laid k := fun h3 h4 => by
      refine ⟨⟨i, by omega, by omega, by rw [hTp, ← hX]; exact h3⟩, fun h5 => ?_⟩
      rw [p5.2 h5] at h4; cases h4
    by_cases hin : ∃ j, j < cnt ∧ fa j ≤ k ∧ k ≤ fb j
    · obtain ⟨j, hj, hj1, hj2⟩ := hin
      obtain ⟨b1, b2⟩ := (hik j hj).2 ⟨hj1, hj2⟩
      have eR : R = ofN j := by rw [hR1 j hj b1 b2]; (first | rfl | omega | (simp (disch := omega) only [hS.glob, wraps, plain, Int.ofNat_eq_natCast]; first | done | rfl | omega | (simp; done) | (simp; omega)) | (simp (disch := omega) only [hS.glob, wraps, plain, Int.ofNat_eq_natCast, Vx.toN]; omega))
      have hgr : EN = true → (g j).gr = true := fun h3 => by
        cases h4 : (g j).gr
        · have h5 := hE.grp j hj h4
          have h6 : fa j = k := by omega
          exact absurd (p5.1 h3) (by rw [← h6]; exact (hEo j hj).2.2.2)
        · rfl
      clear hR1 hR2
      subst eR
      have e1 : ige (ofN j) (ofN cnt) = false := by simp only [hS.glob, plain]; omega
      have e2 : ilt (ofN j) 0 = false := by simp only [hS.glob, plain]; omega
      have e3 : ige (ofN j) 0 = true := by simp only [hS.glob, plain]; omega
      have hgj : EN = true → ∃ a1 a2 a3 a4 a5 a6, g j = ⟨a1, a2, a3, a4, a5, a6, true⟩ := fun h => by
        rcases hge : g j with ⟨a1, a2, a3, a4, a5, a6, a7⟩
        have := hgr h
        rw [hge] at this
        dsimp only at this
        exact ⟨a1, a2, a3, a4, a5, a6, by rw [this]⟩
      refine V.goF (by first | exact trivial | assumption) Try.func4 tl_ok mixed hS.ops [] 400 ?_
      intro VV VA W hVV hVA hW
      conv => cbv
      repeat (first | (with_reducible refine And.intro ?_ ?_; · (first | trivial | omega | (simp (disch := omega) only [hS.glob, wraps, plain, Int.ofNat_eq_natCast]; first | done | omega | trivial | (simp; done) | (simp; omega) | (constructor <;> omega)) | (simp (disch := omega) only [hS.glob, wraps, plain, Int.ofNat_eq_natCast, Vx.toN]; omega))) | (simp only [e1, hS.tidy]; try (conv => cbv)))
      rw [hVV]
      clear hVV hVA VV VA hW W
      refine V.call rfl rfl rfl rfl rfl Try.func10 rfl (by decide) [] (by simp) (by simp) (by (first | rfl | ((conv => cbv); (repeat' apply And.intro) <;> first | rfl | trivial | (first | rfl | omega | (simp (disch := omega) only [hS.glob, wraps, plain, Int.ofNat_eq_natCast]; first | done | rfl | omega | (simp; done) | (simp; omega)) | (simp (disch := omega) only [hS.glob, wraps, plain, Int.ofNat_eq_natCast, Vx.toN]; omega))))) rfl (f10_ok (p i).cl X hX) ?_
      rintro r Hc ⟨rfl, rfl⟩
      refine V.to (s' := [(155, .bool X), (14, .int .i64 (ofN j)), (13, .int .i64 (ofN i)), (12, .int .i64 (ofN k)), (10, .rows 5 K (ptc P)), (11, .sl 0 0 cnt), (6, .rows 7 cnt (itc g)), (2, .ref [.rows 9 n (prc p), .rows 6 ns (spc l)])]) (H' := [some ⟨3, 1, .arr cnt (icol .i64 cg)⟩]) ?_ (by (repeat' first | exact trivial | rfl | (refine And.intro ?_ ?_) | (refine sti ?_; (first | rfl | omega | (simp (disch := omega) only [hS.glob, wraps, plain, Int.ofNat_eq_natCast]; first | done | rfl | omega | (simp; done) | (simp; omega)) | (simp (disch := omega) only [hS.glob, wraps, plain, Int.ofNat_eq_natCast, Vx.toN]; omega))) | (refine slq ?_ ?_ ?_ <;> (first | rfl | omega | (simp (disch := omega) only [hS.glob, wraps, plain, Int.ofNat_eq_natCast]; first | done | rfl | omega | (simp; done) | (simp; omega)) | (simp (disch := omega) only [hS.glob, wraps, plain, Int.ofNat_eq_natCast, Vx.toN]; omega))) | (refine ptq ?_ ?_ ?_ <;> (first | rfl | omega | (simp (disch := omega) only [hS.glob, wraps, plain, Int.ofNat_eq_natCast]; first | done | rfl | omega | (simp; done) | (simp; omega)) | (simp (disch := omega) only [hS.glob, wraps, plain, Int.ofNat_eq_natCast, Vx.toN]; omega))) | (refine blq ?_; (first | rfl | omega | (simp (disch := omega) only [hS.glob, wraps, plain, Int.ofNat_eq_natCast]; first | done | rfl | omega | (simp; done) | (simp; omega)) | (simp (disch := omega) only [hS.glob, wraps, plain, Int.ofNat_eq_natCast, Vx.toN]; omega))))) rfl (by (repeat' first | exact trivial | rfl | exact Nat.le_refl _ | exact (fun _ _ => rfl) | (refine And.intro ?_ ?_) | (simp only [hS.glob, plain]; first | done | omega))) (by rw [hC]; simp)
      refine V.goF (by first | exact trivial | assumption) Try.func4 tl_ok mixed hS.ops [] 400 ?_
      intro VV VA W hVV hVA hW
      conv => cbv
      have stay : (∀ j', j' < cnt → fa j' = k → W0 j' = i → False) → q ≤ i + 1 ∧ i + 1 ≤ tn ∧ ∀ j, j < cnt → 0 ≤ cg j ∧ cg j ≤ ((i + 1 : Nat) : Int) ∧ (fa j < k → 1 ≤ cg j) ∧ (fa j = k → W0 j < i + 1 → 1 ≤ cg j) := fun hno => ⟨by omega, by omega, fun j' hj' => by
        have a := hcg j' hj'
        refine ⟨a.1, by omega, a.2.2.1, fun h3 h4 => ?_⟩
        rcases Nat.lt_or_ge (W0 j') i with h5 | h5
        · exact a.2.2.2 h3 h5
        · exact (hno j' hj' h3 (by omega)).elim⟩
      have nox : X = true → ∀ j', j' < cnt → fa j' = k → W0 j' = i → False := fun h3 j' hj' h4 h5 => by
        have := (hW0 j' hj').2.2
        rw [h5, ← hX, h3] at this
        cases this
      have noe : EN = true → ∀ j', j' < cnt → fa j' = k → W0 j' = i → False := fun h3 j' hj' h4 h5 => by
        have := (hEo j' hj').2.2.2
        rw [h4] at this
        exact this (p5.1 h3)
      cases hXX : X <;> cases hEN : EN
      case false.false =>
        as_aux_lemma =>
          have ea : iadd .i64 (cg j) 1 = cg j + 1 := by have := hcg j hj; (first | rfl | omega | (simp (disch := omega) only [hS.glob, wraps, plain, Int.ofNat_eq_natCast]; first | done | rfl | omega | (simp; done) | (simp; omega)) | (simp (disch := omega) only [hS.glob, wraps, plain, Int.ofNat_eq_natCast, Vx.toN]; omega))
          repeat (first | (with_reducible refine And.intro ?_ ?_; · (first | trivial | omega | (simp (disch := omega) only [hS.glob, wraps, plain, Int.ofNat_eq_natCast]; first | done | omega | trivial | (simp; done) | (simp; omega) | (constructor <;> omega)) | (simp (disch := omega) only [hS.glob, wraps, plain, Int.ofNat_eq_natCast, Vx.toN]; omega))) | (simp only [e1, e2, e3, ea, hS.tidy, hPe, hEN]; try (conv => cbv)))
          rw [hVV]
          clear hVV hVA VV VA hW W
          obtain ⟨ch, hch1, hch2⟩ : ∃ ch : Nat → Int, (∀ a, a ≠ j → ch a = cg a) ∧ ch j = cg j + 1 := ⟨fun a => if a = j then cg j + 1 else cg a, fun a ha => if_neg ha, if_pos rfl⟩
          refine V.to (hback2 (i + 1, ch) ⟨by simp only; omega, by simp only; omega, fun j' hj' => ?_⟩ (by simp only; omega)) (by (repeat' first | exact trivial | rfl | (refine And.intro ?_ ?_) | (refine sti ?_; (first | rfl | omega | (simp (disch := omega) only [hS.glob, wraps, plain, Int.ofNat_eq_natCast]; first | done | rfl | omega | (simp; done) | (simp; omega)) | (simp (disch := omega) only [hS.glob, wraps, plain, Int.ofNat_eq_natCast, Vx.toN]; omega))) | (refine slq ?_ ?_ ?_ <;> (first | rfl | omega | (simp (disch := omega) only [hS.glob, wraps, plain, Int.ofNat_eq_natCast]; first | done | rfl | omega | (simp; done) | (simp; omega)) | (simp (disch := omega) only [hS.glob, wraps, plain, Int.ofNat_eq_natCast, Vx.toN]; omega))) | (refine ptq ?_ ?_ ?_ <;> (first | rfl | omega | (simp (disch := omega) only [hS.glob, wraps, plain, Int.ofNat_eq_natCast]; first | done | rfl | omega | (simp; done) | (simp; omega)) | (simp (disch := omega) only [hS.glob, wraps, plain, Int.ofNat_eq_natCast, Vx.toN]; omega))) | (refine blq ?_; (first | rfl | omega | (simp (disch := omega) only [hS.glob, wraps, plain, Int.ofNat_eq_natCast]; first | done | rfl | omega | (simp; done) | (simp; omega)) | (simp (disch := omega) only [hS.glob, wraps, plain, Int.ofNat_eq_natCast, Vx.toN]; omega))))) rfl ?_ (by rw [hC]; simp)
          · have a := hcg j' hj'
            dsimp only
            by_cases h3 : j' = j
            · subst h3
              rw [hch2]
              exact ⟨by omega, by omega, fun _ => by omega, fun _ _ => by omega⟩
            · rw [hch1 j' h3]
              refine ⟨a.1, by omega, a.2.2.1, fun h4 h5 => ?_⟩
              rcases Nat.lt_or_ge (W0 j') i with h6 | h6
              · exact a.2.2.2 h4 h6
              · exfalso
                -- the same scalar lies in one item only
                have h7 := (hik j' hj').2 ⟨by omega, by have := (hEo j' hj').1; omega⟩
                rcases Nat.lt_trichotomy j' j with h8 | h8 | h8
                · have := hord.two j' j h8 hj; omega
                · exact h3 h8
                · have := hord.two j j' h8 hj'; omega
          · refine ⟨⟨rfl, rfl, ⟨Nat.le_refl _, fun a ha => ?_⟩, rfl⟩, trivial⟩
            dsimp only
            by_cases h3 : a = j
            · subst h3
              simp [hS.glob, Vx.eqN, icol, hch2, splice, cellsOf]
            · have hb : (a == j) = false := by simpa using h3
              simp [hS.glob, Vx.eqN, icol, hch1 a h3, hb]
      case true.false =>
        as_aux_lemma =>
          repeat (first | (with_reducible refine And.intro ?_ ?_; · (first | trivial | omega | (simp (disch := omega) only [hS.glob, wraps, plain, Int.ofNat_eq_natCast]; first | done | omega | trivial | (simp; done) | (simp; omega) | (constructor <;> omega)) | (simp (disch := omega) only [hS.glob, wraps, plain, Int.ofNat_eq_natCast, Vx.toN]; omega))) | (simp only [e1, e2, e3, hS.tidy, hPe, hEN]; try (conv => cbv)))
          rw [hVV]
          clear hVV hVA VV VA hW W
          exact V.to (hback2 (i + 1, cg) (stay (nox hXX)) (by simp only; omega)) (by (repeat' first | exact trivial | rfl | (refine And.intro ?_ ?_) | (refine sti ?_; (first | rfl | omega | (simp (disch := omega) only [hS.glob, wraps, plain, Int.ofNat_eq_natCast]; first | done | rfl | omega | (simp; done) | (simp; omega)) | (simp (disch := omega) only [hS.glob, wraps, plain, Int.ofNat_eq_natCast, Vx.toN]; omega))) | (refine slq ?_ ?_ ?_ <;> (first | rfl | omega | (simp (disch := omega) only [hS.glob, wraps, plain, Int.ofNat_eq_natCast]; first | done | rfl | omega | (simp; done) | (simp; omega)) | (simp (disch := omega) only [hS.glob, wraps, plain, Int.ofNat_eq_natCast, Vx.toN]; omega))) | (refine ptq ?_ ?_ ?_ <;> (first | rfl | omega | (simp (disch := omega) only [hS.glob, wraps, plain, Int.ofNat_eq_natCast]; first | done | rfl | omega | (simp; done) | (simp; omega)) | (simp (disch := omega) only [hS.glob, wraps, plain, Int.ofNat_eq_natCast, Vx.toN]; omega))) | (refine blq ?_; (first | rfl | omega | (simp (disch := omega) only [hS.glob, wraps, plain, Int.ofNat_eq_natCast]; first | done | rfl | omega | (simp; done) | (simp; omega)) | (simp (disch := omega) only [hS.glob, wraps, plain, Int.ofNat_eq_natCast, Vx.toN]; omega))))) rfl (by (repeat' first | exact trivial | rfl | exact Nat.le_refl _ | exact (fun _ _ => rfl) | (refine And.intro ?_ ?_) | (simp only [hS.glob, plain]; first | done | omega))) (by rw [hC]; simp)
      all_goals
        as_aux_lemma =>
          obtain ⟨a1, a2, a3, a4, a5, a6, hge⟩ := hgj hEN
          repeat (first | (with_reducible refine And.intro ?_ ?_; · (first | trivial | omega | (simp (disch := omega) only [hS.glob, wraps, plain, Int.ofNat_eq_natCast]; first | done | omega | trivial | (simp; done) | (simp; omega) | (constructor <;> omega)) | (simp (disch := omega) only [hS.glob, wraps, plain, Int.ofNat_eq_natCast, Vx.toN]; omega))) | (simp only [e1, e2, e3, hS.tidy, hPe, hEN, hge]; try (conv => cbv)))
          rw [hVV]
          clear hVV hVA VV VA hW W
          exact V.to (hback2 (i + 1, cg) (stay (noe hEN)) (by simp only; omega)) (by (repeat' first | exact trivial | rfl | (refine And.intro ?_ ?_) | (refine sti ?_; (first | rfl | omega | (simp (disch := omega) only [hS.glob, wraps, plain, Int.ofNat_eq_natCast]; first | done | rfl | omega | (simp; done) | (simp; omega)) | (simp (disch := omega) only [hS.glob, wraps, plain, Int.ofNat_eq_natCast, Vx.toN]; omega))) | (refine slq ?_ ?_ ?_ <;> (first | rfl | omega | (simp (disch := omega) only [hS.glob, wraps, plain, Int.ofNat_eq_natCast]; first | done | rfl | omega | (simp; done) | (simp; omega)) | (simp (disch := omega) only [hS.glob, wraps, plain, Int.ofNat_eq_natCast, Vx.toN]; omega))) | (refine ptq ?_ ?_ ?_ <;> (first | rfl | omega | (simp (disch := omega) only [hS.glob, wraps, plain, Int.ofNat_eq_natCast]; first | done | rfl | omega | (simp; done) | (simp; omega)) | (simp (disch := omega) only [hS.glob, wraps, plain, Int.ofNat_eq_natCast, Vx.toN]; omega))) | (refine blq ?_; (first | rfl | omega | (simp (disch := omega) only [hS.glob, wraps, plain, Int.ofNat_eq_natCast]; first | done | rfl | omega | (simp; done) | (simp; omega)) | (simp (disch := omega) only [hS.glob, wraps, plain, Int.ofNat_eq_natCast, Vx.toN]; omega))))) rfl (by (repeat' first | exact trivial | rfl | exact Nat.le_refl _ | exact (fun _ _ => rfl) | (refine And.intro ?_ ?_) | (simp only [hS.glob, plain]; first | done | omega))) (by rw [hC]; simp)
    · have eR : R = -1 := hR2 (fun j hj h3 => hin ⟨j, hj, (hik j hj).1 h3⟩)
      clear hR1 hR2
      subst eR
      have e1 : ige (-1) (ofN cnt) = false := by simp only [hS.glob, plain]; omega
      have e2 : ilt (-1) 0 = true := by (first | rfl | omega | (simp (disch := omega) only [hS.glob, wraps, plain, Int.ofNat_eq_natCast]; first | done | rfl | omega | (simp; done) | (simp; omega)) | (simp (disch := omega) only [hS.glob, wraps, plain, Int.ofNat_eq_natCast, Vx.toN]; omega))
      have e3 : ige (-1) 0 = false := by (first | rfl | omega | (simp (disch := omega) only [hS.glob, wraps, plain, Int.ofNat_eq_natCast]; first | done | rfl | omega | (simp; done) | (simp; omega)) | (simp (disch := omega) only [hS.glob, wraps, plain, Int.ofNat_eq_natCast, Vx.toN]; omega))
      have stay : q ≤ i + 1 ∧ i + 1 ≤ tn ∧ ∀ j, j < cnt → 0 ≤ cg j ∧ cg j ≤ ((i + 1 : Nat) : Int) ∧ (fa j < k → 1 ≤ cg j) ∧ (fa j = k → W0 j < i + 1 → 1 ≤ cg j) := ⟨by omega, by omega, fun j' hj' => by
        have a := hcg j' hj'
        refine ⟨a.1, by omega, a.2.2.1, fun h3 _ => ?_⟩
        exact absurd ⟨j', hj', by omega, by have := (hEo j' hj').1; omega⟩ hin⟩
      refine V.goF (by first | exact trivial | assumption) Try.func4 tl_ok mixed hS.ops [] 400 ?_
      intro VV VA W hVV hVA hW
      conv => cbv
      repeat (first | (with_reducible refine And.intro ?_ ?_; · (first | trivial | omega | (simp (disch := omega) only [hS.glob, wraps, plain, Int.ofNat_eq_natCast]; first | done | omega | trivial | (simp; done) | (simp; omega) | (constructor <;> omega)) | (simp (disch := omega) only [hS.glob, wraps, plain, Int.ofNat_eq_natCast, Vx.toN]; omega))) | (simp only [e1, hS.tidy]; try (conv => cbv)))
      rw [hVV]
      clear hVV hVA VV VA hW W
      refine V.call rfl rfl rfl rfl rfl Try.func10 rfl (by decide) [] (by simp) (by simp) (by (first | rfl | ((conv => cbv); (repeat' apply And.intro) <;> first | rfl | trivial | (first | rfl | omega | (simp (disch := omega) only [hS.glob, wraps, plain, Int.ofNat_eq_natCast]; first | done | rfl | omega | (simp; done) | (simp; omega)) | (simp (disch := omega) only [hS.glob, wraps, plain, Int.ofNat_eq_natCast, Vx.toN]; omega))))) rfl (f10_ok (p i).cl X hX) ?_
      rintro r Hc ⟨rfl, rfl⟩
      refine V.to (s' := [(155, .bool X), (14, .int .i64 (-1)), (13, .int .i64 (ofN i)), (12, .int .i64 (ofN k)), (10, .rows 5 K (ptc P)), (11, .sl 0 0 cnt), (6, .rows 7 cnt (itc g)), (2, .ref [.rows 9 n (prc p), .rows 6 ns (spc l)])]) (H' := [some ⟨3, 1, .arr cnt (icol .i64 cg)⟩]) ?_ (by (repeat' first | exact trivial | rfl | (refine And.intro ?_ ?_) | (refine sti ?_; (first | rfl | omega | (simp (disch := omega) only [hS.glob, wraps, plain, Int.ofNat_eq_natCast]; first | done | rfl | omega | (simp; done) | (simp; omega)) | (simp (disch := omega) only [hS.glob, wraps, plain, Int.ofNat_eq_natCast, Vx.toN]; omega))) | (refine slq ?_ ?_ ?_ <;> (first | rfl | omega | (simp (disch := omega) only [hS.glob, wraps, plain, Int.ofNat_eq_natCast]; first | done | rfl | omega | (simp; done) | (simp; omega)) | (simp (disch := omega) only [hS.glob, wraps, plain, Int.ofNat_eq_natCast, Vx.toN]; omega))) | (refine ptq ?_ ?_ ?_ <;> (first | rfl | omega | (simp (disch := omega) only [hS.glob, wraps, plain, Int.ofNat_eq_natCast]; first | done | rfl | omega | (simp; done) | (simp; omega)) | (simp (disch := omega) only [hS.glob, wraps, plain, Int.ofNat_eq_natCast, Vx.toN]; omega))) | (refine blq ?_; (first | rfl | omega | (simp (disch := omega) only [hS.glob, wraps, plain, Int.ofNat_eq_natCast]; first | done | rfl | omega | (simp; done) | (simp; omega)) | (simp (disch := omega) only [hS.glob, wraps, plain, Int.ofNat_eq_natCast, Vx.toN]; omega))))) rfl (by (repeat' first | exact trivial | rfl | exact Nat.le_refl _ | exact (fun _ _ => rfl) | (refine And.intro ?_ ?_) | (simp only [hS.glob, plain]; first | done | omega))) (by rw [hC]; simp)
      refine V.goF (by first | exact trivial | assumption) Try.func4 tl_ok mixed hS.ops [] 400 ?_
      intro VV VA W hVV hVA hW
      conv => cbv
      cases hXX : X <;> cases hEN : EN
      case false.false =>
        as_aux_lemma =>
          obtain ⟨j, hj, hj1, hj2⟩ := hEa k (by omega) (hlaid hXX hEN)
          exact absurd ⟨j, hj, hj1, hj2⟩ hin
      all_goals
        as_aux_lemma =>
          repeat (first | (with_reducible refine And.intro ?_ ?_; · (first | trivial | omega | (simp (disch := omega) only [hS.glob, wraps, plain, Int.ofNat_eq_natCast]; first | done | omega | trivial | (simp; done) | (simp; omega) | (constructor <;> omega)) | (simp (disch := omega) only [hS.glob, wraps, plain, Int.ofNat_eq_natCast, Vx.toN]; omega))) | (simp only [e1, e2, e3, hS.tidy, hPe, hEN]; try (conv => cbv)))
          rw [hVV]
          clear hVV hVA VV VA hW W
          exact V.to (hback2 (i + 1, cg) stay (by simp only; omega)) (by (repeat' first | exact trivial | rfl | (refine And.intro ?_ ?_) | (refine sti ?_; (first | rfl | omega | (simp (disch := omega) only [hS.glob, wraps, plain, Int.ofNat_eq_natCast]; first | done | rfl | omega | (simp; done) | (simp; omega)) | (simp (disch := omega) only [hS.glob, wraps, plain, Int.ofNat_eq_natCast, Vx.toN]; omega))) | (refine slq ?_ ?_ ?_ <;> (first | rfl | omega | (simp (disch := omega) only [hS.glob, wraps, plain, Int.ofNat_eq_natCast]; first | done | rfl | omega | (simp; done) | (simp; omega)) | (simp (disch := omega) only [hS.glob, wraps, plain, Int.ofNat_eq_natCast, Vx.toN]; omega))) | (refine ptq ?_ ?_ ?_ <;> (first | rfl | omega | (simp (disch := omega) only [hS.glob, wraps, plain, Int.ofNat_eq_natCast]; first | done | rfl | omega | (simp; done) | (simp; omega)) | (simp (disch := omega) only [hS.glob, wraps, plain, Int.ofNat_eq_natCast, Vx.toN]; omega))) | (refine blq ?_; (first | rfl | omega | (simp (disch := omega) only [hS.glob, wraps, plain, Int.ofNat_eq_natCast]; first | done | rfl | omega | (simp; done) | (simp; omega)) | (simp (disch := omega) only [hS.glob, wraps, plain, Int.ofNat_eq_natCast, Vx.toN]; omega))))) rfl (by (repeat' first | exact trivial | rfl | exact Nat.le_refl _ | exact (fun _ _ => rfl) | (refine And.intro ?_ ?_) | (simp only [hS.glob, plain]; first | done | omega))) (by rw [hC]; simp)
end Go.Proofs.Ytngagepodbcohaa

/- A law's paragraph, of a bounded bulk. -/
namespace Go.Proofs.Ytngagepodbcohaa
open Go Vx
set_option maxRecDepth 100000
theorem span6U {P : Program} {n t : Nat} {f0 f1 f2 f3 f4 f5 : Field} (hu : P.underlying t = some (.struct #[f0, f1, f2, f3, f4, f5])) (hc : P.cellsOf t = 6) (o0 : f0.offset = 0) (o1 : f1.offset = 1) (o2 : f2.offset = 2) (o3 : f3.offset = 3) (o4 : f4.offset = 4) (o5 : f5.offset = 5)
    (c0 : P.cellsOf f0.type = 1) (c1 : P.cellsOf f1.type = 1) (c2 : P.cellsOf f2.type = 1) (c3 : P.cellsOf f3.type = 1) (c4 : P.cellsOf f4.type = 1) (c5 : P.cellsOf f5.type = 1)
    (u0 : P.underlying f0.type = some (.int .i64)) (u1 : P.underlying f1.type = some (.int .i64)) (u2 : P.underlying f2.type = some (.int .i64)) (u3 : P.underlying f3.type = some .bool) (u4 : P.underlying f4.type = some .string) (u5 : P.underlying f5.type = some (.int .u64))
    {cs : List AV} (h : U.Ty P 1048576 n t cs) : ∃ s : Sp, cs = spc (fun _ => s) 0 ∧ inSz s := by
  obtain ⟨hl, hf⟩ := h.struct_inv hu
  rw [hc] at hl
  match cs, hl with
  | [x0, x1, x2, x3, x4, x5], _ =>
    have h0 := hf f0 (by simp)
    have h1 := hf f1 (by simp)
    have h2 := hf f2 (by simp)
    have h3 := hf f3 (by simp)
    have h4 := hf f4 (by simp)
    have h5 := hf f5 (by simp)
    rw [o0, c0] at h0
    rw [o1, c1] at h1
    rw [o2, c2] at h2
    rw [o3, c3] at h3
    rw [o4, c4] at h4
    rw [o5, c5] at h5
    obtain ⟨a, ha, wa⟩ := U.Ty.int_inv u0 h0
    obtain ⟨b, hb, wb⟩ := U.Ty.int_inv u1 h1
    obtain ⟨p, hp, _⟩ := U.Ty.int_inv u2 h2
    obtain ⟨d, hd⟩ := U.Ty.bool_inv u3 h3
    obtain ⟨u, hu, _, wu⟩ := U.Ty.str_inv u4 h4
    obtain ⟨x, hx, wx⟩ := U.Ty.int_inv u5 h5
    simp only [List.drop_zero, List.drop_succ_cons, List.take_succ_cons, List.take_zero, List.cons.injEq, and_true] at ha hb hp hd hu hx
    refine ⟨⟨a, b, p, d, u, x⟩, by rw [ha, hb, hp, hd, hu, hx]; rfl, ?_⟩
    simp [Lit.wf, IntKind.min, IntKind.max, IntKind.signed, IntKind.bits] at wa wb wx
    unfold inSz
    dsimp only
    omega
theorem props9U {P : Program} {B n t : Nat} {f0 f1 f2 f3 f4 f5 f6 f7 f8 : Field} (hu : P.underlying t = some (.struct #[f0, f1, f2, f3, f4, f5, f6, f7, f8])) (hc : P.cellsOf t = 9) (o0 : f0.offset = 0) (o1 : f1.offset = 1) (o2 : f2.offset = 2) (o3 : f3.offset = 3) (o4 : f4.offset = 4) (o5 : f5.offset = 5) (o6 : f6.offset = 6) (o7 : f7.offset = 7) (o8 : f8.offset = 8)
    (c0 : P.cellsOf f0.type = 1) (c1 : P.cellsOf f1.type = 1) (c2 : P.cellsOf f2.type = 1) (c3 : P.cellsOf f3.type = 1) (c4 : P.cellsOf f4.type = 1) (c5 : P.cellsOf f5.type = 1) (c6 : P.cellsOf f6.type = 1) (c7 : P.cellsOf f7.type = 1) (c8 : P.cellsOf f8.type = 1)
    (u0 : P.underlying f0.type = some (.int .i64)) (u1 : P.underlying f1.type = some (.int .i64)) (u2 : P.underlying f2.type = some (.int .i64)) (u3 : P.underlying f3.type = some (.int .i64)) (u4 : P.underlying f4.type = some .bool) (u5 : P.underlying f5.type = some .bool) (u6 : P.underlying f6.type = some (.int .i64)) (u7 : P.underlying f7.type = some (.int .i64)) (u8 : P.underlying f8.type = some .bool)
    {cs : List AV} (h : U.Ty P B n t cs) : ∃ s : Pr, cs = prc (fun _ => s) 0 := by
  obtain ⟨hl, hf⟩ := h.struct_inv hu
  rw [hc] at hl
  match cs, hl with
  | [x0, x1, x2, x3, x4, x5, x6, x7, x8], _ =>
    have h0 := hf f0 (by simp)
    have h1 := hf f1 (by simp)
    have h2 := hf f2 (by simp)
    have h3 := hf f3 (by simp)
    have h4 := hf f4 (by simp)
    have h5 := hf f5 (by simp)
    have h6 := hf f6 (by simp)
    have h7 := hf f7 (by simp)
    have h8 := hf f8 (by simp)
    rw [o0, c0] at h0
    rw [o1, c1] at h1
    rw [o2, c2] at h2
    rw [o3, c3] at h3
    rw [o4, c4] at h4
    rw [o5, c5] at h5
    rw [o6, c6] at h6
    rw [o7, c7] at h7
    rw [o8, c8] at h8
    obtain ⟨a, ha, _⟩ := U.Ty.int_inv u0 h0
    obtain ⟨b, hb, _⟩ := U.Ty.int_inv u1 h1
    obtain ⟨c, hc, _⟩ := U.Ty.int_inv u2 h2
    obtain ⟨d, hd, _⟩ := U.Ty.int_inv u3 h3
    obtain ⟨e, he⟩ := U.Ty.bool_inv u4 h4
    obtain ⟨f, hf'⟩ := U.Ty.bool_inv u5 h5
    obtain ⟨g, hg, _⟩ := U.Ty.int_inv u6 h6
    obtain ⟨i, hi, _⟩ := U.Ty.int_inv u7 h7
    obtain ⟨j, hj⟩ := U.Ty.bool_inv u8 h8
    simp only [List.drop_zero, List.drop_succ_cons, List.take_succ_cons, List.take_zero, List.cons.injEq, and_true] at ha hb hc hd he hf' hg hi hj
    exact ⟨⟨a, b, c, d, e, f, g, i, j⟩, by rw [ha, hb, hc, hd, he, hf', hg, hi, hj]; rfl⟩
theorem spansU {n : Nat} {cs : List AV} (h : U.Ty Try.prog 1048576 n 23 cs) : ∃ (x : AV) (m : Nat) (g : Nat → Sp), cs = [x] ∧ Sub x (.rows 6 m (spc g)) ∧ m ≤ 1048576 ∧ ∀ i, i < m → inSz (g i) := by
  have c53 : Try.prog.cellsOf 53 = 6 := by kernel_rfl
  have b53 : Try.prog.bytesOf 53 = 56 := by kernel_rfl
  obtain ⟨m, f, hav, hm, hmB, hf⟩ := U.Ty.slice_inv Try.underlying23 h
  subst hav
  rw [c53]
  rw [b53] at hm
  simp only [reachBytes] at hm
  have each : ∀ i, ∃ s : Sp, i < m → f i = spc (fun _ => s) 0 ∧ inSz s := fun i => by
    by_cases hi : i < m
    · obtain ⟨s, h1, h2⟩ := span6U Try.underlying53 c53 rfl rfl rfl rfl rfl rfl (by kernel_rfl) (by kernel_rfl) (by kernel_rfl) (by kernel_rfl) (by kernel_rfl) (by kernel_rfl) Try.underlying3 Try.underlying3 Try.underlying50 Try.underlying4 Try.underlying9 Try.underlying51 (hf i hi)
      exact ⟨s, fun _ => ⟨h1, h2⟩⟩
    · exact ⟨noSp, fun h => absurd h hi⟩
  obtain ⟨g, hg⟩ := Classical.axiomOfChoice each
  refine ⟨_, m, g, rfl, Sub.rows fun i hi => ?_, by omega, fun i hi => (hg i hi).2⟩
  rw [(hg i hi).1]
  exact Subs.refl _
theorem propsU {n : Nat} {cs : List AV} (h : U.Ty Try.prog 1048576 n 22 cs) : ∃ (x : AV) (m : Nat) (g : Nat → Pr), cs = [x] ∧ Sub x (.rows 9 m (prc g)) ∧ m ≤ 1048576 := by
  have c47 : Try.prog.cellsOf 47 = 9 := by kernel_rfl
  have b47 : Try.prog.bytesOf 47 = 64 := by kernel_rfl
  obtain ⟨m, f, hav, hm, hmB, hf⟩ := U.Ty.slice_inv Try.underlying22 h
  subst hav
  rw [c47]
  rw [b47] at hm
  simp only [reachBytes] at hm
  have each : ∀ i, ∃ s : Pr, i < m → f i = prc (fun _ => s) 0 := fun i => by
    by_cases hi : i < m
    · obtain ⟨s, h1⟩ := props9U Try.underlying47 c47 rfl rfl rfl rfl rfl rfl rfl rfl rfl (by kernel_rfl) (by kernel_rfl) (by kernel_rfl) (by kernel_rfl) (by kernel_rfl) (by kernel_rfl) (by kernel_rfl) (by kernel_rfl) (by kernel_rfl) Try.underlying42 Try.underlying43 Try.underlying44 Try.underlying45 Try.underlying4 Try.underlying4 Try.underlying3 Try.underlying3 Try.underlying4 (hf i hi)
      exact ⟨s, fun _ => h1⟩
    · exact ⟨⟨0, 0, 0, 0, false, false, 0, 0, false⟩, fun h => absurd h hi⟩
  obtain ⟨g, hg⟩ := Classical.axiomOfChoice each
  refine ⟨_, m, g, rfl, Sub.rows fun i hi => ?_, by omega⟩
  rw [hg i hi]
  exact Subs.refl _
theorem text2U {P : Program} {B n t : Nat} {f0 f1 : Field} (hu : P.underlying t = some (.struct #[f0, f1])) (hc : P.cellsOf t = 2) (o0 : f0.offset = 0) (o1 : f1.offset = 1) (c0 : P.cellsOf f0.type = 1) (c1 : P.cellsOf f1.type = 1) {av : AV} (h : U.TyV P B n t av) : ∃ x y, av = .agg [x, y] ∧ U.Ty P B (n - 1) f0.type [x] ∧ U.Ty P B (n - 1) f1.type [y] := by
  obtain ⟨cs, rfl, hl, hf⟩ := h.struct hu
  rw [hc] at hl
  match cs, hl with
  | [x, y], _ =>
    have h0 := hf f0 (by simp)
    have h1 := hf f1 (by simp)
    rw [o0, c0] at h0
    rw [o1, c1] at h1
    exact ⟨x, y, rfl, h0, h1⟩
theorem textU {n : Nat} {av : AV} (h : U.TyV Try.prog 1048576 n 25 av) : ∃ (a : Nat) (p : Nat → Pr) (b : Nat) (l : Nat → Sp), Sub av (.agg [.rows 9 a (prc p), .rows 6 b (spc l)]) ∧ a ≤ 1048576 ∧ b ≤ 1048576 ∧ ∀ i, i < b → inSz (l i) := by
  obtain ⟨x, y, rfl, h0, h1⟩ := text2U Try.underlying25 (by kernel_rfl) rfl rfl (by kernel_rfl) (by kernel_rfl) h
  obtain ⟨x', a, p, e0, s0, k0⟩ := propsU h0
  obtain ⟨y', b, l, e1, s1, k1, w1⟩ := spansU h1
  injection e0 with e0 _
  injection e1 with e1 _
  subst e0 e1
  exact ⟨a, p, b, l, Sub.agg ⟨s0, s1, trivial⟩, k0, k1, w1⟩
end Go.Proofs.Ytngagepodbcohaa
