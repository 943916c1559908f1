/- Contracts of functions by an evaluator of the model: its part T2. -/
import Derived.Test.YtngagepodbcohaaV2
import Derived.Test.YtngagepodbcohaaT1
set_option linter.all false
/- Scalars, and how they begin. -/
namespace Go.Proofs.Ytngagepodbcohaa
open Go Vx
set_option maxRecDepth 100000

/-- Whether a number is a scalar. -/
def isSc (c : Int) : Prop := 0 ≤ c ∧ c ≤ 1114111 ∧ (c < 55296 ∨ 57343 < c)
theorem f97_ok (c : Int) (R : Bool) (hR : R = true ↔ isSc c) : FSpec Try.prog 97 [.int .i64 c] [] (fun r H' => r = .bool R ∧ H' = []) := by
  refine FSpec.of (fn := Try.f97) Try.func97 rfl rfl (by simp) fun C hC => ?_
  obtain ⟨iadd, isub, imul, iquo, irem, iband, ibor, ibxor, ibandn, ishl, ishr, iconv, ieq, ine, ilt, ile, igt, ige, bbeq, bbne, bnot, bband, sseq, ssne, sscat, sssub, sslen, sssz, ssbyte, toN, ofN, addN, subN, eqN, ltB, leN, imx, imn, inb, leb, sslt, ltN, fit, ne0, ge0, ssfit, minN, inR, bcol, bstr, isBy, hS⟩ := names
  refine V.goF (by first | exact trivial | assumption) Try.func97 tl_ok mixed hS.ops [] 400 ?_
  intro VV VA W hVV hVA hW
  conv => cbv
  unfold isSc at hR
  cases h1 : ige c 0
  · conv => cbv
    simp (disch := first | omega | (simp only [hS.glob, wraps, plain, Int.ofNat_eq_natCast]; omega)) only [hS.glob, wraps, plain, Int.ofNat_eq_natCast] at h1
    cases R
    · exact ⟨rfl, trivial⟩
    · have := hR.1 rfl; omega
  · conv => cbv
    simp (disch := first | omega | (simp only [hS.glob, wraps, plain, Int.ofNat_eq_natCast]; omega)) only [hS.glob, wraps, plain, Int.ofNat_eq_natCast] at h1
    cases h2 : ile c 1114111
    · conv => cbv
      simp (disch := first | omega | (simp only [hS.glob, wraps, plain, Int.ofNat_eq_natCast]; omega)) only [hS.glob, wraps, plain, Int.ofNat_eq_natCast] at h2
      cases R
      · exact ⟨rfl, trivial⟩
      · have := hR.1 rfl; omega
    · conv => cbv
      simp (disch := first | omega | (simp only [hS.glob, wraps, plain, Int.ofNat_eq_natCast]; omega)) only [hS.glob, wraps, plain, Int.ofNat_eq_natCast] at h2
      cases h3 : ilt c 55296
      · conv => cbv
        simp (disch := first | omega | (simp only [hS.glob, wraps, plain, Int.ofNat_eq_natCast]; omega)) only [hS.glob, wraps, plain, Int.ofNat_eq_natCast] at h3
        cases h4 : igt c 57343
        · conv => cbv
          simp (disch := first | omega | (simp only [hS.glob, wraps, plain, Int.ofNat_eq_natCast]; omega)) only [hS.glob, wraps, plain, Int.ofNat_eq_natCast] at h4
          cases R
          · exact ⟨rfl, trivial⟩
          · have := hR.1 rfl; omega
        · conv => cbv
          simp (disch := first | omega | (simp only [hS.glob, wraps, plain, Int.ofNat_eq_natCast]; omega)) only [hS.glob, wraps, plain, Int.ofNat_eq_natCast] at h4
          cases R
          · have := hR.2 (by omega); cases this
          · exact ⟨rfl, trivial⟩
      · conv => cbv
        simp (disch := first | omega | (simp only [hS.glob, wraps, plain, Int.ofNat_eq_natCast]; omega)) only [hS.glob, wraps, plain, Int.ofNat_eq_natCast] at h3
        cases R
        · have := hR.2 (by omega); cases this
        · exact ⟨rfl, trivial⟩
theorem f85_ok (c : Int) (R : Bool) (hR : R = true ↔ isSc c) : FSpec Try.prog 85 [.int .i64 c] [] (fun r H' => r = .bool R ∧ H' = []) := by
  refine FSpec.of (fn := Try.f85) Try.func85 rfl rfl (by simp) fun C hC => ?_
  obtain ⟨iadd, isub, imul, iquo, irem, iband, ibor, ibxor, ibandn, ishl, ishr, iconv, ieq, ine, ilt, ile, igt, ige, bbeq, bbne, bnot, bband, sseq, ssne, sscat, sssub, sslen, sssz, ssbyte, toN, ofN, addN, subN, eqN, ltB, leN, imx, imn, inb, leb, sslt, ltN, fit, ne0, ge0, ssfit, minN, inR, bcol, bstr, isBy, hS⟩ := names
  refine V.goF (by first | exact trivial | assumption) Try.func85 tl_ok mixed hS.ops [] 400 ?_
  intro VV VA W hVV hVA hW
  conv => cbv
  unfold isSc at hR
  cases h1 : ige c 0
  · conv => cbv
    simp (disch := first | omega | (simp only [hS.glob, wraps, plain, Int.ofNat_eq_natCast]; omega)) only [hS.glob, wraps, plain, Int.ofNat_eq_natCast] at h1
    cases R
    · exact ⟨rfl, trivial⟩
    · have := hR.1 rfl; omega
  · conv => cbv
    simp (disch := first | omega | (simp only [hS.glob, wraps, plain, Int.ofNat_eq_natCast]; omega)) only [hS.glob, wraps, plain, Int.ofNat_eq_natCast] at h1
    cases h2 : ile c 1114111
    · conv => cbv
      simp (disch := first | omega | (simp only [hS.glob, wraps, plain, Int.ofNat_eq_natCast]; omega)) only [hS.glob, wraps, plain, Int.ofNat_eq_natCast] at h2
      cases R
      · exact ⟨rfl, trivial⟩
      · have := hR.1 rfl; omega
    · conv => cbv
      simp (disch := first | omega | (simp only [hS.glob, wraps, plain, Int.ofNat_eq_natCast]; omega)) only [hS.glob, wraps, plain, Int.ofNat_eq_natCast] at h2
      cases h3 : ilt c 55296
      · conv => cbv
        simp (disch := first | omega | (simp only [hS.glob, wraps, plain, Int.ofNat_eq_natCast]; omega)) only [hS.glob, wraps, plain, Int.ofNat_eq_natCast] at h3
        cases h4 : igt c 57343
        · conv => cbv
          simp (disch := first | omega | (simp only [hS.glob, wraps, plain, Int.ofNat_eq_natCast]; omega)) only [hS.glob, wraps, plain, Int.ofNat_eq_natCast] at h4
          cases R
          · exact ⟨rfl, trivial⟩
          · have := hR.1 rfl; omega
        · conv => cbv
          simp (disch := first | omega | (simp only [hS.glob, wraps, plain, Int.ofNat_eq_natCast]; omega)) only [hS.glob, wraps, plain, Int.ofNat_eq_natCast] at h4
          cases R
          · have := hR.2 (by omega); cases this
          · exact ⟨rfl, trivial⟩
      · conv => cbv
        simp (disch := first | omega | (simp only [hS.glob, wraps, plain, Int.ofNat_eq_natCast]; omega)) only [hS.glob, wraps, plain, Int.ofNat_eq_natCast] at h3
        cases R
        · have := hR.2 (by omega); cases this
        · exact ⟨rfl, trivial⟩
/-- How many bytes a scalar has that begins so. -/
def lenB (b : Int) : Int := if b < 128 then 1 else if 192 ≤ b ∧ b < 224 then 2 else if 224 ≤ b ∧ b < 240 then 3 else if 240 ≤ b ∧ b < 248 then 4 else 0
theorem f95_ok (b : Int) (R : Int) (hR : R = lenB b) : FSpec Try.prog 95 [.int .u8 b] [] (fun r H' => r = .int .i64 R ∧ H' = []) := by
  refine FSpec.of (fn := Try.f95) Try.func95 rfl rfl (by simp) fun C hC => ?_
  obtain ⟨iadd, isub, imul, iquo, irem, iband, ibor, ibxor, ibandn, ishl, ishr, iconv, ieq, ine, ilt, ile, igt, ige, bbeq, bbne, bnot, bband, sseq, ssne, sscat, sssub, sslen, sssz, ssbyte, toN, ofN, addN, subN, eqN, ltB, leN, imx, imn, inb, leb, sslt, ltN, fit, ne0, ge0, ssfit, minN, inR, bcol, bstr, isBy, hS⟩ := names
  refine V.goF (by first | exact trivial | assumption) Try.func95 tl_ok mixed hS.ops [] 400 ?_
  intro VV VA W hVV hVA hW
  conv => cbv
  unfold lenB at hR
  cases h1 : ilt b 128
  · conv => cbv
    simp (disch := first | omega | (simp only [hS.glob, wraps, plain, Int.ofNat_eq_natCast]; omega)) only [hS.glob, wraps, plain, Int.ofNat_eq_natCast] at h1
    rw [if_neg (by omega)] at hR
    cases e1 : ige b 192 <;> cases e2 : ilt b 224 <;> cases e3 : ige b 224 <;> cases e4 : ilt b 240 <;> cases e5 : ige b 240 <;> cases e6 : ilt b 248 <;> (conv => cbv) <;> (repeat (simp only [e1, e2, e3, e4, e5, e6]; (conv => cbv)))
    all_goals (simp only [hS.glob, wraps, plain, Int.ofNat_eq_natCast] at e1 e2 e3 e4 e5 e6)
    all_goals try simp only [plain] at e1 e2 e3 e4 e5 e6
    all_goals first
      | (exfalso; omega)
      | (refine ⟨?_, trivial⟩; subst hR; congr 1; repeat (split <;> try omega))
  · conv => cbv
    simp (disch := first | omega | (simp only [hS.glob, wraps, plain, Int.ofNat_eq_natCast]; omega)) only [hS.glob, wraps, plain, Int.ofNat_eq_natCast] at h1
    rw [if_pos h1] at hR
    subst hR
    exact ⟨rfl, trivial⟩
theorem f96_ok : FSpec Try.prog 96 [] [] (fun r H' => r = .agg [.int .i64 0, .int .i64 128, .int .i64 192, .int .i64 2048, .int .i64 224, .int .i64 65536, .int .i64 240, .int .i64 1114112] ∧ H' = []) := by
  refine (show FSpec Try.prog 96 [] [] (fun r H' => r = .agg [.int .i64 0, .int .i64 128, .int .i64 192, .int .i64 2048, .int .i64 224, .int .i64 65536, .int .i64 240, .int .i64 1114112]) from ?_).weaken ?_
  · refine FSpec.of (fn := Try.f96) Try.func96 rfl rfl (by simp) fun C hC => ?_
    obtain ⟨iadd, isub, imul, iquo, irem, iband, ibor, ibxor, ibandn, ishl, ishr, iconv, ieq, ine, ilt, ile, igt, ige, bbeq, bbne, bnot, bband, sseq, ssne, sscat, sssub, sslen, sssz, ssbyte, toN, ofN, addN, subN, eqN, ltB, leN, imx, imn, inb, leb, sslt, ltN, fit, ne0, ge0, ssfit, minN, inR, bcol, bstr, isBy, hS⟩ := names
    refine V.goF (by first | exact trivial | assumption) Try.func96 tl_ok mixed hS.ops [] 400 ?_
    intro VV VA W hVV hVA hW
    conv => cbv
    trivial
  · rintro r H' rfl
    exact ⟨[], by cases H' <;> simp [heapCov], rfl, Nat.le_refl _, rfl, rfl⟩
end Go.Proofs.Ytngagepodbcohaa

/- The first scalar of bytes, by the program. -/
namespace Go.Proofs.Ytngagepodbcohaa
open Go Vx
set_option maxRecDepth 100000

def tlB (b : Int) : Prop := 128 ≤ b ∧ b < 192
def cd2 (g : Nat → Int) : Int := 64 * (g 0 - 192) + (g 1 - 128)
def cd3 (g : Nat → Int) : Int := 64 * (64 * (g 0 - 224) + (g 1 - 128)) + (g 2 - 128)
def cd4 (g : Nat → Int) : Int := 64 * (64 * (64 * (g 0 - 240) + (g 1 - 128)) + (g 2 - 128)) + (g 3 - 128)
/-- The first scalar of bytes, and how many it has. -/
noncomputable def nextU (n : Nat) (g : Nat → Int) : Option (Int × Nat) :=
  open Classical in
  if 1 ≤ n ∧ g 0 < 128 then some (g 0, 1)
  else if 2 ≤ n ∧ 192 ≤ g 0 ∧ g 0 < 224 ∧ tlB (g 1) ∧ 128 ≤ cd2 g then some (cd2 g, 2)
  else if 3 ≤ n ∧ 224 ≤ g 0 ∧ g 0 < 240 ∧ tlB (g 1) ∧ tlB (g 2) ∧ 2048 ≤ cd3 g ∧ isSc (cd3 g) then some (cd3 g, 3)
  else if 4 ≤ n ∧ 240 ≤ g 0 ∧ g 0 < 248 ∧ tlB (g 1) ∧ tlB (g 2) ∧ tlB (g 3) ∧ 65536 ≤ cd4 g ∧ isSc (cd4 g) then some (cd4 g, 4)
  else none
def NextR (A : Option (Int × Nat)) (r : AV) (H' : Hp) : Prop := H' = [] ∧ ((A = none ∧ r = .tup [.int .i64 0, .int .i64 0, .int .i64 11]) ∨ ∃ (c : Int) (k : Nat) (z : Int), A = some (c, k) ∧ z = k ∧ r = .tup [.int .i64 c, .int .i64 z, .int .i64 0])
/-- What the first byte leaves. -/
def hdB (g : Nat → Int) (k : Nat) : Int := if k = 1 then g 0 else if k = 2 then g 0 - 192 else if k = 3 then g 0 - 224 else g 0 - 240
def cdB (g : Nat → Int) (k : Nat) : Nat → Int
  | 0 => hdB g k
  | i + 1 => 64 * cdB g k i + (g (i + 1) - 128)
def limB (k : Nat) : Int := if k = 1 then 0 else if k = 2 then 128 else if k = 3 then 2048 else 65536
/-- The same, by the number of bytes. -/
theorem nextU_k (n : Nat) (g : Nat → Int) (hg : ∀ i, i < n → 0 ≤ g i ∧ g i ≤ 255) (k : Nat) (hk : k = 1 ∨ k = 2 ∨ k = 3 ∨ k = 4) (hl : lenB (g 0) = k) (hn : k ≤ n) :
    ((∃ j, 0 < j ∧ j < k ∧ ¬ tlB (g j)) → nextU n g = none) ∧ ((∀ j, 0 < j → j < k → tlB (g j)) →
      (isSc (cdB g k (k - 1)) ∧ limB k ≤ cdB g k (k - 1) → nextU n g = some (cdB g k (k - 1), k)) ∧ (¬ (isSc (cdB g k (k - 1)) ∧ limB k ≤ cdB g k (k - 1)) → nextU n g = none)) := by
  have h0 := hg 0 (by omega)
  unfold lenB at hl
  rcases hk with rfl | rfl | rfl | rfl
  · have hb : g 0 < 128 := by
      split at hl
      · assumption
      · repeat (split at hl <;> try omega)
    refine ⟨fun ⟨j, h1, h2, _⟩ => by omega, fun _ => ⟨fun _ => ?_, fun h => ?_⟩⟩
    · rw [nextU, if_pos ⟨hn, hb⟩]; rfl
    · refine absurd ?_ h
      have e1 : cdB g 1 (1 - 1) = g 0 := rfl
      rw [e1]
      simp only [limB, isSc, if_true]
      omega
  · have hb : 192 ≤ g 0 ∧ g 0 < 224 := by
      repeat (split at hl <;> try omega)
    have e1 : cdB g 2 1 = cd2 g := rfl
    refine ⟨fun ⟨j, h1, h2, h3⟩ => ?_, fun ht => ⟨fun h => ?_, fun h => ?_⟩⟩
    · obtain rfl : j = 1 := by omega
      rw [nextU, if_neg (by omega), if_neg (fun h => h3 h.2.2.2.1), if_neg (by omega), if_neg (by omega)]
    · rw [nextU, if_neg (by omega), if_pos ⟨hn, hb.1, hb.2, ht 1 (by decide) (by decide), h.2⟩]; rfl
    · rw [nextU, if_neg (by omega), if_neg (fun h' => h ⟨?_, h'.2.2.2.2⟩), if_neg (by omega), if_neg (by omega)]
      have := ht 1 (by decide) (by decide)
      show isSc (cd2 g)
      have h5 := h'.2.2.2.2
      unfold tlB at this
      unfold isSc cd2 at *
      omega
  · have hb : 224 ≤ g 0 ∧ g 0 < 240 := by
      repeat (split at hl <;> try omega)
    have e1 : cdB g 3 2 = cd3 g := rfl
    refine ⟨fun ⟨j, h1, h2, h3⟩ => ?_, fun ht => ⟨fun h => ?_, fun h => ?_⟩⟩
    · rw [nextU, if_neg (by omega), if_neg (by omega), if_neg (fun h => ?_), if_neg (by omega)]
      rcases (by omega : j = 1 ∨ j = 2) with rfl | rfl
      · exact h3 h.2.2.2.1
      · exact h3 h.2.2.2.2.1
    · rw [nextU, if_neg (by omega), if_neg (by omega), if_pos ⟨hn, hb.1, hb.2, ht 1 (by decide) (by decide), ht 2 (by decide) (by decide), h.2, h.1⟩]; rfl
    · rw [nextU, if_neg (by omega), if_neg (by omega), if_neg (fun h' => h ⟨h'.2.2.2.2.2.2, h'.2.2.2.2.2.1⟩), if_neg (by omega)]
  · have hb : 240 ≤ g 0 ∧ g 0 < 248 := by
      repeat (split at hl <;> try omega)
    have e1 : cdB g 4 3 = cd4 g := rfl
    refine ⟨fun ⟨j, h1, h2, h3⟩ => ?_, fun ht => ⟨fun h => ?_, fun h => ?_⟩⟩
    · rw [nextU, if_neg (by omega), if_neg (by omega), if_neg (by omega), if_neg (fun h => ?_)]
      rcases (by omega : j = 1 ∨ j = 2 ∨ j = 3) with rfl | rfl | rfl
      · exact h3 h.2.2.2.1
      · exact h3 h.2.2.2.2.1
      · exact h3 h.2.2.2.2.2.1
    · rw [nextU, if_neg (by omega), if_neg (by omega), if_neg (by omega), if_pos ⟨hn, hb.1, hb.2, ht 1 (by decide) (by decide), ht 2 (by decide) (by decide), ht 3 (by decide) (by decide), h.2, h.1⟩]; rfl
    · rw [nextU, if_neg (by omega), if_neg (by omega), if_neg (by omega), if_neg (fun h' => h ⟨h'.2.2.2.2.2.2.2, h'.2.2.2.2.2.2.1⟩)]
theorem nextU_0 (n : Nat) (g : Nat → Int) (h : n = 0 ∨ lenB (g 0) = 0 ∨ (n : Int) < lenB (g 0)) : nextU n g = none := by
  rcases h with rfl | h | h
  · rw [nextU, if_neg (by omega), if_neg (by omega), if_neg (by omega), if_neg (by omega)]
  · unfold lenB at h
    have : 128 ≤ g 0 ∧ ¬ (192 ≤ g 0 ∧ g 0 < 248) := by
      repeat (split at h <;> try omega)
    rw [nextU, if_neg (by omega), if_neg (by omega), if_neg (by omega), if_neg (by omega)]
  · unfold lenB at h
    repeat split at h
    all_goals
      rw [nextU, if_neg (by omega), if_neg (by omega), if_neg (by omega), if_neg (by omega)]
theorem lenB_cases (b : Int) : lenB b = 0 ∨ lenB b = 1 ∨ lenB b = 2 ∨ lenB b = 3 ∨ lenB b = 4 := by
  unfold lenB
  repeat' split
  all_goals simp
theorem cdB_bound (n : Nat) (g : Nat → Int) (hg : ∀ i, i < n → 0 ≤ g i ∧ g i ≤ 255) (k : Nat) (hk : k = 1 ∨ k = 2 ∨ k = 3 ∨ k = 4) (hl : lenB (g 0) = k) (hn : k ≤ n) : ∀ i, i < k → (∀ j, 0 < j → j ≤ i → tlB (g j)) → 0 ≤ cdB g k i ∧ cdB g k i < 64 ^ i * 256 := by
  intro i
  induction i with
  | zero =>
    intro _ _
    have h0 := hg 0 (by omega)
    unfold lenB at hl
    simp only [cdB, hdB]
    rcases hk with rfl | rfl | rfl | rfl <;> simp <;> (repeat (split at hl <;> try omega))
  | succ i ih =>
    intro hi ht
    have := ih (by omega) (fun j h1 h2 => ht j h1 (by omega))
    have h2 := ht (i + 1) (by omega) (by omega)
    unfold tlB at h2
    simp only [cdB, Int.pow_succ]
    generalize (64 : Int) ^ i = q at this ⊢
    omega
end Go.Proofs.Ytngagepodbcohaa

/- The first scalar of bytes, by the program: the walk. -/
namespace Go.Proofs.Ytngagepodbcohaa
open Go Vx
set_option maxRecDepth 100000
theorem f91_ok (n : Nat) (hn : n ≤ 1000000000000) (g : Nat → Int) (hg : ∀ i, i < n → 0 ≤ g i ∧ g i ≤ 255) (A : Option (Int × Nat)) (hA : A = nextU n g) : FSpec Try.prog 91 [.rows 1 n (icol .u8 g)] [] (NextR A) := by
  obtain ⟨Q, hQ⟩ : ∃ Q : AV → Hp → Prop, Q = NextR A := ⟨_, rfl⟩
  rw [← hQ]
  have bad : A = none → Q (.tup [.int .i64 0, .int .i64 0, .int .i64 11]) [] := fun h => by rw [hQ]; exact ⟨rfl, .inl ⟨h, rfl⟩⟩
  refine FSpec.of (fn := Try.f91) Try.func91 rfl rfl (by simp) fun C hC => ?_
  obtain ⟨iadd, isub, imul, iquo, irem, iband, ibor, ibxor, ibandn, ishl, ishr, iconv, ieq, ine, ilt, ile, igt, ige, bbeq, bbne, bnot, bband, sseq, ssne, sscat, sssub, sslen, sssz, ssbyte, toN, ofN, addN, subN, eqN, ltB, leN, imx, imn, inb, leb, sslt, ltN, fit, ne0, ge0, ssfit, minN, inR, bcol, bstr, isBy, hS⟩ := names
  have g2 : igt 2 1 = true := by (first | rfl | omega | (simp (disch := omega) only [hS.glob, wraps, plain, Int.ofNat_eq_natCast]; first | done | rfl | omega | (simp; done) | (simp; omega)) | (simp (disch := omega) only [hS.glob, wraps, plain, Int.ofNat_eq_natCast, Vx.toN]; omega))
  have g3 : igt 3 1 = true := by (first | rfl | omega | (simp (disch := omega) only [hS.glob, wraps, plain, Int.ofNat_eq_natCast]; first | done | rfl | omega | (simp; done) | (simp; omega)) | (simp (disch := omega) only [hS.glob, wraps, plain, Int.ofNat_eq_natCast, Vx.toN]; omega))
  have g4 : igt 4 1 = true := by (first | rfl | omega | (simp (disch := omega) only [hS.glob, wraps, plain, Int.ofNat_eq_natCast]; first | done | rfl | omega | (simp; done) | (simp; omega)) | (simp (disch := omega) only [hS.glob, wraps, plain, Int.ofNat_eq_natCast, Vx.toN]; omega))
  have d2 : isub .i64 2 2 = 0 := by (first | rfl | omega | (simp (disch := omega) only [hS.glob, wraps, plain, Int.ofNat_eq_natCast]; first | done | rfl | omega | (simp; done) | (simp; omega)) | (simp (disch := omega) only [hS.glob, wraps, plain, Int.ofNat_eq_natCast, Vx.toN]; omega))
  have d3 : isub .i64 3 2 = 1 := by (first | rfl | omega | (simp (disch := omega) only [hS.glob, wraps, plain, Int.ofNat_eq_natCast]; first | done | rfl | omega | (simp; done) | (simp; omega)) | (simp (disch := omega) only [hS.glob, wraps, plain, Int.ofNat_eq_natCast, Vx.toN]; omega))
  have d4 : isub .i64 4 2 = 2 := by (first | rfl | omega | (simp (disch := omega) only [hS.glob, wraps, plain, Int.ofNat_eq_natCast]; first | done | rfl | omega | (simp; done) | (simp; omega)) | (simp (disch := omega) only [hS.glob, wraps, plain, Int.ofNat_eq_natCast, Vx.toN]; omega))
  have s1 : isub .i64 1 1 = 0 := by (first | rfl | omega | (simp (disch := omega) only [hS.glob, wraps, plain, Int.ofNat_eq_natCast]; first | done | rfl | omega | (simp; done) | (simp; omega)) | (simp (disch := omega) only [hS.glob, wraps, plain, Int.ofNat_eq_natCast, Vx.toN]; omega))
  have s2 : isub .i64 2 1 = 1 := by (first | rfl | omega | (simp (disch := omega) only [hS.glob, wraps, plain, Int.ofNat_eq_natCast]; first | done | rfl | omega | (simp; done) | (simp; omega)) | (simp (disch := omega) only [hS.glob, wraps, plain, Int.ofNat_eq_natCast, Vx.toN]; omega))
  have s3 : isub .i64 3 1 = 2 := by (first | rfl | omega | (simp (disch := omega) only [hS.glob, wraps, plain, Int.ofNat_eq_natCast]; first | done | rfl | omega | (simp; done) | (simp; omega)) | (simp (disch := omega) only [hS.glob, wraps, plain, Int.ofNat_eq_natCast, Vx.toN]; omega))
  have s4 : isub .i64 4 1 = 3 := by (first | rfl | omega | (simp (disch := omega) only [hS.glob, wraps, plain, Int.ofNat_eq_natCast]; first | done | rfl | omega | (simp; done) | (simp; omega)) | (simp (disch := omega) only [hS.glob, wraps, plain, Int.ofNat_eq_natCast, Vx.toN]; omega))
  have z0 : toN 0 = 0 := by simp only [hS.glob]; rfl
  refine V.goF (by first | exact trivial | assumption) Try.func91 tl_ok mixed hS.ops [] 400 ?_
  intro VV VA W hVV hVA hW
  conv => cbv
  cases h0 : ieq (ofN n) 0
  case true =>
    conv => cbv
    simp (disch := first | omega | (simp only [hS.glob, wraps, plain, Int.ofNat_eq_natCast]; omega)) only [hS.glob, wraps, plain, Int.ofNat_eq_natCast] at h0
    exact bad (by rw [hA]; exact nextU_0 n g (.inl (by omega)))
  conv => cbv
  simp (disch := first | omega | (simp only [hS.glob, wraps, plain, Int.ofNat_eq_natCast]; omega)) only [hS.glob, wraps, plain, Int.ofNat_eq_natCast] at h0
  repeat (refine ⟨by first | (rw [hW]; show ordOk _ _ _ = true; kernel_rfl) | (first | trivial | omega | (simp (disch := omega) only [hS.glob, wraps, plain, Int.ofNat_eq_natCast]; first | done | omega | trivial | (simp; done) | (simp; omega) | (constructor <;> omega)) | (simp (disch := omega) only [hS.glob, wraps, plain, Int.ofNat_eq_natCast, Vx.toN]; omega)), ?_⟩)
  simp only [z0]
  obtain ⟨L, hL⟩ : ∃ L, L = lenB (g 0) := ⟨_, rfl⟩
  have hLc := lenB_cases (g 0)
  rw [← hL] at hLc
  rw [hVV]
  clear hVV hVA VV VA hW W
  refine V.call rfl rfl rfl rfl rfl Try.func95 rfl (by decide) [] (by simp) (by simp) (by (first | rfl | ((conv => cbv); (repeat' apply And.intro) <;> first | rfl | trivial | (first | rfl | omega | (simp (disch := omega) only [hS.glob, wraps, plain, Int.ofNat_eq_natCast]; first | done | rfl | omega | (simp; done) | (simp; omega)) | (simp (disch := omega) only [hS.glob, wraps, plain, Int.ofNat_eq_natCast, Vx.toN]; omega))))) rfl (f95_ok (g 0) L hL) ?_
  rintro r Hc ⟨rfl, rfl⟩
  refine V.goF (by first | exact trivial | assumption) Try.func91 tl_ok mixed hS.ops [] 400 ?_
  intro VV VA W hVV hVA hW
  conv => cbv
  cases h1 : ieq L 0
  case true =>
    conv => cbv
    simp (disch := first | omega | (simp only [hS.glob, wraps, plain, Int.ofNat_eq_natCast]; omega)) only [hS.glob, wraps, plain, Int.ofNat_eq_natCast] at h1
    exact bad (by rw [hA]; exact nextU_0 n g (.inr (.inl (by omega))))
  conv => cbv
  simp (disch := first | omega | (simp only [hS.glob, wraps, plain, Int.ofNat_eq_natCast]; omega)) only [hS.glob, wraps, plain, Int.ofNat_eq_natCast] at h1
  repeat (refine ⟨by first | (rw [hW]; show ordOk _ _ _ = true; kernel_rfl) | (first | trivial | omega | (simp (disch := omega) only [hS.glob, wraps, plain, Int.ofNat_eq_natCast]; first | done | omega | trivial | (simp; done) | (simp; omega) | (constructor <;> omega)) | (simp (disch := omega) only [hS.glob, wraps, plain, Int.ofNat_eq_natCast, Vx.toN]; omega)), ?_⟩)
  simp only [z0]
  rw [hVV]
  clear hVV hVA VV VA hW W
  refine V.call rfl rfl rfl rfl rfl Try.func95 rfl (by decide) [] (by simp) (by simp) (by (first | rfl | ((conv => cbv); (repeat' apply And.intro) <;> first | rfl | trivial | (first | rfl | omega | (simp (disch := omega) only [hS.glob, wraps, plain, Int.ofNat_eq_natCast]; first | done | rfl | omega | (simp; done) | (simp; omega)) | (simp (disch := omega) only [hS.glob, wraps, plain, Int.ofNat_eq_natCast, Vx.toN]; omega))))) rfl (f95_ok (g 0) L hL) ?_
  rintro r Hc ⟨rfl, rfl⟩
  refine V.goF (by first | exact trivial | assumption) Try.func91 tl_ok mixed hS.ops [] 400 ?_
  intro VV VA W hVV hVA hW
  conv => cbv
  cases h2 : igt L (ofN n)
  case true =>
    conv => cbv
    simp (disch := first | omega | (simp only [hS.glob, wraps, plain, Int.ofNat_eq_natCast]; omega)) only [hS.glob, wraps, plain, Int.ofNat_eq_natCast] at h2
    exact bad (by rw [hA]; exact nextU_0 n g (.inr (.inr (by omega))))
  conv => cbv
  simp (disch := first | omega | (simp only [hS.glob, wraps, plain, Int.ofNat_eq_natCast]; omega)) only [hS.glob, wraps, plain, Int.ofNat_eq_natCast] at h2
  repeat (refine ⟨by first | (rw [hW]; show ordOk _ _ _ = true; kernel_rfl) | (first | trivial | omega | (simp (disch := omega) only [hS.glob, wraps, plain, Int.ofNat_eq_natCast]; first | done | omega | trivial | (simp; done) | (simp; omega) | (constructor <;> omega)) | (simp (disch := omega) only [hS.glob, wraps, plain, Int.ofNat_eq_natCast, Vx.toN]; omega)), ?_⟩)
  simp only [z0]
  rw [hVV]
  clear hVV hVA VV VA hW W
  refine V.call rfl rfl rfl rfl rfl Try.func95 rfl (by decide) [] (by simp) (by simp) (by (first | rfl | ((conv => cbv); (repeat' apply And.intro) <;> first | rfl | trivial | (first | rfl | omega | (simp (disch := omega) only [hS.glob, wraps, plain, Int.ofNat_eq_natCast]; first | done | rfl | omega | (simp; done) | (simp; omega)) | (simp (disch := omega) only [hS.glob, wraps, plain, Int.ofNat_eq_natCast, Vx.toN]; omega))))) rfl (f95_ok (g 0) L hL) ?_
  rintro r Hc ⟨rfl, rfl⟩
  refine V.goF (by first | exact trivial | assumption) Try.func91 tl_ok mixed hS.ops [(4, .none)] 400 ?_
  intro VV VA W hVV hVA hW
  conv => cbv
  rw [hVV]
  clear hVV hVA VV VA hW W
  obtain ⟨k, hk, hLk⟩ : ∃ k : Nat, (k = 1 ∧ L = 1 ∨ k = 2 ∧ L = 2 ∨ k = 3 ∧ L = 3 ∨ k = 4 ∧ L = 4) ∧ L = k := by
    rcases hLc with h | h | h | h | h
    · exact absurd h h1
    · exact ⟨1, by simp [h], h⟩
    · exact ⟨2, by simp [h], h⟩
    · exact ⟨3, by simp [h], h⟩
    · exact ⟨4, by simp [h], h⟩
  have hg0 := hg 0 (by omega)
  refine V.to (s' := [(5, .int .i64 L), (0, .rows 1 n (icol .u8 g))]) (H' := []) ?_ (by (repeat' first | exact trivial | rfl | (refine And.intro ?_ ?_) | (refine sti ?_; (first | rfl | omega | (simp (disch := omega) only [hS.glob, wraps, plain, Int.ofNat_eq_natCast]; first | done | rfl | omega | (simp; done) | (simp; omega)) | (simp (disch := omega) only [hS.glob, wraps, plain, Int.ofNat_eq_natCast, Vx.toN]; omega))) | (refine slq ?_ ?_ ?_ <;> (first | rfl | omega | (simp (disch := omega) only [hS.glob, wraps, plain, Int.ofNat_eq_natCast]; first | done | rfl | omega | (simp; done) | (simp; omega)) | (simp (disch := omega) only [hS.glob, wraps, plain, Int.ofNat_eq_natCast, Vx.toN]; omega))) | (refine ptq ?_ ?_ ?_ <;> (first | rfl | omega | (simp (disch := omega) only [hS.glob, wraps, plain, Int.ofNat_eq_natCast]; first | done | rfl | omega | (simp; done) | (simp; omega)) | (simp (disch := omega) only [hS.glob, wraps, plain, Int.ofNat_eq_natCast, Vx.toN]; omega))) | (refine blq ?_; (first | rfl | omega | (simp (disch := omega) only [hS.glob, wraps, plain, Int.ofNat_eq_natCast]; first | done | rfl | omega | (simp; done) | (simp; omega)) | (simp (disch := omega) only [hS.glob, wraps, plain, Int.ofNat_eq_natCast, Vx.toN]; omega))))) rfl trivial (by rw [hC]; simp)
  obtain ⟨z, hz⟩ : ∃ z, z = hdB g k := ⟨_, rfl⟩
  refine V.drawnK tl_ok mixed (.one 0 .none (.one 5 .none (.one 6 .none (.alt 1 (.alt 2 (.one 3 .none (.one 4 .none (.one 7 .none (.one 8 .none (.one 9 .none (.one 10 .none .done)))))) (.alt 4 (.one 2 .none (.one 3 .none (.one 7 .none (.one 8 .none (.one 9 .none (.one 10 .none .done)))))) .none)) (.alt 4 (.one 1 .none (.one 2 .none (.one 3 .none (.one 7 .none (.one 8 .none (.one 9 .none (.one 10 .none .done))))))) .none))))) (fun s H => covers s [(6, .int .i64 z), (5, .int .i64 L), (0, .rows 1 n (icol .u8 g))] ∧ H = []) (by kernel_rfl) ?_ ?_
  · rcases hk with ⟨rfl, rfl⟩ | ⟨rfl, rfl⟩ | ⟨rfl, rfl⟩ | ⟨rfl, rfl⟩
    all_goals
      simp [hdB] at hz
      refine AnyT.goK tl_ok hS.ops ?_
      intro KK VA hKK hVA
      conv => cbv
      repeat' apply And.intro
      all_goals first | trivial | (simp only [hS.glob, plain]; omega) | skip
      all_goals
        simp only [z0, s1, s2, s3, s4]
        rw [hVA]
        clear hKK hVA KK VA
        refine AnyT.call rfl rfl rfl rfl rfl Try.func96 rfl (by decide) [] (by simp) (by simp) (by (first | rfl | ((conv => cbv); (repeat' apply And.intro) <;> first | rfl | trivial | (first | rfl | omega | (simp (disch := omega) only [hS.glob, wraps, plain, Int.ofNat_eq_natCast]; first | done | rfl | omega | (simp; done) | (simp; omega)) | (simp (disch := omega) only [hS.glob, wraps, plain, Int.ofNat_eq_natCast, Vx.toN]; omega))))) rfl f96_ok ?_
        rintro r Hc ⟨rfl, rfl⟩
        refine AnyT.goK tl_ok hS.ops ?_
        intro KK VA hKK hVA
        conv => cbv
        repeat' apply And.intro
        all_goals first | ((try simp only [z0]); rw [hKK]; refine ⟨?_, rfl⟩; (repeat' first | exact trivial | rfl | (refine And.intro ?_ ?_) | (refine sti ?_; (first | rfl | omega | (simp (disch := omega) only [hS.glob, wraps, plain, Int.ofNat_eq_natCast]; first | done | rfl | omega | (simp; done) | (simp; omega)) | (simp (disch := omega) only [hS.glob, wraps, plain, Int.ofNat_eq_natCast, Vx.toN]; omega))) | (refine slq ?_ ?_ ?_ <;> (first | rfl | omega | (simp (disch := omega) only [hS.glob, wraps, plain, Int.ofNat_eq_natCast]; first | done | rfl | omega | (simp; done) | (simp; omega)) | (simp (disch := omega) only [hS.glob, wraps, plain, Int.ofNat_eq_natCast, Vx.toN]; omega))) | (refine ptq ?_ ?_ ?_ <;> (first | rfl | omega | (simp (disch := omega) only [hS.glob, wraps, plain, Int.ofNat_eq_natCast]; first | done | rfl | omega | (simp; done) | (simp; omega)) | (simp (disch := omega) only [hS.glob, wraps, plain, Int.ofNat_eq_natCast, Vx.toN]; omega))) | (refine blq ?_; (first | rfl | omega | (simp (disch := omega) only [hS.glob, wraps, plain, Int.ofNat_eq_natCast]; first | done | rfl | omega | (simp; done) | (simp; omega)) | (simp (disch := omega) only [hS.glob, wraps, plain, Int.ofNat_eq_natCast, Vx.toN]; omega)))); done) | (first | trivial | omega | (simp (disch := omega) only [hS.glob, wraps, plain, Int.ofNat_eq_natCast]; first | done | omega | trivial | (simp; done) | (simp; omega) | (constructor <;> omega)) | (simp (disch := omega) only [hS.glob, wraps, plain, Int.ofNat_eq_natCast, Vx.toN]; omega))
  rintro s H ⟨hcov, rfl⟩
  refine V.to (s' := [(6, .int .i64 z), (5, .int .i64 L), (0, .rows 1 n (icol .u8 g))]) (H' := []) ?_ hcov rfl trivial (by rw [hC]; simp)
  clear hcov
  refine V.goF (by first | exact trivial | assumption) Try.func91 tl_ok mixed hS.ops [] 400 ?_
  intro VV VA W hVV hVA hW
  conv => cbv
  obtain ⟨F, hF⟩ : ∃ F, F = cdB g k := ⟨_, rfl⟩
  have hF0 : z = F 0 := by rw [hz, hF]; rfl
  obtain ⟨m, hm⟩ : ∃ m, m = k - 1 := ⟨_, rfl⟩
  obtain ⟨h, hh⟩ : ∃ h : Nat → Int, ∀ j, h j = g (1 + j) := ⟨_, fun _ => rfl⟩
  repeat (refine ⟨by first | (rw [hW]; show ordOk _ _ _ = true; kernel_rfl) | (first | trivial | omega | (simp (disch := omega) only [hS.glob, wraps, plain, Int.ofNat_eq_natCast]; first | done | omega | trivial | (simp; done) | (simp; omega) | (constructor <;> omega)) | (simp (disch := omega) only [hS.glob, wraps, plain, Int.ofNat_eq_natCast, Vx.toN]; omega)), ?_⟩)
  rw [hVV]
  refine V.to (s' := [(46, .int .i64 (ofN 0)), (45, .int .i64 (ofN m)), (44, .rows 1 m (icol .u8 h)), (6, .int .i64 (F 0)), (5, .int .i64 L), (0, .rows 1 n (icol .u8 g))]) (H' := []) ?_ (by
    refine ⟨sti ?_, sti ?_, rwq ?_ (fun j => icq ?_), sti hF0, rfl, rfl, trivial⟩
    · (first | rfl | omega | (simp (disch := omega) only [hS.glob, wraps, plain, Int.ofNat_eq_natCast]; first | done | rfl | omega | (simp; done) | (simp; omega)) | (simp (disch := omega) only [hS.glob, wraps, plain, Int.ofNat_eq_natCast, Vx.toN]; omega))
    · rw [hLk, hm]; simp only [hS.glob, plain]
    · rw [hLk, hm]; simp only [hS.glob, plain]
    · rw [hh]; simp only [hS.glob, plain]) rfl trivial (by rw [hC]; simp)
  clear hVV hVA VV VA hW W
  refine V.loop (γ := Nat) (fun i => i ≤ m ∧ ∀ j, 0 < j → j ≤ i → tlB (g j)) (fun i => [(46, .int .i64 (ofN i)), (45, .int .i64 (ofN m)), (44, .rows 1 m (icol .u8 h)), (6, .int .i64 (F i)), (5, .int .i64 L), (0, .rows 1 n (icol .u8 g))]) (fun _ => []) (fun i => k - i) ?_ 0 ⟨Nat.zero_le _, fun j h1 h2 => by omega⟩
  rintro i ⟨hi, ht⟩ hback
  have hkk : (k = 1 ∨ k = 2 ∨ k = 3 ∨ k = 4) ∧ k ≤ n := ⟨by omega, by omega⟩
  have hN := nextU_k n g hg k hkk.1 (by omega) hkk.2
  have hB := cdB_bound n g hg k hkk.1 (by omega) hkk.2 i (by omega) ht
  rw [← hF] at hB hN
  rw [← hm] at hN
  refine V.goF (by first | exact trivial | assumption) Try.func91 tl_ok mixed hS.ops [] 400 ?_
  intro VV VA W hVV hVA hW
  conv => cbv
  cases h3 : ilt (ofN i) (ofN m)
  · conv => cbv
    simp (disch := first | omega | (simp only [hS.glob, wraps, plain, Int.ofNat_eq_natCast]; omega)) only [hS.glob, wraps, plain, Int.ofNat_eq_natCast] at h3
    obtain rfl : i = m := by omega
    clear hback
    rw [hVV]
    clear hVV hVA VV VA hW W
    have hall : ∀ j, 0 < j → j < k → tlB (g j) := fun j h4 h5 => ht j h4 (by omega)
    obtain ⟨hok, hno⟩ := hN.2 hall
    rw [← hA] at hok hno
    obtain ⟨R, hR⟩ := bool_of (isSc (F i))
    refine V.call rfl rfl rfl rfl rfl Try.func97 rfl (by decide) [] (by simp) (by simp) (by (first | rfl | ((conv => cbv); (repeat' apply And.intro) <;> first | rfl | trivial | (first | rfl | omega | (simp (disch := omega) only [hS.glob, wraps, plain, Int.ofNat_eq_natCast]; first | done | rfl | omega | (simp; done) | (simp; omega)) | (simp (disch := omega) only [hS.glob, wraps, plain, Int.ofNat_eq_natCast, Vx.toN]; omega))))) rfl (f97_ok (F i) R hR) ?_
    rintro r Hc ⟨rfl, rfl⟩
    rcases hk with ⟨rfl, rfl⟩ | ⟨rfl, rfl⟩ | ⟨rfl, rfl⟩ | ⟨rfl, rfl⟩
    all_goals
      refine V.goF (by first | exact trivial | assumption) Try.func91 tl_ok mixed hS.ops [] 400 ?_
      intro VV VA W hVV hVA hW
      conv => cbv
      cases R
      case false =>
        conv => cbv
        exact bad (hno fun h4 => by have := hR.2 h4.1; cases this)
      have hsc := hR.1 rfl
      conv => cbv
    · have e0 : igt 1 1 = false := by (first | rfl | omega | (simp (disch := omega) only [hS.glob, wraps, plain, Int.ofNat_eq_natCast]; first | done | rfl | omega | (simp; done) | (simp; omega)) | (simp (disch := omega) only [hS.glob, wraps, plain, Int.ofNat_eq_natCast, Vx.toN]; omega))
      simp only [e0]
      conv => cbv
      rw [hQ]
      have := hsc.1
      exact ⟨rfl, .inr ⟨F i, 1, 1, hok ⟨hsc, by simp [limB]; exact this⟩, rfl, rfl⟩⟩
    all_goals
      simp only [g2, g3, g4]
      conv => cbv
      rw [hVV]
      clear hVV hVA VV VA hW W
      refine V.call rfl rfl rfl rfl rfl Try.func96 rfl (by decide) [] (by simp) (by simp) (by (first | rfl | ((conv => cbv); (repeat' apply And.intro) <;> first | rfl | trivial | (first | rfl | omega | (simp (disch := omega) only [hS.glob, wraps, plain, Int.ofNat_eq_natCast]; first | done | rfl | omega | (simp; done) | (simp; omega)) | (simp (disch := omega) only [hS.glob, wraps, plain, Int.ofNat_eq_natCast, Vx.toN]; omega))))) rfl f96_ok ?_
      rintro r Hc ⟨rfl, rfl⟩
      refine V.goF (by first | exact trivial | assumption) Try.func91 tl_ok mixed hS.ops [] 2 ?_
      intro VV VA W hVV hVA hW
      conv => cbv
      simp only [d2, d3, d4]
      rw [hVV]
      clear hVV hVA VV VA hW W
      refine V.goF (by first | exact trivial | assumption) Try.func91 tl_ok mixed hS.ops [] 400 ?_
      intro VV VA W hVV hVA hW
      conv => cbv
      split <;> rename_i h6
      · conv => cbv
        simp (disch := first | omega | (simp only [hS.glob, wraps, plain, Int.ofNat_eq_natCast]; omega)) only [hS.glob, wraps, plain, Int.ofNat_eq_natCast] at h6
        exact bad (hno fun h7 => by have h8 := h7.2; simp [limB] at h8; omega)
      · conv => cbv
        simp (disch := first | omega | (simp only [hS.glob, wraps, plain, Int.ofNat_eq_natCast]; omega)) only [hS.glob, wraps, plain, Int.ofNat_eq_natCast] at h6
        rw [hQ]
        exact ⟨rfl, .inr ⟨F i, _, _, hok ⟨hsc, by simp [limB]; exact h6⟩, rfl, rfl⟩⟩
  · conv => cbv
    simp (disch := first | omega | (simp only [hS.glob, wraps, plain, Int.ofNat_eq_natCast]; omega)) only [hS.glob, wraps, plain, Int.ofNat_eq_natCast] at h3
    repeat (refine ⟨by first | (rw [hW]; show ordOk _ _ _ = true; kernel_rfl) | (first | trivial | omega | (simp (disch := omega) only [hS.glob, wraps, plain, Int.ofNat_eq_natCast]; first | done | omega | trivial | (simp; done) | (simp; omega) | (constructor <;> omega)) | (simp (disch := omega) only [hS.glob, wraps, plain, Int.ofNat_eq_natCast, Vx.toN]; omega)), ?_⟩)
    simp only [hS.tidy]
    have hb := hg (1 + i) (by omega)
    have e1 : iconv .i64 (h i) = g (1 + i) := by rw [hh]; (first | rfl | omega | (simp (disch := omega) only [hS.glob, wraps, plain, Int.ofNat_eq_natCast]; first | done | rfl | omega | (simp; done) | (simp; omega)) | (simp (disch := omega) only [hS.glob, wraps, plain, Int.ofNat_eq_natCast, Vx.toN]; omega))
    have e2 : ibandn .i64 (g (1 + i)) 63 = g (1 + i) - g (1 + i) % 64 := by simp only [hS.glob]; exact ibandn63 _ hb
    obtain ⟨y, hy⟩ : ∃ y, y = g (1 + i) - g (1 + i) % 64 := ⟨_, rfl⟩
    rw [← hy] at e2
    simp only [e1, e2]
    cases h4 : ine y 128
    · conv => cbv
      simp (disch := first | omega | (simp only [hS.glob, wraps, plain, Int.ofNat_eq_natCast]; omega)) only [hS.glob, wraps, plain, Int.ofNat_eq_natCast] at h4
      have h5 : tlB (g (1 + i)) := by unfold tlB; omega
      have hi3 : i < 3 := by omega
      have hB2 : F i < 1000000000 := by
        have : i = 0 ∨ i = 1 ∨ i = 2 := by omega
        rcases this with rfl | rfl | rfl <;> simp at hB <;> omega
      have e3 : ibor .i64 (ishl .i64 (F i) 6) (iband .i64 (iconv .i64 (h i)) 63) = F (1 + i) := by
        rw [e1]
        simp only [hS.glob]
        rw [iband63 _ hb, six (F i) (g (1 + i) % 64) (by omega) (by omega), hF, Nat.add_comm 1 i]
        unfold tlB at h5
        simp only [cdB]
        rw [Nat.add_comm 1 i] at *
        omega
      simp only [e3]
      repeat (refine ⟨by first | (rw [hW]; show ordOk _ _ _ = true; kernel_rfl) | (first | trivial | omega | (simp (disch := omega) only [hS.glob, wraps, plain, Int.ofNat_eq_natCast]; first | done | omega | trivial | (simp; done) | (simp; omega) | (constructor <;> omega)) | (simp (disch := omega) only [hS.glob, wraps, plain, Int.ofNat_eq_natCast, Vx.toN]; omega)), ?_⟩)
      rw [hVV]
      clear hVV hVA VV VA hW W
      refine V.to (hback (1 + i) ⟨by omega, fun j h6 h7 => ?_⟩ (by omega)) (by (repeat' first | exact trivial | rfl | (refine And.intro ?_ ?_) | (refine sti ?_; (first | rfl | omega | (simp (disch := omega) only [hS.glob, wraps, plain, Int.ofNat_eq_natCast]; first | done | rfl | omega | (simp; done) | (simp; omega)) | (simp (disch := omega) only [hS.glob, wraps, plain, Int.ofNat_eq_natCast, Vx.toN]; omega))) | (refine slq ?_ ?_ ?_ <;> (first | rfl | omega | (simp (disch := omega) only [hS.glob, wraps, plain, Int.ofNat_eq_natCast]; first | done | rfl | omega | (simp; done) | (simp; omega)) | (simp (disch := omega) only [hS.glob, wraps, plain, Int.ofNat_eq_natCast, Vx.toN]; omega))) | (refine ptq ?_ ?_ ?_ <;> (first | rfl | omega | (simp (disch := omega) only [hS.glob, wraps, plain, Int.ofNat_eq_natCast]; first | done | rfl | omega | (simp; done) | (simp; omega)) | (simp (disch := omega) only [hS.glob, wraps, plain, Int.ofNat_eq_natCast, Vx.toN]; omega))) | (refine blq ?_; (first | rfl | omega | (simp (disch := omega) only [hS.glob, wraps, plain, Int.ofNat_eq_natCast]; first | done | rfl | omega | (simp; done) | (simp; omega)) | (simp (disch := omega) only [hS.glob, wraps, plain, Int.ofNat_eq_natCast, Vx.toN]; omega))))) rfl trivial (by rw [hC]; simp)
      rcases Nat.lt_or_ge i j with h8 | h8
      · rw [show j = 1 + i by omega]; exact h5
      · exact ht j h6 h8
    · conv => cbv
      simp (disch := first | omega | (simp only [hS.glob, wraps, plain, Int.ofNat_eq_natCast]; omega)) only [hS.glob, wraps, plain, Int.ofNat_eq_natCast] at h4
      exact bad (by rw [hA]; exact hN.1 ⟨1 + i, by omega, by omega, fun h5 => by unfold tlB at h5; omega⟩)
end Go.Proofs.Ytngagepodbcohaa

/- The first scalar from a place on, or a panic; what is done behind a panic. -/
namespace Go.Proofs.Ytngagepodbcohaa
open Go Vx
set_option maxRecDepth 100000
def PairR (A : Option (Int × Nat)) (r : AV) (H' : Hp) : Prop := H' = [] ∧ ∃ (c : Int) (k : Nat) (z : Int), A = some (c, k) ∧ z = k ∧ r = .tup [.int .i64 c, .int .i64 z]
theorem f88_ok (n : Nat) (hn : n ≤ 1000000000000) (g : Nat → Int) (hg : ∀ i, i < n → 0 ≤ g i ∧ g i ≤ 255) (p : Nat) (hp : p ≤ n) (at_ : Int) (hat : at_ = p) (A : Option (Int × Nat)) (hA : A = nextU (n - p) (fun j => g (p + j))) :
    FSpecP Try.prog 88 [.rows 1 n (icol .u8 g), .int .i64 at_] [] (PairR A) (fun r H' => A = none ∧ H' = [] ∧ r = .ifc 3 (.int .i64 at_)) := by
  obtain ⟨Q, hQ⟩ : ∃ Q : AV → Hp → Prop, Q = PairR A := ⟨_, rfl⟩
  obtain ⟨R, hR⟩ : ∃ R : AV → Hp → Prop, R = (fun r H' => A = none ∧ H' = [] ∧ r = .ifc 3 (.int .i64 at_)) := ⟨_, rfl⟩
  rw [← hQ, ← hR]
  refine FSpecP.of (fn := Try.f88) Try.func88 rfl rfl (by simp) fun C hC => ?_
  obtain ⟨iadd, isub, imul, iquo, irem, iband, ibor, ibxor, ibandn, ishl, ishr, iconv, ieq, ine, ilt, ile, igt, ige, bbeq, bbne, bnot, bband, sseq, ssne, sscat, sssub, sslen, sssz, ssbyte, toN, ofN, addN, subN, eqN, ltB, leN, imx, imn, inb, leb, sslt, ltN, fit, ne0, ge0, ssfit, minN, inR, bcol, bstr, isBy, hS⟩ := names
  refine V.goF (by first | exact trivial | assumption) Try.func88 tl_ok mixed hS.ops [] 400 ?_
  intro VV VA W hVV hVA hW
  conv => cbv
  obtain ⟨h, hh⟩ : ∃ h : Nat → Int, h = fun j => g (p + j) := ⟨_, rfl⟩
  obtain ⟨m, hm⟩ : ∃ m, m = n - p := ⟨_, rfl⟩
  rw [← hh, ← hm] at hA
  repeat (refine ⟨by first | (rw [hW]; show ordOk _ _ _ = true; kernel_rfl) | (first | trivial | omega | (simp (disch := omega) only [hS.glob, wraps, plain, Int.ofNat_eq_natCast]; first | done | omega | trivial | (simp; done) | (simp; omega) | (constructor <;> omega)) | (simp (disch := omega) only [hS.glob, wraps, plain, Int.ofNat_eq_natCast, Vx.toN]; omega)), ?_⟩)
  rw [hVV]
  clear hVV hVA VV VA hW W
  refine V.to (s' := [(12, .rows 1 m (icol .u8 h)), (1, .int .i64 at_), (0, .rows 1 n (icol .u8 g))]) (H' := []) ?_ (by
    refine ⟨rwq ?_ (fun j => icq ?_), rfl, rfl, trivial⟩
    · rw [hat, hm]; simp only [hS.glob, plain]
    · rw [hat, hh]; simp only [hS.glob, plain]) rfl trivial (by rw [hC]; simp)
  refine V.call rfl rfl rfl rfl rfl Try.func91 rfl (by decide) [] (by simp) (by simp) (by (first | rfl | ((conv => cbv); (repeat' apply And.intro) <;> first | rfl | trivial | (first | rfl | omega | (simp (disch := omega) only [hS.glob, wraps, plain, Int.ofNat_eq_natCast]; first | done | rfl | omega | (simp; done) | (simp; omega)) | (simp (disch := omega) only [hS.glob, wraps, plain, Int.ofNat_eq_natCast, Vx.toN]; omega))))) rfl (f91_ok m (by omega) h (fun i hi => by rw [hh]; exact hg _ (by omega)) A hA) ?_
  rintro r Hc ⟨rfl, ⟨hn, rfl⟩ | ⟨c, k, z, hs, hz, rfl⟩⟩
  · refine V.goF (by first | exact trivial | assumption) Try.func88 tl_ok mixed hS.ops [] 400 ?_
    intro VV VA W hVV hVA hW
    conv => cbv
    have el0 : ine 11 0 = true := by (first | rfl | omega | (simp (disch := omega) only [hS.glob, wraps, plain, Int.ofNat_eq_natCast]; first | done | rfl | omega | (simp; done) | (simp; omega)) | (simp (disch := omega) only [hS.glob, wraps, plain, Int.ofNat_eq_natCast, Vx.toN]; omega))
    simp only [el0]
    clear el0
    conv => cbv
    rw [hVV]
    clear hVV hVA VV VA hW W
    refine V.panicOp rfl rfl rfl rfl ?_
    rw [hR]
    exact ⟨hn, rfl, rfl⟩
  · refine V.goF (by first | exact trivial | assumption) Try.func88 tl_ok mixed hS.ops [] 400 ?_
    intro VV VA W hVV hVA hW
    conv => cbv
    have el0 : ine 0 0 = false := by (first | rfl | omega | (simp (disch := omega) only [hS.glob, wraps, plain, Int.ofNat_eq_natCast]; first | done | rfl | omega | (simp; done) | (simp; omega)) | (simp (disch := omega) only [hS.glob, wraps, plain, Int.ofNat_eq_natCast, Vx.toN]; omega))
    simp only [el0]
    clear el0
    conv => cbv
    rw [hQ]
    exact ⟨rfl, c, k, z, hs, hz, rfl⟩
noncomputable def f50ops : Array Oper := match Try.f83.body with | some (.seq _ (.seq (.region _ o _) _)) => o | _ => #[]
noncomputable def f50k : List Item := match Try.f83.body with | some (.seq _ (.seq _ c)) => [.code c] | _ => []
noncomputable def f52ops : Array Oper := match Try.f87.body with | some (.seq (.region _ o _) _) => o | _ => #[]
noncomputable def f52k : List Item := match Try.f87.body with | some (.seq _ c) => [.code c] | _ => []
/-- What is done behind the scan: nothing. -/
theorem f87_none (a b c : AV) (T : Hp) (Q : Hp → Prop) (hQ : Q (some ⟨37, 1, .lit [[a]]⟩ :: some ⟨3, 1, .lit [[b]]⟩ :: some ⟨4, 1, .lit [[c]]⟩ :: T)) :
    DSpec Try.prog 87 [.ptr 0 0 0, .ptr 1 0 0, .ptr 2 0 0] (some ⟨37, 1, .lit [[a]]⟩ :: some ⟨3, 1, .lit [[b]]⟩ :: some ⟨4, 1, .lit [[c]]⟩ :: T) none Q := by
  obtain ⟨H, hH⟩ : ∃ H, H = (some ⟨37, 1, .lit [[a]]⟩ :: some ⟨3, 1, .lit [[b]]⟩ :: some ⟨4, 1, .lit [[c]]⟩ :: T : Hp) := ⟨_, rfl⟩
  rw [← hH] at hQ ⊢
  refine DSpec.of (fn := Try.f87) Try.func87 rfl rfl (by simp) (fun r h => by cases h) (ops := f52ops) (i := 0) (rest := [1]) (k := f52k) (E := fun s H' => s = [(0, .ptr 0 0 0), (1, .ptr 1 0 0), (2, .ptr 2 0 0)] ∧ H' = H) (fun C hC => ?_) (o := f52ops[0]!) rfl rfl rfl rfl ?_
  · obtain ⟨iadd, isub, imul, iquo, irem, iband, ibor, ibxor, ibandn, ishl, ishr, iconv, ieq, ine, ilt, ile, igt, ige, bbeq, bbne, bnot, bband, sseq, ssne, sscat, sssub, sslen, sssz, ssbyte, toN, ofN, addN, subN, eqN, ltB, leN, imx, imn, inb, leb, sslt, ltN, fit, ne0, ge0, ssfit, minN, inR, bcol, bstr, isBy, hS⟩ := names
    refine V.goF (by first | exact trivial | assumption) Try.func87 tl_ok mixed hS.ops [] 400 ?_
    intro VV VA W hVV hVA hW
    conv => cbv
    rw [hVV]
    clear hVV hVA VV VA hW W
    exact V.at_ ⟨rfl, rfl⟩
  · rintro s H' ⟨rfl, rfl⟩ C hC
    obtain ⟨iadd, isub, imul, iquo, irem, iband, ibor, ibxor, ibandn, ishl, ishr, iconv, ieq, ine, ilt, ile, igt, ige, bbeq, bbne, bnot, bband, sseq, ssne, sscat, sssub, sslen, sssz, ssbyte, toN, ofN, addN, subN, eqN, ltB, leN, imx, imn, inb, leb, sslt, ltN, fit, ne0, ge0, ssfit, minN, inR, bcol, bstr, isBy, hS⟩ := names
    refine V.goF (by first | exact trivial | assumption) Try.func87 tl_ok mixed hS.ops [] 400 ?_
    intro VV VA W hVV hVA hW
    conv => cbv
    rw [hVV]
    clear hVV hVA VV VA hW W
    refine V.op rfl rfl rfl (op_ifcNil tl_ok rfl rfl rfl (.inl ⟨rfl, rfl⟩) (.inr ⟨rfl, rfl⟩)) ?_
    refine V.goF (by first | exact trivial | assumption) Try.func87 tl_ok mixed hS.ops [] 400 ?_
    intro VV VA W hVV hVA hW
    conv => cbv
    exact hQ
/-- What is done behind a scan that panicked. -/
theorem f87_some (a b c : AV) (T : Hp) (z : Int) (Q : Hp → Prop) (hQ : Q (some ⟨37, 1, .lit [[.nil .slice]]⟩ :: some ⟨3, 1, .lit [[.int .i64 z]]⟩ :: some ⟨4, 1, .lit [[.bool true]]⟩ :: T)) :
    DSpec Try.prog 87 [.ptr 0 0 0, .ptr 1 0 0, .ptr 2 0 0] (some ⟨37, 1, .lit [[a]]⟩ :: some ⟨3, 1, .lit [[b]]⟩ :: some ⟨4, 1, .lit [[c]]⟩ :: T) (some (.ifc 3 (.int .i64 z))) Q := by
  obtain ⟨H, hH⟩ : ∃ H, H = (some ⟨37, 1, .lit [[a]]⟩ :: some ⟨3, 1, .lit [[b]]⟩ :: some ⟨4, 1, .lit [[c]]⟩ :: T : Hp) := ⟨_, rfl⟩
  rw [← hH]
  refine DSpec.of (fn := Try.f87) Try.func87 rfl rfl (by simp) (fun r h => by cases h; rfl) (ops := f52ops) (i := 0) (rest := [1]) (k := f52k) (E := fun s H' => s = [(0, .ptr 0 0 0), (1, .ptr 1 0 0), (2, .ptr 2 0 0)] ∧ H' = H) (fun C hC => ?_) (o := f52ops[0]!) rfl rfl rfl rfl ?_
  · obtain ⟨iadd, isub, imul, iquo, irem, iband, ibor, ibxor, ibandn, ishl, ishr, iconv, ieq, ine, ilt, ile, igt, ige, bbeq, bbne, bnot, bband, sseq, ssne, sscat, sssub, sslen, sssz, ssbyte, toN, ofN, addN, subN, eqN, ltB, leN, imx, imn, inb, leb, sslt, ltN, fit, ne0, ge0, ssfit, minN, inR, bcol, bstr, isBy, hS⟩ := names
    refine V.goF (by first | exact trivial | assumption) Try.func87 tl_ok mixed hS.ops [] 400 ?_
    intro VV VA W hVV hVA hW
    conv => cbv
    rw [hVV]
    clear hVV hVA VV VA hW W
    exact V.at_ ⟨rfl, rfl⟩
  · rintro s H' ⟨rfl, rfl⟩ C hC
    rw [hH]
    obtain ⟨iadd, isub, imul, iquo, irem, iband, ibor, ibxor, ibandn, ishl, ishr, iconv, ieq, ine, ilt, ile, igt, ige, bbeq, bbne, bnot, bband, sseq, ssne, sscat, sssub, sslen, sssz, ssbyte, toN, ofN, addN, subN, eqN, ltB, leN, imx, imn, inb, leb, sslt, ltN, fit, ne0, ge0, ssfit, minN, inR, bcol, bstr, isBy, hS⟩ := names
    refine V.goF (by first | exact trivial | assumption) Try.func87 tl_ok mixed hS.ops [] 400 ?_
    intro VV VA W hVV hVA hW
    conv => cbv
    repeat (refine ⟨by first | (rw [hW]; show ordOk _ _ _ = true; kernel_rfl) | (first | trivial | omega | (simp (disch := omega) only [hS.glob, wraps, plain, Int.ofNat_eq_natCast]; first | done | omega | trivial | (simp; done) | (simp; omega) | (constructor <;> omega)) | (simp (disch := omega) only [hS.glob, wraps, plain, Int.ofNat_eq_natCast, Vx.toN]; omega)), ?_⟩)
    exact hQ
end Go.Proofs.Ytngagepodbcohaa

/- The scalars of bytes, by the program. -/
namespace Go.Proofs.Ytngagepodbcohaa
open Go Vx
set_option maxRecDepth 100000
/-- The scalars of bytes from a place on (the first number: fuel). -/
noncomputable def decF (n : Nat) (g : Nat → Int) : Nat → Nat → Option (List Int)
  | 0, _ => some []
  | f + 1, p => if p < n then (match nextU (n - p) (fun j => g (p + j)) with
    | none => none
    | some (c, k) => (decF n g f (p + k)).map (c :: ·)) else some []
noncomputable def decU (n : Nat) (g : Nat → Int) : Option (List Int) := decF n g n 0
theorem nextU_len {n : Nat} {g : Nat → Int} {c : Int} {k : Nat} (h : nextU n g = some (c, k)) : 0 < k ∧ k ≤ n ∧ k ≤ 4 := by
  unfold nextU at h
  split at h
  · injection h with h; injection h with h1 h2; omega
  · split at h
    · injection h with h; injection h with h1 h2; omega
    · split at h
      · injection h with h; injection h with h1 h2; omega
      · split at h
        · injection h with h; injection h with h1 h2; omega
        · cases h
theorem decF_end {n : Nat} {g : Nat → Int} {f p : Nat} (h : n ≤ p) : decF n g f p = some [] := by
  cases f with
  | zero => rfl
  | succ f => rw [decF, if_neg (by omega)]
theorem decF_step {n : Nat} {g : Nat → Int} {f p : Nat} (h : p < n) (hf : n - p ≤ f) : ∃ f', (nextU (n - p) (fun j => g (p + j)) = none → decF n g f p = none) ∧
    ∀ c k, nextU (n - p) (fun j => g (p + j)) = some (c, k) → decF n g f p = (decF n g f' (p + k)).map (c :: ·) ∧ n - (p + k) ≤ f' := by
  obtain ⟨f', rfl⟩ : ∃ f', f = f' + 1 := ⟨f - 1, by omega⟩
  refine ⟨f', fun hn => ?_, fun c k hs => ⟨?_, ?_⟩⟩
  · rw [decF, if_pos h, hn]
  · rw [decF, if_pos h, hs]
  · have := nextU_len hs; omega
def ScanR (D : Option (List Int)) (r : AV) (H' : Hp) : Prop := (D = none ∧ H' = [] ∧ ∃ p, r = .tup [.nil .slice, .int .i64 p, .bool true]) ∨
  ∃ (m : Nat) (l : Nat → Int), D = some (tab m l) ∧ r = .tup [.sl 0 0 m, .int .i64 0, .bool false] ∧ H' = [some ⟨3, 1, .arr m (icol .i64 l)⟩]
theorem f83_ok (n : Nat) (hn : n ≤ 1000000000000) (g : Nat → Int) (hg : ∀ i, i < n → 0 ≤ g i ∧ g i ≤ 255) (D : Option (List Int)) (hD : D = decU n g) : FSpec Try.prog 83 [.rows 1 n (icol .u8 g)] [] (ScanR D) := by
  obtain ⟨Q, hQ⟩ : ∃ Q : AV → Hp → Prop, Q = fun r H' => (D = none ∧ ∃ p, r = .tup [.nil .slice, .int .i64 p, .bool true]) ∨
    ∃ (m : Nat) (l : Nat → Int) (a b c : Option Ob), D = some (tab m l) ∧ r = .tup [.sl 3 0 m, .int .i64 0, .bool false] ∧ H' = [a, b, c, some ⟨3, 1, .arr m (icol .i64 l)⟩] := ⟨_, rfl⟩
  refine (show FSpec Try.prog 83 [.rows 1 n (icol .u8 g)] [] Q from ?_).repick ?_
  case refine_2 =>
    rw [hQ]
    rintro r H' (⟨hd, p, rfl⟩ | ⟨m, l, a, b, c, hd, rfl, rfl⟩)
    · exact ⟨[], by decide, fun k hk => absurd hk (Nat.not_lt_zero _), .inl ⟨hd, rfl, p, rfl⟩⟩
    · exact ⟨[3], by decide, fun k hk => absurd hk (Nat.not_lt_zero _), .inr ⟨m, l, hd, rfl, rfl⟩⟩
  obtain ⟨E2, hE2⟩ : ∃ E2 : Slots → Hp → Prop, E2 = fun s H => ∃ (m : Nat) (l : Nat → Int), D = some (tab m l) ∧ covers s [(4, .ptr 2 0 0), (3, .ptr 1 0 0), (2, .ptr 0 0 0)] ∧ H = [some ⟨37, 1, .lit [[.sl 3 0 m]]⟩, some ⟨3, 1, .lit [[.int .i64 0]]⟩, some ⟨4, 1, .lit [[.bool false]]⟩, some ⟨3, 1, .arr m (icol .i64 l)⟩] := ⟨_, rfl⟩
  obtain ⟨R2, hR2⟩ : ∃ R2 : AV → Slots → Hp → Prop, R2 = fun r s H => D = none ∧ ∃ (z : Int) (m : Nat) (l : Nat → Int), r = .ifc 3 (.int .i64 z) ∧ covers s [(4, .ptr 2 0 0), (3, .ptr 1 0 0), (2, .ptr 0 0 0)] ∧ H = [some ⟨37, 1, .lit [[.sl 3 0 m]]⟩, some ⟨3, 1, .lit [[.int .i64 0]]⟩, some ⟨4, 1, .lit [[.bool false]]⟩, some ⟨3, 1, .arr m (icol .i64 l)⟩] := ⟨_, rfl⟩
  refine FSpec.defers (fn := Try.f83) tl_ok Try.func83 rfl rfl (by simp) (ops := f50ops) (i := 1) (rest := []) (k := f50k)
    (E := fun s H' => s = [(8, .fn (.func 87) [] [.ptr 0 0 0, .ptr 1 0 0, .ptr 2 0 0]), (4, .ptr 2 0 0), (3, .ptr 1 0 0), (2, .ptr 0 0 0), (0, .rows 1 n (icol .u8 g))] ∧ H' = [some ⟨37, 1, .lit [[.nil .slice]]⟩, some ⟨3, 1, .lit [[.int .i64 0]]⟩, some ⟨4, 1, .lit [[.bool false]]⟩]) (fun C hC => ?_) (o := f50ops[1]!) rfl rfl rfl rfl (g := 87) Try.func87 rfl (by decide) ?_
  · obtain ⟨iadd, isub, imul, iquo, irem, iband, ibor, ibxor, ibandn, ishl, ishr, iconv, ieq, ine, ilt, ile, igt, ige, bbeq, bbne, bnot, bband, sseq, ssne, sscat, sssub, sslen, sssz, ssbyte, toN, ofN, addN, subN, eqN, ltB, leN, imx, imn, inb, leb, sslt, ltN, fit, ne0, ge0, ssfit, minN, inR, bcol, bstr, isBy, hS⟩ := names
    refine V.goF (by first | exact trivial | assumption) Try.func83 tl_ok mixed hS.ops [] 400 ?_
    intro VV VA W hVV hVA hW
    conv => cbv
    rw [hVV]
    clear hVV hVA VV VA hW W
    exact V.at_ ⟨rfl, rfl⟩
  rintro s H1 ⟨rfl, rfl⟩
  refine ⟨[.ptr 0 0 0, .ptr 1 0 0, .ptr 2 0 0], rfl, rfl, E2, R2, fun C hC => ?_, fun s2 H2 h => ?_, fun r s2 H2 h => ?_⟩
  · obtain ⟨iadd, isub, imul, iquo, irem, iband, ibor, ibxor, ibandn, ishl, ishr, iconv, ieq, ine, ilt, ile, igt, ige, bbeq, bbne, bnot, bband, sseq, ssne, sscat, sssub, sslen, sssz, ssbyte, toN, ofN, addN, subN, eqN, ltB, leN, imx, imn, inb, leb, sslt, ltN, fit, ne0, ge0, ssfit, minN, inR, bcol, bstr, isBy, hS⟩ := names
    refine V.goF (by first | exact trivial | assumption) Try.func83 tl_ok mixed hS.ops [] 400 ?_
    intro VV VA W hVV hVA hW
    conv => cbv
    rw [hVV]
    clear hVV hVA VV VA hW W
    refine V.phantomOb 0 0 3 1 (icol .i64 (fun _ => 0)) rfl rfl ?_
    refine V.to (s' := [(5, .int .i64 (ofN 0)), (4, .ptr 2 0 0), (3, .ptr 1 0 0), (2, .ptr 0 0 0), (0, .rows 1 n (icol .u8 g))]) (H' := [some ⟨37, 1, .lit [[.sl 3 0 0]]⟩, some ⟨3, 1, .lit [[.int .i64 0]]⟩, some ⟨4, 1, .lit [[.bool false]]⟩, some ⟨3, 1, .arr 0 (icol .i64 (fun _ => 0))⟩]) ?_ (by (repeat' first | exact trivial | rfl | (refine And.intro ?_ ?_) | (refine sti ?_; (first | rfl | omega | (simp (disch := omega) only [hS.glob, wraps, plain, Int.ofNat_eq_natCast]; first | done | rfl | omega | (simp; done) | (simp; omega)) | (simp (disch := omega) only [hS.glob, wraps, plain, Int.ofNat_eq_natCast, Vx.toN]; omega))) | (refine slq ?_ ?_ ?_ <;> (first | rfl | omega | (simp (disch := omega) only [hS.glob, wraps, plain, Int.ofNat_eq_natCast]; first | done | rfl | omega | (simp; done) | (simp; omega)) | (simp (disch := omega) only [hS.glob, wraps, plain, Int.ofNat_eq_natCast, Vx.toN]; omega))) | (refine ptq ?_ ?_ ?_ <;> (first | rfl | omega | (simp (disch := omega) only [hS.glob, wraps, plain, Int.ofNat_eq_natCast]; first | done | rfl | omega | (simp; done) | (simp; omega)) | (simp (disch := omega) only [hS.glob, wraps, plain, Int.ofNat_eq_natCast, Vx.toN]; omega))) | (refine blq ?_; (first | rfl | omega | (simp (disch := omega) only [hS.glob, wraps, plain, Int.ofNat_eq_natCast]; first | done | rfl | omega | (simp; done) | (simp; omega)) | (simp (disch := omega) only [hS.glob, wraps, plain, Int.ofNat_eq_natCast, Vx.toN]; omega))))) rfl (by (repeat' first | exact trivial | rfl | exact Nat.le_refl _ | exact (fun _ _ => rfl) | (refine And.intro ?_ ?_) | (simp only [hS.glob, plain]; first | done | omega))) (by rw [hC]; decide)
    refine V.loop (γ := Nat × Nat × (Nat → Int) × Nat) (fun q => q.1 ≤ n ∧ n - q.1 ≤ q.2.2.2 ∧ q.2.1 ≤ q.1 ∧ D = (decF n g q.2.2.2 q.1).map (tab q.2.1 q.2.2.1 ++ ·))
      (fun q => [(5, .int .i64 (ofN q.1)), (4, .ptr 2 0 0), (3, .ptr 1 0 0), (2, .ptr 0 0 0), (0, .rows 1 n (icol .u8 g))]) (fun q => [some ⟨37, 1, .lit [[.sl 3 0 q.2.1]]⟩, some ⟨3, 1, .lit [[.int .i64 0]]⟩, some ⟨4, 1, .lit [[.bool false]]⟩, some ⟨3, 1, .arr q.2.1 (icol .i64 q.2.2.1)⟩])
      (fun q => n - q.1) ?_ (0, 0, (fun _ => 0), n) ⟨Nat.zero_le _, Nat.le_refl _, Nat.le_refl _, by rw [hD]; unfold decU; cases decF n g n 0 <;> rfl⟩
    clear hD
    rintro ⟨p, m, l, f⟩ ⟨hp, hf, hm, hD⟩ hback
    dsimp only at hp hf hm hD hback ⊢
    refine V.goF (by first | exact trivial | assumption) Try.func83 tl_ok mixed hS.ops [] 400 ?_
    intro VV VA W hVV hVA hW
    conv => cbv
    cases h1 : ilt (ofN p) (ofN n)
    · conv => cbv
      simp (disch := first | omega | (simp only [hS.glob, wraps, plain, Int.ofNat_eq_natCast]; omega)) only [hS.glob, wraps, plain, Int.ofNat_eq_natCast] at h1
      rw [hE2]
      exact ⟨m, l, by rw [hD, decF_end (by omega)]; simp, ⟨rfl, rfl, rfl, trivial⟩, rfl⟩
    · conv => cbv
      simp (disch := first | omega | (simp only [hS.glob, wraps, plain, Int.ofNat_eq_natCast]; omega)) only [hS.glob, wraps, plain, Int.ofNat_eq_natCast] at h1
      rw [hVV]
      clear hVV hVA VV VA hW W
      obtain ⟨A, hA⟩ : ∃ A, A = nextU (n - p) (fun j => g (p + j)) := ⟨_, rfl⟩
      obtain ⟨f', hno, hyes⟩ := decF_step (g := g) (f := f) (p := p) (n := n) (by omega) hf
      refine V.callP rfl rfl rfl rfl rfl Try.func88 rfl (by decide) [] (by decide) (all_lt (by rfl)) (by (first | rfl | ((conv => cbv); (repeat' apply And.intro) <;> first | rfl | trivial | (first | rfl | omega | (simp (disch := omega) only [hS.glob, wraps, plain, Int.ofNat_eq_natCast]; first | done | rfl | omega | (simp; done) | (simp; omega)) | (simp (disch := omega) only [hS.glob, wraps, plain, Int.ofNat_eq_natCast, Vx.toN]; omega))))) (by rfl) (f88_ok n hn g hg p hp (ofN p) (by (first | rfl | omega | (simp (disch := omega) only [hS.glob, wraps, plain, Int.ofNat_eq_natCast]; first | done | rfl | omega | (simp; done) | (simp; omega)) | (simp (disch := omega) only [hS.glob, wraps, plain, Int.ofNat_eq_natCast, Vx.toN]; omega))) A hA) ?_ ?_
      · rintro r Hc ⟨rfl, c, k, z, hs, hz, rfl⟩
        have hk := nextU_len (hA.symm.trans hs)
        refine V.goF (by first | exact trivial | assumption) Try.func83 tl_ok mixed hS.ops [] 400 ?_
        intro VV VA W hVV hVA hW
        conv => cbv
        repeat (refine ⟨by first | (rw [hW]; show ordOk _ _ _ = true; kernel_rfl) | (first | trivial | omega | (simp (disch := omega) only [hS.glob, wraps, plain, Int.ofNat_eq_natCast]; first | done | omega | trivial | (simp; done) | (simp; omega) | (constructor <;> omega)) | (simp (disch := omega) only [hS.glob, wraps, plain, Int.ofNat_eq_natCast, Vx.toN]; omega)), ?_⟩)
        rw [hVV]
        clear hVV hVA VV VA hW W
        refine V.pick [0, 1, 2, 5] (by decide) (by rw [hC]; exact begins_of rfl) (by rfl) (by rfl) ?_
        obtain ⟨l', e1, e2⟩ := snocF l m c
        refine V.to (hback (p + k, m + 1, l', f') ⟨by simp only; omega, (hyes c k (hA.symm.trans hs)).2, by simp only; omega, ?_⟩ (by simp only; omega)) (by
          refine ⟨sti ?_, rfl, rfl, rfl, rfl, trivial⟩
          simp only [hz]; (first | rfl | omega | (simp (disch := omega) only [hS.glob, wraps, plain, Int.ofNat_eq_natCast]; first | done | rfl | omega | (simp; done) | (simp; omega)) | (simp (disch := omega) only [hS.glob, wraps, plain, Int.ofNat_eq_natCast, Vx.toN]; omega))) rfl ⟨⟨rfl, rfl, ?_, rfl⟩, ⟨rfl, rfl, rfl, rfl⟩, ⟨rfl, rfl, rfl, rfl⟩, ⟨rfl, rfl, ⟨by show m + 1 ≤ addN m 1; (first | trivial | omega | (simp (disch := omega) only [hS.glob, wraps, plain, Int.ofNat_eq_natCast]; first | done | omega | trivial | (simp; done) | (simp; omega) | (constructor <;> omega)) | (simp (disch := omega) only [hS.glob, wraps, plain, Int.ofNat_eq_natCast, Vx.toN]; omega)), fun j hj => leaf (by simp [hS.glob]) (by simp [hS.glob]) c l l' m e1 e2 j hj⟩, rfl⟩, trivial⟩ (by rw [hC]; simp)
        · simp only
          rw [hD, (hyes c k (hA.symm.trans hs)).1]
          have e3 := tab_snoc (n := m) (n' := m + 1) (f := l) (g := l') (a := c) rfl e1 e2
          rw [e3]
          cases decF n g f' (p + k) <;> simp
        · simp only [hS.glob, plain]; rfl
      · rintro r Hc ⟨hbad, rfl, rfl⟩
        show R2 _ _ _
        rw [hR2]
        exact ⟨by rw [hD, hno (hA.symm.trans hbad)]; rfl, ofN p, m, l, rfl, ⟨rfl, rfl, rfl, trivial⟩, rfl⟩
  · rw [hE2] at h
    obtain ⟨m, l, hd, ⟨h4, h3, h2, _⟩, rfl⟩ := h
    refine f87_none _ _ _ _ _ ?_
    have e : Try.f83.results.toList = [.cell 2 37, .cell 3 3, .cell 4 4] := rfl
    simp only [e, aend, aresults, h2, h3, h4]
    rw [hQ]
    exact .inr ⟨m, l, _, _, _, hd, rfl, rfl⟩
  · rw [hR2] at h
    obtain ⟨hd, z, m, l, rfl, ⟨h4, h3, h2, _⟩, rfl⟩ := h
    refine f87_some _ _ _ _ _ _ ?_
    have e : Try.f83.results.toList = [.cell 2 37, .cell 3 3, .cell 4 4] := rfl
    simp only [e, aend, aresults, h2, h3, h4]
    rw [hQ]
    exact .inl ⟨hd, z, rfl⟩
end Go.Proofs.Ytngagepodbcohaa
