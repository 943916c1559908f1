/- Contracts of functions by an evaluator of the model: its part T3. -/
import Derived.Test.YtngagepodbcohaaT2
set_option linter.all false
/- The scalars of bytes: the program's last step; the document's bytes of a scalar. -/
namespace Go.Proofs.Ytngagepodbcohaa
open Go Vx
set_option maxRecDepth 100000
def DecR (D : Option (List Int)) (r : AV) (H' : Hp) : Prop := (D = none ∧ H' = [] ∧ r = .tup [.nil .slice, .int .i64 11]) ∨
  ∃ (m : Nat) (l : Nat → Int), D = some (tab m l) ∧ r = .tup [.sl 0 0 m, .int .i64 0] ∧ H' = [some ⟨3, 1, .arr m (icol .i64 l)⟩]
theorem f73_ok (n : Nat) (hn : n ≤ 1000000000000) (g : Nat → Int) (hg : ∀ i, i < n → 0 ≤ g i ∧ g i ≤ 255) (D : Option (List Int)) (hD : D = decU n g) : FSpec Try.prog 73 [.rows 1 n (icol .u8 g)] [] (DecR D) := by
  have h50 := f83_ok n hn g hg D hD
  clear hD
  obtain ⟨Q, hQ⟩ : ∃ Q : AV → Hp → Prop, Q = DecR D := ⟨_, rfl⟩
  rw [← hQ]
  refine FSpec.of (fn := Try.f73) Try.func73 rfl rfl (by simp) fun C hC => ?_
  obtain ⟨iadd, isub, imul, iquo, irem, iband, ibor, ibxor, ibandn, ishl, ishr, iconv, ieq, ine, ilt, ile, igt, ige, bbeq, bbne, bnot, bband, sseq, ssne, sscat, sssub, sslen, sssz, ssbyte, toN, ofN, addN, subN, eqN, ltB, leN, imx, imn, inb, leb, sslt, ltN, fit, ne0, ge0, ssfit, minN, inR, bcol, bstr, isBy, hS⟩ := names
  refine V.goF (by first | exact trivial | assumption) Try.func73 tl_ok mixed hS.ops [] 400 ?_
  intro VV VA W hVV hVA hW
  conv => cbv
  rw [hVV]
  clear hVV hVA VV VA hW W
  refine V.call rfl rfl rfl rfl rfl Try.func83 rfl (by decide) [] (by simp) (by simp) (by (first | rfl | ((conv => cbv); (repeat' apply And.intro) <;> first | rfl | trivial | (first | rfl | omega | (simp (disch := omega) only [hS.glob, wraps, plain, Int.ofNat_eq_natCast]; first | done | rfl | omega | (simp; done) | (simp; omega)) | (simp (disch := omega) only [hS.glob, wraps, plain, Int.ofNat_eq_natCast, Vx.toN]; omega))))) rfl h50 ?_
  rintro r Hc (⟨hd, rfl, p, rfl⟩ | ⟨m, l, hd, rfl, rfl⟩)
  · refine V.goF (by first | exact trivial | assumption) Try.func73 tl_ok mixed hS.ops [] 400 ?_
    intro VV VA W hVV hVA hW
    conv => cbv
    rw [hQ]
    exact .inl ⟨hd, rfl, rfl⟩
  · refine V.goF (by first | exact trivial | assumption) Try.func73 tl_ok mixed hS.ops [] 400 ?_
    intro VV VA W hVV hVA hW
    conv => cbv
    rw [hQ]
    exact .inr ⟨m, l, hd, rfl, rfl⟩
/-- How many bytes a scalar has, and which. -/
def enL (c : Int) : Nat := if c < 128 then 1 else if c < 2048 then 2 else if c < 65536 then 3 else 4
def enB (c : Int) (i : Nat) : Int :=
  if c < 128 then c
  else if c < 2048 then (if i = 0 then 192 + c / 64 else 128 + c % 64)
  else if c < 65536 then (if i = 0 then 224 + c / 4096 else if i = 1 then 128 + c / 64 % 64 else 128 + c % 64)
  else (if i = 0 then 240 + c / 262144 else if i = 1 then 128 + c / 4096 % 64 else if i = 2 then 128 + c / 64 % 64 else 128 + c % 64)
theorem iquo_pos (x y : Int) (hx : 0 ≤ x ∧ x ≤ 1000000000) (hy : 0 < y) : Vx.iquo .i64 x y = x / y := by
  unfold Vx.iquo
  rw [Int.tdiv_eq_ediv_of_nonneg hx.1]
  have h1 : 0 ≤ x / y := Int.ediv_nonneg hx.1 (Int.le_of_lt hy)
  have h2 : x / y ≤ x := Int.ediv_le_self y hx.1
  exact Vx.iconv_i64 (x / y) (by omega)
theorem f86_ok (c : Int) (hc : 0 ≤ c ∧ c ≤ 1114111) (k : Nat) (hk : k = enL c) (e : Nat → Int) (he : ∀ i, e i = enB c i) : FSpec Try.prog 86 [.int .i64 c] [] (fun r H' => r = .rows 1 k (icol .u8 e) ∧ H' = []) := by
  refine FSpec.freeze (e := 5) (by decide) ?_
  obtain ⟨Q, hQ⟩ : ∃ Q : AV → Hp → Prop, Q = fun r H' => r = .sl 0 0 k ∧ ∃ rows, H' = [some ⟨5, 1, .lit rows⟩] ∧ rows.length = k ∧ rows.all (AV.bnd.bndL 0) = true ∧ ∀ i, i < k → icol .u8 e i = rows.getD i [] := ⟨_, rfl⟩
  refine (show FSpec Try.prog 86 [.int .i64 c] [] Q from ?_).weaken ?_
  case refine_2 =>
    rw [hQ]
    rintro r H' ⟨rfl, rows, rfl, h1, h2, h3⟩
    exact ⟨[some ⟨5, 1, .arr k (icol .u8 e)⟩], ⟨⟨rfl, rfl, ⟨by omega, h2, h3⟩, rfl⟩, trivial⟩, rfl, Nat.zero_le _, rfl, rfl⟩
  refine FSpec.of (fn := Try.f86) Try.func86 rfl rfl (by simp) fun C hC => ?_
  obtain ⟨iadd, isub, imul, iquo, irem, iband, ibor, ibxor, ibandn, ishl, ishr, iconv, ieq, ine, ilt, ile, igt, ige, bbeq, bbne, bnot, bband, sseq, ssne, sscat, sssub, sslen, sssz, ssbyte, toN, ofN, addN, subN, eqN, ltB, leN, imx, imn, inb, leb, sslt, ltN, fit, ne0, ge0, ssfit, minN, inR, bcol, bstr, isBy, hS⟩ := names
  have q1 : iquo .i64 c 64 = c / 64 := by simp only [hS.glob]; exact iquo_pos c 64 (by omega) (by decide)
  have q2 : iquo .i64 c 4096 = c / 4096 := by simp only [hS.glob]; exact iquo_pos c 4096 (by omega) (by decide)
  have q3 : iquo .i64 c 262144 = c / 262144 := by simp only [hS.glob]; exact iquo_pos c 262144 (by omega) (by decide)
  refine V.goF (by first | exact trivial | assumption) Try.func86 tl_ok mixed hS.ops [] 400 ?_
  intro VV VA W hVV hVA hW
  conv => cbv
  unfold enL at hk
  unfold enB at he
  split <;> rename_i h1
  · conv => cbv
    simp (disch := first | omega | (simp only [hS.glob, wraps, plain, Int.ofNat_eq_natCast]; omega)) only [hS.glob, wraps, plain, Int.ofNat_eq_natCast] at h1
    rw [hQ]
    rw [if_pos h1] at hk
    subst hk
    refine ⟨rfl, _, rfl, rfl, rfl, fun i hi => ?_⟩
    obtain rfl : i = 0 := by omega
    simp only [icol, he, if_pos h1]
    show _ = [AV.int .u8 _]
    congr 2
    (first | rfl | omega | (simp (disch := omega) only [hS.glob, wraps, plain, Int.ofNat_eq_natCast]; first | done | rfl | omega | (simp; done) | (simp; omega)) | (simp (disch := omega) only [hS.glob, wraps, plain, Int.ofNat_eq_natCast, Vx.toN]; omega))
  · conv => cbv
    simp (disch := first | omega | (simp only [hS.glob, wraps, plain, Int.ofNat_eq_natCast]; omega)) only [hS.glob, wraps, plain, Int.ofNat_eq_natCast] at h1
    split <;> rename_i h2
    · conv => cbv
      simp (disch := first | omega | (simp only [hS.glob, wraps, plain, Int.ofNat_eq_natCast]; omega)) only [hS.glob, wraps, plain, Int.ofNat_eq_natCast] at h2
      repeat (refine ⟨by first | (rw [hW]; show ordOk _ _ _ = true; kernel_rfl) | (first | trivial | omega | (simp (disch := omega) only [hS.glob, wraps, plain, Int.ofNat_eq_natCast]; first | done | omega | trivial | (simp; done) | (simp; omega) | (constructor <;> omega)) | (simp (disch := omega) only [hS.glob, wraps, plain, Int.ofNat_eq_natCast, Vx.toN]; omega)), ?_⟩)
      rw [hQ]
      rw [if_neg (by omega : ¬ c < 128), if_pos h2] at hk
      subst hk
      refine ⟨rfl, _, rfl, rfl, rfl, fun i hi => ?_⟩
      rcases (by omega : i = 0 ∨ i = 1) with rfl | rfl
      all_goals
        simp only [icol, he, if_neg (by omega : ¬ c < 128), if_pos h2]
        show _ = [AV.int .u8 _]
        congr 2
        try simp only [q1, q2, q3]
        try simp
        (first | rfl | omega | (simp (disch := omega) only [hS.glob, wraps, plain, Int.ofNat_eq_natCast]; first | done | rfl | omega | (simp; done) | (simp; omega)) | (simp (disch := omega) only [hS.glob, wraps, plain, Int.ofNat_eq_natCast, Vx.toN]; omega))
    · conv => cbv
      simp (disch := first | omega | (simp only [hS.glob, wraps, plain, Int.ofNat_eq_natCast]; omega)) only [hS.glob, wraps, plain, Int.ofNat_eq_natCast] at h2
      split <;> rename_i h3
      · conv => cbv
        simp (disch := first | omega | (simp only [hS.glob, wraps, plain, Int.ofNat_eq_natCast]; omega)) only [hS.glob, wraps, plain, Int.ofNat_eq_natCast] at h3
        repeat (refine ⟨by first | (rw [hW]; show ordOk _ _ _ = true; kernel_rfl) | (first | trivial | omega | (simp (disch := omega) only [hS.glob, wraps, plain, Int.ofNat_eq_natCast]; first | done | omega | trivial | (simp; done) | (simp; omega) | (constructor <;> omega)) | (simp (disch := omega) only [hS.glob, wraps, plain, Int.ofNat_eq_natCast, Vx.toN]; omega)), ?_⟩)
        rw [hQ]
        rw [if_neg (by omega : ¬ c < 128), if_neg (by omega : ¬ c < 2048), if_pos h3] at hk
        subst hk
        refine ⟨rfl, _, rfl, rfl, rfl, fun i hi => ?_⟩
        rcases (by omega : i = 0 ∨ i = 1 ∨ i = 2) with rfl | rfl | rfl
        all_goals
          simp only [icol, he, if_neg (by omega : ¬ c < 128), if_neg (by omega : ¬ c < 2048), if_pos h3]
          show _ = [AV.int .u8 _]
          congr 2
          try simp only [q1, q2, q3]
          try simp
          (first | rfl | omega | (simp (disch := omega) only [hS.glob, wraps, plain, Int.ofNat_eq_natCast]; first | done | rfl | omega | (simp; done) | (simp; omega)) | (simp (disch := omega) only [hS.glob, wraps, plain, Int.ofNat_eq_natCast, Vx.toN]; omega))
      · conv => cbv
        simp (disch := first | omega | (simp only [hS.glob, wraps, plain, Int.ofNat_eq_natCast]; omega)) only [hS.glob, wraps, plain, Int.ofNat_eq_natCast] at h3
        repeat (refine ⟨by first | (rw [hW]; show ordOk _ _ _ = true; kernel_rfl) | (first | trivial | omega | (simp (disch := omega) only [hS.glob, wraps, plain, Int.ofNat_eq_natCast]; first | done | omega | trivial | (simp; done) | (simp; omega) | (constructor <;> omega)) | (simp (disch := omega) only [hS.glob, wraps, plain, Int.ofNat_eq_natCast, Vx.toN]; omega)), ?_⟩)
        rw [hQ]
        rw [if_neg (by omega : ¬ c < 128), if_neg (by omega : ¬ c < 2048), if_neg (by omega : ¬ c < 65536)] at hk
        subst hk
        refine ⟨rfl, _, rfl, rfl, rfl, fun i hi => ?_⟩
        rcases (by omega : i = 0 ∨ i = 1 ∨ i = 2 ∨ i = 3) with rfl | rfl | rfl | rfl
        all_goals
          simp only [icol, he, if_neg (by omega : ¬ c < 128), if_neg (by omega : ¬ c < 2048), if_neg (by omega : ¬ c < 65536)]
          show _ = [AV.int .u8 _]
          congr 2
          try simp only [q1, q2, q3]
          try simp
          (first | rfl | omega | (simp (disch := omega) only [hS.glob, wraps, plain, Int.ofNat_eq_natCast]; first | done | rfl | omega | (simp; done) | (simp; omega)) | (simp (disch := omega) only [hS.glob, wraps, plain, Int.ofNat_eq_natCast, Vx.toN]; omega))
end Go.Proofs.Ytngagepodbcohaa

/- The first scalar of bytes, by the document: the plain part. -/
namespace Go.Proofs.Ytngagepodbcohaa
open Go Vx
set_option maxRecDepth 100000
def crF (g : Nat → Int) (k : Nat) : Nat → Int
  | 0 => if k = 1 then g 0 else if k = 2 then g 0 % 32 else if k = 3 then g 0 % 16 else g 0 % 8
  | i + 1 => 64 * crF g k i + g (i + 1) % 64
/-- The first bytes are a scalar's. -/
def fitsK (n : Nat) (g : Nat → Int) (k : Nat) : Prop := k ≤ n ∧ isSc (crF g k (k - 1)) ∧ enL (crF g k (k - 1)) = k ∧ ∀ i, i < k → enB (crF g k (k - 1)) i = g i
theorem fits_some (n : Nat) (g : Nat → Int) (hg : ∀ i, i < n → 0 ≤ g i ∧ g i ≤ 255) (k : Nat) (hk : k = 1 ∨ k = 2 ∨ k = 3 ∨ k = 4) (h : fitsK n g k) : nextU n g = some (crF g k (k - 1), k) := by
  obtain ⟨h1, h2, h3, h4⟩ := h
  rcases hk with rfl | rfl | rfl | rfl
  · have e : crF g 1 (1 - 1) = g 0 := rfl
    rw [e] at h2 h3 h4
    have hc : g 0 < 128 := by
      unfold enL at h3
      repeat (split at h3 <;> try omega)
    rw [nextU, if_pos ⟨h1, hc⟩, e]
  · have e : crF g 2 (2 - 1) = 64 * (g 0 % 32) + g 1 % 64 := rfl
    generalize crF g 2 (2 - 1) = c at *
    have hc : 128 ≤ c ∧ c < 2048 := by
      unfold enL at h3
      repeat (split at h3 <;> try omega)
    have a0 := h4 0 (by decide)
    have a1 := h4 1 (by decide)
    unfold enB at a0 a1
    rw [if_neg (by omega), if_pos (by omega)] at a0 a1
    simp only [if_true] at a0
    rw [if_neg (by decide)] at a1
    have hd : cd2 g = c := by unfold cd2; omega
    have hg0 := hg 0 (by omega)
    rw [nextU, if_neg (by omega), if_pos ⟨h1, by omega, by omega, by unfold tlB; omega, by omega⟩, hd]
  · have e : crF g 3 (3 - 1) = 64 * (64 * (g 0 % 16) + g 1 % 64) + g 2 % 64 := rfl
    generalize crF g 3 (3 - 1) = c at *
    have hc : 2048 ≤ c ∧ c < 65536 := by
      unfold enL at h3
      repeat (split at h3 <;> try omega)
    have a0 := h4 0 (by decide)
    have a1 := h4 1 (by decide)
    have a2 := h4 2 (by decide)
    unfold enB at a0 a1 a2
    rw [if_neg (by omega), if_neg (by omega), if_pos (by omega)] at a0 a1 a2
    simp at a0 a1 a2
    have hd : cd3 g = c := by unfold cd3; omega
    rw [nextU, if_neg (by omega), if_neg (by omega), if_pos ⟨h1, by omega, by omega, by unfold tlB; omega, by unfold tlB; omega, by omega, by rw [hd]; exact h2⟩, hd]
  · have e : crF g 4 (4 - 1) = 64 * (64 * (64 * (g 0 % 8) + g 1 % 64) + g 2 % 64) + g 3 % 64 := rfl
    generalize crF g 4 (4 - 1) = c at *
    have hc : 65536 ≤ c := by
      unfold enL at h3
      repeat (split at h3 <;> try omega)
    have hc2 : c ≤ 1114111 := h2.2.1
    have a0 := h4 0 (by decide)
    have a1 := h4 1 (by decide)
    have a2 := h4 2 (by decide)
    have a3 := h4 3 (by decide)
    unfold enB at a0 a1 a2 a3
    rw [if_neg (by omega), if_neg (by omega), if_neg (by omega)] at a0 a1 a2 a3
    simp at a0 a1 a2 a3
    have hd : cd4 g = c := by unfold cd4; omega
    rw [nextU, if_neg (by omega), if_neg (by omega), if_neg (by omega), if_pos ⟨h1, by omega, by omega, by unfold tlB; omega, by unfold tlB; omega, by unfold tlB; omega, by omega, by rw [hd]; exact h2⟩, hd]
theorem fits_none (n : Nat) (g : Nat → Int) (hg : ∀ i, i < n → 0 ≤ g i ∧ g i ≤ 255) (h : ∀ k, 1 ≤ k → k ≤ 4 → ¬ fitsK n g k) : nextU n g = none := by
  have h1 := h 1 (by decide) (by decide)
  have h2 := h 2 (by decide) (by decide)
  have h3 := h 3 (by decide) (by decide)
  have h4 := h 4 (by decide) (by decide)
  have e1 : crF g 1 (1 - 1) = g 0 := rfl
  have e2 : crF g 2 (2 - 1) = 64 * (g 0 % 32) + g 1 % 64 := rfl
  have e3 : crF g 3 (3 - 1) = 64 * (64 * (g 0 % 16) + g 1 % 64) + g 2 % 64 := rfl
  have e4 : crF g 4 (4 - 1) = 64 * (64 * (64 * (g 0 % 8) + g 1 % 64) + g 2 % 64) + g 3 % 64 := rfl
  unfold fitsK at h1 h2 h3 h4
  generalize crF g 1 (1 - 1) = c1 at *
  generalize crF g 2 (2 - 1) = c2 at *
  generalize crF g 3 (3 - 1) = c3 at *
  generalize crF g 4 (4 - 1) = c4 at *
  rw [nextU, if_neg, if_neg, if_neg, if_neg]
  · rintro ⟨q1, q2, q3, q4, q5, q6, q7, q8⟩
    have hd : cd4 g = c4 := by unfold cd4; unfold tlB at q4 q5 q6; omega
    rw [hd] at q7 q8
    unfold cd4 at hd
    unfold tlB at q4 q5 q6
    have hs := q8.2.1
    refine h4 ⟨q1, q8, ?_, fun i hi => ?_⟩
    · unfold enL
      rw [if_neg (by omega), if_neg (by omega), if_neg (by omega)]
    · unfold enB
      rw [if_neg (by omega), if_neg (by omega), if_neg (by omega)]
      rcases (by omega : i = 0 ∨ i = 1 ∨ i = 2 ∨ i = 3) with rfl | rfl | rfl | rfl <;> simp <;> omega
  · rintro ⟨q1, q2, q3, q4, q5, q7, q8⟩
    have hd : cd3 g = c3 := by unfold cd3; unfold tlB at q4 q5; omega
    rw [hd] at q7 q8
    unfold cd3 at hd
    unfold tlB at q4 q5
    refine h3 ⟨q1, q8, ?_, fun i hi => ?_⟩
    · unfold enL
      rw [if_neg (by omega), if_neg (by omega), if_pos (by omega)]
    · unfold enB
      rw [if_neg (by omega), if_neg (by omega), if_pos (by omega)]
      rcases (by omega : i = 0 ∨ i = 1 ∨ i = 2) with rfl | rfl | rfl <;> simp <;> omega
  · rintro ⟨q1, q2, q3, q4, q5⟩
    have hd : cd2 g = c2 := by unfold cd2; unfold tlB at q4; omega
    rw [hd] at q5
    unfold cd2 at hd
    unfold tlB at q4
    refine h2 ⟨q1, ?_, ?_, fun i hi => ?_⟩
    · unfold isSc; omega
    · unfold enL
      rw [if_neg (by omega), if_pos (by omega)]
    · unfold enB
      rw [if_neg (by omega), if_pos (by omega)]
      rcases (by omega : i = 0 ∨ i = 1) with rfl | rfl <;> simp <;> omega
  · rintro ⟨q1, q2⟩
    have hg0 := hg 0 (by omega)
    refine h1 ⟨q1, ?_, ?_, fun i hi => ?_⟩
    · unfold isSc; omega
    · unfold enL
      rw [if_pos (by omega)]
    · unfold enB
      rw [if_pos (by omega)]
      obtain rfl : i = 0 := by omega
      exact e1
/-- Strings out of bytes. -/
theorem bstr_eq (n m : Nat) (f g : Nat → Int) (hf : ∀ i, i < n → 0 ≤ f i ∧ f i ≤ 255) (hg : ∀ i, i < m → 0 ≤ g i ∧ g i ≤ 255) : Vx.sseq (bstrF n (icol .u8 f)) (bstrF m (icol .u8 g)) = true ↔ n = m ∧ ∀ i, i < n → f i = g i := by
  have e : ∀ n (f : Nat → Int), (bstrF n (icol .u8 f)).toList = (List.range n).map fun i => UInt8.ofNat (f i).toNat := fun n f => by
    rw [ByteArray.toList_eq]
    simp [bstrF, icol, bval]
  simp only [Vx.sseq, beq_iff_eq, e]
  constructor
  · intro h
    have hl := congrArg List.length h
    simp at hl
    subst hl
    refine ⟨rfl, fun i hi => ?_⟩
    have h2 := congrArg (fun l => l[i]?) h
    simp [hi] at h2
    have h3 := congrArg UInt8.toNat h2
    have a := hf i hi
    have b := hg i hi
    simp at h3
    omega
  · rintro ⟨rfl, h⟩
    exact List.map_congr_left fun i hi => by rw [h i (by simpa using hi)]
end Go.Proofs.Ytngagepodbcohaa

/- The first scalar of bytes, by the document: the walk. -/
namespace Go.Proofs.Ytngagepodbcohaa
open Go Vx
set_option maxRecDepth 100000
theorem crF_bound (n : Nat) (g : Nat → Int) (hg : ∀ i, i < n → 0 ≤ g i ∧ g i ≤ 255) (k : Nat) (hn : 1 ≤ n) : ∀ i, 0 ≤ crF g k i ∧ crF g k i < 64 ^ i * 256 := by
  intro i
  induction i with
  | zero =>
    have := hg 0 (by omega)
    simp only [crF]
    repeat' split
    all_goals simp
    all_goals omega
  | succ i ih =>
    have : 0 ≤ g (i + 1) % 64 ∧ g (i + 1) % 64 < 64 := by omega
    simp only [crF, Int.pow_succ]
    generalize (64 : Int) ^ i = q at ih ⊢
    omega
set_option maxHeartbeats 4000000 in
theorem f82_ok (n : Nat) (hn : n ≤ 1000000000000) (g : Nat → Int) (hg : ∀ i, i < n → 0 ≤ g i ∧ g i ≤ 255) (A : Option (Int × Nat)) (hA : A = nextU n g) : FSpec Try.prog 82 [.rows 1 n (icol .u8 g)] [] (NextR A) := by
  obtain ⟨Q, hQ⟩ : ∃ Q : AV → Hp → Prop, Q = NextR A := ⟨_, rfl⟩
  rw [← hQ]
  refine FSpec.of (fn := Try.f82) Try.func82 rfl rfl (by simp) fun C hC => ?_
  obtain ⟨iadd, isub, imul, iquo, irem, iband, ibor, ibxor, ibandn, ishl, ishr, iconv, ieq, ine, ilt, ile, igt, ige, bbeq, bbne, bnot, bband, sseq, ssne, sscat, sssub, sslen, sssz, ssbyte, toN, ofN, addN, subN, eqN, ltB, leN, imx, imn, inb, leb, sslt, ltN, fit, ne0, ge0, ssfit, minN, inR, bcol, bstr, isBy, hS⟩ := names
  refine V.goF (by first | exact trivial | assumption) Try.func82 tl_ok mixed hS.ops [] 400 ?_
  intro VV VA W hVV hVA hW
  conv => cbv
  rw [hVV]
  clear hVV hVA VV VA hW W
  refine V.to (s' := [(5, .int .i64 (ofN 1)), (0, .rows 1 n (icol .u8 g))]) (H' := []) ?_ (by (repeat' first | exact trivial | rfl | (refine And.intro ?_ ?_) | (refine sti ?_; (first | rfl | omega | (simp (disch := omega) only [hS.glob, wraps, plain, Int.ofNat_eq_natCast]; first | done | rfl | omega | (simp; done) | (simp; omega)) | (simp (disch := omega) only [hS.glob, wraps, plain, Int.ofNat_eq_natCast, Vx.toN]; omega))) | (refine slq ?_ ?_ ?_ <;> (first | rfl | omega | (simp (disch := omega) only [hS.glob, wraps, plain, Int.ofNat_eq_natCast]; first | done | rfl | omega | (simp; done) | (simp; omega)) | (simp (disch := omega) only [hS.glob, wraps, plain, Int.ofNat_eq_natCast, Vx.toN]; omega))) | (refine ptq ?_ ?_ ?_ <;> (first | rfl | omega | (simp (disch := omega) only [hS.glob, wraps, plain, Int.ofNat_eq_natCast]; first | done | rfl | omega | (simp; done) | (simp; omega)) | (simp (disch := omega) only [hS.glob, wraps, plain, Int.ofNat_eq_natCast, Vx.toN]; omega))) | (refine blq ?_; (first | rfl | omega | (simp (disch := omega) only [hS.glob, wraps, plain, Int.ofNat_eq_natCast]; first | done | rfl | omega | (simp; done) | (simp; omega)) | (simp (disch := omega) only [hS.glob, wraps, plain, Int.ofNat_eq_natCast, Vx.toN]; omega))))) rfl trivial (by rw [hC]; simp)
  refine V.loop (γ := Nat) (fun k => 1 ≤ k ∧ k ≤ 5 ∧ ∀ j, 1 ≤ j → j < k → ¬ fitsK n g j) (fun k => [(5, .int .i64 (ofN k)), (0, .rows 1 n (icol .u8 g))]) (fun _ => []) (fun k => 5 - k) ?_ 1 ⟨by decide, by decide, fun j h1 h2 => by omega⟩
  rintro k ⟨hk1, hk5, hnf⟩ hback
  have z0 : toN 0 = 0 := by simp only [hS.glob]; rfl
  refine V.goF (by first | exact trivial | assumption) Try.func82 tl_ok mixed hS.ops [] 400 ?_
  intro VV VA W hVV hVA hW
  conv => cbv
  cases h1 : ile (ofN k) 4
  · conv => cbv
    simp (disch := first | omega | (simp only [hS.glob, wraps, plain, Int.ofNat_eq_natCast]; omega)) only [hS.glob, wraps, plain, Int.ofNat_eq_natCast] at h1
    rw [hQ]
    exact ⟨rfl, .inl ⟨by rw [hA]; exact fits_none n g hg fun j h2 h3 => hnf j h2 (by omega), rfl⟩⟩
  conv => cbv
  simp (disch := first | omega | (simp only [hS.glob, wraps, plain, Int.ofNat_eq_natCast]; omega)) only [hS.glob, wraps, plain, Int.ofNat_eq_natCast] at h1
  cases h2 : ile (ofN k) (ofN n)
  · conv => cbv
    simp (disch := first | omega | (simp only [hS.glob, wraps, plain, Int.ofNat_eq_natCast]; omega)) only [hS.glob, wraps, plain, Int.ofNat_eq_natCast] at h2
    have hall : ∀ j, 1 ≤ j → j ≤ 4 → ¬ fitsK n g j := fun j h3 h4 h5 => by
      rcases Nat.lt_or_ge j k with h6 | h6
      · exact hnf j h3 h6 h5
      · have := h5.1; omega
    rw [hQ]
    exact ⟨rfl, .inl ⟨by rw [hA]; exact fits_none n g hg hall, rfl⟩⟩
  conv => cbv
  simp (disch := first | omega | (simp only [hS.glob, wraps, plain, Int.ofNat_eq_natCast]; omega)) only [hS.glob, wraps, plain, Int.ofNat_eq_natCast] at h2
  repeat (refine ⟨by first | (rw [hW]; show ordOk _ _ _ = true; kernel_rfl) | (first | trivial | omega | (simp (disch := omega) only [hS.glob, wraps, plain, Int.ofNat_eq_natCast]; first | done | omega | trivial | (simp; done) | (simp; omega) | (constructor <;> omega)) | (simp (disch := omega) only [hS.glob, wraps, plain, Int.ofNat_eq_natCast, Vx.toN]; omega)), ?_⟩)
  simp only [z0]
  have hg0 := hg 0 (by omega)
  have e0 : iconv .i64 (g 0) = g 0 := by (first | rfl | omega | (simp (disch := omega) only [hS.glob, wraps, plain, Int.ofNat_eq_natCast]; first | done | rfl | omega | (simp; done) | (simp; omega)) | (simp (disch := omega) only [hS.glob, wraps, plain, Int.ofNat_eq_natCast, Vx.toN]; omega))
  have r2 : irem (g 0) 32 = g 0 % 32 := by (first | rfl | omega | (simp (disch := omega) only [hS.glob, wraps, plain, Int.ofNat_eq_natCast]; first | done | rfl | omega | (simp; done) | (simp; omega)) | (simp (disch := omega) only [hS.glob, wraps, plain, Int.ofNat_eq_natCast, Vx.toN]; omega))
  have r3 : irem (g 0) 16 = g 0 % 16 := by (first | rfl | omega | (simp (disch := omega) only [hS.glob, wraps, plain, Int.ofNat_eq_natCast]; first | done | rfl | omega | (simp; done) | (simp; omega)) | (simp (disch := omega) only [hS.glob, wraps, plain, Int.ofNat_eq_natCast, Vx.toN]; omega))
  have r4 : irem (g 0) 8 = g 0 % 8 := by (first | rfl | omega | (simp (disch := omega) only [hS.glob, wraps, plain, Int.ofNat_eq_natCast]; first | done | rfl | omega | (simp; done) | (simp; omega)) | (simp (disch := omega) only [hS.glob, wraps, plain, Int.ofNat_eq_natCast, Vx.toN]; omega))
  obtain ⟨F, hF⟩ : ∃ F, F = crF g k := ⟨_, rfl⟩
  have hB := crF_bound n g hg k (by omega)
  rw [← hF] at hB
  have hstep : ∀ i, F (i + 1) = 64 * F i + g (i + 1) % 64 := fun i => by rw [hF]; rfl
  simp only [e0]
  have hF0 : F 0 = if k = 1 then g 0 else if k = 2 then g 0 % 32 else if k = 3 then g 0 % 16 else g 0 % 8 := by rw [hF]; rfl
  have hk4 : k = 1 ∨ k = 2 ∨ k = 3 ∨ k = 4 := by omega
  obtain ⟨G, hG1, hGs, hGk, hGb⟩ : ∃ G : Nat → Int, G 1 = F 0 ∧ (∀ i, 1 ≤ i → G (i + 1) = 64 * G i + g i % 64) ∧ G k = crF g k (k - 1) ∧ (∀ i, 1 ≤ i → i ≤ 4 → 0 ≤ G i ∧ G i < 1000000000) := by
    refine ⟨fun i => F (i - 1), rfl, fun i hi => ?_, by rw [hF], fun i h6 h7 => ?_⟩
    · obtain ⟨q, rfl⟩ : ∃ q, i = q + 1 := ⟨i - 1, by omega⟩
      exact hstep q
    · rcases (by omega : i = 1 ∨ i = 2 ∨ i = 3 ∨ i = 4) with rfl | rfl | rfl | rfl
      · have := hB 0; simp at this ⊢; omega
      · have := hB 1; simp at this ⊢; omega
      · have := hB 2; simp at this ⊢; omega
      · have := hB 3; simp at this ⊢; omega
  cases h3 : ieq (ofN k) 2 <;> (conv => cbv) <;> (try (simp only [h3]; (conv => cbv))) <;> cases h4 : ieq (ofN k) 3 <;> (conv => cbv) <;> (try (simp only [h4]; (conv => cbv))) <;> cases h5 : ieq (ofN k) 4 <;> (conv => cbv) <;> (try (simp only [h5]; (conv => cbv)))
  all_goals simp only [hS.glob, plain] at h3 h4 h5
  all_goals try (exfalso; omega)
  all_goals
    repeat (refine ⟨by first | (rw [hW]; show ordOk _ _ _ = true; kernel_rfl) | (first | trivial | omega | (simp (disch := omega) only [hS.glob, wraps, plain, Int.ofNat_eq_natCast]; first | done | omega | trivial | (simp; done) | (simp; omega) | (constructor <;> omega)) | (simp (disch := omega) only [hS.glob, wraps, plain, Int.ofNat_eq_natCast, Vx.toN]; omega)), ?_⟩)
    rw [hVV]
    clear hVV hVA VV VA hW W
    refine V.to (s' := [(7, .int .i64 (ofN 1)), (6, .int .i64 (G 1)), (5, .int .i64 (ofN k)), (0, .rows 1 n (icol .u8 g))]) (H' := []) ?_ (by
      refine ⟨sti ?_, sti ?_, rfl, rfl, trivial⟩
      · (first | rfl | omega | (simp (disch := omega) only [hS.glob, wraps, plain, Int.ofNat_eq_natCast]; first | done | rfl | omega | (simp; done) | (simp; omega)) | (simp (disch := omega) only [hS.glob, wraps, plain, Int.ofNat_eq_natCast, Vx.toN]; omega))
      · rw [hG1, hF0]
        try simp only [r2, r3, r4]
        repeat' split
        all_goals omega) rfl trivial (by rw [hC]; simp)
    refine V.loop (γ := Nat) (fun i => 1 ≤ i ∧ i ≤ k) (fun i => [(7, .int .i64 (ofN i)), (6, .int .i64 (G i)), (5, .int .i64 (ofN k)), (0, .rows 1 n (icol .u8 g))]) (fun _ => []) (fun i => k - i) ?_ 1 ⟨by decide, by omega⟩
    rintro i ⟨hi1, hik⟩ hback2
    refine V.goF (by first | exact trivial | assumption) Try.func82 tl_ok mixed hS.ops [] 400 ?_
    intro VV VA W hVV hVA hW
    conv => cbv
    cases h6 : ilt (ofN i) (ofN k)
    · conv => cbv
      simp (disch := first | omega | (simp only [hS.glob, wraps, plain, Int.ofNat_eq_natCast]; omega)) only [hS.glob, wraps, plain, Int.ofNat_eq_natCast] at h6
      obtain rfl : i = k := by omega
      clear hback2
      rw [hVV]
      clear hVV hVA VV VA hW W
      obtain ⟨R, hR⟩ := bool_of (isSc (G i))
      refine V.call rfl rfl rfl rfl rfl Try.func85 rfl (by decide) [] (by simp) (by simp) (by (first | rfl | ((conv => cbv); (repeat' apply And.intro) <;> first | rfl | trivial | (first | rfl | omega | (simp (disch := omega) only [hS.glob, wraps, plain, Int.ofNat_eq_natCast]; first | done | rfl | omega | (simp; done) | (simp; omega)) | (simp (disch := omega) only [hS.glob, wraps, plain, Int.ofNat_eq_natCast, Vx.toN]; omega))))) rfl (f85_ok (G i) R hR) ?_
      rintro r Hc ⟨rfl, rfl⟩
      refine V.goF (by first | exact trivial | assumption) Try.func82 tl_ok mixed hS.ops [(16, .none)] 400 ?_
      intro VV VA W hVV hVA hW
      conv => cbv
      rw [hVV]
      clear hVV hVA VV VA hW W
      obtain ⟨B, hB2⟩ := bool_of (fitsK n g i)
      have hfit : B = true ↔ R = true ∧ enL (G i) = i ∧ ∀ j, j < i → enB (G i) j = g j := by
        rw [hB2, hR, hGk]
        unfold fitsK
        exact ⟨fun h => h.2, fun h => ⟨by omega, h⟩⟩
      refine V.to (s' := [(8, .bool R), (6, .int .i64 (G i)), (5, .int .i64 (ofN i)), (0, .rows 1 n (icol .u8 g))]) (H' := []) ?_ (by (repeat' first | exact trivial | rfl | (refine And.intro ?_ ?_) | (refine sti ?_; (first | rfl | omega | (simp (disch := omega) only [hS.glob, wraps, plain, Int.ofNat_eq_natCast]; first | done | rfl | omega | (simp; done) | (simp; omega)) | (simp (disch := omega) only [hS.glob, wraps, plain, Int.ofNat_eq_natCast, Vx.toN]; omega))) | (refine slq ?_ ?_ ?_ <;> (first | rfl | omega | (simp (disch := omega) only [hS.glob, wraps, plain, Int.ofNat_eq_natCast]; first | done | rfl | omega | (simp; done) | (simp; omega)) | (simp (disch := omega) only [hS.glob, wraps, plain, Int.ofNat_eq_natCast, Vx.toN]; omega))) | (refine ptq ?_ ?_ ?_ <;> (first | rfl | omega | (simp (disch := omega) only [hS.glob, wraps, plain, Int.ofNat_eq_natCast]; first | done | rfl | omega | (simp; done) | (simp; omega)) | (simp (disch := omega) only [hS.glob, wraps, plain, Int.ofNat_eq_natCast, Vx.toN]; omega))) | (refine blq ?_; (first | rfl | omega | (simp (disch := omega) only [hS.glob, wraps, plain, Int.ofNat_eq_natCast]; first | done | rfl | omega | (simp; done) | (simp; omega)) | (simp (disch := omega) only [hS.glob, wraps, plain, Int.ofNat_eq_natCast, Vx.toN]; omega))))) rfl trivial (by rw [hC]; simp)
      refine V.drawnK tl_ok mixed (.one 0 .none (.one 1 .none (.one 2 .none (.one 5 .none (.one 6 .none (.alt 3 (.one 4 .none (.one 7 .none (.one 8 .none (.one 9 .none (.one 10 .none .done))))) (.alt 7 (.one 8 .none (.one 3 .none (.one 4 .none (.one 9 .none (.one 10 .none .done))))) .none))))))) (fun s H => covers s [(61, .bool B), (6, .int .i64 (G i)), (5, .int .i64 (ofN i)), (0, .rows 1 n (icol .u8 g))] ∧ H = []) (by kernel_rfl) ?_ ?_
      · cases R
        · have hb0 : B = false := by
            cases B
            · rfl
            · have := (hfit.1 rfl).1; cases this
          rw [hb0]
          refine AnyT.goK tl_ok hS.ops ?_
          intro KK VA hKK hVA
          conv => cbv
          repeat' apply And.intro
          all_goals first | trivial | (rw [hKK]; refine ⟨?_, rfl⟩; (repeat' first | exact trivial | rfl | (refine And.intro ?_ ?_) | (refine sti ?_; (first | rfl | omega | (simp (disch := omega) only [hS.glob, wraps, plain, Int.ofNat_eq_natCast]; first | done | rfl | omega | (simp; done) | (simp; omega)) | (simp (disch := omega) only [hS.glob, wraps, plain, Int.ofNat_eq_natCast, Vx.toN]; omega))) | (refine slq ?_ ?_ ?_ <;> (first | rfl | omega | (simp (disch := omega) only [hS.glob, wraps, plain, Int.ofNat_eq_natCast]; first | done | rfl | omega | (simp; done) | (simp; omega)) | (simp (disch := omega) only [hS.glob, wraps, plain, Int.ofNat_eq_natCast, Vx.toN]; omega))) | (refine ptq ?_ ?_ ?_ <;> (first | rfl | omega | (simp (disch := omega) only [hS.glob, wraps, plain, Int.ofNat_eq_natCast]; first | done | rfl | omega | (simp; done) | (simp; omega)) | (simp (disch := omega) only [hS.glob, wraps, plain, Int.ofNat_eq_natCast, Vx.toN]; omega))) | (refine blq ?_; (first | rfl | omega | (simp (disch := omega) only [hS.glob, wraps, plain, Int.ofNat_eq_natCast]; first | done | rfl | omega | (simp; done) | (simp; omega)) | (simp (disch := omega) only [hS.glob, wraps, plain, Int.ofNat_eq_natCast, Vx.toN]; omega)))); done) | skip
        · have hsc := hR.1 rfl
          obtain ⟨e, he⟩ : ∃ e : Nat → Int, ∀ j, e j = enB (G i) j := ⟨_, fun _ => rfl⟩
          obtain ⟨q, hq⟩ : ∃ q, q = enL (G i) := ⟨_, rfl⟩
          have hby : ∀ m (f : Nat → Int), isBy m (icol .u8 f) := fun m f => by
            simp only [hS.glob]
            exact fun i _ => ⟨_, rfl⟩
          have her : ∀ j, j < q → 0 ≤ e j ∧ e j ≤ 255 := fun j hj => by
            rw [he]
            have := hsc.2.1
            have := hsc.1
            unfold enB
            repeat' split
            all_goals omega
          have hbool : sseq (bstr q (icol .u8 e)) (bstr i (icol .u8 g)) = B := by
            have key := bstr_eq q i e g her (fun j hj => hg j (by omega))
            simp only [hS.glob]
            have k2 : B = true ↔ q = i ∧ ∀ j, j < q → e j = g j := by
              rw [hfit, ← hq]
              constructor
              · rintro ⟨_, h7, h8⟩; exact ⟨h7, fun j hj => by rw [he]; exact h8 j (by omega)⟩
              · rintro ⟨h7, h8⟩; exact ⟨rfl, h7, fun j hj => by rw [← he]; exact h8 j (by omega)⟩
            have e5 : (Vx.bstr q (icol .u8 e)) = bstrF q (icol .u8 e) := rfl
            have e6 : (Vx.bstr i (icol .u8 g)) = bstrF i (icol .u8 g) := rfl
            rw [e5, e6]
            cases B
            · cases hx : Vx.sseq (bstrF q (icol .u8 e)) (bstrF i (icol .u8 g))
              · rfl
              · exact absurd (k2.2 (key.1 hx)) (by decide)
            · exact key.2 (k2.1 rfl)
          have h47 := f86_ok (G i) ⟨hsc.1, hsc.2.1⟩ q hq e he
          refine AnyT.goK tl_ok hS.ops ?_
          intro KK VA hKK hVA
          conv => cbv
          repeat' apply And.intro
          all_goals first | trivial | (simp only [hS.glob, plain]; omega) | exact hby _ _ | skip
          all_goals
            rw [hVA]
            clear hKK hVA KK VA
            refine AnyT.call rfl rfl rfl rfl rfl Try.func86 rfl (by decide) [] (by simp) (by simp) (by (first | rfl | ((conv => cbv); (repeat' apply And.intro) <;> first | rfl | trivial | (first | rfl | omega | (simp (disch := omega) only [hS.glob, wraps, plain, Int.ofNat_eq_natCast]; first | done | rfl | omega | (simp; done) | (simp; omega)) | (simp (disch := omega) only [hS.glob, wraps, plain, Int.ofNat_eq_natCast, Vx.toN]; omega))))) rfl h47 ?_
            rintro r Hc ⟨rfl, rfl⟩
            refine AnyT.goK tl_ok hS.ops ?_
            intro KK VA hKK hVA
            conv => cbv
            repeat' apply And.intro
            all_goals first | trivial | (simp only [hS.glob, plain]; omega) | exact hby _ _ | ((try simp only [hS.tidy]); rw [hKK]; refine ⟨⟨blq ?_, rfl, rfl, rfl, trivial⟩, rfl⟩; exact hbool) | skip
            all_goals done
      rintro s H ⟨hcov, rfl⟩
      refine V.to (s' := [(61, .bool B), (6, .int .i64 (G i)), (5, .int .i64 (ofN i)), (0, .rows 1 n (icol .u8 g))]) (H' := []) ?_ hcov rfl trivial (by rw [hC]; simp)
      clear hcov
      refine V.goF (by first | exact trivial | assumption) Try.func82 tl_ok mixed hS.ops [] 400 ?_
      intro VV VA W hVV hVA hW
      conv => cbv
      cases B
      · conv => cbv
        rw [hVV]
        clear hVV hVA VV VA hW W
        refine V.to (hback (i + 1) ⟨by omega, by omega, fun j h7 h8 => ?_⟩ (by omega)) (by (repeat' first | exact trivial | rfl | (refine And.intro ?_ ?_) | (refine sti ?_; (first | rfl | omega | (simp (disch := omega) only [hS.glob, wraps, plain, Int.ofNat_eq_natCast]; first | done | rfl | omega | (simp; done) | (simp; omega)) | (simp (disch := omega) only [hS.glob, wraps, plain, Int.ofNat_eq_natCast, Vx.toN]; omega))) | (refine slq ?_ ?_ ?_ <;> (first | rfl | omega | (simp (disch := omega) only [hS.glob, wraps, plain, Int.ofNat_eq_natCast]; first | done | rfl | omega | (simp; done) | (simp; omega)) | (simp (disch := omega) only [hS.glob, wraps, plain, Int.ofNat_eq_natCast, Vx.toN]; omega))) | (refine ptq ?_ ?_ ?_ <;> (first | rfl | omega | (simp (disch := omega) only [hS.glob, wraps, plain, Int.ofNat_eq_natCast]; first | done | rfl | omega | (simp; done) | (simp; omega)) | (simp (disch := omega) only [hS.glob, wraps, plain, Int.ofNat_eq_natCast, Vx.toN]; omega))) | (refine blq ?_; (first | rfl | omega | (simp (disch := omega) only [hS.glob, wraps, plain, Int.ofNat_eq_natCast]; first | done | rfl | omega | (simp; done) | (simp; omega)) | (simp (disch := omega) only [hS.glob, wraps, plain, Int.ofNat_eq_natCast, Vx.toN]; omega))))) rfl trivial (by rw [hC]; simp)
        rcases Nat.lt_or_ge j i with h9 | h9
        · exact hnf j h7 h9
        · obtain rfl : j = i := by omega
          exact fun h10 => by have := hB2.2 h10; cases this
      · conv => cbv
        rw [hQ]
        exact ⟨rfl, .inr ⟨G i, i, ofN i, by rw [hA, fits_some n g hg i hk4 (hB2.1 rfl), hGk], by (first | rfl | omega | (simp (disch := omega) only [hS.glob, wraps, plain, Int.ofNat_eq_natCast]; first | done | rfl | omega | (simp; done) | (simp; omega)) | (simp (disch := omega) only [hS.glob, wraps, plain, Int.ofNat_eq_natCast, Vx.toN]; omega)), rfl⟩⟩
    · conv => cbv
      simp (disch := first | omega | (simp only [hS.glob, wraps, plain, Int.ofNat_eq_natCast]; omega)) only [hS.glob, wraps, plain, Int.ofNat_eq_natCast] at h6
      repeat (refine ⟨by first | (rw [hW]; show ordOk _ _ _ = true; kernel_rfl) | (first | trivial | omega | (simp (disch := omega) only [hS.glob, wraps, plain, Int.ofNat_eq_natCast]; first | done | omega | trivial | (simp; done) | (simp; omega) | (constructor <;> omega)) | (simp (disch := omega) only [hS.glob, wraps, plain, Int.ofNat_eq_natCast, Vx.toN]; omega)), ?_⟩)
      simp only [hS.tidy]
      have hgi := hg i (by omega)
      have hbi := hGb i hi1 (by omega)
      have hGs2 := hGs i hi1
      have e1 : iadd .i64 (imul .i64 64 (G i)) (irem (iconv .i64 (g i)) 64) = G (i + 1) := by
        have q1 : iconv .i64 (g i) = g i := by (first | rfl | omega | (simp (disch := omega) only [hS.glob, wraps, plain, Int.ofNat_eq_natCast]; first | done | rfl | omega | (simp; done) | (simp; omega)) | (simp (disch := omega) only [hS.glob, wraps, plain, Int.ofNat_eq_natCast, Vx.toN]; omega))
        rw [q1]
        (first | rfl | omega | (simp (disch := omega) only [hS.glob, wraps, plain, Int.ofNat_eq_natCast]; first | done | rfl | omega | (simp; done) | (simp; omega)) | (simp (disch := omega) only [hS.glob, wraps, plain, Int.ofNat_eq_natCast, Vx.toN]; omega))
      simp only [e1]
      rw [hVV]
      clear hVV hVA VV VA hW W
      exact V.to (hback2 (i + 1) ⟨by omega, by omega⟩ (by omega)) (by (repeat' first | exact trivial | rfl | (refine And.intro ?_ ?_) | (refine sti ?_; (first | rfl | omega | (simp (disch := omega) only [hS.glob, wraps, plain, Int.ofNat_eq_natCast]; first | done | rfl | omega | (simp; done) | (simp; omega)) | (simp (disch := omega) only [hS.glob, wraps, plain, Int.ofNat_eq_natCast, Vx.toN]; omega))) | (refine slq ?_ ?_ ?_ <;> (first | rfl | omega | (simp (disch := omega) only [hS.glob, wraps, plain, Int.ofNat_eq_natCast]; first | done | rfl | omega | (simp; done) | (simp; omega)) | (simp (disch := omega) only [hS.glob, wraps, plain, Int.ofNat_eq_natCast, Vx.toN]; omega))) | (refine ptq ?_ ?_ ?_ <;> (first | rfl | omega | (simp (disch := omega) only [hS.glob, wraps, plain, Int.ofNat_eq_natCast]; first | done | rfl | omega | (simp; done) | (simp; omega)) | (simp (disch := omega) only [hS.glob, wraps, plain, Int.ofNat_eq_natCast, Vx.toN]; omega))) | (refine blq ?_; (first | rfl | omega | (simp (disch := omega) only [hS.glob, wraps, plain, Int.ofNat_eq_natCast]; first | done | rfl | omega | (simp; done) | (simp; omega)) | (simp (disch := omega) only [hS.glob, wraps, plain, Int.ofNat_eq_natCast, Vx.toN]; omega))))) rfl trivial (by rw [hC]; simp)
end Go.Proofs.Ytngagepodbcohaa

/- The scalars of bytes, by the document. -/
namespace Go.Proofs.Ytngagepodbcohaa
open Go Vx
set_option maxRecDepth 100000
theorem f72_ok (n : Nat) (hn : n ≤ 1000000000000) (g : Nat → Int) (hg : ∀ i, i < n → 0 ≤ g i ∧ g i ≤ 255) (D : Option (List Int)) (hD : D = decU n g) : FSpec Try.prog 72 [.rows 1 n (icol .u8 g)] [] (DecR D) := by
  obtain ⟨Q, hQ⟩ : ∃ Q : AV → Hp → Prop, Q = DecR D := ⟨_, rfl⟩
  refine (show FSpec Try.prog 72 [.rows 1 n (icol .u8 g)] [] (fun r H' => Q r H' ∨ D = none ∧ r = .tup [.nil .slice, .int .i64 11]) from ?_).weaken ?_
  case refine_2 =>
    rintro r H' (h | ⟨h, rfl⟩)
    · rw [hQ] at h
      rcases h with ⟨h1, rfl, rfl⟩ | ⟨m, l, h1, rfl, rfl⟩
      · exact ⟨[], trivial, rfl, Nat.le_refl _, .inl ⟨h1, rfl, rfl⟩⟩
      · exact ⟨[some ⟨3, 1, .arr m (icol .i64 l)⟩], ⟨⟨rfl, rfl, ⟨Nat.le_refl _, fun _ _ => rfl⟩, rfl⟩, trivial⟩, rfl, Nat.zero_le _, .inr ⟨m, l, h1, rfl, rfl⟩⟩
    · exact ⟨[], by cases H' <;> simp [heapCov], rfl, Nat.le_refl _, .inl ⟨h, rfl, rfl⟩⟩
  refine FSpec.of (fn := Try.f72) Try.func72 rfl rfl (by simp) fun C hC => ?_
  obtain ⟨iadd, isub, imul, iquo, irem, iband, ibor, ibxor, ibandn, ishl, ishr, iconv, ieq, ine, ilt, ile, igt, ige, bbeq, bbne, bnot, bband, sseq, ssne, sscat, sssub, sslen, sssz, ssbyte, toN, ofN, addN, subN, eqN, ltB, leN, imx, imn, inb, leb, sslt, ltN, fit, ne0, ge0, ssfit, minN, inR, bcol, bstr, isBy, hS⟩ := names
  refine V.goF (by first | exact trivial | assumption) Try.func72 tl_ok mixed hS.ops [] 400 ?_
  intro VV VA W hVV hVA hW
  conv => cbv
  rw [hVV]
  clear hVV hVA VV VA hW W
  refine V.phantom 4 3 1 (icol .i64 (fun _ => 0)) rfl ?_
  refine V.to (s' := [(5, .int .i64 (ofN 0)), (4, .sl 0 0 0), (0, .rows 1 n (icol .u8 g))]) (H' := [some ⟨3, 1, .arr 0 (icol .i64 (fun _ => 0))⟩]) ?_ (by (repeat' first | exact trivial | rfl | (refine And.intro ?_ ?_) | (refine sti ?_; (first | rfl | omega | (simp (disch := omega) only [hS.glob, wraps, plain, Int.ofNat_eq_natCast]; first | done | rfl | omega | (simp; done) | (simp; omega)) | (simp (disch := omega) only [hS.glob, wraps, plain, Int.ofNat_eq_natCast, Vx.toN]; omega))) | (refine slq ?_ ?_ ?_ <;> (first | rfl | omega | (simp (disch := omega) only [hS.glob, wraps, plain, Int.ofNat_eq_natCast]; first | done | rfl | omega | (simp; done) | (simp; omega)) | (simp (disch := omega) only [hS.glob, wraps, plain, Int.ofNat_eq_natCast, Vx.toN]; omega))) | (refine ptq ?_ ?_ ?_ <;> (first | rfl | omega | (simp (disch := omega) only [hS.glob, wraps, plain, Int.ofNat_eq_natCast]; first | done | rfl | omega | (simp; done) | (simp; omega)) | (simp (disch := omega) only [hS.glob, wraps, plain, Int.ofNat_eq_natCast, Vx.toN]; omega))) | (refine blq ?_; (first | rfl | omega | (simp (disch := omega) only [hS.glob, wraps, plain, Int.ofNat_eq_natCast]; first | done | rfl | omega | (simp; done) | (simp; omega)) | (simp (disch := omega) only [hS.glob, wraps, plain, Int.ofNat_eq_natCast, Vx.toN]; omega))))) rfl (by (repeat' first | exact trivial | rfl | exact Nat.le_refl _ | exact (fun _ _ => rfl) | (refine And.intro ?_ ?_) | (simp only [hS.glob, plain]; first | done | omega))) (by rw [hC]; simp)
  refine V.loop (γ := Nat × Nat × (Nat → Int) × Nat) (fun q => q.1 ≤ n ∧ n - q.1 ≤ q.2.2.2 ∧ q.2.1 ≤ q.1 ∧ D = (decF n g q.2.2.2 q.1).map (tab q.2.1 q.2.2.1 ++ ·))
    (fun q => [(5, .int .i64 (ofN q.1)), (4, .sl 0 0 q.2.1), (0, .rows 1 n (icol .u8 g))]) (fun q => [some ⟨3, 1, .arr q.2.1 (icol .i64 q.2.2.1)⟩])
    (fun q => n - q.1) ?_ (0, 0, (fun _ => 0), n) ⟨Nat.zero_le _, Nat.le_refl _, Nat.le_refl _, by rw [hD]; unfold decU; cases decF n g n 0 <;> rfl⟩
  clear hD
  rintro ⟨p, m, l, f⟩ ⟨hp, hf, hm, hD⟩ hback
  dsimp only at hp hf hm hD hback ⊢
  refine V.goF (by first | exact trivial | assumption) Try.func72 tl_ok mixed hS.ops [] 400 ?_
  intro VV VA W hVV hVA hW
  conv => cbv
  cases h1 : ilt (ofN p) (ofN n)
  · conv => cbv
    simp (disch := first | omega | (simp only [hS.glob, wraps, plain, Int.ofNat_eq_natCast]; omega)) only [hS.glob, wraps, plain, Int.ofNat_eq_natCast] at h1
    rw [hQ]
    exact .inl (.inr ⟨m, l, by rw [hD, decF_end (by omega)]; simp, rfl, rfl⟩)
  · conv => cbv
    simp (disch := first | omega | (simp only [hS.glob, wraps, plain, Int.ofNat_eq_natCast]; omega)) only [hS.glob, wraps, plain, Int.ofNat_eq_natCast] at h1
    repeat (refine ⟨by first | (rw [hW]; show ordOk _ _ _ = true; kernel_rfl) | (first | trivial | omega | (simp (disch := omega) only [hS.glob, wraps, plain, Int.ofNat_eq_natCast]; first | done | omega | trivial | (simp; done) | (simp; omega) | (constructor <;> omega)) | (simp (disch := omega) only [hS.glob, wraps, plain, Int.ofNat_eq_natCast, Vx.toN]; omega)), ?_⟩)
    rw [hVV]
    clear hVV hVA VV VA hW W
    obtain ⟨h, hh⟩ : ∃ h : Nat → Int, h = fun j => g (p + j) := ⟨_, rfl⟩
    obtain ⟨w, hw⟩ : ∃ w, w = n - p := ⟨_, rfl⟩
    obtain ⟨A, hA⟩ : ∃ A, A = nextU w h := ⟨_, rfl⟩
    have hA2 : A = nextU (n - p) (fun j => g (p + j)) := by rw [hA, hh, hw]
    obtain ⟨f', hno, hyes⟩ := decF_step (g := g) (f := f) (p := p) (n := n) (by omega) hf
    refine V.to (s' := [(16, .rows 1 w (icol .u8 h)), (5, .int .i64 (ofN p)), (4, .sl 0 0 m), (0, .rows 1 n (icol .u8 g))]) (H' := [some ⟨3, 1, .arr m (icol .i64 l)⟩]) ?_ (by
      refine ⟨rwq ?_ (fun j => icq ?_), rfl, rfl, rfl, trivial⟩
      · rw [hw]; simp only [hS.glob, plain]
      · rw [hh]; simp only [hS.glob, plain]) rfl (by (repeat' first | exact trivial | rfl | exact Nat.le_refl _ | exact (fun _ _ => rfl) | (refine And.intro ?_ ?_) | (simp only [hS.glob, plain]; first | done | omega))) (by rw [hC]; simp)
    refine V.call rfl rfl rfl rfl rfl Try.func82 rfl (by decide) [] (by simp) (by simp) (by (first | rfl | ((conv => cbv); (repeat' apply And.intro) <;> first | rfl | trivial | (first | rfl | omega | (simp (disch := omega) only [hS.glob, wraps, plain, Int.ofNat_eq_natCast]; first | done | rfl | omega | (simp; done) | (simp; omega)) | (simp (disch := omega) only [hS.glob, wraps, plain, Int.ofNat_eq_natCast, Vx.toN]; omega))))) rfl (f82_ok w (by omega) h (fun i hi => by rw [hh]; exact hg _ (by omega)) A hA) ?_
    rintro r Hc ⟨rfl, ⟨hno2, rfl⟩ | ⟨c, k, z, hs, hz, rfl⟩⟩
    · refine V.goF (by first | exact trivial | assumption) Try.func72 tl_ok mixed hS.ops [] 400 ?_
      intro VV VA W hVV hVA hW
      conv => cbv
      have el0 : ine 11 0 = true := by (first | rfl | omega | (simp (disch := omega) only [hS.glob, wraps, plain, Int.ofNat_eq_natCast]; first | done | rfl | omega | (simp; done) | (simp; omega)) | (simp (disch := omega) only [hS.glob, wraps, plain, Int.ofNat_eq_natCast, Vx.toN]; omega))
      simp only [el0]
      clear el0
      conv => cbv
      exact .inr ⟨by rw [hD, hno (hA2.symm.trans hno2)]; rfl, rfl⟩
    · refine V.goF (by first | exact trivial | assumption) Try.func72 tl_ok mixed hS.ops [] 400 ?_
      intro VV VA W hVV hVA hW
      conv => cbv
      have el0 : ine 0 0 = false := by (first | rfl | omega | (simp (disch := omega) only [hS.glob, wraps, plain, Int.ofNat_eq_natCast]; first | done | rfl | omega | (simp; done) | (simp; omega)) | (simp (disch := omega) only [hS.glob, wraps, plain, Int.ofNat_eq_natCast, Vx.toN]; omega))
      simp only [el0]
      clear el0
      conv => cbv
      repeat (refine ⟨by first | (rw [hW]; show ordOk _ _ _ = true; kernel_rfl) | (first | trivial | omega | (simp (disch := omega) only [hS.glob, wraps, plain, Int.ofNat_eq_natCast]; first | done | omega | trivial | (simp; done) | (simp; omega) | (constructor <;> omega)) | (simp (disch := omega) only [hS.glob, wraps, plain, Int.ofNat_eq_natCast, Vx.toN]; omega)), ?_⟩)
      rw [hVV]
      clear hVV hVA VV VA hW W
      have hk := nextU_len (hA2.symm.trans hs)
      refine V.pick [2] (by decide) (by rw [hC]; exact begins_of rfl) (by rfl) (by rfl) ?_
      obtain ⟨l', e1, e2⟩ := snocF l m c
      refine V.to (hback (p + k, m + 1, l', f') ⟨by simp only; omega, (hyes c k (hA2.symm.trans hs)).2, by simp only; omega, ?_⟩ (by simp only; omega)) (by
        refine ⟨sti ?_, slq rfl rfl ?_, rfl, trivial⟩
        · simp only [hz]; (first | rfl | omega | (simp (disch := omega) only [hS.glob, wraps, plain, Int.ofNat_eq_natCast]; first | done | rfl | omega | (simp; done) | (simp; omega)) | (simp (disch := omega) only [hS.glob, wraps, plain, Int.ofNat_eq_natCast, Vx.toN]; omega))
        · (first | rfl | omega | (simp (disch := omega) only [hS.glob, wraps, plain, Int.ofNat_eq_natCast]; first | done | rfl | omega | (simp; done) | (simp; omega)) | (simp (disch := omega) only [hS.glob, wraps, plain, Int.ofNat_eq_natCast, Vx.toN]; omega))) rfl ⟨⟨rfl, rfl, ⟨by show m + 1 ≤ addN m 1; (first | trivial | omega | (simp (disch := omega) only [hS.glob, wraps, plain, Int.ofNat_eq_natCast]; first | done | omega | trivial | (simp; done) | (simp; omega) | (constructor <;> omega)) | (simp (disch := omega) only [hS.glob, wraps, plain, Int.ofNat_eq_natCast, Vx.toN]; omega)), fun j hj => leaf (by simp [hS.glob]) (by simp [hS.glob]) c l l' m e1 e2 j hj⟩, rfl⟩, trivial⟩ (by rw [hC]; simp)
      simp only
      rw [hD, (hyes c k (hA2.symm.trans hs)).1]
      have e3 := tab_snoc (n := m) (n' := m + 1) (f := l) (g := l') (a := c) rfl e1 e2
      rw [e3]
      cases decF n g f' (p + k) <;> simp
end Go.Proofs.Ytngagepodbcohaa
