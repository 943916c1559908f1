import Derived.Test.YtffahckigenfcaaW2
import Derived.Test.YtffahckigenfcaaM3
/- Cells, and a whole number's bits, walked. -/
namespace Go.Proofs.Ytffahckigenfcaa
open Go.ChangeShapes Go.WideShapes Go.ChangeAt Go.RowKit
set_option linter.unusedVariables false

def okC (x : Int) : Bool := decide (0 ≤ keyI x) && decide (keyI x ≤ 4634204016564240384)
def cellsI (x : Int) : Int := if okC x then (cellsN x.toNat : Int) else 0
def errI (x : Int) : Int := if okC x then 0 else 41

theorem key_num (x : Int) (h0 : 0 ≤ x) (h1 : x ≤ 18446744073709551615) (h : okC x = true) : num x.toNat := by
  unfold num
  simp only [okC, Bool.and_eq_true] at h
  have h3 := of_decide_eq_true h.1
  have h4 := of_decide_eq_true h.2
  unfold keyI at h3 h4
  split at h3 <;> omega
theorem ge_eq (x : Int) (h0 : 0 ≤ x) (h1 : x ≤ 18446744073709551615) : (FloatKind.f64.format.order x.toNat 0 == some .gt || FloatKind.f64.format.order x.toNat 0 == some .eq) = (decide (num x.toNat) && decide (0 ≤ keyI x)) := by
  rw [ord_f64]
  by_cases h : num x.toNat
  · have n0 : num 0 := by unfold num; omega
    rw [ord_gt _ _ h n0, ord_eq _ _ h n0, key_eq x h0 (by omega), show key 0 = 0 by decide]
    rw [Bool.eq_iff_iff]
    simp [h]; omega
  · rw [order_nan _ _ (.inl (by unfold num at h; omega))]; simp [h]
theorem le_eq (x : Int) (h0 : 0 ≤ x) (h1 : x ≤ 18446744073709551615) : (FloatKind.f64.format.order x.toNat 4634204016564240384 == some .lt || FloatKind.f64.format.order x.toNat 4634204016564240384 == some .eq) = (decide (num x.toNat) && decide (keyI x ≤ 4634204016564240384)) := by
  rw [ord_f64]
  by_cases h : num x.toNat
  · have n0 : num 4634204016564240384 := by unfold num; omega
    rw [ord_lt _ _ h n0, ord_eq _ _ h n0, key_eq x h0 (by omega), show key 4634204016564240384 = 4634204016564240384 by decide +kernel]
    rw [Bool.eq_iff_iff]
    simp [h]; omega
  · rw [order_nan _ _ (.inl (by unfold num at h; omega))]; simp [h]

attribute [local irreducible] FloatKind.decode in
theorem integral_run (b : Nat) (s : Bool) (m : Nat) (p : Int) (hd : FloatKind.f64.decode b = .number s m p) : (Extern.MathFloor.toIntegral "math.archCeil" .up #[.float .f64 b]) = pure (.float .f64 (ceilB b)) := by
  have hc : ceilB b = FloatKind.f64.encode ((Ieee.Datum.number s m p).integral .up) := by rw [← hd]; unfold FloatKind.decode; rfl
  rw [hc]
  conv => lhs; whnf
  simp only [hd]
theorem ceil34 (b : Nat) (w : World) (h : ∃ s m p, Ieee.double.read b = .number s m p) : (callFunc 34 #[.float .f64 b]).run Try.prog w = .ok (.value (.float .f64 (ceilB b))) w := by
  obtain ⟨s, m, p, h⟩ := h
  have hd : FloatKind.f64.decode b = .number s m p := h
  rw [call34]
  rw [integral_run b s m p hd]
  rfl
theorem ceil_any (b : Nat) (w : World) (h : ∃ s m p, Ieee.double.read b = .number s m p) : Calls Try.prog 23 #[.float .f64 b] w fun e w' => e = .returned (.float .f64 (ceilB b)) ∧ w' = w := by
  have h34 := fun w => ceil34 b w h
  clear h
  go_enter Try.func23, Try.ntmps23
  go_wp2
  go_ret
  exact ⟨rfl, rfl⟩
theorem conv_ceil (b n : Nat) (w : World) (h : (Ieee.double.read b).toInt .zero = some (n : Int)) (hn : n ≤ 64) : (convert 39 3 (.float .f64 b)).run Try.prog w = .ok (.int .i64 n) w := by
  refine run_convert_float_int w 39 3 .f64 .i64 b n (by kernel_rfl) Try.underlying3 ?_
  unfold floatToIntVal
  have : (FloatKind.f64.decode b).toInt .zero = some (n : Int) := h
  rw [this]
  simp only
  rw [if_pos]
  have e1 : IntKind.min .i64 = -9223372036854775808 := rfl
  have e2 : IntKind.max .i64 = 9223372036854775807 := rfl
  rw [e1, e2]
  omega
theorem okC_eq (x : Int) (h0 : 0 ≤ x) (h1 : x ≤ 18446744073709551615) : okC x = ((FloatKind.f64.format.order x.toNat 0 == some .gt || FloatKind.f64.format.order x.toNat 0 == some .eq) && (FloatKind.f64.format.order x.toNat 4634204016564240384 == some .lt || FloatKind.f64.format.order x.toNat 4634204016564240384 == some .eq)) := by
  rw [ge_eq x h0 h1, le_eq x h0 h1]
  cases hc : okC x with
  | true =>
    have hn := key_num x h0 h1 hc
    simp only [okC, Bool.and_eq_true] at hc
    simp [hn, hc.1, hc.2]
  | false =>
    simp only [okC] at hc
    cases h : decide (num x.toNat)
    · simp
    · simp only [Bool.true_and]; exact hc.symm
theorem cells_ok (x : Int) (c d : Nat) (w : World) (A B C D : Bool) (hA : (FloatKind.f64.format.order x.toNat 0 == some .gt) = A) (hB : (FloatKind.f64.format.order x.toNat 0 == some .eq) = B) (hC : (FloatKind.f64.format.order x.toNat 4634204016564240384 == some .lt) = C) (hD : (FloatKind.f64.format.order x.toNat 4634204016564240384 == some .eq) = D)
    (hok : ((A || B) && (C || D)) = true) (cv : ∀ w, (convert 39 3 (.float .f64 d)).run Try.prog w = .ok (.int .i64 c) w) (HC : Hid (∀ w, Calls Try.prog 23 #[.float .f64 x.toNat] w fun e w' => e = .returned (.float .f64 d) ∧ w' = w)) :
    Calls Try.prog 8 #[.int .u64 x] w fun e w' => e = .returned (.tuple #[.int .i64 c, .int .i64 0]) ∧ w' = w := by
  have h22 := call22
  cases A <;> cases B <;> cases C <;> cases D
  all_goals first | (simp at hok; done) | skip
  all_goals clear hok
  all_goals
    go_enter Try.func8, Try.ntmps8
    go_wp2_with (go_at_call 23; refine (HC.out _).mono ?_; rintro e' w' ⟨rfl, rfl⟩)
    go_ret2
    exact ⟨rfl, rfl⟩
theorem cells_no (x : Int) (w : World) (A B C D : Bool) (hA : (FloatKind.f64.format.order x.toNat 0 == some .gt) = A) (hB : (FloatKind.f64.format.order x.toNat 0 == some .eq) = B) (hC : (FloatKind.f64.format.order x.toNat 4634204016564240384 == some .lt) = C) (hD : (FloatKind.f64.format.order x.toNat 4634204016564240384 == some .eq) = D)
    (hok : ((A || B) && (C || D)) = false) :
    Calls Try.prog 8 #[.int .u64 x] w fun e w' => e = .returned (.tuple #[.int .i64 0, .int .i64 41]) ∧ w' = w := by
  have h22 := call22
  cases A <;> cases B <;> cases C <;> cases D
  all_goals first | (simp at hok; done) | skip
  all_goals clear hok
  all_goals
    go_enter Try.func8, Try.ntmps8
    go_wp2_with fail
    go_ret2
    exact ⟨rfl, rfl⟩
theorem cells_any (x : Int) (h0 : 0 ≤ x) (h1 : x ≤ 18446744073709551615) (w : World) : Calls Try.prog 8 #[.int .u64 x] w fun e w' => e = .returned (.tuple #[.int .i64 (cellsI x), .int .i64 (errI x)]) ∧ w' = w := by
  have he := okC_eq x h0 h1
  cases hc : okC x with
  | true =>
    rw [hc] at he
    have hk : x.toNat = 0 ∨ x.toNat = 9223372036854775808 ∨ (0 < x.toNat ∧ x.toNat ≤ 4634204016564240384) := by
      have hc' := hc
      simp only [okC, Bool.and_eq_true] at hc'
      have h3 := of_decide_eq_true hc'.1
      have h4 := of_decide_eq_true hc'.2
      unfold keyI at h3 h4
      split at h3 <;> omega
    obtain ⟨r1, r2, r3⟩ := ceil_run x.toNat hk
    have hI : cellsI x = (cellsN x.toNat : Int) := by simp [cellsI, hc]
    have hE : errI x = 0 := by simp [errI, hc]
    rw [hI, hE]
    exact cells_ok x (cellsN x.toNat) (ceilB x.toNat) w _ _ _ _ rfl rfl rfl rfl he.symm (fun w => conv_ceil (ceilB x.toNat) (cellsN x.toNat) w r2 r3) (Lib.hid (fun w => ceil_any x.toNat w r1))
  | false =>
    rw [hc] at he
    have hI : cellsI x = 0 := by simp [cellsI, hc]
    have hE : errI x = 41 := by simp [errI, hc]
    rw [hI, hE]
    exact cells_no x w _ _ _ _ rfl rfl rfl rfl he.symm
end Go.Proofs.Ytffahckigenfcaa
