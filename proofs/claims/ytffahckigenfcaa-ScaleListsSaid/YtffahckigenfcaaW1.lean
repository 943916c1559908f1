import Derived.Test.YtffahckigenfcaaRows
import Derived.Test.YtffahckigenfcaaM2
import Derived.WalkKit
import Derived.ProofKit
import Derived.OpenShut
import Derived.Laws.Cover2
import Derived.Laws.Externs
import Derived.Outline
import Derived.Lib.Hide
import Derived.Deep.RegionWith
/- What the functions of 'scale' and their callees compute, in the words of the float's order. -/
namespace Go.Proofs.Ytffahckigenfcaa
open Go.ChangeShapes Go.WideShapes Go.ChangeAt Go.RowKit
set_option linter.unusedVariables false

theorem call22 (n : Int) (w : World) : (callFunc 22 #[.int .u64 n]).run Try.prog w = .ok (.value (.float .f64 n.toNat)) w := by
  rw [run_callFunc_extern (e := Extern.MathFloatBits.float64frombits) Try.func22 (by kernel_rfl) (by kernel_rfl) (by kernel_rfl) (by kernel_rfl)]
  rfl
theorem call25 (n : Nat) (w : World) : (callFunc 25 #[.float .f64 n]).run Try.prog w = .ok (.value (.int .u64 n)) w := by
  rw [run_callFunc_extern (e := Extern.MathFloatBits.float64bits) Try.func25 (by kernel_rfl) (by kernel_rfl) (by kernel_rfl) (by kernel_rfl)]
  rfl
theorem call34 (n : Nat) (w : World) : (callFunc 34 #[.float .f64 n]).run Try.prog w = ((Extern.MathFloor.toIntegral "math.archCeil" .up #[.float .f64 n]).run Try.prog w).andThen fun v w' => .ok (.value v) w' := by
  rw [run_callFunc_extern (e := Extern.MathFloor.toIntegral "math.archCeil" .up) Try.func34 (by kernel_rfl) (by kernel_rfl) (by kernel_rfl) (by kernel_rfl)]
theorem neg_any (b : Nat) (w : World) : (Op.unary .neg (.float .f64 b)).run Try.prog w = .ok (.float .f64 (b ^^^ 2 ^ 63)) w := rfl

theorem isnan_any (b : Nat) (w : World) : Calls Try.prog 26 #[.float .f64 b] w fun e w' => e = .returned (.bool (FloatKind.f64.format.order b b != some .eq)) ∧ w' = w := by
  go_enter Try.func26, Try.ntmps26
  go_wp2
  go_ret
  exact ⟨rfl, rfl⟩
theorem isnan38_any (b : Nat) (w : World) : Calls Try.prog 38 #[.float .f64 b] w fun e w' => e = .returned (.bool (FloatKind.f64.format.order b b != some .eq)) ∧ w' = w := by
  go_enter Try.func38, Try.ntmps38
  go_wp2
  go_ret
  exact ⟨rfl, rfl⟩
theorem isinf_up (b : Nat) (w : World) : Calls Try.prog 27 #[.float .f64 b, .int .i64 1] w fun e w' => e = .returned (.bool (FloatKind.f64.format.order b 9218868437227405311 == some .gt)) ∧ w' = w := by
  go_enter Try.func27, Try.ntmps27
  go_wp2
  go_ret
  exact ⟨rfl, rfl⟩
theorem isinf_down (b : Nat) (w : World) : Calls Try.prog 27 #[.float .f64 b, .int .i64 (-1)] w fun e w' => e = .returned (.bool (FloatKind.f64.format.order (b ^^^ 2 ^ 63) 9218868437227405311 == some .gt)) ∧ w' = w := by
  have hn := neg_any
  go_enter Try.func27, Try.ntmps27
  go_wp2
  go_ret
  exact ⟨rfl, rfl⟩
theorem signbit_any (b : Nat) (w : World) : Calls Try.prog 28 #[.float .f64 b] w fun e w' => e = .returned (.bool (decide (wrap64 b < 0))) ∧ w' = w := by
  have h25 := call25
  go_enter Try.func28, Try.ntmps28
  go_wp2
  go_ret
  exact ⟨rfl, rfl⟩
theorem ret_int {k : IntKind} {a b : Int} (h : a = b) : Ending.returned (.int k a) = .returned (.int k b) := by rw [h]
theorem sort_any (n : Int) (w : World) : Calls Try.prog 13 #[.int .u64 n] w fun e w' => e = .returned (.int .i64 (srtB n.toNat)) ∧ w' = w := by
  have h22 := call22
  go_enter Try.func13, Try.ntmps13
  go_wp2_with (first
    | (go_at_call 26; refine (isnan_any _ _).mono ?_; rintro e w' ⟨rfl, rfl⟩)
    | (go_at_call 28; refine (signbit_any _ _).mono ?_; rintro e w' ⟨rfl, rfl⟩)
    | (go_at_call 27; (with_reducible refine (isinf_up _ _).mono ?_); rintro e w' ⟨rfl, rfl⟩)
    | (go_at_call 27; (with_reducible refine (isinf_down _ _).mono ?_); rintro e w' ⟨rfl, rfl⟩))
  all_goals go_ret
  all_goals exact ⟨ret_int (by simp [srtB, *]), rfl⟩

theorem sort_srt (x : Int) (h0 : 0 ≤ x) (h1 : x ≤ 18446744073709551615) (w : World) : Calls Try.prog 13 #[.int .u64 x] w fun e w' => e = .returned (.int .i64 (srt x)) ∧ w' = w := by
  have := sort_any x w
  rwa [srtB_eq x h0 (by omega)] at this
theorem parts_any (x : Int) (h0 : 0 ≤ x) (h1 : x ≤ 18446744073709551615) (w : World) : Calls Try.prog 24 #[.int .u64 x] w fun e w' => e = .returned (.tuple #[.int .u64 (x / 9223372036854775808), .int .i64 (x / 4503599627370496 % 2048), .int .u64 (x % 4503599627370496)]) ∧ w' = w := by
  go_enter Try.func24, Try.ntmps24
  go_wp2
  go_ret3
  exact ⟨rfl, rfl⟩
theorem ord_f64 : FloatKind.f64.format = Ieee.double := rfl
def srtP (s e f : Int) : Int := if e = 2047 then (if 0 < f then 0 else if s = 1 then 1 else 6) else if e = 0 then (if f = 0 then 4 - s else 5 - 3 * s) else 5 - 3 * s
theorem srtP_eq (x : Int) (h0 : 0 ≤ x) (h1 : x ≤ 18446744073709551615) : srtP (x / 9223372036854775808) (x / 4503599627370496 % 2048) (x % 4503599627370496) = srt x := by
  unfold srtP srt
  (repeat' split) <;> omega
theorem parts_of (x s e f : Int) (h0 : 0 ≤ x) (h1 : x ≤ 18446744073709551615) (hs : s = x / 9223372036854775808) (he : e = x / 4503599627370496 % 2048) (hf : f = x % 4503599627370496) (w : World) :
    Calls Try.prog 24 #[.int .u64 x] w fun e' w' => e' = .returned (.tuple #[.int .u64 s, .int .i64 e, .int .u64 f]) ∧ w' = w := by
  subst hs he hf; exact parts_any x h0 h1 w
theorem rsort_any (x : Int) (h0 : 0 ≤ x) (h1 : x ≤ 18446744073709551615) (w : World) : Calls Try.prog 14 #[.int .u64 x] w fun e w' => e = .returned (.int .i64 (srt x)) ∧ w' = w := by
  rw [← srtP_eq x h0 h1]
  obtain ⟨s, hs⟩ : ∃ s, s = x / 9223372036854775808 := ⟨_, rfl⟩
  obtain ⟨e, he⟩ : ∃ e, e = x / 4503599627370496 % 2048 := ⟨_, rfl⟩
  obtain ⟨f, hf⟩ : ∃ f, f = x % 4503599627370496 := ⟨_, rfl⟩
  have s0 : 0 ≤ s := by omega
  have s1 : s ≤ 1 := by omega
  have f0 : 0 ≤ f := by omega
  have hc := parts_of x s e f h0 h1 hs he hf
  rw [← hs, ← he, ← hf]
  clear hs he hf
  have HC := Lib.hid hc
  clear hc
  by_cases e1 : e = 2047
  · subst e1
    by_cases f1 : 0 < f
    · go_enter Try.func14, Try.ntmps14
      go_wp2_with (go_at_call 24; refine (HC.out _).mono ?_; rintro e' w' ⟨rfl, rfl⟩)
      go_ret
      exact ⟨ret_int (by simp [srtP, f1]), rfl⟩
    · by_cases s2 : s = 1
      · subst s2
        go_enter Try.func14, Try.ntmps14
        go_wp2_with (go_at_call 24; refine (HC.out _).mono ?_; rintro e' w' ⟨rfl, rfl⟩)
        go_ret
        exact ⟨ret_int (by simp [srtP, f1]), rfl⟩
      · go_enter Try.func14, Try.ntmps14
        go_wp2_with (go_at_call 24; refine (HC.out _).mono ?_; rintro e' w' ⟨rfl, rfl⟩)
        go_ret
        exact ⟨ret_int (by simp [srtP, f1, s2]), rfl⟩
  · by_cases e2 : e = 0
    · subst e2
      by_cases f1 : f = 0
      · subst f1
        go_enter Try.func14, Try.ntmps14
        go_wp2_with (go_at_call 24; refine (HC.out _).mono ?_; rintro e' w' ⟨rfl, rfl⟩)
        go_ret
        exact ⟨ret_int (by simp [srtP]), rfl⟩
      · go_enter Try.func14, Try.ntmps14
        go_wp2_with (go_at_call 24; refine (HC.out _).mono ?_; rintro e' w' ⟨rfl, rfl⟩)
        go_ret
        exact ⟨ret_int (by simp [srtP, f1]), rfl⟩
    · go_enter Try.func14, Try.ntmps14
      go_wp2_with (go_at_call 24; refine (HC.out _).mono ?_; rintro e' w' ⟨rfl, rfl⟩)
      go_ret
      exact ⟨ret_int (by simp [srtP, e1, e2]), rfl⟩
theorem sign_any (a b : Int) (w : World) : Calls Try.prog 31 #[.int .u64 a, .int .u64 b] w fun e w' => e = .returned (.int .i64 (cmpI a b)) ∧ w' = w := by
  go_enter Try.func31, Try.ntmps31
  go_wp2
  all_goals go_ret
  all_goals exact ⟨ret_int (by unfold cmpI; (repeat' split) <;> omega), rfl⟩
theorem cmpint_any (a b : Int) (w : World) : Calls Try.prog 29 #[.int .i64 a, .int .i64 b] w fun e w' => e = .returned (.int .i64 (cmpI a b)) ∧ w' = w := by
  go_enter Try.func29, Try.ntmps29
  go_wp2
  all_goals go_ret
  all_goals exact ⟨ret_int (by unfold cmpI; (repeat' split) <;> omega), rfl⟩
theorem cmpflt_any (a b : Nat) (ha : num a) (hb : num b) (w : World) : Calls Try.prog 30 #[.float .f64 a, .float .f64 b] w fun e w' => e = .returned (.int .i64 (cmpI (key a) (key b))) ∧ w' = w := by
  have e1 : (FloatKind.f64.format.order a a != some .eq) = false := by rw [ord_f64, ord_ne a]; simp [ha]
  have e2 : (FloatKind.f64.format.order b b != some .eq) = false := by rw [ord_f64, ord_ne b]; simp [hb]
  have e3 : (FloatKind.f64.format.order a b == some .lt) = decide (key a < key b) := ord_lt a b ha hb
  have e4 : (FloatKind.f64.format.order a b == some .gt) = decide (key b < key a) := ord_gt a b ha hb
  clear ha hb
  go_enter Try.func30, Try.ntmps30
  go_wp2_with (go_at_call 38; refine (isnan38_any _ _).mono ?_; rintro e w' ⟨rfl, rfl⟩)
  all_goals go_ret
  all_goals exact ⟨ret_int (by unfold cmpI; (repeat' split) <;> omega), rfl⟩
end Go.Proofs.Ytffahckigenfcaa
