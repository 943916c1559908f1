import Derived.Test.YtffahckigenfcaaW5
/- The live question. -/
namespace Go.Proofs.Ytffahckigenfcaa
open Go.ChangeShapes Go.WideShapes Go.ChangeAt Go.RowKit
set_option linter.unusedVariables false
theorem al1 (w : World) : Calls Try.prog 8 #[.int .u64 4612811918334230528] w fun e w' => e = .returned (.tuple #[.int .i64 3, .int .i64 0]) ∧ w' = w := by
  have := cells_any 4612811918334230528 (by omega) (by omega) w
  rwa [show cellsI 4612811918334230528 = 3 by decide +kernel, show errI 4612811918334230528 = 0 by decide +kernel] at this
theorem al2 (w : World) : Calls Try.prog 8 #[.int .u64 4611686018427387905] w fun e w' => e = .returned (.tuple #[.int .i64 3, .int .i64 0]) ∧ w' = w := by
  have := cells_any 4611686018427387905 (by omega) (by omega) w
  rwa [show cellsI 4611686018427387905 = 3 by decide +kernel, show errI 4611686018427387905 = 0 by decide +kernel] at this
theorem al3 (w : World) : Calls Try.prog 8 #[.int .u64 9223372036854775808] w fun e w' => e = .returned (.tuple #[.int .i64 0, .int .i64 0]) ∧ w' = w := by
  have := cells_any 9223372036854775808 (by omega) (by omega) w
  rwa [show cellsI 9223372036854775808 = 0 by decide +kernel, show errI 9223372036854775808 = 0 by decide +kernel] at this
theorem al4 (w : World) : Calls Try.prog 8 #[.int .u64 9221120237041090560] w fun e w' => e = .returned (.tuple #[.int .i64 0, .int .i64 41]) ∧ w' = w := by
  have := cells_any 9221120237041090560 (by omega) (by omega) w
  rwa [show cellsI 9221120237041090560 = 0 by decide +kernel, show errI 9221120237041090560 = 41 by decide +kernel] at this
theorem al5 (w : World) : Calls Try.prog 10 #[.int .i64 2] w fun e w' => e = .returned (.tuple #[.int .u64 4611686018427387904, .int .i64 0]) ∧ w' = w := by
  have := of_any 2 w
  rwa [show ofV 2 = 4611686018427387904 by decide +kernel, show ofE 2 = 0 by decide +kernel] at this
theorem al6 (w : World) : Calls Try.prog 13 #[.int .u64 9218868437227405312] w fun e w' => e = .returned (.int .i64 6) ∧ w' = w := by
  have := sort_srt 9218868437227405312 (by omega) (by omega) w
  rwa [show srt 9218868437227405312 = 6 by decide +kernel] at this
theorem al7 (w : World) : Calls Try.prog 15 #[.int .u64 9223372036854775808, .int .u64 0] w fun e w' => e = .returned (.int .i64 (-1)) ∧ w' = w := by
  have := order_any 9223372036854775808 0 (by omega) (by omega) (by omega) (by omega) w
  rwa [show ordI 9223372036854775808 0 = -1 by decide +kernel] at this
set_option maxRecDepth 100000 in
theorem alive_any (w : World) : Calls Try.prog 12 #[] w fun e w' => e = .returned (.bool true) ∧ w' = w := by
  go_enter Try.func12, Try.ntmps12
  go_wp2_with (first
    | (go_at_call 8; (first | (with_reducible refine (al1 _).mono ?_) | (with_reducible refine (al2 _).mono ?_) | (with_reducible refine (al3 _).mono ?_) | (with_reducible refine (al4 _).mono ?_)); rintro e' w' ⟨rfl, rfl⟩)
    | (go_at_call 10; refine (al5 _).mono ?_; rintro e' w' ⟨rfl, rfl⟩)
    | (go_at_call 13; refine (al6 _).mono ?_; rintro e' w' ⟨rfl, rfl⟩)
    | (go_at_call 15; refine (al7 _).mono ?_; rintro e' w' ⟨rfl, rfl⟩))
  go_ret
  exact ⟨rfl, rfl⟩
end Go.Proofs.Ytffahckigenfcaa
