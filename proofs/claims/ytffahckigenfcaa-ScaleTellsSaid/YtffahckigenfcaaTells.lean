import Derived.Test.YtffahckigenfcaaW6
/- The law ScaleTells, walked. -/
namespace Go.Proofs.Ytffahckigenfcaa
open Go.ChangeShapes Go.WideShapes Go.ChangeAt Go.RowKit
set_option linter.unusedVariables false
set_option maxRecDepth 100000 in
theorem tells_any (x y n : Int) (x0 : 0 ≤ x) (x1 : x ≤ 18446744073709551615) (y0 : 0 ≤ y) (y1 : y ≤ 18446744073709551615) (w : World) :
    Calls Try.prog 3 #[.int .u64 x, .int .u64 y, .int .i64 n] w fun e w' => e = .returned (.bool true) ∧ w' = w := by
  have H8 := Lib.hid (cells_any x x0 x1)
  have H9 := Lib.hid (rcells_any x x0 x1)
  have H10 := Lib.hid (of_any n)
  have H11 := Lib.hid (rof_any n)
  have H13 := Lib.hid (sort_srt x x0 x1)
  have H14 := Lib.hid (rsort_any x x0 x1)
  have H15 := Lib.hid (order_any x y x0 x1 y0 y1)
  have H16 := Lib.hid (rorder_any x y x0 x1 y0 y1)
  generalize cellsI x = c at *
  generalize errI x = er at *
  generalize ofV n = v at *
  generalize ofE n = ve at *
  generalize srt x = s at *
  generalize ordI x y = o at *
  clear x0 x1 y0 y1
  go_enter Try.func3, Try.ntmps3
  go_wp2_with (first
    | (go_at_call 8; refine (H8.out _).mono ?_; rintro e' w' ⟨rfl, rfl⟩)
    | (go_at_call 9; refine (H9.out _).mono ?_; rintro e' w' ⟨rfl, rfl⟩)
    | (go_at_call 10; refine (H10.out _).mono ?_; rintro e' w' ⟨rfl, rfl⟩)
    | (go_at_call 11; refine (H11.out _).mono ?_; rintro e' w' ⟨rfl, rfl⟩)
    | (go_at_call 12; refine (alive_any _).mono ?_; rintro e' w' ⟨rfl, rfl⟩)
    | (go_at_call 13; refine (H13.out _).mono ?_; rintro e' w' ⟨rfl, rfl⟩)
    | (go_at_call 14; refine (H14.out _).mono ?_; rintro e' w' ⟨rfl, rfl⟩)
    | (go_at_call 15; refine (H15.out _).mono ?_; rintro e' w' ⟨rfl, rfl⟩)
    | (go_at_call 16; refine (H16.out _).mono ?_; rintro e' w' ⟨rfl, rfl⟩))
  go_ret
  exact ⟨rfl, rfl⟩
end Go.Proofs.Ytffahckigenfcaa
