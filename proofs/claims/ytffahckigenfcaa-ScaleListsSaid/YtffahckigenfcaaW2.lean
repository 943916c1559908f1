import Derived.Test.YtffahckigenfcaaW1
/- The two orders. -/
namespace Go.Proofs.Ytffahckigenfcaa
open Go.ChangeShapes Go.WideShapes Go.ChangeAt Go.RowKit
set_option linter.unusedVariables false

theorem srt_num (x : Int) (h0 : 0 ≤ x) (h : srt x ≠ 0) : num x.toNat := by
  unfold num
  unfold srt at h
  split at h
  · exact absurd rfl h
  · omega
theorem order_any (x y : Int) (x0 : 0 ≤ x) (x1 : x ≤ 18446744073709551615) (y0 : 0 ≤ y) (y1 : y ≤ 18446744073709551615) (w : World) :
    Calls Try.prog 15 #[.int .u64 x, .int .u64 y] w fun e w' => e = .returned (.int .i64 (ordI x y)) ∧ w' = w := by
  have h22 := call22
  have SX := Lib.hid (sort_srt x x0 x1)
  have SY := Lib.hid (sort_srt y y0 y1)
  have CI := Lib.hid (cmpint_any)
  have CF : Hid (srt x ≠ 0 → srt y ≠ 0 → ∀ w, Calls Try.prog 30 #[.float .f64 x.toNat, .float .f64 y.toNat] w fun e w' => e = .returned (.int .i64 (cmpI (keyI x) (keyI y))) ∧ w' = w) := Lib.hid fun ha hb w => by
    have := cmpflt_any _ _ (srt_num x x0 ha) (srt_num y y0 hb) w
    rwa [key_eq x x0 (by omega), key_eq y y0 (by omega)] at this
  have hO : ordI x y = if srt x ≠ srt y then cmpI (srt x) (srt y) else if srt x = 0 then 0 else cmpI (keyI x) (keyI y) := rfl
  rw [hO]
  clear hO
  generalize cmpI (keyI x) (keyI y) = k at *
  generalize srt x = a at *
  generalize srt y = b at *
  clear x0 x1 y0 y1
  by_cases h : a = b
  · subst h
    by_cases hz : a = 0
    · subst hz
      go_enter Try.func15, Try.ntmps15
      go_wp2_with (first
        | (go_at_call 13; (first | (with_reducible refine (SX.out _).mono ?_) | (with_reducible refine (SY.out _).mono ?_)); rintro e' w' ⟨rfl, rfl⟩)
        | (go_at_call 29; refine (CI.out _ _ _).mono ?_; rintro e' w' ⟨rfl, rfl⟩))
      go_ret
      exact ⟨ret_int (by simp [cmpI]), rfl⟩
    · go_enter Try.func15, Try.ntmps15
      go_wp2_with (first
        | (go_at_call 13; (first | (with_reducible refine (SX.out _).mono ?_) | (with_reducible refine (SY.out _).mono ?_)); rintro e' w' ⟨rfl, rfl⟩)
        | (go_at_call 30; refine (CF.out hz hz _).mono ?_; rintro e' w' ⟨rfl, rfl⟩))
      go_ret
      exact ⟨ret_int (by simp), rfl⟩
  · go_enter Try.func15, Try.ntmps15
    go_wp2_with (first
      | (go_at_call 13; (first | (with_reducible refine (SX.out _).mono ?_) | (with_reducible refine (SY.out _).mono ?_)); rintro e' w' ⟨rfl, rfl⟩)
      | (go_at_call 29; refine (CI.out _ _ _).mono ?_; rintro e' w' ⟨rfl, rfl⟩))
    go_ret
    exact ⟨ret_int (by simp), rfl⟩

theorem srt_same2 (x y : Int) (x0 : 0 ≤ x) (x1 : x ≤ 18446744073709551615) (y0 : 0 ≤ y) (y1 : y ≤ 18446744073709551615) (h : srt x = 2) (h' : srt y = 2) : cmpI (keyI x) (keyI y) = - cmpI (x % 9223372036854775808) (y % 9223372036854775808) := by
  have a : 9223372036854775808 ≤ x := by unfold srt at h; (repeat' split at h) <;> omega
  have b : 9223372036854775808 ≤ y := by unfold srt at h'; (repeat' split at h') <;> omega
  unfold keyI cmpI
  rw [if_pos a, if_pos b]
  (repeat' split) <;> omega
theorem srt_same (x y : Int) (x0 : 0 ≤ x) (x1 : x ≤ 18446744073709551615) (y0 : 0 ≤ y) (y1 : y ≤ 18446744073709551615) (e : srt x = srt y) (h : srt x ≠ 2) (h0 : srt x ≠ 0) : cmpI (keyI x) (keyI y) = cmpI (x % 9223372036854775808) (y % 9223372036854775808) := by
  unfold srt at e h h0
  unfold keyI cmpI
  (repeat' split at h) <;> (repeat' split at e) <;> first | omega | ((repeat' split) <;> omega)
theorem srt_range (x : Int) : 0 ≤ srt x ∧ srt x ≤ 6 := by unfold srt; (repeat' split) <;> omega

theorem rorder_any (x y : Int) (x0 : 0 ≤ x) (x1 : x ≤ 18446744073709551615) (y0 : 0 ≤ y) (y1 : y ≤ 18446744073709551615) (w : World) :
    Calls Try.prog 16 #[.int .u64 x, .int .u64 y] w fun e w' => e = .returned (.int .i64 (ordI x y)) ∧ w' = w := by
  have SX := Lib.hid (rsort_any x x0 x1)
  have SY := Lib.hid (rsort_any y y0 y1)
  have SG := Lib.hid sign_any
  have hO : ordI x y = if srt x ≠ srt y then cmpI (srt x) (srt y) else if srt x = 0 then 0 else cmpI (keyI x) (keyI y) := rfl
  rw [hO]
  clear hO
  have A2 := Lib.hid (srt_same2 x y x0 x1 y0 y1)
  have A3 := Lib.hid (srt_same x y x0 x1 y0 y1)
  have ra := srt_range x
  have rb := srt_range y
  have cr : -1 ≤ cmpI (x % 9223372036854775808) (y % 9223372036854775808) ∧ cmpI (x % 9223372036854775808) (y % 9223372036854775808) ≤ 1 := by unfold cmpI; (repeat' split) <;> omega
  generalize hk : cmpI (keyI x) (keyI y) = k at *
  clear hk
  generalize srt x = a at *
  generalize srt y = b at *
  obtain ⟨ra0, ra1⟩ := ra
  obtain ⟨rb0, rb1⟩ := rb
  by_cases h : a = b
  · subst h
    by_cases hz : a = 0
    · subst hz
      go_enter Try.func16, Try.ntmps16
      go_wp2_with (go_at_call 14; (first | (with_reducible refine (SX.out _).mono ?_) | (with_reducible refine (SY.out _).mono ?_)); rintro e' w' ⟨rfl, rfl⟩)
      go_ret
      exact ⟨ret_int (by simp), rfl⟩
    · by_cases h2 : a = 2
      · subst h2
        go_enter Try.func16, Try.ntmps16
        go_wp2_with (first
          | (go_at_call 14; (first | (with_reducible refine (SX.out _).mono ?_) | (with_reducible refine (SY.out _).mono ?_)); rintro e' w' ⟨rfl, rfl⟩)
          | (go_at_call 31; refine (SG.out _ _ _).mono ?_; rintro e' w' ⟨rfl, rfl⟩))
        go_ret
        exact ⟨ret_int (by have := A2.out; simp at this; exact this.symm), rfl⟩
      · go_enter Try.func16, Try.ntmps16
        go_wp2_with (first
          | (go_at_call 14; (first | (with_reducible refine (SX.out _).mono ?_) | (with_reducible refine (SY.out _).mono ?_)); rintro e' w' ⟨rfl, rfl⟩)
          | (go_at_call 31; refine (SG.out _ _ _).mono ?_; rintro e' w' ⟨rfl, rfl⟩))
        go_ret
        exact ⟨ret_int (by have := A3.out; simp [h2, hz] at this; exact this.symm), rfl⟩
  · go_enter Try.func16, Try.ntmps16
    go_wp2_with (first
      | (go_at_call 14; (first | (with_reducible refine (SX.out _).mono ?_) | (with_reducible refine (SY.out _).mono ?_)); rintro e' w' ⟨rfl, rfl⟩)
      | (go_at_call 31; refine (SG.out _ _ _).mono ?_; rintro e' w' ⟨rfl, rfl⟩))
    go_ret
    exact ⟨ret_int (by simp), rfl⟩
end Go.Proofs.Ytffahckigenfcaa
