import Derived.Test.YtffahckigenfcaaW6
import Derived.Test.YtffahckigenfcaaM4
/- The law ScaleOrder, walked. -/
namespace Go.Proofs.Ytffahckigenfcaa
open Go.ChangeShapes Go.WideShapes Go.ChangeAt Go.RowKit
set_option linter.unusedVariables false

abbrev Gives (f : FuncId) (args : Array Value) (v : Value) : Prop := ∀ w, Calls Try.prog f args w fun e w' => e = .returned v ∧ w' = w
set_option maxRecDepth 100000 in
set_option maxHeartbeats 4000000 in
theorem order_walk (x y z a b c d g s t : Int) (w : World) (ha : a = -1 ∨ a = 0 ∨ a = 1) (hb : b = -1 ∨ b = 0 ∨ b = 1) (hc : c = -1 ∨ c = 0 ∨ c = 1) (hd : d ≤ 0) (hg : g ≤ 0)
    (h1 : ¬ (a ≤ 0 ∧ b ≤ 0 ∧ 0 < c)) (h2 : ¬ (a < 0 ∧ b ≤ 0 ∧ 0 ≤ c)) (hs : a = 0 → s = t)
    (Hxy : Hid (Gives 15 #[.int .u64 x, .int .u64 y] (.int .i64 a))) (Hyz : Hid (Gives 15 #[.int .u64 y, .int .u64 z] (.int .i64 b))) (Hxz : Hid (Gives 15 #[.int .u64 x, .int .u64 z] (.int .i64 c)))
    (Hyx : Hid (Gives 15 #[.int .u64 y, .int .u64 x] (.int .i64 (-a)))) (Hn : Hid (Gives 15 #[.int .u64 9221120237041090561, .int .u64 x] (.int .i64 d))) (Hi : Hid (Gives 15 #[.int .u64 x, .int .u64 9218868437227405312] (.int .i64 g)))
    (Hxx : Hid (Gives 15 #[.int .u64 x, .int .u64 x] (.int .i64 0))) (Sx : Hid (Gives 13 #[.int .u64 x] (.int .i64 s))) (Sy : Hid (Gives 13 #[.int .u64 y] (.int .i64 t))) :
    Calls Try.prog 4 #[.int .u64 x, .int .u64 y, .int .u64 z] w fun e w' => e = .returned (.bool true) ∧ w' = w := by
  have HS := Lib.hid hs
  clear hs
  rcases ha with rfl | rfl | rfl <;> rcases hb with rfl | rfl | rfl <;> rcases hc with rfl | rfl | rfl
  all_goals first | (exfalso; omega) | skip
  all_goals clear h1 h2
  all_goals first | (obtain rfl := HS.out rfl) | skip
  all_goals clear HS
  all_goals
    go_enter Try.func4, Try.ntmps4
    go_wp2_with (first
      | (go_at_call 15; (first
          | (with_reducible refine (Hxy.out _).mono ?_) | (with_reducible refine (Hyz.out _).mono ?_) | (with_reducible refine (Hxz.out _).mono ?_) | (with_reducible refine (Hyx.out _).mono ?_)
          | (with_reducible refine (Hn.out _).mono ?_) | (with_reducible refine (Hi.out _).mono ?_) | (with_reducible refine (Hxx.out _).mono ?_)); rintro e' w' ⟨rfl, rfl⟩)
      | (go_at_call 13; (first | (with_reducible refine (Sx.out _).mono ?_) | (with_reducible refine (Sy.out _).mono ?_)); rintro e' w' ⟨rfl, rfl⟩)
      | (go_at_call 12; refine (alive_any _).mono ?_; rintro e' w' ⟨rfl, rfl⟩))
    go_ret
    exact ⟨rfl, rfl⟩
theorem gives15 (x y : Int) (x0 : 0 ≤ x) (x1 : x ≤ 18446744073709551615) (y0 : 0 ≤ y) (y1 : y ≤ 18446744073709551615) (v : Int) (h : v = cmpI (rank x) (rank y)) : Gives 15 #[.int .u64 x, .int .u64 y] (.int .i64 v) := by
  intro w
  rw [h, ← ord_rank x y x0 x1 y0 y1]
  exact order_any x y x0 x1 y0 y1 w
theorem cmp_cases (a b : Int) : cmpI a b = -1 ∨ cmpI a b = 0 ∨ cmpI a b = 1 := by unfold cmpI; (repeat' split) <;> omega
theorem order_law (x y z : Int) (x0 : 0 ≤ x) (x1 : x ≤ 18446744073709551615) (y0 : 0 ≤ y) (y1 : y ≤ 18446744073709551615) (z0 : 0 ≤ z) (z1 : z ≤ 18446744073709551615) (w : World) :
    Calls Try.prog 4 #[.int .u64 x, .int .u64 y, .int .u64 z] w fun e w' => e = .returned (.bool true) ∧ w' = w := by
  have r0 := rank_0 x x0 x1
  have ri := rank_inf x x0 x1
  have rn := rank_nan
  have rs := rank_srt x y x0 x1 y0 y1
  refine order_walk x y z (cmpI (rank x) (rank y)) (cmpI (rank y) (rank z)) (cmpI (rank x) (rank z)) (cmpI (rank 9221120237041090561) (rank x)) (cmpI (rank x) (rank 9218868437227405312)) (srt x) (srt y) w
    (cmp_cases _ _) (cmp_cases _ _) (cmp_cases _ _) ?_ ?_ ?_ ?_ ?_ (Lib.hid (gives15 x y x0 x1 y0 y1 _ rfl)) (Lib.hid (gives15 y z y0 y1 z0 z1 _ rfl)) (Lib.hid (gives15 x z x0 x1 z0 z1 _ rfl))
    (Lib.hid (gives15 y x y0 y1 x0 x1 _ ?_)) (Lib.hid (gives15 9221120237041090561 x (by omega) (by omega) x0 x1 _ rfl)) (Lib.hid (gives15 x 9218868437227405312 x0 x1 (by omega) (by omega) _ rfl)) (Lib.hid (gives15 x x x0 x1 x0 x1 _ ?_))
    (Lib.hid (sort_srt x x0 x1)) (Lib.hid (sort_srt y y0 y1))
  all_goals generalize rank x = p at *
  all_goals generalize rank y = q at *
  all_goals generalize rank z = r at *
  · rw [rn]; unfold cmpI; (repeat' split) <;> omega
  · generalize rank 9218868437227405312 = i at *
    unfold cmpI; (repeat' split) <;> omega
  · unfold cmpI; (repeat' split) <;> omega
  · unfold cmpI; (repeat' split) <;> omega
  · intro h
    refine rs ?_
    unfold cmpI at h
    (repeat' split at h) <;> omega
  · unfold cmpI; (repeat' split) <;> omega
  · unfold cmpI; (repeat' split) <;> omega
end Go.Proofs.Ytffahckigenfcaa
