import Derived.Test.YtffahckigenfcaaW6
import Derived.Test.YtffahckigenfcaaM4
/- The law ScaleCells, walked. -/
namespace Go.Proofs.Ytffahckigenfcaa
open Go.ChangeShapes Go.WideShapes Go.ChangeAt Go.RowKit
set_option linter.unusedVariables false

abbrev Gives (f : FuncId) (args : Array Value) (v : Value) : Prop := ∀ w, Calls Try.prog f args w fun e w' => e = .returned v ∧ w' = w

theorem k_tab : ∀ k : Fin 128, ofE k.val = 0 ∧ (k.val ≤ 64 → errI (ofV k.val) = 0 ∧ cellsI (ofV k.val) = k.val) ∧ (64 < k.val → errI (ofV k.val) = 41) := by decide +kernel
theorem of_mono (i j : Int) (h0 : 0 ≤ i) (h : i ≤ j) (hj : j ≤ 9007199254740992) : ofI i ≤ ofI j := by
  rcases Int.lt_or_eq_of_le h with h1 | h1
  · rcases Int.lt_or_eq_of_le h0 with h2 | h2
    · rw [ofI_pos i h2 (by omega), ofI_pos j (by omega) hj]
      have := bits_lt i.toNat j.toNat (by omega) (by omega) (by omega)
      omega
    · subst h2
      have := bits_pos j.toNat (by omega) (by omega)
      rw [ofI_pos j (by omega) hj, show ofI 0 = 0 from rfl]; omega
  · subst h1; exact Int.le_refl _
theorem rank_pos (x : Int) (h0 : 0 < x) (h : x < 9218868437227405312) : rank x = 5 * 18446744073709551616 + x := by
  have hs : srt x = 5 := by
    unfold srt
    rw [if_neg (by omega), if_neg (by omega), if_neg (by omega), if_neg (by omega)]
  have hk : keyI x = x := by unfold keyI; rw [if_neg (by omega)]
  unfold rank
  rw [hs, hk, if_neg (by omega)]
theorem rank_zero : rank 0 = 4 * 18446744073709551616 := by decide +kernel
theorem rank_mzero : rank 9223372036854775808 = 3 * 18446744073709551616 := by decide +kernel
/-- Which words have cells. -/
theorem ok_cases (x : Int) (x0 : 0 ≤ x) (x1 : x ≤ 18446744073709551615) (h : errI x = 0) :
    (x = 0 ∧ cellsI x = 0) ∨ (x = 9223372036854775808 ∧ cellsI x = 0) ∨ (0 < x ∧ x ≤ 4634204016564240384 ∧ 1 ≤ cellsI x ∧ cellsI x ≤ 64 ∧ x ≤ ofI (cellsI x) ∧ ofI (cellsI x - 1) < x) := by
  have hk : okC x = true := by
    unfold errI at h
    split at h
    · assumption
    · omega
  have hc : cellsI x = (cellsN x.toNat : Int) := by unfold cellsI; rw [if_pos hk]
  simp only [okC, Bool.and_eq_true] at hk
  have a1 := of_decide_eq_true hk.1
  have a2 := of_decide_eq_true hk.2
  unfold keyI at a1 a2
  by_cases h1 : x = 0
  · subst h1; exact .inl ⟨rfl, by rw [hc]; decide +kernel⟩
  · by_cases h2 : x = 9223372036854775808
    · subst h2; exact .inr (.inl ⟨rfl, by rw [hc]; decide +kernel⟩)
    · have hx : 0 < x ∧ x ≤ 4634204016564240384 := by split at a1 <;> omega
      obtain ⟨n1, n2, n3, n4⟩ := cells_near x.toNat (by omega) (by omega)
      rw [hc]
      exact .inr (.inr ⟨hx.1, hx.2, by omega, by omega, by omega, by omega⟩)
theorem ok_facts (x : Int) (x0 : 0 ≤ x) (x1 : x ≤ 18446744073709551615) (h : errI x = 0) :
    0 ≤ cellsI x ∧ cellsI x ≤ 64 ∧ ordI x (ofI (cellsI x)) ≤ 0 ∧ (0 < cellsI x → ordI (ofI (cellsI x - 1)) x < 0) := by
  rcases ok_cases x x0 x1 h with ⟨rfl, h2⟩ | ⟨rfl, h2⟩ | ⟨h1, h2, h3, h4, h5, h6⟩
  · rw [h2]; decide +kernel
  · rw [h2]; decide +kernel
  · have r1 := (rank_of (cellsI x) (by omega) (by omega)).1
    have r2 := (rank_of (cellsI x - 1) (by omega) (by omega)).1
    have b1 : ofI (cellsI x) ≤ 4634204016564240384 := by
      have := of_mono (cellsI x) 64 (by omega) h4 (by omega)
      rwa [show ofI 64 = 4634204016564240384 by decide +kernel] at this
    refine ⟨by omega, h4, ?_, fun _ => ?_⟩
    · rw [ord_rank _ _ x0 x1 r1.1 r1.2, rank_pos x h1 (by omega), rank_pos _ (by omega) (by omega)]
      unfold cmpI; (repeat' split) <;> omega
    · rw [ord_rank _ _ r2.1 r2.2 x0 x1, rank_pos x h1 (by omega)]
      by_cases hz : ofI (cellsI x - 1) = 0
      · rw [hz, rank_zero]
        unfold cmpI; (repeat' split) <;> omega
      · rw [rank_pos _ (by omega) (by omega)]
        unfold cmpI; (repeat' split) <;> omega
theorem cells_mono (x y : Int) (x0 : 0 ≤ x) (x1 : x ≤ 18446744073709551615) (y0 : 0 ≤ y) (y1 : y ≤ 18446744073709551615) (hx : errI x = 0) (hy : errI y = 0) (ho : ordI x y ≤ 0) : cellsI x ≤ cellsI y := by
  have fy := ok_facts y y0 y1 hy
  rcases ok_cases x x0 x1 hx with ⟨_, h2⟩ | ⟨_, h2⟩ | ⟨h1, h2, h3, h4, h5, h6⟩
  · omega
  · omega
  · rw [ord_rank _ _ x0 x1 y0 y1, rank_pos x h1 (by omega)] at ho
    rcases ok_cases y y0 y1 hy with ⟨rfl, k2⟩ | ⟨rfl, k2⟩ | ⟨k1, k2, k3, k4, k5, k6⟩
    · rw [rank_zero] at ho
      unfold cmpI at ho; (repeat' split at ho) <;> omega
    · rw [rank_mzero] at ho
      unfold cmpI at ho; (repeat' split at ho) <;> omega
    · rw [rank_pos y k1 (by omega)] at ho
      have hxy : x ≤ y := by unfold cmpI at ho; (repeat' split at ho) <;> omega
      rcases Int.lt_or_le (cellsI y) (cellsI x) with h7 | h7
      · have := of_mono (cellsI y) (cellsI x - 1) (by omega) (by omega) (by omega)
        omega
      · exact h7

set_option maxRecDepth 100000 in
set_option maxHeartbeats 4000000 in
theorem cells_walk (x y n k v m f a g b h p q o1 o2 o : Int) (w : World) (hk0 : 0 ≤ k) (hk1 : k ≤ 127) (hb : bits BinOp.and IntKind.i64 n 127 = k) (hf : (k ≤ 64 ∧ f = 0 ∧ m = k) ∨ (64 < k ∧ f = 41))
    (hg : (g = 41) ∨ (g = 0 ∧ 0 < a ∧ a ≤ 64 ∧ o1 ≤ 0 ∧ o2 < 0) ∨ (g = 0 ∧ a = 0 ∧ o1 ≤ 0)) (hh : h = 0 ∨ h = 41) (ho : g = 0 → h = 0 → 0 < o ∨ a ≤ b)
    (Hk : Hid (Gives 10 #[.int .i64 k] (.tuple #[.int .u64 v, .int .i64 0]))) (Hv : Hid (Gives 8 #[.int .u64 v] (.tuple #[.int .i64 m, .int .i64 f])))
    (Hx : Hid (Gives 8 #[.int .u64 x] (.tuple #[.int .i64 a, .int .i64 g]))) (Hy : Hid (Gives 8 #[.int .u64 y] (.tuple #[.int .i64 b, .int .i64 h])))
    (Hp : Hid (g = 0 → Gives 10 #[.int .i64 a] (.tuple #[.int .u64 p, .int .i64 0]))) (Hq : Hid (g = 0 → Gives 10 #[.int .i64 (a - 1)] (.tuple #[.int .u64 q, .int .i64 0]))) (Hq0 : Hid (g = 0 → a = 0 → Gives 10 #[.int .i64 (-1)] (.tuple #[.int .u64 q, .int .i64 0])))
    (H1 : Hid (g = 0 → Gives 15 #[.int .u64 x, .int .u64 p] (.int .i64 o1))) (H2 : Hid (g = 0 → Gives 15 #[.int .u64 q, .int .u64 x] (.int .i64 o2))) (Ho : Hid (Gives 15 #[.int .u64 x, .int .u64 y] (.int .i64 o))) :
    Calls Try.prog 5 #[.int .u64 x, .int .u64 y, .int .i64 n] w fun e w' => e = .returned (.bool true) ∧ w' = w := by
  have HO := Lib.hid ho
  clear ho
  rcases hg with rfl | ⟨rfl, a0, a1, b1, b2⟩ | ⟨rfl, rfl, b1⟩
  · clear Hp Hq Hq0 H1 H2 HO
    rcases hf with ⟨hf, rfl, rfl⟩ | ⟨hf, rfl⟩
    all_goals
      go_enter Try.func5, Try.ntmps5
      go_wp2_with (first
        | (go_at_call 10; (with_reducible refine (Hk.out _).mono ?_); rintro e' w' ⟨rfl, rfl⟩)
        | (go_at_call 8; (first | (with_reducible refine (Hv.out _).mono ?_) | (with_reducible refine (Hx.out _).mono ?_) | (with_reducible refine (Hy.out _).mono ?_)); rintro e' w' ⟨rfl, rfl⟩)
        | (go_at_call 12; refine (alive_any _).mono ?_; rintro e' w' ⟨rfl, rfl⟩))
      all_goals go_ret
      all_goals exact ⟨rfl, rfl⟩
  rotate_left
  · have Hq' := Lib.hid (Hq0.out rfl rfl)
    clear Hq Hq0
    all_goals
      have Hp' := Lib.hid (Hp.out rfl)
      have H1' := Lib.hid (H1.out rfl)
      have H2' := Lib.hid (H2.out rfl)
      clear Hp H1 H2
      rcases hh with rfl | rfl
    all_goals first
      | (rcases HO.out rfl rfl with h3 | h3)
      | skip
    all_goals clear HO
    all_goals rcases hf with ⟨hf, rfl, rfl⟩ | ⟨hf, rfl⟩
    all_goals
      go_enter Try.func5, Try.ntmps5
      go_wp2_with (first
        | (go_at_call 10; (first | (with_reducible refine (Hk.out _).mono ?_) | (with_reducible refine (Hp'.out _).mono ?_) | (with_reducible refine (Hq'.out _).mono ?_)); rintro e' w' ⟨rfl, rfl⟩)
        | (go_at_call 8; (first | (with_reducible refine (Hv.out _).mono ?_) | (with_reducible refine (Hx.out _).mono ?_) | (with_reducible refine (Hy.out _).mono ?_)); rintro e' w' ⟨rfl, rfl⟩)
        | (go_at_call 15; (first | (with_reducible refine (H1'.out _).mono ?_) | (with_reducible refine (H2'.out _).mono ?_) | (with_reducible refine (Ho.out _).mono ?_)); rintro e' w' ⟨rfl, rfl⟩)
        | (go_at_call 12; refine (alive_any _).mono ?_; rintro e' w' ⟨rfl, rfl⟩))
      all_goals go_ret
      all_goals exact ⟨rfl, rfl⟩
  have Hq' := Lib.hid (Hq.out rfl)
  clear Hq Hq0
  all_goals
    have Hp' := Lib.hid (Hp.out rfl)
    have H1' := Lib.hid (H1.out rfl)
    have H2' := Lib.hid (H2.out rfl)
    clear Hp H1 H2
    rcases hh with rfl | rfl
  all_goals first
    | (rcases HO.out rfl rfl with h3 | h3)
    | skip
  all_goals clear HO
  all_goals rcases hf with ⟨hf, rfl, rfl⟩ | ⟨hf, rfl⟩
  all_goals
    go_enter Try.func5, Try.ntmps5
    go_wp2_with (first
      | (go_at_call 10; (first | (with_reducible refine (Hk.out _).mono ?_) | (with_reducible refine (Hp'.out _).mono ?_) | (with_reducible refine (Hq'.out _).mono ?_)); rintro e' w' ⟨rfl, rfl⟩)
      | (go_at_call 8; (first | (with_reducible refine (Hv.out _).mono ?_) | (with_reducible refine (Hx.out _).mono ?_) | (with_reducible refine (Hy.out _).mono ?_)); rintro e' w' ⟨rfl, rfl⟩)
      | (go_at_call 15; (first | (with_reducible refine (H1'.out _).mono ?_) | (with_reducible refine (H2'.out _).mono ?_) | (with_reducible refine (Ho.out _).mono ?_)); rintro e' w' ⟨rfl, rfl⟩)
      | (go_at_call 12; refine (alive_any _).mono ?_; rintro e' w' ⟨rfl, rfl⟩))
    all_goals go_ret
    all_goals exact ⟨rfl, rfl⟩

theorem gives10 (n v e : Int) (hv : v = ofV n) (he : e = ofE n) : Gives 10 #[.int .i64 n] (.tuple #[.int .u64 v, .int .i64 e]) := by
  subst hv he; exact of_any n
theorem err_cases (x : Int) : errI x = 0 ∨ errI x = 41 := by unfold errI; split <;> omega
theorem ofE_in (n : Int) (h0 : -9007199254740992 ≤ n) (h : n ≤ 9007199254740992) : ofE n = 0 ∧ ofV n = ofI n := by
  unfold ofE ofV
  rw [if_neg (by omega), if_neg (by omega)]
  exact ⟨rfl, rfl⟩
theorem and127 (n : Int) : ∃ k : Fin 128, bits BinOp.and IntKind.i64 n 127 = (k.val : Int) := by
  have e : (BitVec.ofInt 64 n &&& BitVec.ofInt 64 127).toNat = (BitVec.ofInt 64 n).toNat % 128 := by
    rw [BitVec.toNat_and, show (BitVec.ofInt 64 127).toNat = 2 ^ 7 - 1 from rfl, Nat.and_two_pow_sub_one_eq_mod]
  refine ⟨⟨(BitVec.ofInt 64 n).toNat % 128, Nat.mod_lt _ (by omega)⟩, ?_⟩
  show IntKind.i64.wrap ((BitVec.ofInt 64 n &&& BitVec.ofInt 64 127).toNat : Int) = _
  rw [e, IntWalk.i64_in]
  omega
theorem cells_law (x y n : Int) (x0 : 0 ≤ x) (x1 : x ≤ 18446744073709551615) (y0 : 0 ≤ y) (y1 : y ≤ 18446744073709551615) (w : World) :
    Calls Try.prog 5 #[.int .u64 x, .int .u64 y, .int .i64 n] w fun e w' => e = .returned (.bool true) ∧ w' = w := by
  obtain ⟨k, hk⟩ := and127 n
  obtain ⟨t1, t2, t3⟩ := k_tab k
  have hk1 := k.isLt
  generalize k.val = j at *
  have jo := ofE_in j (by omega) (by omega)
  have rj := (rank_of j (by omega) (by omega)).1
  rw [← jo.2] at rj
  have cases_x := err_cases x
  have hin : errI x = 0 → 0 ≤ cellsI x ∧ cellsI x ≤ 64 := fun h => ⟨(ok_facts x x0 x1 h).1, (ok_facts x x0 x1 h).2.1⟩
  have Rp : errI x = 0 → ofE (cellsI x) = 0 ∧ ofV (cellsI x) = ofI (cellsI x) := fun h => ofE_in _ (by have := hin h; omega) (by have := hin h; omega)
  have Rq : errI x = 0 → ofE (cellsI x - 1) = 0 ∧ ofV (cellsI x - 1) = ofI (cellsI x - 1) := fun h => ofE_in _ (by have := hin h; omega) (by have := hin h; omega)
  have Bp : errI x = 0 → 0 ≤ ofI (cellsI x) ∧ ofI (cellsI x) ≤ 18446744073709551615 := fun h => (rank_of _ (by have := hin h; omega) (by have := hin h; omega)).1
  have Bq : errI x = 0 → 0 ≤ ofI (cellsI x - 1) ∧ ofI (cellsI x - 1) ≤ 18446744073709551615 := fun h => (rank_of _ (by have := hin h; omega) (by have := hin h; omega)).1
  refine cells_walk x y n j (ofV j) (cellsI (ofV j)) (errI (ofV j)) (cellsI x) (errI x) (cellsI y) (errI y) (ofV (cellsI x)) (ofV (cellsI x - 1)) (ordI x (ofV (cellsI x))) (ordI (ofV (cellsI x - 1)) x) (ordI x y) w
    (by omega) (by omega) hk ?_ ?_ (err_cases y) ?_ (Lib.hid (gives10 j _ _ rfl jo.1.symm)) (Lib.hid (cells_any _ rj.1 rj.2)) (Lib.hid (cells_any x x0 x1)) (Lib.hid (cells_any y y0 y1))
    (Lib.hid fun h => gives10 _ _ _ rfl (Rp h).1.symm) (Lib.hid fun h => gives10 _ _ _ rfl (Rq h).1.symm) (Lib.hid fun h h0 => gives10 _ _ _ (by rw [h0]; rfl) (by decide +kernel))
    (Lib.hid fun h => by rw [(Rp h).2]; exact order_any x _ x0 x1 (Bp h).1 (Bp h).2) (Lib.hid fun h => by rw [(Rq h).2]; exact order_any _ x (Bq h).1 (Bq h).2 x0 x1) (Lib.hid (order_any x y x0 x1 y0 y1))
  · rcases Nat.lt_or_ge 64 j with h | h
    · exact .inr ⟨by omega, t3 h⟩
    · exact .inl ⟨by omega, (t2 h).1, (t2 h).2⟩
  · rcases cases_x with h | h
    · obtain ⟨f1, f2, f3, f4⟩ := ok_facts x x0 x1 h
      rw [(Rp h).2, (Rq h).2]
      rcases Int.lt_or_eq_of_le f1 with h5 | h5
      · exact .inr (.inl ⟨h, h5, f2, f3, f4 h5⟩)
      · exact .inr (.inr ⟨h, h5.symm, f3⟩)
    · exact .inl h
  · intro h1 h2
    rcases Int.lt_or_le 0 (ordI x y) with h3 | h3
    · exact .inl h3
    · exact .inr (cells_mono x y x0 x1 y0 y1 h1 h2 h3)
end Go.Proofs.Ytffahckigenfcaa
