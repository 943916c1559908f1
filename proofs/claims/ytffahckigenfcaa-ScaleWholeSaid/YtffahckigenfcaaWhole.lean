import Derived.Test.YtffahckigenfcaaW6
import Derived.Test.YtffahckigenfcaaM4
/- The law ScaleWhole, walked. -/
namespace Go.Proofs.Ytffahckigenfcaa
open Go.ChangeShapes Go.WideShapes Go.ChangeAt Go.RowKit
set_option linter.unusedVariables false

abbrev Gives (f : FuncId) (args : Array Value) (v : Value) : Prop := ∀ w, Calls Try.prog f args w fun e w' => e = .returned v ∧ w' = w
set_option maxRecDepth 100000 in
set_option maxHeartbeats 1000000 in
/-- One of the two is too great. -/
theorem whole_out (n m x y e f : Int) (w : World) (he : (n < -9007199254740992 ∧ e = 41) ∨ (9007199254740992 < n ∧ e = 41) ∨ (-9007199254740992 ≤ n ∧ n ≤ 9007199254740992 ∧ e = 0))
    (hf : (m < -9007199254740992 ∧ f = 41) ∨ (9007199254740992 < m ∧ f = 41) ∨ (-9007199254740992 ≤ m ∧ m ≤ 9007199254740992 ∧ f = 0)) (hne : ¬ (e = 0 ∧ f = 0))
    (Hn : Hid (Gives 10 #[.int .i64 n] (.tuple #[.int .u64 x, .int .i64 e]))) (Hm : Hid (Gives 10 #[.int .i64 m] (.tuple #[.int .u64 y, .int .i64 f]))) :
    Calls Try.prog 6 #[.int .i64 n, .int .i64 m] w fun e w' => e = .returned (.bool true) ∧ w' = w := by
  rcases he with ⟨he, rfl⟩ | ⟨he, rfl⟩ | ⟨he, he2, rfl⟩ <;> rcases hf with ⟨hf, rfl⟩ | ⟨hf, rfl⟩ | ⟨hf, hf2, rfl⟩
  all_goals first | (exfalso; omega) | skip
  all_goals clear hne
  all_goals first | (have d1 : decide (m ≤ 9007199254740992) = false := (by simp; omega)) | skip
  all_goals
    go_enter Try.func6, Try.ntmps6
    go_wp2_with (first
      | (go_at_call 10; (first | (with_reducible refine (Hn.out _).mono ?_) | (with_reducible refine (Hm.out _).mono ?_)); rintro e' w' ⟨rfl, rfl⟩)
      | (go_at_call 12; refine (alive_any _).mono ?_; rintro e' w' ⟨rfl, rfl⟩))
    go_ret
    exact ⟨rfl, rfl⟩
set_option maxRecDepth 100000 in
set_option maxHeartbeats 1000000 in
theorem whole_in (n m x y z k : Int) (w : World) (n0 : -9007199254740992 ≤ n) (n1 : n ≤ 9007199254740992) (m0 : -9007199254740992 ≤ m) (m1 : m ≤ 9007199254740992)
    (hc : (n < m ∧ (n == m) = false ∧ (x == y) = false ∧ k = -1) ∨ (m < n ∧ (n == m) = false ∧ (x == y) = false ∧ k = 1) ∨ (n = m ∧ x = y ∧ k = 0))
    (hx : n = 0 ∨ ((n == 0) = false ∧ bits BinOp.xor IntKind.u64 x z = 9223372036854775808))
    (Hn : Hid (Gives 10 #[.int .i64 n] (.tuple #[.int .u64 x, .int .i64 0]))) (Hm : Hid (Gives 10 #[.int .i64 m] (.tuple #[.int .u64 y, .int .i64 0]))) (Hz : Hid (Gives 10 #[.int .i64 (-n)] (.tuple #[.int .u64 z, .int .i64 0])))
    (Ho : Hid (Gives 15 #[.int .u64 x, .int .u64 y] (.int .i64 k))) :
    Calls Try.prog 6 #[.int .i64 n, .int .i64 m] w fun e w' => e = .returned (.bool true) ∧ w' = w := by
  rcases hc with ⟨hc, q1, q2, rfl⟩ | ⟨hc, q1, q2, rfl⟩ | ⟨rfl, rfl, rfl⟩ <;> rcases hx with rfl | ⟨q3, q4⟩
  all_goals
    go_enter Try.func6, Try.ntmps6
    go_wp2_with (first
      | (go_at_call 10; (first | (with_reducible refine (Hn.out _).mono ?_) | (with_reducible refine (Hm.out _).mono ?_) | (with_reducible refine (Hz.out _).mono ?_)); rintro e' w' ⟨rfl, rfl⟩)
      | (go_at_call 15; refine (Ho.out _).mono ?_; rintro e' w' ⟨rfl, rfl⟩)
      | (go_at_call 12; refine (alive_any _).mono ?_; rintro e' w' ⟨rfl, rfl⟩))
    go_ret
    exact ⟨rfl, rfl⟩

theorem xor_u64 (b : Nat) (hb : b < 9223372036854775808) : bits BinOp.xor IntKind.u64 (9223372036854775808 + b) b = 9223372036854775808 ∧ bits BinOp.xor IntKind.u64 b (9223372036854775808 + b) = 9223372036854775808 := by
  have e1 : (BitVec.ofInt 64 (9223372036854775808 + (b : Int))).toNat = b + 9223372036854775808 := by rw [BitVec.toNat_ofInt]; omega
  have e2 : (BitVec.ofInt 64 (b : Int)).toNat = b := by rw [BitVec.toNat_ofInt]; omega
  have e3 : (b + 9223372036854775808) ^^^ b = 9223372036854775808 := by
    have := xor_top b (by omega)
    rw [if_neg (by omega)] at this
    rw [← this, Nat.xor_comm b, Nat.xor_assoc, Nat.xor_self, Nat.xor_zero]
  have e4 : (BitVec.ofInt 64 (9223372036854775808 + (b : Int)) ^^^ BitVec.ofInt 64 (b : Int)).toNat = 9223372036854775808 := by rw [BitVec.toNat_xor, e1, e2, e3]
  have e5 : (BitVec.ofInt 64 (b : Int) ^^^ BitVec.ofInt 64 (9223372036854775808 + (b : Int))).toNat = 9223372036854775808 := by rw [BitVec.toNat_xor, e1, e2, Nat.xor_comm, e3]
  constructor
  · show IntKind.u64.wrap ((BitVec.ofInt 64 (9223372036854775808 + (b : Int)) ^^^ BitVec.ofInt 64 (b : Int)).toNat : Int) = _
    rw [e4]; rfl
  · show IntKind.u64.wrap ((BitVec.ofInt 64 (b : Int) ^^^ BitVec.ofInt 64 (9223372036854775808 + (b : Int))).toNat : Int) = _
    rw [e5]; rfl
theorem gives10 (n v e : Int) (hv : v = ofV n) (he : e = ofE n) : Gives 10 #[.int .i64 n] (.tuple #[.int .u64 v, .int .i64 e]) := by
  subst hv he; exact of_any n
theorem whole_law (n m : Int) (w : World) : Calls Try.prog 6 #[.int .i64 n, .int .i64 m] w fun e w' => e = .returned (.bool true) ∧ w' = w := by
  have ec : ∀ n, (n < -9007199254740992 ∧ ofE n = 41) ∨ (9007199254740992 < n ∧ ofE n = 41) ∨ (-9007199254740992 ≤ n ∧ n ≤ 9007199254740992 ∧ ofE n = 0) := by
    intro n
    unfold ofE
    split <;> omega
  by_cases h : ofE n = 0 ∧ ofE m = 0
  · have hn := ec n
    have hm := ec m
    have n0 : -9007199254740992 ≤ n := by omega
    have n1 : n ≤ 9007199254740992 := by omega
    have m0 : -9007199254740992 ≤ m := by omega
    have m1 : m ≤ 9007199254740992 := by omega
    have vo : ∀ n, -9007199254740992 ≤ n → n ≤ 9007199254740992 → ofI n = ofV n ∧ (0 : Int) = ofE n := fun n a b => by
      unfold ofV ofE
      rw [if_neg (by omega), if_neg (by omega)]
      exact ⟨rfl, rfl⟩
    have hr := (rank_of n n0 n1).1
    have hr2 := (rank_of m m0 m1).1
    have oi := of_inj n m n0 n1 m0 m1
    refine whole_in n m (ofI n) (ofI m) (ofI (-n)) (cmpI n m) w n0 n1 m0 m1 ?_ ?_ (Lib.hid (gives10 n _ _ (vo n n0 n1).1 (vo n n0 n1).2)) (Lib.hid (gives10 m _ _ (vo m m0 m1).1 (vo m m0 m1).2)) (Lib.hid (gives10 (-n) _ _ (vo (-n) (by omega) (by omega)).1 (vo (-n) (by omega) (by omega)).2)) (Lib.hid (fun w => ?_))
    · rw [oi]
      rcases Int.lt_trichotomy n m with h1 | h1 | h1
      · have e : (n == m) = false := by simp; omega
        exact .inl ⟨h1, e, e, by unfold cmpI; rw [if_pos h1]⟩
      · subst h1
        exact .inr (.inr ⟨rfl, rfl, by unfold cmpI; simp⟩)
      · have e : (n == m) = false := by simp; omega
        exact .inr (.inl ⟨h1, e, e, by unfold cmpI; rw [if_neg (by omega), if_pos h1]⟩)
    · rcases Int.lt_trichotomy n 0 with h1 | h1 | h1
      · have hb := bits_pos (-n).toNat (by omega) (by omega)
        refine .inr ⟨by simp; omega, ?_⟩
        rw [ofI_neg n h1 n0, ofI_pos (-n) (by omega) (by omega)]
        exact (xor_u64 _ (by omega)).1
      · exact .inl h1
      · have hb := bits_pos n.toNat (by omega) (by omega)
        refine .inr ⟨by simp; omega, ?_⟩
        rw [ofI_pos n h1 n1, ofI_neg (-n) (by omega) (by omega), show (- -n).toNat = n.toNat by omega]
        exact (xor_u64 _ (by omega)).2
    · rw [← ord_whole n m n0 n1 m0 m1]
      exact order_any _ _ hr.1 hr.2 hr2.1 hr2.2 w
  · exact whole_out n m (ofV n) (ofV m) (ofE n) (ofE m) w (ec n) (ec m) h (Lib.hid (gives10 n _ _ rfl rfl)) (Lib.hid (gives10 m _ _ rfl rfl))
end Go.Proofs.Ytffahckigenfcaa
