import Derived.Test.YtffahckigenfcaaW3
/- The document's cells, and both functions 'Of', walked. -/
namespace Go.Proofs.Ytffahckigenfcaa
open Go.ChangeShapes Go.WideShapes Go.ChangeAt Go.RowKit
set_option linter.unusedVariables false

theorem conv_of (n : Int) (w : World) : (convert 3 39 (.int .i64 n)).run Try.prog w = .ok (.float .f64 (FloatKind.f64.nearest n)) w := rfl
def ofV (n : Int) : Int := if n < -9007199254740992 ∨ 9007199254740992 < n then 0 else ofI n
def ofE (n : Int) : Int := if n < -9007199254740992 ∨ 9007199254740992 < n then 41 else 0
theorem of_any (n : Int) (w : World) : Calls Try.prog 10 #[.int .i64 n] w fun e w' => e = .returned (.tuple #[.int .u64 (ofV n), .int .i64 (ofE n)]) ∧ w' = w := by
  by_cases h1 : n < -9007199254740992
  · rw [show ofV n = 0 by simp [ofV, h1], show ofE n = 41 by simp [ofE, h1]]
    go_enter Try.func10, Try.ntmps10
    go_wp2_with fail
    go_ret2
    exact ⟨rfl, rfl⟩
  · by_cases h2 : 9007199254740992 < n
    · rw [show ofV n = 0 by simp [ofV, h2], show ofE n = 41 by simp [ofE, h2]]
      go_enter Try.func10, Try.ntmps10
      go_wp2_with fail
      go_ret2
      exact ⟨rfl, rfl⟩
    · have hn := nearest_ofI n (by omega) (by omega)
      rw [show ofV n = ofI n by simp [ofV, h1, h2], show ofE n = 0 by simp [ofE, h1, h2], ← hn]
      have cv := conv_of n
      have h25 := call25
      clear hn
      generalize FloatKind.f64.nearest n = d at *
      go_enter Try.func10, Try.ntmps10
      go_wp2
      go_ret2
      exact ⟨rfl, rfl⟩

/-! ### The document's 'Of' -/
def R1 (a M e : Int) : Prop := ∃ j : Nat, j ≤ 52 ∧ M = a * 2 ^ j ∧ e = 1075 - j ∧ (j = 0 ∨ M < 9007199254740992)
def R2 (a M e : Int) : Prop := (4503599627370496 ≤ M ∧ M < 9007199254740992 ∧ e * 4503599627370496 + M - 4503599627370496 = (bitsN a.toNat : Int)) ∨ (M = 9007199254740992 ∧ e = 1075 ∧ a = 9007199254740992)
theorem r1_start (a : Int) : R1 a a 1075 := ⟨0, by omega, by simp, by omega, .inl rfl⟩
theorem r1_step (a M e : Int) (ha : 1 ≤ a) (h : R1 a M e) (hM : M < 4503599627370496) : R1 a (2 * M) (e - 1) := by
  obtain ⟨j, hj, rfl, rfl, _⟩ := h
  refine ⟨j + 1, ?_, ?_, by omega, .inr (by omega)⟩
  · rcases Nat.lt_or_ge j 52 with h | h
    · omega
    · have : j = 52 := by omega
      subst this
      rw [show (2 : Int) ^ 52 = 4503599627370496 from rfl] at hM
      omega
  · rw [Int.pow_succ, ← Int.mul_assoc, ← Int.mul_assoc, Int.mul_comm 2 a, Int.mul_right_comm]
theorem r1_end (a M e : Int) (ha : 1 ≤ a) (hb : a ≤ 9007199254740992) (h : R1 a M e) (hM : 4503599627370496 ≤ M) : R2 a M e := by
  obtain ⟨j, hj, rfl, rfl, hz⟩ := h
  obtain ⟨n, rfl⟩ := Int.eq_ofNat_of_zero_le (show 0 ≤ a by omega)
  have e1 : ((n : Int) * 2 ^ j) = ((n * 2 ^ j : Nat) : Int) := by simp
  rw [e1] at hM hz ⊢
  by_cases h2 : n * 2 ^ j < 9007199254740992
  · left
    have := bitsN_of n j (by omega) h2 hj
    simp only [Int.toNat_natCast]
    rw [this]
    generalize n * 2 ^ j = z at *
    omega
  · right
    rcases hz with rfl | hz
    · simp at h2 ⊢
      omega
    · omega
theorem r2_step (a M e : Int) (h : R2 a M e) (hM : 9007199254740992 ≤ M) : M = 9007199254740992 ∧ e = 1075 ∧ R2 a 4503599627370496 1076 := by
  rcases h with ⟨_, h, _⟩ | ⟨rfl, rfl, rfl⟩
  · omega
  · exact ⟨rfl, rfl, .inl ⟨by omega, by omega, by decide +kernel⟩⟩
theorem r2_end (a M e : Int) (h : R2 a M e) (hM : M < 9007199254740992) : 4503599627370496 ≤ M ∧ e * 4503599627370496 + M - 4503599627370496 = (bitsN a.toNat : Int) := by
  rcases h with ⟨h1, _, h2⟩ | ⟨rfl, _, _⟩
  · exact ⟨h1, h2⟩
  · omega
theorem r2_bd (a M e : Int) (h : R2 a M e) : 4503599627370496 ≤ M ∧ M ≤ 9007199254740992 := by
  rcases h with ⟨h1, _, h2⟩ | ⟨rfl, _, _⟩ <;> omega

theorem negmost (w : World) : (Op.unary .neg (.int .i64 9007199254740992)).run Try.prog w = .ok (.int .i64 (-9007199254740992)) w := by kernel_rfl
theorem convu (n : Int) (h0 : 0 ≤ n) (h1 : n ≤ 9223372036854775807) (w : World) : (convert 3 22 (.int .i64 n)).run Try.prog w = .ok (.int .u64 n) w := by
  go_simp
  exact IntWalk.u64_in n (by omega)
set_option maxRecDepth 100000 in
theorem rof_pos (a v : Int) (ha : 1 ≤ a) (hb : a ≤ 9007199254740992) (hv' : v = (bitsN a.toNat : Int)) (w : World) :
    Calls Try.prog 11 #[.int .i64 a] w fun e w' => e = .returned (.tuple #[.int .u64 v, .int .i64 0]) ∧ w' = w := by
  have HV := Lib.hid hv'
  clear hv'
  have hmost := negmost
  have hcv := convu a (by omega) (by omega)
  go_enter Try.func11, Try.ntmps11
  go_wp2_with fail
  go_loop [6, 7] (fun m e => ∃ M E : Int, m = .int .u64 M ∧ e = .int .u64 E ∧ 1 ≤ M ∧ M ≤ 9007199254740992 ∧ 1023 ≤ E ∧ E ≤ 1075 ∧ R1 a M E) (fun m _ => 9007199254740992 - (intOf m).toNat)
  case atStart => exact ⟨a, 1075, rfl, rfl, by omega, by omega, by omega, by omega, r1_start a⟩
  case round =>
    obtain ⟨M, E, rfl, rfl, hM1, hM2, hE1, hE2, hR⟩ := hrel
    have HR := Lib.hid hR
    clear hR
    by_cases hlt : M < 4503599627370496
    · have hR' := r1_step a M E ha HR.out hlt
      have hE3 : 1023 ≤ E - 1 := by obtain ⟨j, h1, _, h2, _⟩ := hR'; omega
      have HR' := Lib.hid hR'
      clear hR' HR
      go_wp2_with fail
      go_round
      case rel => exact ⟨2 * M, E - 1, rfl, rfl, by omega, by omega, by omega, by omega, HR'.out⟩
      case measure => simp [intOf]; omega
    · have H2 := Lib.hid (r1_end a M E ha hb HR.out (by omega))
      clear HR
      go_wp2_with fail
      go_loop [6, 7] (fun m e => ∃ M E : Int, m = .int .u64 M ∧ e = .int .u64 E ∧ 1 ≤ M ∧ M ≤ 9007199254740992 ∧ 1023 ≤ E ∧ E ≤ 1076 ∧ R2 a M E) (fun m _ => (intOf m).toNat)
      case atStart => exact ⟨M, E, rfl, rfl, by omega, by omega, by omega, by omega, H2.out⟩
      case round =>
        clear H2 hlt hM1 hM2 hE1 hE2
        obtain ⟨M', E', rfl, rfl, hM1, hM2, hE1, hE2, hR⟩ := hrel
        have HR := Lib.hid hR
        clear hR
        by_cases hlt : 9007199254740992 ≤ M'
        · obtain ⟨rfl, rfl, hR'⟩ := r2_step a M' E' HR.out hlt
          have HR' := Lib.hid hR'
          clear hR' HR
          go_wp2_with fail
          go_round
          case rel => exact ⟨4503599627370496, 1076, rfl, rfl, by omega, by omega, by omega, by omega, HR'.out⟩
          case measure => simp [intOf]
        · obtain ⟨q1, q2⟩ := r2_end a M' E' HR.out (by omega)
          have HQ := Lib.hid q2
          have B1 := bitsN_lt a.toNat (by omega) (by omega)
          have q3 : E' * 4503599627370496 + M' - 4503599627370496 < 9223372036854775808 := by omega
          have q4 : 0 ≤ E' * 4503599627370496 + M' - 4503599627370496 := by omega
          clear q2 HR B1
          go_wp2_with fail
          go_ret2
          refine ⟨?_, rfl⟩
          rw [HV.out, ← HQ.out]
          rfl

theorem convn (n : Int) (h0 : 1 ≤ n) (h1 : n ≤ 9223372036854775807) (w : World) : (convert 3 22 (.int .i64 (-n))).run Try.prog w = .ok (.int .u64 (18446744073709551616 - n)) w := by
  go_simp
  have : IntKind.u64.wrap (-n) = (-n) % 18446744073709551616 := rfl
  rw [this]; omega
theorem negneg (n : Int) (h0 : 1 ≤ n) (h1 : n ≤ 9223372036854775807) (w : World) : (Op.unary .neg (.int .i64 (-n))).run Try.prog w = .ok (.int .i64 n) w := by
  show (Op.intArith .sub .i64 0 (-n)).run Try.prog w = _
  go_simp
  exact IntWalk.i64_in n (by omega)
set_option maxRecDepth 100000 in
theorem rof_neg (a v : Int) (ha : 1 ≤ a) (hb : a ≤ 9007199254740992) (hv' : v = 9223372036854775808 + (bitsN a.toNat : Int)) (w : World) :
    Calls Try.prog 11 #[.int .i64 (-a)] w fun e w' => e = .returned (.tuple #[.int .u64 v, .int .i64 0]) ∧ w' = w := by
  have HV := Lib.hid hv'
  clear hv'
  have hmost := negmost
  have hcv := convu a (by omega) (by omega)
  have hcn := convn a ha (by omega)
  have hng := negneg a ha (by omega)
  go_enter Try.func11, Try.ntmps11
  go_wp2_with fail
  go_loop [6, 7] (fun m e => ∃ M E : Int, m = .int .u64 M ∧ e = .int .u64 E ∧ 1 ≤ M ∧ M ≤ 9007199254740992 ∧ 1023 ≤ E ∧ E ≤ 1075 ∧ R1 a M E) (fun m _ => 9007199254740992 - (intOf m).toNat)
  case atStart => exact ⟨a, 1075, rfl, rfl, by omega, by omega, by omega, by omega, r1_start a⟩
  case round =>
    obtain ⟨M, E, rfl, rfl, hM1, hM2, hE1, hE2, hR⟩ := hrel
    have HR := Lib.hid hR
    clear hR
    by_cases hlt : M < 4503599627370496
    · have hR' := r1_step a M E ha HR.out hlt
      have hE3 : 1023 ≤ E - 1 := by obtain ⟨j, h1, _, h2, _⟩ := hR'; omega
      have HR' := Lib.hid hR'
      clear hR' HR
      go_wp2_with fail
      go_round
      case rel => exact ⟨2 * M, E - 1, rfl, rfl, by omega, by omega, by omega, by omega, HR'.out⟩
      case measure => simp [intOf]; omega
    · have H2 := Lib.hid (r1_end a M E ha hb HR.out (by omega))
      clear HR
      go_wp2_with fail
      go_loop [6, 7] (fun m e => ∃ M E : Int, m = .int .u64 M ∧ e = .int .u64 E ∧ 1 ≤ M ∧ M ≤ 9007199254740992 ∧ 1023 ≤ E ∧ E ≤ 1076 ∧ R2 a M E) (fun m _ => (intOf m).toNat)
      case atStart => exact ⟨M, E, rfl, rfl, by omega, by omega, by omega, by omega, H2.out⟩
      case round =>
        clear H2 hlt hM1 hM2 hE1 hE2
        obtain ⟨M', E', rfl, rfl, hM1, hM2, hE1, hE2, hR⟩ := hrel
        have HR := Lib.hid hR
        clear hR
        by_cases hlt : 9007199254740992 ≤ M'
        · obtain ⟨rfl, rfl, hR'⟩ := r2_step a M' E' HR.out hlt
          have HR' := Lib.hid hR'
          clear hR' HR
          go_wp2_with fail
          go_round
          case rel => exact ⟨4503599627370496, 1076, rfl, rfl, by omega, by omega, by omega, by omega, HR'.out⟩
          case measure => simp [intOf]
        · obtain ⟨q1, q2⟩ := r2_end a M' E' HR.out (by omega)
          have HQ := Lib.hid q2
          have B1 := bitsN_lt a.toNat (by omega) (by omega)
          have q3 : 9223372036854775808 + E' * 4503599627370496 + M' - 4503599627370496 < 18446744073709551616 := by omega
          have q4 : 0 ≤ 9223372036854775808 + E' * 4503599627370496 + M' - 4503599627370496 := by omega
          clear q2 HR B1
          go_wp2_with fail
          go_ret2
          refine ⟨?_, rfl⟩
          rw [show v = 9223372036854775808 + E' * 4503599627370496 + M' - 4503599627370496 by have := HV.out; have := HQ.out; omega]
          rfl

theorem rof_any (n : Int) (w : World) : Calls Try.prog 11 #[.int .i64 n] w fun e w' => e = .returned (.tuple #[.int .u64 (ofV n), .int .i64 (ofE n)]) ∧ w' = w := by
  have hmost := negmost
  by_cases h1 : n < -9007199254740992
  · rw [show ofV n = 0 by simp [ofV, h1], show ofE n = 41 by simp [ofE, h1]]
    go_enter Try.func11, Try.ntmps11
    go_wp2_with fail
    go_ret2
    exact ⟨rfl, rfl⟩
  · by_cases h2 : 9007199254740992 < n
    · rw [show ofV n = 0 by simp [ofV, h2], show ofE n = 41 by simp [ofE, h2]]
      go_enter Try.func11, Try.ntmps11
      go_wp2_with fail
      go_ret2
      exact ⟨rfl, rfl⟩
    · rw [show ofV n = ofI n by simp [ofV, h1, h2], show ofE n = 0 by simp [ofE, h1, h2]]
      by_cases h3 : n = 0
      · subst h3
        rw [show ofI 0 = 0 from rfl]
        go_enter Try.func11, Try.ntmps11
        go_wp2_with fail
        go_ret2
        exact ⟨rfl, rfl⟩
      · by_cases h4 : n < 0
        · obtain ⟨a, rfl⟩ : ∃ a, n = -a := ⟨-n, by omega⟩
          refine rof_neg a _ (by omega) (by omega) ?_ w
          unfold ofI
          rw [if_neg h3, if_pos h4, show (-a).natAbs = a.toNat by omega]
        · refine rof_pos n _ (by omega) (by omega) ?_ w
          unfold ofI
          rw [if_neg h3, if_neg h4, show n.natAbs = n.toNat by omega]
          omega
end Go.Proofs.Ytffahckigenfcaa
