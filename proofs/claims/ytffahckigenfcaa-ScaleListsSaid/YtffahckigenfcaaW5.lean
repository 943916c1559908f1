import Derived.Test.YtffahckigenfcaaW4
/- The document's cells, walked. -/
namespace Go.Proofs.Ytffahckigenfcaa
open Go.ChangeShapes Go.WideShapes Go.ChangeAt Go.RowKit
set_option linter.unusedVariables false

/-- The cells of a word by its exponent and fraction. -/
def stepE (e : Int) : Int := 2 ^ (1075 - e).toNat
def kE (e f : Int) : Int := (f + 4503599627370496 + stepE e - 1) / stepE e
theorem stepE_bd (e : Int) (h : 1023 ≤ e) : 1 ≤ stepE e ∧ stepE e ≤ 4503599627370496 := by
  unfold stepE
  have h1 : (2 : Nat) ^ (1075 - e).toNat ≤ 2 ^ 52 := Nat.pow_le_pow_right (by omega) (by omega)
  have h2 := Nat.two_pow_pos (1075 - e).toNat
  have e1 : ((2 : Int) ^ (1075 - e).toNat) = ((2 ^ (1075 - e).toNat : Nat) : Int) := by simp
  rw [e1]
  have h3 : (2 : Nat) ^ 52 = 4503599627370496 := rfl
  rw [h3] at h1
  generalize (2 : Nat) ^ (1075 - e).toNat = z at *
  omega
theorem srt_5 (x : Int) (h0 : 0 ≤ x) (h : srt x = 5) : 0 < x ∧ x < 9218868437227405312 := by
  unfold srt at h
  (repeat' split at h) <;> omega
theorem ok_34 (x : Int) (h0 : 0 ≤ x) (h1 : x ≤ 18446744073709551615) (h : srt x = 3 ∨ srt x = 4) : cellsI x = 0 ∧ errI x = 0 := by
  have hz : x % 9223372036854775808 = 0 := by
    unfold srt at h
    (repeat' split at h) <;> omega
  have hk : okC x = true := by
    simp only [okC, Bool.and_eq_true]
    have : keyI x = 0 := by unfold keyI; split <;> omega
    rw [this]; exact ⟨rfl, rfl⟩
  simp only [cellsI, errI, hk, if_true]
  refine ⟨?_, trivial⟩
  unfold cellsN
  rw [if_pos (by omega)]; rfl
theorem no_else (x : Int) (h0 : 0 ≤ x) (h1 : x ≤ 18446744073709551615) (h3 : srt x ≠ 3) (h4 : srt x ≠ 4) (h5 : srt x ≠ 5) : cellsI x = 0 ∧ errI x = 41 := by
  have hk : okC x = false := by
    rw [← Bool.not_eq_true]
    intro hk
    simp only [okC, Bool.and_eq_true] at hk
    have a1 := of_decide_eq_true hk.1
    have a2 := of_decide_eq_true hk.2
    unfold keyI at a1 a2
    unfold srt at h3 h4 h5
    (repeat' split at h5) <;> (repeat' split at a1) <;> omega
  simp [cellsI, errI, hk]
theorem ok_5 (x e f : Int) (hx : 0 < x) (hx2 : x < 9218868437227405312) (he : e = x / 4503599627370496 % 2048) (hf : f = x % 4503599627370496) :
    ((e < 1023 ∨ (e = 1023 ∧ f = 0)) → cellsI x = 1 ∧ errI x = 0) ∧ (1029 < e → cellsI x = 0 ∧ errI x = 41) ∧
    (¬ (e < 1023 ∨ (e = 1023 ∧ f = 0)) → e ≤ 1029 → (64 < kE e f → cellsI x = 0 ∧ errI x = 41) ∧ (kE e f ≤ 64 → cellsI x = kE e f ∧ errI x = 0)) := by
  have he' : e = x / 4503599627370496 := by omega
  have hkey : keyI x = x := by unfold keyI; rw [if_neg (by omega)]
  obtain ⟨n, rfl⟩ := Int.eq_ofNat_of_zero_le (show 0 ≤ x by omega)
  refine ⟨fun h => ?_, fun h => ?_, fun h h2 => ?_⟩
  · have hk : okC n = true := by
      simp only [okC, Bool.and_eq_true, hkey]
      exact ⟨decide_eq_true (by omega), decide_eq_true (by omega)⟩
    simp only [cellsI, errI, hk, if_true]
    refine ⟨?_, trivial⟩
    unfold cellsN
    rw [if_neg (by omega), if_pos (by omega)]; rfl
  · have hk : okC n = false := by
      rw [← Bool.not_eq_true]
      intro hk
      simp only [okC, Bool.and_eq_true, hkey] at hk
      have a2 := of_decide_eq_true hk.2
      omega
    simp [cellsI, errI, hk]
  · have hN : cellsN n = ((4503599627370496 + n % 4503599627370496) + 2 ^ (1075 - n / 4503599627370496) - 1) / 2 ^ (1075 - n / 4503599627370496) := by
      unfold cellsN
      rw [if_neg (by omega), if_neg (by omega)]
    have hK : kE e f = (cellsN n : Int) := by
      rw [hN]
      unfold kE stepE
      have e1 : (1075 - e).toNat = 1075 - n / 4503599627370496 := by omega
      rw [e1]
      have hp := Nat.two_pow_pos (1075 - n / 4503599627370496)
      have e2 : ((2 : Int) ^ (1075 - n / 4503599627370496)) = ((2 ^ (1075 - n / 4503599627370496) : Nat) : Int) := by simp
      rw [e2]
      generalize (2 : Nat) ^ (1075 - n / 4503599627370496) = z at *
      have e3 : f + 4503599627370496 + (z : Int) - 1 = ((4503599627370496 + n % 4503599627370496 + z - 1 : Nat) : Int) := by omega
      rw [e3]; simp
    have hb : n ≤ 4634204016564240384 ↔ kE e f ≤ 64 := by
      rw [hK]
      constructor
      · intro hle
        obtain ⟨_, _, _, h3⟩ := ceil_eq n (by omega) hle
        omega
      · intro hle
        have he9 : n / 4503599627370496 ≤ 1029 := by omega
        rcases Nat.lt_or_ge (n / 4503599627370496) 1029 with h9 | h9
        · omega
        · have h10 : n / 4503599627370496 = 1029 := by omega
          rw [hN, h10] at hle
          have : (4503599627370496 + n % 4503599627370496 + 2 ^ (1075 - 1029) - 1) / 2 ^ (1075 - 1029) ≤ 64 := by omega
          rw [show (2 : Nat) ^ (1075 - 1029) = 70368744177664 from rfl] at this
          omega
    refine ⟨fun h3 => ?_, fun h3 => ?_⟩
    · have hk : okC n = false := by
        rw [← Bool.not_eq_true]
        intro hk
        simp only [okC, Bool.and_eq_true, hkey] at hk
        have a2 := of_decide_eq_true hk.2
        have := hb.1 (by omega)
        omega
      simp [cellsI, errI, hk]
    · have hk : okC n = true := by
        simp only [okC, Bool.and_eq_true, hkey]
        exact ⟨decide_eq_true (by omega), decide_eq_true (by have := hb.2 h3; omega)⟩
      simp only [cellsI, errI, hk, if_true]
      exact ⟨by rw [hK]; rfl, trivial⟩

set_option maxRecDepth 100000 in
set_option maxHeartbeats 1000000 in
theorem rcells_loop (x s e f c er : Int) (w : World) (e1 : 1023 ≤ e) (e2 : e ≤ 1029) (f0 : 0 ≤ f) (f1 : f < 4503599627370496) (hne : ¬ (e = 1023 ∧ f = 0))
    (HS : Hid (∀ w, Calls Try.prog 14 #[.int .u64 x] w fun e' w' => e' = .returned (.int .i64 5) ∧ w' = w))
    (HP : Hid (∀ w, Calls Try.prog 24 #[.int .u64 x] w fun e' w' => e' = .returned (.tuple #[.int .u64 s, .int .i64 e, .int .u64 f]) ∧ w' = w))
    (HK : Hid ((64 < kE e f → c = 0 ∧ er = 41) ∧ (kE e f ≤ 64 → c = kE e f ∧ er = 0))) :
    Calls Try.prog 9 #[.int .u64 x] w fun e' w' => e' = .returned (.tuple #[.int .i64 c, .int .i64 er]) ∧ w' = w := by
  have HN := Lib.hid hne
  clear hne
  by_cases e3 : e = 1023
  · have q1 : (e == 1023) = true := by simpa using e3
    have q2 : (f == 0) = false := by have := HN.out; simp; omega
    clear HN e3
    go_enter Try.func9, Try.ntmps9
    go_wp2_with (first
      | (go_at_call 14; refine (HS.out _).mono ?_; rintro e' w' ⟨rfl, rfl⟩)
      | (go_at_call 24; refine (HP.out _).mono ?_; rintro e' w' ⟨rfl, rfl⟩))
    go_loop [9, 10] (fun st i => ∃ j : Nat, (j : Int) ≤ 1075 - e ∧ i = .int .i64 (e + j) ∧ st = .int .u64 ((2 : Int) ^ j) ∧ 1 ≤ (2 : Int) ^ j ∧ (2 : Int) ^ j ≤ 4503599627370496) (fun _ i => (1075 - intOf i).toNat)
    case atStart => exact ⟨0, by omega, by simp, by simp, by simp, by simp⟩
    case round =>
      obtain ⟨j, hj, rfl, rfl, b1, b2⟩ := hrel
      have HJ : Hid ((2 : Int) ^ (j + 1) = 2 * 2 ^ j) := Lib.hid (by rw [Int.pow_succ, Int.mul_comm])
      have HL : Hid ((j : Int) < 1075 - e → (2 : Int) ^ j < 4503599627370496) := Lib.hid (fun h => by
        have h1 : (2 : Nat) ^ j < 2 ^ 52 := Nat.pow_lt_pow_right (by omega) (by omega)
        have e1 : ((2 : Int) ^ j) = ((2 ^ j : Nat) : Int) := by simp
        rw [e1]
        have h3 : (2 : Nat) ^ 52 = 4503599627370496 := rfl
        omega)
      have HE : Hid (1075 - e ≤ (j : Int) → (2 : Int) ^ j = stepE e) := Lib.hid (fun h => by
        unfold stepE
        congr 1
        omega)
      have HP2 : Hid ((2 : Int) ^ j < 4503599627370496 → (2 : Int) ^ (j + 1) ≤ 4503599627370496) := Lib.hid (fun h => by
        have : (2 : Nat) ^ j < 2 ^ 52 := by
          have e1 : ((2 : Int) ^ j) = ((2 ^ j : Nat) : Int) := by simp
          rw [e1] at h
          have h3 : (2 : Nat) ^ 52 = 4503599627370496 := rfl
          omega
        have h4 : j < 52 := (Nat.pow_lt_pow_iff_right (by omega)).1 this
        have h5 : (2 : Nat) ^ (j + 1) ≤ 2 ^ 52 := Nat.pow_le_pow_right (by omega) (by omega)
        have e1 : ((2 : Int) ^ (j + 1)) = ((2 ^ (j + 1) : Nat) : Int) := by simp
        rw [e1]
        have h3 : (2 : Nat) ^ 52 = 4503599627370496 := rfl
        omega)
      generalize hz : (2 : Int) ^ j = z at *
      have HZ := Lib.hid hz
      clear hz
      by_cases hlt : (j : Int) < 1075 - e
      · go_wp2_with fail
        go_round
        case rel => exact ⟨j + 1, by omega, by go_num, by rw [HJ.out], by rw [HJ.out]; omega, HP2.out (HL.out hlt)⟩
        case measure => simp [intOf]; omega
      · have hz2 := HE.out (by omega)
        have hk : (f + 4503599627370496 + z - 1) / z = kE e f := by rw [hz2]; rfl
        have HK2 := Lib.hid hk
        have k0 : 0 ≤ (f + 4503599627370496 + z - 1) / z := Int.ediv_nonneg (by omega) (by omega)
        have k1 : (f + 4503599627370496 + z - 1) / z ≤ 9223372036854775807 := by
          have := Int.ediv_le_self z (show 0 ≤ f + 4503599627370496 + z - 1 by omega)
          omega
        clear hz2 hk HE HJ HL HP2 HZ
        by_cases hk : 64 < (f + 4503599627370496 + z - 1) / z
        · go_wp2_with fail
          go_ret2
          refine ⟨?_, rfl⟩
          have := HK.out.1 (by rw [← HK2.out]; exact hk)
          rw [this.1, this.2]
          rfl
        · go_wp2_with fail
          go_ret2
          refine ⟨?_, rfl⟩
          have := HK.out.2 (by rw [← HK2.out]; omega)
          rw [this.1, this.2, ← HK2.out]
          rfl
  · clear HN
    have e4 : 1023 < e := by omega
    go_enter Try.func9, Try.ntmps9
    go_wp2_with (first
      | (go_at_call 14; refine (HS.out _).mono ?_; rintro e' w' ⟨rfl, rfl⟩)
      | (go_at_call 24; refine (HP.out _).mono ?_; rintro e' w' ⟨rfl, rfl⟩))
    go_loop [9, 10] (fun st i => ∃ j : Nat, (j : Int) ≤ 1075 - e ∧ i = .int .i64 (e + j) ∧ st = .int .u64 ((2 : Int) ^ j) ∧ 1 ≤ (2 : Int) ^ j ∧ (2 : Int) ^ j ≤ 4503599627370496) (fun _ i => (1075 - intOf i).toNat)
    case atStart => exact ⟨0, by omega, by simp, by simp, by simp, by simp⟩
    case round =>
      obtain ⟨j, hj, rfl, rfl, b1, b2⟩ := hrel
      have HJ : Hid ((2 : Int) ^ (j + 1) = 2 * 2 ^ j) := Lib.hid (by rw [Int.pow_succ, Int.mul_comm])
      have HL : Hid ((j : Int) < 1075 - e → (2 : Int) ^ j < 4503599627370496) := Lib.hid (fun h => by
        have h1 : (2 : Nat) ^ j < 2 ^ 52 := Nat.pow_lt_pow_right (by omega) (by omega)
        have e1 : ((2 : Int) ^ j) = ((2 ^ j : Nat) : Int) := by simp
        rw [e1]
        have h3 : (2 : Nat) ^ 52 = 4503599627370496 := rfl
        omega)
      have HE : Hid (1075 - e ≤ (j : Int) → (2 : Int) ^ j = stepE e) := Lib.hid (fun h => by
        unfold stepE
        congr 1
        omega)
      have HP2 : Hid ((2 : Int) ^ j < 4503599627370496 → (2 : Int) ^ (j + 1) ≤ 4503599627370496) := Lib.hid (fun h => by
        have : (2 : Nat) ^ j < 2 ^ 52 := by
          have e1 : ((2 : Int) ^ j) = ((2 ^ j : Nat) : Int) := by simp
          rw [e1] at h
          have h3 : (2 : Nat) ^ 52 = 4503599627370496 := rfl
          omega
        have h4 : j < 52 := (Nat.pow_lt_pow_iff_right (by omega)).1 this
        have h5 : (2 : Nat) ^ (j + 1) ≤ 2 ^ 52 := Nat.pow_le_pow_right (by omega) (by omega)
        have e1 : ((2 : Int) ^ (j + 1)) = ((2 ^ (j + 1) : Nat) : Int) := by simp
        rw [e1]
        have h3 : (2 : Nat) ^ 52 = 4503599627370496 := rfl
        omega)
      generalize hz : (2 : Int) ^ j = z at *
      have HZ := Lib.hid hz
      clear hz
      by_cases hlt : (j : Int) < 1075 - e
      · go_wp2_with fail
        go_round
        case rel => exact ⟨j + 1, by omega, by go_num, by rw [HJ.out], by rw [HJ.out]; omega, HP2.out (HL.out hlt)⟩
        case measure => simp [intOf]; omega
      · have hz2 := HE.out (by omega)
        have hk : (f + 4503599627370496 + z - 1) / z = kE e f := by rw [hz2]; rfl
        have HK2 := Lib.hid hk
        have k0 : 0 ≤ (f + 4503599627370496 + z - 1) / z := Int.ediv_nonneg (by omega) (by omega)
        have k1 : (f + 4503599627370496 + z - 1) / z ≤ 9223372036854775807 := by
          have := Int.ediv_le_self z (show 0 ≤ f + 4503599627370496 + z - 1 by omega)
          omega
        clear hz2 hk HE HJ HL HP2 HZ
        by_cases hk : 64 < (f + 4503599627370496 + z - 1) / z
        · go_wp2_with fail
          go_ret2
          refine ⟨?_, rfl⟩
          have := HK.out.1 (by rw [← HK2.out]; exact hk)
          rw [this.1, this.2]
          rfl
        · go_wp2_with fail
          go_ret2
          refine ⟨?_, rfl⟩
          have := HK.out.2 (by rw [← HK2.out]; omega)
          rw [this.1, this.2, ← HK2.out]
          rfl

set_option maxRecDepth 100000 in
theorem rcells_any (x : Int) (h0 : 0 ≤ x) (h1 : x ≤ 18446744073709551615) (w : World) : Calls Try.prog 9 #[.int .u64 x] w fun e w' => e = .returned (.tuple #[.int .i64 (cellsI x), .int .i64 (errI x)]) ∧ w' = w := by
  have HS := Lib.hid (rsort_any x h0 h1)
  by_cases h3 : srt x = 3
  · obtain ⟨c1, c2⟩ := ok_34 x h0 h1 (.inl h3)
    rw [h3] at HS
    rw [c1, c2]
    clear c1 c2 h3
    go_enter Try.func9, Try.ntmps9
    go_wp2_with (go_at_call 14; refine (HS.out _).mono ?_; rintro e' w' ⟨rfl, rfl⟩)
    go_ret2
    exact ⟨rfl, rfl⟩
  · by_cases h4 : srt x = 4
    · obtain ⟨c1, c2⟩ := ok_34 x h0 h1 (.inr h4)
      rw [h4] at HS
      rw [c1, c2]
      clear c1 c2 h3 h4
      go_enter Try.func9, Try.ntmps9
      go_wp2_with (go_at_call 14; refine (HS.out _).mono ?_; rintro e' w' ⟨rfl, rfl⟩)
      go_ret2
      exact ⟨rfl, rfl⟩
    · by_cases h5 : srt x = 5
      · obtain ⟨x0, x1⟩ := srt_5 x h0 h5
        rw [h5] at HS
        obtain ⟨s, hs⟩ : ∃ s, s = x / 9223372036854775808 := ⟨_, rfl⟩
        obtain ⟨e, he⟩ : ∃ e, e = x / 4503599627370496 % 2048 := ⟨_, rfl⟩
        obtain ⟨f, hf⟩ : ∃ f, f = x % 4503599627370496 := ⟨_, rfl⟩
        have HP := Lib.hid (parts_of x s e f h0 h1 hs he hf)
        obtain ⟨k1, k2, k3⟩ := ok_5 x e f x0 x1 he hf
        have f0 : 0 ≤ f := by omega
        have f1 : f < 4503599627370496 := by omega
        have e0 : 0 ≤ e := by omega
        clear hs he hf h3 h4 h5
        by_cases g1 : e < 1023
        · obtain ⟨c1, c2⟩ := k1 (.inl g1)
          rw [c1, c2]
          clear c1 c2 k1 k2 k3
          go_enter Try.func9, Try.ntmps9
          go_wp2_with (first
            | (go_at_call 14; refine (HS.out _).mono ?_; rintro e' w' ⟨rfl, rfl⟩)
            | (go_at_call 24; refine (HP.out _).mono ?_; rintro e' w' ⟨rfl, rfl⟩))
          go_ret2
          exact ⟨rfl, rfl⟩
        · by_cases g2 : e = 1023 ∧ f = 0
          · obtain ⟨c1, c2⟩ := k1 (.inr g2)
            rw [c1, c2]
            clear c1 c2 k1 k2 k3
            obtain ⟨rfl, rfl⟩ := g2
            go_enter Try.func9, Try.ntmps9
            go_wp2_with (first
              | (go_at_call 14; refine (HS.out _).mono ?_; rintro e' w' ⟨rfl, rfl⟩)
              | (go_at_call 24; refine (HP.out _).mono ?_; rintro e' w' ⟨rfl, rfl⟩))
            go_ret2
            exact ⟨rfl, rfl⟩
          · by_cases g3 : 1029 < e
            · obtain ⟨c1, c2⟩ := k2 g3
              rw [c1, c2]
              clear c1 c2 k1 k2 k3 g1 g2
              have g4 : 1023 < e := by omega
              go_enter Try.func9, Try.ntmps9
              go_wp2_with (first
                | (go_at_call 14; refine (HS.out _).mono ?_; rintro e' w' ⟨rfl, rfl⟩)
                | (go_at_call 24; refine (HP.out _).mono ?_; rintro e' w' ⟨rfl, rfl⟩))
              go_ret2
              exact ⟨rfl, rfl⟩
            · exact rcells_loop x s e f _ _ w (by omega) (by omega) f0 f1 g2 HS HP (Lib.hid (k3 (by omega) (by omega)))
      · obtain ⟨c1, c2⟩ := no_else x h0 h1 h3 h4 h5
        rw [c1, c2]
        clear c1 c2
        generalize srt x = s at *
        have q3 : (s == 3) = false := by simpa using h3
        have q4 : (s == 4) = false := by simpa using h4
        have q5 : (s != 5) = true := by simpa using h5
        go_enter Try.func9, Try.ntmps9
        go_wp2_with (go_at_call 14; refine (HS.out _).mono ?_; rintro e' w' ⟨rfl, rfl⟩)
        go_ret2
        exact ⟨rfl, rfl⟩
end Go.Proofs.Ytffahckigenfcaa
