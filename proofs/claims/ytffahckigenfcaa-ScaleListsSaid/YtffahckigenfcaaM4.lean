import Derived.Test.YtffahckigenfcaaW3
/- Plain facts for the laws: one rank orders all words; cells and whole numbers beside it. -/
namespace Go.Proofs.Ytffahckigenfcaa
open Go Ieee Go.RowKit

def rank (x : Int) : Int := srt x * 18446744073709551616 + (if srt x = 0 then 0 else keyI x)
theorem key_bd (x : Int) (h0 : 0 ≤ x) (h1 : x ≤ 18446744073709551615) : -9223372036854775808 < keyI x ∧ keyI x < 9223372036854775808 := by
  unfold keyI; split <;> omega
theorem ord_rank (x y : Int) (x0 : 0 ≤ x) (x1 : x ≤ 18446744073709551615) (y0 : 0 ≤ y) (y1 : y ≤ 18446744073709551615) : ordI x y = cmpI (rank x) (rank y) := by
  have a := key_bd x x0 x1
  have b := key_bd y y0 y1
  unfold ordI rank
  generalize srt x = s
  generalize srt y = t
  generalize keyI x = k at *
  generalize keyI y = l at *
  unfold cmpI
  by_cases h : s = t
  · subst h
    by_cases h0 : s = 0
    · subst h0; simp
    · rw [if_neg (by simp), if_neg h0, if_neg h0]
      (repeat' split) <;> omega
  · rw [if_pos h]
    by_cases h1 : s = 0 <;> by_cases h2 : t = 0 <;> simp only [h1, h2, if_true, if_false] <;> ((repeat' split) <;> omega)
theorem rank_srt (x y : Int) (x0 : 0 ≤ x) (x1 : x ≤ 18446744073709551615) (y0 : 0 ≤ y) (y1 : y ≤ 18446744073709551615) (h : rank x = rank y) : srt x = srt y := by
  have a := key_bd x x0 x1
  have b := key_bd y y0 y1
  unfold rank at h
  split at h <;> split at h <;> omega
theorem srt_le (x : Int) : 0 ≤ srt x ∧ srt x ≤ 6 := by unfold srt; (repeat' split) <;> omega
theorem rank_nan : rank 9221120237041090561 = 0 := by decide +kernel
theorem rank_0 (x : Int) (x0 : 0 ≤ x) (x1 : x ≤ 18446744073709551615) : 0 ≤ rank x := by
  have a := key_bd x x0 x1
  have b := srt_le x
  unfold rank; split <;> omega
theorem rank_inf (x : Int) (x0 : 0 ≤ x) (x1 : x ≤ 18446744073709551615) : rank x ≤ rank 9218868437227405312 := by
  have e : rank 9218868437227405312 = 6 * 18446744073709551616 + 9218868437227405312 := by decide +kernel
  rw [e]
  have a := key_bd x x0 x1
  have b := srt_le x
  unfold rank
  split
  · omega
  · by_cases h : srt x = 6
    · have : keyI x = 9218868437227405312 := by
        unfold srt at h
        unfold keyI
        (repeat' split at h) <;> first | omega | (split <;> omega)
      omega
    · omega

/-! ### Whole numbers -/
theorem val_bits (a : Nat) (h0 : 0 < a) (h : a ≤ 9007199254740992) : val (bitsN a) = a * 2 ^ 1074 := by
  unfold bitsN
  by_cases h1 : a = 9007199254740992
  · subst h1; decide +kernel
  · rw [if_neg h1]
    have l2 : a.log2 < 53 := by rw [Nat.log2_lt (by omega)]; omega
    have e5 := Nat.log2_self_le (n := a) (by omega)
    have e6 := Nat.lt_log2_self (n := a)
    have e7 : a * 2 ^ (52 - a.log2) < 9007199254740992 := by
      calc a * 2 ^ (52 - a.log2) < 2 ^ (a.log2 + 1) * 2 ^ (52 - a.log2) := Nat.mul_lt_mul_of_pos_right e6 (Nat.two_pow_pos _)
        _ = 2 ^ 53 := by rw [← Nat.pow_add]; congr 1; omega
    have e8 : 4503599627370496 ≤ a * 2 ^ (52 - a.log2) := by
      calc 2 ^ 52 = 2 ^ a.log2 * 2 ^ (52 - a.log2) := by rw [← Nat.pow_add]; congr 1; omega
        _ ≤ _ := Nat.mul_le_mul_right _ e5
    have e9 : a * 2 ^ (52 - a.log2) * 2 ^ (1022 + a.log2) = a * 2 ^ 1074 := by
      rw [Nat.mul_assoc, ← Nat.pow_add]; congr 2; omega
    rw [← e9]
    generalize a * 2 ^ (52 - a.log2) = z at *
    generalize a.log2 = L at *
    unfold val
    rw [if_neg (by omega)]
    have q1 : ((1023 + L) * 4503599627370496 + z - 4503599627370496) / 4503599627370496 = 1023 + L := by omega
    have q2 : ((1023 + L) * 4503599627370496 + z - 4503599627370496) % 4503599627370496 = z - 4503599627370496 := by omega
    rw [q1, q2, show 1023 + L - 1 = 1022 + L by omega, show 4503599627370496 + (z - 4503599627370496) = z by omega]
theorem bits_lt (a b : Nat) (h0 : 0 < a) (hb : b ≤ 9007199254740992) (h : a < b) : bitsN a < bitsN b := by
  have e1 := val_bits a h0 (by omega)
  have e2 := val_bits b (by omega) hb
  rcases Nat.lt_or_ge (bitsN a) (bitsN b) with h1 | h1
  · exact h1
  · exfalso
    have hp := Nat.two_pow_pos 1074
    have h3 : a * 2 ^ 1074 < b * 2 ^ 1074 := Nat.mul_lt_mul_of_pos_right h hp
    rw [← e1, ← e2] at h3
    rcases Nat.lt_or_eq_of_le h1 with h2 | h2
    · have := val_lt h2; omega
    · rw [h2] at h3; omega
theorem bits_pos (a : Nat) (h0 : 0 < a) (h : a ≤ 9007199254740992) : 4607182418800017408 ≤ bitsN a ∧ bitsN a ≤ 4845873199050653696 := by
  have e1 : bitsN 1 = 4607182418800017408 := by decide +kernel
  have e2 : bitsN 9007199254740992 = 4845873199050653696 := by decide +kernel
  constructor
  · rcases Nat.lt_or_eq_of_le (show 1 ≤ a from h0) with h1 | h1
    · have := bits_lt 1 a (by omega) h h1; omega
    · rw [← h1, e1]; exact Nat.le_refl _
  · rcases Nat.lt_or_eq_of_le h with h1 | h1
    · have := bits_lt a _ h0 (Nat.le_refl _) h1; omega
    · rw [h1, e2]; exact Nat.le_refl _
theorem ofI_pos (n : Int) (h0 : 0 < n) (h : n ≤ 9007199254740992) : ofI n = (bitsN n.toNat : Int) := by
  unfold ofI
  rw [if_neg (by omega), if_neg (by omega), show n.natAbs = n.toNat by omega]; omega
theorem ofI_neg (n : Int) (h0 : n < 0) (h : -9007199254740992 ≤ n) : ofI n = 9223372036854775808 + (bitsN (-n).toNat : Int) := by
  unfold ofI
  rw [if_neg (by omega), if_pos (by omega), show n.natAbs = (-n).toNat by omega]
/-- A whole number's rank. -/
theorem rank_of (n : Int) (h0 : -9007199254740992 ≤ n) (h : n ≤ 9007199254740992) :
    (0 ≤ ofI n ∧ ofI n ≤ 18446744073709551615) ∧ (0 < n → rank (ofI n) = 5 * 18446744073709551616 + (bitsN n.toNat : Int)) ∧ (n = 0 → rank (ofI n) = 4 * 18446744073709551616) ∧ (n < 0 → rank (ofI n) = 2 * 18446744073709551616 - (bitsN (-n).toNat : Int)) := by
  refine ⟨?_, fun hp => ?_, fun hp => ?_, fun hp => ?_⟩
  · rcases Int.lt_trichotomy n 0 with h1 | h1 | h1
    · have := bits_pos (-n).toNat (by omega) (by omega)
      rw [ofI_neg n h1 h0]; omega
    · subst h1; decide
    · have := bits_pos n.toNat (by omega) (by omega)
      rw [ofI_pos n h1 h]; omega
  · have hb := bits_pos n.toNat (by omega) (by omega)
    rw [ofI_pos n hp h]
    generalize bitsN n.toNat = z at *
    have hs : srt z = 5 := by
      unfold srt
      rw [if_neg (by omega), if_neg (by omega), if_neg (by omega), if_neg (by omega)]
    have hk : keyI z = z := by unfold keyI; rw [if_neg (by omega)]
    unfold rank
    rw [hs, hk, if_neg (by omega)]
  · subst hp; decide +kernel
  · have hb := bits_pos (-n).toNat (by omega) (by omega)
    rw [ofI_neg n hp h0]
    generalize bitsN (-n).toNat = z at *
    have hs : srt (9223372036854775808 + z) = 2 := by
      unfold srt
      rw [if_neg (by omega), if_neg (by omega), if_neg (by omega), if_pos (by omega)]
    have hk : keyI (9223372036854775808 + z) = -z := by unfold keyI; rw [if_pos (by omega)]; omega
    unfold rank
    rw [hs, hk, if_neg (by omega)]
    omega
theorem rank_of_lt (n m : Int) (n0 : -9007199254740992 ≤ n) (m1 : m ≤ 9007199254740992) (h : n < m) : rank (ofI n) < rank (ofI m) := by
  obtain ⟨_, a1, a2, a3⟩ := rank_of n n0 (by omega)
  obtain ⟨_, b1, b2, b3⟩ := rank_of m (by omega) m1
  rcases Int.lt_trichotomy n 0 with h1 | h1 | h1
  · have hb := bits_pos (-n).toNat (by omega) (by omega)
    rw [a3 h1]
    rcases Int.lt_trichotomy m 0 with h2 | h2 | h2
    · rw [b3 h2]
      have := bits_lt (-m).toNat (-n).toNat (by omega) (by omega) (by omega)
      omega
    · rw [b2 h2]; omega
    · have hc := bits_pos m.toNat (by omega) (by omega)
      rw [b1 h2]; omega
  · rw [a2 h1]
    have hc := bits_pos m.toNat (by omega) (by omega)
    rw [b1 (by omega)]; omega
  · rw [a1 h1, b1 (by omega)]
    have := bits_lt n.toNat m.toNat (by omega) (by omega) (by omega)
    omega
theorem ord_whole (n m : Int) (n0 : -9007199254740992 ≤ n) (n1 : n ≤ 9007199254740992) (m0 : -9007199254740992 ≤ m) (m1 : m ≤ 9007199254740992) : ordI (ofI n) (ofI m) = cmpI n m := by
  have a := (rank_of n n0 n1).1
  have b := (rank_of m m0 m1).1
  rw [ord_rank _ _ a.1 a.2 b.1 b.2]
  rcases Int.lt_trichotomy n m with h | h | h
  · have := rank_of_lt n m n0 m1 h
    unfold cmpI; rw [if_pos this, if_pos h]
  · subst h; unfold cmpI; simp
  · have := rank_of_lt m n m0 n1 h
    unfold cmpI; rw [if_neg (by omega), if_pos this, if_neg (by omega), if_pos h]
theorem of_inj (n m : Int) (n0 : -9007199254740992 ≤ n) (n1 : n ≤ 9007199254740992) (m0 : -9007199254740992 ≤ m) (m1 : m ≤ 9007199254740992) : (ofI n == ofI m) = (n == m) := by
  rw [Bool.eq_iff_iff]
  simp only [beq_iff_eq]
  constructor
  · intro h
    rcases Int.lt_trichotomy n m with h1 | h1 | h1
    · have := rank_of_lt n m n0 m1 h1; rw [h] at this; omega
    · exact h1
    · have := rank_of_lt m n m0 n1 h1; rw [h] at this; omega
  · intro h; rw [h]

/-! ### Cells -/
theorem ofN_tab : ∀ k : Fin 65, ∀ e : Fin 6, 2 ^ e.val ≤ k.val → k.val ≤ 2 ^ (e.val + 1) → ofI k.val = (((1023 + e.val) * 4503599627370496 + k.val * 2 ^ (52 - e.val) - 4503599627370496 : Nat) : Int) := by decide +kernel
/-- Of a word above nought: its cells, as a whole number's word, are not below it; one less is. -/
theorem cells_near (b : Nat) (h0 : 0 < b) (h : b ≤ 4634204016564240384) : 1 ≤ cellsN b ∧ cellsN b ≤ 64 ∧ (b : Int) ≤ ofI (cellsN b) ∧ ofI ((cellsN b : Int) - 1) < b := by
  unfold cellsN
  rw [if_neg (by omega)]
  by_cases h1 : b < 4607182418800017409
  · rw [if_pos h1]
    refine ⟨by omega, by omega, ?_, ?_⟩
    · rw [show ofI ((1 : Nat) : Int) = 4607182418800017408 by decide +kernel]; omega
    · rw [show ofI (((1 : Nat) : Int) - 1) = 0 by decide +kernel]; omega
  · rw [if_neg h1]
    by_cases h2 : b = 4634204016564240384
    · subst h2; decide +kernel
    · obtain ⟨e, he, f, hf, rfl⟩ : ∃ e, e < 6 ∧ ∃ f, f < 4503599627370496 ∧ b = (1023 + e) * 4503599627370496 + f := ⟨b / 4503599627370496 - 1023, by omega, b % 4503599627370496, by omega, by omega⟩
      have q1 : ((1023 + e) * 4503599627370496 + f) / 4503599627370496 = 1023 + e := by omega
      have q2 : ((1023 + e) * 4503599627370496 + f) % 4503599627370496 = f := by omega
      rw [q1, q2, show 1075 - (1023 + e) = 52 - e by omega]
      have key : ∀ st p : Nat, st * p = 4503599627370496 → 2 ^ (52 - e) = st → 2 ^ e = p → 0 < st → 1 ≤ p → p ≤ 32 → (e = 0 → 0 < f) →
          1 ≤ (4503599627370496 + f + 2 ^ (52 - e) - 1) / 2 ^ (52 - e) ∧ (4503599627370496 + f + 2 ^ (52 - e) - 1) / 2 ^ (52 - e) ≤ 64 ∧
          (((1023 + e) * 4503599627370496 + f : Nat) : Int) ≤ ofI (((4503599627370496 + f + 2 ^ (52 - e) - 1) / 2 ^ (52 - e) : Nat) : Int) ∧ ofI ((((4503599627370496 + f + 2 ^ (52 - e) - 1) / 2 ^ (52 - e) : Nat) : Int) - 1) < (((1023 + e) * 4503599627370496 + f : Nat) : Int) := by
        intro st p hsp h3 h4 hst hp1 hp2 hf0
        rw [h3]
        obtain ⟨k, hk⟩ : ∃ k, k = (4503599627370496 + f + st - 1) / st := ⟨_, rfl⟩
        rw [← hk]
        have k1 : k * st ≤ 4503599627370496 + f + st - 1 := by rw [hk]; exact Nat.div_mul_le_self _ _
        have k2 : 4503599627370496 + f + st - 1 < (k + 1) * st := by
          have d1 := Nat.div_add_mod (4503599627370496 + f + st - 1) st
          have d2 := Nat.mod_lt (4503599627370496 + f + st - 1) hst
          rw [← hk] at d1
          rw [Nat.add_mul, Nat.one_mul, Nat.mul_comm k st]
          omega
        rw [Nat.add_mul, Nat.one_mul] at k2
        have kp : p ≤ k := by
          rcases Nat.lt_or_ge k p with h5 | h5
          · have := Nat.mul_le_mul_right st (show k + 1 ≤ p from h5)
            rw [Nat.add_mul, Nat.one_mul, Nat.mul_comm p st, hsp] at this
            omega
          · exact h5
        have kq : k ≤ 2 * p := by
          rcases Nat.lt_or_ge (2 * p) k with h5 | h5
          · have := Nat.mul_le_mul_right st (show 2 * p + 1 ≤ k from h5)
            rw [Nat.add_mul, Nat.one_mul, Nat.mul_assoc, Nat.mul_comm p st, hsp] at this
            omega
          · exact h5
        have kn : f = 0 → k = p := by
          intro hz
          subst hz
          rcases Nat.lt_or_ge p k with h5 | h5
          · have := Nat.mul_le_mul_right st (show p + 1 ≤ k from h5)
            rw [Nat.add_mul, Nat.one_mul, Nat.mul_comm p st, hsp] at this
            omega
          · omega
        have t1 := ofN_tab ⟨k, by omega⟩ ⟨e, he⟩ (by simp only; omega) (by simp only; rw [Nat.pow_succ]; omega)
        simp only at t1
        rw [h3] at t1
        refine ⟨by omega, by omega, ?_, ?_⟩
        · rw [t1]; omega
        · by_cases hz : f = 0
          · have hkp := kn hz
            have he1 : 0 < e := by
              rcases Nat.eq_zero_or_pos e with h6 | h6
              · have := hf0 h6; omega
              · exact h6
            subst hz
            have hpe : 2 ^ (e - 1) * 2 = p := by rw [← h4, ← Nat.pow_succ]; congr 1; omega
            have t2 := ofN_tab ⟨k - 1, by omega⟩ ⟨e - 1, by omega⟩ (by simp only; have := Nat.two_pow_pos (e - 1); omega) (by simp only; rw [show e - 1 + 1 = e by omega]; omega)
            simp only at t2
            rw [show ((k : Int) - 1) = ((k - 1 : Nat) : Int) by omega, t2]
            have h7 : 2 ^ (52 - (e - 1)) = 2 * st := by rw [← h3, Nat.mul_comm, ← Nat.pow_succ]; congr 1; omega
            rw [h7]
            have h8 : (k - 1) * (2 * st) + 2 * st = 9007199254740992 := by
              rw [hkp, ← Nat.succ_mul, show (p - 1).succ = p by omega, ← Nat.mul_assoc, Nat.mul_comm p 2, Nat.mul_assoc, Nat.mul_comm p st, hsp]
            generalize (k - 1) * (2 * st) = z at *
            omega
          · have t2 := ofN_tab ⟨k - 1, by omega⟩ ⟨e, he⟩ (by
              simp only
              rcases Nat.lt_or_eq_of_le kp with h6 | h6
              · omega
              · exfalso
                rw [← h6, Nat.mul_comm p st, hsp] at k2
                omega) (by simp only; rw [Nat.pow_succ]; omega)
            simp only at t2
            rw [h3] at t2
            rw [show ((k : Int) - 1) = ((k - 1 : Nat) : Int) by omega, t2]
            have h8 : (k - 1) * st + st = k * st := by rw [← Nat.succ_mul]; congr 1; omega
            generalize (k - 1) * st = z at *
            omega
      have hcases : e = 0 ∨ e = 1 ∨ e = 2 ∨ e = 3 ∨ e = 4 ∨ e = 5 := by omega
      rcases hcases with rfl | rfl | rfl | rfl | rfl | rfl
      · exact key 4503599627370496 1 rfl rfl rfl (by omega) (by omega) (by omega) (by omega)
      · exact key 2251799813685248 2 rfl rfl rfl (by omega) (by omega) (by omega) (by omega)
      · exact key 1125899906842624 4 rfl rfl rfl (by omega) (by omega) (by omega) (by omega)
      · exact key 562949953421312 8 rfl rfl rfl (by omega) (by omega) (by omega) (by omega)
      · exact key 281474976710656 16 rfl rfl rfl (by omega) (by omega) (by omega) (by omega)
      · exact key 140737488355328 32 rfl rfl rfl (by omega) (by omega) (by omega) (by omega)
end Go.Proofs.Ytffahckigenfcaa
