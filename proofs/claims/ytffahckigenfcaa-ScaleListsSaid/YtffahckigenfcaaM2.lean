import Derived.Test.YtffahckigenfcaaM1
import Derived.IntWalk
import Derived.RowKit
/- The sorts and the order of float64's words, by plain numbers. -/
namespace Go.Proofs.Ytffahckigenfcaa
open Go Ieee Go.RowKit

def srt (x : Int) : Int :=
  if 9218868437227405312 < x % 9223372036854775808 then 0
  else if x % 9223372036854775808 = 9218868437227405312 then (if 9223372036854775808 ≤ x then 1 else 6)
  else if x % 9223372036854775808 = 0 then (if 9223372036854775808 ≤ x then 3 else 4)
  else if 9223372036854775808 ≤ x then 2 else 5
def keyI (x : Int) : Int := if 9223372036854775808 ≤ x then -(x - 9223372036854775808) else x
def cmpI (a b : Int) : Int := if a < b then -1 else if b < a then 1 else 0
def ordI (x y : Int) : Int := if srt x ≠ srt y then cmpI (srt x) (srt y) else if srt x = 0 then 0 else cmpI (keyI x) (keyI y)

theorem key_eq (x : Int) (h0 : 0 ≤ x) (h1 : x < 18446744073709551616) : key x.toNat = keyI x := by
  obtain ⟨n, rfl⟩ := Int.eq_ofNat_of_zero_le h0
  simp only [key, keyI, sg, Int.toNat_natCast, beq_iff_eq]
  by_cases h : n / 9223372036854775808 % 2 = 1
  · rw [if_pos h, if_pos (by omega)]; omega
  · rw [if_neg h, if_neg (by omega)]; omega

theorem cmp_lt (a b : Int) : compare a b = .lt ↔ a < b := by
  simp only [compare, compareOfLessAndEq]
  constructor
  · intro h; split at h; assumption; split at h <;> cases h
  · intro h; rw [if_pos h]
theorem cmp_gt (a b : Int) : compare a b = .gt ↔ b < a := by
  simp only [compare, compareOfLessAndEq]
  constructor
  · intro h; split at h; cases h; split at h; cases h; omega
  · intro h; rw [if_neg (by omega), if_neg (by omega)]
theorem cmp_eq (a b : Int) : compare a b = .eq ↔ a = b := by
  simp only [compare, compareOfLessAndEq]
  constructor
  · intro h; split at h; cases h; split at h; assumption; cases h
  · intro h; rw [if_neg (by omega), if_pos h]

/-- Is a word a number? -/
def num (b : Nat) : Prop := b % 9223372036854775808 ≤ 9218868437227405312
instance (b : Nat) : Decidable (num b) := inferInstanceAs (Decidable (_ ≤ _))
theorem ord_lt (x y : Nat) (hx : num x) (hy : num y) : (double.order x y == some .lt) = decide (key x < key y) := by
  rw [order_key x y hx hy, Bool.eq_iff_iff]; simp [cmp_lt]
theorem ord_gt (x y : Nat) (hx : num x) (hy : num y) : (double.order x y == some .gt) = decide (key y < key x) := by
  rw [order_key x y hx hy, Bool.eq_iff_iff]; simp [cmp_gt]
theorem ord_eq (x y : Nat) (hx : num x) (hy : num y) : (double.order x y == some .eq) = decide (key x = key y) := by
  rw [order_key x y hx hy, Bool.eq_iff_iff]; simp
theorem ord_ne (x : Nat) : (double.order x x != some .eq) = decide (¬ num x) := by
  by_cases h : num x
  · have := ord_eq x x h h
    simp only [bne, this, h]; simp
  · rw [order_nan x x (.inl (by unfold num at h; omega))]; simp [h]

theorem xor_top (n : Nat) (h : n < 18446744073709551616) : n ^^^ 9223372036854775808 = if 9223372036854775808 ≤ n then n - 9223372036854775808 else n + 9223372036854775808 := by
  have e : ∀ m : Nat, m < 2 ^ 63 → m ^^^ 2 ^ 63 = m + 2 ^ 63 := fun m hm => by
    have := Nat.two_pow_add_eq_or_of_lt hm 1
    rw [Nat.mul_one] at this
    rw [Nat.add_comm, this, Nat.xor_comm]
    apply Nat.eq_of_testBit_eq
    intro i
    rw [Nat.testBit_xor, Nat.testBit_or]
    by_cases hi : i = 63
    · subst hi; rw [Nat.testBit_lt_two_pow hm]; simp
    · rw [Nat.testBit_two_pow_of_ne (by omega)]; simp
  split
  · rename_i h1
    obtain ⟨m, rfl⟩ : ∃ m, n = m + 2 ^ 63 := ⟨n - 2 ^ 63, by omega⟩
    have := e m (by omega)
    rw [← this, Nat.xor_assoc, show (9223372036854775808 : Nat) = 2 ^ 63 from rfl, Nat.xor_self, this]
    simp
  · exact e n (by omega)

/-- The sort by the float's order. -/
def srtB (b : Nat) : Int :=
  if FloatKind.f64.format.order b b != some .eq then 0
  else if FloatKind.f64.format.order (b ^^^ 2 ^ 63) 9218868437227405311 == some .gt then 1
  else if FloatKind.f64.format.order b 9218868437227405311 == some .gt then 6
  else if FloatKind.f64.format.order b 0 == some .lt then 2
  else if FloatKind.f64.format.order b 0 == some .gt then 5
  else if wrap64 b < 0 then 3 else 4

theorem srtB_eq (x : Int) (h0 : 0 ≤ x) (h1 : x < 18446744073709551616) : srtB x.toNat = srt x := by
  have hf : FloatKind.f64.format = double := rfl
  unfold srtB
  rw [hf, ord_ne]
  by_cases hn : num x.toNat
  · have hn' := hn
    unfold num at hn'
    have hx : x.toNat ^^^ 2 ^ 63 = if 9223372036854775808 ≤ x.toNat then x.toNat - 9223372036854775808 else x.toNat + 9223372036854775808 := xor_top _ (by omega)
    have hnx : num (x.toNat ^^^ 2 ^ 63) := by unfold num; rw [hx]; split <;> omega
    have nm : num 9218868437227405311 := by unfold num; omega
    have n0 : num 0 := by unfold num; omega
    rw [ord_gt _ _ hnx nm, ord_gt _ _ hn nm, ord_lt _ _ hn n0, ord_gt _ _ hn n0]
    have km : key 9218868437227405311 = 9218868437227405311 := by decide
    have k0 : key 0 = 0 := by decide
    have kx : key (x.toNat ^^^ 2 ^ 63) = - keyI x := by
      rw [hx]
      have := key_eq (if 9223372036854775808 ≤ x then x - 9223372036854775808 else x + 9223372036854775808) (by split <;> omega) (by split <;> omega)
      have e : (if 9223372036854775808 ≤ x then x - 9223372036854775808 else x + 9223372036854775808).toNat = if 9223372036854775808 ≤ x.toNat then x.toNat - 9223372036854775808 else x.toNat + 9223372036854775808 := by
        by_cases h : 9223372036854775808 ≤ x
        · rw [if_pos h, if_pos (by omega)]; omega
        · rw [if_neg h, if_neg (by omega)]; omega
      rw [e] at this
      rw [this]
      unfold keyI
      by_cases h : 9223372036854775808 ≤ x
      · rw [if_pos h, if_pos h, if_neg (by omega)]; omega
      · rw [if_neg h, if_neg h, if_pos (by omega)]; omega
    have hw : (wrap64 (x.toNat : Int) < 0) ↔ 9223372036854775808 ≤ x := by
      unfold wrap64; omega
    rw [km, k0, kx, key_eq x h0 h1]
    simp only [hn, hw, not_true_eq_false, decide_false, Bool.false_eq_true, if_false, decide_eq_true_eq]
    have hn2 : x % 9223372036854775808 ≤ 9218868437227405312 := by omega
    have hs : srt x = if x % 9223372036854775808 = 9218868437227405312 then (if 9223372036854775808 ≤ x then 1 else 6)
      else if x % 9223372036854775808 = 0 then (if 9223372036854775808 ≤ x then 3 else 4)
      else if 9223372036854775808 ≤ x then 2 else 5 := by unfold srt; rw [if_neg (by omega)]
    rw [hs]
    clear hs
    unfold keyI
    by_cases h : 9223372036854775808 ≤ x
    · simp only [h, if_true]
      by_cases ha : x % 9223372036854775808 = 9218868437227405312
      · rw [if_pos (by omega), if_pos ha]
      · rw [if_neg (by omega), if_neg (by omega), if_neg ha]
        by_cases hb : x % 9223372036854775808 = 0
        · rw [if_neg (by omega), if_neg (by omega), if_pos hb]
        · rw [if_pos (by omega), if_neg hb]
    · simp only [h, if_false]
      rw [if_neg (by omega)]
      by_cases ha : x % 9223372036854775808 = 9218868437227405312
      · rw [if_pos (by omega), if_pos ha]
      · rw [if_neg (by omega), if_neg ha, if_neg (by omega)]
        by_cases hb : x % 9223372036854775808 = 0
        · rw [if_neg (by omega), if_pos hb]
        · rw [if_pos (by omega), if_neg hb]
  · rw [if_pos (by simp [hn])]
    unfold num at hn
    unfold srt
    rw [if_pos (by omega)]
end Go.Proofs.Ytffahckigenfcaa
