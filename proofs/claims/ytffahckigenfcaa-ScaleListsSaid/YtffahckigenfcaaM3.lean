import Derived.Test.YtffahckigenfcaaM2
import Derived.Laws.FloatBits
import Derived.Laws.FloatArith
/- How many cells a number is, and a whole number's bits, by plain numbers. -/
namespace Go.Proofs.Ytffahckigenfcaa
open Go Ieee Go.RowKit

/-- The cells of a word that is between 0 and 64. -/
def cellsN (b : Nat) : Nat :=
  if b % 9223372036854775808 = 0 then 0
  else if b < 4607182418800017409 then 1
  else ((4503599627370496 + b % 4503599627370496) + 2 ^ (1075 - b / 4503599627370496) - 1) / 2 ^ (1075 - b / 4503599627370496)

theorem read_pos (b : Nat) (h : b < 4503599627370496) : double.read b = .number false b (-1074) := by
  have hb : double.binade = 4503599627370496 := rfl
  have hs : double.signWeight = 9223372036854775808 := by decide
  have hl : double.leastPlace = -1074 := by decide
  unfold Format.read
  simp only [hb, hs, hl]
  rw [Nat.mod_eq_of_lt (by omega), if_pos h]
  rw [Nat.div_eq_of_lt (by omega)]
  rfl
theorem read_nrm (b : Nat) (h : 4503599627370496 ≤ b) (h2 : b < 9218868437227405312) : double.read b = .number false (4503599627370496 + b % 4503599627370496) (-1074 + ((b / 4503599627370496 - 1 : Nat) : Int)) := by
  have hb : double.binade = 4503599627370496 := rfl
  have hi : double.infRung = 9218868437227405312 := by decide
  have hs : double.signWeight = 9223372036854775808 := by decide
  have hl : double.leastPlace = -1074 := by decide
  unfold Format.read
  simp only [hb, hs, hl, hi]
  rw [Nat.mod_eq_of_lt (a := b) (b := 9223372036854775808) (by omega), if_neg (by omega), if_pos h2]
  rw [Nat.div_eq_of_lt (a := b) (b := 9223372036854775808) (by omega)]
  rfl
theorem cut_up_small (n drop : Nat) (h0 : 0 < n) (h : n < 2 ^ drop) : Toward.up.cut false n drop = 1 := by
  unfold Toward.cut
  have hg : n < 1 <<< min drop (n.log2 + 2) := by
    rw [Nat.shiftLeft_eq, Nat.one_mul]
    rcases Nat.le_total drop (n.log2 + 2) with h1 | h1
    · rw [Nat.min_eq_left h1]; exact h
    · rw [Nat.min_eq_right h1]
      have := Nat.lt_log2_self (n := n)
      exact Nat.lt_trans this (Nat.pow_lt_pow_right (by omega) (by omega))
  simp only [Nat.div_eq_of_lt hg, Nat.mod_eq_of_lt hg]
  have : (n != 0) = true := by simp; omega
  simp [this]
theorem cut_up_big (n drop : Nat) (h : drop ≤ n.log2 + 2) : Toward.up.cut false n drop = (n + 2 ^ drop - 1) / 2 ^ drop := by
  unfold Toward.cut
  rw [Nat.min_eq_left h]
  simp only [Nat.shiftLeft_eq, Nat.one_mul]
  have hp := Nat.two_pow_pos drop
  generalize 2 ^ drop = z at *
  obtain ⟨q, r, hr, rfl⟩ : ∃ q r, r < z ∧ n = q * z + r := ⟨n / z, n % z, Nat.mod_lt _ hp, by rw [Nat.mul_comm]; exact (Nat.div_add_mod n z).symm⟩
  have e1 : (q * z + r) / z = q := by rw [Nat.mul_comm, Nat.mul_add_div hp, Nat.div_eq_of_lt hr, Nat.add_zero]
  have e2 : (q * z + r) % z = r := by rw [Nat.mul_comm, Nat.mul_add_mod, Nat.mod_eq_of_lt hr]
  rw [e1, e2]
  by_cases h0 : r = 0
  · subst h0
    have : (q * z + 0 + z - 1) / z = q := by
      rw [show q * z + 0 + z - 1 = z * q + (z - 1) by rw [Nat.mul_comm]; omega, Nat.mul_add_div hp, Nat.div_eq_of_lt (by omega)]; rfl
    rw [this]; simp
  · have : (q * z + r + z - 1) / z = q + 1 := by
      rw [show q * z + r + z - 1 = z * (q + 1) + (r - 1) by rw [Nat.mul_add, Nat.mul_comm z q, Nat.mul_one]; omega, Nat.mul_add_div hp, Nat.div_eq_of_lt (by omega)]
    rw [this]
    have : (r != 0) = true := by simp [h0]
    simp [this]

theorem back (k : Nat) (h : k ≤ 64) : (double.read (double.write (.number false k 0))).toInt .zero = some (k : Int) := by
  have : ∀ k : Fin 65, (double.read (double.write (.number false k.val 0))).toInt .zero = some (k.val : Int) := by decide +kernel
  exact this ⟨k, by omega⟩

theorem log2_52 (n : Nat) (h : 4503599627370496 ≤ n) (h2 : n < 9007199254740992) : n.log2 = 52 := by
  rw [Nat.log2_eq_iff (by omega)]; omega

theorem ceil_eq (b : Nat) (h0 : 0 < b) (h : b ≤ 4634204016564240384) : ∃ p : Nat × Int, double.read b = .number false p.1 p.2 ∧ (Datum.number false p.1 p.2).integral .up = .number false (cellsN b) 0 ∧ cellsN b ≤ 64 := by
  by_cases h1 : b < 4503599627370496
  · refine ⟨(b, -1074), read_pos b h1, ?_, ?_⟩
    · simp only [Datum.integral]
      rw [show (-1074 : Int).toNat = 0 from rfl, show (-(-1074 : Int)).toNat = 1074 from rfl, Nat.shiftLeft_zero, cut_up_small b 1074 h0 (Nat.lt_of_lt_of_le h1 (by decide +kernel))]
      unfold cellsN
      rw [if_neg (by omega), if_pos (by omega)]
    · unfold cellsN
      rw [if_neg (by omega), if_pos (by omega)]; omega
  · refine ⟨(_, _), read_nrm b (by omega) (by omega), ?_, ?_⟩
    · simp only [Datum.integral]
      have e1 : (-1074 + ((b / 4503599627370496 - 1 : Nat) : Int)).toNat = 0 := by omega
      have e2 : (-(-1074 + ((b / 4503599627370496 - 1 : Nat) : Int))).toNat = 1075 - b / 4503599627370496 := by omega
      rw [e1, e2, Nat.shiftLeft_zero]
      have hl := log2_52 (4503599627370496 + b % 4503599627370496) (by omega) (by omega)
      unfold cellsN
      rw [if_neg (by omega)]
      by_cases h2 : b < 4607182418800017409
      · rw [if_pos h2]
        by_cases h3 : b < 4607182418800017408
        · rw [cut_up_small _ _ (by omega)]
          refine Nat.lt_of_lt_of_le (show _ < 2 ^ 53 by omega) (Nat.pow_le_pow_right (by omega) (by omega))
        · have : b = 4607182418800017408 := by omega
          subst this
          decide +kernel
      · rw [if_neg h2, cut_up_big _ _ (by rw [hl]; omega)]
    · unfold cellsN
      rw [if_neg (by omega)]
      split
      · omega
      · by_cases h4 : b = 4634204016564240384
        · subst h4; decide +kernel
        · have hd : b / 4503599627370496 ≤ 1028 := by omega
          have hp : 2 ^ 47 ≤ 2 ^ (1075 - b / 4503599627370496) := Nat.pow_le_pow_right (by omega) (by omega)
          have hp2 : 2 ^ (1075 - b / 4503599627370496) ≤ 2 ^ 52 := Nat.pow_le_pow_right (by omega) (by omega)
          generalize 2 ^ (1075 - b / 4503599627370496) = z at *
          have : (4503599627370496 + b % 4503599627370496 + z - 1) / z < 65 := by
            rw [Nat.div_lt_iff_lt_mul (by omega)]
            omega
          omega

/-- What comes of 'Ceil', made whole. -/
def ceilB (b : Nat) : Nat := double.write ((double.read b).integral .up)
theorem ceil_run (b : Nat) (hb : b = 0 ∨ b = 9223372036854775808 ∨ (0 < b ∧ b ≤ 4634204016564240384)) : (∃ s m p, double.read b = .number s m p) ∧ (double.read (ceilB b)).toInt .zero = some (cellsN b : Int) ∧ cellsN b ≤ 64 := by
  rcases hb with rfl | rfl | ⟨h0, h⟩
  · refine ⟨⟨false, 0, -1074, by decide +kernel⟩, by decide +kernel, by decide +kernel⟩
  · refine ⟨⟨true, 0, -1074, by decide +kernel⟩, by decide +kernel, by decide +kernel⟩
  · obtain ⟨p, e1, e2, e3⟩ := ceil_eq b h0 h
    refine ⟨⟨_, _, _, e1⟩, ?_, e3⟩
    unfold ceilB
    rw [e1, e2]
    exact back _ e3

/-! ### Whole numbers -/
def bitsN (a : Nat) : Nat := if a = 9007199254740992 then 1076 * 4503599627370496 else (1023 + a.log2) * 4503599627370496 + a * 2 ^ (52 - a.log2) - 4503599627370496
theorem bitsN_of (a j : Nat) (h : 4503599627370496 ≤ a * 2 ^ j) (h2 : a * 2 ^ j < 9007199254740992) (hj : j ≤ 52) : bitsN a = (1075 - j) * 4503599627370496 + a * 2 ^ j - 4503599627370496 := by
  have ha : a ≠ 0 := by intro e; subst e; simp at h
  have hp := Nat.two_pow_pos j
  have hl : a.log2 = 52 - j := by
    rw [Nat.log2_eq_iff ha]
    have e1 : (2 : Nat) ^ 52 = 2 ^ (52 - j) * 2 ^ j := by rw [← Nat.pow_add]; congr 1; omega
    have e2 : (2 : Nat) ^ 53 = 2 ^ (52 - j + 1) * 2 ^ j := by rw [← Nat.pow_add]; congr 1; omega
    have h' : 2 ^ 52 ≤ a * 2 ^ j := h
    have h2' : a * 2 ^ j < 2 ^ 53 := h2
    rw [e1] at h'
    rw [e2] at h2'
    exact ⟨Nat.le_of_mul_le_mul_right h' hp, Nat.lt_of_mul_lt_mul_right h2'⟩
  have hne : a ≠ 9007199254740992 := by
    intro e; subst e
    have := Nat.le_mul_of_pos_right 9007199254740992 hp
    omega
  unfold bitsN
  rw [if_neg hne, hl, show 52 - (52 - j) = j by omega, show 1023 + (52 - j) = 1075 - j by omega]
theorem min_eq (L z : Nat) (h1 : L < 53) (h2 : 4503599627370496 ≤ z) (h3 : z < 9007199254740992) : min ((1022 + L) * 4503599627370496 + z) 9218868437227405312 = (1023 + L) * 4503599627370496 + z - 4503599627370496 := by omega
theorem nearest_eq (neg : Bool) (a : Nat) (h0 : 0 < a) (h : a ≤ 9007199254740992) : double.nearest neg a 0 = double.word neg (bitsN a) := by
  have hb : double.binade = 4503599627370496 := rfl
  have hi : double.infRung = 9218868437227405312 := by decide
  have hl : double.leastPlace = -1074 := by decide
  have hf : double.fractionBits = 52 := rfl
  by_cases h1 : a = 9007199254740992
  · subst h1
    cases neg <;> decide +kernel
  · have l2 : a.log2 < 53 := by rw [Nat.log2_lt (by omega)]; omega
    unfold Format.nearest
    simp only [hb, hi, hl, hf]
    rw [if_neg (by omega)]
    have e0 : max (0 + (a.log2 : Int) - ((52 : Nat) : Int)) (-1074) = (a.log2 : Int) - 52 := by omega
    rw [e0]
    have e1 : (0 - ((a.log2 : Int) - 52)).toNat = 52 - a.log2 := by omega
    have e2 : ((a.log2 : Int) - 52 - 0).toNat = 0 := by omega
    have e3 : ((a.log2 : Int) - 52 - -1074).toNat = 1022 + a.log2 := by omega
    rw [e1, e2, e3]
    have e4 : ∀ n, Toward.even.cut neg n 0 = n := by
      intro n
      unfold Toward.cut
      simp [Nat.mod_one]
    rw [e4, Nat.shiftLeft_eq]
    have e5 := Nat.log2_self_le (n := a) (by omega)
    have e6 := Nat.lt_log2_self (n := a)
    have e7 : a * 2 ^ (52 - a.log2) < 2 ^ 53 := by
      calc a * 2 ^ (52 - a.log2) < 2 ^ (a.log2 + 1) * 2 ^ (52 - a.log2) := Nat.mul_lt_mul_of_pos_right e6 (Nat.two_pow_pos _)
        _ = 2 ^ 53 := by rw [← Nat.pow_add]; congr 1; omega
    have e8 : 2 ^ 52 ≤ a * 2 ^ (52 - a.log2) := by
      calc 2 ^ 52 = 2 ^ a.log2 * 2 ^ (52 - a.log2) := by rw [← Nat.pow_add]; congr 1; omega
        _ ≤ _ := Nat.mul_le_mul_right _ e5
    congr 1
    unfold bitsN
    rw [if_neg h1]
    exact min_eq _ _ l2 e8 e7
theorem bitsN_lt (a : Nat) (h0 : 0 < a) (h : a ≤ 9007199254740992) : bitsN a < 9223372036854775808 := by
  unfold bitsN
  split
  · omega
  · have l2 : a.log2 < 53 := by rw [Nat.log2_lt (by omega)]; omega
    have e6 := Nat.lt_log2_self (n := a)
    have e7 : a * 2 ^ (52 - a.log2) < 2 ^ 53 := by
      calc a * 2 ^ (52 - a.log2) < 2 ^ (a.log2 + 1) * 2 ^ (52 - a.log2) := Nat.mul_lt_mul_of_pos_right e6 (Nat.two_pow_pos _)
        _ = 2 ^ 53 := by rw [← Nat.pow_add]; congr 1; omega
    generalize a * 2 ^ (52 - a.log2) = z at *
    omega
/-- A whole number's bits. -/
def ofI (n : Int) : Int := if n = 0 then 0 else (if n < 0 then 9223372036854775808 else 0) + (bitsN n.natAbs : Int)
theorem nearest_ofI (n : Int) (h : -9007199254740992 ≤ n) (h2 : n ≤ 9007199254740992) : ((FloatKind.f64.nearest n : Nat) : Int) = ofI n := by
  show ((double.nearest (decide (n < 0)) n.natAbs 0 : Nat) : Int) = ofI n
  have hs : double.signWeight = 9223372036854775808 := by decide
  by_cases h0 : n = 0
  · subst h0; decide +kernel
  · rw [nearest_eq _ _ (by omega) (by omega)]
    unfold ofI Format.word
    rw [if_neg h0, hs]
    by_cases h1 : n < 0
    · simp [h1]
    · simp [h1]
end Go.Proofs.Ytffahckigenfcaa
