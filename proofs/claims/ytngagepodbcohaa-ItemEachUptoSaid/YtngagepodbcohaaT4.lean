/- Contracts of functions by an evaluator of the model: its part T4. -/
import GoSem.Core.Float
import Derived.IntWalk
import Derived.RowKit
import Derived.Laws.FloatBits
import Derived.Laws.FloatArith
import Derived.Test.YtngagepodbcohaaProg
import Derived.WalkKit
import Derived.ProofKit
import Derived.OpenShut
import Derived.Laws.Cover2
import Derived.Laws.Externs
import Derived.Outline
import Derived.Lib.Hide
import Derived.Deep.RegionWith
import Derived.ChangeShapes
import Derived.WideShapes
import Derived.ChangeAt
set_option linter.all false
/- Plain facts on float64's words: their order is the order of their rungs. -/
namespace Go.Proofs.Ytngagepodbcohaa
open Go Ieee

/-- A magnitude in units of the least place. -/
def val (r : Nat) : Nat := if r < 4503599627370496 then r else (4503599627370496 + r % 4503599627370496) * 2 ^ (r / 4503599627370496 - 1)

theorem val_succ (r : Nat) : val r < val (r + 1) := by
  unfold val
  by_cases h : r + 1 < 4503599627370496
  · rw [if_pos (by omega), if_pos h]; omega
  · rw [if_neg h]
    by_cases h1 : r < 4503599627370496
    · have : r = 4503599627370495 := by omega
      subst this
      decide
    · rw [if_neg h1]
      by_cases h2 : (r + 1) % 4503599627370496 = 0
      · have e1 : r % 4503599627370496 = 4503599627370495 := by omega
        have e2 : (r + 1) / 4503599627370496 - 1 = (r / 4503599627370496 - 1) + 1 := by omega
        rw [e1, h2, e2, Nat.pow_succ]
        have := Nat.two_pow_pos (r / 4503599627370496 - 1)
        generalize 2 ^ (r / 4503599627370496 - 1) = z at *
        omega
      · have e1 : (r + 1) % 4503599627370496 = r % 4503599627370496 + 1 := by omega
        have e2 : (r + 1) / 4503599627370496 = r / 4503599627370496 := by omega
        rw [e1, e2]
        exact Nat.mul_lt_mul_of_pos_right (by omega) (Nat.two_pow_pos _)
theorem val_lt {r s : Nat} (h : r < s) : val r < val s := by
  obtain ⟨d, rfl⟩ : ∃ d, s = r + 1 + d := ⟨s - (r + 1), by omega⟩
  clear h
  induction d with
  | zero => exact val_succ r
  | succ d ih => exact Nat.lt_trans ih (val_succ _)
theorem val_inj {r s : Nat} (h : val r = val s) : r = s := by
  rcases Nat.lt_trichotomy r s with h1 | h1 | h1
  · have := val_lt h1; omega
  · exact h1
  · have := val_lt h1; omega

def sg (neg : Bool) (v : Nat) : Int := if neg then -(v : Int) else v

/-- What a finite word stands for. -/
theorem read_fin (b : Nat) (h : b % 9223372036854775808 < 9218868437227405312) :
    ∃ m : Nat, ∃ up : Nat, double.read b = .number (b / 9223372036854775808 % 2 == 1) m (-1074 + up) ∧ m * 2 ^ up = val (b % 9223372036854775808) := by
  have hb : double.binade = 4503599627370496 := rfl
  have hi : double.infRung = 9218868437227405312 := by decide
  have hs : double.signWeight = 9223372036854775808 := by decide
  have hl : double.leastPlace = -1074 := by decide
  unfold Format.read
  simp only [hb, hi, hs, hl]
  generalize b % 9223372036854775808 = r at *
  by_cases h1 : r < 4503599627370496
  · rw [if_pos h1]
    exact ⟨r, 0, rfl, by simp [val, h1]⟩
  · rw [if_neg h1, if_pos h]
    exact ⟨_, _, rfl, by simp [val, h1]⟩
theorem read_inf (b : Nat) (h : b % 9223372036854775808 = 9218868437227405312) : double.read b = .infinity (b / 9223372036854775808 % 2 == 1) := by
  have hb : double.binade = 4503599627370496 := rfl
  have hi : double.infRung = 9218868437227405312 := by decide
  have hs : double.signWeight = 9223372036854775808 := by decide
  unfold Format.read
  simp only [hb, hi, hs, h]
  rfl
theorem read_nan (b : Nat) (h : 9218868437227405312 < b % 9223372036854775808) : ∃ s t, double.read b = .nan s t := by
  have hb : double.binade = 4503599627370496 := rfl
  have hi : double.infRung = 9218868437227405312 := by decide
  have hs : double.signWeight = 9223372036854775808 := by decide
  unfold Format.read
  simp only [hb, hi, hs]
  rw [if_neg (by omega), if_neg (by omega), if_neg (by omega)]
  exact ⟨_, _, rfl⟩

/-- The rung with its sign. -/
def key (b : Nat) : Int := sg (b / 9223372036854775808 % 2 == 1) (b % 9223372036854775808)

theorem signed_eq (s : Bool) (m up : Nat) : signed s m up = sg s (m * 2 ^ up) := by
  simp [signed, sg, Nat.shiftLeft_eq]
theorem sg_mul (s : Bool) (a c : Nat) : sg s (a * c) = sg s a * (c : Int) := by
  unfold sg
  split <;> simp [Int.neg_mul]
theorem compare_mul (a b : Int) (c : Nat) (hc : 0 < c) : compare a b = compare (a * c) (b * c) := by
  have hc' : (0 : Int) < c := by omega
  simp only [compare, compareOfLessAndEq]
  have h1 : a < b ↔ a * c < b * c := ⟨fun h => Int.mul_lt_mul_of_pos_right h hc', fun h => Int.lt_of_mul_lt_mul_right h (by omega)⟩
  have h2 : a = b ↔ a * c = b * c := ⟨fun h => by rw [h], fun h => Int.eq_of_mul_eq_mul_right (by omega) h⟩
  simp only [← h1, ← h2]
theorem ite_cg {α : Type} {p q : Prop} [Decidable p] [Decidable q] (h : p ↔ q) {a b c : α} (hb : b = c) : (if p then a else b) = if q then a else c := by
  subst hb
  by_cases hp : p
  · rw [if_pos hp, if_pos (h.1 hp)]
  · rw [if_neg hp, if_neg (fun x => hp (h.2 x))]
theorem compare_sg (s t : Bool) (r q : Nat) : compare (sg s (val r)) (sg t (val q)) = compare (sg s r) (sg t q) := by
  have h0 : val 0 = 0 := rfl
  have pr : 0 < r → 0 < val r := fun h => by have := val_lt h; omega
  have pq : 0 < q → 0 < val q := fun h => by have := val_lt h; omega
  have lt1 : r < q → val r < val q := val_lt
  have lt2 : q < r → val q < val r := val_lt
  have e0 : r = 0 → val r = 0 := fun h => by rw [h]; rfl
  have e1 : q = 0 → val q = 0 := fun h => by rw [h]; rfl
  have e2 : r = q → val r = val q := fun h => by rw [h]
  simp only [compare, compareOfLessAndEq, sg]
  generalize val r = vr at *
  generalize val q = vq at *
  have l : (((if s = true then -(vr : Int) else vr) < (if t = true then -(vq : Int) else vq)) ↔ ((if s = true then -(r : Int) else r) < (if t = true then -(q : Int) else q))) := by
    cases s <;> cases t <;> simp <;> omega
  have m : (((if s = true then -(vr : Int) else vr) = (if t = true then -(vq : Int) else vq)) ↔ ((if s = true then -(r : Int) else r) = (if t = true then -(q : Int) else q))) := by
    cases s <;> cases t <;> simp <;> omega
  exact ite_cg l (ite_cg m rfl)

theorem order_key (x y : Nat) (hx : x % 9223372036854775808 ≤ 9218868437227405312) (hy : y % 9223372036854775808 ≤ 9218868437227405312) :
    double.order x y = some (compare (key x) (key y)) := by
  unfold Format.order key
  rcases Nat.lt_or_eq_of_le hx with h1 | h1
  · obtain ⟨m, i, e1, v1⟩ := read_fin x h1
    rcases Nat.lt_or_eq_of_le hy with h2 | h2
    · obtain ⟨n, j, e2, v2⟩ := read_fin y h2
      rw [e1, e2]
      simp only [Datum.order, signed_eq]
      rw [← compare_sg _ _ (x % 9223372036854775808) (y % 9223372036854775808), ← v1, ← v2]
      generalize (x / 9223372036854775808 % 2 == 1) = s
      generalize (y / 9223372036854775808 % 2 == 1) = t
      congr 1
      obtain ⟨k, a, b, ha, hb⟩ : ∃ k a b : Nat, i = k + a ∧ j = k + b ∧ (a = 0 ∨ b = 0) := ⟨min i j, i - min i j, j - min i j, by omega, by omega, by omega⟩
      obtain ⟨hb, hz⟩ := hb
      have f1 : ((-1074 + (i : Int)) - min (-1074 + (i : Int)) (-1074 + (j : Int))).toNat = a := by omega
      have f2 : ((-1074 + (j : Int)) - min (-1074 + (i : Int)) (-1074 + (j : Int))).toNat = b := by omega
      rw [f1, f2, ha, hb]
      rw [compare_mul _ _ (2 ^ k) (Nat.two_pow_pos _), ← sg_mul, ← sg_mul]
      congr 2
      · rw [Nat.mul_assoc, ← Nat.pow_add, Nat.add_comm]
      · rw [Nat.mul_assoc, ← Nat.pow_add, Nat.add_comm]
    · rw [e1, read_inf y h2]
      simp only [Datum.order]
      generalize (x / 9223372036854775808 % 2 == 1) = s
      generalize (y / 9223372036854775808 % 2 == 1) = t
      simp only [compare, compareOfLessAndEq, sg, h2]
      cases s <;> cases t <;> simp <;> (repeat' split) <;> first | rfl | omega
  · rw [read_inf x h1]
    rcases Nat.lt_or_eq_of_le hy with h2 | h2
    · obtain ⟨n, j, e2, v2⟩ := read_fin y h2
      rw [e2]
      simp only [Datum.order]
      generalize (x / 9223372036854775808 % 2 == 1) = s
      generalize (y / 9223372036854775808 % 2 == 1) = t
      simp only [compare, compareOfLessAndEq, sg, h1]
      cases s <;> cases t <;> simp <;> (repeat' split) <;> first | rfl | omega
    · rw [read_inf y h2]
      simp only [Datum.order]
      generalize (x / 9223372036854775808 % 2 == 1) = s
      generalize (y / 9223372036854775808 % 2 == 1) = t
      simp only [compare, compareOfLessAndEq, sg, h1, h2]
      cases s <;> cases t <;> simp
theorem order_nan (x y : Nat) (h : 9218868437227405312 < x % 9223372036854775808 ∨ 9218868437227405312 < y % 9223372036854775808) : double.order x y = none := by
  unfold Format.order
  rcases h with h | h
  · obtain ⟨s, t, e⟩ := read_nan x h
    rw [e]
    cases double.read y <;> rfl
  · obtain ⟨s, t, e⟩ := read_nan y h
    rw [e]
    cases double.read x <;> rfl
end Go.Proofs.Ytngagepodbcohaa

/- The sorts and the order of float64's words, by plain numbers. -/
namespace Go.Proofs.Ytngagepodbcohaa
open Go Ieee Go.RowKit

def srt (x : Int) : Int :=
  if 9218868437227405312 < x % 9223372036854775808 then 0
  else if x % 9223372036854775808 = 9218868437227405312 then (if 9223372036854775808 ≤ x then 1 else 6)
  else if x % 9223372036854775808 = 0 then (if 9223372036854775808 ≤ x then 3 else 4)
  else if 9223372036854775808 ≤ x then 2 else 5
def keyI (x : Int) : Int := if 9223372036854775808 ≤ x then -(x - 9223372036854775808) else x
def cmpI (a b : Int) : Int := if a < b then -1 else if b < a then 1 else 0
def ordI (x y : Int) : Int := if srt x ≠ srt y then cmpI (srt x) (srt y) else if srt x = 0 then 0 else cmpI (keyI x) (keyI y)

theorem key_eq (x : Int) (h0 : 0 ≤ x) (h1 : x < 18446744073709551616) : key x.toNat = keyI x := by
  obtain ⟨n, rfl⟩ := Int.eq_ofNat_of_zero_le h0
  simp only [key, keyI, sg, Int.toNat_natCast, beq_iff_eq]
  by_cases h : n / 9223372036854775808 % 2 = 1
  · rw [if_pos h, if_pos (by omega)]; omega
  · rw [if_neg h, if_neg (by omega)]; omega

theorem cmp_lt (a b : Int) : compare a b = .lt ↔ a < b := by
  simp only [compare, compareOfLessAndEq]
  constructor
  · intro h; split at h; assumption; split at h <;> cases h
  · intro h; rw [if_pos h]
theorem cmp_gt (a b : Int) : compare a b = .gt ↔ b < a := by
  simp only [compare, compareOfLessAndEq]
  constructor
  · intro h; split at h; cases h; split at h; cases h; omega
  · intro h; rw [if_neg (by omega), if_neg (by omega)]
theorem cmp_eq (a b : Int) : compare a b = .eq ↔ a = b := by
  simp only [compare, compareOfLessAndEq]
  constructor
  · intro h; split at h; cases h; split at h; assumption; cases h
  · intro h; rw [if_neg (by omega), if_pos h]

/-- Is a word a number? -/
def num (b : Nat) : Prop := b % 9223372036854775808 ≤ 9218868437227405312
instance (b : Nat) : Decidable (num b) := inferInstanceAs (Decidable (_ ≤ _))
theorem ord_lt (x y : Nat) (hx : num x) (hy : num y) : (double.order x y == some .lt) = decide (key x < key y) := by
  rw [order_key x y hx hy, Bool.eq_iff_iff]; simp [cmp_lt]
theorem ord_gt (x y : Nat) (hx : num x) (hy : num y) : (double.order x y == some .gt) = decide (key y < key x) := by
  rw [order_key x y hx hy, Bool.eq_iff_iff]; simp [cmp_gt]
theorem ord_eq (x y : Nat) (hx : num x) (hy : num y) : (double.order x y == some .eq) = decide (key x = key y) := by
  rw [order_key x y hx hy, Bool.eq_iff_iff]; simp
theorem ord_ne (x : Nat) : (double.order x x != some .eq) = decide (¬ num x) := by
  by_cases h : num x
  · have := ord_eq x x h h
    simp only [bne, this, h]; simp
  · rw [order_nan x x (.inl (by unfold num at h; omega))]; simp [h]

theorem xor_top (n : Nat) (h : n < 18446744073709551616) : n ^^^ 9223372036854775808 = if 9223372036854775808 ≤ n then n - 9223372036854775808 else n + 9223372036854775808 := by
  have e : ∀ m : Nat, m < 2 ^ 63 → m ^^^ 2 ^ 63 = m + 2 ^ 63 := fun m hm => by
    have := Nat.two_pow_add_eq_or_of_lt hm 1
    rw [Nat.mul_one] at this
    rw [Nat.add_comm, this, Nat.xor_comm]
    apply Nat.eq_of_testBit_eq
    intro i
    rw [Nat.testBit_xor, Nat.testBit_or]
    by_cases hi : i = 63
    · subst hi; rw [Nat.testBit_lt_two_pow hm]; simp
    · rw [Nat.testBit_two_pow_of_ne (by omega)]; simp
  split
  · rename_i h1
    obtain ⟨m, rfl⟩ : ∃ m, n = m + 2 ^ 63 := ⟨n - 2 ^ 63, by omega⟩
    have := e m (by omega)
    rw [← this, Nat.xor_assoc, show (9223372036854775808 : Nat) = 2 ^ 63 from rfl, Nat.xor_self, this]
    simp
  · exact e n (by omega)

/-- The sort by the float's order. -/
def srtB (b : Nat) : Int :=
  if FloatKind.f64.format.order b b != some .eq then 0
  else if FloatKind.f64.format.order (b ^^^ 2 ^ 63) 9218868437227405311 == some .gt then 1
  else if FloatKind.f64.format.order b 9218868437227405311 == some .gt then 6
  else if FloatKind.f64.format.order b 0 == some .lt then 2
  else if FloatKind.f64.format.order b 0 == some .gt then 5
  else if wrap64 b < 0 then 3 else 4

theorem srtB_eq (x : Int) (h0 : 0 ≤ x) (h1 : x < 18446744073709551616) : srtB x.toNat = srt x := by
  have hf : FloatKind.f64.format = double := rfl
  unfold srtB
  rw [hf, ord_ne]
  by_cases hn : num x.toNat
  · have hn' := hn
    unfold num at hn'
    have hx : x.toNat ^^^ 2 ^ 63 = if 9223372036854775808 ≤ x.toNat then x.toNat - 9223372036854775808 else x.toNat + 9223372036854775808 := xor_top _ (by omega)
    have hnx : num (x.toNat ^^^ 2 ^ 63) := by unfold num; rw [hx]; split <;> omega
    have nm : num 9218868437227405311 := by unfold num; omega
    have n0 : num 0 := by unfold num; omega
    rw [ord_gt _ _ hnx nm, ord_gt _ _ hn nm, ord_lt _ _ hn n0, ord_gt _ _ hn n0]
    have km : key 9218868437227405311 = 9218868437227405311 := by decide
    have k0 : key 0 = 0 := by decide
    have kx : key (x.toNat ^^^ 2 ^ 63) = - keyI x := by
      rw [hx]
      have := key_eq (if 9223372036854775808 ≤ x then x - 9223372036854775808 else x + 9223372036854775808) (by split <;> omega) (by split <;> omega)
      have e : (if 9223372036854775808 ≤ x then x - 9223372036854775808 else x + 9223372036854775808).toNat = if 9223372036854775808 ≤ x.toNat then x.toNat - 9223372036854775808 else x.toNat + 9223372036854775808 := by
        by_cases h : 9223372036854775808 ≤ x
        · rw [if_pos h, if_pos (by omega)]; omega
        · rw [if_neg h, if_neg (by omega)]; omega
      rw [e] at this
      rw [this]
      unfold keyI
      by_cases h : 9223372036854775808 ≤ x
      · rw [if_pos h, if_pos h, if_neg (by omega)]; omega
      · rw [if_neg h, if_neg h, if_pos (by omega)]; omega
    have hw : (wrap64 (x.toNat : Int) < 0) ↔ 9223372036854775808 ≤ x := by
      unfold wrap64; omega
    rw [km, k0, kx, key_eq x h0 h1]
    simp only [hn, hw, not_true_eq_false, decide_false, Bool.false_eq_true, if_false, decide_eq_true_eq]
    have hn2 : x % 9223372036854775808 ≤ 9218868437227405312 := by omega
    have hs : srt x = if x % 9223372036854775808 = 9218868437227405312 then (if 9223372036854775808 ≤ x then 1 else 6)
      else if x % 9223372036854775808 = 0 then (if 9223372036854775808 ≤ x then 3 else 4)
      else if 9223372036854775808 ≤ x then 2 else 5 := by unfold srt; rw [if_neg (by omega)]
    rw [hs]
    clear hs
    unfold keyI
    by_cases h : 9223372036854775808 ≤ x
    · simp only [h, if_true]
      by_cases ha : x % 9223372036854775808 = 9218868437227405312
      · rw [if_pos (by omega), if_pos ha]
      · rw [if_neg (by omega), if_neg (by omega), if_neg ha]
        by_cases hb : x % 9223372036854775808 = 0
        · rw [if_neg (by omega), if_neg (by omega), if_pos hb]
        · rw [if_pos (by omega), if_neg hb]
    · simp only [h, if_false]
      rw [if_neg (by omega)]
      by_cases ha : x % 9223372036854775808 = 9218868437227405312
      · rw [if_pos (by omega), if_pos ha]
      · rw [if_neg (by omega), if_neg ha, if_neg (by omega)]
        by_cases hb : x % 9223372036854775808 = 0
        · rw [if_neg (by omega), if_pos hb]
        · rw [if_pos (by omega), if_neg hb]
  · rw [if_pos (by simp [hn])]
    unfold num at hn
    unfold srt
    rw [if_pos (by omega)]
end Go.Proofs.Ytngagepodbcohaa

/- How many cells a number is, and a whole number's bits, by plain numbers. -/
namespace Go.Proofs.Ytngagepodbcohaa
open Go Ieee Go.RowKit

/-- The cells of a word that is between 0 and 64. -/
def cellsN (b : Nat) : Nat :=
  if b % 9223372036854775808 = 0 then 0
  else if b < 4607182418800017409 then 1
  else ((4503599627370496 + b % 4503599627370496) + 2 ^ (1075 - b / 4503599627370496) - 1) / 2 ^ (1075 - b / 4503599627370496)

theorem read_pos (b : Nat) (h : b < 4503599627370496) : double.read b = .number false b (-1074) := by
  have hb : double.binade = 4503599627370496 := rfl
  have hs : double.signWeight = 9223372036854775808 := by decide
  have hl : double.leastPlace = -1074 := by decide
  unfold Format.read
  simp only [hb, hs, hl]
  rw [Nat.mod_eq_of_lt (by omega), if_pos h]
  rw [Nat.div_eq_of_lt (by omega)]
  rfl
theorem read_nrm (b : Nat) (h : 4503599627370496 ≤ b) (h2 : b < 9218868437227405312) : double.read b = .number false (4503599627370496 + b % 4503599627370496) (-1074 + ((b / 4503599627370496 - 1 : Nat) : Int)) := by
  have hb : double.binade = 4503599627370496 := rfl
  have hi : double.infRung = 9218868437227405312 := by decide
  have hs : double.signWeight = 9223372036854775808 := by decide
  have hl : double.leastPlace = -1074 := by decide
  unfold Format.read
  simp only [hb, hs, hl, hi]
  rw [Nat.mod_eq_of_lt (a := b) (b := 9223372036854775808) (by omega), if_neg (by omega), if_pos h2]
  rw [Nat.div_eq_of_lt (a := b) (b := 9223372036854775808) (by omega)]
  rfl
theorem cut_up_small (n drop : Nat) (h0 : 0 < n) (h : n < 2 ^ drop) : Toward.up.cut false n drop = 1 := by
  unfold Toward.cut
  have hg : n < 1 <<< min drop (n.log2 + 2) := by
    rw [Nat.shiftLeft_eq, Nat.one_mul]
    rcases Nat.le_total drop (n.log2 + 2) with h1 | h1
    · rw [Nat.min_eq_left h1]; exact h
    · rw [Nat.min_eq_right h1]
      have := Nat.lt_log2_self (n := n)
      exact Nat.lt_trans this (Nat.pow_lt_pow_right (by omega) (by omega))
  simp only [Nat.div_eq_of_lt hg, Nat.mod_eq_of_lt hg]
  have : (n != 0) = true := by simp; omega
  simp [this]
theorem cut_up_big (n drop : Nat) (h : drop ≤ n.log2 + 2) : Toward.up.cut false n drop = (n + 2 ^ drop - 1) / 2 ^ drop := by
  unfold Toward.cut
  rw [Nat.min_eq_left h]
  simp only [Nat.shiftLeft_eq, Nat.one_mul]
  have hp := Nat.two_pow_pos drop
  generalize 2 ^ drop = z at *
  obtain ⟨q, r, hr, rfl⟩ : ∃ q r, r < z ∧ n = q * z + r := ⟨n / z, n % z, Nat.mod_lt _ hp, by rw [Nat.mul_comm]; exact (Nat.div_add_mod n z).symm⟩
  have e1 : (q * z + r) / z = q := by rw [Nat.mul_comm, Nat.mul_add_div hp, Nat.div_eq_of_lt hr, Nat.add_zero]
  have e2 : (q * z + r) % z = r := by rw [Nat.mul_comm, Nat.mul_add_mod, Nat.mod_eq_of_lt hr]
  rw [e1, e2]
  by_cases h0 : r = 0
  · subst h0
    have : (q * z + 0 + z - 1) / z = q := by
      rw [show q * z + 0 + z - 1 = z * q + (z - 1) by rw [Nat.mul_comm]; omega, Nat.mul_add_div hp, Nat.div_eq_of_lt (by omega)]; rfl
    rw [this]; simp
  · have : (q * z + r + z - 1) / z = q + 1 := by
      rw [show q * z + r + z - 1 = z * (q + 1) + (r - 1) by rw [Nat.mul_add, Nat.mul_comm z q, Nat.mul_one]; omega, Nat.mul_add_div hp, Nat.div_eq_of_lt (by omega)]
    rw [this]
    have : (r != 0) = true := by simp [h0]
    simp [this]

theorem back (k : Nat) (h : k ≤ 64) : (double.read (double.write (.number false k 0))).toInt .zero = some (k : Int) := by
  have : ∀ k : Fin 65, (double.read (double.write (.number false k.val 0))).toInt .zero = some (k.val : Int) := by decide +kernel
  exact this ⟨k, by omega⟩

theorem log2_52 (n : Nat) (h : 4503599627370496 ≤ n) (h2 : n < 9007199254740992) : n.log2 = 52 := by
  rw [Nat.log2_eq_iff (by omega)]; omega

theorem ceil_eq (b : Nat) (h0 : 0 < b) (h : b ≤ 4634204016564240384) : ∃ p : Nat × Int, double.read b = .number false p.1 p.2 ∧ (Datum.number false p.1 p.2).integral .up = .number false (cellsN b) 0 ∧ cellsN b ≤ 64 := by
  by_cases h1 : b < 4503599627370496
  · refine ⟨(b, -1074), read_pos b h1, ?_, ?_⟩
    · simp only [Datum.integral]
      rw [show (-1074 : Int).toNat = 0 from rfl, show (-(-1074 : Int)).toNat = 1074 from rfl, Nat.shiftLeft_zero, cut_up_small b 1074 h0 (Nat.lt_of_lt_of_le h1 (by decide +kernel))]
      unfold cellsN
      rw [if_neg (by omega), if_pos (by omega)]
    · unfold cellsN
      rw [if_neg (by omega), if_pos (by omega)]; omega
  · refine ⟨(_, _), read_nrm b (by omega) (by omega), ?_, ?_⟩
    · simp only [Datum.integral]
      have e1 : (-1074 + ((b / 4503599627370496 - 1 : Nat) : Int)).toNat = 0 := by omega
      have e2 : (-(-1074 + ((b / 4503599627370496 - 1 : Nat) : Int))).toNat = 1075 - b / 4503599627370496 := by omega
      rw [e1, e2, Nat.shiftLeft_zero]
      have hl := log2_52 (4503599627370496 + b % 4503599627370496) (by omega) (by omega)
      unfold cellsN
      rw [if_neg (by omega)]
      by_cases h2 : b < 4607182418800017409
      · rw [if_pos h2]
        by_cases h3 : b < 4607182418800017408
        · rw [cut_up_small _ _ (by omega)]
          refine Nat.lt_of_lt_of_le (show _ < 2 ^ 53 by omega) (Nat.pow_le_pow_right (by omega) (by omega))
        · have : b = 4607182418800017408 := by omega
          subst this
          decide +kernel
      · rw [if_neg h2, cut_up_big _ _ (by rw [hl]; omega)]
    · unfold cellsN
      rw [if_neg (by omega)]
      split
      · omega
      · by_cases h4 : b = 4634204016564240384
        · subst h4; decide +kernel
        · have hd : b / 4503599627370496 ≤ 1028 := by omega
          have hp : 2 ^ 47 ≤ 2 ^ (1075 - b / 4503599627370496) := Nat.pow_le_pow_right (by omega) (by omega)
          have hp2 : 2 ^ (1075 - b / 4503599627370496) ≤ 2 ^ 52 := Nat.pow_le_pow_right (by omega) (by omega)
          generalize 2 ^ (1075 - b / 4503599627370496) = z at *
          have : (4503599627370496 + b % 4503599627370496 + z - 1) / z < 65 := by
            rw [Nat.div_lt_iff_lt_mul (by omega)]
            omega
          omega

/-- What comes of 'Ceil', made whole. -/
def ceilB (b : Nat) : Nat := double.write ((double.read b).integral .up)
theorem ceil_run (b : Nat) (hb : b = 0 ∨ b = 9223372036854775808 ∨ (0 < b ∧ b ≤ 4634204016564240384)) : (∃ s m p, double.read b = .number s m p) ∧ (double.read (ceilB b)).toInt .zero = some (cellsN b : Int) ∧ cellsN b ≤ 64 := by
  rcases hb with rfl | rfl | ⟨h0, h⟩
  · refine ⟨⟨false, 0, -1074, by decide +kernel⟩, by decide +kernel, by decide +kernel⟩
  · refine ⟨⟨true, 0, -1074, by decide +kernel⟩, by decide +kernel, by decide +kernel⟩
  · obtain ⟨p, e1, e2, e3⟩ := ceil_eq b h0 h
    refine ⟨⟨_, _, _, e1⟩, ?_, e3⟩
    unfold ceilB
    rw [e1, e2]
    exact back _ e3

/-! ### Whole numbers -/
def bitsN (a : Nat) : Nat := if a = 9007199254740992 then 1076 * 4503599627370496 else (1023 + a.log2) * 4503599627370496 + a * 2 ^ (52 - a.log2) - 4503599627370496
theorem bitsN_of (a j : Nat) (h : 4503599627370496 ≤ a * 2 ^ j) (h2 : a * 2 ^ j < 9007199254740992) (hj : j ≤ 52) : bitsN a = (1075 - j) * 4503599627370496 + a * 2 ^ j - 4503599627370496 := by
  have ha : a ≠ 0 := by intro e; subst e; simp at h
  have hp := Nat.two_pow_pos j
  have hl : a.log2 = 52 - j := by
    rw [Nat.log2_eq_iff ha]
    have e1 : (2 : Nat) ^ 52 = 2 ^ (52 - j) * 2 ^ j := by rw [← Nat.pow_add]; congr 1; omega
    have e2 : (2 : Nat) ^ 53 = 2 ^ (52 - j + 1) * 2 ^ j := by rw [← Nat.pow_add]; congr 1; omega
    have h' : 2 ^ 52 ≤ a * 2 ^ j := h
    have h2' : a * 2 ^ j < 2 ^ 53 := h2
    rw [e1] at h'
    rw [e2] at h2'
    exact ⟨Nat.le_of_mul_le_mul_right h' hp, Nat.lt_of_mul_lt_mul_right h2'⟩
  have hne : a ≠ 9007199254740992 := by
    intro e; subst e
    have := Nat.le_mul_of_pos_right 9007199254740992 hp
    omega
  unfold bitsN
  rw [if_neg hne, hl, show 52 - (52 - j) = j by omega, show 1023 + (52 - j) = 1075 - j by omega]
theorem min_eq (L z : Nat) (h1 : L < 53) (h2 : 4503599627370496 ≤ z) (h3 : z < 9007199254740992) : min ((1022 + L) * 4503599627370496 + z) 9218868437227405312 = (1023 + L) * 4503599627370496 + z - 4503599627370496 := by omega
theorem nearest_eq (neg : Bool) (a : Nat) (h0 : 0 < a) (h : a ≤ 9007199254740992) : double.nearest neg a 0 = double.word neg (bitsN a) := by
  have hb : double.binade = 4503599627370496 := rfl
  have hi : double.infRung = 9218868437227405312 := by decide
  have hl : double.leastPlace = -1074 := by decide
  have hf : double.fractionBits = 52 := rfl
  by_cases h1 : a = 9007199254740992
  · subst h1
    cases neg <;> decide +kernel
  · have l2 : a.log2 < 53 := by rw [Nat.log2_lt (by omega)]; omega
    unfold Format.nearest
    simp only [hb, hi, hl, hf]
    rw [if_neg (by omega)]
    have e0 : max (0 + (a.log2 : Int) - ((52 : Nat) : Int)) (-1074) = (a.log2 : Int) - 52 := by omega
    rw [e0]
    have e1 : (0 - ((a.log2 : Int) - 52)).toNat = 52 - a.log2 := by omega
    have e2 : ((a.log2 : Int) - 52 - 0).toNat = 0 := by omega
    have e3 : ((a.log2 : Int) - 52 - -1074).toNat = 1022 + a.log2 := by omega
    rw [e1, e2, e3]
    have e4 : ∀ n, Toward.even.cut neg n 0 = n := by
      intro n
      unfold Toward.cut
      simp [Nat.mod_one]
    rw [e4, Nat.shiftLeft_eq]
    have e5 := Nat.log2_self_le (n := a) (by omega)
    have e6 := Nat.lt_log2_self (n := a)
    have e7 : a * 2 ^ (52 - a.log2) < 2 ^ 53 := by
      calc a * 2 ^ (52 - a.log2) < 2 ^ (a.log2 + 1) * 2 ^ (52 - a.log2) := Nat.mul_lt_mul_of_pos_right e6 (Nat.two_pow_pos _)
        _ = 2 ^ 53 := by rw [← Nat.pow_add]; congr 1; omega
    have e8 : 2 ^ 52 ≤ a * 2 ^ (52 - a.log2) := by
      calc 2 ^ 52 = 2 ^ a.log2 * 2 ^ (52 - a.log2) := by rw [← Nat.pow_add]; congr 1; omega
        _ ≤ _ := Nat.mul_le_mul_right _ e5
    congr 1
    unfold bitsN
    rw [if_neg h1]
    exact min_eq _ _ l2 e8 e7
theorem bitsN_lt (a : Nat) (h0 : 0 < a) (h : a ≤ 9007199254740992) : bitsN a < 9223372036854775808 := by
  unfold bitsN
  split
  · omega
  · have l2 : a.log2 < 53 := by rw [Nat.log2_lt (by omega)]; omega
    have e6 := Nat.lt_log2_self (n := a)
    have e7 : a * 2 ^ (52 - a.log2) < 2 ^ 53 := by
      calc a * 2 ^ (52 - a.log2) < 2 ^ (a.log2 + 1) * 2 ^ (52 - a.log2) := Nat.mul_lt_mul_of_pos_right e6 (Nat.two_pow_pos _)
        _ = 2 ^ 53 := by rw [← Nat.pow_add]; congr 1; omega
    generalize a * 2 ^ (52 - a.log2) = z at *
    omega
/-- A whole number's bits. -/
def ofI (n : Int) : Int := if n = 0 then 0 else (if n < 0 then 9223372036854775808 else 0) + (bitsN n.natAbs : Int)
theorem nearest_ofI (n : Int) (h : -9007199254740992 ≤ n) (h2 : n ≤ 9007199254740992) : ((FloatKind.f64.nearest n : Nat) : Int) = ofI n := by
  show ((double.nearest (decide (n < 0)) n.natAbs 0 : Nat) : Int) = ofI n
  have hs : double.signWeight = 9223372036854775808 := by decide
  by_cases h0 : n = 0
  · subst h0; decide +kernel
  · rw [nearest_eq _ _ (by omega) (by omega)]
    unfold ofI Format.word
    rw [if_neg h0, hs]
    by_cases h1 : n < 0
    · simp [h1]
    · simp [h1]
end Go.Proofs.Ytngagepodbcohaa

/- What the functions of 'scale' and their callees compute, in the words of the float's order. -/
namespace Go.Proofs.Ytngagepodbcohaa
open Go.ChangeShapes Go.WideShapes Go.ChangeAt Go.RowKit
set_option linter.unusedVariables false

theorem call22 (n : Int) (w : World) : (callFunc 64 #[.int .u64 n]).run Try.prog w = .ok (.value (.float .f64 n.toNat)) w := by
  rw [run_callFunc_extern (e := Extern.MathFloatBits.float64frombits) Try.func64 (by kernel_rfl) (by kernel_rfl) (by kernel_rfl) (by kernel_rfl)]
  rfl
theorem call34 (n : Nat) (w : World) : (callFunc 77 #[.float .f64 n]).run Try.prog w = ((Extern.MathFloor.toIntegral "math.archCeil" .up #[.float .f64 n]).run Try.prog w).andThen fun v w' => .ok (.value v) w' := by
  rw [run_callFunc_extern (e := Extern.MathFloor.toIntegral "math.archCeil" .up) Try.func77 (by kernel_rfl) (by kernel_rfl) (by kernel_rfl) (by kernel_rfl)]
theorem neg_any (b : Nat) (w : World) : (Op.unary .neg (.float .f64 b)).run Try.prog w = .ok (.float .f64 (b ^^^ 2 ^ 63)) w := rfl

theorem ret_int {k : IntKind} {a b : Int} (h : a = b) : Ending.returned (.int k a) = .returned (.int k b) := by rw [h]
theorem parts_any (x : Int) (h0 : 0 ≤ x) (h1 : x ≤ 18446744073709551615) (w : World) : Calls Try.prog 81 #[.int .u64 x] w fun e w' => e = .returned (.tuple #[.int .u64 (x / 9223372036854775808), .int .i64 (x / 4503599627370496 % 2048), .int .u64 (x % 4503599627370496)]) ∧ w' = w := by
  go_enter Try.func81, Try.ntmps81
  go_wp2
  go_ret3
  exact ⟨rfl, rfl⟩
theorem ord_f64 : FloatKind.f64.format = Ieee.double := rfl
def srtP (s e f : Int) : Int := if e = 2047 then (if 0 < f then 0 else if s = 1 then 1 else 6) else if e = 0 then (if f = 0 then 4 - s else 5 - 3 * s) else 5 - 3 * s
theorem srtP_eq (x : Int) (h0 : 0 ≤ x) (h1 : x ≤ 18446744073709551615) : srtP (x / 9223372036854775808) (x / 4503599627370496 % 2048) (x % 4503599627370496) = srt x := by
  unfold srtP srt
  (repeat' split) <;> omega
theorem parts_of (x s e f : Int) (h0 : 0 ≤ x) (h1 : x ≤ 18446744073709551615) (hs : s = x / 9223372036854775808) (he : e = x / 4503599627370496 % 2048) (hf : f = x % 4503599627370496) (w : World) :
    Calls Try.prog 81 #[.int .u64 x] w fun e' w' => e' = .returned (.tuple #[.int .u64 s, .int .i64 e, .int .u64 f]) ∧ w' = w := by
  subst hs he hf; exact parts_any x h0 h1 w
theorem rsort_any (x : Int) (h0 : 0 ≤ x) (h1 : x ≤ 18446744073709551615) (w : World) : Calls Try.prog 80 #[.int .u64 x] w fun e w' => e = .returned (.int .i64 (srt x)) ∧ w' = w := by
  rw [← srtP_eq x h0 h1]
  obtain ⟨s, hs⟩ : ∃ s, s = x / 9223372036854775808 := ⟨_, rfl⟩
  obtain ⟨e, he⟩ : ∃ e, e = x / 4503599627370496 % 2048 := ⟨_, rfl⟩
  obtain ⟨f, hf⟩ : ∃ f, f = x % 4503599627370496 := ⟨_, rfl⟩
  have s0 : 0 ≤ s := by omega
  have s1 : s ≤ 1 := by omega
  have f0 : 0 ≤ f := by omega
  have hc := parts_of x s e f h0 h1 hs he hf
  rw [← hs, ← he, ← hf]
  clear hs he hf
  have HC := Lib.hid hc
  clear hc
  by_cases e1 : e = 2047
  · subst e1
    by_cases f1 : 0 < f
    · go_enter Try.func80, Try.ntmps80
      go_wp2_with (go_at_call 81; refine (HC.out _).mono ?_; rintro e' w' ⟨rfl, rfl⟩)
      go_ret
      exact ⟨ret_int (by simp [srtP, f1]), rfl⟩
    · by_cases s2 : s = 1
      · subst s2
        go_enter Try.func80, Try.ntmps80
        go_wp2_with (go_at_call 81; refine (HC.out _).mono ?_; rintro e' w' ⟨rfl, rfl⟩)
        go_ret
        exact ⟨ret_int (by simp [srtP, f1]), rfl⟩
      · go_enter Try.func80, Try.ntmps80
        go_wp2_with (go_at_call 81; refine (HC.out _).mono ?_; rintro e' w' ⟨rfl, rfl⟩)
        go_ret
        exact ⟨ret_int (by simp [srtP, f1, s2]), rfl⟩
  · by_cases e2 : e = 0
    · subst e2
      by_cases f1 : f = 0
      · subst f1
        go_enter Try.func80, Try.ntmps80
        go_wp2_with (go_at_call 81; refine (HC.out _).mono ?_; rintro e' w' ⟨rfl, rfl⟩)
        go_ret
        exact ⟨ret_int (by simp [srtP]), rfl⟩
      · go_enter Try.func80, Try.ntmps80
        go_wp2_with (go_at_call 81; refine (HC.out _).mono ?_; rintro e' w' ⟨rfl, rfl⟩)
        go_ret
        exact ⟨ret_int (by simp [srtP, f1]), rfl⟩
    · go_enter Try.func80, Try.ntmps80
      go_wp2_with (go_at_call 81; refine (HC.out _).mono ?_; rintro e' w' ⟨rfl, rfl⟩)
      go_ret
      exact ⟨ret_int (by simp [srtP, e1, e2]), rfl⟩
end Go.Proofs.Ytngagepodbcohaa

/- Cells, and a whole number's bits, walked. -/
namespace Go.Proofs.Ytngagepodbcohaa
open Go.ChangeShapes Go.WideShapes Go.ChangeAt Go.RowKit
set_option linter.unusedVariables false

def okC (x : Int) : Bool := decide (0 ≤ keyI x) && decide (keyI x ≤ 4634204016564240384)
def cellsI (x : Int) : Int := if okC x then (cellsN x.toNat : Int) else 0
def errI (x : Int) : Int := if okC x then 0 else 41

theorem key_num (x : Int) (h0 : 0 ≤ x) (h1 : x ≤ 18446744073709551615) (h : okC x = true) : num x.toNat := by
  unfold num
  simp only [okC, Bool.and_eq_true] at h
  have h3 := of_decide_eq_true h.1
  have h4 := of_decide_eq_true h.2
  unfold keyI at h3 h4
  split at h3 <;> omega
theorem ge_eq (x : Int) (h0 : 0 ≤ x) (h1 : x ≤ 18446744073709551615) : (FloatKind.f64.format.order x.toNat 0 == some .gt || FloatKind.f64.format.order x.toNat 0 == some .eq) = (decide (num x.toNat) && decide (0 ≤ keyI x)) := by
  rw [ord_f64]
  by_cases h : num x.toNat
  · have n0 : num 0 := by unfold num; omega
    rw [ord_gt _ _ h n0, ord_eq _ _ h n0, key_eq x h0 (by omega), show key 0 = 0 by decide]
    rw [Bool.eq_iff_iff]
    simp [h]; omega
  · rw [order_nan _ _ (.inl (by unfold num at h; omega))]; simp [h]
theorem le_eq (x : Int) (h0 : 0 ≤ x) (h1 : x ≤ 18446744073709551615) : (FloatKind.f64.format.order x.toNat 4634204016564240384 == some .lt || FloatKind.f64.format.order x.toNat 4634204016564240384 == some .eq) = (decide (num x.toNat) && decide (keyI x ≤ 4634204016564240384)) := by
  rw [ord_f64]
  by_cases h : num x.toNat
  · have n0 : num 4634204016564240384 := by unfold num; omega
    rw [ord_lt _ _ h n0, ord_eq _ _ h n0, key_eq x h0 (by omega), show key 4634204016564240384 = 4634204016564240384 by decide +kernel]
    rw [Bool.eq_iff_iff]
    simp [h]; omega
  · rw [order_nan _ _ (.inl (by unfold num at h; omega))]; simp [h]

attribute [local irreducible] FloatKind.decode in
theorem integral_run (b : Nat) (s : Bool) (m : Nat) (p : Int) (hd : FloatKind.f64.decode b = .number s m p) : (Extern.MathFloor.toIntegral "math.archCeil" .up #[.float .f64 b]) = pure (.float .f64 (ceilB b)) := by
  have hc : ceilB b = FloatKind.f64.encode ((Ieee.Datum.number s m p).integral .up) := by rw [← hd]; unfold FloatKind.decode; rfl
  rw [hc]
  conv => lhs; whnf
  simp only [hd]
theorem ceil34 (b : Nat) (w : World) (h : ∃ s m p, Ieee.double.read b = .number s m p) : (callFunc 77 #[.float .f64 b]).run Try.prog w = .ok (.value (.float .f64 (ceilB b))) w := by
  obtain ⟨s, m, p, h⟩ := h
  have hd : FloatKind.f64.decode b = .number s m p := h
  rw [call34]
  rw [integral_run b s m p hd]
  rfl
theorem ceil_any (b : Nat) (w : World) (h : ∃ s m p, Ieee.double.read b = .number s m p) : Calls Try.prog 65 #[.float .f64 b] w fun e w' => e = .returned (.float .f64 (ceilB b)) ∧ w' = w := by
  have h34 := fun w => ceil34 b w h
  clear h
  go_enter Try.func65, Try.ntmps65
  go_wp2
  go_ret
  exact ⟨rfl, rfl⟩
theorem conv_ceil (b n : Nat) (w : World) (h : (Ieee.double.read b).toInt .zero = some (n : Int)) (hn : n ≤ 64) : (convert 107 3 (.float .f64 b)).run Try.prog w = .ok (.int .i64 n) w := by
  refine run_convert_float_int w 107 3 .f64 .i64 b n (by kernel_rfl) Try.underlying3 ?_
  unfold floatToIntVal
  have : (FloatKind.f64.decode b).toInt .zero = some (n : Int) := h
  rw [this]
  simp only
  rw [if_pos]
  have e1 : IntKind.min .i64 = -9223372036854775808 := rfl
  have e2 : IntKind.max .i64 = 9223372036854775807 := rfl
  rw [e1, e2]
  omega
theorem okC_eq (x : Int) (h0 : 0 ≤ x) (h1 : x ≤ 18446744073709551615) : okC x = ((FloatKind.f64.format.order x.toNat 0 == some .gt || FloatKind.f64.format.order x.toNat 0 == some .eq) && (FloatKind.f64.format.order x.toNat 4634204016564240384 == some .lt || FloatKind.f64.format.order x.toNat 4634204016564240384 == some .eq)) := by
  rw [ge_eq x h0 h1, le_eq x h0 h1]
  cases hc : okC x with
  | true =>
    have hn := key_num x h0 h1 hc
    simp only [okC, Bool.and_eq_true] at hc
    simp [hn, hc.1, hc.2]
  | false =>
    simp only [okC] at hc
    cases h : decide (num x.toNat)
    · simp
    · simp only [Bool.true_and]; exact hc.symm
theorem cells_ok (x : Int) (c d : Nat) (w : World) (A B C D : Bool) (hA : (FloatKind.f64.format.order x.toNat 0 == some .gt) = A) (hB : (FloatKind.f64.format.order x.toNat 0 == some .eq) = B) (hC : (FloatKind.f64.format.order x.toNat 4634204016564240384 == some .lt) = C) (hD : (FloatKind.f64.format.order x.toNat 4634204016564240384 == some .eq) = D)
    (hok : ((A || B) && (C || D)) = true) (cv : ∀ w, (convert 107 3 (.float .f64 d)).run Try.prog w = .ok (.int .i64 c) w) (HC : Hid (∀ w, Calls Try.prog 65 #[.float .f64 x.toNat] w fun e w' => e = .returned (.float .f64 d) ∧ w' = w)) :
    Calls Try.prog 36 #[.int .u64 x] w fun e w' => e = .returned (.tuple #[.int .i64 c, .int .i64 0]) ∧ w' = w := by
  have h22 := call22
  cases A <;> cases B <;> cases C <;> cases D
  all_goals first | (simp at hok; done) | skip
  all_goals clear hok
  all_goals
    go_enter Try.func36, Try.ntmps36
    go_wp2_with (go_at_call 65; refine (HC.out _).mono ?_; rintro e' w' ⟨rfl, rfl⟩)
    go_ret2
    exact ⟨rfl, rfl⟩
theorem cells_no (x : Int) (w : World) (A B C D : Bool) (hA : (FloatKind.f64.format.order x.toNat 0 == some .gt) = A) (hB : (FloatKind.f64.format.order x.toNat 0 == some .eq) = B) (hC : (FloatKind.f64.format.order x.toNat 4634204016564240384 == some .lt) = C) (hD : (FloatKind.f64.format.order x.toNat 4634204016564240384 == some .eq) = D)
    (hok : ((A || B) && (C || D)) = false) :
    Calls Try.prog 36 #[.int .u64 x] w fun e w' => e = .returned (.tuple #[.int .i64 0, .int .i64 41]) ∧ w' = w := by
  have h22 := call22
  cases A <;> cases B <;> cases C <;> cases D
  all_goals first | (simp at hok; done) | skip
  all_goals clear hok
  all_goals
    go_enter Try.func36, Try.ntmps36
    go_wp2_with fail
    go_ret2
    exact ⟨rfl, rfl⟩
theorem cells_any (x : Int) (h0 : 0 ≤ x) (h1 : x ≤ 18446744073709551615) (w : World) : Calls Try.prog 36 #[.int .u64 x] w fun e w' => e = .returned (.tuple #[.int .i64 (cellsI x), .int .i64 (errI x)]) ∧ w' = w := by
  have he := okC_eq x h0 h1
  cases hc : okC x with
  | true =>
    rw [hc] at he
    have hk : x.toNat = 0 ∨ x.toNat = 9223372036854775808 ∨ (0 < x.toNat ∧ x.toNat ≤ 4634204016564240384) := by
      have hc' := hc
      simp only [okC, Bool.and_eq_true] at hc'
      have h3 := of_decide_eq_true hc'.1
      have h4 := of_decide_eq_true hc'.2
      unfold keyI at h3 h4
      split at h3 <;> omega
    obtain ⟨r1, r2, r3⟩ := ceil_run x.toNat hk
    have hI : cellsI x = (cellsN x.toNat : Int) := by simp [cellsI, hc]
    have hE : errI x = 0 := by simp [errI, hc]
    rw [hI, hE]
    exact cells_ok x (cellsN x.toNat) (ceilB x.toNat) w _ _ _ _ rfl rfl rfl rfl he.symm (fun w => conv_ceil (ceilB x.toNat) (cellsN x.toNat) w r2 r3) (Lib.hid (fun w => ceil_any x.toNat w r1))
  | false =>
    rw [hc] at he
    have hI : cellsI x = 0 := by simp [cellsI, hc]
    have hE : errI x = 41 := by simp [errI, hc]
    rw [hI, hE]
    exact cells_no x w _ _ _ _ rfl rfl rfl rfl he.symm
end Go.Proofs.Ytngagepodbcohaa

/- The document's cells, walked. -/
namespace Go.Proofs.Ytngagepodbcohaa
open Go.ChangeShapes Go.WideShapes Go.ChangeAt Go.RowKit
set_option linter.unusedVariables false

/-- The cells of a word by its exponent and fraction. -/
def stepE (e : Int) : Int := 2 ^ (1075 - e).toNat
def kE (e f : Int) : Int := (f + 4503599627370496 + stepE e - 1) / stepE e
theorem stepE_bd (e : Int) (h : 1023 ≤ e) : 1 ≤ stepE e ∧ stepE e ≤ 4503599627370496 := by
  unfold stepE
  have h1 : (2 : Nat) ^ (1075 - e).toNat ≤ 2 ^ 52 := Nat.pow_le_pow_right (by omega) (by omega)
  have h2 := Nat.two_pow_pos (1075 - e).toNat
  have e1 : ((2 : Int) ^ (1075 - e).toNat) = ((2 ^ (1075 - e).toNat : Nat) : Int) := by simp
  rw [e1]
  have h3 : (2 : Nat) ^ 52 = 4503599627370496 := rfl
  rw [h3] at h1
  generalize (2 : Nat) ^ (1075 - e).toNat = z at *
  omega
theorem srt_5 (x : Int) (h0 : 0 ≤ x) (h : srt x = 5) : 0 < x ∧ x < 9218868437227405312 := by
  unfold srt at h
  (repeat' split at h) <;> omega
theorem ok_34 (x : Int) (h0 : 0 ≤ x) (h1 : x ≤ 18446744073709551615) (h : srt x = 3 ∨ srt x = 4) : cellsI x = 0 ∧ errI x = 0 := by
  have hz : x % 9223372036854775808 = 0 := by
    unfold srt at h
    (repeat' split at h) <;> omega
  have hk : okC x = true := by
    simp only [okC, Bool.and_eq_true]
    have : keyI x = 0 := by unfold keyI; split <;> omega
    rw [this]; exact ⟨rfl, rfl⟩
  simp only [cellsI, errI, hk, if_true]
  refine ⟨?_, trivial⟩
  unfold cellsN
  rw [if_pos (by omega)]; rfl
theorem no_else (x : Int) (h0 : 0 ≤ x) (h1 : x ≤ 18446744073709551615) (h3 : srt x ≠ 3) (h4 : srt x ≠ 4) (h5 : srt x ≠ 5) : cellsI x = 0 ∧ errI x = 41 := by
  have hk : okC x = false := by
    rw [← Bool.not_eq_true]
    intro hk
    simp only [okC, Bool.and_eq_true] at hk
    have a1 := of_decide_eq_true hk.1
    have a2 := of_decide_eq_true hk.2
    unfold keyI at a1 a2
    unfold srt at h3 h4 h5
    (repeat' split at h5) <;> (repeat' split at a1) <;> omega
  simp [cellsI, errI, hk]
theorem ok_5 (x e f : Int) (hx : 0 < x) (hx2 : x < 9218868437227405312) (he : e = x / 4503599627370496 % 2048) (hf : f = x % 4503599627370496) :
    ((e < 1023 ∨ (e = 1023 ∧ f = 0)) → cellsI x = 1 ∧ errI x = 0) ∧ (1029 < e → cellsI x = 0 ∧ errI x = 41) ∧
    (¬ (e < 1023 ∨ (e = 1023 ∧ f = 0)) → e ≤ 1029 → (64 < kE e f → cellsI x = 0 ∧ errI x = 41) ∧ (kE e f ≤ 64 → cellsI x = kE e f ∧ errI x = 0)) := by
  have he' : e = x / 4503599627370496 := by omega
  have hkey : keyI x = x := by unfold keyI; rw [if_neg (by omega)]
  obtain ⟨n, rfl⟩ := Int.eq_ofNat_of_zero_le (show 0 ≤ x by omega)
  refine ⟨fun h => ?_, fun h => ?_, fun h h2 => ?_⟩
  · have hk : okC n = true := by
      simp only [okC, Bool.and_eq_true, hkey]
      exact ⟨decide_eq_true (by omega), decide_eq_true (by omega)⟩
    simp only [cellsI, errI, hk, if_true]
    refine ⟨?_, trivial⟩
    unfold cellsN
    rw [if_neg (by omega), if_pos (by omega)]; rfl
  · have hk : okC n = false := by
      rw [← Bool.not_eq_true]
      intro hk
      simp only [okC, Bool.and_eq_true, hkey] at hk
      have a2 := of_decide_eq_true hk.2
      omega
    simp [cellsI, errI, hk]
  · have hN : cellsN n = ((4503599627370496 + n % 4503599627370496) + 2 ^ (1075 - n / 4503599627370496) - 1) / 2 ^ (1075 - n / 4503599627370496) := by
      unfold cellsN
      rw [if_neg (by omega), if_neg (by omega)]
    have hK : kE e f = (cellsN n : Int) := by
      rw [hN]
      unfold kE stepE
      have e1 : (1075 - e).toNat = 1075 - n / 4503599627370496 := by omega
      rw [e1]
      have hp := Nat.two_pow_pos (1075 - n / 4503599627370496)
      have e2 : ((2 : Int) ^ (1075 - n / 4503599627370496)) = ((2 ^ (1075 - n / 4503599627370496) : Nat) : Int) := by simp
      rw [e2]
      generalize (2 : Nat) ^ (1075 - n / 4503599627370496) = z at *
      have e3 : f + 4503599627370496 + (z : Int) - 1 = ((4503599627370496 + n % 4503599627370496 + z - 1 : Nat) : Int) := by omega
      rw [e3]; simp
    have hb : n ≤ 4634204016564240384 ↔ kE e f ≤ 64 := by
      rw [hK]
      constructor
      · intro hle
        obtain ⟨_, _, _, h3⟩ := ceil_eq n (by omega) hle
        omega
      · intro hle
        have he9 : n / 4503599627370496 ≤ 1029 := by omega
        rcases Nat.lt_or_ge (n / 4503599627370496) 1029 with h9 | h9
        · omega
        · have h10 : n / 4503599627370496 = 1029 := by omega
          rw [hN, h10] at hle
          have : (4503599627370496 + n % 4503599627370496 + 2 ^ (1075 - 1029) - 1) / 2 ^ (1075 - 1029) ≤ 64 := by omega
          rw [show (2 : Nat) ^ (1075 - 1029) = 70368744177664 from rfl] at this
          omega
    refine ⟨fun h3 => ?_, fun h3 => ?_⟩
    · have hk : okC n = false := by
        rw [← Bool.not_eq_true]
        intro hk
        simp only [okC, Bool.and_eq_true, hkey] at hk
        have a2 := of_decide_eq_true hk.2
        have := hb.1 (by omega)
        omega
      simp [cellsI, errI, hk]
    · have hk : okC n = true := by
        simp only [okC, Bool.and_eq_true, hkey]
        exact ⟨decide_eq_true (by omega), decide_eq_true (by have := hb.2 h3; omega)⟩
      simp only [cellsI, errI, hk, if_true]
      exact ⟨by rw [hK]; rfl, trivial⟩

set_option maxRecDepth 100000 in
set_option maxHeartbeats 1000000 in
theorem rcells_loop (x s e f c er : Int) (w : World) (e1 : 1023 ≤ e) (e2 : e ≤ 1029) (f0 : 0 ≤ f) (f1 : f < 4503599627370496) (hne : ¬ (e = 1023 ∧ f = 0))
    (HS : Hid (∀ w, Calls Try.prog 80 #[.int .u64 x] w fun e' w' => e' = .returned (.int .i64 5) ∧ w' = w))
    (HP : Hid (∀ w, Calls Try.prog 81 #[.int .u64 x] w fun e' w' => e' = .returned (.tuple #[.int .u64 s, .int .i64 e, .int .u64 f]) ∧ w' = w))
    (HK : Hid ((64 < kE e f → c = 0 ∧ er = 41) ∧ (kE e f ≤ 64 → c = kE e f ∧ er = 0))) :
    Calls Try.prog 71 #[.int .u64 x] w fun e' w' => e' = .returned (.tuple #[.int .i64 c, .int .i64 er]) ∧ w' = w := by
  have HN := Lib.hid hne
  clear hne
  by_cases e3 : e = 1023
  · have q1 : (e == 1023) = true := by simpa using e3
    have q2 : (f == 0) = false := by have := HN.out; simp; omega
    clear HN e3
    go_enter Try.func71, Try.ntmps71
    go_wp2_with (first
      | (go_at_call 80; refine (HS.out _).mono ?_; rintro e' w' ⟨rfl, rfl⟩)
      | (go_at_call 81; refine (HP.out _).mono ?_; rintro e' w' ⟨rfl, rfl⟩))
    go_loop [9, 10] (fun st i => ∃ j : Nat, (j : Int) ≤ 1075 - e ∧ i = .int .i64 (e + j) ∧ st = .int .u64 ((2 : Int) ^ j) ∧ 1 ≤ (2 : Int) ^ j ∧ (2 : Int) ^ j ≤ 4503599627370496) (fun _ i => (1075 - intOf i).toNat)
    case atStart => exact ⟨0, by omega, by simp, by simp, by simp, by simp⟩
    case round =>
      obtain ⟨j, hj, rfl, rfl, b1, b2⟩ := hrel
      have HJ : Hid ((2 : Int) ^ (j + 1) = 2 * 2 ^ j) := Lib.hid (by rw [Int.pow_succ, Int.mul_comm])
      have HL : Hid ((j : Int) < 1075 - e → (2 : Int) ^ j < 4503599627370496) := Lib.hid (fun h => by
        have h1 : (2 : Nat) ^ j < 2 ^ 52 := Nat.pow_lt_pow_right (by omega) (by omega)
        have e1 : ((2 : Int) ^ j) = ((2 ^ j : Nat) : Int) := by simp
        rw [e1]
        have h3 : (2 : Nat) ^ 52 = 4503599627370496 := rfl
        omega)
      have HE : Hid (1075 - e ≤ (j : Int) → (2 : Int) ^ j = stepE e) := Lib.hid (fun h => by
        unfold stepE
        congr 1
        omega)
      have HP2 : Hid ((2 : Int) ^ j < 4503599627370496 → (2 : Int) ^ (j + 1) ≤ 4503599627370496) := Lib.hid (fun h => by
        have : (2 : Nat) ^ j < 2 ^ 52 := by
          have e1 : ((2 : Int) ^ j) = ((2 ^ j : Nat) : Int) := by simp
          rw [e1] at h
          have h3 : (2 : Nat) ^ 52 = 4503599627370496 := rfl
          omega
        have h4 : j < 52 := (Nat.pow_lt_pow_iff_right (by omega)).1 this
        have h5 : (2 : Nat) ^ (j + 1) ≤ 2 ^ 52 := Nat.pow_le_pow_right (by omega) (by omega)
        have e1 : ((2 : Int) ^ (j + 1)) = ((2 ^ (j + 1) : Nat) : Int) := by simp
        rw [e1]
        have h3 : (2 : Nat) ^ 52 = 4503599627370496 := rfl
        omega)
      generalize hz : (2 : Int) ^ j = z at *
      have HZ := Lib.hid hz
      clear hz
      by_cases hlt : (j : Int) < 1075 - e
      · go_wp2_with fail
        go_round
        case rel => exact ⟨j + 1, by omega, by go_num, by rw [HJ.out], by rw [HJ.out]; omega, HP2.out (HL.out hlt)⟩
        case measure => simp [intOf]; omega
      · have hz2 := HE.out (by omega)
        have hk : (f + 4503599627370496 + z - 1) / z = kE e f := by rw [hz2]; rfl
        have HK2 := Lib.hid hk
        have k0 : 0 ≤ (f + 4503599627370496 + z - 1) / z := Int.ediv_nonneg (by omega) (by omega)
        have k1 : (f + 4503599627370496 + z - 1) / z ≤ 9223372036854775807 := by
          have := Int.ediv_le_self z (show 0 ≤ f + 4503599627370496 + z - 1 by omega)
          omega
        clear hz2 hk HE HJ HL HP2 HZ
        by_cases hk : 64 < (f + 4503599627370496 + z - 1) / z
        · go_wp2_with fail
          go_ret2
          refine ⟨?_, rfl⟩
          have := HK.out.1 (by rw [← HK2.out]; exact hk)
          rw [this.1, this.2]
          rfl
        · go_wp2_with fail
          go_ret2
          refine ⟨?_, rfl⟩
          have := HK.out.2 (by rw [← HK2.out]; omega)
          rw [this.1, this.2, ← HK2.out]
          rfl
  · clear HN
    have e4 : 1023 < e := by omega
    go_enter Try.func71, Try.ntmps71
    go_wp2_with (first
      | (go_at_call 80; refine (HS.out _).mono ?_; rintro e' w' ⟨rfl, rfl⟩)
      | (go_at_call 81; refine (HP.out _).mono ?_; rintro e' w' ⟨rfl, rfl⟩))
    go_loop [9, 10] (fun st i => ∃ j : Nat, (j : Int) ≤ 1075 - e ∧ i = .int .i64 (e + j) ∧ st = .int .u64 ((2 : Int) ^ j) ∧ 1 ≤ (2 : Int) ^ j ∧ (2 : Int) ^ j ≤ 4503599627370496) (fun _ i => (1075 - intOf i).toNat)
    case atStart => exact ⟨0, by omega, by simp, by simp, by simp, by simp⟩
    case round =>
      obtain ⟨j, hj, rfl, rfl, b1, b2⟩ := hrel
      have HJ : Hid ((2 : Int) ^ (j + 1) = 2 * 2 ^ j) := Lib.hid (by rw [Int.pow_succ, Int.mul_comm])
      have HL : Hid ((j : Int) < 1075 - e → (2 : Int) ^ j < 4503599627370496) := Lib.hid (fun h => by
        have h1 : (2 : Nat) ^ j < 2 ^ 52 := Nat.pow_lt_pow_right (by omega) (by omega)
        have e1 : ((2 : Int) ^ j) = ((2 ^ j : Nat) : Int) := by simp
        rw [e1]
        have h3 : (2 : Nat) ^ 52 = 4503599627370496 := rfl
        omega)
      have HE : Hid (1075 - e ≤ (j : Int) → (2 : Int) ^ j = stepE e) := Lib.hid (fun h => by
        unfold stepE
        congr 1
        omega)
      have HP2 : Hid ((2 : Int) ^ j < 4503599627370496 → (2 : Int) ^ (j + 1) ≤ 4503599627370496) := Lib.hid (fun h => by
        have : (2 : Nat) ^ j < 2 ^ 52 := by
          have e1 : ((2 : Int) ^ j) = ((2 ^ j : Nat) : Int) := by simp
          rw [e1] at h
          have h3 : (2 : Nat) ^ 52 = 4503599627370496 := rfl
          omega
        have h4 : j < 52 := (Nat.pow_lt_pow_iff_right (by omega)).1 this
        have h5 : (2 : Nat) ^ (j + 1) ≤ 2 ^ 52 := Nat.pow_le_pow_right (by omega) (by omega)
        have e1 : ((2 : Int) ^ (j + 1)) = ((2 ^ (j + 1) : Nat) : Int) := by simp
        rw [e1]
        have h3 : (2 : Nat) ^ 52 = 4503599627370496 := rfl
        omega)
      generalize hz : (2 : Int) ^ j = z at *
      have HZ := Lib.hid hz
      clear hz
      by_cases hlt : (j : Int) < 1075 - e
      · go_wp2_with fail
        go_round
        case rel => exact ⟨j + 1, by omega, by go_num, by rw [HJ.out], by rw [HJ.out]; omega, HP2.out (HL.out hlt)⟩
        case measure => simp [intOf]; omega
      · have hz2 := HE.out (by omega)
        have hk : (f + 4503599627370496 + z - 1) / z = kE e f := by rw [hz2]; rfl
        have HK2 := Lib.hid hk
        have k0 : 0 ≤ (f + 4503599627370496 + z - 1) / z := Int.ediv_nonneg (by omega) (by omega)
        have k1 : (f + 4503599627370496 + z - 1) / z ≤ 9223372036854775807 := by
          have := Int.ediv_le_self z (show 0 ≤ f + 4503599627370496 + z - 1 by omega)
          omega
        clear hz2 hk HE HJ HL HP2 HZ
        by_cases hk : 64 < (f + 4503599627370496 + z - 1) / z
        · go_wp2_with fail
          go_ret2
          refine ⟨?_, rfl⟩
          have := HK.out.1 (by rw [← HK2.out]; exact hk)
          rw [this.1, this.2]
          rfl
        · go_wp2_with fail
          go_ret2
          refine ⟨?_, rfl⟩
          have := HK.out.2 (by rw [← HK2.out]; omega)
          rw [this.1, this.2, ← HK2.out]
          rfl

set_option maxRecDepth 100000 in
theorem rcells_any (x : Int) (h0 : 0 ≤ x) (h1 : x ≤ 18446744073709551615) (w : World) : Calls Try.prog 71 #[.int .u64 x] w fun e w' => e = .returned (.tuple #[.int .i64 (cellsI x), .int .i64 (errI x)]) ∧ w' = w := by
  have HS := Lib.hid (rsort_any x h0 h1)
  by_cases h3 : srt x = 3
  · obtain ⟨c1, c2⟩ := ok_34 x h0 h1 (.inl h3)
    rw [h3] at HS
    rw [c1, c2]
    clear c1 c2 h3
    go_enter Try.func71, Try.ntmps71
    go_wp2_with (go_at_call 80; refine (HS.out _).mono ?_; rintro e' w' ⟨rfl, rfl⟩)
    go_ret2
    exact ⟨rfl, rfl⟩
  · by_cases h4 : srt x = 4
    · obtain ⟨c1, c2⟩ := ok_34 x h0 h1 (.inr h4)
      rw [h4] at HS
      rw [c1, c2]
      clear c1 c2 h3 h4
      go_enter Try.func71, Try.ntmps71
      go_wp2_with (go_at_call 80; refine (HS.out _).mono ?_; rintro e' w' ⟨rfl, rfl⟩)
      go_ret2
      exact ⟨rfl, rfl⟩
    · by_cases h5 : srt x = 5
      · obtain ⟨x0, x1⟩ := srt_5 x h0 h5
        rw [h5] at HS
        obtain ⟨s, hs⟩ : ∃ s, s = x / 9223372036854775808 := ⟨_, rfl⟩
        obtain ⟨e, he⟩ : ∃ e, e = x / 4503599627370496 % 2048 := ⟨_, rfl⟩
        obtain ⟨f, hf⟩ : ∃ f, f = x % 4503599627370496 := ⟨_, rfl⟩
        have HP := Lib.hid (parts_of x s e f h0 h1 hs he hf)
        obtain ⟨k1, k2, k3⟩ := ok_5 x e f x0 x1 he hf
        have f0 : 0 ≤ f := by omega
        have f1 : f < 4503599627370496 := by omega
        have e0 : 0 ≤ e := by omega
        clear hs he hf h3 h4 h5
        by_cases g1 : e < 1023
        · obtain ⟨c1, c2⟩ := k1 (.inl g1)
          rw [c1, c2]
          clear c1 c2 k1 k2 k3
          go_enter Try.func71, Try.ntmps71
          go_wp2_with (first
            | (go_at_call 80; refine (HS.out _).mono ?_; rintro e' w' ⟨rfl, rfl⟩)
            | (go_at_call 81; refine (HP.out _).mono ?_; rintro e' w' ⟨rfl, rfl⟩))
          go_ret2
          exact ⟨rfl, rfl⟩
        · by_cases g2 : e = 1023 ∧ f = 0
          · obtain ⟨c1, c2⟩ := k1 (.inr g2)
            rw [c1, c2]
            clear c1 c2 k1 k2 k3
            obtain ⟨rfl, rfl⟩ := g2
            go_enter Try.func71, Try.ntmps71
            go_wp2_with (first
              | (go_at_call 80; refine (HS.out _).mono ?_; rintro e' w' ⟨rfl, rfl⟩)
              | (go_at_call 81; refine (HP.out _).mono ?_; rintro e' w' ⟨rfl, rfl⟩))
            go_ret2
            exact ⟨rfl, rfl⟩
          · by_cases g3 : 1029 < e
            · obtain ⟨c1, c2⟩ := k2 g3
              rw [c1, c2]
              clear c1 c2 k1 k2 k3 g1 g2
              have g4 : 1023 < e := by omega
              go_enter Try.func71, Try.ntmps71
              go_wp2_with (first
                | (go_at_call 80; refine (HS.out _).mono ?_; rintro e' w' ⟨rfl, rfl⟩)
                | (go_at_call 81; refine (HP.out _).mono ?_; rintro e' w' ⟨rfl, rfl⟩))
              go_ret2
              exact ⟨rfl, rfl⟩
            · exact rcells_loop x s e f _ _ w (by omega) (by omega) f0 f1 g2 HS HP (Lib.hid (k3 (by omega) (by omega)))
      · obtain ⟨c1, c2⟩ := no_else x h0 h1 h3 h4 h5
        rw [c1, c2]
        clear c1 c2
        generalize srt x = s at *
        have q3 : (s == 3) = false := by simpa using h3
        have q4 : (s == 4) = false := by simpa using h4
        have q5 : (s != 5) = true := by simpa using h5
        go_enter Try.func71, Try.ntmps71
        go_wp2_with (go_at_call 80; refine (HS.out _).mono ?_; rintro e' w' ⟨rfl, rfl⟩)
        go_ret2
        exact ⟨rfl, rfl⟩
end Go.Proofs.Ytngagepodbcohaa
