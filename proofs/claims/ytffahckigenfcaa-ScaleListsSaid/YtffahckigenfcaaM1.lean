import GoSem.Core.Float
/- Plain facts on float64's words: their order is the order of their rungs. -/
namespace Go.Proofs.Ytffahckigenfcaa
open Go Ieee

/-- A magnitude in units of the least place. -/
def val (r : Nat) : Nat := if r < 4503599627370496 then r else (4503599627370496 + r % 4503599627370496) * 2 ^ (r / 4503599627370496 - 1)

theorem val_succ (r : Nat) : val r < val (r + 1) := by
  unfold val
  by_cases h : r + 1 < 4503599627370496
  · rw [if_pos (by omega), if_pos h]; omega
  · rw [if_neg h]
    by_cases h1 : r < 4503599627370496
    · have : r = 4503599627370495 := by omega
      subst this
      decide
    · rw [if_neg h1]
      by_cases h2 : (r + 1) % 4503599627370496 = 0
      · have e1 : r % 4503599627370496 = 4503599627370495 := by omega
        have e2 : (r + 1) / 4503599627370496 - 1 = (r / 4503599627370496 - 1) + 1 := by omega
        rw [e1, h2, e2, Nat.pow_succ]
        have := Nat.two_pow_pos (r / 4503599627370496 - 1)
        generalize 2 ^ (r / 4503599627370496 - 1) = z at *
        omega
      · have e1 : (r + 1) % 4503599627370496 = r % 4503599627370496 + 1 := by omega
        have e2 : (r + 1) / 4503599627370496 = r / 4503599627370496 := by omega
        rw [e1, e2]
        exact Nat.mul_lt_mul_of_pos_right (by omega) (Nat.two_pow_pos _)
theorem val_lt {r s : Nat} (h : r < s) : val r < val s := by
  obtain ⟨d, rfl⟩ : ∃ d, s = r + 1 + d := ⟨s - (r + 1), by omega⟩
  clear h
  induction d with
  | zero => exact val_succ r
  | succ d ih => exact Nat.lt_trans ih (val_succ _)
theorem val_inj {r s : Nat} (h : val r = val s) : r = s := by
  rcases Nat.lt_trichotomy r s with h1 | h1 | h1
  · have := val_lt h1; omega
  · exact h1
  · have := val_lt h1; omega

def sg (neg : Bool) (v : Nat) : Int := if neg then -(v : Int) else v

/-- What a finite word stands for. -/
theorem read_fin (b : Nat) (h : b % 9223372036854775808 < 9218868437227405312) :
    ∃ m : Nat, ∃ up : Nat, double.read b = .number (b / 9223372036854775808 % 2 == 1) m (-1074 + up) ∧ m * 2 ^ up = val (b % 9223372036854775808) := by
  have hb : double.binade = 4503599627370496 := rfl
  have hi : double.infRung = 9218868437227405312 := by decide
  have hs : double.signWeight = 9223372036854775808 := by decide
  have hl : double.leastPlace = -1074 := by decide
  unfold Format.read
  simp only [hb, hi, hs, hl]
  generalize b % 9223372036854775808 = r at *
  by_cases h1 : r < 4503599627370496
  · rw [if_pos h1]
    exact ⟨r, 0, rfl, by simp [val, h1]⟩
  · rw [if_neg h1, if_pos h]
    exact ⟨_, _, rfl, by simp [val, h1]⟩
theorem read_inf (b : Nat) (h : b % 9223372036854775808 = 9218868437227405312) : double.read b = .infinity (b / 9223372036854775808 % 2 == 1) := by
  have hb : double.binade = 4503599627370496 := rfl
  have hi : double.infRung = 9218868437227405312 := by decide
  have hs : double.signWeight = 9223372036854775808 := by decide
  unfold Format.read
  simp only [hb, hi, hs, h]
  rfl
theorem read_nan (b : Nat) (h : 9218868437227405312 < b % 9223372036854775808) : ∃ s t, double.read b = .nan s t := by
  have hb : double.binade = 4503599627370496 := rfl
  have hi : double.infRung = 9218868437227405312 := by decide
  have hs : double.signWeight = 9223372036854775808 := by decide
  unfold Format.read
  simp only [hb, hi, hs]
  rw [if_neg (by omega), if_neg (by omega), if_neg (by omega)]
  exact ⟨_, _, rfl⟩

/-- The rung with its sign. -/
def key (b : Nat) : Int := sg (b / 9223372036854775808 % 2 == 1) (b % 9223372036854775808)

theorem signed_eq (s : Bool) (m up : Nat) : signed s m up = sg s (m * 2 ^ up) := by
  simp [signed, sg, Nat.shiftLeft_eq]
theorem sg_mul (s : Bool) (a c : Nat) : sg s (a * c) = sg s a * (c : Int) := by
  unfold sg
  split <;> simp [Int.neg_mul]
theorem compare_mul (a b : Int) (c : Nat) (hc : 0 < c) : compare a b = compare (a * c) (b * c) := by
  have hc' : (0 : Int) < c := by omega
  simp only [compare, compareOfLessAndEq]
  have h1 : a < b ↔ a * c < b * c := ⟨fun h => Int.mul_lt_mul_of_pos_right h hc', fun h => Int.lt_of_mul_lt_mul_right h (by omega)⟩
  have h2 : a = b ↔ a * c = b * c := ⟨fun h => by rw [h], fun h => Int.eq_of_mul_eq_mul_right (by omega) h⟩
  simp only [← h1, ← h2]
theorem ite_cg {α : Type} {p q : Prop} [Decidable p] [Decidable q] (h : p ↔ q) {a b c : α} (hb : b = c) : (if p then a else b) = if q then a else c := by
  subst hb
  by_cases hp : p
  · rw [if_pos hp, if_pos (h.1 hp)]
  · rw [if_neg hp, if_neg (fun x => hp (h.2 x))]
theorem compare_sg (s t : Bool) (r q : Nat) : compare (sg s (val r)) (sg t (val q)) = compare (sg s r) (sg t q) := by
  have h0 : val 0 = 0 := rfl
  have pr : 0 < r → 0 < val r := fun h => by have := val_lt h; omega
  have pq : 0 < q → 0 < val q := fun h => by have := val_lt h; omega
  have lt1 : r < q → val r < val q := val_lt
  have lt2 : q < r → val q < val r := val_lt
  have e0 : r = 0 → val r = 0 := fun h => by rw [h]; rfl
  have e1 : q = 0 → val q = 0 := fun h => by rw [h]; rfl
  have e2 : r = q → val r = val q := fun h => by rw [h]
  simp only [compare, compareOfLessAndEq, sg]
  generalize val r = vr at *
  generalize val q = vq at *
  have l : (((if s = true then -(vr : Int) else vr) < (if t = true then -(vq : Int) else vq)) ↔ ((if s = true then -(r : Int) else r) < (if t = true then -(q : Int) else q))) := by
    cases s <;> cases t <;> simp <;> omega
  have m : (((if s = true then -(vr : Int) else vr) = (if t = true then -(vq : Int) else vq)) ↔ ((if s = true then -(r : Int) else r) = (if t = true then -(q : Int) else q))) := by
    cases s <;> cases t <;> simp <;> omega
  exact ite_cg l (ite_cg m rfl)

theorem order_key (x y : Nat) (hx : x % 9223372036854775808 ≤ 9218868437227405312) (hy : y % 9223372036854775808 ≤ 9218868437227405312) :
    double.order x y = some (compare (key x) (key y)) := by
  unfold Format.order key
  rcases Nat.lt_or_eq_of_le hx with h1 | h1
  · obtain ⟨m, i, e1, v1⟩ := read_fin x h1
    rcases Nat.lt_or_eq_of_le hy with h2 | h2
    · obtain ⟨n, j, e2, v2⟩ := read_fin y h2
      rw [e1, e2]
      simp only [Datum.order, signed_eq]
      rw [← compare_sg _ _ (x % 9223372036854775808) (y % 9223372036854775808), ← v1, ← v2]
      generalize (x / 9223372036854775808 % 2 == 1) = s
      generalize (y / 9223372036854775808 % 2 == 1) = t
      congr 1
      obtain ⟨k, a, b, ha, hb⟩ : ∃ k a b : Nat, i = k + a ∧ j = k + b ∧ (a = 0 ∨ b = 0) := ⟨min i j, i - min i j, j - min i j, by omega, by omega, by omega⟩
      obtain ⟨hb, hz⟩ := hb
      have f1 : ((-1074 + (i : Int)) - min (-1074 + (i : Int)) (-1074 + (j : Int))).toNat = a := by omega
      have f2 : ((-1074 + (j : Int)) - min (-1074 + (i : Int)) (-1074 + (j : Int))).toNat = b := by omega
      rw [f1, f2, ha, hb]
      rw [compare_mul _ _ (2 ^ k) (Nat.two_pow_pos _), ← sg_mul, ← sg_mul]
      congr 2
      · rw [Nat.mul_assoc, ← Nat.pow_add, Nat.add_comm]
      · rw [Nat.mul_assoc, ← Nat.pow_add, Nat.add_comm]
    · rw [e1, read_inf y h2]
      simp only [Datum.order]
      generalize (x / 9223372036854775808 % 2 == 1) = s
      generalize (y / 9223372036854775808 % 2 == 1) = t
      simp only [compare, compareOfLessAndEq, sg, h2]
      cases s <;> cases t <;> simp <;> (repeat' split) <;> first | rfl | omega
  · rw [read_inf x h1]
    rcases Nat.lt_or_eq_of_le hy with h2 | h2
    · obtain ⟨n, j, e2, v2⟩ := read_fin y h2
      rw [e2]
      simp only [Datum.order]
      generalize (x / 9223372036854775808 % 2 == 1) = s
      generalize (y / 9223372036854775808 % 2 == 1) = t
      simp only [compare, compareOfLessAndEq, sg, h1]
      cases s <;> cases t <;> simp <;> (repeat' split) <;> first | rfl | omega
    · rw [read_inf y h2]
      simp only [Datum.order]
      generalize (x / 9223372036854775808 % 2 == 1) = s
      generalize (y / 9223372036854775808 % 2 == 1) = t
      simp only [compare, compareOfLessAndEq, sg, h1, h2]
      cases s <;> cases t <;> simp
theorem order_nan (x y : Nat) (h : 9218868437227405312 < x % 9223372036854775808 ∨ 9218868437227405312 < y % 9223372036854775808) : double.order x y = none := by
  unfold Format.order
  rcases h with h | h
  · obtain ⟨s, t, e⟩ := read_nan x h
    rw [e]
    cases double.read y <;> rfl
  · obtain ⟨s, t, e⟩ := read_nan y h
    rw [e]
    cases double.read x <;> rfl
end Go.Proofs.Ytffahckigenfcaa
