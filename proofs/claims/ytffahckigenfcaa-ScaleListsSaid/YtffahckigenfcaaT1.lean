/- Contracts of functions by an evaluator of the model: its part T1. -/
import Derived.Test.YtffahckigenfcaaProg
import Derived.Test.YtffahckigenfcaaV2
import Derived.KernelRfl
import Derived.Test.YtffahckigenfcaaV3
import Derived.Test.YtffahckigenfcaaW6
import Derived.Test.YtffahckigenfcaaM4
set_option linter.all false
/- The types of the program, as its table tells them; the kernel holds them against the program. -/
namespace Go.Proofs.Ytffahckigenfcaa
open Go Vx
def tll : TabL := [
  (1, ⟨.func, 1, 8, [.nil .func]⟩),
  (2, ⟨.int .i64, 1, 8, [.int .i64 0]⟩),
  (3, ⟨.int .i64, 1, 8, [.int .i64 0]⟩),
  (4, ⟨.bool, 1, 1, [.bool false]⟩),
  (5, ⟨.int .u8, 1, 1, [.int .u8 0]⟩),
  (9, ⟨.str, 1, 16, [.str ByteArray.empty]⟩),
  (12, ⟨.int .u64, 1, 8, [.int .u64 0]⟩),
  (17, ⟨.ptr, 1, 8, [.nil .ptr]⟩),
  (20, ⟨.iface, 1, 16, [.nil .iface]⟩),
  (21, ⟨.int .i32, 1, 4, [.int .i32 0]⟩),
  (22, ⟨.int .u64, 1, 8, [.int .u64 0]⟩),
  (23, ⟨.int .i64, 1, 8, [.int .i64 0]⟩),
  (25, ⟨.func, 1, 8, [.nil .func]⟩),
  (27, ⟨.func, 1, 8, [.nil .func]⟩),
  (28, ⟨.func, 1, 8, [.nil .func]⟩),
  (29, ⟨.func, 1, 8, [.nil .func]⟩),
  (30, ⟨.func, 1, 8, [.nil .func]⟩),
  (31, ⟨.func, 1, 8, [.nil .func]⟩),
  (32, ⟨.func, 1, 8, [.nil .func]⟩),
  (33, ⟨.func, 1, 8, [.nil .func]⟩),
  (34, ⟨.slice 22, 1, 24, [.nil .slice]⟩),
  (35, ⟨.func, 1, 8, [.nil .func]⟩),
  (36, ⟨.func, 1, 8, [.nil .func]⟩),
  (37, ⟨.func, 1, 8, [.nil .func]⟩),
  (38, ⟨.func, 1, 8, [.nil .func]⟩),
  (39, ⟨.flt .f64, 1, 8, [.flt .f64 0]⟩),
  (40, ⟨.func, 1, 8, [.nil .func]⟩),
  (41, ⟨.func, 1, 8, [.nil .func]⟩),
  (43, ⟨.func, 1, 8, [.nil .func]⟩),
  (44, ⟨.func, 1, 8, [.nil .func]⟩),
  (45, ⟨.func, 1, 8, [.nil .func]⟩),
  (46, ⟨.func, 1, 8, [.nil .func]⟩),
  (47, ⟨.func, 1, 8, [.nil .func]⟩),
  (48, ⟨.func, 1, 8, [.nil .func]⟩),
  (49, ⟨.func, 1, 8, [.nil .func]⟩),
  (50, ⟨.func, 1, 8, [.nil .func]⟩),
  (51, ⟨.func, 1, 8, [.nil .func]⟩),
  (52, ⟨.func, 1, 8, [.nil .func]⟩),
  (53, ⟨.func, 1, 8, [.nil .func]⟩),
  (54, ⟨.func, 1, 8, [.nil .func]⟩),
  (55, ⟨.func, 1, 8, [.nil .func]⟩),
  (56, ⟨.func, 1, 8, [.nil .func]⟩),
  (57, ⟨.func, 1, 8, [.nil .func]⟩),
  (58, ⟨.func, 1, 8, [.nil .func]⟩),
  (59, ⟨.func, 1, 8, [.nil .func]⟩),
  (60, ⟨.func, 1, 8, [.nil .func]⟩),
  (62, ⟨.func, 1, 8, [.nil .func]⟩),
  (63, ⟨.int .u64, 1, 8, [.int .u64 0]⟩),
  (64, ⟨.func, 1, 8, [.nil .func]⟩),
  (65, ⟨.func, 1, 8, [.nil .func]⟩),
  (71, ⟨.func, 1, 8, [.nil .func]⟩),
  (72, ⟨.int .u32, 1, 4, [.int .u32 0]⟩),
  (76, ⟨.ptr, 1, 8, [.nil .ptr]⟩)]
def tl : Tab := fun t => tabL tll t
theorem tl_ok : TabOk Go.Proofs.Try.prog tl := tabOk_of (by kernel_rfl)
end Go.Proofs.Ytffahckigenfcaa

/- Plain words on lists of numbers. -/
namespace Go.Proofs.Ytffahckigenfcaa
open Go Vx
theorem mixed : Try.prog.follows .mixedOrders = true := by kernel_rfl
def tab {α : Type} (n : Nat) (f : Nat → α) : List α := (List.range n).map f
theorem tab_len {α : Type} (n : Nat) (f : Nat → α) : (tab n f).length = n := by simp [tab]
theorem tab_snoc {α : Type} {n n' : Nat} {f g : Nat → α} {a : α} (hn : n' = n + 1) (h : ∀ j, j < n → g j = f j) (ha : g n = a) : tab n' g = tab n f ++ [a] := by
  subst hn ha
  simp only [tab, List.range_succ, List.map_append, List.map_cons, List.map_nil]
  congr 1
  exact List.map_congr_left fun j hj => h j (by simpa using hj)
theorem tab_last {α : Type} {n : Nat} (f : Nat → α) (d : α) (h : 0 < n) : (tab n f).getLastD d = f (n - 1) := by
  obtain ⟨m, rfl⟩ : ∃ m, n = m + 1 := ⟨n - 1, by omega⟩
  rw [tab_snoc (f := f) rfl (fun _ _ => rfl) rfl]
  simp
theorem tab_pop {α : Type} (n : Nat) (f : Nat → α) : (tab n f).dropLast = tab (n - 1) f := by
  cases n with
  | zero => rfl
  | succ n => rw [tab_snoc (f := f) rfl (fun _ _ => rfl) rfl]; simp
theorem tab_one {α : Type} (f : Nat → α) : tab 1 f = [f 0] := rfl
theorem tab_get {α : Type} (n : Nat) (f : Nat → α) (j : Nat) (h : j < n) : (tab n f)[j]? = some (f j) := by simp [tab, h]
theorem tab_inj {α : Type} {n : Nat} {f g : Nat → α} (h : tab n f = tab n g) : ∀ j, j < n → f j = g j := by
  intro j hj
  have := congrArg (fun l : List α => l[j]?) h
  simpa [tab, hj] using this
theorem tab_take {α : Type} {n m : Nat} (f : Nat → α) (h : m ≤ n) : (tab n f).take m = tab m f := by
  apply List.ext_getElem?
  intro j
  rw [List.getElem?_take]
  by_cases hj : j < m
  · rw [if_pos hj, tab_get _ _ _ (by omega), tab_get _ _ _ hj]
  · rw [if_neg hj, List.getElem?_eq_none (by rw [tab_len]; omega)]
theorem tab_congr {α : Type} {n : Nat} {f g : Nat → α} (h : ∀ j, j < n → f j = g j) : tab n f = tab n g := List.map_congr_left fun j hj => h j (by simpa using hj)
theorem tab_of {α : Type} (l : List α) (d : α) : tab l.length (fun j => l.getD j d) = l := by
  apply List.ext_getElem?
  intro j
  by_cases hj : j < l.length
  · rw [tab_get _ _ _ hj, List.getD_eq_getElem?_getD, List.getElem?_eq_getElem hj]; rfl
  · rw [List.getElem?_eq_none (by rw [tab_len]; omega), List.getElem?_eq_none (by omega)]
theorem snoc_of {α : Type} {l : List α} (h : l ≠ []) : ∃ s x, l = s ++ [x] := ⟨l.dropLast, l.getLast h, (List.dropLast_concat_getLast h).symm⟩
theorem snocF {α : Type} (f : Nat → α) (q : Nat) (a : α) : ∃ g : Nat → α, (∀ j, j < q → g j = f j) ∧ g q = a := ⟨fun j => if j = q then a else f j, fun j hj => by simp; omega, by simp⟩
/-- What an append of one number leaves. -/
theorem leaf {subN : Nat → Nat → Nat} {ltB : Nat → Nat → Bool} (hl : ltB = Vx.ltB) (hs : subN = Vx.subN) (a : Int) (f g : Nat → Int) (q : Nat) (h : ∀ j, j < q → g j = f j) (hq : g q = a) : ∀ i, i < q + 1 → icol .i64 g i = (match ltB i q with | true => icol .i64 f i | false => [[.int .i64 a]].getD (subN i q) []) := by
  intro i hi
  subst hl hs
  simp only [icol]
  cases hr : Vx.ltB i q
  · simp only [plain] at hr
    obtain rfl : i = q := by omega
    simp [Vx.subN, hq]
  · simp only [plain] at hr
    rw [h i hr]
/-- The same for rows. -/
theorem leafR {subN : Nat → Nat → Nat} {ltB : Nat → Nat → Bool} (hl : ltB = Vx.ltB) (hs : subN = Vx.subN) (a : List AV) (f g : Nat → List AV) (q : Nat) (h : ∀ j, j < q → g j = f j) (hq : g q = a) : ∀ i, i < q + 1 → g i = (match ltB i q with | true => f i | false => [a].getD (subN i q) []) := by
  intro i hi
  subst hl hs
  cases hr : Vx.ltB i q
  · simp only [plain] at hr
    obtain rfl : i = q := by omega
    simp [Vx.subN, hq]
  · simp only [plain] at hr
    exact h i hr
theorem band_le (a : Int) (m : Nat) (hm : m < 1000) : ∃ r : Nat, Vx.iband .i64 a m = r ∧ r ≤ m := by
  have e2 : (BitVec.ofInt 64 (m : Int)).toNat = m := by rw [BitVec.toNat_ofInt]; omega
  have h : ((BitVec.ofInt 64 a &&& BitVec.ofInt 64 (m : Int)).toNat) ≤ m := by
    rw [BitVec.toNat_and, e2]; exact Nat.and_le_right
  refine ⟨_, ?_, h⟩
  show IntKind.i64.wrap _ = _
  rw [IntWalk.i64_in]
  · rfl
  · constructor
    · show -9223372036854775808 ≤ (((BitVec.ofInt 64 a &&& BitVec.ofInt 64 (m : Int)).toNat : Nat) : Int); omega
    · show (((BitVec.ofInt 64 a &&& BitVec.ofInt 64 (m : Int)).toNat : Nat) : Int) ≤ 9223372036854775807; omega
end Go.Proofs.Ytffahckigenfcaa

/- Merging by rotations, plainly: rows that are sorted by a number's key, and that keep the order within each key. -/
namespace Go.Proofs.Ytffahckigenfcaa
/-- Two blocks [a,m) and [m,b) changed for one another. -/
def rot (a m b : Nat) (g : Nat → Int) (i : Nat) : Int := if a ≤ i ∧ i < a + (b - m) then g (i + (m - a)) else if a + (b - m) ≤ i ∧ i < b then g (i - (b - m)) else g i
/-- Two blocks of c, at a and at b, changed for one another. -/
def swp (a b c : Nat) (g : Nat → Int) (i : Nat) : Int := if a ≤ i ∧ i < a + c then g (b + (i - a)) else if b ≤ i ∧ i < b + c then g (a + (i - b)) else g i
theorem rot_gt {a m b i j : Nat} (hi : i = m - a) (hj : j = b - m) (h1 : a ≤ m) (h2 : m ≤ b) (h : j < i) (g : Nat → Int) (x : Nat) : rot (a + j) m b (swp a m j g) x = rot a m b g x := by
  subst hi hj
  simp only [rot, swp]
  repeat' split
  all_goals first | omega | (congr 1; omega) | rfl
theorem rot_lt {a m b i j : Nat} (hi : i = m - a) (hj : j = b - m) (h1 : a ≤ m) (h2 : m ≤ b) (h : i < j) (g : Nat → Int) (x : Nat) : rot a m (b - i) (swp a (b - i) i g) x = rot a m b g x := by
  subst hi hj
  simp only [rot, swp]
  repeat' split
  all_goals first | omega | (congr 1; omega) | rfl
theorem rot_eq {a m b i : Nat} (hi : i = m - a) (hj : i = b - m) (h1 : a ≤ m) (h2 : m ≤ b) (g : Nat → Int) (x : Nat) : swp a m i g x = rot a m b g x := by
  subst hi
  simp only [rot, swp]
  repeat' split
  all_goals first | omega | (congr 1; omega) | rfl
/-- The row from a on, n long. -/
def seg (g : Nat → Int) (a : Nat) : Nat → List Int
  | 0 => []
  | n + 1 => seg g a n ++ [g (a + n)]
theorem seg_app (g : Nat → Int) (a n m : Nat) : seg g a (n + m) = seg g a n ++ seg g (a + n) m := by
  induction m with
  | zero => simp [seg]
  | succ m ih => rw [← Nat.add_assoc, seg, ih, seg, List.append_assoc, Nat.add_assoc]
theorem seg_congr {g h : Nat → Int} {a b : Nat} : ∀ {n : Nat}, (∀ i, i < n → g (a + i) = h (b + i)) → seg g a n = seg h b n
  | 0, _ => rfl
  | n + 1, e => by rw [seg, seg, seg_congr fun i hi => e i (by omega), e n (by omega)]
theorem mem_seg {g : Nat → Int} {a : Nat} {x : Int} : ∀ {n : Nat}, x ∈ seg g a n ↔ ∃ i, a ≤ i ∧ i < a + n ∧ g i = x
  | 0 => by simp [seg]; intro i _ _; omega
  | n + 1 => by
    rw [seg, List.mem_append, mem_seg (n := n), List.mem_singleton]
    constructor
    · rintro (⟨i, h1, h2, h3⟩ | rfl)
      · exact ⟨i, h1, by omega, h3⟩
      · exact ⟨a + n, by omega, by omega, rfl⟩
    · rintro ⟨i, h1, h2, h3⟩
      rcases Nat.lt_or_ge i (a + n) with h | h
      · exact .inl ⟨i, h1, h, h3⟩
      · obtain rfl : i = a + n := by omega
        exact .inr h3.symm
section
variable (key : Int → Int)
def cls (r : Int) (l : List Int) : List Int := l.filter fun x => decide (key x = r)
theorem cls_app (r : Int) (l m : List Int) : cls key r (l ++ m) = cls key r l ++ cls key r m := List.filter_append ..
/-- Sorted from a to b. -/
def Srt (g : Nat → Int) (a b : Nat) : Prop := ∀ i j, a ≤ i → i ≤ j → j < b → key (g i) ≤ key (g j)
/-- The same but for the order, and within each key the same order. -/
structure Stb (a b : Nat) (g h : Nat → Int) : Prop where
  out : ∀ i, ¬(a ≤ i ∧ i < b) → h i = g i
  cl : ∀ r, cls key r (seg h a (b - a)) = cls key r (seg g a (b - a))
variable {key}
theorem Stb.refl {a b : Nat} {g h : Nat → Int} (e : ∀ i, h i = g i) : Stb key a b g h := ⟨fun i _ => e i, fun r => by rw [seg_congr (g := h) (h := g) fun i _ => e _]⟩
theorem Stb.trans {a b : Nat} {f g h : Nat → Int} (h1 : Stb key a b f g) (h2 : Stb key a b g h) : Stb key a b f h := ⟨fun i hi => by rw [h2.out i hi, h1.out i hi], fun r => by rw [h2.cl, h1.cl]⟩
theorem Stb.mem {a b : Nat} {g h : Nat → Int} (s : Stb key a b g h) {i : Nat} (h1 : a ≤ i) (h2 : i < b) : ∃ j, a ≤ j ∧ j < b ∧ g j = h i := by
  have q : h i ∈ cls key (key (h i)) (seg h a (b - a)) := by
    rw [cls, List.mem_filter]
    exact ⟨mem_seg.2 ⟨i, h1, by omega, rfl⟩, by simp⟩
  rw [s.cl, cls, List.mem_filter] at q
  obtain ⟨j, h3, h4, h5⟩ := mem_seg.1 q.1
  exact ⟨j, h3, by omega, h5⟩
theorem seg_split (g : Nat → Int) {a s b : Nat} (h1 : a ≤ s) (h2 : s ≤ b) : seg g a (b - a) = seg g a (s - a) ++ seg g s (b - s) := by
  have e : b - a = (s - a) + (b - s) := by omega
  have e2 : a + (s - a) = s := by omega
  rw [e, seg_app, e2]
theorem Stb.widen {a s e b : Nat} {g h : Nat → Int} (h1 : a ≤ s) (h2 : s ≤ e) (h3 : e ≤ b) (q : Stb key s e g h) : Stb key a b g h := by
  refine ⟨fun i hi => q.out i (by omega), fun r => ?_⟩
  have c1 : seg h a (s - a) = seg g a (s - a) := seg_congr fun i hi => q.out _ (by omega)
  have c2 : seg h e (b - e) = seg g e (b - e) := seg_congr fun i hi => q.out _ (by omega)
  rw [seg_split h (a := a) (s := s) (b := b) h1 (by omega), seg_split g (a := a) (s := s) (b := b) h1 (by omega), seg_split h h2 h3, seg_split g h2 h3, cls_app, cls_app, cls_app, cls_app, q.cl, c1, c2]
theorem cls_nil {l : List Int} {r : Int} (h : ∀ x ∈ l, key x ≠ r) : cls key r l = [] := List.filter_eq_nil_iff.2 fun x hx => by simp [h x hx]
/-- Blocks of which the second one is ahead change places. -/
theorem rot_stb {a m b : Nat} {g : Nat → Int} (h1 : a ≤ m) (h2 : m ≤ b) (h : ∀ i j, a ≤ i → i < m → m ≤ j → j < b → key (g j) < key (g i)) : Stb key a b g (rot a m b g) := by
  refine ⟨fun i hi => ?_, fun r => ?_⟩
  · simp only [rot]
    repeat' split
    all_goals first | omega | rfl
  · rw [seg_split g h1 h2, seg_split (rot a m b g) (s := a + (b - m)) (by omega) (by omega)]
    have c1 : seg (rot a m b g) a (a + (b - m) - a) = seg g m (b - m) := by
      have e : a + (b - m) - a = b - m := by omega
      rw [e]
      refine seg_congr fun i hi => ?_
      simp only [rot]
      rw [if_pos (by omega)]
      congr 1
      omega
    have c2 : seg (rot a m b g) (a + (b - m)) (b - (a + (b - m))) = seg g a (m - a) := by
      have e : b - (a + (b - m)) = m - a := by omega
      rw [e]
      refine seg_congr fun i hi => ?_
      simp only [rot]
      rw [if_neg (by omega), if_pos (by omega)]
      congr 1
      omega
    rw [c1, c2, cls_app, cls_app]
    by_cases hr : ∃ x ∈ seg g m (b - m), key x = r
    · obtain ⟨x, hx, rfl⟩ := hr
      obtain ⟨j, j1, j2, rfl⟩ := mem_seg.1 hx
      have : cls key (key (g j)) (seg g a (m - a)) = [] := cls_nil fun y hy => by
        obtain ⟨i, i1, i2, rfl⟩ := mem_seg.1 hy
        have := h i j i1 (by omega) j1 (by omega)
        omega
      rw [this]
      simp
    · have : cls key r (seg g m (b - m)) = [] := cls_nil fun y hy e => hr ⟨y, hy, e⟩
      rw [this]
      simp
theorem Srt.sub {g : Nat → Int} {a b c d : Nat} (h : Srt key g a b) (h1 : a ≤ c) (h2 : d ≤ b) : Srt key g c d := fun i j x y z => h i j (by omega) y (by omega)
theorem Srt.congr {g h : Nat → Int} {a b : Nat} (q : Srt key g a b) (e : ∀ i, a ≤ i → i < b → h i = g i) : Srt key h a b := fun i j x y z => by rw [e i x (by omega), e j (by omega) z]; exact q i j x y z
theorem Srt.short {g : Nat → Int} {a b : Nat} (h : b ≤ a + 1) : Srt key g a b := fun i j x y z => by
  have : i = j := by omega
  rw [this]
  exact Int.le_refl _
theorem Srt.join {g : Nat → Int} {a s b : Nat} (h1 : Srt key g a s) (h2 : Srt key g s b) (h : ∀ i j, a ≤ i → i < s → s ≤ j → j < b → key (g i) ≤ key (g j)) : Srt key g a b := by
  intro i j x y z
  rcases Nat.lt_or_ge j s with q | q
  · exact h1 i j x y q
  · rcases Nat.lt_or_ge i s with p | p
    · exact h i j x p q z
    · exact h2 i j p y z
/-- What stands in a rotated row. -/
theorem rot_lo (a m b : Nat) (g : Nat → Int) {i : Nat} (h1 : a ≤ i) (h2 : i < a + (b - m)) : rot a m b g i = g (i + (m - a)) := by simp only [rot]; rw [if_pos ⟨h1, h2⟩]
theorem rot_hi (a m b : Nat) (g : Nat → Int) {i : Nat} (h1 : a + (b - m) ≤ i) (h2 : i < b) : rot a m b g i = g (i - (b - m)) := by simp only [rot]; rw [if_neg (by omega), if_pos ⟨h1, h2⟩]
theorem rot_out (a m b : Nat) (g : Nat → Int) {i : Nat} (hm : a ≤ m) (hb : m ≤ b) (h : ¬(a ≤ i ∧ i < b)) : rot a m b g i = g i := by simp only [rot]; rw [if_neg (by omega), if_neg (by omega)]
/-- One number of the first block goes in behind those that are ahead of it. -/
theorem first_law {a b i : Nat} {g : Nat → Int} (h1 : a + 1 ≤ i) (h2 : i ≤ b) (hs : Srt key g (a + 1) b) (hl : ∀ j, a + 1 ≤ j → j < i → key (g j) < key (g a)) (hr : ∀ j, i ≤ j → j < b → key (g a) ≤ key (g j)) :
    Srt key (rot a (a + 1) i g) a b ∧ Stb key a b g (rot a (a + 1) i g) := by
  refine ⟨?_, (rot_stb (by omega) h1 fun x y x1 x2 y1 y2 => by obtain rfl : x = a := by omega
                                                               exact hl y y1 y2).widen (Nat.le_refl _) (by omega) h2⟩
  have v : ∀ x, a ≤ x → x < b → (x < i - 1 ∧ rot a (a + 1) i g x = g (x + 1)) ∨ (x = i - 1 ∧ rot a (a + 1) i g x = g a) ∨ (i ≤ x ∧ rot a (a + 1) i g x = g x) := by
    intro x x1 x2
    rcases Nat.lt_trichotomy x (i - 1) with h | h | h
    · exact .inl ⟨h, by rw [rot_lo _ _ _ _ x1 (by omega)]; congr 1; omega⟩
    · exact .inr (.inl ⟨h, by rw [rot_hi _ _ _ _ (by omega) (by omega)]; congr 1; omega⟩)
    · exact .inr (.inr ⟨by omega, rot_out _ _ _ _ (by omega) (by omega) (by omega)⟩)
  intro x y x1 x2 x3
  rcases v x x1 (by omega) with ⟨p, e⟩ | ⟨p, e⟩ | ⟨p, e⟩ <;> rcases v y (by omega) x3 with ⟨q, f⟩ | ⟨q, f⟩ | ⟨q, f⟩ <;> rw [e, f]
  · exact hs _ _ (by omega) (by omega) (by omega)
  · have := hl (x + 1) (by omega) (by omega); omega
  · exact hs _ _ (by omega) (by omega) (by omega)
  · omega
  · omega
  · exact hr _ q x3
  · omega
  · omega
  · exact hs _ _ (by omega) (by omega) (by omega)
/-- One number behind a sorted row goes in behind those that are not behind it. -/
theorem last_law {a m i : Nat} {g : Nat → Int} (h1 : a ≤ i) (h2 : i ≤ m) (hs : Srt key g a m) (hl : ∀ j, a ≤ j → j < i → key (g j) ≤ key (g m)) (hr : ∀ j, i ≤ j → j < m → key (g m) < key (g j)) :
    Srt key (rot i m (m + 1) g) a (m + 1) ∧ Stb key a (m + 1) g (rot i m (m + 1) g) := by
  refine ⟨?_, (rot_stb h2 (by omega) fun x y x1 x2 y1 y2 => by obtain rfl : y = m := by omega
                                                               exact hr x x1 x2).widen h1 (by omega) (Nat.le_refl _)⟩
  have v : ∀ x, a ≤ x → x < m + 1 → (x < i ∧ rot i m (m + 1) g x = g x) ∨ (x = i ∧ rot i m (m + 1) g x = g m) ∨ (i < x ∧ rot i m (m + 1) g x = g (x - 1)) := by
    intro x x1 x2
    rcases Nat.lt_trichotomy x i with h | h | h
    · exact .inl ⟨h, rot_out _ _ _ _ (by omega) (by omega) (by omega)⟩
    · exact .inr (.inl ⟨h, by rw [rot_lo _ _ _ _ (by omega) (by omega)]; congr 1; omega⟩)
    · exact .inr (.inr ⟨by omega, by rw [rot_hi _ _ _ _ (by omega) (by omega)]; congr 1; omega⟩)
  intro x y x1 x2 x3
  rcases v x x1 (by omega) with ⟨p, e⟩ | ⟨p, e⟩ | ⟨p, e⟩ <;> rcases v y (by omega) x3 with ⟨q, f⟩ | ⟨q, f⟩ | ⟨q, f⟩ <;> rw [e, f]
  · exact hs _ _ (by omega) (by omega) (by omega)
  · exact hl _ x1 p
  · exact hs _ _ (by omega) (by omega) (by omega)
  · omega
  · omega
  · have := hr (y - 1) (by omega) (by omega); omega
  · omega
  · omega
  · exact hs _ _ (by omega) (by omega) (by omega)
/-- Two sorted blocks, cut by halves that belong together. -/
theorem cut_law {a m b s e mid : Nat} {g : Nat → Int} (h1 : a ≤ s) (h2 : s ≤ m) (h3 : m ≤ e) (h4 : e ≤ b) (hm : mid + m = s + e) (hA : Srt key g a m) (hB : Srt key g m b)
    (hlo : ∀ i j, a ≤ i → i < s → e ≤ j → j < b → key (g i) ≤ key (g j)) (hhi : ∀ i j, s ≤ i → i < m → m ≤ j → j < e → key (g j) < key (g i)) :
    let h := rot s m e g
    Stb key a b g h ∧ Srt key h a s ∧ Srt key h s mid ∧ Srt key h mid e ∧ Srt key h e b ∧ ∀ i j, a ≤ i → i < mid → mid ≤ j → j < b → key (h i) ≤ key (h j) := by
  intro h
  have vo : ∀ x, ¬(s ≤ x ∧ x < e) → h x = g x := fun x hx => rot_out _ _ _ _ h2 h3 hx
  have vl : ∀ x, s ≤ x → x < mid → h x = g (x + (m - s)) := fun x x1 x2 => rot_lo _ _ _ _ x1 (by omega)
  have vh : ∀ x, mid ≤ x → x < e → h x = g (x - (e - m)) := fun x x1 x2 => rot_hi _ _ _ _ (by omega) x2
  refine ⟨(rot_stb h2 h3 hhi).widen h1 (by omega) h4, ?_, ?_, ?_, ?_, ?_⟩
  · exact (hA.sub (Nat.le_refl _) h2).congr fun i _ _ => vo i (by omega)
  · intro i j x y z
    rw [vl i x (by omega), vl j (by omega) z]
    exact hB _ _ (by omega) (by omega) (by omega)
  · intro i j x y z
    rw [vh i x (by omega), vh j (by omega) z]
    exact hA _ _ (by omega) (by omega) (by omega)
  · exact (hB.sub h3 (Nat.le_refl _)).congr fun i _ _ => vo i (by omega)
  · intro i j i1 i2 j1 j2
    rcases Nat.lt_or_ge i s with p | p
    · rw [vo i (by omega)]
      rcases Nat.lt_or_ge j e with q | q
      · rw [vh j j1 q]
        exact hA _ _ i1 (by omega) (by omega)
      · rw [vo j (by omega)]
        exact hlo _ _ i1 p q j2
    · rw [vl i p i2]
      rcases Nat.lt_or_ge j e with q | q
      · rw [vh j j1 q]
        exact Int.le_of_lt (hhi _ _ (by omega) (by omega) (by omega) (by omega))
      · rw [vo j (by omega)]
        exact hB _ _ (by omega) (by omega) j2
/-- Both halves put in order. -/
theorem join_law {a mid b : Nat} {g h k : Nat → Int} (h1 : a ≤ mid) (h2 : mid ≤ b) (hx : ∀ i j, a ≤ i → i < mid → mid ≤ j → j < b → key (g i) ≤ key (g j))
    (q1 : Stb key a mid g h) (s1 : Srt key h a mid) (q2 : Stb key mid b h k) (s2 : Srt key k mid b) : Srt key k a b ∧ Stb key a b g k := by
  refine ⟨Srt.join (s1.congr fun i i1 i2 => q2.out i (by omega)) s2 ?_, (q1.widen (Nat.le_refl _) h1 h2).trans (q2.widen h1 h2 (Nat.le_refl _))⟩
  intro i j i1 i2 j1 j2
  rw [q2.out i (by omega)]
  obtain ⟨i', x1, x2, x3⟩ := q1.mem i1 i2
  obtain ⟨j', y1, y2, y3⟩ := q2.mem j1 j2
  rw [← x3, ← y3, q1.out j' (by omega)]
  exact hx _ _ x1 x2 y1 y2
/-- Two rows in order, of the same classes, are one. -/
theorem sorted_uniq : ∀ (l m : List Int), l.Pairwise (fun x y => key x ≤ key y) → m.Pairwise (fun x y => key x ≤ key y) → (∀ r, cls key r l = cls key r m) → l = m
  | [], [], _, _, _ => rfl
  | [], y :: m, _, _, h => by
    have := h (key y)
    simp [cls] at this
  | x :: l, [], _, _, h => by
    have := h (key x)
    simp [cls] at this
  | x :: l, y :: m, h1, h2, h => by
    have mx : x ∈ cls key (key x) (y :: m) := by rw [← h]; simp [cls]
    have my : y ∈ cls key (key y) (x :: l) := by rw [h]; simp [cls]
    have kx : key y ≤ key x := by
      rw [cls, List.mem_filter, List.mem_cons] at mx
      rcases mx.1 with rfl | q
      · exact Int.le_refl _
      · exact (List.pairwise_cons.1 h2).1 _ q
    have ky : key x ≤ key y := by
      rw [cls, List.mem_filter, List.mem_cons] at my
      rcases my.1 with rfl | q
      · exact Int.le_refl _
      · exact (List.pairwise_cons.1 h1).1 _ q
    have e : key x = key y := Int.le_antisymm ky kx
    have hx := h (key x)
    simp only [cls, List.filter_cons, e, decide_true, if_true, List.cons.injEq] at hx
    obtain ⟨rfl, _⟩ := hx
    rw [sorted_uniq l m (List.pairwise_cons.1 h1).2 (List.pairwise_cons.1 h2).2 fun r => ?_]
    have := h r
    simp only [cls, List.filter_cons] at this
    by_cases hr : key x = r
    · rw [if_pos (by simpa using hr), if_pos (by simpa using hr)] at this
      simpa [cls] using this
    · rw [if_neg (by simpa using hr), if_neg (by simpa using hr)] at this
      simpa [cls] using this
theorem seg_sorted {g : Nat → Int} {a : Nat} : ∀ {n : Nat}, Srt key g a (a + n) → (seg g a n).Pairwise (fun x y => key x ≤ key y)
  | 0, _ => List.Pairwise.nil
  | n + 1, h => by
    rw [seg, List.pairwise_append]
    refine ⟨seg_sorted (h.sub (Nat.le_refl _) (by omega)), List.pairwise_singleton _ _, fun x hx y hy => ?_⟩
    obtain ⟨i, h1, h2, rfl⟩ := mem_seg.1 hx
    rw [List.mem_singleton.1 hy]
    exact h _ _ h1 (by omega) (by omega)
theorem seg_inj {g h : Nat → Int} {a : Nat} : ∀ {n : Nat}, seg g a n = seg h a n → ∀ i, i < n → g (a + i) = h (a + i)
  | 0, _, i, hi => by omega
  | n + 1, e, i, hi => by
    rw [seg, seg] at e
    have := List.append_inj' e rfl
    rcases Nat.lt_or_ge i n with q | q
    · exact seg_inj this.1 i q
    · obtain rfl : i = n := by omega
      simpa using this.2
/-- The order in its classes is one alone. -/
theorem stb_uniq {a b : Nat} {f g h : Nat → Int} (q1 : Stb key a b f g) (s1 : Srt key g a b) (q2 : Stb key a b f h) (s2 : Srt key h a b) (i : Nat) : g i = h i := by
  by_cases hi : a ≤ i ∧ i < b
  · have e : a + (b - a) = b := by omega
    have := sorted_uniq (key := key) (seg g a (b - a)) (seg h a (b - a)) (seg_sorted (by rw [e]; exact s1)) (seg_sorted (by rw [e]; exact s2)) fun r => by rw [q1.cl, q2.cl]
    have := seg_inj this (i - a) (by omega)
    have e2 : a + (i - a) = i := by omega
    rwa [e2] at this
  · rw [q1.out i hi, q2.out i hi]
end
end Go.Proofs.Ytffahckigenfcaa

/- The contracts of the functions without memory, taken over. -/
namespace Go.Proofs.Ytffahckigenfcaa
open Go Vx
theorem FSpec.ofCalls2 {P : Program} {g : FuncId} {k l : IntKind} {x y : Int} {v : Value} {r : AV} (h : ∀ w, Calls P g #[.int k x, .int l y] w fun e w' => e = .returned v ∧ w' = w) (hv : ∀ ρ μ, RelV ρ μ r v) : FSpec P g [.int k x, .int l y] [] (fun r' H' => r' = r ∧ H' = []) := by
  intro ρ μ w vs h1 h2 h3
  have e : vs = #[.int k x, .int l y] := by
    have hr := h2 0 (by simp)
    have hs := h2 1 (by simp)
    simp at hr hs
    have q := hr.int_inv
    have q' := hs.int_inv
    match vs, h1, q, q' with
    | ⟨[a, b]⟩, _, q, q' => simp at q q'; rw [q, q']
  subst e
  refine (h w).mono ?_
  rintro ex w' ⟨rfl, rfl⟩
  exact ⟨v, r, [], ρ, μ, rfl, ⟨rfl, rfl⟩, hv ρ μ, .start h3⟩
theorem FSpec.ofCalls0 {P : Program} {g : FuncId} {v : Value} {r : AV} (h : ∀ w, Calls P g #[] w fun e w' => e = .returned v ∧ w' = w) (hv : ∀ ρ μ, RelV ρ μ r v) : FSpec P g [] [] (fun r' H' => r' = r ∧ H' = []) := by
  intro ρ μ w vs h1 h2 h3
  have e : vs = #[] := by
    match vs, h1 with
    | ⟨[]⟩, _ => rfl
  subst e
  refine (h w).mono ?_
  rintro ex w' ⟨rfl, rfl⟩
  exact ⟨v, r, [], ρ, μ, rfl, ⟨rfl, rfl⟩, hv ρ μ, .start h3⟩
def inU (x : Int) : Prop := 0 ≤ x ∧ x ≤ 18446744073709551615
theorem f15_ok (x y c : Int) (h0 : inU x) (h1 : inU y) (hc : c = cmpI (rank x) (rank y)) : FSpec Try.prog 15 [.int .u64 x, .int .u64 y] [] (fun r H' => r = .int .i64 c ∧ H' = []) := by
  rw [hc, ← ord_rank x y h0.1 h0.2 h1.1 h1.2]
  exact FSpec.ofCalls2 (fun w => order_any x y h0.1 h0.2 h1.1 h1.2 w) (fun ρ μ => .int _ _ _ _)
theorem f16_ok (x y c : Int) (h0 : inU x) (h1 : inU y) (hc : c = cmpI (rank x) (rank y)) : FSpec Try.prog 16 [.int .u64 x, .int .u64 y] [] (fun r H' => r = .int .i64 c ∧ H' = []) := by
  rw [hc, ← ord_rank x y h0.1 h0.2 h1.1 h1.2]
  exact FSpec.ofCalls2 (fun w => rorder_any x y h0.1 h0.2 h1.1 h1.2 w) (fun ρ μ => .int _ _ _ _)
theorem f8_ok (x c e : Int) (h0 : inU x) (hc : c = cellsI x) (he : e = errI x) : FSpec Try.prog 8 [.int .u64 x] [] (fun r H' => r = .tup [.int .i64 c, .int .i64 e] ∧ H' = []) := by
  subst hc he
  exact FSpec.ofCalls (fun w => cells_any x h0.1 h0.2 w) (fun ρ μ => .pair)
theorem f9_ok (x c e : Int) (h0 : inU x) (hc : c = cellsI x) (he : e = errI x) : FSpec Try.prog 9 [.int .u64 x] [] (fun r H' => r = .tup [.int .i64 c, .int .i64 e] ∧ H' = []) := by
  subst hc he
  exact FSpec.ofCalls (fun w => rcells_any x h0.1 h0.2 w) (fun ρ μ => .pair)
theorem f12_ok : FSpec Try.prog 12 [] [] (fun r H' => r = .bool true ∧ H' = []) := FSpec.ofCalls0 alive_any (fun ρ μ => .bool _ _ _)
end Go.Proofs.Ytffahckigenfcaa
