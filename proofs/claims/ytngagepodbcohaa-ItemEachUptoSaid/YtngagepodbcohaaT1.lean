/- Contracts of functions by an evaluator of the model: its part T1. -/
import Derived.Test.YtngagepodbcohaaProg
import Derived.Test.YtngagepodbcohaaV2
import Derived.KernelRfl
import Derived.Test.YtngagepodbcohaaV3
set_option linter.all false
/- The types of the program, as its table tells them; the kernel holds them against the program. -/
namespace Go.Proofs.Ytngagepodbcohaa
open Go Vx
def tll : TabL := [
  (1, ⟨.func, 1, 8, [.nil .func]⟩),
  (2, ⟨.int .i64, 1, 8, [.int .i64 0]⟩),
  (3, ⟨.int .i64, 1, 8, [.int .i64 0]⟩),
  (4, ⟨.bool, 1, 1, [.bool false]⟩),
  (5, ⟨.int .u8, 1, 1, [.int .u8 0]⟩),
  (9, ⟨.str, 1, 16, [.str ByteArray.empty]⟩),
  (12, ⟨.int .u64, 1, 8, [.int .u64 0]⟩),
  (17, ⟨.ptr, 1, 8, [.nil .ptr]⟩),
  (20, ⟨.iface, 1, 16, [.nil .iface]⟩),
  (21, ⟨.int .i32, 1, 4, [.int .i32 0]⟩),
  (22, ⟨.slice 47, 1, 24, [.nil .slice]⟩),
  (23, ⟨.slice 53, 1, 24, [.nil .slice]⟩),
  (24, ⟨.struct false [(0, 1, .oth), (1, 1, .oth)], 2, 48, [.nil .slice, .nil .slice]⟩),
  (25, ⟨.struct true [(0, 1, .oth), (1, 1, .oth)], 2, 48, [.nil .slice, .nil .slice]⟩),
  (26, ⟨.func, 1, 8, [.nil .func]⟩),
  (27, ⟨.func, 1, 8, [.nil .func]⟩),
  (28, ⟨.slice 34, 1, 24, [.nil .slice]⟩),
  (29, ⟨.int .i64, 1, 8, [.int .i64 0]⟩),
  (31, ⟨.func, 1, 8, [.nil .func]⟩),
  (32, ⟨.int .i64, 1, 8, [.int .i64 0]⟩),
  (33, ⟨.struct false [(0, 1, .int), (1, 1, .int), (2, 1, .int), (3, 1, .int), (4, 1, .int), (5, 1, .int), (6, 1, .bool)], 7, 56, [.int .i64 0, .int .i64 0, .int .i64 0, .int .i64 0, .int .i64 0, .int .i64 0, .bool false]⟩),
  (34, ⟨.struct true [(0, 1, .int), (1, 1, .int), (2, 1, .int), (3, 1, .int), (4, 1, .int), (5, 1, .int), (6, 1, .bool)], 7, 56, [.int .i64 0, .int .i64 0, .int .i64 0, .int .i64 0, .int .i64 0, .int .i64 0, .bool false]⟩),
  (35, ⟨.slice 39, 1, 24, [.nil .slice]⟩),
  (36, ⟨.func, 1, 8, [.nil .func]⟩),
  (37, ⟨.slice 3, 1, 24, [.nil .slice]⟩),
  (38, ⟨.struct false [(0, 1, .int), (1, 1, .int), (2, 1, .int), (3, 1, .bool), (4, 1, .bool)], 5, 32, [.int .i64 0, .int .i64 0, .int .i64 0, .bool false, .bool false]⟩),
  (39, ⟨.struct true [(0, 1, .int), (1, 1, .int), (2, 1, .int), (3, 1, .bool), (4, 1, .bool)], 5, 32, [.int .i64 0, .int .i64 0, .int .i64 0, .bool false, .bool false]⟩),
  (40, ⟨.func, 1, 8, [.nil .func]⟩),
  (41, ⟨.func, 1, 8, [.nil .func]⟩),
  (42, ⟨.int .i64, 1, 8, [.int .i64 0]⟩),
  (43, ⟨.int .i64, 1, 8, [.int .i64 0]⟩),
  (44, ⟨.int .i64, 1, 8, [.int .i64 0]⟩),
  (45, ⟨.int .i64, 1, 8, [.int .i64 0]⟩),
  (46, ⟨.struct false [(0, 1, .int), (1, 1, .int), (2, 1, .int), (3, 1, .int), (4, 1, .bool), (5, 1, .bool), (6, 1, .int), (7, 1, .int), (8, 1, .bool)], 9, 64, [.int .i64 0, .int .i64 0, .int .i64 0, .int .i64 0, .bool false, .bool false, .int .i64 0, .int .i64 0, .bool false]⟩),
  (47, ⟨.struct true [(0, 1, .int), (1, 1, .int), (2, 1, .int), (3, 1, .int), (4, 1, .bool), (5, 1, .bool), (6, 1, .int), (7, 1, .int), (8, 1, .bool)], 9, 64, [.int .i64 0, .int .i64 0, .int .i64 0, .int .i64 0, .bool false, .bool false, .int .i64 0, .int .i64 0, .bool false]⟩),
  (48, ⟨.func, 1, 8, [.nil .func]⟩),
  (49, ⟨.func, 1, 8, [.nil .func]⟩),
  (50, ⟨.int .i64, 1, 8, [.int .i64 0]⟩),
  (51, ⟨.int .u64, 1, 8, [.int .u64 0]⟩),
  (52, ⟨.struct false [(0, 1, .int), (1, 1, .int), (2, 1, .int), (3, 1, .bool), (4, 1, .str), (5, 1, .int)], 6, 56, [.int .i64 0, .int .i64 0, .int .i64 0, .bool false, .str ByteArray.empty, .int .u64 0]⟩),
  (53, ⟨.struct true [(0, 1, .int), (1, 1, .int), (2, 1, .int), (3, 1, .bool), (4, 1, .str), (5, 1, .int)], 6, 56, [.int .i64 0, .int .i64 0, .int .i64 0, .bool false, .str ByteArray.empty, .int .u64 0]⟩),
  (54, ⟨.slice 44, 1, 24, [.nil .slice]⟩),
  (55, ⟨.func, 1, 8, [.nil .func]⟩),
  (56, ⟨.struct false [(0, 1, .oth), (1, 1, .oth), (2, 1, .int), (3, 1, .oth)], 4, 80, [.nil .slice, .nil .slice, .int .i64 0, .nil .slice]⟩),
  (57, ⟨.struct true [(0, 1, .oth), (1, 1, .oth), (2, 1, .int), (3, 1, .oth)], 4, 80, [.nil .slice, .nil .slice, .int .i64 0, .nil .slice]⟩),
  (58, ⟨.slice 45, 1, 24, [.nil .slice]⟩),
  (59, ⟨.func, 1, 8, [.nil .func]⟩),
  (60, ⟨.func, 1, 8, [.nil .func]⟩),
  (61, ⟨.func, 1, 8, [.nil .func]⟩),
  (62, ⟨.func, 1, 8, [.nil .func]⟩),
  (63, ⟨.func, 1, 8, [.nil .func]⟩),
  (64, ⟨.func, 1, 8, [.nil .func]⟩),
  (65, ⟨.func, 1, 8, [.nil .func]⟩),
  (67, ⟨.func, 1, 8, [.nil .func]⟩),
  (68, ⟨.func, 1, 8, [.nil .func]⟩),
  (69, ⟨.func, 1, 8, [.nil .func]⟩),
  (70, ⟨.func, 1, 8, [.nil .func]⟩),
  (71, ⟨.func, 1, 8, [.nil .func]⟩),
  (72, ⟨.func, 1, 8, [.nil .func]⟩),
  (73, ⟨.func, 1, 8, [.nil .func]⟩),
  (74, ⟨.func, 1, 8, [.nil .func]⟩),
  (75, ⟨.func, 1, 8, [.nil .func]⟩),
  (76, ⟨.struct false [(0, 1, .int), (1, 1, .int), (2, 1, .bool), (3, 1, .int)], 4, 32, [.int .i64 0, .int .i64 0, .bool false, .int .i64 0]⟩),
  (77, ⟨.struct true [(0, 1, .int), (1, 1, .int), (2, 1, .bool), (3, 1, .int)], 4, 32, [.int .i64 0, .int .i64 0, .bool false, .int .i64 0]⟩),
  (78, ⟨.slice 80, 1, 24, [.nil .slice]⟩),
  (79, ⟨.func, 1, 8, [.nil .func]⟩),
  (80, ⟨.func, 1, 8, [.nil .func]⟩),
  (81, ⟨.func, 1, 8, [.nil .func]⟩),
  (82, ⟨.func, 1, 8, [.nil .func]⟩),
  (83, ⟨.func, 1, 8, [.nil .func]⟩),
  (84, ⟨.func, 1, 8, [.nil .func]⟩),
  (85, ⟨.func, 1, 8, [.nil .func]⟩),
  (87, ⟨.func, 1, 8, [.nil .func]⟩),
  (88, ⟨.struct false [(0, 1, .int), (1, 1, .bool), (2, 1, .bool), (3, 1, .int)], 4, 24, [.int .i64 0, .bool false, .bool false, .int .i64 0]⟩),
  (89, ⟨.struct true [(0, 1, .int), (1, 1, .bool), (2, 1, .bool), (3, 1, .int)], 4, 24, [.int .i64 0, .bool false, .bool false, .int .i64 0]⟩),
  (90, ⟨.func, 1, 8, [.nil .func]⟩),
  (91, ⟨.func, 1, 8, [.nil .func]⟩),
  (92, ⟨.func, 1, 8, [.nil .func]⟩),
  (93, ⟨.int .u64, 1, 8, [.int .u64 0]⟩),
  (94, ⟨.func, 1, 8, [.nil .func]⟩),
  (95, ⟨.func, 1, 8, [.nil .func]⟩),
  (96, ⟨.struct false [(0, 1, .int), (1, 1, .bool), (2, 1, .bool)], 3, 16, [.int .i64 0, .bool false, .bool false]⟩),
  (97, ⟨.struct true [(0, 1, .int), (1, 1, .bool), (2, 1, .bool)], 3, 16, [.int .i64 0, .bool false, .bool false]⟩),
  (98, ⟨.func, 1, 8, [.nil .func]⟩),
  (99, ⟨.func, 1, 8, [.nil .func]⟩),
  (100, ⟨.func, 1, 8, [.nil .func]⟩),
  (101, ⟨.func, 1, 8, [.nil .func]⟩),
  (102, ⟨.func, 1, 8, [.nil .func]⟩),
  (103, ⟨.func, 1, 8, [.nil .func]⟩),
  (104, ⟨.func, 1, 8, [.nil .func]⟩),
  (105, ⟨.func, 1, 8, [.nil .func]⟩),
  (106, ⟨.func, 1, 8, [.nil .func]⟩),
  (107, ⟨.flt .f64, 1, 8, [.flt .f64 0]⟩),
  (108, ⟨.func, 1, 8, [.nil .func]⟩),
  (109, ⟨.func, 1, 8, [.nil .func]⟩),
  (110, ⟨.func, 1, 8, [.nil .func]⟩),
  (111, ⟨.func, 1, 8, [.nil .func]⟩),
  (113, ⟨.func, 1, 8, [.nil .func]⟩),
  (114, ⟨.slice 5, 1, 24, [.nil .slice]⟩),
  (115, ⟨.func, 1, 8, [.nil .func]⟩),
  (116, ⟨.func, 1, 8, [.nil .func]⟩),
  (118, ⟨.func, 1, 8, [.nil .func]⟩),
  (120, ⟨.func, 1, 8, [.nil .func]⟩),
  (122, ⟨.func, 1, 8, [.nil .func]⟩),
  (123, ⟨.func, 1, 8, [.nil .func]⟩),
  (125, ⟨.func, 1, 8, [.nil .func]⟩),
  (126, ⟨.func, 1, 8, [.nil .func]⟩),
  (127, ⟨.func, 1, 8, [.nil .func]⟩),
  (129, ⟨.func, 1, 8, [.nil .func]⟩),
  (130, ⟨.func, 1, 8, [.nil .func]⟩),
  (131, ⟨.struct false [(0, 1, .int), (1, 1, .int)], 2, 16, [.int .i64 0, .int .i64 0]⟩),
  (132, ⟨.struct true [(0, 1, .int), (1, 1, .int)], 2, 16, [.int .i64 0, .int .i64 0]⟩),
  (133, ⟨.array 4 132, 8, 64, [.int .i64 0, .int .i64 0, .int .i64 0, .int .i64 0, .int .i64 0, .int .i64 0, .int .i64 0, .int .i64 0]⟩),
  (134, ⟨.func, 1, 8, [.nil .func]⟩),
  (135, ⟨.func, 1, 8, [.nil .func]⟩),
  (136, ⟨.func, 1, 8, [.nil .func]⟩),
  (137, ⟨.func, 1, 8, [.nil .func]⟩),
  (143, ⟨.func, 1, 8, [.nil .func]⟩),
  (144, ⟨.int .u32, 1, 4, [.int .u32 0]⟩),
  (148, ⟨.ptr, 1, 8, [.nil .ptr]⟩)]
def tl : Tab := fun t => tabL tll t
theorem tl_ok : TabOk Go.Proofs.Try.prog tl := tabOk_of (by kernel_rfl)
end Go.Proofs.Ytngagepodbcohaa

/- Plain words on lists of numbers. -/
namespace Go.Proofs.Ytngagepodbcohaa
open Go Vx
theorem mixed : Try.prog.follows .mixedOrders = true := by kernel_rfl
def tab {α : Type} (n : Nat) (f : Nat → α) : List α := (List.range n).map f
theorem tab_len {α : Type} (n : Nat) (f : Nat → α) : (tab n f).length = n := by simp [tab]
theorem tab_snoc {α : Type} {n n' : Nat} {f g : Nat → α} {a : α} (hn : n' = n + 1) (h : ∀ j, j < n → g j = f j) (ha : g n = a) : tab n' g = tab n f ++ [a] := by
  subst hn ha
  simp only [tab, List.range_succ, List.map_append, List.map_cons, List.map_nil]
  congr 1
  exact List.map_congr_left fun j hj => h j (by simpa using hj)
theorem tab_last {α : Type} {n : Nat} (f : Nat → α) (d : α) (h : 0 < n) : (tab n f).getLastD d = f (n - 1) := by
  obtain ⟨m, rfl⟩ : ∃ m, n = m + 1 := ⟨n - 1, by omega⟩
  rw [tab_snoc (f := f) rfl (fun _ _ => rfl) rfl]
  simp
theorem tab_pop {α : Type} (n : Nat) (f : Nat → α) : (tab n f).dropLast = tab (n - 1) f := by
  cases n with
  | zero => rfl
  | succ n => rw [tab_snoc (f := f) rfl (fun _ _ => rfl) rfl]; simp
theorem tab_one {α : Type} (f : Nat → α) : tab 1 f = [f 0] := rfl
theorem tab_get {α : Type} (n : Nat) (f : Nat → α) (j : Nat) (h : j < n) : (tab n f)[j]? = some (f j) := by simp [tab, h]
theorem tab_inj {α : Type} {n : Nat} {f g : Nat → α} (h : tab n f = tab n g) : ∀ j, j < n → f j = g j := by
  intro j hj
  have := congrArg (fun l : List α => l[j]?) h
  simpa [tab, hj] using this
theorem tab_take {α : Type} {n m : Nat} (f : Nat → α) (h : m ≤ n) : (tab n f).take m = tab m f := by
  apply List.ext_getElem?
  intro j
  rw [List.getElem?_take]
  by_cases hj : j < m
  · rw [if_pos hj, tab_get _ _ _ (by omega), tab_get _ _ _ hj]
  · rw [if_neg hj, List.getElem?_eq_none (by rw [tab_len]; omega)]
theorem tab_congr {α : Type} {n : Nat} {f g : Nat → α} (h : ∀ j, j < n → f j = g j) : tab n f = tab n g := List.map_congr_left fun j hj => h j (by simpa using hj)
theorem tab_of {α : Type} (l : List α) (d : α) : tab l.length (fun j => l.getD j d) = l := by
  apply List.ext_getElem?
  intro j
  by_cases hj : j < l.length
  · rw [tab_get _ _ _ hj, List.getD_eq_getElem?_getD, List.getElem?_eq_getElem hj]; rfl
  · rw [List.getElem?_eq_none (by rw [tab_len]; omega), List.getElem?_eq_none (by omega)]
theorem snoc_of {α : Type} {l : List α} (h : l ≠ []) : ∃ s x, l = s ++ [x] := ⟨l.dropLast, l.getLast h, (List.dropLast_concat_getLast h).symm⟩
theorem snocF {α : Type} (f : Nat → α) (q : Nat) (a : α) : ∃ g : Nat → α, (∀ j, j < q → g j = f j) ∧ g q = a := ⟨fun j => if j = q then a else f j, fun j hj => by simp; omega, by simp⟩
/-- What an append of one number leaves. -/
theorem leaf {subN : Nat → Nat → Nat} {ltB : Nat → Nat → Bool} (hl : ltB = Vx.ltB) (hs : subN = Vx.subN) (a : Int) (f g : Nat → Int) (q : Nat) (h : ∀ j, j < q → g j = f j) (hq : g q = a) : ∀ i, i < q + 1 → icol .i64 g i = (match ltB i q with | true => icol .i64 f i | false => [[.int .i64 a]].getD (subN i q) []) := by
  intro i hi
  subst hl hs
  simp only [icol]
  cases hr : Vx.ltB i q
  · simp only [plain] at hr
    obtain rfl : i = q := by omega
    simp [Vx.subN, hq]
  · simp only [plain] at hr
    rw [h i hr]
/-- The same for rows. -/
theorem leafR {subN : Nat → Nat → Nat} {ltB : Nat → Nat → Bool} (hl : ltB = Vx.ltB) (hs : subN = Vx.subN) (a : List AV) (f g : Nat → List AV) (q : Nat) (h : ∀ j, j < q → g j = f j) (hq : g q = a) : ∀ i, i < q + 1 → g i = (match ltB i q with | true => f i | false => [a].getD (subN i q) []) := by
  intro i hi
  subst hl hs
  cases hr : Vx.ltB i q
  · simp only [plain] at hr
    obtain rfl : i = q := by omega
    simp [Vx.subN, hq]
  · simp only [plain] at hr
    exact h i hr
theorem band_le (a : Int) (m : Nat) (hm : m < 1000) : ∃ r : Nat, Vx.iband .i64 a m = r ∧ r ≤ m := by
  have e2 : (BitVec.ofInt 64 (m : Int)).toNat = m := by rw [BitVec.toNat_ofInt]; omega
  have h : ((BitVec.ofInt 64 a &&& BitVec.ofInt 64 (m : Int)).toNat) ≤ m := by
    rw [BitVec.toNat_and, e2]; exact Nat.and_le_right
  refine ⟨_, ?_, h⟩
  show IntKind.i64.wrap _ = _
  rw [IntWalk.i64_in]
  · rfl
  · constructor
    · show -9223372036854775808 ≤ (((BitVec.ofInt 64 a &&& BitVec.ofInt 64 (m : Int)).toNat : Nat) : Int); omega
    · show (((BitVec.ofInt 64 a &&& BitVec.ofInt 64 (m : Int)).toNat : Nat) : Int) ≤ 9223372036854775807; omega
end Go.Proofs.Ytngagepodbcohaa

/- Spans, and when they are alike. -/
namespace Go.Proofs.Ytngagepodbcohaa
open Go Vx
set_option maxRecDepth 100000

structure Sp where
  fr : Int
  to : Int
  po : Int
  co : Bool
  ru : ByteArray
  sc : Int
def spc (g : Nat → Sp) : Nat → List AV := fun i => [.int .i64 (g i).fr, .int .i64 (g i).to, .int .i64 (g i).po, .bool (g i).co, .str (g i).ru, .int .u64 (g i).sc]
theorem sp_eq (a b : Sp) : a = b ↔ a.fr = b.fr ∧ a.to = b.to ∧ a.po = b.po ∧ a.co = b.co ∧ a.ru = b.ru ∧ a.sc = b.sc := by
  cases a; cases b; simp
theorem sp_all (a b : Sp) : Vx.bband (Vx.ieq a.fr b.fr) (Vx.bband (Vx.ieq a.to b.to) (Vx.bband (Vx.ieq a.po b.po) (Vx.bband (Vx.bbeq a.co b.co) (Vx.bband (Vx.sseq a.ru b.ru) (Vx.bband (Vx.ieq a.sc b.sc) true))))) = true ↔ a = b := by
  rw [sp_eq]
  simp only [Vx.bband, Vx.ieq, Vx.bbeq, Vx.sseq, Bool.and_eq_true, decide_eq_true_eq, beq_iff_eq, and_true, ByteArray.toList_eq]
  constructor
  · rintro ⟨h1, h2, h3, h4, h5, h6⟩
    refine ⟨h1, h2, h3, h4, ?_, h6⟩
    have e : a.ru.data = b.ru.data := Array.toList_inj.1 h5
    calc a.ru = ⟨a.ru.data⟩ := rfl
      _ = ⟨b.ru.data⟩ := by rw [e]
      _ = b.ru := rfl
  · rintro ⟨h1, h2, h3, h4, h5, h6⟩
    exact ⟨h1, h2, h3, h4, by rw [h5], h6⟩
end Go.Proofs.Ytngagepodbcohaa

/- A span's style; where a span is. -/
namespace Go.Proofs.Ytngagepodbcohaa
open Go Vx
set_option maxRecDepth 100000

theorem f63_ok (a b c : Int) (d : Bool) (e : ByteArray) (f : Int) : FSpec Try.prog 63 [.agg [.int .i64 a, .int .i64 b, .int .i64 c, .bool d, .str e, .int .u64 f]] [] (fun r H' => r = .agg [.int .i64 0, .int .i64 0, .int .i64 c, .bool d, .str e, .int .u64 f] ∧ H' = []) := by
  refine (show FSpec Try.prog 63 [.agg [.int .i64 a, .int .i64 b, .int .i64 c, .bool d, .str e, .int .u64 f]] [] (fun r H' => r = .agg [.int .i64 0, .int .i64 0, .int .i64 c, .bool d, .str e, .int .u64 f]) from ?_).weaken ?_
  · refine FSpec.of (fn := Try.f63) Try.func63 rfl rfl (by simp) fun C hC => ?_
    obtain ⟨iadd, isub, imul, iquo, irem, iband, ibor, ibxor, ibandn, ishl, ishr, iconv, ieq, ine, ilt, ile, igt, ige, bbeq, bbne, bnot, bband, sseq, ssne, sscat, sssub, sslen, sssz, ssbyte, toN, ofN, addN, subN, eqN, ltB, leN, imx, imn, inb, leb, sslt, ltN, fit, ne0, ge0, ssfit, minN, inR, bcol, bstr, isBy, hS⟩ := names
    refine V.goF (by first | exact trivial | assumption) Try.func63 tl_ok mixed hS.ops [] 400 ?_
    intro VV VA W hVV hVA hW
    conv => cbv
    trivial
  · rintro r H' rfl
    exact ⟨[], by cases H' <;> simp [heapCov], rfl, Nat.le_refl _, rfl, rfl⟩
def inSp (s : Sp) (i : Int) : Prop := s.fr ≤ i ∧ i < s.to
/-- The first span that has a place, from a number on. -/
noncomputable def atF (g : Nat → Sp) (i : Int) : Nat → Nat → Option Nat
  | _, 0 => none
  | k, n + 1 => open Classical in if inSp (g k) i then some k else atF g i (k + 1) n
theorem f20_ok (n : Nat) (hn : n ≤ 2000000) (g : Nat → Sp) (i : Int) (A : Option Nat) (hA : A = atF g i 0 n) : FSpec Try.prog 20 [.rows 6 n (spc g), .int .i64 i] [] (fun r H' => H' = [] ∧ ((A = none ∧ r = .tup [.int .i64 0, .bool false]) ∨ ∃ k : Nat, A = some k ∧ ∃ z : Int, z = k ∧ r = .tup [.int .i64 z, .bool true])) := by
  obtain ⟨Q, hQ⟩ : ∃ Q : AV → Hp → Prop, Q = (fun r H' => H' = [] ∧ ((A = none ∧ r = .tup [.int .i64 0, .bool false]) ∨ ∃ k : Nat, A = some k ∧ ∃ z : Int, z = k ∧ r = .tup [.int .i64 z, .bool true])) := ⟨_, rfl⟩
  rw [← hQ]
  refine FSpec.of (fn := Try.f20) Try.func20 rfl rfl (by simp) fun C hC => ?_
  obtain ⟨iadd, isub, imul, iquo, irem, iband, ibor, ibxor, ibandn, ishl, ishr, iconv, ieq, ine, ilt, ile, igt, ige, bbeq, bbne, bnot, bband, sseq, ssne, sscat, sssub, sslen, sssz, ssbyte, toN, ofN, addN, subN, eqN, ltB, leN, imx, imn, inb, leb, sslt, ltN, fit, ne0, ge0, ssfit, minN, inR, bcol, bstr, isBy, hS⟩ := names
  refine V.goF (by first | exact trivial | assumption) Try.func20 tl_ok mixed hS.ops [] 400 ?_
  intro VV VA W hVV hVA hW
  conv => cbv
  rw [hVV]
  clear hVV hVA VV VA hW W
  refine V.to (s' := [(6, .int .i64 (ofN 0)), (0, .rows 6 n (spc g)), (1, .int .i64 i)]) (H' := []) ?_ (by (repeat' first | exact trivial | rfl | (refine And.intro ?_ ?_) | (refine sti ?_; (first | rfl | omega | (simp (disch := omega) only [hS.glob, wraps, plain, Int.ofNat_eq_natCast]; first | done | rfl | omega | (simp; done) | (simp; omega)) | (simp (disch := omega) only [hS.glob, wraps, plain, Int.ofNat_eq_natCast, Vx.toN]; omega))) | (refine slq ?_ ?_ ?_ <;> (first | rfl | omega | (simp (disch := omega) only [hS.glob, wraps, plain, Int.ofNat_eq_natCast]; first | done | rfl | omega | (simp; done) | (simp; omega)) | (simp (disch := omega) only [hS.glob, wraps, plain, Int.ofNat_eq_natCast, Vx.toN]; omega))) | (refine ptq ?_ ?_ ?_ <;> (first | rfl | omega | (simp (disch := omega) only [hS.glob, wraps, plain, Int.ofNat_eq_natCast]; first | done | rfl | omega | (simp; done) | (simp; omega)) | (simp (disch := omega) only [hS.glob, wraps, plain, Int.ofNat_eq_natCast, Vx.toN]; omega))) | (refine blq ?_; (first | rfl | omega | (simp (disch := omega) only [hS.glob, wraps, plain, Int.ofNat_eq_natCast]; first | done | rfl | omega | (simp; done) | (simp; omega)) | (simp (disch := omega) only [hS.glob, wraps, plain, Int.ofNat_eq_natCast, Vx.toN]; omega))))) rfl trivial (by rw [hC]; simp)
  refine V.loop (γ := Nat) (fun k => k ≤ n ∧ A = atF g i k (n - k)) (fun k => [(6, .int .i64 (ofN k)), (0, .rows 6 n (spc g)), (1, .int .i64 i)]) (fun _ => []) (fun k => n - k) ?_ 0 ⟨Nat.zero_le _, hA⟩
  clear hA
  rintro k ⟨hk, hA⟩ hback
  refine V.goF (by first | exact trivial | assumption) Try.func20 tl_ok mixed hS.ops [] 400 ?_
  intro VV VA W hVV hVA hW
  conv => cbv
  cases h1 : ilt (ofN k) (ofN n)
  · conv => cbv
    simp (disch := first | omega | (simp only [hS.glob, wraps, plain, Int.ofNat_eq_natCast]; omega)) only [hS.glob, wraps, plain, Int.ofNat_eq_natCast] at h1
    rw [hQ]
    refine ⟨rfl, .inl ⟨?_, rfl⟩⟩
    rw [hA, show n - k = 0 by omega]
    rfl
  · conv => cbv
    simp (disch := first | omega | (simp only [hS.glob, wraps, plain, Int.ofNat_eq_natCast]; omega)) only [hS.glob, wraps, plain, Int.ofNat_eq_natCast] at h1
    obtain ⟨d, hd⟩ : ∃ d, n - k = d + 1 := ⟨n - k - 1, by omega⟩
    rw [hd, atF] at hA
    repeat (refine ⟨by first | (rw [hW]; show ordOk _ _ _ = true; kernel_rfl) | (first | trivial | omega | (simp (disch := omega) only [hS.glob, wraps, plain, Int.ofNat_eq_natCast]; first | done | omega | trivial | (simp; done) | (simp; omega) | (constructor <;> omega)) | (simp (disch := omega) only [hS.glob, wraps, plain, Int.ofNat_eq_natCast, Vx.toN]; omega)), ?_⟩)
    simp only [hS.tidy]
    have next : ¬ inSp (g k) i → A = atF g i (k + 1) (n - (k + 1)) := fun hno => by rw [hA, if_neg hno, show n - (k + 1) = d by omega]
    cases h2 : ige i (g k).fr
    · conv => cbv
      simp (disch := first | omega | (simp only [hS.glob, wraps, plain, Int.ofNat_eq_natCast]; omega)) only [hS.glob, wraps, plain, Int.ofNat_eq_natCast] at h2
      rw [hVV]
      clear hVV hVA VV VA hW W
      exact V.to (hback (k + 1) ⟨by omega, next (fun h => by have := h.1; omega)⟩ (by omega)) (by (repeat' first | exact trivial | rfl | (refine And.intro ?_ ?_) | (refine sti ?_; (first | rfl | omega | (simp (disch := omega) only [hS.glob, wraps, plain, Int.ofNat_eq_natCast]; first | done | rfl | omega | (simp; done) | (simp; omega)) | (simp (disch := omega) only [hS.glob, wraps, plain, Int.ofNat_eq_natCast, Vx.toN]; omega))) | (refine slq ?_ ?_ ?_ <;> (first | rfl | omega | (simp (disch := omega) only [hS.glob, wraps, plain, Int.ofNat_eq_natCast]; first | done | rfl | omega | (simp; done) | (simp; omega)) | (simp (disch := omega) only [hS.glob, wraps, plain, Int.ofNat_eq_natCast, Vx.toN]; omega))) | (refine ptq ?_ ?_ ?_ <;> (first | rfl | omega | (simp (disch := omega) only [hS.glob, wraps, plain, Int.ofNat_eq_natCast]; first | done | rfl | omega | (simp; done) | (simp; omega)) | (simp (disch := omega) only [hS.glob, wraps, plain, Int.ofNat_eq_natCast, Vx.toN]; omega))) | (refine blq ?_; (first | rfl | omega | (simp (disch := omega) only [hS.glob, wraps, plain, Int.ofNat_eq_natCast]; first | done | rfl | omega | (simp; done) | (simp; omega)) | (simp (disch := omega) only [hS.glob, wraps, plain, Int.ofNat_eq_natCast, Vx.toN]; omega))))) rfl trivial (by rw [hC]; simp)
    · conv => cbv
      repeat (refine ⟨by first | (rw [hW]; show ordOk _ _ _ = true; kernel_rfl) | (first | trivial | omega | (simp (disch := omega) only [hS.glob, wraps, plain, Int.ofNat_eq_natCast]; first | done | omega | trivial | (simp; done) | (simp; omega) | (constructor <;> omega)) | (simp (disch := omega) only [hS.glob, wraps, plain, Int.ofNat_eq_natCast, Vx.toN]; omega)), ?_⟩)
      simp only [hS.tidy]
      cases h3 : ilt i (g k).to
      · conv => cbv
        simp (disch := first | omega | (simp only [hS.glob, wraps, plain, Int.ofNat_eq_natCast]; omega)) only [hS.glob, wraps, plain, Int.ofNat_eq_natCast] at h3
        rw [hVV]
        clear hVV hVA VV VA hW W
        exact V.to (hback (k + 1) ⟨by omega, next (fun h => by have := h.2; omega)⟩ (by omega)) (by (repeat' first | exact trivial | rfl | (refine And.intro ?_ ?_) | (refine sti ?_; (first | rfl | omega | (simp (disch := omega) only [hS.glob, wraps, plain, Int.ofNat_eq_natCast]; first | done | rfl | omega | (simp; done) | (simp; omega)) | (simp (disch := omega) only [hS.glob, wraps, plain, Int.ofNat_eq_natCast, Vx.toN]; omega))) | (refine slq ?_ ?_ ?_ <;> (first | rfl | omega | (simp (disch := omega) only [hS.glob, wraps, plain, Int.ofNat_eq_natCast]; first | done | rfl | omega | (simp; done) | (simp; omega)) | (simp (disch := omega) only [hS.glob, wraps, plain, Int.ofNat_eq_natCast, Vx.toN]; omega))) | (refine ptq ?_ ?_ ?_ <;> (first | rfl | omega | (simp (disch := omega) only [hS.glob, wraps, plain, Int.ofNat_eq_natCast]; first | done | rfl | omega | (simp; done) | (simp; omega)) | (simp (disch := omega) only [hS.glob, wraps, plain, Int.ofNat_eq_natCast, Vx.toN]; omega))) | (refine blq ?_; (first | rfl | omega | (simp (disch := omega) only [hS.glob, wraps, plain, Int.ofNat_eq_natCast]; first | done | rfl | omega | (simp; done) | (simp; omega)) | (simp (disch := omega) only [hS.glob, wraps, plain, Int.ofNat_eq_natCast, Vx.toN]; omega))))) rfl trivial (by rw [hC]; simp)
      · conv => cbv
        simp (disch := first | omega | (simp only [hS.glob, wraps, plain, Int.ofNat_eq_natCast]; omega)) only [hS.glob, wraps, plain, Int.ofNat_eq_natCast] at h2 h3
        rw [hQ]
        exact ⟨rfl, .inr ⟨k, by rw [hA, if_pos ⟨h2, h3⟩], ofN k, by simp (disch := first | omega | (simp only [hS.glob, wraps, plain, Int.ofNat_eq_natCast]; omega)) only [hS.glob, wraps, plain, Int.ofNat_eq_natCast], rfl⟩⟩
end Go.Proofs.Ytngagepodbcohaa

/- The search. -/
namespace Go.Proofs.Ytngagepodbcohaa
open Go Vx
set_option maxRecDepth 100000

def cmpC (x y : Int) : Int := if x < y then -1 else if y < x then 1 else 0
theorem f41_ok (x : Int) : FSpec Try.prog 41 [.int .i64 x] [] (fun r H' => r = .bool false ∧ H' = []) := by
  refine FSpec.of (fn := Try.f41) Try.func41 rfl rfl (by simp) fun C hC => ?_
  obtain ⟨iadd, isub, imul, iquo, irem, iband, ibor, ibxor, ibandn, ishl, ishr, iconv, ieq, ine, ilt, ile, igt, ige, bbeq, bbne, bnot, bband, sseq, ssne, sscat, sssub, sslen, sssz, ssbyte, toN, ofN, addN, subN, eqN, ltB, leN, imx, imn, inb, leb, sslt, ltN, fit, ne0, ge0, ssfit, minN, inR, bcol, bstr, isBy, hS⟩ := names
  refine V.goF (by first | exact trivial | assumption) Try.func41 tl_ok mixed hS.ops [] 400 ?_
  intro VV VA W hVV hVA hW
  conv => cbv
  have e : ine x x = false := by simp (disch := first | omega | (simp only [hS.glob, wraps, plain, Int.ofNat_eq_natCast]; omega)) only [hS.glob, wraps, plain, Int.ofNat_eq_natCast]
  rw [e]
  exact ⟨rfl, trivial⟩
theorem f23_ok (x y : Int) : FSpec Try.prog 23 [.int .i64 x, .int .i64 y] [] (fun r H' => r = .int .i64 (cmpC x y) ∧ H' = []) := by
  obtain ⟨R, hR⟩ : ∃ R, R = cmpC x y := ⟨_, rfl⟩
  rw [← hR]
  refine FSpec.of (fn := Try.f23) Try.func23 rfl rfl (by simp) fun C hC => ?_
  obtain ⟨iadd, isub, imul, iquo, irem, iband, ibor, ibxor, ibandn, ishl, ishr, iconv, ieq, ine, ilt, ile, igt, ige, bbeq, bbne, bnot, bband, sseq, ssne, sscat, sssub, sslen, sssz, ssbyte, toN, ofN, addN, subN, eqN, ltB, leN, imx, imn, inb, leb, sslt, ltN, fit, ne0, ge0, ssfit, minN, inR, bcol, bstr, isBy, hS⟩ := names
  refine V.goF (by first | exact trivial | assumption) Try.func23 tl_ok mixed hS.ops [] 400 ?_
  intro VV VA W hVV hVA hW
  conv => cbv
  rw [hVV]
  clear hVV hVA VV VA hW W
  refine V.call rfl rfl rfl rfl rfl Try.func41 rfl (by decide) [] (by simp) (by simp) (by (first | rfl | ((conv => cbv); (repeat' apply And.intro) <;> first | rfl | trivial | (first | rfl | omega | (simp (disch := omega) only [hS.glob, wraps, plain, Int.ofNat_eq_natCast]; first | done | rfl | omega | (simp; done) | (simp; omega)) | (simp (disch := omega) only [hS.glob, wraps, plain, Int.ofNat_eq_natCast, Vx.toN]; omega))))) rfl (f41_ok x) ?_
  rintro r Hc ⟨rfl, rfl⟩
  refine V.goF (by first | exact trivial | assumption) Try.func23 tl_ok mixed hS.ops [] 400 ?_
  intro VV VA W hVV hVA hW
  conv => cbv
  rw [hVV]
  clear hVV hVA VV VA hW W
  refine V.call rfl rfl rfl rfl rfl Try.func41 rfl (by decide) [] (by simp) (by simp) (by (first | rfl | ((conv => cbv); (repeat' apply And.intro) <;> first | rfl | trivial | (first | rfl | omega | (simp (disch := omega) only [hS.glob, wraps, plain, Int.ofNat_eq_natCast]; first | done | rfl | omega | (simp; done) | (simp; omega)) | (simp (disch := omega) only [hS.glob, wraps, plain, Int.ofNat_eq_natCast, Vx.toN]; omega))))) rfl (f41_ok y) ?_
  rintro r Hc ⟨rfl, rfl⟩
  refine V.goF (by first | exact trivial | assumption) Try.func23 tl_ok mixed hS.ops [] 400 ?_
  intro VV VA W hVV hVA hW
  conv => cbv
  unfold cmpC at hR
  cases h1 : ilt x y
  · conv => cbv
    simp (disch := first | omega | (simp only [hS.glob, wraps, plain, Int.ofNat_eq_natCast]; omega)) only [hS.glob, wraps, plain, Int.ofNat_eq_natCast] at h1
    rw [if_neg (by omega)] at hR
    cases h2 : igt x y
    · conv => cbv
      simp (disch := first | omega | (simp only [hS.glob, wraps, plain, Int.ofNat_eq_natCast]; omega)) only [hS.glob, wraps, plain, Int.ofNat_eq_natCast] at h2
      rw [if_neg (by omega)] at hR
      rw [hR]
      exact ⟨rfl, trivial⟩
    · conv => cbv
      simp (disch := first | omega | (simp only [hS.glob, wraps, plain, Int.ofNat_eq_natCast]; omega)) only [hS.glob, wraps, plain, Int.ofNat_eq_natCast] at h2
      rw [if_pos (by omega)] at hR
      rw [hR]
      exact ⟨rfl, trivial⟩
  · conv => cbv
    simp (disch := first | omega | (simp only [hS.glob, wraps, plain, Int.ofNat_eq_natCast]; omega)) only [hS.glob, wraps, plain, Int.ofNat_eq_natCast] at h1
    rw [if_pos h1] at hR
    rw [hR]
    exact ⟨rfl, trivial⟩
theorem f62_ok (a b c : Int) (d : Bool) (e : ByteArray) (f i R : Int) (hb : 0 ≤ b ∧ b ≤ 9223372036854775807) (hR : R = cmpC (b - 1) i) : FSpec Try.prog 62 [.agg [.int .i64 a, .int .i64 b, .int .i64 c, .bool d, .str e, .int .u64 f], .int .i64 i] [] (fun r H' => r = .int .i64 R ∧ H' = []) := by
  refine (show FSpec Try.prog 62 [.agg [.int .i64 a, .int .i64 b, .int .i64 c, .bool d, .str e, .int .u64 f], .int .i64 i] [] (fun r H' => r = .int .i64 R) from ?_).weaken ?_
  · refine FSpec.of (fn := Try.f62) Try.func62 rfl rfl (by simp) fun C hC => ?_
    obtain ⟨iadd, isub, imul, iquo, irem, iband, ibor, ibxor, ibandn, ishl, ishr, iconv, ieq, ine, ilt, ile, igt, ige, bbeq, bbne, bnot, bband, sseq, ssne, sscat, sssub, sslen, sssz, ssbyte, toN, ofN, addN, subN, eqN, ltB, leN, imx, imn, inb, leb, sslt, ltN, fit, ne0, ge0, ssfit, minN, inR, bcol, bstr, isBy, hS⟩ := names
    refine V.goF (by first | exact trivial | assumption) Try.func62 tl_ok mixed hS.ops [] 400 ?_
    intro VV VA W hVV hVA hW
    conv => cbv
    have e1 : isub .i64 b 1 = b - 1 := by simp (disch := first | omega | (simp only [hS.glob, wraps, plain, Int.ofNat_eq_natCast]; omega)) only [hS.glob, wraps, plain, Int.ofNat_eq_natCast]
    simp only [e1]
    obtain ⟨y, hy⟩ : ∃ y, y = b - 1 := ⟨_, rfl⟩
    rw [← hy] at hR ⊢
    have h27 := f23_ok y i
    rw [← hR] at h27
    rw [hVV]
    clear hVV hVA VV VA hW W
    refine V.call rfl rfl rfl rfl rfl Try.func23 rfl (by decide) [] (by simp) (by simp) (by (first | rfl | ((conv => cbv); (repeat' apply And.intro) <;> first | rfl | trivial | (first | rfl | omega | (simp (disch := omega) only [hS.glob, wraps, plain, Int.ofNat_eq_natCast]; first | done | rfl | omega | (simp; done) | (simp; omega)) | (simp (disch := omega) only [hS.glob, wraps, plain, Int.ofNat_eq_natCast, Vx.toN]; omega))))) rfl h27 ?_
    rintro r Hc ⟨rfl, rfl⟩
    refine V.goF (by first | exact trivial | assumption) Try.func62 tl_ok mixed hS.ops [] 400 ?_
    intro VV VA W hVV hVA hW
    conv => cbv
    trivial
  · rintro r H' rfl
    exact ⟨[], by cases H' <;> simp [heapCov], rfl, Nat.le_refl _, rfl, rfl⟩
end Go.Proofs.Ytngagepodbcohaa

/- The search: the walk. -/
namespace Go.Proofs.Ytngagepodbcohaa
open Go Vx
set_option maxRecDepth 100000

theorem cmpC_neg (x y : Int) : cmpC x y < 0 ↔ x < y := by
  unfold cmpC
  split
  · simp; assumption
  · split <;> simp <;> omega
theorem mid (a b : Nat) (h : a + b ≤ 4000000) : Vx.iconv .i64 (Vx.ishr .u64 (Vx.iconv .u64 (Vx.iadd .i64 (a : Int) (b : Int))) 1) = (((a + b) / 2 : Nat) : Int) := by
  rw [wraps.1 a b (by omega)]
  have e1 : Vx.iconv .u64 ((a : Int) + b) = a + b := by simp (disch := omega) only [wraps]
  have e2 : Vx.ishr .u64 ((a : Int) + b) 1 = (((a + b) / 2 : Nat) : Int) := by
    show ((a : Int) + b).fdiv 2 = _
    rw [Int.fdiv_eq_ediv_of_nonneg _ (by decide)]
    omega
  rw [e1, e2]
  simp (disch := omega) only [wraps]
theorem f61_ok (n : Nat) (hn : n ≤ 2000000) (g : Nat → Sp) (i : Int) (hpos : ∀ j, j < n → 0 ≤ (g j).to ∧ (g j).to ≤ 9223372036854775807) (hmono : ∀ j k, j < k → k < n → (g j).to ≤ (g k).to) : FSpec Try.prog 61 [.rows 6 n (spc g), .int .i64 i, .fn (.func 62) [] []] [] (fun r H' => H' = [] ∧ ∃ (k : Nat) (z : Int) (b : Bool), r = .tup [.int .i64 z, .bool b] ∧ z = k ∧ k ≤ n ∧ (∀ j, j < k → (g j).to - 1 < i) ∧ ∀ j, k ≤ j → j < n → i ≤ (g j).to - 1) := by
  obtain ⟨Q, hQ⟩ : ∃ Q : AV → Hp → Prop, Q = (fun r H' => H' = [] ∧ ∃ (k : Nat) (z : Int) (b : Bool), r = .tup [.int .i64 z, .bool b] ∧ z = k ∧ k ≤ n ∧ (∀ j, j < k → (g j).to - 1 < i) ∧ ∀ j, k ≤ j → j < n → i ≤ (g j).to - 1) := ⟨_, rfl⟩
  rw [← hQ]
  refine FSpec.of (fn := Try.f61) Try.func61 rfl rfl (by simp) fun C hC => ?_
  obtain ⟨iadd, isub, imul, iquo, irem, iband, ibor, ibxor, ibandn, ishl, ishr, iconv, ieq, ine, ilt, ile, igt, ige, bbeq, bbne, bnot, bband, sseq, ssne, sscat, sssub, sslen, sssz, ssbyte, toN, ofN, addN, subN, eqN, ltB, leN, imx, imn, inb, leb, sslt, ltN, fit, ne0, ge0, ssfit, minN, inR, bcol, bstr, isBy, hS⟩ := names
  refine V.goF (by first | exact trivial | assumption) Try.func61 tl_ok mixed hS.ops [] 400 ?_
  intro VV VA W hVV hVA hW
  conv => cbv
  rw [hVV]
  clear hVV hVA VV VA hW W
  refine V.to (s' := [(9, .int .i64 (ofN 0)), (10, .int .i64 (ofN n)), (8, .int .i64 (ofN n)), (0, .rows 6 n (spc g)), (1, .int .i64 i), (2, .fn (.func 62) [] [])]) (H' := []) ?_ (by (repeat' first | exact trivial | rfl | (refine And.intro ?_ ?_) | (refine sti ?_; (first | rfl | omega | (simp (disch := omega) only [hS.glob, wraps, plain, Int.ofNat_eq_natCast]; first | done | rfl | omega | (simp; done) | (simp; omega)) | (simp (disch := omega) only [hS.glob, wraps, plain, Int.ofNat_eq_natCast, Vx.toN]; omega))) | (refine slq ?_ ?_ ?_ <;> (first | rfl | omega | (simp (disch := omega) only [hS.glob, wraps, plain, Int.ofNat_eq_natCast]; first | done | rfl | omega | (simp; done) | (simp; omega)) | (simp (disch := omega) only [hS.glob, wraps, plain, Int.ofNat_eq_natCast, Vx.toN]; omega))) | (refine ptq ?_ ?_ ?_ <;> (first | rfl | omega | (simp (disch := omega) only [hS.glob, wraps, plain, Int.ofNat_eq_natCast]; first | done | rfl | omega | (simp; done) | (simp; omega)) | (simp (disch := omega) only [hS.glob, wraps, plain, Int.ofNat_eq_natCast, Vx.toN]; omega))) | (refine blq ?_; (first | rfl | omega | (simp (disch := omega) only [hS.glob, wraps, plain, Int.ofNat_eq_natCast]; first | done | rfl | omega | (simp; done) | (simp; omega)) | (simp (disch := omega) only [hS.glob, wraps, plain, Int.ofNat_eq_natCast, Vx.toN]; omega))))) rfl trivial (by rw [hC]; simp)
  refine V.loop (γ := Nat × Nat) (fun p => p.1 ≤ p.2 ∧ p.2 ≤ n ∧ (∀ j, j < p.1 → (g j).to - 1 < i) ∧ ∀ j, p.2 ≤ j → j < n → i ≤ (g j).to - 1) (fun p => [(9, .int .i64 (ofN p.1)), (10, .int .i64 (ofN p.2)), (8, .int .i64 (ofN n)), (0, .rows 6 n (spc g)), (1, .int .i64 i), (2, .fn (.func 62) [] [])]) (fun _ => []) (fun p => p.2 - p.1) ?_ (0, n) ⟨Nat.zero_le _, Nat.le_refl _, fun j hj => absurd hj (Nat.not_lt_zero _), fun j h1 h2 => by omega⟩
  rintro ⟨a, b⟩ ⟨hab, hbn, hlo, hhi⟩ hback
  dsimp only at hab hbn hlo hhi hback ⊢
  refine V.goF (by first | exact trivial | assumption) Try.func61 tl_ok mixed hS.ops [] 400 ?_
  intro VV VA W hVV hVA hW
  conv => cbv
  cases h1 : ilt (ofN a) (ofN b)
  · conv => cbv
    simp (disch := first | omega | (simp only [hS.glob, wraps, plain, Int.ofNat_eq_natCast]; omega)) only [hS.glob, wraps, plain, Int.ofNat_eq_natCast] at h1
    obtain rfl : a = b := by omega
    cases h2 : ilt (ofN a) (ofN n)
    · conv => cbv
      rw [hQ]
      exact ⟨rfl, a, ofN a, _, rfl, by simp (disch := first | omega | (simp only [hS.glob, wraps, plain, Int.ofNat_eq_natCast]; omega)) only [hS.glob, wraps, plain, Int.ofNat_eq_natCast], hbn, hlo, hhi⟩
    · conv => cbv
      simp (disch := first | omega | (simp only [hS.glob, wraps, plain, Int.ofNat_eq_natCast]; omega)) only [hS.glob, wraps, plain, Int.ofNat_eq_natCast] at h2
      repeat (refine ⟨by first | (rw [hW]; show ordOk _ _ _ = true; kernel_rfl) | (first | trivial | omega | (simp (disch := omega) only [hS.glob, wraps, plain, Int.ofNat_eq_natCast]; first | done | omega | trivial | (simp; done) | (simp; omega) | (constructor <;> omega)) | (simp (disch := omega) only [hS.glob, wraps, plain, Int.ofNat_eq_natCast, Vx.toN]; omega)), ?_⟩)
      simp only [hS.tidy]
      rw [hVV]
      clear hVV hVA VV VA hW W
      obtain ⟨R, hR⟩ : ∃ R, R = cmpC ((g a).to - 1) i := ⟨_, rfl⟩
      refine V.call rfl rfl rfl rfl rfl Try.func62 rfl (by decide) [] (by simp) (by simp) (by (first | rfl | ((conv => cbv); (repeat' apply And.intro) <;> first | rfl | trivial | (first | rfl | omega | (simp (disch := omega) only [hS.glob, wraps, plain, Int.ofNat_eq_natCast]; first | done | rfl | omega | (simp; done) | (simp; omega)) | (simp (disch := omega) only [hS.glob, wraps, plain, Int.ofNat_eq_natCast, Vx.toN]; omega))))) rfl (f62_ok (g a).fr (g a).to (g a).po (g a).co (g a).ru (g a).sc i R (hpos a (by omega)) hR) ?_
      rintro r Hc ⟨rfl, rfl⟩
      refine V.goF (by first | exact trivial | assumption) Try.func61 tl_ok mixed hS.ops [] 400 ?_
      intro VV VA W hVV hVA hW
      conv => cbv
      rw [hQ]
      exact ⟨rfl, a, ofN a, _, rfl, by simp (disch := first | omega | (simp only [hS.glob, wraps, plain, Int.ofNat_eq_natCast]; omega)) only [hS.glob, wraps, plain, Int.ofNat_eq_natCast], hbn, hlo, hhi⟩
  · conv => cbv
    simp (disch := first | omega | (simp only [hS.glob, wraps, plain, Int.ofNat_eq_natCast]; omega)) only [hS.glob, wraps, plain, Int.ofNat_eq_natCast] at h1
    obtain ⟨m, hm⟩ : ∃ m, m = (a + b) / 2 := ⟨_, rfl⟩
    have em : iconv .i64 (ishr .u64 (iconv .u64 (iadd .i64 (ofN a) (ofN b))) 1) = ofN m := by simp only [hS.glob, Vx.ofN]; rw [hm]; exact mid a b (by omega)
    simp only [em]
    repeat (refine ⟨by first | (rw [hW]; show ordOk _ _ _ = true; kernel_rfl) | (first | trivial | omega | (simp (disch := omega) only [hS.glob, wraps, plain, Int.ofNat_eq_natCast]; first | done | omega | trivial | (simp; done) | (simp; omega) | (constructor <;> omega)) | (simp (disch := omega) only [hS.glob, wraps, plain, Int.ofNat_eq_natCast, Vx.toN]; omega)), ?_⟩)
    simp only [hS.tidy]
    rw [hVV]
    clear hVV hVA VV VA hW W
    obtain ⟨R, hR⟩ : ∃ R, R = cmpC ((g m).to - 1) i := ⟨_, rfl⟩
    refine V.call rfl rfl rfl rfl rfl Try.func62 rfl (by decide) [] (by simp) (by simp) (by (first | rfl | ((conv => cbv); (repeat' apply And.intro) <;> first | rfl | trivial | (first | rfl | omega | (simp (disch := omega) only [hS.glob, wraps, plain, Int.ofNat_eq_natCast]; first | done | rfl | omega | (simp; done) | (simp; omega)) | (simp (disch := omega) only [hS.glob, wraps, plain, Int.ofNat_eq_natCast, Vx.toN]; omega))))) rfl (f62_ok (g m).fr (g m).to (g m).po (g m).co (g m).ru (g m).sc i R (hpos m (by omega)) hR) ?_
    rintro r Hc ⟨rfl, rfl⟩
    refine V.goF (by first | exact trivial | assumption) Try.func61 tl_ok mixed hS.ops [] 400 ?_
    intro VV VA W hVV hVA hW
    conv => cbv
    have hc := cmpC_neg ((g m).to - 1) i
    rw [← hR] at hc
    cases h2 : ilt R 0
    · conv => cbv
      simp (disch := first | omega | (simp only [hS.glob, wraps, plain, Int.ofNat_eq_natCast]; omega)) only [hS.glob, wraps, plain, Int.ofNat_eq_natCast] at h2
      rw [hVV]
      clear hVV hVA VV VA hW W
      refine V.to (hback (a, m) ⟨by simp only; omega, by simp only; omega, hlo, fun j h3 h4 => ?_⟩ (by simp only; omega)) (by (repeat' first | exact trivial | rfl | (refine And.intro ?_ ?_) | (refine sti ?_; (first | rfl | omega | (simp (disch := omega) only [hS.glob, wraps, plain, Int.ofNat_eq_natCast]; first | done | rfl | omega | (simp; done) | (simp; omega)) | (simp (disch := omega) only [hS.glob, wraps, plain, Int.ofNat_eq_natCast, Vx.toN]; omega))) | (refine slq ?_ ?_ ?_ <;> (first | rfl | omega | (simp (disch := omega) only [hS.glob, wraps, plain, Int.ofNat_eq_natCast]; first | done | rfl | omega | (simp; done) | (simp; omega)) | (simp (disch := omega) only [hS.glob, wraps, plain, Int.ofNat_eq_natCast, Vx.toN]; omega))) | (refine ptq ?_ ?_ ?_ <;> (first | rfl | omega | (simp (disch := omega) only [hS.glob, wraps, plain, Int.ofNat_eq_natCast]; first | done | rfl | omega | (simp; done) | (simp; omega)) | (simp (disch := omega) only [hS.glob, wraps, plain, Int.ofNat_eq_natCast, Vx.toN]; omega))) | (refine blq ?_; (first | rfl | omega | (simp (disch := omega) only [hS.glob, wraps, plain, Int.ofNat_eq_natCast]; first | done | rfl | omega | (simp; done) | (simp; omega)) | (simp (disch := omega) only [hS.glob, wraps, plain, Int.ofNat_eq_natCast, Vx.toN]; omega))))) rfl trivial (by rw [hC]; simp)
      simp only at h3
      have hge : i ≤ (g m).to - 1 := by
        apply Classical.byContradiction
        intro hh
        have := hc.2 (by omega)
        omega
      rcases Nat.lt_or_eq_of_le h3 with h | rfl
      · have := hmono m j h h4; omega
      · exact hge
    · conv => cbv
      simp (disch := first | omega | (simp only [hS.glob, wraps, plain, Int.ofNat_eq_natCast]; omega)) only [hS.glob, wraps, plain, Int.ofNat_eq_natCast] at h2
      rw [hVV]
      clear hVV hVA VV VA hW W
      refine V.to (hback (m + 1, b) ⟨by simp only; omega, hbn, fun j h3 => ?_, hhi⟩ (by simp only; omega)) (by (repeat' first | exact trivial | rfl | (refine And.intro ?_ ?_) | (refine sti ?_; (first | rfl | omega | (simp (disch := omega) only [hS.glob, wraps, plain, Int.ofNat_eq_natCast]; first | done | rfl | omega | (simp; done) | (simp; omega)) | (simp (disch := omega) only [hS.glob, wraps, plain, Int.ofNat_eq_natCast, Vx.toN]; omega))) | (refine slq ?_ ?_ ?_ <;> (first | rfl | omega | (simp (disch := omega) only [hS.glob, wraps, plain, Int.ofNat_eq_natCast]; first | done | rfl | omega | (simp; done) | (simp; omega)) | (simp (disch := omega) only [hS.glob, wraps, plain, Int.ofNat_eq_natCast, Vx.toN]; omega))) | (refine ptq ?_ ?_ ?_ <;> (first | rfl | omega | (simp (disch := omega) only [hS.glob, wraps, plain, Int.ofNat_eq_natCast]; first | done | rfl | omega | (simp; done) | (simp; omega)) | (simp (disch := omega) only [hS.glob, wraps, plain, Int.ofNat_eq_natCast, Vx.toN]; omega))) | (refine blq ?_; (first | rfl | omega | (simp (disch := omega) only [hS.glob, wraps, plain, Int.ofNat_eq_natCast]; first | done | rfl | omega | (simp; done) | (simp; omega)) | (simp (disch := omega) only [hS.glob, wraps, plain, Int.ofNat_eq_natCast, Vx.toN]; omega))))) rfl trivial (by rw [hC]; simp)
      simp only at h3
      have hlt := hc.1 h2
      rcases Nat.lt_succ_iff_lt_or_eq.1 h3 with h | rfl
      · have := hmono j m h (by omega); omega
      · exact hlt
end Go.Proofs.Ytngagepodbcohaa

/- Where a span is, by the program. -/
namespace Go.Proofs.Ytngagepodbcohaa
open Go Vx
set_option maxRecDepth 100000

/-- Spans in order, none empty, none far. -/
structure Ord (g : Nat → Sp) (n : Nat) : Prop where
  one : ∀ j, j < n → 0 ≤ (g j).fr ∧ (g j).fr < (g j).to ∧ (g j).to ≤ 9223372036854775807
  two : ∀ j k, j < k → k < n → (g j).to ≤ (g k).fr
theorem atF_some {g : Nat → Sp} {i : Int} : ∀ (n a k : Nat), a ≤ k → k < a + n → inSp (g k) i → (∀ j, a ≤ j → j < k → ¬ inSp (g j) i) → atF g i a n = some k
  | 0, a, k, h1, h2, _, _ => by omega
  | n + 1, a, k, h1, h2, h3, h4 => by
    rw [atF]
    by_cases e : a = k
    · subst e; rw [if_pos h3]
    · rw [if_neg (h4 a (Nat.le_refl _) (by omega))]
      exact atF_some n (a + 1) k (by omega) (by omega) h3 (fun j h5 h6 => h4 j (by omega) h6)
theorem atF_none {g : Nat → Sp} {i : Int} : ∀ (n a : Nat), (∀ j, a ≤ j → j < a + n → ¬ inSp (g j) i) → atF g i a n = none
  | 0, a, _ => rfl
  | n + 1, a, h => by
    rw [atF, if_neg (h a (Nat.le_refl _) (by omega))]
    exact atF_none n (a + 1) (fun j h1 h2 => h j (by omega) (by omega))
theorem f34_ok (n : Nat) (hn : n ≤ 2000000) (g : Nat → Sp) (ho : Ord g n) (i : Int) (A : Option Nat) (hA : A = atF g i 0 n) : FSpec Try.prog 34 [.rows 6 n (spc g), .int .i64 i] [] (fun r H' => H' = [] ∧ ((A = none ∧ r = .tup [.int .i64 0, .bool false]) ∨ ∃ k : Nat, A = some k ∧ ∃ z : Int, z = k ∧ r = .tup [.int .i64 z, .bool true])) := by
  obtain ⟨Q, hQ⟩ : ∃ Q : AV → Hp → Prop, Q = (fun r H' => H' = [] ∧ ((A = none ∧ r = .tup [.int .i64 0, .bool false]) ∨ ∃ k : Nat, A = some k ∧ ∃ z : Int, z = k ∧ r = .tup [.int .i64 z, .bool true])) := ⟨_, rfl⟩
  rw [← hQ]
  refine FSpec.of (fn := Try.f34) Try.func34 rfl rfl (by simp) fun C hC => ?_
  obtain ⟨iadd, isub, imul, iquo, irem, iband, ibor, ibxor, ibandn, ishl, ishr, iconv, ieq, ine, ilt, ile, igt, ige, bbeq, bbne, bnot, bband, sseq, ssne, sscat, sssub, sslen, sssz, ssbyte, toN, ofN, addN, subN, eqN, ltB, leN, imx, imn, inb, leb, sslt, ltN, fit, ne0, ge0, ssfit, minN, inR, bcol, bstr, isBy, hS⟩ := names
  refine V.goF (by first | exact trivial | assumption) Try.func34 tl_ok mixed hS.ops [] 400 ?_
  intro VV VA W hVV hVA hW
  conv => cbv
  rw [hVV]
  clear hVV hVA VV VA hW W
  refine V.call rfl rfl rfl rfl rfl Try.func61 rfl (by decide) [] (by simp) (by simp) (by (first | rfl | ((conv => cbv); (repeat' apply And.intro) <;> first | rfl | trivial | (first | rfl | omega | (simp (disch := omega) only [hS.glob, wraps, plain, Int.ofNat_eq_natCast]; first | done | rfl | omega | (simp; done) | (simp; omega)) | (simp (disch := omega) only [hS.glob, wraps, plain, Int.ofNat_eq_natCast, Vx.toN]; omega))))) rfl (f61_ok n hn g i (fun j hj => by have := ho.one j hj; omega) (fun j k h1 h2 => by have := ho.two j k h1 h2; have := ho.one k h2; omega)) ?_
  rintro r Hc ⟨rfl, k, z, b, rfl, hz, hk, hlo, hhi⟩
  refine V.goF (by first | exact trivial | assumption) Try.func34 tl_ok mixed hS.ops [] 400 ?_
  intro VV VA W hVV hVA hW
  conv => cbv
  cases h1 : ieq z (ofN n)
  · conv => cbv
    simp (disch := first | omega | (simp only [hS.glob, wraps, plain, Int.ofNat_eq_natCast]; omega)) only [hS.glob, wraps, plain, Int.ofNat_eq_natCast] at h1
    have hkn : k < n := by omega
    have ez : z = ofN k := by simp (disch := first | omega | (simp only [hS.glob, wraps, plain, Int.ofNat_eq_natCast]; omega)) only [hS.glob, wraps, plain, Int.ofNat_eq_natCast]; exact hz
    simp only [ez]
    repeat (refine ⟨by first | (rw [hW]; show ordOk _ _ _ = true; kernel_rfl) | (first | trivial | omega | (simp (disch := omega) only [hS.glob, wraps, plain, Int.ofNat_eq_natCast]; first | done | omega | trivial | (simp; done) | (simp; omega) | (constructor <;> omega)) | (simp (disch := omega) only [hS.glob, wraps, plain, Int.ofNat_eq_natCast, Vx.toN]; omega)), ?_⟩)
    simp only [hS.tidy]
    cases h2 : igt (g k).fr i
    · conv => cbv
      simp (disch := first | omega | (simp only [hS.glob, wraps, plain, Int.ofNat_eq_natCast]; omega)) only [hS.glob, wraps, plain, Int.ofNat_eq_natCast] at h2
      rw [hQ]
      refine ⟨rfl, .inr ⟨k, ?_, ofN k, by simp (disch := first | omega | (simp only [hS.glob, wraps, plain, Int.ofNat_eq_natCast]; omega)) only [hS.glob, wraps, plain, Int.ofNat_eq_natCast], rfl⟩⟩
      rw [hA]
      exact atF_some n 0 k (Nat.zero_le _) (by omega) ⟨h2, by have := hhi k (Nat.le_refl _) hkn; omega⟩ (fun j _ h3 h4 => by have := hlo j h3; have := h4.2; omega)
    · conv => cbv
      simp (disch := first | omega | (simp only [hS.glob, wraps, plain, Int.ofNat_eq_natCast]; omega)) only [hS.glob, wraps, plain, Int.ofNat_eq_natCast] at h2
      rw [hQ]
      refine ⟨rfl, .inl ⟨?_, rfl⟩⟩
      rw [hA]
      refine atF_none n 0 (fun j _ h3 h4 => ?_)
      rcases Nat.lt_trichotomy j k with h | rfl | h
      · have := hlo j h; have := h4.2; omega
      · have := h4.1; omega
      · have := ho.two k j h (by omega); have := ho.one k hkn; have := h4.1; omega
  · conv => cbv
    simp (disch := first | omega | (simp only [hS.glob, wraps, plain, Int.ofNat_eq_natCast]; omega)) only [hS.glob, wraps, plain, Int.ofNat_eq_natCast] at h1
    rw [hQ]
    refine ⟨rfl, .inl ⟨?_, rfl⟩⟩
    rw [hA]
    exact atF_none n 0 (fun j _ h3 h4 => by have := hlo j (by omega); have := h4.2; omega)
end Go.Proofs.Ytngagepodbcohaa
