/- Contracts of functions by an evaluator of the model: its part T1. -/
import Derived.Test.YtcoanfhjgmndcaaProg
import Derived.Test.YtcoanfhjgmndcaaV2
import Derived.KernelRfl
import Derived.Test.YtcoanfhjgmndcaaV3
set_option linter.all false
/- The types of the program, as its table tells them; the kernel holds them against the program. -/
namespace Go.Proofs.Ytcoanfhjgmndcaa
open Go Vx
def tll : TabL := [
  (1, ⟨.func, 1, 8, [.nil .func]⟩),
  (2, ⟨.int .i64, 1, 8, [.int .i64 0]⟩),
  (3, ⟨.int .i64, 1, 8, [.int .i64 0]⟩),
  (4, ⟨.bool, 1, 1, [.bool false]⟩),
  (5, ⟨.int .u8, 1, 1, [.int .u8 0]⟩),
  (9, ⟨.str, 1, 16, [.str ByteArray.empty]⟩),
  (12, ⟨.int .u64, 1, 8, [.int .u64 0]⟩),
  (17, ⟨.ptr, 1, 8, [.nil .ptr]⟩),
  (20, ⟨.iface, 1, 16, [.nil .iface]⟩),
  (21, ⟨.int .i32, 1, 4, [.int .i32 0]⟩),
  (22, ⟨.slice 32, 1, 24, [.nil .slice]⟩),
  (23, ⟨.slice 43, 1, 24, [.nil .slice]⟩),
  (24, ⟨.func, 1, 8, [.nil .func]⟩),
  (25, ⟨.func, 1, 8, [.nil .func]⟩),
  (26, ⟨.slice 41, 1, 24, [.nil .slice]⟩),
  (27, ⟨.func, 1, 8, [.nil .func]⟩),
  (28, ⟨.slice 45, 1, 24, [.nil .slice]⟩),
  (29, ⟨.func, 1, 8, [.nil .func]⟩),
  (30, ⟨.func, 1, 8, [.nil .func]⟩),
  (31, ⟨.func, 1, 8, [.nil .func]⟩),
  (32, ⟨.int .i64, 1, 8, [.int .i64 0]⟩),
  (33, ⟨.struct [(0, 1, false), (1, 1, false), (2, 1, false), (3, 1, false)], 4, 64, [.nil .slice, .nil .slice, .int .i64 0, .int .i64 0]⟩),
  (34, ⟨.struct [(0, 1, false), (1, 1, false), (2, 1, false), (3, 1, false)], 4, 64, [.nil .slice, .nil .slice, .int .i64 0, .int .i64 0]⟩),
  (35, ⟨.int .i64, 1, 8, [.int .i64 0]⟩),
  (37, ⟨.func, 1, 8, [.nil .func]⟩),
  (38, ⟨.func, 1, 8, [.nil .func]⟩),
  (39, ⟨.func, 1, 8, [.nil .func]⟩),
  (40, ⟨.func, 1, 8, [.nil .func]⟩),
  (41, ⟨.array 2 3, 2, 16, [.int .i64 0, .int .i64 0]⟩),
  (42, ⟨.struct [(0, 1, false), (1, 1, false)], 2, 16, [.int .i64 0, .int .i64 0]⟩),
  (43, ⟨.struct [(0, 1, false), (1, 1, false)], 2, 16, [.int .i64 0, .int .i64 0]⟩),
  (44, ⟨.slice 3, 1, 24, [.nil .slice]⟩),
  (45, ⟨.struct [(0, 1, false), (1, 1, false)], 2, 16, [.int .i64 0, .int .i64 0]⟩),
  (46, ⟨.func, 1, 8, [.nil .func]⟩),
  (47, ⟨.slice 49, 1, 24, [.nil .slice]⟩),
  (48, ⟨.struct [(0, 1, false), (1, 1, false)], 2, 16, [.int .i64 0, .int .i64 0]⟩),
  (49, ⟨.struct [(0, 1, false), (1, 1, false)], 2, 16, [.int .i64 0, .int .i64 0]⟩),
  (50, ⟨.func, 1, 8, [.nil .func]⟩),
  (51, ⟨.func, 1, 8, [.nil .func]⟩),
  (52, ⟨.func, 1, 8, [.nil .func]⟩),
  (53, ⟨.func, 1, 8, [.nil .func]⟩),
  (54, ⟨.func, 1, 8, [.nil .func]⟩),
  (55, ⟨.func, 1, 8, [.nil .func]⟩),
  (56, ⟨.func, 1, 8, [.nil .func]⟩),
  (57, ⟨.func, 1, 8, [.nil .func]⟩),
  (58, ⟨.struct [(0, 1, false), (1, 1, false), (2, 1, false), (3, 1, false)], 4, 64, [.nil .slice, .nil .slice, .int .i64 0, .int .i64 0]⟩),
  (59, ⟨.struct [(0, 1, false), (1, 1, false), (2, 1, false), (3, 1, false)], 4, 64, [.nil .slice, .nil .slice, .int .i64 0, .int .i64 0]⟩),
  (60, ⟨.func, 1, 8, [.nil .func]⟩),
  (61, ⟨.func, 1, 8, [.nil .func]⟩),
  (62, ⟨.func, 1, 8, [.nil .func]⟩),
  (63, ⟨.func, 1, 8, [.nil .func]⟩),
  (64, ⟨.func, 1, 8, [.nil .func]⟩),
  (65, ⟨.func, 1, 8, [.nil .func]⟩),
  (66, ⟨.func, 1, 8, [.nil .func]⟩),
  (67, ⟨.int .u64, 1, 8, [.int .u64 0]⟩),
  (68, ⟨.func, 1, 8, [.nil .func]⟩),
  (69, ⟨.func, 1, 8, [.nil .func]⟩),
  (70, ⟨.func, 1, 8, [.nil .func]⟩),
  (71, ⟨.func, 1, 8, [.nil .func]⟩),
  (72, ⟨.func, 1, 8, [.nil .func]⟩),
  (73, ⟨.func, 1, 8, [.nil .func]⟩),
  (74, ⟨.int .i64, 1, 8, [.int .i64 0]⟩),
  (76, ⟨.func, 1, 8, [.nil .func]⟩),
  (77, ⟨.func, 1, 8, [.nil .func]⟩),
  (78, ⟨.func, 1, 8, [.nil .func]⟩),
  (80, ⟨.func, 1, 8, [.nil .func]⟩),
  (81, ⟨.func, 1, 8, [.nil .func]⟩),
  (82, ⟨.int .u32, 1, 4, [.int .u32 0]⟩),
  (83, ⟨.func, 1, 8, [.nil .func]⟩),
  (84, ⟨.int .u64, 1, 8, [.int .u64 0]⟩),
  (85, ⟨.func, 1, 8, [.nil .func]⟩),
  (86, ⟨.func, 1, 8, [.nil .func]⟩),
  (87, ⟨.func, 1, 8, [.nil .func]⟩),
  (88, ⟨.func, 1, 8, [.nil .func]⟩),
  (89, ⟨.func, 1, 8, [.nil .func]⟩),
  (90, ⟨.int .u64, 1, 8, [.int .u64 0]⟩),
  (91, ⟨.func, 1, 8, [.nil .func]⟩),
  (92, ⟨.func, 1, 8, [.nil .func]⟩),
  (93, ⟨.func, 1, 8, [.nil .func]⟩),
  (94, ⟨.ptr, 1, 8, [.nil .ptr]⟩),
  (95, ⟨.func, 1, 8, [.nil .func]⟩),
  (96, ⟨.func, 1, 8, [.nil .func]⟩),
  (97, ⟨.func, 1, 8, [.nil .func]⟩),
  (98, ⟨.ptr, 1, 8, [.nil .ptr]⟩),
  (100, ⟨.func, 1, 8, [.nil .func]⟩),
  (101, ⟨.func, 1, 8, [.nil .func]⟩),
  (107, ⟨.func, 1, 8, [.nil .func]⟩),
  (111, ⟨.ptr, 1, 8, [.nil .ptr]⟩)]
def tl : Tab := fun t => tabL tll t
theorem tl_ok : TabOk Go.Proofs.Try.prog tl := tabOk_of (by kernel_rfl)
end Go.Proofs.Ytcoanfhjgmndcaa

/- Plain words on lists of numbers. -/
namespace Go.Proofs.Ytcoanfhjgmndcaa
open Go Vx
theorem mixed : Try.prog.follows .mixedOrders = true := by kernel_rfl
def tab {α : Type} (n : Nat) (f : Nat → α) : List α := (List.range n).map f
theorem tab_len {α : Type} (n : Nat) (f : Nat → α) : (tab n f).length = n := by simp [tab]
theorem tab_snoc {α : Type} {n n' : Nat} {f g : Nat → α} {a : α} (hn : n' = n + 1) (h : ∀ j, j < n → g j = f j) (ha : g n = a) : tab n' g = tab n f ++ [a] := by
  subst hn ha
  simp only [tab, List.range_succ, List.map_append, List.map_cons, List.map_nil]
  congr 1
  exact List.map_congr_left fun j hj => h j (by simpa using hj)
theorem tab_last {α : Type} {n : Nat} (f : Nat → α) (d : α) (h : 0 < n) : (tab n f).getLastD d = f (n - 1) := by
  obtain ⟨m, rfl⟩ : ∃ m, n = m + 1 := ⟨n - 1, by omega⟩
  rw [tab_snoc (f := f) rfl (fun _ _ => rfl) rfl]
  simp
theorem tab_pop {α : Type} (n : Nat) (f : Nat → α) : (tab n f).dropLast = tab (n - 1) f := by
  cases n with
  | zero => rfl
  | succ n => rw [tab_snoc (f := f) rfl (fun _ _ => rfl) rfl]; simp
theorem tab_one {α : Type} (f : Nat → α) : tab 1 f = [f 0] := rfl
theorem tab_get {α : Type} (n : Nat) (f : Nat → α) (j : Nat) (h : j < n) : (tab n f)[j]? = some (f j) := by simp [tab, h]
theorem tab_inj {α : Type} {n : Nat} {f g : Nat → α} (h : tab n f = tab n g) : ∀ j, j < n → f j = g j := by
  intro j hj
  have := congrArg (fun l : List α => l[j]?) h
  simpa [tab, hj] using this
theorem tab_take {α : Type} {n m : Nat} (f : Nat → α) (h : m ≤ n) : (tab n f).take m = tab m f := by
  apply List.ext_getElem?
  intro j
  rw [List.getElem?_take]
  by_cases hj : j < m
  · rw [if_pos hj, tab_get _ _ _ (by omega), tab_get _ _ _ hj]
  · rw [if_neg hj, List.getElem?_eq_none (by rw [tab_len]; omega)]
theorem tab_congr {α : Type} {n : Nat} {f g : Nat → α} (h : ∀ j, j < n → f j = g j) : tab n f = tab n g := List.map_congr_left fun j hj => h j (by simpa using hj)
theorem tab_of {α : Type} (l : List α) (d : α) : tab l.length (fun j => l.getD j d) = l := by
  apply List.ext_getElem?
  intro j
  by_cases hj : j < l.length
  · rw [tab_get _ _ _ hj, List.getD_eq_getElem?_getD, List.getElem?_eq_getElem hj]; rfl
  · rw [List.getElem?_eq_none (by rw [tab_len]; omega), List.getElem?_eq_none (by omega)]
theorem snoc_of {α : Type} {l : List α} (h : l ≠ []) : ∃ s x, l = s ++ [x] := ⟨l.dropLast, l.getLast h, (List.dropLast_concat_getLast h).symm⟩
theorem snocF {α : Type} (f : Nat → α) (q : Nat) (a : α) : ∃ g : Nat → α, (∀ j, j < q → g j = f j) ∧ g q = a := ⟨fun j => if j = q then a else f j, fun j hj => by simp; omega, by simp⟩
/-- What an append of one number leaves. -/
theorem leaf {subN : Nat → Nat → Nat} {ltB : Nat → Nat → Bool} (hl : ltB = Vx.ltB) (hs : subN = Vx.subN) (a : Int) (f g : Nat → Int) (q : Nat) (h : ∀ j, j < q → g j = f j) (hq : g q = a) : ∀ i, i < q + 1 → icol .i64 g i = (match ltB i q with | true => icol .i64 f i | false => [[.int .i64 a]].getD (subN i q) []) := by
  intro i hi
  subst hl hs
  simp only [icol]
  cases hr : Vx.ltB i q
  · simp only [plain] at hr
    obtain rfl : i = q := by omega
    simp [Vx.subN, hq]
  · simp only [plain] at hr
    rw [h i hr]
/-- The same for rows. -/
theorem leafR {subN : Nat → Nat → Nat} {ltB : Nat → Nat → Bool} (hl : ltB = Vx.ltB) (hs : subN = Vx.subN) (a : List AV) (f g : Nat → List AV) (q : Nat) (h : ∀ j, j < q → g j = f j) (hq : g q = a) : ∀ i, i < q + 1 → g i = (match ltB i q with | true => f i | false => [a].getD (subN i q) []) := by
  intro i hi
  subst hl hs
  cases hr : Vx.ltB i q
  · simp only [plain] at hr
    obtain rfl : i = q := by omega
    simp [Vx.subN, hq]
  · simp only [plain] at hr
    exact h i hr
theorem band_le (a : Int) (m : Nat) (hm : m < 1000) : ∃ r : Nat, Vx.iband .i64 a m = r ∧ r ≤ m := by
  have e2 : (BitVec.ofInt 64 (m : Int)).toNat = m := by rw [BitVec.toNat_ofInt]; omega
  have h : ((BitVec.ofInt 64 a &&& BitVec.ofInt 64 (m : Int)).toNat) ≤ m := by
    rw [BitVec.toNat_and, e2]; exact Nat.and_le_right
  refine ⟨_, ?_, h⟩
  show IntKind.i64.wrap _ = _
  rw [IntWalk.i64_in]
  · rfl
  · constructor
    · show -9223372036854775808 ≤ (((BitVec.ofInt 64 a &&& BitVec.ofInt 64 (m : Int)).toNat : Nat) : Int); omega
    · show (((BitVec.ofInt 64 a &&& BitVec.ofInt 64 (m : Int)).toNat : Nat) : Int) ≤ 9223372036854775807; omega
end Go.Proofs.Ytcoanfhjgmndcaa

/- What is strong, and the other side. -/
namespace Go.Proofs.Ytcoanfhjgmndcaa
open Go Vx

def strC (c : Int) : Int := if c = 0 then 0 else if c = 1 ∨ c = 3 ∨ c = 6 then 1 else 13
def turnC (c : Int) : Int := if c = 0 then 1 else 0
theorem f47_ok (c R : Int) (hR : R = strC c) : FSpec Try.prog 47 [.int .i64 c] [] (fun r H' => r = .int .i64 R ∧ H' = []) := by
  refine FSpec.of (fn := Try.f47) Try.func47 rfl rfl (by simp) fun C hC => ?_
  obtain ⟨iadd, isub, imul, iquo, irem, iband, ibor, ibxor, ibandn, ishl, ishr, iconv, ieq, ine, ilt, ile, igt, ige, bbeq, bbne, bnot, bband, sseq, ssne, sscat, sssub, sslen, sssz, ssbyte, toN, ofN, addN, subN, eqN, ltB, leN, imx, imn, inb, leb, sslt, ltN, fit, ne0, ge0, ssfit, minN, inR, hS⟩ := names
  refine V.goF (by first | exact trivial | assumption) Try.func47 tl_ok mixed hS.ops [] 400 ?_
  intro VV VA W hVV hVA hW
  conv => cbv
  cases e1 : ieq c 0 <;> cases e2 : ieq c 1 <;> cases e3 : ieq c 3 <;> cases e4 : ieq c 6 <;> (conv => cbv) <;> (repeat (simp only [e1, e2, e3, e4]; (conv => cbv)))
  all_goals (simp only [hS.glob, wraps, plain, Int.ofNat_eq_natCast] at e1 e2 e3 e4)
  all_goals (subst hR; exact ⟨sti (by unfold strC; split <;> first | omega | (split <;> omega)), trivial⟩)
theorem f34_ok (c R : Int) (hR : R = strC c) : FSpec Try.prog 34 [.int .i64 c] [] (fun r H' => r = .int .i64 R ∧ H' = []) := by
  refine FSpec.of (fn := Try.f34) Try.func34 rfl rfl (by simp) fun C hC => ?_
  obtain ⟨iadd, isub, imul, iquo, irem, iband, ibor, ibxor, ibandn, ishl, ishr, iconv, ieq, ine, ilt, ile, igt, ige, bbeq, bbne, bnot, bband, sseq, ssne, sscat, sssub, sslen, sssz, ssbyte, toN, ofN, addN, subN, eqN, ltB, leN, imx, imn, inb, leb, sslt, ltN, fit, ne0, ge0, ssfit, minN, inR, hS⟩ := names
  refine V.goF (by first | exact trivial | assumption) Try.func34 tl_ok mixed hS.ops [] 400 ?_
  intro VV VA W hVV hVA hW
  conv => cbv
  cases e1 : ieq c 0 <;> cases e2 : ieq c 1 <;> cases e3 : ieq c 3 <;> cases e4 : ieq c 6 <;> (conv => cbv) <;> (repeat (simp only [e1, e2, e3, e4]; (conv => cbv)))
  all_goals (simp only [hS.glob, wraps, plain, Int.ofNat_eq_natCast] at e1 e2 e3 e4)
  all_goals (subst hR; exact ⟨sti (by unfold strC; split <;> first | omega | (split <;> omega)), trivial⟩)
theorem f31_ok (c R : Int) (hR : R = turnC c) : FSpec Try.prog 31 [.int .i64 c] [] (fun r H' => r = .int .i64 R ∧ H' = []) := by
  refine FSpec.of (fn := Try.f31) Try.func31 rfl rfl (by simp) fun C hC => ?_
  obtain ⟨iadd, isub, imul, iquo, irem, iband, ibor, ibxor, ibandn, ishl, ishr, iconv, ieq, ine, ilt, ile, igt, ige, bbeq, bbne, bnot, bband, sseq, ssne, sscat, sssub, sslen, sssz, ssbyte, toN, ofN, addN, subN, eqN, ltB, leN, imx, imn, inb, leb, sslt, ltN, fit, ne0, ge0, ssfit, minN, inR, hS⟩ := names
  refine V.goF (by first | exact trivial | assumption) Try.func31 tl_ok mixed hS.ops [] 400 ?_
  intro VV VA W hVV hVA hW
  conv => cbv
  cases e1 : ieq c 0 <;> (conv => cbv) <;> (repeat (simp only [e1]; (conv => cbv)))
  all_goals (simp only [hS.glob, wraps, plain, Int.ofNat_eq_natCast] at e1)
  all_goals (subst hR; exact ⟨sti (by unfold turnC; split <;> omega), trivial⟩)
/-- A comparison of two numbers. -/
def cmpC (x y : Int) : Int := if x < y then -1 else if y < x then 1 else 0
end Go.Proofs.Ytcoanfhjgmndcaa

namespace Go.Proofs.Ytcoanfhjgmndcaa
open Go Vx

theorem f15_ok (n m : Nat) (xs ys : Nat → Int) (R : Bool) (hR : R = true ↔ n = m ∧ ∀ j, j < n → xs j = ys j) : FSpec Try.prog 15 [.rows 1 n (icol .i64 xs), .rows 1 m (icol .i64 ys)] [] (fun r H' => r = .bool R ∧ H' = []) := by
  refine FSpec.of (fn := Try.f15) Try.func15 rfl rfl (by simp) fun C hC => ?_
  obtain ⟨iadd, isub, imul, iquo, irem, iband, ibor, ibxor, ibandn, ishl, ishr, iconv, ieq, ine, ilt, ile, igt, ige, bbeq, bbne, bnot, bband, sseq, ssne, sscat, sssub, sslen, sssz, ssbyte, toN, ofN, addN, subN, eqN, ltB, leN, imx, imn, inb, leb, sslt, ltN, fit, ne0, ge0, ssfit, minN, inR, hS⟩ := names
  refine V.rowsLen 0 (sz := 1) (n := n) rfl fun hx => ?_
  refine V.rowsLen 1 (sz := 1) (n := m) rfl fun hy => ?_
  simp (disch := first | omega | (simp only [hS.glob, wraps, plain, Int.ofNat_eq_natCast]; omega)) only [hS.glob, wraps, plain, Int.ofNat_eq_natCast] at hx
  simp (disch := first | omega | (simp only [hS.glob, wraps, plain, Int.ofNat_eq_natCast]; omega)) only [hS.glob, wraps, plain, Int.ofNat_eq_natCast] at hy
  refine V.goF (by first | exact trivial | assumption) Try.func15 tl_ok mixed hS.ops [] 400 ?_
  intro VV VA W hVV hVA hW
  conv => cbv
  split <;> rename_i h
  · conv => cbv
    simp (disch := first | omega | (simp only [hS.glob, wraps, plain, Int.ofNat_eq_natCast]; omega)) only [hS.glob, wraps, plain, Int.ofNat_eq_natCast] at h
    refine ⟨?_, trivial⟩
    congr 1
    cases R
    · rfl
    · have := (hR.1 rfl).1; omega
  · conv => cbv
    simp (disch := first | omega | (simp only [hS.glob, wraps, plain, Int.ofNat_eq_natCast]; omega)) only [hS.glob, wraps, plain, Int.ofNat_eq_natCast] at h
    have hl : n = m := by omega
    rw [hVV]
    refine V.to (s' := [(5, .int .i64 (ofN 0)), (0, .rows 1 n (icol .i64 xs)), (1, .rows 1 m (icol .i64 ys))]) (H' := []) ?_ (by (repeat' first | exact trivial | rfl | (refine And.intro ?_ ?_) | (refine sti ?_; (first | rfl | omega | (simp (disch := omega) only [hS.glob, wraps, plain, Int.ofNat_eq_natCast]; first | done | rfl | omega | (simp; done) | (simp; omega)) | (simp (disch := omega) only [hS.glob, wraps, plain, Int.ofNat_eq_natCast, Vx.toN]; omega))) | (refine slq ?_ ?_ ?_ <;> (first | rfl | omega | (simp (disch := omega) only [hS.glob, wraps, plain, Int.ofNat_eq_natCast]; first | done | rfl | omega | (simp; done) | (simp; omega)) | (simp (disch := omega) only [hS.glob, wraps, plain, Int.ofNat_eq_natCast, Vx.toN]; omega))) | (refine ptq ?_ ?_ ?_ <;> (first | rfl | omega | (simp (disch := omega) only [hS.glob, wraps, plain, Int.ofNat_eq_natCast]; first | done | rfl | omega | (simp; done) | (simp; omega)) | (simp (disch := omega) only [hS.glob, wraps, plain, Int.ofNat_eq_natCast, Vx.toN]; omega))) | (refine blq ?_; (first | rfl | omega | (simp (disch := omega) only [hS.glob, wraps, plain, Int.ofNat_eq_natCast]; first | done | rfl | omega | (simp; done) | (simp; omega)) | (simp (disch := omega) only [hS.glob, wraps, plain, Int.ofNat_eq_natCast, Vx.toN]; omega))))) rfl trivial (by rw [hC]; simp)
    refine V.loop (γ := Nat) (fun i => i ≤ n ∧ ∀ j, j < i → xs j = ys j) (fun i => [(5, .int .i64 (ofN i)), (0, .rows 1 n (icol .i64 xs)), (1, .rows 1 m (icol .i64 ys))]) (fun _ => []) (fun i => n - i) ?_ 0 ⟨Nat.zero_le _, fun j hj => by omega⟩
    rintro i ⟨hi, heq⟩ hback
    clear hVV hVA VV VA hW W
    refine V.goF (by first | exact trivial | assumption) Try.func15 tl_ok mixed hS.ops [] 400 ?_
    intro VV VA W hVV hVA hW
    conv => cbv
    split <;> rename_i h2
    · conv => cbv
      simp (disch := first | omega | (simp only [hS.glob, wraps, plain, Int.ofNat_eq_natCast]; omega)) only [hS.glob, wraps, plain, Int.ofNat_eq_natCast] at h2
      repeat (refine ⟨by first | (rw [hW]; show ordOk _ _ _ = true; kernel_rfl) | (first | trivial | omega | (simp (disch := omega) only [hS.glob, wraps, plain, Int.ofNat_eq_natCast]; first | done | omega | trivial | (simp; done) | (simp; omega) | (constructor <;> omega)) | (simp (disch := omega) only [hS.glob, wraps, plain, Int.ofNat_eq_natCast, Vx.toN]; omega)), ?_⟩)
      split <;> rename_i h3
      · conv => cbv
        simp (disch := first | omega | (simp only [hS.glob, wraps, plain, Int.ofNat_eq_natCast]; omega)) only [hS.glob, wraps, plain, Int.ofNat_eq_natCast] at h3
        refine ⟨?_, trivial⟩
        congr 1
        cases R
        · rfl
        · exact absurd ((hR.1 rfl).2 i (by omega)) h3
      · conv => cbv
        simp (disch := first | omega | (simp only [hS.glob, wraps, plain, Int.ofNat_eq_natCast]; omega)) only [hS.glob, wraps, plain, Int.ofNat_eq_natCast] at h3
        rw [hVV]
        refine V.to (hback (i+1) ⟨by omega, fun j hj => ?_⟩ (by omega)) (by (repeat' first | exact trivial | rfl | (refine And.intro ?_ ?_) | (refine sti ?_; (first | rfl | omega | (simp (disch := omega) only [hS.glob, wraps, plain, Int.ofNat_eq_natCast]; first | done | rfl | omega | (simp; done) | (simp; omega)) | (simp (disch := omega) only [hS.glob, wraps, plain, Int.ofNat_eq_natCast, Vx.toN]; omega))) | (refine slq ?_ ?_ ?_ <;> (first | rfl | omega | (simp (disch := omega) only [hS.glob, wraps, plain, Int.ofNat_eq_natCast]; first | done | rfl | omega | (simp; done) | (simp; omega)) | (simp (disch := omega) only [hS.glob, wraps, plain, Int.ofNat_eq_natCast, Vx.toN]; omega))) | (refine ptq ?_ ?_ ?_ <;> (first | rfl | omega | (simp (disch := omega) only [hS.glob, wraps, plain, Int.ofNat_eq_natCast]; first | done | rfl | omega | (simp; done) | (simp; omega)) | (simp (disch := omega) only [hS.glob, wraps, plain, Int.ofNat_eq_natCast, Vx.toN]; omega))) | (refine blq ?_; (first | rfl | omega | (simp (disch := omega) only [hS.glob, wraps, plain, Int.ofNat_eq_natCast]; first | done | rfl | omega | (simp; done) | (simp; omega)) | (simp (disch := omega) only [hS.glob, wraps, plain, Int.ofNat_eq_natCast, Vx.toN]; omega))))) rfl trivial (by rw [hC]; simp)
        rcases Nat.lt_succ_iff_lt_or_eq.1 hj with h | rfl
        · exact heq j h
        · exact h3
    · conv => cbv
      simp (disch := first | omega | (simp only [hS.glob, wraps, plain, Int.ofNat_eq_natCast]; omega)) only [hS.glob, wraps, plain, Int.ofNat_eq_natCast] at h2
      refine ⟨?_, trivial⟩
      congr 1
      symm
      rw [hR]
      exact ⟨hl, fun j hj => heq j (by omega)⟩
end Go.Proofs.Ytcoanfhjgmndcaa

namespace Go.Proofs.Ytcoanfhjgmndcaa
open Go Vx

theorem f21_ok (ln : Nat) (l : Nat → Int) (hl : ln ≤ 17592186044416) : FSpec Try.prog 21 [.rows 1 ln (icol .i64 l)] [] (fun r H' => r = .sl 0 0 (ln) ∧ H' = [some ⟨32, 1, .arr (ln) (icol .i64 (l))⟩]) := by
  have run : FSpec Try.prog 21 [.rows 1 ln (icol .i64 l)] [] (fun r H' => ∃ x g, (ln = 0 ∧ r = .nil .slice ∧ H' = []) ∨ (r = .sl 1 0 (ln) ∧ H' = [x, some ⟨32, 1, .arr (ln) g⟩] ∧ ∀ i, i < ln → g i = icol .i64 (l) i)) := by
    refine FSpec.of (fn := Try.f21) Try.func21 rfl rfl (by simp) fun C hC => ?_
    obtain ⟨iadd, isub, imul, iquo, irem, iband, ibor, ibxor, ibandn, ishl, ishr, iconv, ieq, ine, ilt, ile, igt, ige, bbeq, bbne, bnot, bband, sseq, ssne, sscat, sssub, sslen, sssz, ssbyte, toN, ofN, addN, subN, eqN, ltB, leN, imx, imn, inb, leb, sslt, ltN, fit, ne0, ge0, ssfit, minN, inR, hS⟩ := names
    refine V.goF (by first | exact trivial | assumption) Try.func21 tl_ok mixed hS.ops [] 400 ?_
    intro VV VA W hVV hVA hW
    conv => cbv
    rw [hVV]
    refine V.isNil tl_ok rfl rfl rfl rfl rfl rfl fun b hb => ?_
    clear hVV hVA VV VA hW W
    refine V.goF (by first | exact trivial | assumption) Try.func21 tl_ok mixed hS.ops [] 400 ?_
    intro VV VA W hVV hVA hW
    conv => cbv
    cases b
    · conv => cbv
      repeat (refine ⟨by first | (rw [hW]; show ordOk _ _ _ = true; kernel_rfl) | (first | trivial | omega | (simp (disch := omega) only [hS.glob, wraps, plain, Int.ofNat_eq_natCast]; first | done | omega | trivial | (simp; done) | (simp; omega) | (constructor <;> omega)) | (simp (disch := omega) only [hS.glob, wraps, plain, Int.ofNat_eq_natCast, Vx.toN]; omega)), ?_⟩)
      have e : addN 0 (ln) = ln := by simp (disch := first | omega | (simp only [hS.glob, wraps, plain, Int.ofNat_eq_natCast]; omega)) only [hS.glob, wraps, plain, Int.ofNat_eq_natCast]; omega
      rw [e]
      refine ⟨_, _, .inr ⟨rfl, rfl, fun i hi => ?_⟩⟩
      simp only [icol]
      cases hr : ltB i 0
      · simp [hS.glob, Vx.subN]
      · simp (disch := first | omega | (simp only [hS.glob, wraps, plain, Int.ofNat_eq_natCast]; omega)) only [hS.glob, wraps, plain, Int.ofNat_eq_natCast] at hr; omega
    · conv => cbv
      exact ⟨none, fun _ => [], .inl ⟨hb rfl, rfl, rfl⟩⟩
  refine FSpec.repick (FSpec.weaken (FSpec.unnil run (Q' := fun r H' => ∃ x, r.bnd H'.length = true ∧ ((ln = 0 ∧ r = .sl 0 0 0 ∧ H' = [some ⟨32, 1, .arr 0 (icol .i64 (l))⟩]) ∨ ∃ g, r = .sl 1 0 (ln) ∧ H' = [x, some ⟨32, 1, .arr (ln) g⟩] ∧ ∀ i, i < ln → g i = icol .i64 (l) i)) ?_) (Q' := fun r H' => (ln = 0 ∧ r = .sl 0 0 0 ∧ H' = [some ⟨32, 1, .arr 0 (icol .i64 (l))⟩]) ∨ (r = .sl 1 0 (ln) ∧ H' = [none, some ⟨32, 1, .arr (ln) (icol .i64 (l))⟩])) ?_) ?_
  · rintro r H' ⟨x, g, ⟨h1, rfl, rfl⟩ | ⟨rfl, rfl, hg⟩⟩
    · exact .inr ⟨rfl, 32, 1, icol .i64 (l), none, rfl, .inl ⟨h1, rfl, rfl⟩⟩
    · exact .inl ⟨x, rfl, .inr ⟨g, rfl, rfl, hg⟩⟩
  · rintro r H' ⟨x, _, ⟨h1, rfl, rfl⟩ | ⟨g, rfl, rfl, hg⟩⟩
    · exact ⟨[some ⟨32, 1, .arr 0 (icol .i64 (l))⟩], ⟨⟨rfl, rfl, ⟨Nat.le_refl _, fun _ _ => rfl⟩, rfl⟩, trivial⟩, rfl, by simp, .inl ⟨h1, rfl, rfl⟩⟩
    · exact ⟨[none, some ⟨32, 1, .arr (ln) (icol .i64 (l))⟩], ⟨⟨rfl, rfl, ⟨Nat.le_refl _, fun i hi => (hg i hi).symm⟩, rfl⟩, trivial⟩, rfl, by simp, .inr ⟨rfl, rfl⟩⟩
  · rintro r H' (⟨h1, rfl, rfl⟩ | ⟨rfl, rfl⟩)
    · exact ⟨[0], by decide, fun k hk => by simp at hk, by rw [h1]; exact ⟨rfl, rfl⟩⟩
    · exact ⟨[1], by decide, fun k hk => by simp at hk, ⟨rfl, rfl⟩⟩
end Go.Proofs.Ytcoanfhjgmndcaa

/- The nearest strong one ahead: a loop over a function. -/
namespace Go.Proofs.Ytcoanfhjgmndcaa
open Go Vx

def aheadL (l : Nat → Int) (first : Int) : Nat → Int
  | 0 => first
  | n + 1 => if strC (l n) = 13 then aheadL l first n else strC (l n)
theorem f48_ok (ln k : Nat) (l : Nat → Int) : FSpec Try.prog 48 [.sl 0 0 k] [some ⟨32, 1, .arr ln (icol .i64 l)⟩] (fun r H' => r = .fn (.func 55) [] [.ptr 1 0 0] ∧ H' = [some ⟨32, 1, .arr ln (icol .i64 l)⟩, some ⟨22, 1, .lit [[.sl 0 0 k]]⟩]) := by
  refine FSpec.of (fn := Try.f48) Try.func48 rfl rfl (by simp) fun C hC => ?_
  obtain ⟨iadd, isub, imul, iquo, irem, iband, ibor, ibxor, ibandn, ishl, ishr, iconv, ieq, ine, ilt, ile, igt, ige, bbeq, bbne, bnot, bband, sseq, ssne, sscat, sssub, sslen, sssz, ssbyte, toN, ofN, addN, subN, eqN, ltB, leN, imx, imn, inb, leb, sslt, ltN, fit, ne0, ge0, ssfit, minN, inR, hS⟩ := names
  refine V.goF (by first | exact trivial | assumption) Try.func48 tl_ok mixed hS.ops [] 400 ?_
  intro VV VA W hVV hVA hW
  conv => cbv
def h32 (ln k : Nat) (l came : Nat → Int) (side first v : Int) : Hp := [some ⟨32, 1, .arr ln (icol .i64 l)⟩, some ⟨59, 4, .lit [[.rows 1 ln (icol .i64 came), .sl 0 0 ln, .int .i64 side, .int .i64 first]]⟩, some ⟨32, 1, .lit [[.int .i64 v]]⟩, some ⟨22, 1, .lit [[.sl 0 0 k]]⟩]
theorem f32_ok1 (ln k : Nat) (hk : k ≤ ln) (hl : ln ≤ 17592186044416) (l came : Nat → Int) (side first R : Int) (hR : R = aheadL l first k) : FSpec Try.prog 32 [.agg [.rows 1 ln (icol .i64 came), .sl 0 0 ln, .int .i64 side, .int .i64 first], .int .i64 k] [some ⟨32, 1, .arr ln (icol .i64 l)⟩] (fun r H' => r = .int .i64 R ∧ ∃ t, H' = some ⟨32, 1, .arr ln (icol .i64 l)⟩ :: t) := by
  obtain ⟨z, hz⟩ : ∃ z : Int, z = k := ⟨_, rfl⟩
  rw [← hz]
  refine FSpec.of (fn := Try.f32) Try.func32 rfl rfl (by simp) fun C hC => ?_
  obtain ⟨iadd, isub, imul, iquo, irem, iband, ibor, ibxor, ibandn, ishl, ishr, iconv, ieq, ine, ilt, ile, igt, ige, bbeq, bbne, bnot, bband, sseq, ssne, sscat, sssub, sslen, sssz, ssbyte, toN, ofN, addN, subN, eqN, ltB, leN, imx, imn, inb, leb, sslt, ltN, fit, ne0, ge0, ssfit, minN, inR, hS⟩ := names
  obtain rfl : z = ofN k := by simp (disch := first | omega | (simp only [hS.glob, wraps, plain, Int.ofNat_eq_natCast]; omega)) only [hS.glob, wraps, plain, Int.ofNat_eq_natCast]; exact hz
  refine V.goF (by first | exact trivial | assumption) Try.func32 tl_ok mixed hS.ops [] 400 ?_
  intro VV VA W hVV hVA hW
  conv => cbv
  repeat (refine ⟨by first | (rw [hW]; show ordOk _ _ _ = true; kernel_rfl) | (first | trivial | omega | (simp (disch := omega) only [hS.glob, wraps, plain, Int.ofNat_eq_natCast]; first | done | omega | trivial | (simp; done) | (simp; omega) | (constructor <;> omega)) | (simp (disch := omega) only [hS.glob, wraps, plain, Int.ofNat_eq_natCast, Vx.toN]; omega)), ?_⟩)
  simp only [hS.tidy]
  rw [hVV]
  clear hVV hVA VV VA hW W
  refine V.call rfl rfl rfl rfl rfl Try.func48 rfl (by decide) [0] (by decide) (all_lt (by rfl)) (by (first | rfl | ((conv => cbv); (repeat' apply And.intro) <;> first | rfl | trivial | (first | rfl | omega | (simp (disch := omega) only [hS.glob, wraps, plain, Int.ofNat_eq_natCast]; first | done | rfl | omega | (simp; done) | (simp; omega)) | (simp (disch := omega) only [hS.glob, wraps, plain, Int.ofNat_eq_natCast, Vx.toN]; omega))))) (by rfl) (f48_ok ln k l) ?_
  rintro r Hc ⟨rfl, rfl⟩
  refine V.goF (by first | exact trivial | assumption) Try.func32 tl_ok mixed hS.ops [] 400 ?_
  intro VV VA W hVV hVA hW
  conv => cbv
  rw [hVV]
  clear hVV hVA VV VA hW W
  refine V.rangeFunc (.inl rfl) (g := 55) (gfn := Try.f55) rfl Try.func55 rfl rfl (by decide) rfl rfl (QN := fun H' => R = first ∧ H' = (h32 ln k l came side first 0)) (QS := fun j H' => j = some .ret ∧ H' = (h32 ln k l came side first R)) ?_ ?_ ?_ ?_
  · intro C' lp hC' it
    refine V.goF (by first | exact trivial | assumption) Try.func55 tl_ok mixed hS.ops [] 400 ?_
    intro VV VA W hVV hVA hW
    conv => cbv
    obtain ⟨zf, hzf⟩ : ∃ zf : Nat → Int, ∀ n, zf n = n - 1 := ⟨_, fun _ => rfl⟩
    have ek : isub .i64 (ofN k) 1 = zf k := by rw [hzf]; simp (disch := first | omega | (simp only [hS.glob, wraps, plain, Int.ofNat_eq_natCast]; omega)) only [hS.glob, wraps, plain, Int.ofNat_eq_natCast]
    rw [ek, hVV]
    clear hVV hVA VV VA hW W ek
    have h0 := hR
    refine V.to (s' := [(3, .int .i64 (zf k)), (0, .fn (.yield lp) [] []), (1, .ptr 3 0 0)]) (H' := (h32 ln k l came side first 0)) ?_ (by (repeat' first | exact trivial | rfl | (refine And.intro ?_ ?_) | (refine sti ?_; (first | rfl | omega | (simp (disch := omega) only [hS.glob, wraps, plain, Int.ofNat_eq_natCast]; first | done | rfl | omega | (simp; done) | (simp; omega)) | (simp (disch := omega) only [hS.glob, wraps, plain, Int.ofNat_eq_natCast, Vx.toN]; omega))) | (refine slq ?_ ?_ ?_ <;> (first | rfl | omega | (simp (disch := omega) only [hS.glob, wraps, plain, Int.ofNat_eq_natCast]; first | done | rfl | omega | (simp; done) | (simp; omega)) | (simp (disch := omega) only [hS.glob, wraps, plain, Int.ofNat_eq_natCast, Vx.toN]; omega))) | (refine ptq ?_ ?_ ?_ <;> (first | rfl | omega | (simp (disch := omega) only [hS.glob, wraps, plain, Int.ofNat_eq_natCast]; first | done | rfl | omega | (simp; done) | (simp; omega)) | (simp (disch := omega) only [hS.glob, wraps, plain, Int.ofNat_eq_natCast, Vx.toN]; omega))) | (refine blq ?_; (first | rfl | omega | (simp (disch := omega) only [hS.glob, wraps, plain, Int.ofNat_eq_natCast]; first | done | rfl | omega | (simp; done) | (simp; omega)) | (simp (disch := omega) only [hS.glob, wraps, plain, Int.ofNat_eq_natCast, Vx.toN]; omega))))) rfl (by (repeat' first | exact trivial | rfl | exact Nat.le_refl _ | exact (fun _ _ => rfl) | (refine And.intro ?_ ?_) | (simp only [hS.glob, plain]; first | done | omega))) (by rw [hC']; exact Nat.le_refl _)
    refine V.loop (γ := Nat) (fun n => n ≤ k ∧ R = aheadL l first n) (fun n => [(3, .int .i64 (zf n)), (0, .fn (.yield lp) [] []), (1, .ptr 3 0 0)]) (fun _ => (h32 ln k l came side first 0)) (fun n => n) ?_ k ⟨Nat.le_refl _, hR⟩
    rintro n ⟨hn, hRn⟩ hback
    clear h0 hR
    refine V.goF (by first | exact trivial | assumption) Try.func55 tl_ok mixed hS.ops [] 400 ?_
    intro VV VA W hVV hVA hW
    conv => cbv
    cases h1 : ige (zf n) 0
    · conv => cbv
      simp (disch := first | omega | (simp only [hS.glob, wraps, plain, Int.ofNat_eq_natCast]; omega)) only [hS.glob, wraps, plain, Int.ofNat_eq_natCast] at h1
      have := hzf n
      obtain rfl : n = 0 := by omega
      exact ⟨hRn, trivial⟩
    · conv => cbv
      simp (disch := first | omega | (simp only [hS.glob, wraps, plain, Int.ofNat_eq_natCast]; omega)) only [hS.glob, wraps, plain, Int.ofNat_eq_natCast] at h1
      have hz1 := hzf n
      obtain ⟨d, rfl⟩ : ∃ d, n = d + 1 := ⟨n - 1, by omega⟩
      have ez : zf (d + 1) = ofN d := by simp (disch := first | omega | (simp only [hS.glob, wraps, plain, Int.ofNat_eq_natCast]; omega)) only [hS.glob, wraps, plain, Int.ofNat_eq_natCast]; rw [hz1]; omega
      simp only [ez]
      repeat (refine ⟨by first | (rw [hW]; show ordOk _ _ _ = true; kernel_rfl) | (first | trivial | omega | (simp (disch := omega) only [hS.glob, wraps, plain, Int.ofNat_eq_natCast]; first | done | omega | trivial | (simp; done) | (simp; omega) | (constructor <;> omega)) | (simp (disch := omega) only [hS.glob, wraps, plain, Int.ofNat_eq_natCast, Vx.toN]; omega)), ?_⟩)
      simp only [hS.tidy]
      obtain ⟨c, hc⟩ : ∃ c, c = strC (l d) := ⟨_, rfl⟩
      rw [hVV]
      clear hVV hVA VV VA hW W
      obtain ⟨QR, hQR⟩ : ∃ QR : Option Code → Hp → Prop, QR = fun j H' => (j = none ∧ c = 13 ∧ H' = (h32 ln k l came side first 0)) ∨ (j = some .ret ∧ c ≠ 13 ∧ H' = (h32 ln k l came side first c)) := ⟨_, rfl⟩
      refine V.yield it rfl rfl rfl rfl rfl rfl rfl rfl (QR := QR) ?_ ?_ ?_
      · clear it hback
        intro C2 hC2 hR2
        have hfit := hR2.fits QR
        refine V.goF (by first | exact trivial | assumption) Try.func32 tl_ok mixed hS.ops [] 400 ?_
        intro VV VA W hVV hVA hW
        conv => cbv
        rw [hVV]
        clear hVV hVA VV VA hW W
        refine V.beginRound hR2 fun C3 hC3 hfit3 => ?_
        refine V.goF (by first | exact trivial | assumption) Try.func32 tl_ok mixed hS.ops [] 400 ?_
        intro VV VA W hVV hVA hW
        conv => cbv
        rw [hVV]
        clear hVV hVA VV VA hW W
        refine V.call rfl rfl rfl rfl rfl Try.func47 rfl (by decide) [] (by simp) (by simp) (by (first | rfl | ((conv => cbv); (repeat' apply And.intro) <;> first | rfl | trivial | (first | rfl | omega | (simp (disch := omega) only [hS.glob, wraps, plain, Int.ofNat_eq_natCast]; first | done | rfl | omega | (simp; done) | (simp; omega)) | (simp (disch := omega) only [hS.glob, wraps, plain, Int.ofNat_eq_natCast, Vx.toN]; omega))))) rfl (f47_ok (l d) c hc) ?_
        rintro r Hc ⟨rfl, rfl⟩
        refine V.goF (by first | exact trivial | assumption) Try.func32 tl_ok mixed hS.ops [] 400 ?_
        intro VV VA W hVV hVA hW
        conv => cbv
        cases h2 : ine c 13
        · conv => cbv
          simp (disch := first | omega | (simp only [hS.glob, wraps, plain, Int.ofNat_eq_natCast]; omega)) only [hS.glob, wraps, plain, Int.ofNat_eq_natCast] at h2
          rw [hQR]
          exact .inl ⟨rfl, h2, rfl⟩
        · conv => cbv
          simp (disch := first | omega | (simp only [hS.glob, wraps, plain, Int.ofNat_eq_natCast]; omega)) only [hS.glob, wraps, plain, Int.ofNat_eq_natCast] at h2
          rw [hQR]
          exact .inr ⟨rfl, h2, rfl⟩
      · rw [hQR]
        rintro H' (⟨_, hc13, rfl⟩ | ⟨h, _⟩)
        · refine V.goF (by first | exact trivial | assumption) Try.func55 tl_ok mixed hS.ops [] 400 ?_
          intro VV VA W hVV hVA hW
          conv => cbv
          have ez2 : isub .i64 (ofN d) 1 = zf d := by rw [hzf]; simp (disch := first | omega | (simp only [hS.glob, wraps, plain, Int.ofNat_eq_natCast]; omega)) only [hS.glob, wraps, plain, Int.ofNat_eq_natCast]
          simp only [ez2]
          rw [hVV]
          clear hVV hVA VV VA hW W
          exact V.to (hback d ⟨by omega, by rw [hRn, aheadL, if_pos (by rw [← hc]; exact hc13)]⟩ (by omega)) (by (repeat' first | exact trivial | rfl | (refine And.intro ?_ ?_) | (refine sti ?_; (first | rfl | omega | (simp (disch := omega) only [hS.glob, wraps, plain, Int.ofNat_eq_natCast]; first | done | rfl | omega | (simp; done) | (simp; omega)) | (simp (disch := omega) only [hS.glob, wraps, plain, Int.ofNat_eq_natCast, Vx.toN]; omega))) | (refine slq ?_ ?_ ?_ <;> (first | rfl | omega | (simp (disch := omega) only [hS.glob, wraps, plain, Int.ofNat_eq_natCast]; first | done | rfl | omega | (simp; done) | (simp; omega)) | (simp (disch := omega) only [hS.glob, wraps, plain, Int.ofNat_eq_natCast, Vx.toN]; omega))) | (refine ptq ?_ ?_ ?_ <;> (first | rfl | omega | (simp (disch := omega) only [hS.glob, wraps, plain, Int.ofNat_eq_natCast]; first | done | rfl | omega | (simp; done) | (simp; omega)) | (simp (disch := omega) only [hS.glob, wraps, plain, Int.ofNat_eq_natCast, Vx.toN]; omega))) | (refine blq ?_; (first | rfl | omega | (simp (disch := omega) only [hS.glob, wraps, plain, Int.ofNat_eq_natCast]; first | done | rfl | omega | (simp; done) | (simp; omega)) | (simp (disch := omega) only [hS.glob, wraps, plain, Int.ofNat_eq_natCast, Vx.toN]; omega))))) rfl (by (repeat' first | exact trivial | rfl | exact Nat.le_refl _ | exact (fun _ _ => rfl) | (refine And.intro ?_ ?_) | (simp only [hS.glob, plain]; first | done | omega))) (by rw [hC']; exact Nat.le_refl _)
        · cases h
      · rw [hQR]
        rintro j H' (⟨h, _⟩ | ⟨hj, hc13, rfl⟩) C2 hC2
        · cases h
        · have e : R = c := by rw [hRn, aheadL, if_neg (by rw [← hc]; exact hc13), hc]
          refine V.goF (by first | exact trivial | assumption) Try.func55 tl_ok mixed hS.ops [] 400 ?_
          intro VV VA W hVV hVA hW
          conv => cbv
          exact ⟨hj, by rw [e]⟩
  · rintro H' ⟨hRf, rfl⟩ C2 hC2
    refine V.goF (by first | exact trivial | assumption) Try.func32 tl_ok mixed hS.ops [] 400 ?_
    intro VV VA W hVV hVA hW
    conv => cbv
    exact ⟨by rw [hRf], _, rfl⟩
  · rintro j H' ⟨hj, rfl⟩ C2 hC2
    injection hj with hj
    subst hj
    refine V.goF (by first | exact trivial | assumption) Try.func32 tl_ok mixed hS.ops [] 400 ?_
    intro VV VA W hVV hVA hW
    conv => cbv
    exact ⟨_, rfl⟩
  · rintro H' ⟨h, _⟩
    cases h
theorem f32_ok (ln k : Nat) (hk : k ≤ ln) (hl : ln ≤ 17592186044416) (l came : Nat → Int) (side first R : Int) (hR : R = aheadL l first k) : FSpec Try.prog 32 [.agg [.rows 1 ln (icol .i64 came), .sl 0 0 ln, .int .i64 side, .int .i64 first], .int .i64 k] [some ⟨32, 1, .arr ln (icol .i64 l)⟩] (fun r H' => r = .int .i64 R ∧ H' = [some ⟨32, 1, .arr ln (icol .i64 l)⟩]) := by
  refine (f32_ok1 ln k hk hl l came side first R hR).weaken ?_
  rintro r H' ⟨rfl, t, rfl⟩
  exact ⟨[some ⟨32, 1, .arr ln (icol .i64 l)⟩], by simp [heapCov, ContLe, bndOb], rfl, Nat.le_refl _, rfl, rfl⟩
end Go.Proofs.Ytcoanfhjgmndcaa

/- Is a strong one of a side among some places? -/
namespace Go.Proofs.Ytcoanfhjgmndcaa
open Go Vx

theorem f46_ok (c side : Int) (R : Bool) (hR : R = decide (strC c = side)) : FSpec Try.prog 46 [.int .i64 c, .ptr 0 0 0] [some ⟨32, 1, .lit [[.int .i64 side]]⟩] (fun r H' => r = .bool R ∧ H' = [some ⟨32, 1, .lit [[.int .i64 side]]⟩]) := by
  obtain ⟨s, hs⟩ : ∃ s, s = strC c := ⟨_, rfl⟩
  rw [← hs] at hR
  refine FSpec.of (fn := Try.f46) Try.func46 rfl rfl (by simp) fun C hC => ?_
  obtain ⟨iadd, isub, imul, iquo, irem, iband, ibor, ibxor, ibandn, ishl, ishr, iconv, ieq, ine, ilt, ile, igt, ige, bbeq, bbne, bnot, bband, sseq, ssne, sscat, sssub, sslen, sssz, ssbyte, toN, ofN, addN, subN, eqN, ltB, leN, imx, imn, inb, leb, sslt, ltN, fit, ne0, ge0, ssfit, minN, inR, hS⟩ := names
  refine V.goF (by first | exact trivial | assumption) Try.func46 tl_ok mixed hS.ops [(1, .one 0 .none (.alt 1 (.one 2 .none (.one 3 .none (.one 4 .none .done))) (.alt 2 (.one 1 .none (.one 3 .none (.one 4 .none .done))) .none)))] 400 ?_
  intro VV VA W hVV hVA hW
  conv => cbv
  refine ⟨by rw [hW]; show ordOk _ _ _ = true; kernel_rfl, ?_⟩
  refine ⟨?_, ?_, trivial⟩
  · rw [hVA]
    clear hVV hVA VV VA hW W
    refine AnyT.call rfl rfl rfl rfl rfl Try.func47 rfl (by decide) [] (by simp) (by simp) (by (first | rfl | ((conv => cbv); (repeat' apply And.intro) <;> first | rfl | trivial | (first | rfl | omega | (simp (disch := omega) only [hS.glob, wraps, plain, Int.ofNat_eq_natCast]; first | done | rfl | omega | (simp; done) | (simp; omega)) | (simp (disch := omega) only [hS.glob, wraps, plain, Int.ofNat_eq_natCast, Vx.toN]; omega))))) rfl (f47_ok c s hs) ?_
    rintro r Hc ⟨rfl, rfl⟩
    refine AnyT.goF (by first | exact trivial | assumption) Try.func46 tl_ok mixed hS.ops [] 400 ?_
    intro VV VA W hVV hVA hW
    conv => cbv
    refine ⟨blq ?_, by trivial⟩
    subst hR
    cases h : ieq s side <;> simp (disch := first | omega | (simp only [hS.glob, wraps, plain, Int.ofNat_eq_natCast]; omega)) only [hS.glob, wraps, plain, Int.ofNat_eq_natCast] at h <;> simp [h]
  · rw [hVA]
    clear hVV hVA VV VA hW W
    refine AnyT.call rfl rfl rfl rfl rfl Try.func47 rfl (by decide) [] (by simp) (by simp) (by (first | rfl | ((conv => cbv); (repeat' apply And.intro) <;> first | rfl | trivial | (first | rfl | omega | (simp (disch := omega) only [hS.glob, wraps, plain, Int.ofNat_eq_natCast]; first | done | rfl | omega | (simp; done) | (simp; omega)) | (simp (disch := omega) only [hS.glob, wraps, plain, Int.ofNat_eq_natCast, Vx.toN]; omega))))) rfl (f47_ok c s hs) ?_
    rintro r Hc ⟨rfl, rfl⟩
    refine AnyT.goF (by first | exact trivial | assumption) Try.func46 tl_ok mixed hS.ops [] 400 ?_
    intro VV VA W hVV hVA hW
    conv => cbv
    refine ⟨blq ?_, by trivial⟩
    subst hR
    cases h : ieq s side <;> simp (disch := first | omega | (simp only [hS.glob, wraps, plain, Int.ofNat_eq_natCast]; omega)) only [hS.glob, wraps, plain, Int.ofNat_eq_natCast] at h <;> simp [h]
/-- The first place of a side, or -1. -/
theorem f54_ok (ln i n : Nat) (l : Nat → Int) (side : Int) (hl : ln ≤ 17592186044416) (hn : i + n ≤ ln) : FSpec Try.prog 54 [.sl 0 i n, .fn (.func 46) [] [.ptr 1 0 0]] [some ⟨32, 1, .arr ln (icol .i64 l)⟩, some ⟨32, 1, .lit [[.int .i64 side]]⟩] (fun r H' => ∃ z, r = .int .i64 z ∧ H' = [some ⟨32, 1, .arr ln (icol .i64 l)⟩, some ⟨32, 1, .lit [[.int .i64 side]]⟩] ∧ ((0 ≤ z ∧ ∃ j, j < n ∧ strC (l (i + j)) = side) ∨ (z = -1 ∧ ∀ j, j < n → strC (l (i + j)) ≠ side))) := by
  obtain ⟨Q, hQ⟩ : ∃ Q : AV → Hp → Prop, Q = (fun r H' => ∃ z, r = .int .i64 z ∧ H' = [some ⟨32, 1, .arr ln (icol .i64 l)⟩, some ⟨32, 1, .lit [[.int .i64 side]]⟩] ∧ ((0 ≤ z ∧ ∃ j, j < n ∧ strC (l (i + j)) = side) ∨ (z = -1 ∧ ∀ j, j < n → strC (l (i + j)) ≠ side))) := ⟨_, rfl⟩
  rw [← hQ]
  refine FSpec.of (fn := Try.f54) Try.func54 rfl rfl (by simp) fun C hC => ?_
  obtain ⟨iadd, isub, imul, iquo, irem, iband, ibor, ibxor, ibandn, ishl, ishr, iconv, ieq, ine, ilt, ile, igt, ige, bbeq, bbne, bnot, bband, sseq, ssne, sscat, sssub, sslen, sssz, ssbyte, toN, ofN, addN, subN, eqN, ltB, leN, imx, imn, inb, leb, sslt, ltN, fit, ne0, ge0, ssfit, minN, inR, hS⟩ := names
  refine V.goF (by first | exact trivial | assumption) Try.func54 tl_ok mixed hS.ops [] 400 ?_
  intro VV VA W hVV hVA hW
  conv => cbv
  rw [hVV]
  clear hVV hVA VV VA hW W
  refine V.to (s' := [(8, .int .i64 (ofN 0)), (7, .int .i64 (ofN n)), (0, .sl 0 i n), (1, .fn (.func 46) [] [.ptr 1 0 0])]) (H' := [some ⟨32, 1, .arr ln (icol .i64 l)⟩, some ⟨32, 1, .lit [[.int .i64 side]]⟩]) ?_ (by (repeat' first | exact trivial | rfl | (refine And.intro ?_ ?_) | (refine sti ?_; (first | rfl | omega | (simp (disch := omega) only [hS.glob, wraps, plain, Int.ofNat_eq_natCast]; first | done | rfl | omega | (simp; done) | (simp; omega)) | (simp (disch := omega) only [hS.glob, wraps, plain, Int.ofNat_eq_natCast, Vx.toN]; omega))) | (refine slq ?_ ?_ ?_ <;> (first | rfl | omega | (simp (disch := omega) only [hS.glob, wraps, plain, Int.ofNat_eq_natCast]; first | done | rfl | omega | (simp; done) | (simp; omega)) | (simp (disch := omega) only [hS.glob, wraps, plain, Int.ofNat_eq_natCast, Vx.toN]; omega))) | (refine ptq ?_ ?_ ?_ <;> (first | rfl | omega | (simp (disch := omega) only [hS.glob, wraps, plain, Int.ofNat_eq_natCast]; first | done | rfl | omega | (simp; done) | (simp; omega)) | (simp (disch := omega) only [hS.glob, wraps, plain, Int.ofNat_eq_natCast, Vx.toN]; omega))) | (refine blq ?_; (first | rfl | omega | (simp (disch := omega) only [hS.glob, wraps, plain, Int.ofNat_eq_natCast]; first | done | rfl | omega | (simp; done) | (simp; omega)) | (simp (disch := omega) only [hS.glob, wraps, plain, Int.ofNat_eq_natCast, Vx.toN]; omega))))) rfl (by (repeat' first | exact trivial | rfl | exact Nat.le_refl _ | exact (fun _ _ => rfl) | (refine And.intro ?_ ?_) | (simp only [hS.glob, plain]; first | done | omega))) (by rw [hC]; exact Nat.le_refl _)
  refine V.loop (γ := Nat) (fun j => j ≤ n ∧ ∀ q, q < j → strC (l (i + q)) ≠ side) (fun j => [(8, .int .i64 (ofN j)), (7, .int .i64 (ofN n)), (0, .sl 0 i n), (1, .fn (.func 46) [] [.ptr 1 0 0])]) (fun _ => [some ⟨32, 1, .arr ln (icol .i64 l)⟩, some ⟨32, 1, .lit [[.int .i64 side]]⟩]) (fun j => n - j) ?_ 0 ⟨Nat.zero_le _, fun q hq => by omega⟩
  rintro j ⟨hj, hq⟩ hback
  refine V.goF (by first | exact trivial | assumption) Try.func54 tl_ok mixed hS.ops [] 400 ?_
  intro VV VA W hVV hVA hW
  conv => cbv
  cases h1 : ilt (ofN j) (ofN n)
  · conv => cbv
    simp (disch := first | omega | (simp only [hS.glob, wraps, plain, Int.ofNat_eq_natCast]; omega)) only [hS.glob, wraps, plain, Int.ofNat_eq_natCast] at h1
    obtain rfl : j = n := by omega
    rw [hQ]
    exact ⟨-1, rfl, rfl, .inr ⟨rfl, hq⟩⟩
  · conv => cbv
    simp (disch := first | omega | (simp only [hS.glob, wraps, plain, Int.ofNat_eq_natCast]; omega)) only [hS.glob, wraps, plain, Int.ofNat_eq_natCast] at h1
    repeat (refine ⟨by first | (rw [hW]; show ordOk _ _ _ = true; kernel_rfl) | (first | trivial | omega | (simp (disch := omega) only [hS.glob, wraps, plain, Int.ofNat_eq_natCast]; first | done | omega | trivial | (simp; done) | (simp; omega) | (constructor <;> omega)) | (simp (disch := omega) only [hS.glob, wraps, plain, Int.ofNat_eq_natCast, Vx.toN]; omega)), ?_⟩)
    simp only [hS.tidy]
    obtain ⟨p, hp⟩ : ∃ p, p = i + j := ⟨_, rfl⟩
    have e1 : addN i j = p := by simp (disch := first | omega | (simp only [hS.glob, wraps, plain, Int.ofNat_eq_natCast]; omega)) only [hS.glob, wraps, plain, Int.ofNat_eq_natCast]; exact hp.symm
    simp only [e1]
    obtain ⟨B, hB⟩ : ∃ B, B = decide (strC (l p) = side) := ⟨_, rfl⟩
    rw [hVV]
    clear hVV hVA VV VA hW W
    refine V.call rfl rfl rfl rfl rfl Try.func46 rfl (by decide) [1] (by decide) (all_lt (by rfl)) (by (first | rfl | ((conv => cbv); (repeat' apply And.intro) <;> first | rfl | trivial | (first | rfl | omega | (simp (disch := omega) only [hS.glob, wraps, plain, Int.ofNat_eq_natCast]; first | done | rfl | omega | (simp; done) | (simp; omega)) | (simp (disch := omega) only [hS.glob, wraps, plain, Int.ofNat_eq_natCast, Vx.toN]; omega))))) (by rfl) (f46_ok (l p) side B hB) ?_
    rintro r Hc ⟨rfl, rfl⟩
    refine V.goF (by first | exact trivial | assumption) Try.func54 tl_ok mixed hS.ops [] 400 ?_
    intro VV VA W hVV hVA hW
    conv => cbv
    cases B
    · conv => cbv
      rw [hVV]
      clear hVV hVA VV VA hW W
      refine V.to (hback (j + 1) ⟨by omega, fun q h => ?_⟩ (by omega)) (by (repeat' first | exact trivial | rfl | (refine And.intro ?_ ?_) | (refine sti ?_; (first | rfl | omega | (simp (disch := omega) only [hS.glob, wraps, plain, Int.ofNat_eq_natCast]; first | done | rfl | omega | (simp; done) | (simp; omega)) | (simp (disch := omega) only [hS.glob, wraps, plain, Int.ofNat_eq_natCast, Vx.toN]; omega))) | (refine slq ?_ ?_ ?_ <;> (first | rfl | omega | (simp (disch := omega) only [hS.glob, wraps, plain, Int.ofNat_eq_natCast]; first | done | rfl | omega | (simp; done) | (simp; omega)) | (simp (disch := omega) only [hS.glob, wraps, plain, Int.ofNat_eq_natCast, Vx.toN]; omega))) | (refine ptq ?_ ?_ ?_ <;> (first | rfl | omega | (simp (disch := omega) only [hS.glob, wraps, plain, Int.ofNat_eq_natCast]; first | done | rfl | omega | (simp; done) | (simp; omega)) | (simp (disch := omega) only [hS.glob, wraps, plain, Int.ofNat_eq_natCast, Vx.toN]; omega))) | (refine blq ?_; (first | rfl | omega | (simp (disch := omega) only [hS.glob, wraps, plain, Int.ofNat_eq_natCast]; first | done | rfl | omega | (simp; done) | (simp; omega)) | (simp (disch := omega) only [hS.glob, wraps, plain, Int.ofNat_eq_natCast, Vx.toN]; omega))))) rfl (by (repeat' first | exact trivial | rfl | exact Nat.le_refl _ | exact (fun _ _ => rfl) | (refine And.intro ?_ ?_) | (simp only [hS.glob, plain]; first | done | omega))) (by rw [hC]; exact Nat.le_refl _)
      rcases Nat.lt_succ_iff_lt_or_eq.1 h with h | rfl
      · exact hq q h
      · have := hB.symm
        simpa [hp] using this
    · conv => cbv
      rw [hQ]
      refine ⟨_, rfl, rfl, .inl ⟨by simp (disch := first | omega | (simp only [hS.glob, wraps, plain, Int.ofNat_eq_natCast]; omega)) only [hS.glob, wraps, plain, Int.ofNat_eq_natCast]; omega, j, by omega, ?_⟩⟩
      have := hB.symm
      simpa [hp] using this
def hasL (l : Nat → Int) (i n : Nat) (side : Int) : Prop := ∃ j, j < n ∧ strC (l (i + j)) = side
theorem f45_ok (ln i n : Nat) (l : Nat → Int) (side : Int) (hl : ln ≤ 17592186044416) (hn : i + n ≤ ln) (R : Bool) (hR : R = true ↔ hasL l i n side) : FSpec Try.prog 45 [.sl 0 i n, .fn (.func 46) [] [.ptr 1 0 0]] [some ⟨32, 1, .arr ln (icol .i64 l)⟩, some ⟨32, 1, .lit [[.int .i64 side]]⟩] (fun r H' => r = .bool R ∧ H' = [some ⟨32, 1, .arr ln (icol .i64 l)⟩, some ⟨32, 1, .lit [[.int .i64 side]]⟩]) := by
  refine FSpec.of (fn := Try.f45) Try.func45 rfl rfl (by simp) fun C hC => ?_
  obtain ⟨iadd, isub, imul, iquo, irem, iband, ibor, ibxor, ibandn, ishl, ishr, iconv, ieq, ine, ilt, ile, igt, ige, bbeq, bbne, bnot, bband, sseq, ssne, sscat, sssub, sslen, sssz, ssbyte, toN, ofN, addN, subN, eqN, ltB, leN, imx, imn, inb, leb, sslt, ltN, fit, ne0, ge0, ssfit, minN, inR, hS⟩ := names
  refine V.goF (by first | exact trivial | assumption) Try.func45 tl_ok mixed hS.ops [] 400 ?_
  intro VV VA W hVV hVA hW
  conv => cbv
  rw [hVV]
  clear hVV hVA VV VA hW W
  refine V.call rfl rfl rfl rfl rfl Try.func54 rfl (by decide) [0, 1] (by decide) (all_lt (by rfl)) (by (first | rfl | ((conv => cbv); (repeat' apply And.intro) <;> first | rfl | trivial | (first | rfl | omega | (simp (disch := omega) only [hS.glob, wraps, plain, Int.ofNat_eq_natCast]; first | done | rfl | omega | (simp; done) | (simp; omega)) | (simp (disch := omega) only [hS.glob, wraps, plain, Int.ofNat_eq_natCast, Vx.toN]; omega))))) (by rfl) (f54_ok ln i n l side hl hn) ?_
  rintro r Hc ⟨z, rfl, rfl, h⟩
  refine V.goF (by first | exact trivial | assumption) Try.func45 tl_ok mixed hS.ops [] 400 ?_
  intro VV VA W hVV hVA hW
  conv => cbv
  refine ⟨blq ?_, by trivial⟩
  rcases h with ⟨h0, hx⟩ | ⟨rfl, hx⟩
  · rw [hR.2 hx]
    simp (disch := first | omega | (simp only [hS.glob, wraps, plain, Int.ofNat_eq_natCast]; omega)) only [hS.glob, wraps, plain, Int.ofNat_eq_natCast]
    exact h0
  · cases R with
    | false => simp (disch := first | omega | (simp only [hS.glob, wraps, plain, Int.ofNat_eq_natCast]; omega)) only [hS.glob, wraps, plain, Int.ofNat_eq_natCast]; omega
    | true => obtain ⟨j, hj, h⟩ := hR.1 rfl; exact absurd h (hx j hj)
theorem f30_ok1 (ln i k : Nat) (l came : Nat → Int) (side first sd : Int) (hl : ln ≤ 17592186044416) (hi : i ≤ k) (hk : k ≤ ln) (R : Bool) (hR : R = true ↔ hasL l i (k - i) sd) : FSpec Try.prog 30 [.agg [.rows 1 ln (icol .i64 came), .sl 0 0 ln, .int .i64 side, .int .i64 first], .int .i64 i, .int .i64 k, .int .i64 sd] [some ⟨32, 1, .arr ln (icol .i64 l)⟩] (fun r H' => r = .bool R ∧ ∃ t, H' = some ⟨32, 1, .arr ln (icol .i64 l)⟩ :: t) := by
  obtain ⟨z, hz⟩ : ∃ z : Int, z = i := ⟨_, rfl⟩
  obtain ⟨y, hy⟩ : ∃ y : Int, y = k := ⟨_, rfl⟩
  rw [← hz, ← hy]
  obtain ⟨n, hn⟩ : ∃ n, n = k - i := ⟨_, rfl⟩
  rw [← hn] at hR
  refine FSpec.of (fn := Try.f30) Try.func30 rfl rfl (by simp) fun C hC => ?_
  obtain ⟨iadd, isub, imul, iquo, irem, iband, ibor, ibxor, ibandn, ishl, ishr, iconv, ieq, ine, ilt, ile, igt, ige, bbeq, bbne, bnot, bband, sseq, ssne, sscat, sssub, sslen, sssz, ssbyte, toN, ofN, addN, subN, eqN, ltB, leN, imx, imn, inb, leb, sslt, ltN, fit, ne0, ge0, ssfit, minN, inR, hS⟩ := names
  obtain rfl : z = ofN i := by simp (disch := first | omega | (simp only [hS.glob, wraps, plain, Int.ofNat_eq_natCast]; omega)) only [hS.glob, wraps, plain, Int.ofNat_eq_natCast]; exact hz
  obtain rfl : y = ofN k := by simp (disch := first | omega | (simp only [hS.glob, wraps, plain, Int.ofNat_eq_natCast]; omega)) only [hS.glob, wraps, plain, Int.ofNat_eq_natCast]; exact hy
  refine V.goF (by first | exact trivial | assumption) Try.func30 tl_ok mixed hS.ops [] 400 ?_
  intro VV VA W hVV hVA hW
  conv => cbv
  repeat (refine ⟨by first | (rw [hW]; show ordOk _ _ _ = true; kernel_rfl) | (first | trivial | omega | (simp (disch := omega) only [hS.glob, wraps, plain, Int.ofNat_eq_natCast]; first | done | omega | trivial | (simp; done) | (simp; omega) | (constructor <;> omega)) | (simp (disch := omega) only [hS.glob, wraps, plain, Int.ofNat_eq_natCast, Vx.toN]; omega)), ?_⟩)
  simp only [hS.tidy]
  have e1 : subN k i = n := by simp (disch := first | omega | (simp only [hS.glob, wraps, plain, Int.ofNat_eq_natCast]; omega)) only [hS.glob, wraps, plain, Int.ofNat_eq_natCast]; exact hn.symm
  have e2 : addN 0 i = i := by (first | rfl | omega | (simp (disch := omega) only [hS.glob, wraps, plain, Int.ofNat_eq_natCast]; first | done | rfl | omega | (simp; done) | (simp; omega)) | (simp (disch := omega) only [hS.glob, wraps, plain, Int.ofNat_eq_natCast, Vx.toN]; omega))
  simp only [e1, e2]
  rw [hVV]
  clear hVV hVA VV VA hW W
  refine V.call rfl rfl rfl rfl rfl Try.func45 rfl (by decide) [0, 2] (by decide) (all_lt (by rfl)) (by (first | rfl | ((conv => cbv); (repeat' apply And.intro) <;> first | rfl | trivial | (first | rfl | omega | (simp (disch := omega) only [hS.glob, wraps, plain, Int.ofNat_eq_natCast]; first | done | rfl | omega | (simp; done) | (simp; omega)) | (simp (disch := omega) only [hS.glob, wraps, plain, Int.ofNat_eq_natCast, Vx.toN]; omega))))) (by rfl) (f45_ok ln i n l sd hl (by omega) R hR) ?_
  rintro r Hc ⟨rfl, rfl⟩
  refine V.goF (by first | exact trivial | assumption) Try.func30 tl_ok mixed hS.ops [] 400 ?_
  intro VV VA W hVV hVA hW
  conv => cbv
  exact ⟨_, rfl⟩
theorem f30_ok (ln i k : Nat) (l came : Nat → Int) (side first sd : Int) (hl : ln ≤ 17592186044416) (hi : i ≤ k) (hk : k ≤ ln) (R : Bool) (hR : R = true ↔ hasL l i (k - i) sd) : FSpec Try.prog 30 [.agg [.rows 1 ln (icol .i64 came), .sl 0 0 ln, .int .i64 side, .int .i64 first], .int .i64 i, .int .i64 k, .int .i64 sd] [some ⟨32, 1, .arr ln (icol .i64 l)⟩] (fun r H' => r = .bool R ∧ H' = [some ⟨32, 1, .arr ln (icol .i64 l)⟩]) := by
  refine (f30_ok1 ln i k l came side first sd hl hi hk R hR).weaken ?_
  rintro r H' ⟨rfl, t, rfl⟩
  exact ⟨[some ⟨32, 1, .arr ln (icol .i64 l)⟩], by simp [heapCov, ContLe, bndOb], rfl, Nat.le_refl _, rfl, rfl⟩
end Go.Proofs.Ytcoanfhjgmndcaa

/- A place and the marks behind it become a side. -/
namespace Go.Proofs.Ytcoanfhjgmndcaa
open Go Vx

/-- The places that become so. -/
def inSet (came : Nat → Int) (a j : Nat) : Prop := j = a ∨ (a < j ∧ ∀ q, a < q → q ≤ j → came q = 8)
open Classical in
noncomputable def setF (came l : Nat → Int) (a : Nat) (v : Int) : Nat → Int := fun j => if inSet came a j then v else l j
theorem setF_end (came l : Nat → Int) (a i ln : Nat) (v : Int) (ha : a < i) (hm : ∀ q, a < q → q < i → came q = 8) (hend : i = ln ∨ came i ≠ 8) : ∀ j, j < ln → setF came l a v j = if a ≤ j ∧ j < i then v else l j := by
  intro j hj
  unfold setF inSet
  by_cases h : a ≤ j ∧ j < i
  · rw [if_pos h, if_pos]
    by_cases e : j = a
    · exact .inl e
    · exact .inr ⟨by omega, fun q h1 h2 => hm q h1 (by omega)⟩
  · rw [if_neg h, if_neg]
    rintro (rfl | ⟨h1, h2⟩)
    · omega
    · rcases hend with rfl | h3
      · omega
      · exact h3 (h2 i ha (by omega))
theorem leafS {eqN : Nat → Nat → Bool} (he : eqN = Vx.eqN) (v : Int) (f g : Nat → Int) (i n : Nat) (h : ∀ j, j < n → g j = if j = i then v else f j) : ∀ j, j < n → icol .i64 g j = (match eqN j i with | true => [.int .i64 v] | false => icol .i64 f j) := by
  intro j hj
  subst he
  simp only [icol, h j hj]
  cases hr : Vx.eqN j i
  · simp only [plain] at hr
    rw [if_neg hr]
  · simp only [plain] at hr
    rw [if_pos hr]
theorem f33_ok1 (ln a : Nat) (ha : a < ln) (hl : ln ≤ 17592186044416) (l came : Nat → Int) (side first v : Int) : FSpec Try.prog 33 [.agg [.rows 1 ln (icol .i64 came), .sl 0 0 ln, .int .i64 side, .int .i64 first], .int .i64 a, .int .i64 v] [some ⟨32, 1, .arr ln (icol .i64 l)⟩] (fun r H' => r = .tup [] ∧ ∃ g x, H' = [some ⟨32, 1, .arr ln (icol .i64 g)⟩, x] ∧ ∀ j, j < ln → g j = setF came l a v j) := by
  obtain ⟨z, hz⟩ : ∃ z : Int, z = a := ⟨_, rfl⟩
  rw [← hz]
  have hend := fun i h1 h2 h3 => setF_end came l a i ln v h1 h2 h3
  generalize setF came l a v = F at hend ⊢
  obtain ⟨G, hG⟩ : ∃ G : Nat → Nat → Int, ∀ i j, G i j = if a ≤ j ∧ j < i then v else l j := ⟨_, fun _ _ => rfl⟩
  have hG0 : G a = l := funext fun j => by rw [hG, if_neg (by omega)]
  have hGs : ∀ i, a ≤ i → ∀ j, G (i + 1) j = if j = i then v else G i j := fun i hi j => by
    rw [hG, hG]
    by_cases e : j = i
    · rw [if_pos (by omega), if_pos e]
    · rw [if_neg e]
      by_cases e2 : a ≤ j ∧ j < i
      · rw [if_pos (by omega), if_pos e2]
      · rw [if_neg (by omega), if_neg e2]
  rw [← hG0]
  have hend2 : ∀ i, a < i → (∀ q, a < q → q < i → came q = 8) → (i = ln ∨ came i ≠ 8) → ∀ j, j < ln → G i j = F j := fun i h1 h2 h3 j hj => by rw [hend i h1 h2 h3 j hj, hG]
  clear hend hG hG0
  obtain ⟨Q, hQ⟩ : ∃ Q : AV → Hp → Prop, Q = (fun r H' => r = .tup [] ∧ ∃ g x, H' = [some ⟨32, 1, .arr ln (icol .i64 g)⟩, x] ∧ ∀ j, j < ln → g j = F j) := ⟨_, rfl⟩
  rw [← hQ]
  refine FSpec.of (fn := Try.f33) Try.func33 rfl rfl (by simp) fun C hC => ?_
  obtain ⟨iadd, isub, imul, iquo, irem, iband, ibor, ibxor, ibandn, ishl, ishr, iconv, ieq, ine, ilt, ile, igt, ige, bbeq, bbne, bnot, bband, sseq, ssne, sscat, sssub, sslen, sssz, ssbyte, toN, ofN, addN, subN, eqN, ltB, leN, imx, imn, inb, leb, sslt, ltN, fit, ne0, ge0, ssfit, minN, inR, hS⟩ := names
  obtain rfl : z = ofN a := by simp (disch := first | omega | (simp only [hS.glob, wraps, plain, Int.ofNat_eq_natCast]; omega)) only [hS.glob, wraps, plain, Int.ofNat_eq_natCast]; exact hz
  refine V.goF (by first | exact trivial | assumption) Try.func33 tl_ok mixed hS.ops [] 400 ?_
  intro VV VA W hVV hVA hW
  conv => cbv
  repeat (refine ⟨by first | (rw [hW]; show ordOk _ _ _ = true; kernel_rfl) | (first | trivial | omega | (simp (disch := omega) only [hS.glob, wraps, plain, Int.ofNat_eq_natCast]; first | done | omega | trivial | (simp; done) | (simp; omega) | (constructor <;> omega)) | (simp (disch := omega) only [hS.glob, wraps, plain, Int.ofNat_eq_natCast, Vx.toN]; omega)), ?_⟩)
  simp only [hS.tidy]
  rw [hVV]
  clear hVV hVA VV VA hW W
  refine V.to (s' := [(6, .int .i64 (ofN (a + 1))), (3, .ptr 1 0 0), (2, .int .i64 v)]) (H' := [some ⟨32, 1, .arr ln (icol .i64 (G (a + 1)))⟩, some ⟨59, 4, .lit [[.rows 1 ln (icol .i64 came), .sl 0 0 ln, .int .i64 side, .int .i64 first]]⟩]) ?_ (by (repeat' first | exact trivial | rfl | (refine And.intro ?_ ?_) | (refine sti ?_; (first | rfl | omega | (simp (disch := omega) only [hS.glob, wraps, plain, Int.ofNat_eq_natCast]; first | done | rfl | omega | (simp; done) | (simp; omega)) | (simp (disch := omega) only [hS.glob, wraps, plain, Int.ofNat_eq_natCast, Vx.toN]; omega))) | (refine slq ?_ ?_ ?_ <;> (first | rfl | omega | (simp (disch := omega) only [hS.glob, wraps, plain, Int.ofNat_eq_natCast]; first | done | rfl | omega | (simp; done) | (simp; omega)) | (simp (disch := omega) only [hS.glob, wraps, plain, Int.ofNat_eq_natCast, Vx.toN]; omega))) | (refine ptq ?_ ?_ ?_ <;> (first | rfl | omega | (simp (disch := omega) only [hS.glob, wraps, plain, Int.ofNat_eq_natCast]; first | done | rfl | omega | (simp; done) | (simp; omega)) | (simp (disch := omega) only [hS.glob, wraps, plain, Int.ofNat_eq_natCast, Vx.toN]; omega))) | (refine blq ?_; (first | rfl | omega | (simp (disch := omega) only [hS.glob, wraps, plain, Int.ofNat_eq_natCast]; first | done | rfl | omega | (simp; done) | (simp; omega)) | (simp (disch := omega) only [hS.glob, wraps, plain, Int.ofNat_eq_natCast, Vx.toN]; omega))))) rfl ⟨⟨rfl, rfl, ⟨Nat.le_refl _, leafS (by simp [hS.glob]) v (G a) (G (a + 1)) a ln (fun j _ => hGs a (Nat.le_refl _) j)⟩, rfl⟩, ⟨rfl, rfl, rfl, rfl⟩, trivial⟩ (by rw [hC]; simp)
  refine V.loop (γ := Nat) (fun i => a < i ∧ i ≤ ln ∧ ∀ q, a < q → q < i → came q = 8) (fun i => [(6, .int .i64 (ofN i)), (3, .ptr 1 0 0), (2, .int .i64 v)]) (fun i => [some ⟨32, 1, .arr ln (icol .i64 (G i))⟩, some ⟨59, 4, .lit [[.rows 1 ln (icol .i64 came), .sl 0 0 ln, .int .i64 side, .int .i64 first]]⟩]) (fun i => ln - i) ?_ (a + 1) ⟨by omega, by omega, fun q h1 h2 => by omega⟩
  rintro i ⟨hi1, hi2, hm⟩ hback
  refine V.goF (by first | exact trivial | assumption) Try.func33 tl_ok mixed hS.ops [] 400 ?_
  intro VV VA W hVV hVA hW
  conv => cbv
  cases h1 : ilt (ofN i) (ofN ln)
  · conv => cbv
    simp (disch := first | omega | (simp only [hS.glob, wraps, plain, Int.ofNat_eq_natCast]; omega)) only [hS.glob, wraps, plain, Int.ofNat_eq_natCast] at h1
    rw [hQ]
    exact ⟨rfl, G i, _, rfl, hend2 i hi1 hm (.inl (by omega))⟩
  · conv => cbv
    simp (disch := first | omega | (simp only [hS.glob, wraps, plain, Int.ofNat_eq_natCast]; omega)) only [hS.glob, wraps, plain, Int.ofNat_eq_natCast] at h1
    repeat (refine ⟨by first | (rw [hW]; show ordOk _ _ _ = true; kernel_rfl) | (first | trivial | omega | (simp (disch := omega) only [hS.glob, wraps, plain, Int.ofNat_eq_natCast]; first | done | omega | trivial | (simp; done) | (simp; omega) | (constructor <;> omega)) | (simp (disch := omega) only [hS.glob, wraps, plain, Int.ofNat_eq_natCast, Vx.toN]; omega)), ?_⟩)
    simp only [hS.tidy]
    cases h2 : ieq (came i) 8
    · conv => cbv
      simp (disch := first | omega | (simp only [hS.glob, wraps, plain, Int.ofNat_eq_natCast]; omega)) only [hS.glob, wraps, plain, Int.ofNat_eq_natCast] at h2
      rw [hQ]
      exact ⟨rfl, G i, _, rfl, hend2 i hi1 hm (.inr h2)⟩
    · conv => cbv
      simp (disch := first | omega | (simp only [hS.glob, wraps, plain, Int.ofNat_eq_natCast]; omega)) only [hS.glob, wraps, plain, Int.ofNat_eq_natCast] at h2
      have h4 := h2
      repeat (refine ⟨by first | (rw [hW]; show ordOk _ _ _ = true; kernel_rfl) | (first | trivial | omega | (simp (disch := omega) only [hS.glob, wraps, plain, Int.ofNat_eq_natCast]; first | done | omega | trivial | (simp; done) | (simp; omega) | (constructor <;> omega)) | (simp (disch := omega) only [hS.glob, wraps, plain, Int.ofNat_eq_natCast, Vx.toN]; omega)), ?_⟩)
      simp only [hS.tidy]
      rw [hVV]
      clear hVV hVA VV VA hW W
      refine V.to (hback (i + 1) ⟨by omega, by omega, fun q h1 h2 => ?_⟩ (by omega)) (by (repeat' first | exact trivial | rfl | (refine And.intro ?_ ?_) | (refine sti ?_; (first | rfl | omega | (simp (disch := omega) only [hS.glob, wraps, plain, Int.ofNat_eq_natCast]; first | done | rfl | omega | (simp; done) | (simp; omega)) | (simp (disch := omega) only [hS.glob, wraps, plain, Int.ofNat_eq_natCast, Vx.toN]; omega))) | (refine slq ?_ ?_ ?_ <;> (first | rfl | omega | (simp (disch := omega) only [hS.glob, wraps, plain, Int.ofNat_eq_natCast]; first | done | rfl | omega | (simp; done) | (simp; omega)) | (simp (disch := omega) only [hS.glob, wraps, plain, Int.ofNat_eq_natCast, Vx.toN]; omega))) | (refine ptq ?_ ?_ ?_ <;> (first | rfl | omega | (simp (disch := omega) only [hS.glob, wraps, plain, Int.ofNat_eq_natCast]; first | done | rfl | omega | (simp; done) | (simp; omega)) | (simp (disch := omega) only [hS.glob, wraps, plain, Int.ofNat_eq_natCast, Vx.toN]; omega))) | (refine blq ?_; (first | rfl | omega | (simp (disch := omega) only [hS.glob, wraps, plain, Int.ofNat_eq_natCast]; first | done | rfl | omega | (simp; done) | (simp; omega)) | (simp (disch := omega) only [hS.glob, wraps, plain, Int.ofNat_eq_natCast, Vx.toN]; omega))))) rfl ⟨⟨rfl, rfl, ⟨Nat.le_refl _, leafS (by simp [hS.glob]) v (G i) (G (i + 1)) i ln (fun j _ => hGs i (by omega) j)⟩, rfl⟩, ⟨rfl, rfl, rfl, rfl⟩, trivial⟩ (by rw [hC]; simp)
      by_cases e : q = i
      · rw [e]; exact h4
      · exact hm q h1 (by omega)
theorem f33_ok (ln a : Nat) (ha : a < ln) (hl : ln ≤ 17592186044416) (l came : Nat → Int) (side first v : Int) (l' : Nat → Int) (hl' : ∀ j, j < ln → l' j = setF came l a v j) : FSpec Try.prog 33 [.agg [.rows 1 ln (icol .i64 came), .sl 0 0 ln, .int .i64 side, .int .i64 first], .int .i64 a, .int .i64 v] [some ⟨32, 1, .arr ln (icol .i64 l)⟩] (fun r H' => r = .tup [] ∧ H' = [some ⟨32, 1, .arr ln (icol .i64 l')⟩]) := by
  refine (f33_ok1 ln a ha hl l came side first v).weaken ?_
  rintro r H' ⟨rfl, g, x, rfl, hg⟩
  exact ⟨[some ⟨32, 1, .arr ln (icol .i64 l')⟩], ⟨⟨rfl, rfl, ⟨Nat.le_refl _, fun j hj => by simp only [icol]; rw [hl' j hj, hg j hj]⟩, rfl⟩, trivial⟩, rfl, Nat.le_refl _, rfl, rfl⟩
end Go.Proofs.Ytcoanfhjgmndcaa
