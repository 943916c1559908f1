/- Contracts of functions by an evaluator of the model: its part T1. -/
import Derived.Test.YtandgpkibpggnaaProg
import Derived.Test.YtandgpkibpggnaaV2
import Derived.KernelRfl
import Derived.Test.YtandgpkibpggnaaV3
set_option linter.all false
/- The types of the program, as its table tells them; the kernel holds them against the program. -/
namespace Go.Proofs.Ytandgpkibpggnaa
open Go Vx
def tll : TabL := [
  (1, ⟨.func, 1, 8, [.nil .func]⟩),
  (2, ⟨.int .i64, 1, 8, [.int .i64 0]⟩),
  (3, ⟨.int .i64, 1, 8, [.int .i64 0]⟩),
  (4, ⟨.bool, 1, 1, [.bool false]⟩),
  (5, ⟨.int .u8, 1, 1, [.int .u8 0]⟩),
  (9, ⟨.str, 1, 16, [.str ByteArray.empty]⟩),
  (12, ⟨.int .u64, 1, 8, [.int .u64 0]⟩),
  (17, ⟨.ptr, 1, 8, [.nil .ptr]⟩),
  (20, ⟨.iface, 1, 16, [.nil .iface]⟩),
  (21, ⟨.int .i32, 1, 4, [.int .i32 0]⟩),
  (22, ⟨.slice 27, 1, 24, [.nil .slice]⟩),
  (23, ⟨.func, 1, 8, [.nil .func]⟩),
  (24, ⟨.int .i64, 1, 8, [.int .i64 0]⟩),
  (25, ⟨.int .u64, 1, 8, [.int .u64 0]⟩),
  (26, ⟨.struct false [(0, 1, .int), (1, 1, .int), (2, 1, .int), (3, 1, .bool), (4, 1, .str), (5, 1, .int)], 6, 56, [.int .i64 0, .int .i64 0, .int .i64 0, .bool false, .str ByteArray.empty, .int .u64 0]⟩),
  (27, ⟨.struct true [(0, 1, .int), (1, 1, .int), (2, 1, .int), (3, 1, .bool), (4, 1, .str), (5, 1, .int)], 6, 56, [.int .i64 0, .int .i64 0, .int .i64 0, .bool false, .str ByteArray.empty, .int .u64 0]⟩),
  (28, ⟨.func, 1, 8, [.nil .func]⟩),
  (30, ⟨.func, 1, 8, [.nil .func]⟩),
  (31, ⟨.func, 1, 8, [.nil .func]⟩),
  (32, ⟨.func, 1, 8, [.nil .func]⟩),
  (33, ⟨.func, 1, 8, [.nil .func]⟩),
  (34, ⟨.func, 1, 8, [.nil .func]⟩),
  (35, ⟨.array 3 3, 3, 24, [.int .i64 0, .int .i64 0, .int .i64 0]⟩),
  (36, ⟨.func, 1, 8, [.nil .func]⟩),
  (37, ⟨.func, 1, 8, [.nil .func]⟩),
  (38, ⟨.array 2 3, 2, 16, [.int .i64 0, .int .i64 0]⟩),
  (39, ⟨.func, 1, 8, [.nil .func]⟩),
  (40, ⟨.func, 1, 8, [.nil .func]⟩),
  (41, ⟨.func, 1, 8, [.nil .func]⟩),
  (42, ⟨.func, 1, 8, [.nil .func]⟩),
  (43, ⟨.func, 1, 8, [.nil .func]⟩),
  (44, ⟨.func, 1, 8, [.nil .func]⟩),
  (45, ⟨.func, 1, 8, [.nil .func]⟩),
  (46, ⟨.func, 1, 8, [.nil .func]⟩),
  (47, ⟨.func, 1, 8, [.nil .func]⟩),
  (48, ⟨.int .i64, 1, 8, [.int .i64 0]⟩),
  (50, ⟨.func, 1, 8, [.nil .func]⟩),
  (51, ⟨.slice 3, 1, 24, [.nil .slice]⟩),
  (53, ⟨.func, 1, 8, [.nil .func]⟩),
  (54, ⟨.slice 5, 1, 24, [.nil .slice]⟩),
  (55, ⟨.func, 1, 8, [.nil .func]⟩),
  (56, ⟨.int .u64, 1, 8, [.int .u64 0]⟩),
  (57, ⟨.func, 1, 8, [.nil .func]⟩),
  (58, ⟨.func, 1, 8, [.nil .func]⟩),
  (60, ⟨.func, 1, 8, [.nil .func]⟩),
  (62, ⟨.func, 1, 8, [.nil .func]⟩),
  (63, ⟨.flt .f64, 1, 8, [.flt .f64 0]⟩),
  (64, ⟨.func, 1, 8, [.nil .func]⟩),
  (65, ⟨.func, 1, 8, [.nil .func]⟩),
  (66, ⟨.func, 1, 8, [.nil .func]⟩),
  (68, ⟨.func, 1, 8, [.nil .func]⟩),
  (70, ⟨.func, 1, 8, [.nil .func]⟩),
  (71, ⟨.func, 1, 8, [.nil .func]⟩),
  (72, ⟨.func, 1, 8, [.nil .func]⟩),
  (74, ⟨.func, 1, 8, [.nil .func]⟩),
  (75, ⟨.func, 1, 8, [.nil .func]⟩),
  (76, ⟨.struct false [(0, 1, .int), (1, 1, .int)], 2, 16, [.int .i64 0, .int .i64 0]⟩),
  (77, ⟨.struct true [(0, 1, .int), (1, 1, .int)], 2, 16, [.int .i64 0, .int .i64 0]⟩),
  (78, ⟨.array 4 77, 8, 64, [.int .i64 0, .int .i64 0, .int .i64 0, .int .i64 0, .int .i64 0, .int .i64 0, .int .i64 0, .int .i64 0]⟩),
  (79, ⟨.func, 1, 8, [.nil .func]⟩),
  (80, ⟨.func, 1, 8, [.nil .func]⟩),
  (81, ⟨.func, 1, 8, [.nil .func]⟩),
  (82, ⟨.func, 1, 8, [.nil .func]⟩),
  (88, ⟨.func, 1, 8, [.nil .func]⟩),
  (89, ⟨.int .u32, 1, 4, [.int .u32 0]⟩),
  (93, ⟨.ptr, 1, 8, [.nil .ptr]⟩)]
def tl : Tab := fun t => tabL tll t
theorem tl_ok : TabOk Go.Proofs.Try.prog tl := tabOk_of (by kernel_rfl)
end Go.Proofs.Ytandgpkibpggnaa

/- Plain words on lists of numbers. -/
namespace Go.Proofs.Ytandgpkibpggnaa
open Go Vx
theorem mixed : Try.prog.follows .mixedOrders = true := by kernel_rfl
def tab {α : Type} (n : Nat) (f : Nat → α) : List α := (List.range n).map f
theorem tab_len {α : Type} (n : Nat) (f : Nat → α) : (tab n f).length = n := by simp [tab]
theorem tab_snoc {α : Type} {n n' : Nat} {f g : Nat → α} {a : α} (hn : n' = n + 1) (h : ∀ j, j < n → g j = f j) (ha : g n = a) : tab n' g = tab n f ++ [a] := by
  subst hn ha
  simp only [tab, List.range_succ, List.map_append, List.map_cons, List.map_nil]
  congr 1
  exact List.map_congr_left fun j hj => h j (by simpa using hj)
theorem tab_last {α : Type} {n : Nat} (f : Nat → α) (d : α) (h : 0 < n) : (tab n f).getLastD d = f (n - 1) := by
  obtain ⟨m, rfl⟩ : ∃ m, n = m + 1 := ⟨n - 1, by omega⟩
  rw [tab_snoc (f := f) rfl (fun _ _ => rfl) rfl]
  simp
theorem tab_pop {α : Type} (n : Nat) (f : Nat → α) : (tab n f).dropLast = tab (n - 1) f := by
  cases n with
  | zero => rfl
  | succ n => rw [tab_snoc (f := f) rfl (fun _ _ => rfl) rfl]; simp
theorem tab_one {α : Type} (f : Nat → α) : tab 1 f = [f 0] := rfl
theorem tab_get {α : Type} (n : Nat) (f : Nat → α) (j : Nat) (h : j < n) : (tab n f)[j]? = some (f j) := by simp [tab, h]
theorem tab_inj {α : Type} {n : Nat} {f g : Nat → α} (h : tab n f = tab n g) : ∀ j, j < n → f j = g j := by
  intro j hj
  have := congrArg (fun l : List α => l[j]?) h
  simpa [tab, hj] using this
theorem tab_take {α : Type} {n m : Nat} (f : Nat → α) (h : m ≤ n) : (tab n f).take m = tab m f := by
  apply List.ext_getElem?
  intro j
  rw [List.getElem?_take]
  by_cases hj : j < m
  · rw [if_pos hj, tab_get _ _ _ (by omega), tab_get _ _ _ hj]
  · rw [if_neg hj, List.getElem?_eq_none (by rw [tab_len]; omega)]
theorem tab_congr {α : Type} {n : Nat} {f g : Nat → α} (h : ∀ j, j < n → f j = g j) : tab n f = tab n g := List.map_congr_left fun j hj => h j (by simpa using hj)
theorem tab_of {α : Type} (l : List α) (d : α) : tab l.length (fun j => l.getD j d) = l := by
  apply List.ext_getElem?
  intro j
  by_cases hj : j < l.length
  · rw [tab_get _ _ _ hj, List.getD_eq_getElem?_getD, List.getElem?_eq_getElem hj]; rfl
  · rw [List.getElem?_eq_none (by rw [tab_len]; omega), List.getElem?_eq_none (by omega)]
theorem snoc_of {α : Type} {l : List α} (h : l ≠ []) : ∃ s x, l = s ++ [x] := ⟨l.dropLast, l.getLast h, (List.dropLast_concat_getLast h).symm⟩
theorem snocF {α : Type} (f : Nat → α) (q : Nat) (a : α) : ∃ g : Nat → α, (∀ j, j < q → g j = f j) ∧ g q = a := ⟨fun j => if j = q then a else f j, fun j hj => by simp; omega, by simp⟩
/-- What an append of one number leaves. -/
theorem leaf {subN : Nat → Nat → Nat} {ltB : Nat → Nat → Bool} (hl : ltB = Vx.ltB) (hs : subN = Vx.subN) (a : Int) (f g : Nat → Int) (q : Nat) (h : ∀ j, j < q → g j = f j) (hq : g q = a) : ∀ i, i < q + 1 → icol .i64 g i = (match ltB i q with | true => icol .i64 f i | false => [[.int .i64 a]].getD (subN i q) []) := by
  intro i hi
  subst hl hs
  simp only [icol]
  cases hr : Vx.ltB i q
  · simp only [plain] at hr
    obtain rfl : i = q := by omega
    simp [Vx.subN, hq]
  · simp only [plain] at hr
    rw [h i hr]
/-- The same for rows. -/
theorem leafR {subN : Nat → Nat → Nat} {ltB : Nat → Nat → Bool} (hl : ltB = Vx.ltB) (hs : subN = Vx.subN) (a : List AV) (f g : Nat → List AV) (q : Nat) (h : ∀ j, j < q → g j = f j) (hq : g q = a) : ∀ i, i < q + 1 → g i = (match ltB i q with | true => f i | false => [a].getD (subN i q) []) := by
  intro i hi
  subst hl hs
  cases hr : Vx.ltB i q
  · simp only [plain] at hr
    obtain rfl : i = q := by omega
    simp [Vx.subN, hq]
  · simp only [plain] at hr
    exact h i hr
theorem band_le (a : Int) (m : Nat) (hm : m < 1000) : ∃ r : Nat, Vx.iband .i64 a m = r ∧ r ≤ m := by
  have e2 : (BitVec.ofInt 64 (m : Int)).toNat = m := by rw [BitVec.toNat_ofInt]; omega
  have h : ((BitVec.ofInt 64 a &&& BitVec.ofInt 64 (m : Int)).toNat) ≤ m := by
    rw [BitVec.toNat_and, e2]; exact Nat.and_le_right
  refine ⟨_, ?_, h⟩
  show IntKind.i64.wrap _ = _
  rw [IntWalk.i64_in]
  · rfl
  · constructor
    · show -9223372036854775808 ≤ (((BitVec.ofInt 64 a &&& BitVec.ofInt 64 (m : Int)).toNat : Nat) : Int); omega
    · show (((BitVec.ofInt 64 a &&& BitVec.ofInt 64 (m : Int)).toNat : Nat) : Int) ≤ 9223372036854775807; omega
end Go.Proofs.Ytandgpkibpggnaa

/- Spans, and when they are alike. -/
namespace Go.Proofs.Ytandgpkibpggnaa
open Go Vx

structure Sp where
  fr : Int
  to : Int
  po : Int
  co : Bool
  ru : ByteArray
  sc : Int
def spc (g : Nat → Sp) : Nat → List AV := fun i => [.int .i64 (g i).fr, .int .i64 (g i).to, .int .i64 (g i).po, .bool (g i).co, .str (g i).ru, .int .u64 (g i).sc]
theorem sp_eq (a b : Sp) : a = b ↔ a.fr = b.fr ∧ a.to = b.to ∧ a.po = b.po ∧ a.co = b.co ∧ a.ru = b.ru ∧ a.sc = b.sc := by
  cases a; cases b; simp
theorem sp_all (a b : Sp) : Vx.bband (Vx.ieq a.fr b.fr) (Vx.bband (Vx.ieq a.to b.to) (Vx.bband (Vx.ieq a.po b.po) (Vx.bband (Vx.bbeq a.co b.co) (Vx.bband (Vx.sseq a.ru b.ru) (Vx.bband (Vx.ieq a.sc b.sc) true))))) = true ↔ a = b := by
  rw [sp_eq]
  simp only [Vx.bband, Vx.ieq, Vx.bbeq, Vx.sseq, Bool.and_eq_true, decide_eq_true_eq, beq_iff_eq, and_true, ByteArray.toList_eq]
  constructor
  · rintro ⟨h1, h2, h3, h4, h5, h6⟩
    refine ⟨h1, h2, h3, h4, ?_, h6⟩
    have e : a.ru.data = b.ru.data := Array.toList_inj.1 h5
    calc a.ru = ⟨a.ru.data⟩ := rfl
      _ = ⟨b.ru.data⟩ := by rw [e]
      _ = b.ru := rfl
  · rintro ⟨h1, h2, h3, h4, h5, h6⟩
    exact ⟨h1, h2, h3, h4, by rw [h5], h6⟩
theorem f13_ok (n m : Nat) (g h : Nat → Sp) (R : Bool) (hR : R = true ↔ n = m ∧ ∀ j, j < n → g j = h j) : FSpec Try.prog 13 [.rows 6 n (spc g), .rows 6 m (spc h)] [] (fun r H' => r = .bool R ∧ H' = []) := by
  refine FSpec.of (fn := Try.f13) Try.func13 rfl rfl (by simp) fun C hC => ?_
  obtain ⟨iadd, isub, imul, iquo, irem, iband, ibor, ibxor, ibandn, ishl, ishr, iconv, ieq, ine, ilt, ile, igt, ige, bbeq, bbne, bnot, bband, sseq, ssne, sscat, sssub, sslen, sssz, ssbyte, toN, ofN, addN, subN, eqN, ltB, leN, imx, imn, inb, leb, sslt, ltN, fit, ne0, ge0, ssfit, minN, inR, bcol, bstr, isBy, hS⟩ := names
  refine V.rowsLen 0 (sz := 6) (n := n) rfl fun hx => ?_
  refine V.rowsLen 1 (sz := 6) (n := m) rfl fun hy => ?_
  simp (disch := first | omega | (simp only [hS.glob, wraps, plain, Int.ofNat_eq_natCast]; omega)) only [hS.glob, wraps, plain, Int.ofNat_eq_natCast] at hx
  simp (disch := first | omega | (simp only [hS.glob, wraps, plain, Int.ofNat_eq_natCast]; omega)) only [hS.glob, wraps, plain, Int.ofNat_eq_natCast] at hy
  refine V.goF (by first | exact trivial | assumption) Try.func13 tl_ok mixed hS.ops [] 400 ?_
  intro VV VA W hVV hVA hW
  conv => cbv
  split <;> rename_i h1
  · conv => cbv
    simp (disch := first | omega | (simp only [hS.glob, wraps, plain, Int.ofNat_eq_natCast]; omega)) only [hS.glob, wraps, plain, Int.ofNat_eq_natCast] at h1
    refine ⟨?_, trivial⟩
    congr 1
    cases R
    · rfl
    · have := (hR.1 rfl).1; omega
  · conv => cbv
    simp (disch := first | omega | (simp only [hS.glob, wraps, plain, Int.ofNat_eq_natCast]; omega)) only [hS.glob, wraps, plain, Int.ofNat_eq_natCast] at h1
    have hl : n = m := by omega
    rw [hVV]
    refine V.to (s' := [(5, .int .i64 (ofN 0)), (0, .rows 6 n (spc g)), (1, .rows 6 m (spc h))]) (H' := []) ?_ (by (repeat' first | exact trivial | rfl | (refine And.intro ?_ ?_) | (refine sti ?_; (first | rfl | omega | (simp (disch := omega) only [hS.glob, wraps, plain, Int.ofNat_eq_natCast]; first | done | rfl | omega | (simp; done) | (simp; omega)) | (simp (disch := omega) only [hS.glob, wraps, plain, Int.ofNat_eq_natCast, Vx.toN]; omega))) | (refine slq ?_ ?_ ?_ <;> (first | rfl | omega | (simp (disch := omega) only [hS.glob, wraps, plain, Int.ofNat_eq_natCast]; first | done | rfl | omega | (simp; done) | (simp; omega)) | (simp (disch := omega) only [hS.glob, wraps, plain, Int.ofNat_eq_natCast, Vx.toN]; omega))) | (refine ptq ?_ ?_ ?_ <;> (first | rfl | omega | (simp (disch := omega) only [hS.glob, wraps, plain, Int.ofNat_eq_natCast]; first | done | rfl | omega | (simp; done) | (simp; omega)) | (simp (disch := omega) only [hS.glob, wraps, plain, Int.ofNat_eq_natCast, Vx.toN]; omega))) | (refine blq ?_; (first | rfl | omega | (simp (disch := omega) only [hS.glob, wraps, plain, Int.ofNat_eq_natCast]; first | done | rfl | omega | (simp; done) | (simp; omega)) | (simp (disch := omega) only [hS.glob, wraps, plain, Int.ofNat_eq_natCast, Vx.toN]; omega))))) rfl trivial (by rw [hC]; simp)
    refine V.loop (γ := Nat) (fun i => i ≤ n ∧ ∀ j, j < i → g j = h j) (fun i => [(5, .int .i64 (ofN i)), (0, .rows 6 n (spc g)), (1, .rows 6 m (spc h))]) (fun _ => []) (fun i => n - i) ?_ 0 ⟨Nat.zero_le _, fun j hj => by omega⟩
    rintro i ⟨hi, heq⟩ hback
    clear hVV hVA VV VA hW W
    refine V.goF (by first | exact trivial | assumption) Try.func13 tl_ok mixed hS.ops [] 400 ?_
    intro VV VA W hVV hVA hW
    conv => cbv
    split <;> rename_i h2
    · conv => cbv
      simp (disch := first | omega | (simp only [hS.glob, wraps, plain, Int.ofNat_eq_natCast]; omega)) only [hS.glob, wraps, plain, Int.ofNat_eq_natCast] at h2
      repeat (refine ⟨by first | (rw [hW]; show ordOk _ _ _ = true; kernel_rfl) | (first | trivial | omega | (simp (disch := omega) only [hS.glob, wraps, plain, Int.ofNat_eq_natCast]; first | done | omega | trivial | (simp; done) | (simp; omega) | (constructor <;> omega)) | (simp (disch := omega) only [hS.glob, wraps, plain, Int.ofNat_eq_natCast, Vx.toN]; omega)), ?_⟩)
      try simp only [hS.tidy]
      split <;> rename_i h3
      · conv => cbv
        have h4 : ¬ g i = h i := fun e => by
          have := (sp_all (g i) (h i)).2 e
          simp only [hS.glob, Vx.bnot] at h3
          rw [this] at h3
          cases h3
        refine ⟨?_, trivial⟩
        congr 1
        cases R
        · rfl
        · exact absurd ((hR.1 rfl).2 i (by omega)) h4
      · conv => cbv
        have h4 : g i = h i := by
          rw [← sp_all]
          simp only [hS.glob, Vx.bnot] at h3
          simpa using h3
        rw [hVV]
        refine V.to (hback (i+1) ⟨by omega, fun j hj => ?_⟩ (by omega)) (by (repeat' first | exact trivial | rfl | (refine And.intro ?_ ?_) | (refine sti ?_; (first | rfl | omega | (simp (disch := omega) only [hS.glob, wraps, plain, Int.ofNat_eq_natCast]; first | done | rfl | omega | (simp; done) | (simp; omega)) | (simp (disch := omega) only [hS.glob, wraps, plain, Int.ofNat_eq_natCast, Vx.toN]; omega))) | (refine slq ?_ ?_ ?_ <;> (first | rfl | omega | (simp (disch := omega) only [hS.glob, wraps, plain, Int.ofNat_eq_natCast]; first | done | rfl | omega | (simp; done) | (simp; omega)) | (simp (disch := omega) only [hS.glob, wraps, plain, Int.ofNat_eq_natCast, Vx.toN]; omega))) | (refine ptq ?_ ?_ ?_ <;> (first | rfl | omega | (simp (disch := omega) only [hS.glob, wraps, plain, Int.ofNat_eq_natCast]; first | done | rfl | omega | (simp; done) | (simp; omega)) | (simp (disch := omega) only [hS.glob, wraps, plain, Int.ofNat_eq_natCast, Vx.toN]; omega))) | (refine blq ?_; (first | rfl | omega | (simp (disch := omega) only [hS.glob, wraps, plain, Int.ofNat_eq_natCast]; first | done | rfl | omega | (simp; done) | (simp; omega)) | (simp (disch := omega) only [hS.glob, wraps, plain, Int.ofNat_eq_natCast, Vx.toN]; omega))))) rfl trivial (by rw [hC]; simp)
        rcases Nat.lt_succ_iff_lt_or_eq.1 hj with h | rfl
        · exact heq j h
        · exact h4
    · conv => cbv
      simp (disch := first | omega | (simp only [hS.glob, wraps, plain, Int.ofNat_eq_natCast]; omega)) only [hS.glob, wraps, plain, Int.ofNat_eq_natCast] at h2
      refine ⟨?_, trivial⟩
      congr 1
      symm
      rw [hR]
      exact ⟨hl, fun j hj => heq j (by omega)⟩
end Go.Proofs.Ytandgpkibpggnaa

/- A span's style; where a span is. -/
namespace Go.Proofs.Ytandgpkibpggnaa
open Go Vx

theorem f28_ok (a b c : Int) (d : Bool) (e : ByteArray) (f : Int) : FSpec Try.prog 28 [.agg [.int .i64 a, .int .i64 b, .int .i64 c, .bool d, .str e, .int .u64 f]] [] (fun r H' => r = .agg [.int .i64 0, .int .i64 0, .int .i64 c, .bool d, .str e, .int .u64 f] ∧ H' = []) := by
  refine (show FSpec Try.prog 28 [.agg [.int .i64 a, .int .i64 b, .int .i64 c, .bool d, .str e, .int .u64 f]] [] (fun r H' => r = .agg [.int .i64 0, .int .i64 0, .int .i64 c, .bool d, .str e, .int .u64 f]) from ?_).weaken ?_
  · refine FSpec.of (fn := Try.f28) Try.func28 rfl rfl (by simp) fun C hC => ?_
    obtain ⟨iadd, isub, imul, iquo, irem, iband, ibor, ibxor, ibandn, ishl, ishr, iconv, ieq, ine, ilt, ile, igt, ige, bbeq, bbne, bnot, bband, sseq, ssne, sscat, sssub, sslen, sssz, ssbyte, toN, ofN, addN, subN, eqN, ltB, leN, imx, imn, inb, leb, sslt, ltN, fit, ne0, ge0, ssfit, minN, inR, bcol, bstr, isBy, hS⟩ := names
    refine V.goF (by first | exact trivial | assumption) Try.func28 tl_ok mixed hS.ops [] 400 ?_
    intro VV VA W hVV hVA hW
    conv => cbv
    trivial
  · rintro r H' rfl
    exact ⟨[], by cases H' <;> simp [heapCov], rfl, Nat.le_refl _, rfl, rfl⟩
theorem f29_ok (a b c : Int) (d : Bool) (e : ByteArray) (f : Int) : FSpec Try.prog 29 [.agg [.int .i64 a, .int .i64 b, .int .i64 c, .bool d, .str e, .int .u64 f]] [] (fun r H' => r = .agg [.int .i64 0, .int .i64 0, .int .i64 c, .bool d, .str e, .int .u64 f] ∧ H' = []) := by
  refine (show FSpec Try.prog 29 [.agg [.int .i64 a, .int .i64 b, .int .i64 c, .bool d, .str e, .int .u64 f]] [] (fun r H' => r = .agg [.int .i64 0, .int .i64 0, .int .i64 c, .bool d, .str e, .int .u64 f]) from ?_).weaken ?_
  · refine FSpec.of (fn := Try.f29) Try.func29 rfl rfl (by simp) fun C hC => ?_
    obtain ⟨iadd, isub, imul, iquo, irem, iband, ibor, ibxor, ibandn, ishl, ishr, iconv, ieq, ine, ilt, ile, igt, ige, bbeq, bbne, bnot, bband, sseq, ssne, sscat, sssub, sslen, sssz, ssbyte, toN, ofN, addN, subN, eqN, ltB, leN, imx, imn, inb, leb, sslt, ltN, fit, ne0, ge0, ssfit, minN, inR, bcol, bstr, isBy, hS⟩ := names
    refine V.goF (by first | exact trivial | assumption) Try.func29 tl_ok mixed hS.ops [] 400 ?_
    intro VV VA W hVV hVA hW
    conv => cbv
    trivial
  · rintro r H' rfl
    exact ⟨[], by cases H' <;> simp [heapCov], rfl, Nat.le_refl _, rfl, rfl⟩
def inSp (s : Sp) (i : Int) : Prop := s.fr ≤ i ∧ i < s.to
/-- The first span that has a place, from a number on. -/
noncomputable def atF (g : Nat → Sp) (i : Int) : Nat → Nat → Option Nat
  | _, 0 => none
  | k, n + 1 => open Classical in if inSp (g k) i then some k else atF g i (k + 1) n
theorem f12_ok (n : Nat) (hn : n ≤ 1000000) (g : Nat → Sp) (i : Int) (A : Option Nat) (hA : A = atF g i 0 n) : FSpec Try.prog 12 [.rows 6 n (spc g), .int .i64 i] [] (fun r H' => H' = [] ∧ ((A = none ∧ r = .tup [.int .i64 0, .bool false]) ∨ ∃ k : Nat, A = some k ∧ ∃ z : Int, z = k ∧ r = .tup [.int .i64 z, .bool true])) := by
  obtain ⟨Q, hQ⟩ : ∃ Q : AV → Hp → Prop, Q = (fun r H' => H' = [] ∧ ((A = none ∧ r = .tup [.int .i64 0, .bool false]) ∨ ∃ k : Nat, A = some k ∧ ∃ z : Int, z = k ∧ r = .tup [.int .i64 z, .bool true])) := ⟨_, rfl⟩
  rw [← hQ]
  refine FSpec.of (fn := Try.f12) Try.func12 rfl rfl (by simp) fun C hC => ?_
  obtain ⟨iadd, isub, imul, iquo, irem, iband, ibor, ibxor, ibandn, ishl, ishr, iconv, ieq, ine, ilt, ile, igt, ige, bbeq, bbne, bnot, bband, sseq, ssne, sscat, sssub, sslen, sssz, ssbyte, toN, ofN, addN, subN, eqN, ltB, leN, imx, imn, inb, leb, sslt, ltN, fit, ne0, ge0, ssfit, minN, inR, bcol, bstr, isBy, hS⟩ := names
  refine V.goF (by first | exact trivial | assumption) Try.func12 tl_ok mixed hS.ops [] 400 ?_
  intro VV VA W hVV hVA hW
  conv => cbv
  rw [hVV]
  clear hVV hVA VV VA hW W
  refine V.to (s' := [(6, .int .i64 (ofN 0)), (0, .rows 6 n (spc g)), (1, .int .i64 i)]) (H' := []) ?_ (by (repeat' first | exact trivial | rfl | (refine And.intro ?_ ?_) | (refine sti ?_; (first | rfl | omega | (simp (disch := omega) only [hS.glob, wraps, plain, Int.ofNat_eq_natCast]; first | done | rfl | omega | (simp; done) | (simp; omega)) | (simp (disch := omega) only [hS.glob, wraps, plain, Int.ofNat_eq_natCast, Vx.toN]; omega))) | (refine slq ?_ ?_ ?_ <;> (first | rfl | omega | (simp (disch := omega) only [hS.glob, wraps, plain, Int.ofNat_eq_natCast]; first | done | rfl | omega | (simp; done) | (simp; omega)) | (simp (disch := omega) only [hS.glob, wraps, plain, Int.ofNat_eq_natCast, Vx.toN]; omega))) | (refine ptq ?_ ?_ ?_ <;> (first | rfl | omega | (simp (disch := omega) only [hS.glob, wraps, plain, Int.ofNat_eq_natCast]; first | done | rfl | omega | (simp; done) | (simp; omega)) | (simp (disch := omega) only [hS.glob, wraps, plain, Int.ofNat_eq_natCast, Vx.toN]; omega))) | (refine blq ?_; (first | rfl | omega | (simp (disch := omega) only [hS.glob, wraps, plain, Int.ofNat_eq_natCast]; first | done | rfl | omega | (simp; done) | (simp; omega)) | (simp (disch := omega) only [hS.glob, wraps, plain, Int.ofNat_eq_natCast, Vx.toN]; omega))))) rfl trivial (by rw [hC]; simp)
  refine V.loop (γ := Nat) (fun k => k ≤ n ∧ A = atF g i k (n - k)) (fun k => [(6, .int .i64 (ofN k)), (0, .rows 6 n (spc g)), (1, .int .i64 i)]) (fun _ => []) (fun k => n - k) ?_ 0 ⟨Nat.zero_le _, hA⟩
  clear hA
  rintro k ⟨hk, hA⟩ hback
  refine V.goF (by first | exact trivial | assumption) Try.func12 tl_ok mixed hS.ops [] 400 ?_
  intro VV VA W hVV hVA hW
  conv => cbv
  cases h1 : ilt (ofN k) (ofN n)
  · conv => cbv
    simp (disch := first | omega | (simp only [hS.glob, wraps, plain, Int.ofNat_eq_natCast]; omega)) only [hS.glob, wraps, plain, Int.ofNat_eq_natCast] at h1
    rw [hQ]
    refine ⟨rfl, .inl ⟨?_, rfl⟩⟩
    rw [hA, show n - k = 0 by omega]
    rfl
  · conv => cbv
    simp (disch := first | omega | (simp only [hS.glob, wraps, plain, Int.ofNat_eq_natCast]; omega)) only [hS.glob, wraps, plain, Int.ofNat_eq_natCast] at h1
    obtain ⟨d, hd⟩ : ∃ d, n - k = d + 1 := ⟨n - k - 1, by omega⟩
    rw [hd, atF] at hA
    repeat (refine ⟨by first | (rw [hW]; show ordOk _ _ _ = true; kernel_rfl) | (first | trivial | omega | (simp (disch := omega) only [hS.glob, wraps, plain, Int.ofNat_eq_natCast]; first | done | omega | trivial | (simp; done) | (simp; omega) | (constructor <;> omega)) | (simp (disch := omega) only [hS.glob, wraps, plain, Int.ofNat_eq_natCast, Vx.toN]; omega)), ?_⟩)
    simp only [hS.tidy]
    have next : ¬ inSp (g k) i → A = atF g i (k + 1) (n - (k + 1)) := fun hno => by rw [hA, if_neg hno, show n - (k + 1) = d by omega]
    cases h2 : ige i (g k).fr
    · conv => cbv
      simp (disch := first | omega | (simp only [hS.glob, wraps, plain, Int.ofNat_eq_natCast]; omega)) only [hS.glob, wraps, plain, Int.ofNat_eq_natCast] at h2
      rw [hVV]
      clear hVV hVA VV VA hW W
      exact V.to (hback (k + 1) ⟨by omega, next (fun h => by have := h.1; omega)⟩ (by omega)) (by (repeat' first | exact trivial | rfl | (refine And.intro ?_ ?_) | (refine sti ?_; (first | rfl | omega | (simp (disch := omega) only [hS.glob, wraps, plain, Int.ofNat_eq_natCast]; first | done | rfl | omega | (simp; done) | (simp; omega)) | (simp (disch := omega) only [hS.glob, wraps, plain, Int.ofNat_eq_natCast, Vx.toN]; omega))) | (refine slq ?_ ?_ ?_ <;> (first | rfl | omega | (simp (disch := omega) only [hS.glob, wraps, plain, Int.ofNat_eq_natCast]; first | done | rfl | omega | (simp; done) | (simp; omega)) | (simp (disch := omega) only [hS.glob, wraps, plain, Int.ofNat_eq_natCast, Vx.toN]; omega))) | (refine ptq ?_ ?_ ?_ <;> (first | rfl | omega | (simp (disch := omega) only [hS.glob, wraps, plain, Int.ofNat_eq_natCast]; first | done | rfl | omega | (simp; done) | (simp; omega)) | (simp (disch := omega) only [hS.glob, wraps, plain, Int.ofNat_eq_natCast, Vx.toN]; omega))) | (refine blq ?_; (first | rfl | omega | (simp (disch := omega) only [hS.glob, wraps, plain, Int.ofNat_eq_natCast]; first | done | rfl | omega | (simp; done) | (simp; omega)) | (simp (disch := omega) only [hS.glob, wraps, plain, Int.ofNat_eq_natCast, Vx.toN]; omega))))) rfl trivial (by rw [hC]; simp)
    · conv => cbv
      repeat (refine ⟨by first | (rw [hW]; show ordOk _ _ _ = true; kernel_rfl) | (first | trivial | omega | (simp (disch := omega) only [hS.glob, wraps, plain, Int.ofNat_eq_natCast]; first | done | omega | trivial | (simp; done) | (simp; omega) | (constructor <;> omega)) | (simp (disch := omega) only [hS.glob, wraps, plain, Int.ofNat_eq_natCast, Vx.toN]; omega)), ?_⟩)
      simp only [hS.tidy]
      cases h3 : ilt i (g k).to
      · conv => cbv
        simp (disch := first | omega | (simp only [hS.glob, wraps, plain, Int.ofNat_eq_natCast]; omega)) only [hS.glob, wraps, plain, Int.ofNat_eq_natCast] at h3
        rw [hVV]
        clear hVV hVA VV VA hW W
        exact V.to (hback (k + 1) ⟨by omega, next (fun h => by have := h.2; omega)⟩ (by omega)) (by (repeat' first | exact trivial | rfl | (refine And.intro ?_ ?_) | (refine sti ?_; (first | rfl | omega | (simp (disch := omega) only [hS.glob, wraps, plain, Int.ofNat_eq_natCast]; first | done | rfl | omega | (simp; done) | (simp; omega)) | (simp (disch := omega) only [hS.glob, wraps, plain, Int.ofNat_eq_natCast, Vx.toN]; omega))) | (refine slq ?_ ?_ ?_ <;> (first | rfl | omega | (simp (disch := omega) only [hS.glob, wraps, plain, Int.ofNat_eq_natCast]; first | done | rfl | omega | (simp; done) | (simp; omega)) | (simp (disch := omega) only [hS.glob, wraps, plain, Int.ofNat_eq_natCast, Vx.toN]; omega))) | (refine ptq ?_ ?_ ?_ <;> (first | rfl | omega | (simp (disch := omega) only [hS.glob, wraps, plain, Int.ofNat_eq_natCast]; first | done | rfl | omega | (simp; done) | (simp; omega)) | (simp (disch := omega) only [hS.glob, wraps, plain, Int.ofNat_eq_natCast, Vx.toN]; omega))) | (refine blq ?_; (first | rfl | omega | (simp (disch := omega) only [hS.glob, wraps, plain, Int.ofNat_eq_natCast]; first | done | rfl | omega | (simp; done) | (simp; omega)) | (simp (disch := omega) only [hS.glob, wraps, plain, Int.ofNat_eq_natCast, Vx.toN]; omega))))) rfl trivial (by rw [hC]; simp)
      · conv => cbv
        simp (disch := first | omega | (simp only [hS.glob, wraps, plain, Int.ofNat_eq_natCast]; omega)) only [hS.glob, wraps, plain, Int.ofNat_eq_natCast] at h2 h3
        rw [hQ]
        exact ⟨rfl, .inr ⟨k, by rw [hA, if_pos ⟨h2, h3⟩], ofN k, by simp (disch := first | omega | (simp only [hS.glob, wraps, plain, Int.ofNat_eq_natCast]; omega)) only [hS.glob, wraps, plain, Int.ofNat_eq_natCast], rfl⟩⟩
end Go.Proofs.Ytandgpkibpggnaa

/- The search. -/
namespace Go.Proofs.Ytandgpkibpggnaa
open Go Vx

def cmpC (x y : Int) : Int := if x < y then -1 else if y < x then 1 else 0
theorem f39_ok (x : Int) : FSpec Try.prog 39 [.int .i64 x] [] (fun r H' => r = .bool false ∧ H' = []) := by
  refine FSpec.of (fn := Try.f39) Try.func39 rfl rfl (by simp) fun C hC => ?_
  obtain ⟨iadd, isub, imul, iquo, irem, iband, ibor, ibxor, ibandn, ishl, ishr, iconv, ieq, ine, ilt, ile, igt, ige, bbeq, bbne, bnot, bband, sseq, ssne, sscat, sssub, sslen, sssz, ssbyte, toN, ofN, addN, subN, eqN, ltB, leN, imx, imn, inb, leb, sslt, ltN, fit, ne0, ge0, ssfit, minN, inR, bcol, bstr, isBy, hS⟩ := names
  refine V.goF (by first | exact trivial | assumption) Try.func39 tl_ok mixed hS.ops [] 400 ?_
  intro VV VA W hVV hVA hW
  conv => cbv
  have e : ine x x = false := by simp (disch := first | omega | (simp only [hS.glob, wraps, plain, Int.ofNat_eq_natCast]; omega)) only [hS.glob, wraps, plain, Int.ofNat_eq_natCast]
  rw [e]
  exact ⟨rfl, trivial⟩
theorem f27_ok (x y : Int) : FSpec Try.prog 27 [.int .i64 x, .int .i64 y] [] (fun r H' => r = .int .i64 (cmpC x y) ∧ H' = []) := by
  obtain ⟨R, hR⟩ : ∃ R, R = cmpC x y := ⟨_, rfl⟩
  rw [← hR]
  refine FSpec.of (fn := Try.f27) Try.func27 rfl rfl (by simp) fun C hC => ?_
  obtain ⟨iadd, isub, imul, iquo, irem, iband, ibor, ibxor, ibandn, ishl, ishr, iconv, ieq, ine, ilt, ile, igt, ige, bbeq, bbne, bnot, bband, sseq, ssne, sscat, sssub, sslen, sssz, ssbyte, toN, ofN, addN, subN, eqN, ltB, leN, imx, imn, inb, leb, sslt, ltN, fit, ne0, ge0, ssfit, minN, inR, bcol, bstr, isBy, hS⟩ := names
  refine V.goF (by first | exact trivial | assumption) Try.func27 tl_ok mixed hS.ops [] 400 ?_
  intro VV VA W hVV hVA hW
  conv => cbv
  rw [hVV]
  clear hVV hVA VV VA hW W
  refine V.call rfl rfl rfl rfl rfl Try.func39 rfl (by decide) [] (by simp) (by simp) (by (first | rfl | ((conv => cbv); (repeat' apply And.intro) <;> first | rfl | trivial | (first | rfl | omega | (simp (disch := omega) only [hS.glob, wraps, plain, Int.ofNat_eq_natCast]; first | done | rfl | omega | (simp; done) | (simp; omega)) | (simp (disch := omega) only [hS.glob, wraps, plain, Int.ofNat_eq_natCast, Vx.toN]; omega))))) rfl (f39_ok x) ?_
  rintro r Hc ⟨rfl, rfl⟩
  refine V.goF (by first | exact trivial | assumption) Try.func27 tl_ok mixed hS.ops [] 400 ?_
  intro VV VA W hVV hVA hW
  conv => cbv
  rw [hVV]
  clear hVV hVA VV VA hW W
  refine V.call rfl rfl rfl rfl rfl Try.func39 rfl (by decide) [] (by simp) (by simp) (by (first | rfl | ((conv => cbv); (repeat' apply And.intro) <;> first | rfl | trivial | (first | rfl | omega | (simp (disch := omega) only [hS.glob, wraps, plain, Int.ofNat_eq_natCast]; first | done | rfl | omega | (simp; done) | (simp; omega)) | (simp (disch := omega) only [hS.glob, wraps, plain, Int.ofNat_eq_natCast, Vx.toN]; omega))))) rfl (f39_ok y) ?_
  rintro r Hc ⟨rfl, rfl⟩
  refine V.goF (by first | exact trivial | assumption) Try.func27 tl_ok mixed hS.ops [] 400 ?_
  intro VV VA W hVV hVA hW
  conv => cbv
  unfold cmpC at hR
  cases h1 : ilt x y
  · conv => cbv
    simp (disch := first | omega | (simp only [hS.glob, wraps, plain, Int.ofNat_eq_natCast]; omega)) only [hS.glob, wraps, plain, Int.ofNat_eq_natCast] at h1
    rw [if_neg (by omega)] at hR
    cases h2 : igt x y
    · conv => cbv
      simp (disch := first | omega | (simp only [hS.glob, wraps, plain, Int.ofNat_eq_natCast]; omega)) only [hS.glob, wraps, plain, Int.ofNat_eq_natCast] at h2
      rw [if_neg (by omega)] at hR
      rw [hR]
      exact ⟨rfl, trivial⟩
    · conv => cbv
      simp (disch := first | omega | (simp only [hS.glob, wraps, plain, Int.ofNat_eq_natCast]; omega)) only [hS.glob, wraps, plain, Int.ofNat_eq_natCast] at h2
      rw [if_pos (by omega)] at hR
      rw [hR]
      exact ⟨rfl, trivial⟩
  · conv => cbv
    simp (disch := first | omega | (simp only [hS.glob, wraps, plain, Int.ofNat_eq_natCast]; omega)) only [hS.glob, wraps, plain, Int.ofNat_eq_natCast] at h1
    rw [if_pos h1] at hR
    rw [hR]
    exact ⟨rfl, trivial⟩
theorem f26_ok (a b c : Int) (d : Bool) (e : ByteArray) (f i R : Int) (hb : 0 ≤ b ∧ b ≤ 9223372036854775807) (hR : R = cmpC (b - 1) i) : FSpec Try.prog 26 [.agg [.int .i64 a, .int .i64 b, .int .i64 c, .bool d, .str e, .int .u64 f], .int .i64 i] [] (fun r H' => r = .int .i64 R ∧ H' = []) := by
  refine (show FSpec Try.prog 26 [.agg [.int .i64 a, .int .i64 b, .int .i64 c, .bool d, .str e, .int .u64 f], .int .i64 i] [] (fun r H' => r = .int .i64 R) from ?_).weaken ?_
  · refine FSpec.of (fn := Try.f26) Try.func26 rfl rfl (by simp) fun C hC => ?_
    obtain ⟨iadd, isub, imul, iquo, irem, iband, ibor, ibxor, ibandn, ishl, ishr, iconv, ieq, ine, ilt, ile, igt, ige, bbeq, bbne, bnot, bband, sseq, ssne, sscat, sssub, sslen, sssz, ssbyte, toN, ofN, addN, subN, eqN, ltB, leN, imx, imn, inb, leb, sslt, ltN, fit, ne0, ge0, ssfit, minN, inR, bcol, bstr, isBy, hS⟩ := names
    refine V.goF (by first | exact trivial | assumption) Try.func26 tl_ok mixed hS.ops [] 400 ?_
    intro VV VA W hVV hVA hW
    conv => cbv
    have e1 : isub .i64 b 1 = b - 1 := by simp (disch := first | omega | (simp only [hS.glob, wraps, plain, Int.ofNat_eq_natCast]; omega)) only [hS.glob, wraps, plain, Int.ofNat_eq_natCast]
    simp only [e1]
    obtain ⟨y, hy⟩ : ∃ y, y = b - 1 := ⟨_, rfl⟩
    rw [← hy] at hR ⊢
    have h27 := f27_ok y i
    rw [← hR] at h27
    rw [hVV]
    clear hVV hVA VV VA hW W
    refine V.call rfl rfl rfl rfl rfl Try.func27 rfl (by decide) [] (by simp) (by simp) (by (first | rfl | ((conv => cbv); (repeat' apply And.intro) <;> first | rfl | trivial | (first | rfl | omega | (simp (disch := omega) only [hS.glob, wraps, plain, Int.ofNat_eq_natCast]; first | done | rfl | omega | (simp; done) | (simp; omega)) | (simp (disch := omega) only [hS.glob, wraps, plain, Int.ofNat_eq_natCast, Vx.toN]; omega))))) rfl h27 ?_
    rintro r Hc ⟨rfl, rfl⟩
    refine V.goF (by first | exact trivial | assumption) Try.func26 tl_ok mixed hS.ops [] 400 ?_
    intro VV VA W hVV hVA hW
    conv => cbv
    trivial
  · rintro r H' rfl
    exact ⟨[], by cases H' <;> simp [heapCov], rfl, Nat.le_refl _, rfl, rfl⟩
end Go.Proofs.Ytandgpkibpggnaa

/- The search: the walk. -/
namespace Go.Proofs.Ytandgpkibpggnaa
open Go Vx

theorem cmpC_neg (x y : Int) : cmpC x y < 0 ↔ x < y := by
  unfold cmpC
  split
  · simp; assumption
  · split <;> simp <;> omega
theorem mid (a b : Nat) (h : a + b ≤ 2000000) : Vx.iconv .i64 (Vx.ishr .u64 (Vx.iconv .u64 (Vx.iadd .i64 (a : Int) (b : Int))) 1) = (((a + b) / 2 : Nat) : Int) := by
  rw [wraps.1 a b (by omega)]
  have e1 : Vx.iconv .u64 ((a : Int) + b) = a + b := by simp (disch := omega) only [wraps]
  have e2 : Vx.ishr .u64 ((a : Int) + b) 1 = (((a + b) / 2 : Nat) : Int) := by
    show ((a : Int) + b).fdiv 2 = _
    rw [Int.fdiv_eq_ediv_of_nonneg _ (by decide)]
    omega
  rw [e1, e2]
  simp (disch := omega) only [wraps]
theorem f25_ok (n : Nat) (hn : n ≤ 1000000) (g : Nat → Sp) (i : Int) (hpos : ∀ j, j < n → 0 ≤ (g j).to ∧ (g j).to ≤ 9223372036854775807) (hmono : ∀ j k, j < k → k < n → (g j).to ≤ (g k).to) : FSpec Try.prog 25 [.rows 6 n (spc g), .int .i64 i, .fn (.func 26) [] []] [] (fun r H' => H' = [] ∧ ∃ (k : Nat) (z : Int) (b : Bool), r = .tup [.int .i64 z, .bool b] ∧ z = k ∧ k ≤ n ∧ (∀ j, j < k → (g j).to - 1 < i) ∧ ∀ j, k ≤ j → j < n → i ≤ (g j).to - 1) := by
  obtain ⟨Q, hQ⟩ : ∃ Q : AV → Hp → Prop, Q = (fun r H' => H' = [] ∧ ∃ (k : Nat) (z : Int) (b : Bool), r = .tup [.int .i64 z, .bool b] ∧ z = k ∧ k ≤ n ∧ (∀ j, j < k → (g j).to - 1 < i) ∧ ∀ j, k ≤ j → j < n → i ≤ (g j).to - 1) := ⟨_, rfl⟩
  rw [← hQ]
  refine FSpec.of (fn := Try.f25) Try.func25 rfl rfl (by simp) fun C hC => ?_
  obtain ⟨iadd, isub, imul, iquo, irem, iband, ibor, ibxor, ibandn, ishl, ishr, iconv, ieq, ine, ilt, ile, igt, ige, bbeq, bbne, bnot, bband, sseq, ssne, sscat, sssub, sslen, sssz, ssbyte, toN, ofN, addN, subN, eqN, ltB, leN, imx, imn, inb, leb, sslt, ltN, fit, ne0, ge0, ssfit, minN, inR, bcol, bstr, isBy, hS⟩ := names
  refine V.goF (by first | exact trivial | assumption) Try.func25 tl_ok mixed hS.ops [] 400 ?_
  intro VV VA W hVV hVA hW
  conv => cbv
  rw [hVV]
  clear hVV hVA VV VA hW W
  refine V.to (s' := [(9, .int .i64 (ofN 0)), (10, .int .i64 (ofN n)), (8, .int .i64 (ofN n)), (0, .rows 6 n (spc g)), (1, .int .i64 i), (2, .fn (.func 26) [] [])]) (H' := []) ?_ (by (repeat' first | exact trivial | rfl | (refine And.intro ?_ ?_) | (refine sti ?_; (first | rfl | omega | (simp (disch := omega) only [hS.glob, wraps, plain, Int.ofNat_eq_natCast]; first | done | rfl | omega | (simp; done) | (simp; omega)) | (simp (disch := omega) only [hS.glob, wraps, plain, Int.ofNat_eq_natCast, Vx.toN]; omega))) | (refine slq ?_ ?_ ?_ <;> (first | rfl | omega | (simp (disch := omega) only [hS.glob, wraps, plain, Int.ofNat_eq_natCast]; first | done | rfl | omega | (simp; done) | (simp; omega)) | (simp (disch := omega) only [hS.glob, wraps, plain, Int.ofNat_eq_natCast, Vx.toN]; omega))) | (refine ptq ?_ ?_ ?_ <;> (first | rfl | omega | (simp (disch := omega) only [hS.glob, wraps, plain, Int.ofNat_eq_natCast]; first | done | rfl | omega | (simp; done) | (simp; omega)) | (simp (disch := omega) only [hS.glob, wraps, plain, Int.ofNat_eq_natCast, Vx.toN]; omega))) | (refine blq ?_; (first | rfl | omega | (simp (disch := omega) only [hS.glob, wraps, plain, Int.ofNat_eq_natCast]; first | done | rfl | omega | (simp; done) | (simp; omega)) | (simp (disch := omega) only [hS.glob, wraps, plain, Int.ofNat_eq_natCast, Vx.toN]; omega))))) rfl trivial (by rw [hC]; simp)
  refine V.loop (γ := Nat × Nat) (fun p => p.1 ≤ p.2 ∧ p.2 ≤ n ∧ (∀ j, j < p.1 → (g j).to - 1 < i) ∧ ∀ j, p.2 ≤ j → j < n → i ≤ (g j).to - 1) (fun p => [(9, .int .i64 (ofN p.1)), (10, .int .i64 (ofN p.2)), (8, .int .i64 (ofN n)), (0, .rows 6 n (spc g)), (1, .int .i64 i), (2, .fn (.func 26) [] [])]) (fun _ => []) (fun p => p.2 - p.1) ?_ (0, n) ⟨Nat.zero_le _, Nat.le_refl _, fun j hj => absurd hj (Nat.not_lt_zero _), fun j h1 h2 => by omega⟩
  rintro ⟨a, b⟩ ⟨hab, hbn, hlo, hhi⟩ hback
  dsimp only at hab hbn hlo hhi hback ⊢
  refine V.goF (by first | exact trivial | assumption) Try.func25 tl_ok mixed hS.ops [] 400 ?_
  intro VV VA W hVV hVA hW
  conv => cbv
  cases h1 : ilt (ofN a) (ofN b)
  · conv => cbv
    simp (disch := first | omega | (simp only [hS.glob, wraps, plain, Int.ofNat_eq_natCast]; omega)) only [hS.glob, wraps, plain, Int.ofNat_eq_natCast] at h1
    obtain rfl : a = b := by omega
    cases h2 : ilt (ofN a) (ofN n)
    · conv => cbv
      rw [hQ]
      exact ⟨rfl, a, ofN a, _, rfl, by simp (disch := first | omega | (simp only [hS.glob, wraps, plain, Int.ofNat_eq_natCast]; omega)) only [hS.glob, wraps, plain, Int.ofNat_eq_natCast], hbn, hlo, hhi⟩
    · conv => cbv
      simp (disch := first | omega | (simp only [hS.glob, wraps, plain, Int.ofNat_eq_natCast]; omega)) only [hS.glob, wraps, plain, Int.ofNat_eq_natCast] at h2
      repeat (refine ⟨by first | (rw [hW]; show ordOk _ _ _ = true; kernel_rfl) | (first | trivial | omega | (simp (disch := omega) only [hS.glob, wraps, plain, Int.ofNat_eq_natCast]; first | done | omega | trivial | (simp; done) | (simp; omega) | (constructor <;> omega)) | (simp (disch := omega) only [hS.glob, wraps, plain, Int.ofNat_eq_natCast, Vx.toN]; omega)), ?_⟩)
      simp only [hS.tidy]
      rw [hVV]
      clear hVV hVA VV VA hW W
      obtain ⟨R, hR⟩ : ∃ R, R = cmpC ((g a).to - 1) i := ⟨_, rfl⟩
      refine V.call rfl rfl rfl rfl rfl Try.func26 rfl (by decide) [] (by simp) (by simp) (by (first | rfl | ((conv => cbv); (repeat' apply And.intro) <;> first | rfl | trivial | (first | rfl | omega | (simp (disch := omega) only [hS.glob, wraps, plain, Int.ofNat_eq_natCast]; first | done | rfl | omega | (simp; done) | (simp; omega)) | (simp (disch := omega) only [hS.glob, wraps, plain, Int.ofNat_eq_natCast, Vx.toN]; omega))))) rfl (f26_ok (g a).fr (g a).to (g a).po (g a).co (g a).ru (g a).sc i R (hpos a (by omega)) hR) ?_
      rintro r Hc ⟨rfl, rfl⟩
      refine V.goF (by first | exact trivial | assumption) Try.func25 tl_ok mixed hS.ops [] 400 ?_
      intro VV VA W hVV hVA hW
      conv => cbv
      rw [hQ]
      exact ⟨rfl, a, ofN a, _, rfl, by simp (disch := first | omega | (simp only [hS.glob, wraps, plain, Int.ofNat_eq_natCast]; omega)) only [hS.glob, wraps, plain, Int.ofNat_eq_natCast], hbn, hlo, hhi⟩
  · conv => cbv
    simp (disch := first | omega | (simp only [hS.glob, wraps, plain, Int.ofNat_eq_natCast]; omega)) only [hS.glob, wraps, plain, Int.ofNat_eq_natCast] at h1
    obtain ⟨m, hm⟩ : ∃ m, m = (a + b) / 2 := ⟨_, rfl⟩
    have em : iconv .i64 (ishr .u64 (iconv .u64 (iadd .i64 (ofN a) (ofN b))) 1) = ofN m := by simp only [hS.glob, Vx.ofN]; rw [hm]; exact mid a b (by omega)
    simp only [em]
    repeat (refine ⟨by first | (rw [hW]; show ordOk _ _ _ = true; kernel_rfl) | (first | trivial | omega | (simp (disch := omega) only [hS.glob, wraps, plain, Int.ofNat_eq_natCast]; first | done | omega | trivial | (simp; done) | (simp; omega) | (constructor <;> omega)) | (simp (disch := omega) only [hS.glob, wraps, plain, Int.ofNat_eq_natCast, Vx.toN]; omega)), ?_⟩)
    simp only [hS.tidy]
    rw [hVV]
    clear hVV hVA VV VA hW W
    obtain ⟨R, hR⟩ : ∃ R, R = cmpC ((g m).to - 1) i := ⟨_, rfl⟩
    refine V.call rfl rfl rfl rfl rfl Try.func26 rfl (by decide) [] (by simp) (by simp) (by (first | rfl | ((conv => cbv); (repeat' apply And.intro) <;> first | rfl | trivial | (first | rfl | omega | (simp (disch := omega) only [hS.glob, wraps, plain, Int.ofNat_eq_natCast]; first | done | rfl | omega | (simp; done) | (simp; omega)) | (simp (disch := omega) only [hS.glob, wraps, plain, Int.ofNat_eq_natCast, Vx.toN]; omega))))) rfl (f26_ok (g m).fr (g m).to (g m).po (g m).co (g m).ru (g m).sc i R (hpos m (by omega)) hR) ?_
    rintro r Hc ⟨rfl, rfl⟩
    refine V.goF (by first | exact trivial | assumption) Try.func25 tl_ok mixed hS.ops [] 400 ?_
    intro VV VA W hVV hVA hW
    conv => cbv
    have hc := cmpC_neg ((g m).to - 1) i
    rw [← hR] at hc
    cases h2 : ilt R 0
    · conv => cbv
      simp (disch := first | omega | (simp only [hS.glob, wraps, plain, Int.ofNat_eq_natCast]; omega)) only [hS.glob, wraps, plain, Int.ofNat_eq_natCast] at h2
      rw [hVV]
      clear hVV hVA VV VA hW W
      refine V.to (hback (a, m) ⟨by simp only; omega, by simp only; omega, hlo, fun j h3 h4 => ?_⟩ (by simp only; omega)) (by (repeat' first | exact trivial | rfl | (refine And.intro ?_ ?_) | (refine sti ?_; (first | rfl | omega | (simp (disch := omega) only [hS.glob, wraps, plain, Int.ofNat_eq_natCast]; first | done | rfl | omega | (simp; done) | (simp; omega)) | (simp (disch := omega) only [hS.glob, wraps, plain, Int.ofNat_eq_natCast, Vx.toN]; omega))) | (refine slq ?_ ?_ ?_ <;> (first | rfl | omega | (simp (disch := omega) only [hS.glob, wraps, plain, Int.ofNat_eq_natCast]; first | done | rfl | omega | (simp; done) | (simp; omega)) | (simp (disch := omega) only [hS.glob, wraps, plain, Int.ofNat_eq_natCast, Vx.toN]; omega))) | (refine ptq ?_ ?_ ?_ <;> (first | rfl | omega | (simp (disch := omega) only [hS.glob, wraps, plain, Int.ofNat_eq_natCast]; first | done | rfl | omega | (simp; done) | (simp; omega)) | (simp (disch := omega) only [hS.glob, wraps, plain, Int.ofNat_eq_natCast, Vx.toN]; omega))) | (refine blq ?_; (first | rfl | omega | (simp (disch := omega) only [hS.glob, wraps, plain, Int.ofNat_eq_natCast]; first | done | rfl | omega | (simp; done) | (simp; omega)) | (simp (disch := omega) only [hS.glob, wraps, plain, Int.ofNat_eq_natCast, Vx.toN]; omega))))) rfl trivial (by rw [hC]; simp)
      simp only at h3
      have hge : i ≤ (g m).to - 1 := by
        apply Classical.byContradiction
        intro hh
        have := hc.2 (by omega)
        omega
      rcases Nat.lt_or_eq_of_le h3 with h | rfl
      · have := hmono m j h h4; omega
      · exact hge
    · conv => cbv
      simp (disch := first | omega | (simp only [hS.glob, wraps, plain, Int.ofNat_eq_natCast]; omega)) only [hS.glob, wraps, plain, Int.ofNat_eq_natCast] at h2
      rw [hVV]
      clear hVV hVA VV VA hW W
      refine V.to (hback (m + 1, b) ⟨by simp only; omega, hbn, fun j h3 => ?_, hhi⟩ (by simp only; omega)) (by (repeat' first | exact trivial | rfl | (refine And.intro ?_ ?_) | (refine sti ?_; (first | rfl | omega | (simp (disch := omega) only [hS.glob, wraps, plain, Int.ofNat_eq_natCast]; first | done | rfl | omega | (simp; done) | (simp; omega)) | (simp (disch := omega) only [hS.glob, wraps, plain, Int.ofNat_eq_natCast, Vx.toN]; omega))) | (refine slq ?_ ?_ ?_ <;> (first | rfl | omega | (simp (disch := omega) only [hS.glob, wraps, plain, Int.ofNat_eq_natCast]; first | done | rfl | omega | (simp; done) | (simp; omega)) | (simp (disch := omega) only [hS.glob, wraps, plain, Int.ofNat_eq_natCast, Vx.toN]; omega))) | (refine ptq ?_ ?_ ?_ <;> (first | rfl | omega | (simp (disch := omega) only [hS.glob, wraps, plain, Int.ofNat_eq_natCast]; first | done | rfl | omega | (simp; done) | (simp; omega)) | (simp (disch := omega) only [hS.glob, wraps, plain, Int.ofNat_eq_natCast, Vx.toN]; omega))) | (refine blq ?_; (first | rfl | omega | (simp (disch := omega) only [hS.glob, wraps, plain, Int.ofNat_eq_natCast]; first | done | rfl | omega | (simp; done) | (simp; omega)) | (simp (disch := omega) only [hS.glob, wraps, plain, Int.ofNat_eq_natCast, Vx.toN]; omega))))) rfl trivial (by rw [hC]; simp)
      simp only at h3
      have hlt := hc.1 h2
      rcases Nat.lt_succ_iff_lt_or_eq.1 h3 with h | rfl
      · have := hmono j m h (by omega); omega
      · exact hlt
end Go.Proofs.Ytandgpkibpggnaa

/- Where a span is, by the program. -/
namespace Go.Proofs.Ytandgpkibpggnaa
open Go Vx

/-- Spans in order, none empty, none far. -/
structure Ord (g : Nat → Sp) (n : Nat) : Prop where
  one : ∀ j, j < n → 0 ≤ (g j).fr ∧ (g j).fr < (g j).to ∧ (g j).to ≤ 9223372036854775807
  two : ∀ j k, j < k → k < n → (g j).to ≤ (g k).fr
theorem atF_some {g : Nat → Sp} {i : Int} : ∀ (n a k : Nat), a ≤ k → k < a + n → inSp (g k) i → (∀ j, a ≤ j → j < k → ¬ inSp (g j) i) → atF g i a n = some k
  | 0, a, k, h1, h2, _, _ => by omega
  | n + 1, a, k, h1, h2, h3, h4 => by
    rw [atF]
    by_cases e : a = k
    · subst e; rw [if_pos h3]
    · rw [if_neg (h4 a (Nat.le_refl _) (by omega))]
      exact atF_some n (a + 1) k (by omega) (by omega) h3 (fun j h5 h6 => h4 j (by omega) h6)
theorem atF_none {g : Nat → Sp} {i : Int} : ∀ (n a : Nat), (∀ j, a ≤ j → j < a + n → ¬ inSp (g j) i) → atF g i a n = none
  | 0, a, _ => rfl
  | n + 1, a, h => by
    rw [atF, if_neg (h a (Nat.le_refl _) (by omega))]
    exact atF_none n (a + 1) (fun j h1 h2 => h j (by omega) (by omega))
theorem f11_ok (n : Nat) (hn : n ≤ 1000000) (g : Nat → Sp) (ho : Ord g n) (i : Int) (A : Option Nat) (hA : A = atF g i 0 n) : FSpec Try.prog 11 [.rows 6 n (spc g), .int .i64 i] [] (fun r H' => H' = [] ∧ ((A = none ∧ r = .tup [.int .i64 0, .bool false]) ∨ ∃ k : Nat, A = some k ∧ ∃ z : Int, z = k ∧ r = .tup [.int .i64 z, .bool true])) := by
  obtain ⟨Q, hQ⟩ : ∃ Q : AV → Hp → Prop, Q = (fun r H' => H' = [] ∧ ((A = none ∧ r = .tup [.int .i64 0, .bool false]) ∨ ∃ k : Nat, A = some k ∧ ∃ z : Int, z = k ∧ r = .tup [.int .i64 z, .bool true])) := ⟨_, rfl⟩
  rw [← hQ]
  refine FSpec.of (fn := Try.f11) Try.func11 rfl rfl (by simp) fun C hC => ?_
  obtain ⟨iadd, isub, imul, iquo, irem, iband, ibor, ibxor, ibandn, ishl, ishr, iconv, ieq, ine, ilt, ile, igt, ige, bbeq, bbne, bnot, bband, sseq, ssne, sscat, sssub, sslen, sssz, ssbyte, toN, ofN, addN, subN, eqN, ltB, leN, imx, imn, inb, leb, sslt, ltN, fit, ne0, ge0, ssfit, minN, inR, bcol, bstr, isBy, hS⟩ := names
  refine V.goF (by first | exact trivial | assumption) Try.func11 tl_ok mixed hS.ops [] 400 ?_
  intro VV VA W hVV hVA hW
  conv => cbv
  rw [hVV]
  clear hVV hVA VV VA hW W
  refine V.call rfl rfl rfl rfl rfl Try.func25 rfl (by decide) [] (by simp) (by simp) (by (first | rfl | ((conv => cbv); (repeat' apply And.intro) <;> first | rfl | trivial | (first | rfl | omega | (simp (disch := omega) only [hS.glob, wraps, plain, Int.ofNat_eq_natCast]; first | done | rfl | omega | (simp; done) | (simp; omega)) | (simp (disch := omega) only [hS.glob, wraps, plain, Int.ofNat_eq_natCast, Vx.toN]; omega))))) rfl (f25_ok n hn g i (fun j hj => by have := ho.one j hj; omega) (fun j k h1 h2 => by have := ho.two j k h1 h2; have := ho.one k h2; omega)) ?_
  rintro r Hc ⟨rfl, k, z, b, rfl, hz, hk, hlo, hhi⟩
  refine V.goF (by first | exact trivial | assumption) Try.func11 tl_ok mixed hS.ops [] 400 ?_
  intro VV VA W hVV hVA hW
  conv => cbv
  cases h1 : ieq z (ofN n)
  · conv => cbv
    simp (disch := first | omega | (simp only [hS.glob, wraps, plain, Int.ofNat_eq_natCast]; omega)) only [hS.glob, wraps, plain, Int.ofNat_eq_natCast] at h1
    have hkn : k < n := by omega
    have ez : z = ofN k := by simp (disch := first | omega | (simp only [hS.glob, wraps, plain, Int.ofNat_eq_natCast]; omega)) only [hS.glob, wraps, plain, Int.ofNat_eq_natCast]; exact hz
    simp only [ez]
    repeat (refine ⟨by first | (rw [hW]; show ordOk _ _ _ = true; kernel_rfl) | (first | trivial | omega | (simp (disch := omega) only [hS.glob, wraps, plain, Int.ofNat_eq_natCast]; first | done | omega | trivial | (simp; done) | (simp; omega) | (constructor <;> omega)) | (simp (disch := omega) only [hS.glob, wraps, plain, Int.ofNat_eq_natCast, Vx.toN]; omega)), ?_⟩)
    simp only [hS.tidy]
    cases h2 : igt (g k).fr i
    · conv => cbv
      simp (disch := first | omega | (simp only [hS.glob, wraps, plain, Int.ofNat_eq_natCast]; omega)) only [hS.glob, wraps, plain, Int.ofNat_eq_natCast] at h2
      rw [hQ]
      refine ⟨rfl, .inr ⟨k, ?_, ofN k, by simp (disch := first | omega | (simp only [hS.glob, wraps, plain, Int.ofNat_eq_natCast]; omega)) only [hS.glob, wraps, plain, Int.ofNat_eq_natCast], rfl⟩⟩
      rw [hA]
      exact atF_some n 0 k (Nat.zero_le _) (by omega) ⟨h2, by have := hhi k (Nat.le_refl _) hkn; omega⟩ (fun j _ h3 h4 => by have := hlo j h3; have := h4.2; omega)
    · conv => cbv
      simp (disch := first | omega | (simp only [hS.glob, wraps, plain, Int.ofNat_eq_natCast]; omega)) only [hS.glob, wraps, plain, Int.ofNat_eq_natCast] at h2
      rw [hQ]
      refine ⟨rfl, .inl ⟨?_, rfl⟩⟩
      rw [hA]
      refine atF_none n 0 (fun j _ h3 h4 => ?_)
      rcases Nat.lt_trichotomy j k with h | rfl | h
      · have := hlo j h; have := h4.2; omega
      · have := h4.1; omega
      · have := ho.two k j h (by omega); have := ho.one k hkn; have := h4.1; omega
  · conv => cbv
    simp (disch := first | omega | (simp only [hS.glob, wraps, plain, Int.ofNat_eq_natCast]; omega)) only [hS.glob, wraps, plain, Int.ofNat_eq_natCast] at h1
    rw [hQ]
    refine ⟨rfl, .inl ⟨?_, rfl⟩⟩
    rw [hA]
    exact atF_none n 0 (fun j _ h3 h4 => by have := hlo j (by omega); have := h4.2; omega)
end Go.Proofs.Ytandgpkibpggnaa
