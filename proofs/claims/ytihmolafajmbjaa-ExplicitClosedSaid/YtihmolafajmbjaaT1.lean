/- Contracts of functions by an evaluator of the model: its part T1. -/
import Derived.Test.YtihmolafajmbjaaProg
import Derived.Test.YtihmolafajmbjaaV2
import Derived.KernelRfl
set_option linter.all false
/- The types of the program, as its table tells them; the kernel holds them against the program. -/
namespace Go.Proofs.Ytihmolafajmbjaa
open Go Vx
def tll : TabL := [
  (1, ⟨.func, 1, 8, [.nil .func]⟩),
  (2, ⟨.int .i64, 1, 8, [.int .i64 0]⟩),
  (3, ⟨.int .i64, 1, 8, [.int .i64 0]⟩),
  (4, ⟨.bool, 1, 1, [.bool false]⟩),
  (5, ⟨.int .u8, 1, 1, [.int .u8 0]⟩),
  (9, ⟨.str, 1, 16, [.str ByteArray.empty]⟩),
  (12, ⟨.int .u64, 1, 8, [.int .u64 0]⟩),
  (17, ⟨.ptr, 1, 8, [.nil .ptr]⟩),
  (20, ⟨.iface, 1, 16, [.nil .iface]⟩),
  (21, ⟨.int .i32, 1, 4, [.int .i32 0]⟩),
  (22, ⟨.slice 34, 1, 24, [.nil .slice]⟩),
  (23, ⟨.func, 1, 8, [.nil .func]⟩),
  (24, ⟨.func, 1, 8, [.nil .func]⟩),
  (25, ⟨.slice 3, 1, 24, [.nil .slice]⟩),
  (26, ⟨.func, 1, 8, [.nil .func]⟩),
  (27, ⟨.func, 1, 8, [.nil .func]⟩),
  (28, ⟨.func, 1, 8, [.nil .func]⟩),
  (29, ⟨.func, 1, 8, [.nil .func]⟩),
  (30, ⟨.int .i64, 1, 8, [.int .i64 0]⟩),
  (32, ⟨.func, 1, 8, [.nil .func]⟩),
  (33, ⟨.func, 1, 8, [.nil .func]⟩),
  (34, ⟨.int .i64, 1, 8, [.int .i64 0]⟩),
  (35, ⟨.array 2 3, 2, 16, [.int .i64 0, .int .i64 0]⟩),
  (36, ⟨.func, 1, 8, [.nil .func]⟩),
  (37, ⟨.func, 1, 8, [.nil .func]⟩),
  (38, ⟨.array 3 22, 3, 72, [.nil .slice, .nil .slice, .nil .slice]⟩),
  (39, ⟨.func, 1, 8, [.nil .func]⟩),
  (40, ⟨.int .u64, 1, 8, [.int .u64 0]⟩),
  (41, ⟨.func, 1, 8, [.nil .func]⟩),
  (42, ⟨.func, 1, 8, [.nil .func]⟩),
  (43, ⟨.func, 1, 8, [.nil .func]⟩),
  (44, ⟨.func, 1, 8, [.nil .func]⟩),
  (45, ⟨.func, 1, 8, [.nil .func]⟩),
  (46, ⟨.ptr, 1, 8, [.nil .ptr]⟩),
  (47, ⟨.slice 66, 1, 24, [.nil .slice]⟩),
  (48, ⟨.struct [(0, 1, false), (1, 1, false), (2, 1, false), (3, 1, false), (4, 1, false), (5, 1, false), (6, 1, false), (7, 1, false), (8, 1, false)], 9, 152, [.nil .slice, .nil .slice, .int .i64 0, .nil .slice, .int .i64 0, .int .i64 0, .int .i64 0, .nil .slice, .nil .slice]⟩),
  (49, ⟨.struct [(0, 1, false), (1, 1, false), (2, 1, false), (3, 1, false), (4, 1, false), (5, 1, false), (6, 1, false), (7, 1, false), (8, 1, false)], 9, 152, [.nil .slice, .nil .slice, .int .i64 0, .nil .slice, .int .i64 0, .int .i64 0, .int .i64 0, .nil .slice, .nil .slice]⟩),
  (50, ⟨.map, 1, 8, [.nil .map]⟩),
  (51, ⟨.func, 1, 8, [.nil .func]⟩),
  (52, ⟨.func, 1, 8, [.nil .func]⟩),
  (54, ⟨.func, 1, 8, [.nil .func]⟩),
  (55, ⟨.ptr, 1, 8, [.nil .ptr]⟩),
  (56, ⟨.func, 1, 8, [.nil .func]⟩),
  (57, ⟨.func, 1, 8, [.nil .func]⟩),
  (58, ⟨.func, 1, 8, [.nil .func]⟩),
  (59, ⟨.struct [(0, 1, false), (1, 1, false), (2, 1, false)], 3, 24, [.int .i64 0, .int .i64 0, .bool false]⟩),
  (60, ⟨.struct [(0, 1, false), (1, 1, false), (2, 1, false)], 3, 24, [.int .i64 0, .int .i64 0, .bool false]⟩),
  (61, ⟨.func, 1, 8, [.nil .func]⟩),
  (62, ⟨.func, 1, 8, [.nil .func]⟩),
  (64, ⟨.func, 1, 8, [.nil .func]⟩),
  (65, ⟨.struct [(0, 1, false), (1, 1, false), (2, 1, false)], 3, 24, [.int .i64 0, .int .i64 0, .bool false]⟩),
  (66, ⟨.struct [(0, 1, false), (1, 1, false), (2, 1, false)], 3, 24, [.int .i64 0, .int .i64 0, .bool false]⟩),
  (67, ⟨.func, 1, 8, [.nil .func]⟩),
  (68, ⟨.func, 1, 8, [.nil .func]⟩),
  (69, ⟨.slice 60, 1, 24, [.nil .slice]⟩),
  (70, ⟨.struct [(0, 1, false), (1, 1, false), (2, 1, false), (3, 1, false)], 4, 48, [.nil .slice, .int .i64 0, .int .i64 0, .int .i64 0]⟩),
  (71, ⟨.struct [(0, 1, false), (1, 1, false), (2, 1, false), (3, 1, false)], 4, 48, [.nil .slice, .int .i64 0, .int .i64 0, .int .i64 0]⟩),
  (72, ⟨.func, 1, 8, [.nil .func]⟩),
  (73, ⟨.int .u32, 1, 4, [.int .u32 0]⟩),
  (75, ⟨.func, 1, 8, [.nil .func]⟩),
  (76, ⟨.int .u64, 1, 8, [.int .u64 0]⟩),
  (78, ⟨.func, 1, 8, [.nil .func]⟩),
  (79, ⟨.func, 1, 8, [.nil .func]⟩),
  (80, ⟨.func, 1, 8, [.nil .func]⟩),
  (86, ⟨.func, 1, 8, [.nil .func]⟩),
  (90, ⟨.ptr, 1, 8, [.nil .ptr]⟩)]
def tl : Tab := fun t => tabL tll t
theorem tl_ok : TabOk Go.Proofs.Try.prog tl := tabOk_of (by kernel_rfl)
end Go.Proofs.Ytihmolafajmbjaa

/- Two lists of numbers held against each other. -/
namespace Go.Proofs.Ytihmolafajmbjaa
open Go Vx
theorem mixed : Try.prog.follows .mixedOrders = true := by kernel_rfl

theorem f9_ok (n m : Nat) (xs ys : Nat → Int) (R : Bool) (hR : R = true ↔ n = m ∧ ∀ j, j < n → xs j = ys j) : FSpec Try.prog 9 [.rows 1 n (icol .i64 xs), .rows 1 m (icol .i64 ys)] [] (fun r H' => r = .bool R ∧ H' = []) := by
  refine FSpec.of (fn := Try.f9) Try.func9 rfl rfl (by simp) fun C hC => ?_
  obtain ⟨iadd, isub, imul, iquo, irem, iband, ibor, ibxor, ibandn, ishl, ishr, iconv, ieq, ine, ilt, ile, igt, ige, bbeq, bbne, bnot, bband, sseq, ssne, sscat, sssub, sslen, sssz, ssbyte, toN, ofN, addN, subN, eqN, ltB, leN, imx, imn, inb, leb, sslt, ltN, fit, ne0, ge0, ssfit, minN, inR, hS⟩ := names
  refine V.rowsLen 0 (sz := 1) (n := n) rfl fun hx => ?_
  refine V.rowsLen 1 (sz := 1) (n := m) rfl fun hy => ?_
  simp (disch := first | omega | (simp only [hS.glob, wraps, plain, Int.ofNat_eq_natCast]; omega)) only [hS.glob, wraps, plain, Int.ofNat_eq_natCast] at hx
  simp (disch := first | omega | (simp only [hS.glob, wraps, plain, Int.ofNat_eq_natCast]; omega)) only [hS.glob, wraps, plain, Int.ofNat_eq_natCast] at hy
  refine V.go Try.func9 tl_ok mixed hS.ops [] 400 ?_
  intro VV VA W hVV hVA hW
  conv => cbv
  split <;> rename_i h
  · conv => cbv
    simp (disch := first | omega | (simp only [hS.glob, wraps, plain, Int.ofNat_eq_natCast]; omega)) only [hS.glob, wraps, plain, Int.ofNat_eq_natCast] at h
    refine ⟨?_, trivial⟩
    congr 1
    cases R
    · rfl
    · have := (hR.1 rfl).1; omega
  · conv => cbv
    simp (disch := first | omega | (simp only [hS.glob, wraps, plain, Int.ofNat_eq_natCast]; omega)) only [hS.glob, wraps, plain, Int.ofNat_eq_natCast] at h
    have hl : n = m := by omega
    rw [hVV]
    refine V.to (s' := [(5, .int .i64 (ofN 0)), (0, .rows 1 n (icol .i64 xs)), (1, .rows 1 m (icol .i64 ys))]) (H' := []) ?_ (by (repeat' first | exact trivial | rfl | (refine And.intro ?_ ?_) | (refine sti ?_; (first | rfl | omega | (simp (disch := omega) only [hS.glob, wraps, plain, Int.ofNat_eq_natCast]; first | done | rfl | omega | (simp; done) | (simp; omega)) | (simp (disch := omega) only [hS.glob, wraps, plain, Int.ofNat_eq_natCast, Vx.toN]; omega))) | (refine slq ?_ ?_ ?_ <;> (first | rfl | omega | (simp (disch := omega) only [hS.glob, wraps, plain, Int.ofNat_eq_natCast]; first | done | rfl | omega | (simp; done) | (simp; omega)) | (simp (disch := omega) only [hS.glob, wraps, plain, Int.ofNat_eq_natCast, Vx.toN]; omega))) | (refine ptq ?_ ?_ ?_ <;> (first | rfl | omega | (simp (disch := omega) only [hS.glob, wraps, plain, Int.ofNat_eq_natCast]; first | done | rfl | omega | (simp; done) | (simp; omega)) | (simp (disch := omega) only [hS.glob, wraps, plain, Int.ofNat_eq_natCast, Vx.toN]; omega))) | (refine blq ?_; (first | rfl | omega | (simp (disch := omega) only [hS.glob, wraps, plain, Int.ofNat_eq_natCast]; first | done | rfl | omega | (simp; done) | (simp; omega)) | (simp (disch := omega) only [hS.glob, wraps, plain, Int.ofNat_eq_natCast, Vx.toN]; omega))))) rfl trivial (by rw [hC]; simp)
    refine V.loop (γ := Nat) (fun i => i ≤ n ∧ ∀ j, j < i → xs j = ys j) (fun i => [(5, .int .i64 (ofN i)), (0, .rows 1 n (icol .i64 xs)), (1, .rows 1 m (icol .i64 ys))]) (fun _ => []) (fun i => n - i) ?_ 0 ⟨Nat.zero_le _, fun j hj => by omega⟩
    rintro i ⟨hi, heq⟩ hback
    clear hVV hVA VV VA hW W
    refine V.go Try.func9 tl_ok mixed hS.ops [] 400 ?_
    intro VV VA W hVV hVA hW
    conv => cbv
    split <;> rename_i h2
    · conv => cbv
      simp (disch := first | omega | (simp only [hS.glob, wraps, plain, Int.ofNat_eq_natCast]; omega)) only [hS.glob, wraps, plain, Int.ofNat_eq_natCast] at h2
      repeat (refine ⟨by first | (rw [hW]; show ordOk _ _ _ = true; kernel_rfl) | (first | trivial | omega | (simp (disch := omega) only [hS.glob, wraps, plain, Int.ofNat_eq_natCast]; first | done | omega | trivial | (simp; done) | (simp; omega) | (constructor <;> omega)) | (simp (disch := omega) only [hS.glob, wraps, plain, Int.ofNat_eq_natCast, Vx.toN]; omega)), ?_⟩)
      split <;> rename_i h3
      · conv => cbv
        simp (disch := first | omega | (simp only [hS.glob, wraps, plain, Int.ofNat_eq_natCast]; omega)) only [hS.glob, wraps, plain, Int.ofNat_eq_natCast] at h3
        refine ⟨?_, trivial⟩
        congr 1
        cases R
        · rfl
        · exact absurd ((hR.1 rfl).2 i (by omega)) h3
      · conv => cbv
        simp (disch := first | omega | (simp only [hS.glob, wraps, plain, Int.ofNat_eq_natCast]; omega)) only [hS.glob, wraps, plain, Int.ofNat_eq_natCast] at h3
        rw [hVV]
        refine V.to (hback (i+1) ⟨by omega, fun j hj => ?_⟩ (by omega)) (by (repeat' first | exact trivial | rfl | (refine And.intro ?_ ?_) | (refine sti ?_; (first | rfl | omega | (simp (disch := omega) only [hS.glob, wraps, plain, Int.ofNat_eq_natCast]; first | done | rfl | omega | (simp; done) | (simp; omega)) | (simp (disch := omega) only [hS.glob, wraps, plain, Int.ofNat_eq_natCast, Vx.toN]; omega))) | (refine slq ?_ ?_ ?_ <;> (first | rfl | omega | (simp (disch := omega) only [hS.glob, wraps, plain, Int.ofNat_eq_natCast]; first | done | rfl | omega | (simp; done) | (simp; omega)) | (simp (disch := omega) only [hS.glob, wraps, plain, Int.ofNat_eq_natCast, Vx.toN]; omega))) | (refine ptq ?_ ?_ ?_ <;> (first | rfl | omega | (simp (disch := omega) only [hS.glob, wraps, plain, Int.ofNat_eq_natCast]; first | done | rfl | omega | (simp; done) | (simp; omega)) | (simp (disch := omega) only [hS.glob, wraps, plain, Int.ofNat_eq_natCast, Vx.toN]; omega))) | (refine blq ?_; (first | rfl | omega | (simp (disch := omega) only [hS.glob, wraps, plain, Int.ofNat_eq_natCast]; first | done | rfl | omega | (simp; done) | (simp; omega)) | (simp (disch := omega) only [hS.glob, wraps, plain, Int.ofNat_eq_natCast, Vx.toN]; omega))))) rfl trivial (by rw [hC]; simp)
        rcases Nat.lt_succ_iff_lt_or_eq.1 hj with h | rfl
        · exact heq j h
        · exact h3
    · conv => cbv
      simp (disch := first | omega | (simp only [hS.glob, wraps, plain, Int.ofNat_eq_natCast]; omega)) only [hS.glob, wraps, plain, Int.ofNat_eq_natCast] at h2
      refine ⟨?_, trivial⟩
      congr 1
      symm
      rw [hR]
      exact ⟨hl, fun j hj => heq j (by omega)⟩
#print axioms f9_ok
end Go.Proofs.Ytihmolafajmbjaa

/- Which classes begin, and are removed. -/
namespace Go.Proofs.Ytihmolafajmbjaa
open Go Vx

def begC (c : Int) : Bool := c == 19 || c == 20 || c == 21
def remC (c : Int) : Bool := c == 14 || c == 16 || c == 15 || c == 17 || c == 18 || c == 9
def knownC (c : Int) : Int := if c < 0 ∨ c > 22 then 13 else c

theorem f21_ok (c : Int) (R : Bool) (hR : R = begC c) : FSpec Try.prog 21 [.int .i64 c] [] (fun r H' => r = .bool R ∧ H' = []) := by
  refine FSpec.of (fn := Try.f21) Try.func21 rfl rfl (by simp) fun C hC => ?_
  obtain ⟨iadd, isub, imul, iquo, irem, iband, ibor, ibxor, ibandn, ishl, ishr, iconv, ieq, ine, ilt, ile, igt, ige, bbeq, bbne, bnot, bband, sseq, ssne, sscat, sssub, sslen, sssz, ssbyte, toN, ofN, addN, subN, eqN, ltB, leN, imx, imn, inb, leb, sslt, ltN, fit, ne0, ge0, ssfit, minN, inR, hS⟩ := names
  refine V.go Try.func21 tl_ok mixed hS.ops [] 400 ?_
  intro VV VA W hVV hVA hW
  conv => cbv
  cases e1 : ieq c 19 <;> (conv => cbv)
  rotate_left
  · simp only [hS.glob, plain] at e1; subst hR; exact ⟨blq (by simp [begC, e1]), trivial⟩
  cases e2 : ieq c 20 <;> (conv => cbv)
  rotate_left
  · simp only [hS.glob, plain] at e2; subst hR; exact ⟨blq (by simp [begC, e2]), trivial⟩
  simp only [hS.glob, plain] at e1 e2
  subst hR
  refine ⟨?_, trivial⟩
  cases e3 : ieq c 21 <;> simp only [hS.glob, plain] at e3 <;> exact blq (by simp [begC, e1, e2, e3])
theorem f24_ok (c : Int) (R : Bool) (hR : R = begC c) : FSpec Try.prog 24 [.int .i64 c] [] (fun r H' => r = .bool R ∧ H' = []) := by
  refine FSpec.of (fn := Try.f24) Try.func24 rfl rfl (by simp) fun C hC => ?_
  obtain ⟨iadd, isub, imul, iquo, irem, iband, ibor, ibxor, ibandn, ishl, ishr, iconv, ieq, ine, ilt, ile, igt, ige, bbeq, bbne, bnot, bband, sseq, ssne, sscat, sssub, sslen, sssz, ssbyte, toN, ofN, addN, subN, eqN, ltB, leN, imx, imn, inb, leb, sslt, ltN, fit, ne0, ge0, ssfit, minN, inR, hS⟩ := names
  refine V.go Try.func24 tl_ok mixed hS.ops [] 400 ?_
  intro VV VA W hVV hVA hW
  conv => cbv
  cases e1 : ieq c 19 <;> (conv => cbv)
  rotate_left
  · simp only [hS.glob, plain] at e1; subst hR; exact ⟨blq (by simp [begC, e1]), trivial⟩
  cases e2 : ieq c 20 <;> (conv => cbv)
  rotate_left
  · simp only [hS.glob, plain] at e2; subst hR; exact ⟨blq (by simp [begC, e2]), trivial⟩
  simp only [hS.glob, plain] at e1 e2
  subst hR
  refine ⟨?_, trivial⟩
  cases e3 : ieq c 21 <;> simp only [hS.glob, plain] at e3 <;> exact blq (by simp [begC, e1, e2, e3])
theorem f17_ok (c : Int) (R : Bool) (hR : R = remC c) : FSpec Try.prog 17 [.int .i64 c] [] (fun r H' => r = .bool R ∧ H' = []) := by
  refine FSpec.of (fn := Try.f17) Try.func17 rfl rfl (by simp) fun C hC => ?_
  obtain ⟨iadd, isub, imul, iquo, irem, iband, ibor, ibxor, ibandn, ishl, ishr, iconv, ieq, ine, ilt, ile, igt, ige, bbeq, bbne, bnot, bband, sseq, ssne, sscat, sssub, sslen, sssz, ssbyte, toN, ofN, addN, subN, eqN, ltB, leN, imx, imn, inb, leb, sslt, ltN, fit, ne0, ge0, ssfit, minN, inR, hS⟩ := names
  refine V.go Try.func17 tl_ok mixed hS.ops [] 400 ?_
  intro VV VA W hVV hVA hW
  conv => cbv
  cases e1 : ieq c 14 <;> (conv => cbv)
  rotate_left
  · simp only [hS.glob, plain] at e1; subst hR; exact ⟨blq (by simp [remC, e1]), trivial⟩
  cases e2 : ieq c 16 <;> (conv => cbv)
  rotate_left
  · simp only [hS.glob, plain] at e2; subst hR; exact ⟨blq (by simp [remC, e2]), trivial⟩
  cases e3 : ieq c 15 <;> (conv => cbv)
  rotate_left
  · simp only [hS.glob, plain] at e3; subst hR; exact ⟨blq (by simp [remC, e3]), trivial⟩
  cases e4 : ieq c 17 <;> (conv => cbv)
  rotate_left
  · simp only [hS.glob, plain] at e4; subst hR; exact ⟨blq (by simp [remC, e4]), trivial⟩
  cases e5 : ieq c 18 <;> (conv => cbv)
  rotate_left
  · simp only [hS.glob, plain] at e5; subst hR; exact ⟨blq (by simp [remC, e5]), trivial⟩
  simp only [hS.glob, plain] at e1 e2 e3 e4 e5
  subst hR
  refine ⟨?_, trivial⟩
  cases e6 : ieq c 9 <;> simp only [hS.glob, plain] at e6 <;> exact blq (by simp [remC, e1, e2, e3, e4, e5, e6])
theorem f30_ok (c : Int) (R : Int) (hR : R = knownC c) : FSpec Try.prog 30 [.int .i64 c] [] (fun r H' => r = .int .i64 R ∧ H' = []) := by
  refine FSpec.of (fn := Try.f30) Try.func30 rfl rfl (by simp) fun C hC => ?_
  obtain ⟨iadd, isub, imul, iquo, irem, iband, ibor, ibxor, ibandn, ishl, ishr, iconv, ieq, ine, ilt, ile, igt, ige, bbeq, bbne, bnot, bband, sseq, ssne, sscat, sssub, sslen, sssz, ssbyte, toN, ofN, addN, subN, eqN, ltB, leN, imx, imn, inb, leb, sslt, ltN, fit, ne0, ge0, ssfit, minN, inR, hS⟩ := names
  refine V.go Try.func30 tl_ok mixed hS.ops [] 400 ?_
  intro VV VA W hVV hVA hW
  conv => cbv
  cases e1 : ilt c 0 <;> (conv => cbv)
  rotate_left
  · simp only [hS.glob, plain] at e1; subst hR; exact ⟨sti (by simp [knownC, e1]), trivial⟩
  cases e2 : igt c 22 <;> (conv => cbv)
  all_goals
    simp only [hS.glob, plain] at e1 e2
    subst hR
    refine ⟨sti ?_, trivial⟩
    unfold knownC
    split <;> omega
end Go.Proofs.Ytihmolafajmbjaa

namespace Vx
open Go
theorem band_u64 {x : Int} (h0 : 0 ≤ x) (h : x < 18446744073709551616) (k : Nat) (hk : k ≤ 64) : Vx.bits .u64 (fun a b => a &&& b) x ((2 ^ k - 1 : Nat) : Int) = x % (2 ^ k : Nat) := by
  obtain ⟨n, rfl⟩ := Int.eq_ofNat_of_zero_le h0
  have hn : n < 2 ^ 64 := by omega
  have hk2 : 2 ^ k - 1 < 2 ^ 64 := by have := Nat.pow_le_pow_right (show 0 < 2 by omega) hk; have := Nat.two_pow_pos k; omega
  have e1 : (BitVec.ofInt 64 (n : Int)).toNat = n := by simp [BitVec.toNat_ofInt]; omega
  have e2 : (BitVec.ofInt 64 ((2 ^ k - 1 : Nat) : Int)).toNat = 2 ^ k - 1 := by
    rw [BitVec.toNat_ofInt]
    omega
  have e3 : (BitVec.ofInt 64 (n : Int) &&& BitVec.ofInt 64 ((2 ^ k - 1 : Nat) : Int)).toNat = n % 2 ^ k := by
    rw [BitVec.toNat_and, e1, e2, Nat.and_two_pow_sub_one_eq_mod]
  have e4 : n % 2 ^ k ≤ n := Nat.mod_le ..
  show IntKind.u64.wrap _ = _
  rw [IntWalk.u64_in]
  · show ((BitVec.ofInt 64 (n : Int) &&& BitVec.ofInt 64 ((2 ^ k - 1 : Nat) : Int)).toNat : Int) = _
    rw [e3]; simp
  · show 0 ≤ ((BitVec.ofInt 64 (n : Int) &&& BitVec.ofInt 64 ((2 ^ k - 1 : Nat) : Int)).toNat : Int) ∧ ((BitVec.ofInt 64 (n : Int) &&& BitVec.ofInt 64 ((2 ^ k - 1 : Nat) : Int)).toNat : Int) ≤ _
    rw [e3]; omega
theorem band_low {x : Int} (h0 : 0 ≤ x) (h : x < 4294967296) : Vx.bits .u64 (fun a b => a &&& b) x 4294967295 = x := by
  have := band_u64 h0 (by omega) 32 (by omega)
  simp at this
  rw [this]; omega
theorem fdiv_low {x : Int} (h0 : 0 ≤ x) (h : x < 4294967296) : x.fdiv 4294967296 = 0 := by
  rw [Int.fdiv_eq_ediv_of_nonneg _ (by omega)]; omega
end Vx
namespace Go.Proofs.Ytihmolafajmbjaa
open Go Vx

theorem f50_ok (x y z : Int) (hz : x * y = z) (hx0 : 0 ≤ x) (hx : x < 4294967296) (hy0 : 0 ≤ y) (hy : y < 4294967296) : FSpec Try.prog 50 [.int .u64 x, .int .u64 y] [] (fun r H' => r = .tup [.int .u64 0, .int .u64 z] ∧ H' = []) := by
  have hz0 : 0 ≤ z := by rw [← hz]; exact Int.mul_nonneg hx0 hy0
  have hz1 : z ≤ 18446744065119617025 := by
    rw [← hz]
    calc x * y ≤ 4294967295 * 4294967295 := Int.mul_le_mul (by omega) (by omega) hy0 (by omega)
      _ = _ := by decide
  refine FSpec.of (fn := Try.f50) Try.func50 rfl rfl (by simp) fun C hC => ?_
  obtain ⟨iadd, isub, imul, iquo, irem, iband, ibor, ibxor, ibandn, ishl, ishr, iconv, ieq, ine, ilt, ile, igt, ige, bbeq, bbne, bnot, bband, sseq, ssne, sscat, sssub, sslen, sssz, ssbyte, toN, ofN, addN, subN, eqN, ltB, leN, imx, imn, inb, leb, sslt, ltN, fit, ne0, ge0, ssfit, minN, inR, hS⟩ := names
  refine V.go Try.func50 tl_ok mixed hS.ops [] 400 ?_
  intro VV VA W hVV hVA hW
  conv => cbv
  simp only [hS.glob, Vx.ge0, Vx.iadd, Vx.isub, Vx.imul, Vx.iquo, Vx.irem, Vx.iband, Vx.ishl, Vx.ishr]
  clear hVV hVA VV VA hW W hC C
  simp (disch := omega) only [band_low, hz, show (2:Int) ^ min (Int.toNat 32) IntKind.u64.bits = 4294967296 from rfl, fdiv_low, IntWalk.u64_in, Int.zero_mul, Int.mul_zero, Int.add_zero, Int.zero_add]
  have h1 : 0 ≤ z.fdiv 4294967296 ∧ z.fdiv 4294967296 < 4294967296 := by
    rw [Int.fdiv_eq_ediv_of_nonneg _ (by omega)]; omega
  have h2 : IntKind.u64.wrap (z.fdiv 4294967296) = z.fdiv 4294967296 := IntWalk.u64_in _ (by omega)
  have e0 : IntKind.u64.wrap 0 = 0 := rfl
  have h3 : (0 : Int).fdiv 4294967296 = 0 := rfl
  simp [e0, h2, h3, band_low h1.1 h1.2, fdiv_low h1.1 h1.2]
end Go.Proofs.Ytihmolafajmbjaa

/- slices.Repeat of one element. -/
namespace Go.Proofs.Ytihmolafajmbjaa
open Go Vx

theorem f36_ok (x y z : Int) (hz : x * y = z) (hx0 : 0 ≤ x) (hx : x < 4294967296) (hy0 : 0 ≤ y) (hy : y < 4294967296) : FSpec Try.prog 36 [.int .u64 x, .int .u64 y] [] (fun r H' => r = .tup [.int .u64 0, .int .u64 z] ∧ H' = []) := by
  refine FSpec.of (fn := Try.f36) Try.func36 rfl rfl (by simp) fun C hC => ?_
  obtain ⟨iadd, isub, imul, iquo, irem, iband, ibor, ibxor, ibandn, ishl, ishr, iconv, ieq, ine, ilt, ile, igt, ige, bbeq, bbne, bnot, bband, sseq, ssne, sscat, sssub, sslen, sssz, ssbyte, toN, ofN, addN, subN, eqN, ltB, leN, imx, imn, inb, leb, sslt, ltN, fit, ne0, ge0, ssfit, minN, inR, hS⟩ := names
  refine V.go Try.func36 tl_ok mixed hS.ops [] 400 ?_
  intro VV VA W hVV hVA hW
  conv => cbv
  rw [hVV]
  refine V.call rfl rfl rfl rfl rfl Try.func50 rfl (by decide) [] (by simp) (by simp) (by (first | rfl | ((conv => cbv); (repeat' apply And.intro) <;> first | rfl | trivial | (first | rfl | omega | (simp (disch := omega) only [hS.glob, wraps, plain, Int.ofNat_eq_natCast]; first | done | rfl | omega | (simp; done) | (simp; omega)) | (simp (disch := omega) only [hS.glob, wraps, plain, Int.ofNat_eq_natCast, Vx.toN]; omega))))) rfl (f50_ok x y z hz hx0 hx hy0 hy) ?_
  rintro r Hc ⟨rfl, rfl⟩
  clear hVV hVA VV VA hW W
  refine V.go Try.func36 tl_ok mixed hS.ops [] 400 ?_
  intro VV VA W hVV hVA hW
  conv => cbv
  simp

theorem f20_ok1 (f : Nat → List AV) (c : Nat) (z : Int) (hz : z = c) (hc : c ≤ 1000000) : FSpec Try.prog 20 [.rows 1 1 f, .int .i64 z] [] (fun r H' => ∃ g, r = .sl 0 0 c ∧ H' = [some ⟨3, 1, .arr c g⟩] ∧ ∀ i, i < c → g i = f 0) := by
  refine FSpec.of (fn := Try.f20) Try.func20 rfl rfl (by simp) fun C hC => ?_
  obtain ⟨iadd, isub, imul, iquo, irem, iband, ibor, ibxor, ibandn, ishl, ishr, iconv, ieq, ine, ilt, ile, igt, ige, bbeq, bbne, bnot, bband, sseq, ssne, sscat, sssub, sslen, sssz, ssbyte, toN, ofN, addN, subN, eqN, ltB, leN, imx, imn, inb, leb, sslt, ltN, fit, ne0, ge0, ssfit, minN, inR, hS⟩ := names
  refine V.go Try.func20 tl_ok mixed hS.ops [] 400 ?_
  intro VV VA W hVV hVA hW
  conv => cbv
  split <;> rename_i h
  · exfalso
    simp (disch := first | omega | (simp only [hS.glob, wraps, plain, Int.ofNat_eq_natCast]; omega)) only [hS.glob, wraps, plain, Int.ofNat_eq_natCast] at h
    omega
  conv => cbv
  simp (disch := first | omega | (simp only [hS.glob, wraps, plain, Int.ofNat_eq_natCast]; omega)) only [hS.glob, wraps, plain, Int.ofNat_eq_natCast] at h
  rw [hVV]
  refine V.call rfl rfl rfl rfl rfl Try.func36 rfl (by decide) [] (by simp) (by simp) (by (first | rfl | ((conv => cbv); (repeat' apply And.intro) <;> first | rfl | trivial | (first | rfl | omega | (simp (disch := omega) only [hS.glob, wraps, plain, Int.ofNat_eq_natCast]; first | done | rfl | omega | (simp; done) | (simp; omega)) | (simp (disch := omega) only [hS.glob, wraps, plain, Int.ofNat_eq_natCast, Vx.toN]; omega))))) rfl (f36_ok 1 z z (by simp) (by simp) (by simp) (by omega) (by omega)) ?_
  rintro r Hc ⟨rfl, rfl⟩
  clear hVV hVA VV VA hW W
  refine V.go Try.func20 tl_ok mixed hS.ops [] 400 ?_
  intro VV VA W hVV hVA hW
  conv => cbv
  have i0 : igt 0 0 = false := by simp [hS.glob, Vx.igt]
  simp only [i0]
  conv => cbv
  split <;> rename_i h3
  · exfalso
    simp (disch := first | omega | (simp only [hS.glob, wraps, plain, Int.ofNat_eq_natCast]; omega)) only [hS.glob, wraps, plain, Int.ofNat_eq_natCast] at h3
    omega
  conv => cbv
  have hzc : toN z = c := by simp only [hS.glob]; unfold Vx.toN; omega
  have hzc2 : Vx.toN z = c := by unfold Vx.toN; omega
  simp only [hzc]
  repeat (refine ⟨by first | (rw [hW]; show ordOk _ _ _ = true; kernel_rfl) | (first | trivial | omega | (simp (disch := omega) only [hS.glob, wraps, plain, Int.ofNat_eq_natCast]; first | done | omega | trivial | (simp; done) | (simp; omega) | (constructor <;> omega)) | (simp (disch := omega) only [hS.glob, wraps, plain, Int.ofNat_eq_natCast, Vx.toN]; omega)), ?_⟩)
  rw [hVV]
  refine V.to (s' := [(8, .int .i64 (ofN (min 1 c))), (7, .sl 0 0 c)]) (H' := [some ⟨3, 1, .arr c _⟩]) ?_ (by (repeat' first | exact trivial | rfl | (refine And.intro ?_ ?_) | (refine sti ?_; (first | rfl | omega | (simp (disch := omega) only [hS.glob, wraps, plain, Int.ofNat_eq_natCast]; first | done | rfl | omega | (simp; done) | (simp; omega)) | (simp (disch := omega) only [hS.glob, wraps, plain, Int.ofNat_eq_natCast, Vx.toN]; omega))) | (refine slq ?_ ?_ ?_ <;> (first | rfl | omega | (simp (disch := omega) only [hS.glob, wraps, plain, Int.ofNat_eq_natCast]; first | done | rfl | omega | (simp; done) | (simp; omega)) | (simp (disch := omega) only [hS.glob, wraps, plain, Int.ofNat_eq_natCast, Vx.toN]; omega))) | (refine ptq ?_ ?_ ?_ <;> (first | rfl | omega | (simp (disch := omega) only [hS.glob, wraps, plain, Int.ofNat_eq_natCast]; first | done | rfl | omega | (simp; done) | (simp; omega)) | (simp (disch := omega) only [hS.glob, wraps, plain, Int.ofNat_eq_natCast, Vx.toN]; omega))) | (refine blq ?_; (first | rfl | omega | (simp (disch := omega) only [hS.glob, wraps, plain, Int.ofNat_eq_natCast]; first | done | rfl | omega | (simp; done) | (simp; omega)) | (simp (disch := omega) only [hS.glob, wraps, plain, Int.ofNat_eq_natCast, Vx.toN]; omega))))) rfl ⟨⟨rfl, rfl, ⟨by first | exact Nat.le_refl _ | (first | rfl | omega | (simp (disch := omega) only [hS.glob, wraps, plain, Int.ofNat_eq_natCast]; first | done | rfl | omega | (simp; done) | (simp; omega)) | (simp (disch := omega) only [hS.glob, wraps, plain, Int.ofNat_eq_natCast, Vx.toN]; omega)), fun _ _ => rfl⟩, rfl⟩, trivial⟩ (by rw [hC]; simp)
  refine V.loop (γ := Nat × (Nat → List AV)) (fun p => p.1 ≤ c ∧ (0 < c → 0 < p.1) ∧ ∀ j, j < p.1 → p.2 j = f 0) (fun p => [(8, .int .i64 (ofN p.1)), (7, .sl 0 0 c)]) (fun p => [some ⟨3, 1, .arr c p.2⟩]) (fun p => c - p.1) ?_ (min 1 c, _) ⟨by omega, by omega, ?_⟩
  · rintro ⟨k, g⟩ ⟨hk, hk0, hg⟩ hback
    clear hVV hVA VV VA hW W
    refine V.go Try.func20 tl_ok mixed hS.ops [] 400 ?_
    intro VV VA W hVV hVA hW
    conv => cbv
    split <;> rename_i h4
    · conv => cbv
      simp (disch := first | omega | (simp only [hS.glob, wraps, plain, Int.ofNat_eq_natCast]; omega)) only [hS.glob, wraps, plain, Int.ofNat_eq_natCast] at h4
      repeat (refine ⟨by first | (rw [hW]; show ordOk _ _ _ = true; kernel_rfl) | (first | trivial | omega | (simp (disch := omega) only [hS.glob, wraps, plain, Int.ofNat_eq_natCast]; first | done | omega | trivial | (simp; done) | (simp; omega) | (constructor <;> omega)) | (simp (disch := omega) only [hS.glob, wraps, plain, Int.ofNat_eq_natCast, Vx.toN]; omega)), ?_⟩)
      rw [hVV]
      simp only at hk hk0 hg
      refine V.to (hback (k + min k (c - k), _) ⟨by omega, fun _ => by have := hk0 (by omega); omega, ?_⟩ (by have := hk0 (by omega); simp only; omega)) (by (repeat' first | exact trivial | rfl | (refine And.intro ?_ ?_) | (refine sti ?_; (first | rfl | omega | (simp (disch := omega) only [hS.glob, wraps, plain, Int.ofNat_eq_natCast]; first | done | rfl | omega | (simp; done) | (simp; omega)) | (simp (disch := omega) only [hS.glob, wraps, plain, Int.ofNat_eq_natCast, Vx.toN]; omega))) | (refine slq ?_ ?_ ?_ <;> (first | rfl | omega | (simp (disch := omega) only [hS.glob, wraps, plain, Int.ofNat_eq_natCast]; first | done | rfl | omega | (simp; done) | (simp; omega)) | (simp (disch := omega) only [hS.glob, wraps, plain, Int.ofNat_eq_natCast, Vx.toN]; omega))) | (refine ptq ?_ ?_ ?_ <;> (first | rfl | omega | (simp (disch := omega) only [hS.glob, wraps, plain, Int.ofNat_eq_natCast]; first | done | rfl | omega | (simp; done) | (simp; omega)) | (simp (disch := omega) only [hS.glob, wraps, plain, Int.ofNat_eq_natCast, Vx.toN]; omega))) | (refine blq ?_; (first | rfl | omega | (simp (disch := omega) only [hS.glob, wraps, plain, Int.ofNat_eq_natCast]; first | done | rfl | omega | (simp; done) | (simp; omega)) | (simp (disch := omega) only [hS.glob, wraps, plain, Int.ofNat_eq_natCast, Vx.toN]; omega))))) rfl ⟨⟨rfl, rfl, ⟨by first | exact Nat.le_refl _ | (first | rfl | omega | (simp (disch := omega) only [hS.glob, wraps, plain, Int.ofNat_eq_natCast]; first | done | rfl | omega | (simp; done) | (simp; omega)) | (simp (disch := omega) only [hS.glob, wraps, plain, Int.ofNat_eq_natCast, Vx.toN]; omega)), fun _ _ => rfl⟩, rfl⟩, trivial⟩ (by rw [hC]; simp)
      intro j hj
      simp only [cpy] at hj ⊢
      split
      · rename_i hr
        simp (disch := first | omega | (simp only [hS.glob, wraps, plain, Int.ofNat_eq_natCast]; omega)) only [hS.glob, wraps, plain, Int.ofNat_eq_natCast] at hr
        simp (disch := first | omega | (simp only [hS.glob, wraps, plain, Int.ofNat_eq_natCast]; omega)) only [hS.glob, wraps, plain, Int.ofNat_eq_natCast]
        exact hg _ (by omega)
      · rename_i hr
        simp (disch := first | omega | (simp only [hS.glob, wraps, plain, Int.ofNat_eq_natCast]; omega)) only [hS.glob, wraps, plain, Int.ofNat_eq_natCast] at hr
        exact hg j (by omega)
    · conv => cbv
      simp (disch := first | omega | (simp only [hS.glob, wraps, plain, Int.ofNat_eq_natCast]; omega)) only [hS.glob, wraps, plain, Int.ofNat_eq_natCast] at h4
      exact ⟨g, rfl, rfl, fun i hi => hg i (by simp only at hk; omega)⟩
  · intro j hj
    obtain rfl : j = 0 := by simp at hj; omega
    have : 0 < c := by simp at hj; omega
    simp only [cpy]
    split
    · simp (disch := first | omega | (simp only [hS.glob, wraps, plain, Int.ofNat_eq_natCast]; omega)) only [hS.glob, wraps, plain, Int.ofNat_eq_natCast]
    · rename_i hr
      simp (disch := first | omega | (simp only [hS.glob, wraps, plain, Int.ofNat_eq_natCast]; omega)) only [hS.glob, wraps, plain, Int.ofNat_eq_natCast] at hr
      omega
theorem f20_ok (f : Nat → List AV) (c : Nat) (z : Int) (hz : z = c) (hc : c ≤ 1000000) : FSpec Try.prog 20 [.rows 1 1 f, .int .i64 z] [] (fun r H' => r = .sl 0 0 c ∧ H' = [some ⟨3, 1, .arr c fun _ => f 0⟩]) := by
  refine (f20_ok1 f c z hz hc).weaken ?_
  rintro r H' ⟨g, rfl, rfl, hg⟩
  exact ⟨[some ⟨3, 1, .arr c fun _ => f 0⟩], ⟨⟨rfl, rfl, ⟨Nat.le_refl _, fun i hi => (hg i hi).symm⟩, rfl⟩, trivial⟩, rfl, by simp, rfl, rfl⟩
end Go.Proofs.Ytihmolafajmbjaa

namespace Go.Proofs.Ytihmolafajmbjaa
open Go Vx

/-- explicit.Match, a scalar on: what is open, and what is known. -/
def mstep (c : Int) (i : Nat) (st : List Int × (Nat → Int)) : List Int × (Nat → Int) :=
  if c = 10 then ([], st.2)
  else if begC c then (st.1 ++ [(i : Int)], st.2)
  else if c = 22 then (if st.1 = [] then st else (st.1.dropLast, fun j => if (j : Int) = st.1.getD (st.1.length - 1) 0 then i else st.2 j))
  else st
def mrun (l : Nat → Int) : Nat → List Int × (Nat → Int)
  | 0 => ([], fun _ => -1)
  | k + 1 => mstep (l k) k (mrun l k)
theorem mrun_lt (l : Nat → Int) : ∀ (k j : Nat), j < (mrun l k).1.length → 0 ≤ (mrun l k).1.getD j 0 ∧ (mrun l k).1.getD j 0 < k
  | 0, j, h => by simp [mrun] at h
  | k + 1, j, h => by
    have ih := mrun_lt l k
    simp only [mrun, mstep] at h ⊢
    split at h
    · simp at h
    · rename_i h10
      rw [if_neg h10]
      split at h
      · rename_i hb
        rw [if_pos hb]
        simp only [List.length_append, List.length_cons, List.length_nil] at h
        simp only [List.getD_eq_getElem?_getD]
        by_cases hj : j < (mrun l k).1.length
        · rw [List.getElem?_append_left hj]
          have := ih j hj
          rw [List.getD_eq_getElem?_getD] at this
          omega
        · obtain rfl : j = (mrun l k).1.length := by omega
          simp; omega
      · rename_i hb
        rw [if_neg hb]
        split at h
        · rename_i h22
          rw [if_pos h22]
          split at h
          · rename_i he
            rw [he] at h; simp at h
          · rename_i he
            rw [if_neg he]
            simp only [List.length_dropLast] at h
            have := ih j (by omega)
            have e : (mrun l k).1.dropLast.getD j 0 = (mrun l k).1.getD j 0 := by
              simp only [List.getD_eq_getElem?_getD, List.getElem?_dropLast]
              rw [if_pos (by omega)]
            simp only [e]
            omega
        · rename_i h22
          rw [if_neg h22]
          have := ih j h
          omega

theorem mrun_len (l : Nat → Int) : ∀ k : Nat, (mrun l k).1.length ≤ k
  | 0 => by simp [mrun]
  | k + 1 => by
    have ih := mrun_len l k
    simp only [mrun, mstep]
    split
    · simp
    · split
      · simp; omega
      · split
        · split
          · omega
          · simp; omega
        · omega

theorem f10_ok1 (ln : Nat) (l : Nat → Int) (hl : ln ≤ 1000000) : FSpec Try.prog 10 [.rows 1 ln (icol .i64 l)] [] (fun r H' => ∃ g x, r = .sl 0 0 (ln) ∧ H' = [some ⟨3, 1, .arr (ln) (icol .i64 g)⟩, x] ∧ ∀ i, i < ln → g i = (mrun l (ln)).2 i) := by
  refine FSpec.of (fn := Try.f10) Try.func10 rfl rfl (by simp) fun C hC => ?_
  obtain ⟨iadd, isub, imul, iquo, irem, iband, ibor, ibxor, ibandn, ishl, ishr, iconv, ieq, ine, ilt, ile, igt, ige, bbeq, bbne, bnot, bband, sseq, ssne, sscat, sssub, sslen, sssz, ssbyte, toN, ofN, addN, subN, eqN, ltB, leN, imx, imn, inb, leb, sslt, ltN, fit, ne0, ge0, ssfit, minN, inR, hS⟩ := names
  refine V.go Try.func10 tl_ok mixed hS.ops [] 400 ?_
  intro VV VA W hVV hVA hW
  conv => cbv
  rw [hVV]
  refine V.freeze 8 (o := 0) (i := 0) (n := 1) rfl rfl (by decide) (by decide) (by decide) ?_
  refine V.call rfl rfl rfl rfl rfl Try.func20 rfl (by decide) [] (by simp) (by simp) (by (first | rfl | ((conv => cbv); (repeat' apply And.intro) <;> first | rfl | trivial | (first | rfl | omega | (simp (disch := omega) only [hS.glob, wraps, plain, Int.ofNat_eq_natCast]; first | done | rfl | omega | (simp; done) | (simp; omega)) | (simp (disch := omega) only [hS.glob, wraps, plain, Int.ofNat_eq_natCast, Vx.toN]; omega))))) rfl (f20_ok (fun j => (Cont.lit [[.int .i64 (-1)]]).f (0 + j)) ln (ofN ln) (by simp (disch := first | omega | (simp only [hS.glob, wraps, plain, Int.ofNat_eq_natCast]; omega)) only [hS.glob, wraps, plain, Int.ofNat_eq_natCast]) hl) ?_
  rintro r Hc ⟨rfl, rfl⟩
  clear hVV hVA VV VA hW W
  refine V.go Try.func10 tl_ok mixed hS.ops [] 400 ?_
  intro VV VA W hVV hVA hW
  conv => cbv
  rw [hVV]
  clear hVV hVA VV VA hW W
  refine V.phantom 4 3 1 (icol .i64 fun _ => 0) rfl ?_
  refine V.pick [1, 2] (by decide) (by rw [hC]; exact begins_of rfl) (by rfl) (by rfl) ?_
  refine V.to (s' := [(14, .int .i64 (ofN 0)), (13, .int .i64 (ofN (ln))), (12, .rows 1 ln (icol .i64 l)), (3, .sl 0 0 (ln)), (4, .sl 1 0 0)]) (H' := [some ⟨3, 1, .arr (ln) (icol .i64 fun _ => -1)⟩, some ⟨3, 1, .arr 0 (icol .i64 fun _ => 0)⟩]) ?_ (by (repeat' first | exact trivial | rfl | (refine And.intro ?_ ?_) | (refine sti ?_; (first | rfl | omega | (simp (disch := omega) only [hS.glob, wraps, plain, Int.ofNat_eq_natCast]; first | done | rfl | omega | (simp; done) | (simp; omega)) | (simp (disch := omega) only [hS.glob, wraps, plain, Int.ofNat_eq_natCast, Vx.toN]; omega))) | (refine slq ?_ ?_ ?_ <;> (first | rfl | omega | (simp (disch := omega) only [hS.glob, wraps, plain, Int.ofNat_eq_natCast]; first | done | rfl | omega | (simp; done) | (simp; omega)) | (simp (disch := omega) only [hS.glob, wraps, plain, Int.ofNat_eq_natCast, Vx.toN]; omega))) | (refine ptq ?_ ?_ ?_ <;> (first | rfl | omega | (simp (disch := omega) only [hS.glob, wraps, plain, Int.ofNat_eq_natCast]; first | done | rfl | omega | (simp; done) | (simp; omega)) | (simp (disch := omega) only [hS.glob, wraps, plain, Int.ofNat_eq_natCast, Vx.toN]; omega))) | (refine blq ?_; (first | rfl | omega | (simp (disch := omega) only [hS.glob, wraps, plain, Int.ofNat_eq_natCast]; first | done | rfl | omega | (simp; done) | (simp; omega)) | (simp (disch := omega) only [hS.glob, wraps, plain, Int.ofNat_eq_natCast, Vx.toN]; omega))))) rfl ⟨⟨rfl, rfl, ⟨Nat.le_refl _, fun _ _ => rfl⟩, rfl⟩, ⟨rfl, rfl, ⟨Nat.le_refl _, fun _ _ => rfl⟩, rfl⟩, trivial⟩ (by rw [hC]; simp)
  refine V.loop (γ := Nat × Nat × (Nat → Int) × (Nat → Int)) (fun p => p.1 ≤ ln ∧ p.2.1 = (mrun l p.1).1.length ∧ (∀ i, i < ln → p.2.2.1 i = (mrun l p.1).2 i) ∧ ∀ j, j < p.2.1 → p.2.2.2 j = (mrun l p.1).1.getD j 0)
    (fun p => [(14, .int .i64 (ofN p.1)), (13, .int .i64 (ofN (ln))), (12, .rows 1 ln (icol .i64 l)), (3, .sl 0 0 (ln)), (4, .sl 1 0 p.2.1)])
    (fun p => [some ⟨3, 1, .arr (ln) (icol .i64 p.2.2.1)⟩, some ⟨3, 1, .arr p.2.1 (icol .i64 p.2.2.2)⟩]) (fun p => ln - p.1) ?_ (0, 0, _, _) ⟨Nat.zero_le _, rfl, fun _ _ => rfl, fun j hj => by simp at hj⟩
  rintro ⟨k, n, g, h⟩ ⟨hk, hn, hg, hh⟩ hback
  simp only at hk hn hg hh
  have hnk : n ≤ k := hn ▸ mrun_len l k
  refine V.go Try.func10 tl_ok mixed hS.ops [] 400 ?_
  intro VV VA W hVV hVA hW
  conv => cbv
  split <;> rename_i h1
  rotate_left
  · conv => cbv
    simp (disch := first | omega | (simp only [hS.glob, wraps, plain, Int.ofNat_eq_natCast]; omega)) only [hS.glob, wraps, plain, Int.ofNat_eq_natCast] at h1
    have : k = ln := by omega
    subst this
    exact ⟨g, _, rfl, rfl, hg⟩
  · conv => cbv
    simp (disch := first | omega | (simp only [hS.glob, wraps, plain, Int.ofNat_eq_natCast]; omega)) only [hS.glob, wraps, plain, Int.ofNat_eq_natCast] at h1
    repeat (refine ⟨by first | (rw [hW]; show ordOk _ _ _ = true; kernel_rfl) | (first | trivial | omega | (simp (disch := omega) only [hS.glob, wraps, plain, Int.ofNat_eq_natCast]; first | done | omega | trivial | (simp; done) | (simp; omega) | (constructor <;> omega)) | (simp (disch := omega) only [hS.glob, wraps, plain, Int.ofNat_eq_natCast, Vx.toN]; omega)), ?_⟩)
    split <;> rename_i h2
    rotate_left
    · conv => cbv
      simp (disch := first | omega | (simp only [hS.glob, wraps, plain, Int.ofNat_eq_natCast]; omega)) only [hS.glob, wraps, plain, Int.ofNat_eq_natCast] at h2
      rw [hVV]
      obtain ⟨b_hb, hb⟩ : ∃ b, b = begC (l k) := ⟨_, rfl⟩
      refine V.call rfl rfl rfl rfl rfl Try.func21 rfl (by decide) [] (by simp) (by simp) (by (first | rfl | ((conv => cbv); (repeat' apply And.intro) <;> first | rfl | trivial | (first | rfl | omega | (simp (disch := omega) only [hS.glob, wraps, plain, Int.ofNat_eq_natCast]; first | done | rfl | omega | (simp; done) | (simp; omega)) | (simp (disch := omega) only [hS.glob, wraps, plain, Int.ofNat_eq_natCast, Vx.toN]; omega))))) rfl (f21_ok (l k) b_hb hb) ?_
      rintro r Hc ⟨rfl, rfl⟩
      clear hVV hVA VV VA hW W
      refine V.go Try.func10 tl_ok mixed hS.ops [] 400 ?_
      intro VV VA W hVV hVA hW
      conv => cbv
      replace hb := hb.symm
      cases b_hb
      · conv => cbv
        have stay : (¬ l k = 22 ∨ n = 0) → mrun l (k + 1) = mrun l k := by
          intro hh2
          simp only [mrun, mstep]
          rw [if_neg h2, if_neg (by simp [hb])]
          rcases hh2 with hh2 | hh2
          · rw [if_neg hh2]
          · split
            · rw [if_pos (by rw [hh2] at hn; exact List.length_eq_zero_iff.1 hn.symm)]
            · rfl
        simp only [hS.tidy]
        cases h3 : ieq (l k) 22
        · conv => cbv
          simp (disch := first | omega | (simp only [hS.glob, wraps, plain, Int.ofNat_eq_natCast]; omega)) only [hS.glob, wraps, plain, Int.ofNat_eq_natCast] at h3
          rw [hVV]
          have e := stay (.inl h3)
          exact V.to (hback (k + 1, n, g, h) ⟨by omega, by rw [e]; exact hn, by rw [e]; exact hg, by rw [e]; exact hh⟩ (by simp only; omega)) (by (repeat' first | exact trivial | rfl | (refine And.intro ?_ ?_) | (refine sti ?_; (first | rfl | omega | (simp (disch := omega) only [hS.glob, wraps, plain, Int.ofNat_eq_natCast]; first | done | rfl | omega | (simp; done) | (simp; omega)) | (simp (disch := omega) only [hS.glob, wraps, plain, Int.ofNat_eq_natCast, Vx.toN]; omega))) | (refine slq ?_ ?_ ?_ <;> (first | rfl | omega | (simp (disch := omega) only [hS.glob, wraps, plain, Int.ofNat_eq_natCast]; first | done | rfl | omega | (simp; done) | (simp; omega)) | (simp (disch := omega) only [hS.glob, wraps, plain, Int.ofNat_eq_natCast, Vx.toN]; omega))) | (refine ptq ?_ ?_ ?_ <;> (first | rfl | omega | (simp (disch := omega) only [hS.glob, wraps, plain, Int.ofNat_eq_natCast]; first | done | rfl | omega | (simp; done) | (simp; omega)) | (simp (disch := omega) only [hS.glob, wraps, plain, Int.ofNat_eq_natCast, Vx.toN]; omega))) | (refine blq ?_; (first | rfl | omega | (simp (disch := omega) only [hS.glob, wraps, plain, Int.ofNat_eq_natCast]; first | done | rfl | omega | (simp; done) | (simp; omega)) | (simp (disch := omega) only [hS.glob, wraps, plain, Int.ofNat_eq_natCast, Vx.toN]; omega))))) rfl (by (repeat' first | exact trivial | rfl | exact Nat.le_refl _ | exact (fun _ _ => rfl) | (refine And.intro ?_ ?_) | (simp only [hS.glob, plain]; first | done | omega))) (by rw [hC]; simp)
        · conv => cbv
          simp (disch := first | omega | (simp only [hS.glob, wraps, plain, Int.ofNat_eq_natCast]; omega)) only [hS.glob, wraps, plain, Int.ofNat_eq_natCast] at h3
          cases h4 : igt (ofN n) 0
          · conv => cbv
            simp (disch := first | omega | (simp only [hS.glob, wraps, plain, Int.ofNat_eq_natCast]; omega)) only [hS.glob, wraps, plain, Int.ofNat_eq_natCast] at h4
            rw [hVV]
            have e := stay (.inr (by omega))
            exact V.to (hback (k + 1, n, g, h) ⟨by omega, by rw [e]; exact hn, by rw [e]; exact hg, by rw [e]; exact hh⟩ (by simp only; omega)) (by (repeat' first | exact trivial | rfl | (refine And.intro ?_ ?_) | (refine sti ?_; (first | rfl | omega | (simp (disch := omega) only [hS.glob, wraps, plain, Int.ofNat_eq_natCast]; first | done | rfl | omega | (simp; done) | (simp; omega)) | (simp (disch := omega) only [hS.glob, wraps, plain, Int.ofNat_eq_natCast, Vx.toN]; omega))) | (refine slq ?_ ?_ ?_ <;> (first | rfl | omega | (simp (disch := omega) only [hS.glob, wraps, plain, Int.ofNat_eq_natCast]; first | done | rfl | omega | (simp; done) | (simp; omega)) | (simp (disch := omega) only [hS.glob, wraps, plain, Int.ofNat_eq_natCast, Vx.toN]; omega))) | (refine ptq ?_ ?_ ?_ <;> (first | rfl | omega | (simp (disch := omega) only [hS.glob, wraps, plain, Int.ofNat_eq_natCast]; first | done | rfl | omega | (simp; done) | (simp; omega)) | (simp (disch := omega) only [hS.glob, wraps, plain, Int.ofNat_eq_natCast, Vx.toN]; omega))) | (refine blq ?_; (first | rfl | omega | (simp (disch := omega) only [hS.glob, wraps, plain, Int.ofNat_eq_natCast]; first | done | rfl | omega | (simp; done) | (simp; omega)) | (simp (disch := omega) only [hS.glob, wraps, plain, Int.ofNat_eq_natCast, Vx.toN]; omega))))) rfl (by (repeat' first | exact trivial | rfl | exact Nat.le_refl _ | exact (fun _ _ => rfl) | (refine And.intro ?_ ?_) | (simp only [hS.glob, plain]; first | done | omega))) (by rw [hC]; simp)
          · conv => cbv
            simp (disch := first | omega | (simp only [hS.glob, wraps, plain, Int.ofNat_eq_natCast]; omega)) only [hS.glob, wraps, plain, Int.ofNat_eq_natCast] at h4
            have e0 : addN 0 (toN (isub .i64 (ofN n) 1)) = n - 1 := by simp (disch := first | omega | (simp only [hS.glob, wraps, plain, Int.ofNat_eq_natCast]; omega)) only [hS.glob, wraps, plain, Int.ofNat_eq_natCast]; omega
            have e1 := hh (n - 1) (by omega)
            have e2 := mrun_lt l k (n - 1) (by omega)
            rw [← e1] at e2
            simp only [e0]
            repeat (refine ⟨by first | (rw [hW]; show ordOk _ _ _ = true; kernel_rfl) | (first | trivial | omega | (simp (disch := omega) only [hS.glob, wraps, plain, Int.ofNat_eq_natCast]; first | done | omega | trivial | (simp; done) | (simp; omega) | (constructor <;> omega)) | (simp (disch := omega) only [hS.glob, wraps, plain, Int.ofNat_eq_natCast, Vx.toN]; omega)), ?_⟩)
            rw [hVV]
            have ne : (mrun l k).1 ≠ [] := fun e => by rw [e] at hn; simp at hn; omega
            have em : mrun l (k + 1) = ((mrun l k).1.dropLast, fun (j : Nat) => if (j : Int) = h (n - 1) then (k : Int) else (mrun l k).2 j) := by
              simp only [mrun, mstep]
              rw [if_neg h2, if_neg (by simp [hb]), if_pos h3, if_neg ne, e1, hn]
            refine V.to (hback (k + 1, n - 1, fun (j : Nat) => if (j : Int) = h (n - 1) then (k : Int) else g j, h) ⟨by omega, ?_, ?_, ?_⟩ (by simp only; omega)) (by (repeat' first | exact trivial | rfl | (refine And.intro ?_ ?_) | (refine sti ?_; (first | rfl | omega | (simp (disch := omega) only [hS.glob, wraps, plain, Int.ofNat_eq_natCast]; first | done | rfl | omega | (simp; done) | (simp; omega)) | (simp (disch := omega) only [hS.glob, wraps, plain, Int.ofNat_eq_natCast, Vx.toN]; omega))) | (refine slq ?_ ?_ ?_ <;> (first | rfl | omega | (simp (disch := omega) only [hS.glob, wraps, plain, Int.ofNat_eq_natCast]; first | done | rfl | omega | (simp; done) | (simp; omega)) | (simp (disch := omega) only [hS.glob, wraps, plain, Int.ofNat_eq_natCast, Vx.toN]; omega))) | (refine ptq ?_ ?_ ?_ <;> (first | rfl | omega | (simp (disch := omega) only [hS.glob, wraps, plain, Int.ofNat_eq_natCast]; first | done | rfl | omega | (simp; done) | (simp; omega)) | (simp (disch := omega) only [hS.glob, wraps, plain, Int.ofNat_eq_natCast, Vx.toN]; omega))) | (refine blq ?_; (first | rfl | omega | (simp (disch := omega) only [hS.glob, wraps, plain, Int.ofNat_eq_natCast]; first | done | rfl | omega | (simp; done) | (simp; omega)) | (simp (disch := omega) only [hS.glob, wraps, plain, Int.ofNat_eq_natCast, Vx.toN]; omega))))) rfl ?_ (by rw [hC]; simp)
            · rw [em]; simp [hn]
            · intro i hi
              rw [em]
              simp only
              split
              · rfl
              · exact hg i hi
            · intro j hj
              rw [em]
              simp only at hj ⊢
              have := hh j (by omega)
              simp only [List.getD_eq_getElem?_getD, List.getElem?_dropLast] at this ⊢
              rw [if_pos (by omega)]
              exact this
            · (repeat' first | exact trivial | rfl | exact Nat.le_refl _ | exact (fun _ _ => rfl) | (refine And.intro ?_ ?_) | (simp only [hS.glob, plain]; first | done | omega))
              · intro i hi
                simp only [icol]
                cases hr : eqN i (addN 0 (toN (h (n - 1))))
                · simp (disch := first | omega | (simp only [hS.glob, wraps, plain, Int.ofNat_eq_natCast]; omega)) only [hS.glob, wraps, plain, Int.ofNat_eq_natCast] at hr
                  rw [if_neg]
                  simp only [Vx.toN] at hr
                  omega
                · simp (disch := first | omega | (simp only [hS.glob, wraps, plain, Int.ofNat_eq_natCast]; omega)) only [hS.glob, wraps, plain, Int.ofNat_eq_natCast] at hr
                  rw [if_pos (by simp only [Vx.toN] at hr; omega)]
                  simp [splice, cellsOf, hS.glob, Vx.ofN]
      · conv => cbv
        repeat (refine ⟨by first | (rw [hW]; show ordOk _ _ _ = true; kernel_rfl) | (first | trivial | omega | (simp (disch := omega) only [hS.glob, wraps, plain, Int.ofNat_eq_natCast]; first | done | omega | trivial | (simp; done) | (simp; omega) | (constructor <;> omega)) | (simp (disch := omega) only [hS.glob, wraps, plain, Int.ofNat_eq_natCast, Vx.toN]; omega)), ?_⟩)
        rw [hVV]
        refine V.pick [0, 3] (by decide) (by rw [hC]; exact begins_of rfl) (by rfl) (by rfl) ?_
        refine V.to (hback (k + 1, n + 1, g, fun j => if j < n then h j else k) ⟨by omega, ?_, ?_, ?_⟩ (by simp only; omega)) (by (repeat' first | exact trivial | rfl | (refine And.intro ?_ ?_) | (refine sti ?_; (first | rfl | omega | (simp (disch := omega) only [hS.glob, wraps, plain, Int.ofNat_eq_natCast]; first | done | rfl | omega | (simp; done) | (simp; omega)) | (simp (disch := omega) only [hS.glob, wraps, plain, Int.ofNat_eq_natCast, Vx.toN]; omega))) | (refine slq ?_ ?_ ?_ <;> (first | rfl | omega | (simp (disch := omega) only [hS.glob, wraps, plain, Int.ofNat_eq_natCast]; first | done | rfl | omega | (simp; done) | (simp; omega)) | (simp (disch := omega) only [hS.glob, wraps, plain, Int.ofNat_eq_natCast, Vx.toN]; omega))) | (refine ptq ?_ ?_ ?_ <;> (first | rfl | omega | (simp (disch := omega) only [hS.glob, wraps, plain, Int.ofNat_eq_natCast]; first | done | rfl | omega | (simp; done) | (simp; omega)) | (simp (disch := omega) only [hS.glob, wraps, plain, Int.ofNat_eq_natCast, Vx.toN]; omega))) | (refine blq ?_; (first | rfl | omega | (simp (disch := omega) only [hS.glob, wraps, plain, Int.ofNat_eq_natCast]; first | done | rfl | omega | (simp; done) | (simp; omega)) | (simp (disch := omega) only [hS.glob, wraps, plain, Int.ofNat_eq_natCast, Vx.toN]; omega))))) rfl ?_ (by rw [hC]; simp)
        · simp [mrun, mstep, h2, hb, hn]
        · intro i hi
          simp only [mrun, mstep, h2, if_false, hb, if_true]
          exact hg i hi
        · intro j hj
          simp only [mrun, mstep, h2, if_false, hb, if_true] at hj ⊢
          simp only [List.getD_eq_getElem?_getD]
          by_cases hjn : j < n
          · rw [if_pos hjn, List.getElem?_append_left (by omega)]
            have := hh j hjn
            rwa [List.getD_eq_getElem?_getD] at this
          · rw [if_neg hjn, List.getElem?_append_right (by omega), show j - (mrun l k).1.length = 0 by omega]
            simp
        · (repeat' first | exact trivial | rfl | exact Nat.le_refl _ | exact (fun _ _ => rfl) | (refine And.intro ?_ ?_) | (simp only [hS.glob, plain]; first | done | omega))
          intro i hi
          simp only [icol] at hi ⊢
          cases hr : ltB i n
          · simp (disch := first | omega | (simp only [hS.glob, wraps, plain, Int.ofNat_eq_natCast]; omega)) only [hS.glob, wraps, plain, Int.ofNat_eq_natCast] at hr
            obtain rfl : i = n := by omega
            rw [if_neg (by omega)]
            simp [hS.glob, Vx.subN, Vx.ofN]
          · simp (disch := first | omega | (simp only [hS.glob, wraps, plain, Int.ofNat_eq_natCast]; omega)) only [hS.glob, wraps, plain, Int.ofNat_eq_natCast] at hr
            rw [if_pos hr]
    · conv => cbv
      simp (disch := first | omega | (simp only [hS.glob, wraps, plain, Int.ofNat_eq_natCast]; omega)) only [hS.glob, wraps, plain, Int.ofNat_eq_natCast] at h2
      rw [hVV]
      refine V.phantom 4 3 1 (icol .i64 fun _ => 0) rfl ?_
      refine V.pick [0, 2] (by decide) (by rw [hC]; exact begins_of rfl) (by rfl) (by rfl) ?_
      refine V.to (hback (k + 1, 0, g, fun _ => 0) ⟨by omega, ?_, ?_, fun j hj => by simp at hj⟩ (by simp only; omega)) (by (repeat' first | exact trivial | rfl | (refine And.intro ?_ ?_) | (refine sti ?_; (first | rfl | omega | (simp (disch := omega) only [hS.glob, wraps, plain, Int.ofNat_eq_natCast]; first | done | rfl | omega | (simp; done) | (simp; omega)) | (simp (disch := omega) only [hS.glob, wraps, plain, Int.ofNat_eq_natCast, Vx.toN]; omega))) | (refine slq ?_ ?_ ?_ <;> (first | rfl | omega | (simp (disch := omega) only [hS.glob, wraps, plain, Int.ofNat_eq_natCast]; first | done | rfl | omega | (simp; done) | (simp; omega)) | (simp (disch := omega) only [hS.glob, wraps, plain, Int.ofNat_eq_natCast, Vx.toN]; omega))) | (refine ptq ?_ ?_ ?_ <;> (first | rfl | omega | (simp (disch := omega) only [hS.glob, wraps, plain, Int.ofNat_eq_natCast]; first | done | rfl | omega | (simp; done) | (simp; omega)) | (simp (disch := omega) only [hS.glob, wraps, plain, Int.ofNat_eq_natCast, Vx.toN]; omega))) | (refine blq ?_; (first | rfl | omega | (simp (disch := omega) only [hS.glob, wraps, plain, Int.ofNat_eq_natCast]; first | done | rfl | omega | (simp; done) | (simp; omega)) | (simp (disch := omega) only [hS.glob, wraps, plain, Int.ofNat_eq_natCast, Vx.toN]; omega))))) rfl (by (repeat' first | exact trivial | rfl | exact Nat.le_refl _ | exact (fun _ _ => rfl) | (refine And.intro ?_ ?_) | (simp only [hS.glob, plain]; first | done | omega))) (by rw [hC]; simp)
      · simp [mrun, mstep, h2]
      · intro i hi
        simp only [mrun, mstep, h2, if_true]
        exact hg i hi
theorem f10_ok (ln : Nat) (l : Nat → Int) (hl : ln ≤ 1000000) : FSpec Try.prog 10 [.rows 1 ln (icol .i64 l)] [] (fun r H' => r = .sl 0 0 (ln) ∧ H' = [some ⟨3, 1, .arr (ln) (icol .i64 (mrun l (ln)).2)⟩]) := by
  refine (f10_ok1 ln l hl).weaken ?_
  rintro r H' ⟨g, x, rfl, rfl, hg⟩
  exact ⟨[some ⟨3, 1, .arr (ln) (icol .i64 (mrun l (ln)).2)⟩], ⟨⟨rfl, rfl, ⟨Nat.le_refl _, fun i hi => by simp only [icol, hg i hi]⟩, rfl⟩, trivial⟩, rfl, by simp, rfl, rfl⟩
end Go.Proofs.Ytihmolafajmbjaa

namespace Go.Proofs.Ytihmolafajmbjaa
open Go Vx

/-- X1: how far an isolate goes. -/
def escan (l : Nat → Int) : Nat → Nat → Nat → Int
  | 0, _, _ => -1
  | f + 1, i, o =>
    if l i = 10 then -1
    else if begC (l i) then escan l f (i + 1) (o + 1)
    else if l i = 22 then (if o = 1 then (i : Int) else escan l f (i + 1) (o - 1))
    else escan l f (i + 1) o
def endOf (ln : Nat) (l : Nat → Int) (a : Nat) : Int := if begC (l a) then escan l (ln - (a + 1)) (a + 1) 1 else -1

theorem f22_ok (ln : Nat) (l : Nat → Int) (a : Nat) (z : Int) (hz : z = a) (ha : a < ln) (R : Int) (hR : R = endOf ln l a) : FSpec Try.prog 22 [.rows 1 ln (icol .i64 l), .int .i64 z] [] (fun r H' => r = .int .i64 R ∧ H' = []) := by
  refine FSpec.of (fn := Try.f22) Try.func22 rfl rfl (by simp) fun C hC => ?_
  obtain ⟨iadd, isub, imul, iquo, irem, iband, ibor, ibxor, ibandn, ishl, ishr, iconv, ieq, ine, ilt, ile, igt, ige, bbeq, bbne, bnot, bband, sseq, ssne, sscat, sssub, sslen, sssz, ssbyte, toN, ofN, addN, subN, eqN, ltB, leN, imx, imn, inb, leb, sslt, ltN, fit, ne0, ge0, ssfit, minN, inR, hS⟩ := names
  refine V.rowsLen 0 (sz := 1) (n := ln) rfl fun hl => ?_
  simp (disch := first | omega | (simp only [hS.glob, wraps, plain, Int.ofNat_eq_natCast]; omega)) only [hS.glob, wraps, plain, Int.ofNat_eq_natCast] at hl
  obtain rfl : z = ofN a := by simp (disch := first | omega | (simp only [hS.glob, wraps, plain, Int.ofNat_eq_natCast]; omega)) only [hS.glob, wraps, plain, Int.ofNat_eq_natCast]; exact hz
  refine V.go Try.func22 tl_ok mixed hS.ops [] 400 ?_
  intro VV VA W hVV hVA hW
  conv => cbv
  repeat (refine ⟨by first | (rw [hW]; show ordOk _ _ _ = true; kernel_rfl) | (first | trivial | omega | (simp (disch := omega) only [hS.glob, wraps, plain, Int.ofNat_eq_natCast]; first | done | omega | trivial | (simp; done) | (simp; omega) | (constructor <;> omega)) | (simp (disch := omega) only [hS.glob, wraps, plain, Int.ofNat_eq_natCast, Vx.toN]; omega)), ?_⟩)
  simp only [hS.tidy]
  rw [hVV]
  obtain ⟨b_hb, hb⟩ : ∃ b, b = begC (l a) := ⟨_, rfl⟩
  refine V.call rfl rfl rfl rfl rfl Try.func24 rfl (by decide) [] (by simp) (by simp) (by (first | rfl | ((conv => cbv); (repeat' apply And.intro) <;> first | rfl | trivial | (first | rfl | omega | (simp (disch := omega) only [hS.glob, wraps, plain, Int.ofNat_eq_natCast]; first | done | rfl | omega | (simp; done) | (simp; omega)) | (simp (disch := omega) only [hS.glob, wraps, plain, Int.ofNat_eq_natCast, Vx.toN]; omega))))) rfl (f24_ok (l a) b_hb hb) ?_
  rintro r Hc ⟨rfl, rfl⟩
  clear hVV hVA VV VA hW W
  refine V.go Try.func22 tl_ok mixed hS.ops [] 400 ?_
  intro VV VA W hVV hVA hW
  conv => cbv
  replace hb := hb.symm
  cases b_hb
  · conv => cbv
    simp [hR, endOf, hb]
  · conv => cbv
    rw [hVV]
    clear hVV hVA VV VA hW W
    refine V.to (s' := [(7, .int .i64 (ofN (a + 1))), (6, .int .i64 (ofN 1)), (0, .rows 1 ln (icol .i64 l))]) (H' := []) ?_ (by (repeat' first | exact trivial | rfl | (refine And.intro ?_ ?_) | (refine sti ?_; (first | rfl | omega | (simp (disch := omega) only [hS.glob, wraps, plain, Int.ofNat_eq_natCast]; first | done | rfl | omega | (simp; done) | (simp; omega)) | (simp (disch := omega) only [hS.glob, wraps, plain, Int.ofNat_eq_natCast, Vx.toN]; omega))) | (refine slq ?_ ?_ ?_ <;> (first | rfl | omega | (simp (disch := omega) only [hS.glob, wraps, plain, Int.ofNat_eq_natCast]; first | done | rfl | omega | (simp; done) | (simp; omega)) | (simp (disch := omega) only [hS.glob, wraps, plain, Int.ofNat_eq_natCast, Vx.toN]; omega))) | (refine ptq ?_ ?_ ?_ <;> (first | rfl | omega | (simp (disch := omega) only [hS.glob, wraps, plain, Int.ofNat_eq_natCast]; first | done | rfl | omega | (simp; done) | (simp; omega)) | (simp (disch := omega) only [hS.glob, wraps, plain, Int.ofNat_eq_natCast, Vx.toN]; omega))) | (refine blq ?_; (first | rfl | omega | (simp (disch := omega) only [hS.glob, wraps, plain, Int.ofNat_eq_natCast]; first | done | rfl | omega | (simp; done) | (simp; omega)) | (simp (disch := omega) only [hS.glob, wraps, plain, Int.ofNat_eq_natCast, Vx.toN]; omega))))) rfl trivial (by rw [hC]; simp)
    refine V.loop (γ := Nat × Nat) (fun p => p.1 ≤ ln ∧ 0 < p.2 ∧ p.2 ≤ p.1 ∧ escan l (ln - p.1) p.1 p.2 = R) (fun p => [(7, .int .i64 (ofN p.1)), (6, .int .i64 (ofN p.2)), (0, .rows 1 ln (icol .i64 l))]) (fun _ => []) (fun p => ln - p.1) ?_ (a + 1, 1) ⟨by simp only; omega, by simp, by simp, by simp [hR, endOf, hb]⟩
    rintro ⟨i, o⟩ ⟨hi, ho, hoi, he⟩ hback
    dsimp only at hi ho hoi he ⊢
    refine V.go Try.func22 tl_ok mixed hS.ops [] 400 ?_
    intro VV VA W hVV hVA hW
    conv => cbv
    cases h1 : ilt (ofN i) (ofN ln)
    · conv => cbv
      simp (disch := first | omega | (simp only [hS.glob, wraps, plain, Int.ofNat_eq_natCast]; omega)) only [hS.glob, wraps, plain, Int.ofNat_eq_natCast] at h1
      have : i = ln := by omega
      subst this
      rw [Nat.sub_self] at he
      rw [← he]
      exact ⟨rfl, trivial⟩
    · conv => cbv
      simp (disch := first | omega | (simp only [hS.glob, wraps, plain, Int.ofNat_eq_natCast]; omega)) only [hS.glob, wraps, plain, Int.ofNat_eq_natCast] at h1
      repeat (refine ⟨by first | (rw [hW]; show ordOk _ _ _ = true; kernel_rfl) | (first | trivial | omega | (simp (disch := omega) only [hS.glob, wraps, plain, Int.ofNat_eq_natCast]; first | done | omega | trivial | (simp; done) | (simp; omega) | (constructor <;> omega)) | (simp (disch := omega) only [hS.glob, wraps, plain, Int.ofNat_eq_natCast, Vx.toN]; omega)), ?_⟩)
      obtain ⟨d, hd⟩ : ∃ d, ln - i = d + 1 := ⟨ln - i - 1, by omega⟩
      have hd' : ln - (i + 1) = d := by omega
      rw [hd] at he
      simp only [escan] at he
      split <;> rename_i h2
      rotate_left
      · conv => cbv
        simp (disch := first | omega | (simp only [hS.glob, wraps, plain, Int.ofNat_eq_natCast]; omega)) only [hS.glob, wraps, plain, Int.ofNat_eq_natCast] at h2
        rw [if_pos h2] at he
        rw [← he]
        exact ⟨rfl, trivial⟩
      · conv => cbv
        simp (disch := first | omega | (simp only [hS.glob, wraps, plain, Int.ofNat_eq_natCast]; omega)) only [hS.glob, wraps, plain, Int.ofNat_eq_natCast] at h2
        rw [if_neg h2] at he
        repeat (refine ⟨by first | (rw [hW]; show ordOk _ _ _ = true; kernel_rfl) | (first | trivial | omega | (simp (disch := omega) only [hS.glob, wraps, plain, Int.ofNat_eq_natCast]; first | done | omega | trivial | (simp; done) | (simp; omega) | (constructor <;> omega)) | (simp (disch := omega) only [hS.glob, wraps, plain, Int.ofNat_eq_natCast, Vx.toN]; omega)), ?_⟩)
        rw [hVV]
        obtain ⟨b_hbi, hbi⟩ : ∃ b, b = begC (l i) := ⟨_, rfl⟩
        refine V.call rfl rfl rfl rfl rfl Try.func24 rfl (by decide) [] (by simp) (by simp) (by (first | rfl | ((conv => cbv); (repeat' apply And.intro) <;> first | rfl | trivial | (first | rfl | omega | (simp (disch := omega) only [hS.glob, wraps, plain, Int.ofNat_eq_natCast]; first | done | rfl | omega | (simp; done) | (simp; omega)) | (simp (disch := omega) only [hS.glob, wraps, plain, Int.ofNat_eq_natCast, Vx.toN]; omega))))) rfl (f24_ok (l i) b_hbi hbi) ?_
        rintro r Hc ⟨rfl, rfl⟩
        clear hVV hVA VV VA hW W
        refine V.go Try.func22 tl_ok mixed hS.ops [] 400 ?_
        intro VV VA W hVV hVA hW
        conv => cbv
        replace hbi := hbi.symm
        cases b_hbi
        · rw [if_neg (by simp [hbi])] at he
          conv => cbv
          repeat (refine ⟨by first | (rw [hW]; show ordOk _ _ _ = true; kernel_rfl) | (first | trivial | omega | (simp (disch := omega) only [hS.glob, wraps, plain, Int.ofNat_eq_natCast]; first | done | omega | trivial | (simp; done) | (simp; omega) | (constructor <;> omega)) | (simp (disch := omega) only [hS.glob, wraps, plain, Int.ofNat_eq_natCast, Vx.toN]; omega)), ?_⟩)
          split <;> rename_i h3
          rotate_left
          · conv => cbv
            simp (disch := first | omega | (simp only [hS.glob, wraps, plain, Int.ofNat_eq_natCast]; omega)) only [hS.glob, wraps, plain, Int.ofNat_eq_natCast] at h3
            rw [if_neg h3] at he
            split <;> rename_i h4
            rotate_left
            · conv => cbv
              rw [hVV]
              exact V.to (hback (i + 1, o) ⟨by simp only; omega, ho, by simp only; omega, by simp only; rw [hd']; exact he⟩ (by simp only; omega)) (by (repeat' first | exact trivial | rfl | (refine And.intro ?_ ?_) | (refine sti ?_; (first | rfl | omega | (simp (disch := omega) only [hS.glob, wraps, plain, Int.ofNat_eq_natCast]; first | done | rfl | omega | (simp; done) | (simp; omega)) | (simp (disch := omega) only [hS.glob, wraps, plain, Int.ofNat_eq_natCast, Vx.toN]; omega))) | (refine slq ?_ ?_ ?_ <;> (first | rfl | omega | (simp (disch := omega) only [hS.glob, wraps, plain, Int.ofNat_eq_natCast]; first | done | rfl | omega | (simp; done) | (simp; omega)) | (simp (disch := omega) only [hS.glob, wraps, plain, Int.ofNat_eq_natCast, Vx.toN]; omega))) | (refine ptq ?_ ?_ ?_ <;> (first | rfl | omega | (simp (disch := omega) only [hS.glob, wraps, plain, Int.ofNat_eq_natCast]; first | done | rfl | omega | (simp; done) | (simp; omega)) | (simp (disch := omega) only [hS.glob, wraps, plain, Int.ofNat_eq_natCast, Vx.toN]; omega))) | (refine blq ?_; (first | rfl | omega | (simp (disch := omega) only [hS.glob, wraps, plain, Int.ofNat_eq_natCast]; first | done | rfl | omega | (simp; done) | (simp; omega)) | (simp (disch := omega) only [hS.glob, wraps, plain, Int.ofNat_eq_natCast, Vx.toN]; omega))))) rfl trivial (by rw [hC]; simp)
            · simp (disch := first | omega | (simp only [hS.glob, wraps, plain, Int.ofNat_eq_natCast]; omega)) only [hS.glob, wraps, plain, Int.ofNat_eq_natCast] at h4; omega
          · conv => cbv
            simp (disch := first | omega | (simp only [hS.glob, wraps, plain, Int.ofNat_eq_natCast]; omega)) only [hS.glob, wraps, plain, Int.ofNat_eq_natCast] at h3
            rw [if_pos h3] at he
            split <;> rename_i h4
            rotate_left
            · conv => cbv
              simp (disch := first | omega | (simp only [hS.glob, wraps, plain, Int.ofNat_eq_natCast]; omega)) only [hS.glob, wraps, plain, Int.ofNat_eq_natCast] at h4
              rw [if_neg (by omega)] at he
              rw [hVV]
              exact V.to (hback (i + 1, o - 1) ⟨by simp only; omega, by simp only; omega, by simp only; omega, by simp only; rw [hd']; exact he⟩ (by simp only; omega)) (by (repeat' first | exact trivial | rfl | (refine And.intro ?_ ?_) | (refine sti ?_; (first | rfl | omega | (simp (disch := omega) only [hS.glob, wraps, plain, Int.ofNat_eq_natCast]; first | done | rfl | omega | (simp; done) | (simp; omega)) | (simp (disch := omega) only [hS.glob, wraps, plain, Int.ofNat_eq_natCast, Vx.toN]; omega))) | (refine slq ?_ ?_ ?_ <;> (first | rfl | omega | (simp (disch := omega) only [hS.glob, wraps, plain, Int.ofNat_eq_natCast]; first | done | rfl | omega | (simp; done) | (simp; omega)) | (simp (disch := omega) only [hS.glob, wraps, plain, Int.ofNat_eq_natCast, Vx.toN]; omega))) | (refine ptq ?_ ?_ ?_ <;> (first | rfl | omega | (simp (disch := omega) only [hS.glob, wraps, plain, Int.ofNat_eq_natCast]; first | done | rfl | omega | (simp; done) | (simp; omega)) | (simp (disch := omega) only [hS.glob, wraps, plain, Int.ofNat_eq_natCast, Vx.toN]; omega))) | (refine blq ?_; (first | rfl | omega | (simp (disch := omega) only [hS.glob, wraps, plain, Int.ofNat_eq_natCast]; first | done | rfl | omega | (simp; done) | (simp; omega)) | (simp (disch := omega) only [hS.glob, wraps, plain, Int.ofNat_eq_natCast, Vx.toN]; omega))))) rfl trivial (by rw [hC]; simp)
            · conv => cbv
              simp (disch := first | omega | (simp only [hS.glob, wraps, plain, Int.ofNat_eq_natCast]; omega)) only [hS.glob, wraps, plain, Int.ofNat_eq_natCast] at h4
              rw [if_pos (by omega)] at he
              rw [← he]
              exact ⟨sti (by simp (disch := first | omega | (simp only [hS.glob, wraps, plain, Int.ofNat_eq_natCast]; omega)) only [hS.glob, wraps, plain, Int.ofNat_eq_natCast]), trivial⟩
        · rw [if_pos (by simp [hbi])] at he
          conv => cbv
          repeat (refine ⟨by first | (rw [hW]; show ordOk _ _ _ = true; kernel_rfl) | (first | trivial | omega | (simp (disch := omega) only [hS.glob, wraps, plain, Int.ofNat_eq_natCast]; first | done | omega | trivial | (simp; done) | (simp; omega) | (constructor <;> omega)) | (simp (disch := omega) only [hS.glob, wraps, plain, Int.ofNat_eq_natCast, Vx.toN]; omega)), ?_⟩)
          split <;> rename_i h3
          rotate_left
          · conv => cbv
            simp (disch := first | omega | (simp only [hS.glob, wraps, plain, Int.ofNat_eq_natCast]; omega)) only [hS.glob, wraps, plain, Int.ofNat_eq_natCast] at h3
            split <;> rename_i h4
            rotate_left
            · conv => cbv
              rw [hVV]
              exact V.to (hback (i + 1, o + 1) ⟨by simp only; omega, by simp only; omega, by simp only; omega, by simp only; rw [hd']; exact he⟩ (by simp only; omega)) (by (repeat' first | exact trivial | rfl | (refine And.intro ?_ ?_) | (refine sti ?_; (first | rfl | omega | (simp (disch := omega) only [hS.glob, wraps, plain, Int.ofNat_eq_natCast]; first | done | rfl | omega | (simp; done) | (simp; omega)) | (simp (disch := omega) only [hS.glob, wraps, plain, Int.ofNat_eq_natCast, Vx.toN]; omega))) | (refine slq ?_ ?_ ?_ <;> (first | rfl | omega | (simp (disch := omega) only [hS.glob, wraps, plain, Int.ofNat_eq_natCast]; first | done | rfl | omega | (simp; done) | (simp; omega)) | (simp (disch := omega) only [hS.glob, wraps, plain, Int.ofNat_eq_natCast, Vx.toN]; omega))) | (refine ptq ?_ ?_ ?_ <;> (first | rfl | omega | (simp (disch := omega) only [hS.glob, wraps, plain, Int.ofNat_eq_natCast]; first | done | rfl | omega | (simp; done) | (simp; omega)) | (simp (disch := omega) only [hS.glob, wraps, plain, Int.ofNat_eq_natCast, Vx.toN]; omega))) | (refine blq ?_; (first | rfl | omega | (simp (disch := omega) only [hS.glob, wraps, plain, Int.ofNat_eq_natCast]; first | done | rfl | omega | (simp; done) | (simp; omega)) | (simp (disch := omega) only [hS.glob, wraps, plain, Int.ofNat_eq_natCast, Vx.toN]; omega))))) rfl trivial (by rw [hC]; simp)
            · simp (disch := first | omega | (simp only [hS.glob, wraps, plain, Int.ofNat_eq_natCast]; omega)) only [hS.glob, wraps, plain, Int.ofNat_eq_natCast] at h4; omega
          · simp (disch := first | omega | (simp only [hS.glob, wraps, plain, Int.ofNat_eq_natCast]; omega)) only [hS.glob, wraps, plain, Int.ofNat_eq_natCast] at h3
            simp [begC, h3] at hbi
end Go.Proofs.Ytihmolafajmbjaa

namespace Go.Proofs.Ytihmolafajmbjaa
open Go Vx

/-- What the first strong makes, ends being known. -/
def sgo (l : Nat → Int) (e : Nat → Int) (to : Nat) : Nat → Nat → Int
  | 0, _ => 0
  | f + 1, i =>
    if i < to then
      if l i = 10 ∨ l i = 0 then 0
      else if l i = 1 ∨ l i = 2 then 1
      else if begC (l i) then (if e i = -1 ∨ (to : Int) ≤ e i then 0 else sgo l e to f ((e i).toNat + 1))
      else sgo l e to f (i + 1)
    else 0

theorem f23_ok (ln : Nat) (l : Nat → Int) (n : Nat) (e : Nat → Int) (a to : Nat) (za zt : Int) (hza : za = a) (hzt : zt = to) (R : Int) (hR : sgo l e to (to - a) a = R) (ha : a ≤ to) (hto : to ≤ ln) (hn : to ≤ n) (he : ∀ i, i < to → begC (l i) = true → e i = -1 ∨ (i : Int) < e i) :
    FSpec Try.prog 23 [.rows 1 ln (icol .i64 l), .rows 1 n (icol .i64 e), .int .i64 za, .int .i64 zt] [] (fun r H' => r = .int .i64 R ∧ H' = []) := by
  refine FSpec.of (fn := Try.f23) Try.func23 rfl rfl (by simp) fun C hC => ?_
  obtain ⟨iadd, isub, imul, iquo, irem, iband, ibor, ibxor, ibandn, ishl, ishr, iconv, ieq, ine, ilt, ile, igt, ige, bbeq, bbne, bnot, bband, sseq, ssne, sscat, sssub, sslen, sssz, ssbyte, toN, ofN, addN, subN, eqN, ltB, leN, imx, imn, inb, leb, sslt, ltN, fit, ne0, ge0, ssfit, minN, inR, hS⟩ := names
  refine V.rowsLen 0 (sz := 1) (n := ln) rfl fun hl => ?_
  simp (disch := first | omega | (simp only [hS.glob, wraps, plain, Int.ofNat_eq_natCast]; omega)) only [hS.glob, wraps, plain, Int.ofNat_eq_natCast] at hl
  obtain rfl : za = ofN a := by simp (disch := first | omega | (simp only [hS.glob, wraps, plain, Int.ofNat_eq_natCast]; omega)) only [hS.glob, wraps, plain, Int.ofNat_eq_natCast]; exact hza
  obtain rfl : zt = ofN to := by simp (disch := first | omega | (simp only [hS.glob, wraps, plain, Int.ofNat_eq_natCast]; omega)) only [hS.glob, wraps, plain, Int.ofNat_eq_natCast]; exact hzt
  refine V.go Try.func23 tl_ok mixed hS.ops [] 400 ?_
  intro VV VA W hVV hVA hW
  conv => cbv
  rw [hVV]
  clear hVV hVA VV VA hW W
  refine V.to (s' := [(9, .int .i64 (ofN a)), (0, .rows 1 ln (icol .i64 l)), (1, .rows 1 n (icol .i64 e)), (3, .int .i64 (ofN to))]) (H' := []) ?_ (by (repeat' first | exact trivial | rfl | (refine And.intro ?_ ?_) | (refine sti ?_; (first | rfl | omega | (simp (disch := omega) only [hS.glob, wraps, plain, Int.ofNat_eq_natCast]; first | done | rfl | omega | (simp; done) | (simp; omega)) | (simp (disch := omega) only [hS.glob, wraps, plain, Int.ofNat_eq_natCast, Vx.toN]; omega))) | (refine slq ?_ ?_ ?_ <;> (first | rfl | omega | (simp (disch := omega) only [hS.glob, wraps, plain, Int.ofNat_eq_natCast]; first | done | rfl | omega | (simp; done) | (simp; omega)) | (simp (disch := omega) only [hS.glob, wraps, plain, Int.ofNat_eq_natCast, Vx.toN]; omega))) | (refine ptq ?_ ?_ ?_ <;> (first | rfl | omega | (simp (disch := omega) only [hS.glob, wraps, plain, Int.ofNat_eq_natCast]; first | done | rfl | omega | (simp; done) | (simp; omega)) | (simp (disch := omega) only [hS.glob, wraps, plain, Int.ofNat_eq_natCast, Vx.toN]; omega))) | (refine blq ?_; (first | rfl | omega | (simp (disch := omega) only [hS.glob, wraps, plain, Int.ofNat_eq_natCast]; first | done | rfl | omega | (simp; done) | (simp; omega)) | (simp (disch := omega) only [hS.glob, wraps, plain, Int.ofNat_eq_natCast, Vx.toN]; omega))))) rfl trivial (by rw [hC]; simp)
  refine V.loop (γ := Nat × Nat) (fun p => p.1 ≤ to ∧ to - p.1 ≤ p.2 ∧ sgo l e to p.2 p.1 = R) (fun p => [(9, .int .i64 (ofN p.1)), (0, .rows 1 ln (icol .i64 l)), (1, .rows 1 n (icol .i64 e)), (3, .int .i64 (ofN to))]) (fun _ => []) (fun p => p.2) ?_ (a, to - a) ⟨ha, Nat.le_refl _, hR⟩
  rintro ⟨i, f⟩ ⟨hi, hf, hs⟩ hback
  dsimp only at hi hf hs ⊢
  refine V.go Try.func23 tl_ok mixed hS.ops [] 400 ?_
  intro VV VA W hVV hVA hW
  conv => cbv
  split <;> rename_i h1
  rotate_left
  · conv => cbv
    simp (disch := first | omega | (simp only [hS.glob, wraps, plain, Int.ofNat_eq_natCast]; omega)) only [hS.glob, wraps, plain, Int.ofNat_eq_natCast] at h1
    have : R = 0 := by
      rw [← hs]
      cases f with
      | zero => simp [sgo]
      | succ f => simp [sgo, show ¬ i < to by omega]
    rw [this]; simp
  · conv => cbv
    simp (disch := first | omega | (simp only [hS.glob, wraps, plain, Int.ofNat_eq_natCast]; omega)) only [hS.glob, wraps, plain, Int.ofNat_eq_natCast] at h1
    obtain ⟨f, rfl⟩ : ∃ f', f = f' + 1 := ⟨f - 1, by omega⟩
    simp only [sgo] at hs
    rw [if_pos (by omega)] at hs
    repeat (refine ⟨by first | (rw [hW]; show ordOk _ _ _ = true; kernel_rfl) | (first | trivial | omega | (simp (disch := omega) only [hS.glob, wraps, plain, Int.ofNat_eq_natCast]; first | done | omega | trivial | (simp; done) | (simp; omega) | (constructor <;> omega)) | (simp (disch := omega) only [hS.glob, wraps, plain, Int.ofNat_eq_natCast, Vx.toN]; omega)), ?_⟩)
    simp only [hS.tidy]
    cases h2 : ieq (l i) 10
    · conv => cbv
      simp (disch := first | omega | (simp only [hS.glob, wraps, plain, Int.ofNat_eq_natCast]; omega)) only [hS.glob, wraps, plain, Int.ofNat_eq_natCast] at h2
      cases h3 : ieq (l i) 0
      · conv => cbv
        simp (disch := first | omega | (simp only [hS.glob, wraps, plain, Int.ofNat_eq_natCast]; omega)) only [hS.glob, wraps, plain, Int.ofNat_eq_natCast] at h3
        rw [if_neg (by simp [h2, h3])] at hs
        cases h4 : ieq (l i) 1
        · conv => cbv
          simp (disch := first | omega | (simp only [hS.glob, wraps, plain, Int.ofNat_eq_natCast]; omega)) only [hS.glob, wraps, plain, Int.ofNat_eq_natCast] at h4
          cases h5 : ieq (l i) 2
          · conv => cbv
            simp (disch := first | omega | (simp only [hS.glob, wraps, plain, Int.ofNat_eq_natCast]; omega)) only [hS.glob, wraps, plain, Int.ofNat_eq_natCast] at h5
            rw [if_neg (by simp [h4, h5])] at hs
            rw [hVV]
            obtain ⟨b_hb, hb⟩ : ∃ b, b = begC (l i) := ⟨_, rfl⟩
            refine V.call rfl rfl rfl rfl rfl Try.func21 rfl (by decide) [] (by simp) (by simp) (by (first | rfl | ((conv => cbv); (repeat' apply And.intro) <;> first | rfl | trivial | (first | rfl | omega | (simp (disch := omega) only [hS.glob, wraps, plain, Int.ofNat_eq_natCast]; first | done | rfl | omega | (simp; done) | (simp; omega)) | (simp (disch := omega) only [hS.glob, wraps, plain, Int.ofNat_eq_natCast, Vx.toN]; omega))))) rfl (f21_ok (l i) b_hb hb) ?_
            rintro r Hc ⟨rfl, rfl⟩
            clear hVV hVA VV VA hW W
            refine V.go Try.func23 tl_ok mixed hS.ops [] 400 ?_
            intro VV VA W hVV hVA hW
            conv => cbv
            replace hb := hb.symm
            cases b_hb
            · rw [if_neg (by simp [hb])] at hs
              conv => cbv
              rw [hVV]
              obtain ⟨b_hb2, hb2⟩ : ∃ b, b = begC (l i) := ⟨_, rfl⟩
              refine V.call rfl rfl rfl rfl rfl Try.func21 rfl (by decide) [] (by simp) (by simp) (by (first | rfl | ((conv => cbv); (repeat' apply And.intro) <;> first | rfl | trivial | (first | rfl | omega | (simp (disch := omega) only [hS.glob, wraps, plain, Int.ofNat_eq_natCast]; first | done | rfl | omega | (simp; done) | (simp; omega)) | (simp (disch := omega) only [hS.glob, wraps, plain, Int.ofNat_eq_natCast, Vx.toN]; omega))))) rfl (f21_ok (l i) b_hb2 hb2) ?_
              rintro r Hc ⟨rfl, rfl⟩
              clear hVV hVA VV VA hW W
              refine V.go Try.func23 tl_ok mixed hS.ops [] 400 ?_
              intro VV VA W hVV hVA hW
              conv => cbv
              replace hb2 := hb2.symm
              cases b_hb2
              · conv => cbv
                rw [hVV]
                exact V.to (hback (i + 1, f) ⟨by simp only; omega, by simp only; omega, hs⟩ (by simp)) (by (repeat' first | exact trivial | rfl | (refine And.intro ?_ ?_) | (refine sti ?_; (first | rfl | omega | (simp (disch := omega) only [hS.glob, wraps, plain, Int.ofNat_eq_natCast]; first | done | rfl | omega | (simp; done) | (simp; omega)) | (simp (disch := omega) only [hS.glob, wraps, plain, Int.ofNat_eq_natCast, Vx.toN]; omega))) | (refine slq ?_ ?_ ?_ <;> (first | rfl | omega | (simp (disch := omega) only [hS.glob, wraps, plain, Int.ofNat_eq_natCast]; first | done | rfl | omega | (simp; done) | (simp; omega)) | (simp (disch := omega) only [hS.glob, wraps, plain, Int.ofNat_eq_natCast, Vx.toN]; omega))) | (refine ptq ?_ ?_ ?_ <;> (first | rfl | omega | (simp (disch := omega) only [hS.glob, wraps, plain, Int.ofNat_eq_natCast]; first | done | rfl | omega | (simp; done) | (simp; omega)) | (simp (disch := omega) only [hS.glob, wraps, plain, Int.ofNat_eq_natCast, Vx.toN]; omega))) | (refine blq ?_; (first | rfl | omega | (simp (disch := omega) only [hS.glob, wraps, plain, Int.ofNat_eq_natCast]; first | done | rfl | omega | (simp; done) | (simp; omega)) | (simp (disch := omega) only [hS.glob, wraps, plain, Int.ofNat_eq_natCast, Vx.toN]; omega))))) rfl trivial (by rw [hC]; simp)
              · rw [hb] at hb2; cases hb2
            · rw [if_pos (by simp [hb])] at hs
              conv => cbv
              have hei := he i (by omega) hb
              repeat (refine ⟨by first | (rw [hW]; show ordOk _ _ _ = true; kernel_rfl) | (first | trivial | omega | (simp (disch := omega) only [hS.glob, wraps, plain, Int.ofNat_eq_natCast]; first | done | omega | trivial | (simp; done) | (simp; omega) | (constructor <;> omega)) | (simp (disch := omega) only [hS.glob, wraps, plain, Int.ofNat_eq_natCast, Vx.toN]; omega)), ?_⟩)
              simp only [hS.tidy]
              cases h6 : ieq (e i) (-1)
              · conv => cbv
                simp (disch := first | omega | (simp only [hS.glob, wraps, plain, Int.ofNat_eq_natCast]; omega)) only [hS.glob, wraps, plain, Int.ofNat_eq_natCast] at h6
                repeat (refine ⟨by first | (rw [hW]; show ordOk _ _ _ = true; kernel_rfl) | (first | trivial | omega | (simp (disch := omega) only [hS.glob, wraps, plain, Int.ofNat_eq_natCast]; first | done | omega | trivial | (simp; done) | (simp; omega) | (constructor <;> omega)) | (simp (disch := omega) only [hS.glob, wraps, plain, Int.ofNat_eq_natCast, Vx.toN]; omega)), ?_⟩)
                simp only [hS.tidy]
                cases h7 : ige (e i) (ofN to)
                · conv => cbv
                  simp (disch := first | omega | (simp only [hS.glob, wraps, plain, Int.ofNat_eq_natCast]; omega)) only [hS.glob, wraps, plain, Int.ofNat_eq_natCast] at h7
                  rw [if_neg (by simp only [not_or]; omega)] at hs
                  rw [hVV]
                  obtain ⟨b_hb2, hb2⟩ : ∃ b, b = begC (l i) := ⟨_, rfl⟩
                  refine V.call rfl rfl rfl rfl rfl Try.func21 rfl (by decide) [] (by simp) (by simp) (by (first | rfl | ((conv => cbv); (repeat' apply And.intro) <;> first | rfl | trivial | (first | rfl | omega | (simp (disch := omega) only [hS.glob, wraps, plain, Int.ofNat_eq_natCast]; first | done | rfl | omega | (simp; done) | (simp; omega)) | (simp (disch := omega) only [hS.glob, wraps, plain, Int.ofNat_eq_natCast, Vx.toN]; omega))))) rfl (f21_ok (l i) b_hb2 hb2) ?_
                  rintro r Hc ⟨rfl, rfl⟩
                  clear hVV hVA VV VA hW W
                  refine V.go Try.func23 tl_ok mixed hS.ops [] 400 ?_
                  intro VV VA W hVV hVA hW
                  conv => cbv
                  replace hb2 := hb2.symm
                  cases b_hb2
                  · rw [hb] at hb2; cases hb2
                  · conv => cbv
                    repeat (refine ⟨by first | (rw [hW]; show ordOk _ _ _ = true; kernel_rfl) | (first | trivial | omega | (simp (disch := omega) only [hS.glob, wraps, plain, Int.ofNat_eq_natCast]; first | done | omega | trivial | (simp; done) | (simp; omega) | (constructor <;> omega)) | (simp (disch := omega) only [hS.glob, wraps, plain, Int.ofNat_eq_natCast, Vx.toN]; omega)), ?_⟩)
                    rw [hVV]
                    exact V.to (hback ((e i).toNat + 1, f) ⟨by simp only; omega, by simp only; omega, hs⟩ (by simp)) (by (repeat' first | exact trivial | rfl | (refine And.intro ?_ ?_) | (refine sti ?_; (first | rfl | omega | (simp (disch := omega) only [hS.glob, wraps, plain, Int.ofNat_eq_natCast]; first | done | rfl | omega | (simp; done) | (simp; omega)) | (simp (disch := omega) only [hS.glob, wraps, plain, Int.ofNat_eq_natCast, Vx.toN]; omega))) | (refine slq ?_ ?_ ?_ <;> (first | rfl | omega | (simp (disch := omega) only [hS.glob, wraps, plain, Int.ofNat_eq_natCast]; first | done | rfl | omega | (simp; done) | (simp; omega)) | (simp (disch := omega) only [hS.glob, wraps, plain, Int.ofNat_eq_natCast, Vx.toN]; omega))) | (refine ptq ?_ ?_ ?_ <;> (first | rfl | omega | (simp (disch := omega) only [hS.glob, wraps, plain, Int.ofNat_eq_natCast]; first | done | rfl | omega | (simp; done) | (simp; omega)) | (simp (disch := omega) only [hS.glob, wraps, plain, Int.ofNat_eq_natCast, Vx.toN]; omega))) | (refine blq ?_; (first | rfl | omega | (simp (disch := omega) only [hS.glob, wraps, plain, Int.ofNat_eq_natCast]; first | done | rfl | omega | (simp; done) | (simp; omega)) | (simp (disch := omega) only [hS.glob, wraps, plain, Int.ofNat_eq_natCast, Vx.toN]; omega))))) rfl trivial (by rw [hC]; simp)
                · conv => cbv
                  simp (disch := first | omega | (simp only [hS.glob, wraps, plain, Int.ofNat_eq_natCast]; omega)) only [hS.glob, wraps, plain, Int.ofNat_eq_natCast] at h7
                  rw [if_pos (.inr h7)] at hs
                  rw [← hs]; simp
              · conv => cbv
                simp (disch := first | omega | (simp only [hS.glob, wraps, plain, Int.ofNat_eq_natCast]; omega)) only [hS.glob, wraps, plain, Int.ofNat_eq_natCast] at h6
                rw [if_pos (.inl h6)] at hs
                rw [← hs]; simp
          · conv => cbv
            simp (disch := first | omega | (simp only [hS.glob, wraps, plain, Int.ofNat_eq_natCast]; omega)) only [hS.glob, wraps, plain, Int.ofNat_eq_natCast] at h5
            rw [if_pos (.inr h5)] at hs
            rw [← hs]; simp
        · conv => cbv
          simp (disch := first | omega | (simp only [hS.glob, wraps, plain, Int.ofNat_eq_natCast]; omega)) only [hS.glob, wraps, plain, Int.ofNat_eq_natCast] at h4
          rw [if_pos (.inl h4)] at hs
          rw [← hs]; simp
      · conv => cbv
        simp (disch := first | omega | (simp only [hS.glob, wraps, plain, Int.ofNat_eq_natCast]; omega)) only [hS.glob, wraps, plain, Int.ofNat_eq_natCast] at h3
        rw [if_pos (.inr h3)] at hs
        rw [← hs]; simp
    · conv => cbv
      simp (disch := first | omega | (simp only [hS.glob, wraps, plain, Int.ofNat_eq_natCast]; omega)) only [hS.glob, wraps, plain, Int.ofNat_eq_natCast] at h2
      rw [if_pos (.inl h2)] at hs
      rw [← hs]; simp
end Go.Proofs.Ytihmolafajmbjaa

namespace Go.Proofs.Ytihmolafajmbjaa
open Go Vx

theorem mrun_out (l : Nat → Int) : ∀ (k j : Nat), (mrun l k).2 j = -1 ∨ ((j : Int) < (mrun l k).2 j ∧ (mrun l k).2 j < k)
  | 0, j => by simp [mrun]
  | k + 1, j => by
    have ih := mrun_out l k j
    have hlt := mrun_lt l k
    simp only [mrun, mstep]
    split
    · simp only; omega
    · split
      · simp only; omega
      · split
        · split
          · omega
          · rename_i hne
            simp only
            split
            · rename_i hj
              have : 0 < (mrun l k).1.length := List.length_pos_iff.2 hne
              have := hlt ((mrun l k).1.length - 1) (by omega)
              omega
            · omega
        · omega

theorem f13_ok (ln : Nat) (l : Nat → Int) (hl : ln ≤ 1000000) (R : Int) (hR : sgo l (mrun l ln).2 ln ln 0 = R) : FSpec Try.prog 13 [.rows 1 ln (icol .i64 l)] [] (fun r H' => r = .int .i64 R ∧ H' = [none]) := by
  refine FSpec.of (fn := Try.f13) Try.func13 rfl rfl (by simp) fun C hC => ?_
  obtain ⟨iadd, isub, imul, iquo, irem, iband, ibor, ibxor, ibandn, ishl, ishr, iconv, ieq, ine, ilt, ile, igt, ige, bbeq, bbne, bnot, bband, sseq, ssne, sscat, sssub, sslen, sssz, ssbyte, toN, ofN, addN, subN, eqN, ltB, leN, imx, imn, inb, leb, sslt, ltN, fit, ne0, ge0, ssfit, minN, inR, hS⟩ := names
  refine V.go Try.func13 tl_ok mixed hS.ops [] 400 ?_
  intro VV VA W hVV hVA hW
  conv => cbv
  rw [hVV]
  refine V.call rfl rfl rfl rfl rfl Try.func10 rfl (by decide) [] (by simp) (by simp) (by (first | rfl | ((conv => cbv); (repeat' apply And.intro) <;> first | rfl | trivial | (first | rfl | omega | (simp (disch := omega) only [hS.glob, wraps, plain, Int.ofNat_eq_natCast]; first | done | rfl | omega | (simp; done) | (simp; omega)) | (simp (disch := omega) only [hS.glob, wraps, plain, Int.ofNat_eq_natCast, Vx.toN]; omega))))) rfl (f10_ok ln l hl) ?_
  rintro r Hc ⟨rfl, rfl⟩
  clear hVV hVA VV VA hW W
  refine V.freeze0 5 0 ln (by rfl) (by rfl) (by rfl) (by first | decide | omega | exact Nat.zero_lt_one) (by rfl) (by rfl) (by first | exact Nat.le_refl _ | decide | omega | (simp only [Cont.n]; omega)) ?_
  generalize he : (mrun l ln).2 = e at hR ⊢
  refine V.go Try.func13 tl_ok mixed hS.ops [] 400 ?_
  intro VV VA W hVV hVA hW
  conv => cbv
  rw [hVV]
  have hs := f23_ok ln l ln e 0 ln 0 (ofN ln) rfl (by simp (disch := first | omega | (simp only [hS.glob, wraps, plain, Int.ofNat_eq_natCast]; omega)) only [hS.glob, wraps, plain, Int.ofNat_eq_natCast]) R (by simpa using hR) (by omega) (by omega) (by omega) (fun i hi hb => by have := mrun_out l ln i; rw [he] at this; omega)
  refine V.call rfl rfl rfl rfl rfl Try.func23 rfl (by decide) [] (by simp) (by simp) (by (first | rfl | ((conv => cbv); (repeat' apply And.intro) <;> first | rfl | trivial | (first | rfl | omega | (simp (disch := omega) only [hS.glob, wraps, plain, Int.ofNat_eq_natCast]; first | done | rfl | omega | (simp; done) | (simp; omega)) | (simp (disch := omega) only [hS.glob, wraps, plain, Int.ofNat_eq_natCast, Vx.toN]; omega))))) rfl hs ?_
  rintro r Hc ⟨rfl, rfl⟩
  clear hVV hVA VV VA hW W
  refine V.go Try.func13 tl_ok mixed hS.ops [] 400 ?_
  intro VV VA W hVV hVA hW
  conv => cbv
  simp
end Go.Proofs.Ytihmolafajmbjaa

namespace Go.Proofs.Ytihmolafajmbjaa
open Go Vx

theorem f12_ok (n m : Nat) (xs ys : Nat → Int) (R : Bool) (hR : R = true ↔ n = m ∧ ∀ j, j < n → xs j = ys j) : FSpec Try.prog 12 [.rows 1 n (icol .i64 xs), .rows 1 m (icol .i64 ys)] [] (fun r H' => r = .bool R ∧ H' = []) := by
  refine FSpec.of (fn := Try.f12) Try.func12 rfl rfl (by simp) fun C hC => ?_
  obtain ⟨iadd, isub, imul, iquo, irem, iband, ibor, ibxor, ibandn, ishl, ishr, iconv, ieq, ine, ilt, ile, igt, ige, bbeq, bbne, bnot, bband, sseq, ssne, sscat, sssub, sslen, sssz, ssbyte, toN, ofN, addN, subN, eqN, ltB, leN, imx, imn, inb, leb, sslt, ltN, fit, ne0, ge0, ssfit, minN, inR, hS⟩ := names
  refine V.rowsLen 0 (sz := 1) (n := n) rfl fun hx => ?_
  refine V.rowsLen 1 (sz := 1) (n := m) rfl fun hy => ?_
  simp (disch := first | omega | (simp only [hS.glob, wraps, plain, Int.ofNat_eq_natCast]; omega)) only [hS.glob, wraps, plain, Int.ofNat_eq_natCast] at hx
  simp (disch := first | omega | (simp only [hS.glob, wraps, plain, Int.ofNat_eq_natCast]; omega)) only [hS.glob, wraps, plain, Int.ofNat_eq_natCast] at hy
  refine V.go Try.func12 tl_ok mixed hS.ops [] 400 ?_
  intro VV VA W hVV hVA hW
  conv => cbv
  split <;> rename_i h
  · conv => cbv
    simp (disch := first | omega | (simp only [hS.glob, wraps, plain, Int.ofNat_eq_natCast]; omega)) only [hS.glob, wraps, plain, Int.ofNat_eq_natCast] at h
    refine ⟨?_, trivial⟩
    congr 1
    cases R
    · rfl
    · have := (hR.1 rfl).1; omega
  · conv => cbv
    simp (disch := first | omega | (simp only [hS.glob, wraps, plain, Int.ofNat_eq_natCast]; omega)) only [hS.glob, wraps, plain, Int.ofNat_eq_natCast] at h
    have hl : n = m := by omega
    rw [hVV]
    refine V.to (s' := [(5, .int .i64 (ofN 0)), (0, .rows 1 n (icol .i64 xs)), (1, .rows 1 m (icol .i64 ys))]) (H' := []) ?_ (by (repeat' first | exact trivial | rfl | (refine And.intro ?_ ?_) | (refine sti ?_; (first | rfl | omega | (simp (disch := omega) only [hS.glob, wraps, plain, Int.ofNat_eq_natCast]; first | done | rfl | omega | (simp; done) | (simp; omega)) | (simp (disch := omega) only [hS.glob, wraps, plain, Int.ofNat_eq_natCast, Vx.toN]; omega))) | (refine slq ?_ ?_ ?_ <;> (first | rfl | omega | (simp (disch := omega) only [hS.glob, wraps, plain, Int.ofNat_eq_natCast]; first | done | rfl | omega | (simp; done) | (simp; omega)) | (simp (disch := omega) only [hS.glob, wraps, plain, Int.ofNat_eq_natCast, Vx.toN]; omega))) | (refine ptq ?_ ?_ ?_ <;> (first | rfl | omega | (simp (disch := omega) only [hS.glob, wraps, plain, Int.ofNat_eq_natCast]; first | done | rfl | omega | (simp; done) | (simp; omega)) | (simp (disch := omega) only [hS.glob, wraps, plain, Int.ofNat_eq_natCast, Vx.toN]; omega))) | (refine blq ?_; (first | rfl | omega | (simp (disch := omega) only [hS.glob, wraps, plain, Int.ofNat_eq_natCast]; first | done | rfl | omega | (simp; done) | (simp; omega)) | (simp (disch := omega) only [hS.glob, wraps, plain, Int.ofNat_eq_natCast, Vx.toN]; omega))))) rfl trivial (by rw [hC]; simp)
    refine V.loop (γ := Nat) (fun i => i ≤ n ∧ ∀ j, j < i → xs j = ys j) (fun i => [(5, .int .i64 (ofN i)), (0, .rows 1 n (icol .i64 xs)), (1, .rows 1 m (icol .i64 ys))]) (fun _ => []) (fun i => n - i) ?_ 0 ⟨Nat.zero_le _, fun j hj => by omega⟩
    rintro i ⟨hi, heq⟩ hback
    clear hVV hVA VV VA hW W
    refine V.go Try.func12 tl_ok mixed hS.ops [] 400 ?_
    intro VV VA W hVV hVA hW
    conv => cbv
    split <;> rename_i h2
    · conv => cbv
      simp (disch := first | omega | (simp only [hS.glob, wraps, plain, Int.ofNat_eq_natCast]; omega)) only [hS.glob, wraps, plain, Int.ofNat_eq_natCast] at h2
      repeat (refine ⟨by first | (rw [hW]; show ordOk _ _ _ = true; kernel_rfl) | (first | trivial | omega | (simp (disch := omega) only [hS.glob, wraps, plain, Int.ofNat_eq_natCast]; first | done | omega | trivial | (simp; done) | (simp; omega) | (constructor <;> omega)) | (simp (disch := omega) only [hS.glob, wraps, plain, Int.ofNat_eq_natCast, Vx.toN]; omega)), ?_⟩)
      split <;> rename_i h3
      · conv => cbv
        simp (disch := first | omega | (simp only [hS.glob, wraps, plain, Int.ofNat_eq_natCast]; omega)) only [hS.glob, wraps, plain, Int.ofNat_eq_natCast] at h3
        refine ⟨?_, trivial⟩
        congr 1
        cases R
        · rfl
        · exact absurd ((hR.1 rfl).2 i (by omega)) h3
      · conv => cbv
        simp (disch := first | omega | (simp only [hS.glob, wraps, plain, Int.ofNat_eq_natCast]; omega)) only [hS.glob, wraps, plain, Int.ofNat_eq_natCast] at h3
        rw [hVV]
        refine V.to (hback (i+1) ⟨by omega, fun j hj => ?_⟩ (by omega)) (by (repeat' first | exact trivial | rfl | (refine And.intro ?_ ?_) | (refine sti ?_; (first | rfl | omega | (simp (disch := omega) only [hS.glob, wraps, plain, Int.ofNat_eq_natCast]; first | done | rfl | omega | (simp; done) | (simp; omega)) | (simp (disch := omega) only [hS.glob, wraps, plain, Int.ofNat_eq_natCast, Vx.toN]; omega))) | (refine slq ?_ ?_ ?_ <;> (first | rfl | omega | (simp (disch := omega) only [hS.glob, wraps, plain, Int.ofNat_eq_natCast]; first | done | rfl | omega | (simp; done) | (simp; omega)) | (simp (disch := omega) only [hS.glob, wraps, plain, Int.ofNat_eq_natCast, Vx.toN]; omega))) | (refine ptq ?_ ?_ ?_ <;> (first | rfl | omega | (simp (disch := omega) only [hS.glob, wraps, plain, Int.ofNat_eq_natCast]; first | done | rfl | omega | (simp; done) | (simp; omega)) | (simp (disch := omega) only [hS.glob, wraps, plain, Int.ofNat_eq_natCast, Vx.toN]; omega))) | (refine blq ?_; (first | rfl | omega | (simp (disch := omega) only [hS.glob, wraps, plain, Int.ofNat_eq_natCast]; first | done | rfl | omega | (simp; done) | (simp; omega)) | (simp (disch := omega) only [hS.glob, wraps, plain, Int.ofNat_eq_natCast, Vx.toN]; omega))))) rfl trivial (by rw [hC]; simp)
        rcases Nat.lt_succ_iff_lt_or_eq.1 hj with h | rfl
        · exact heq j h
        · exact h3
    · conv => cbv
      simp (disch := first | omega | (simp only [hS.glob, wraps, plain, Int.ofNat_eq_natCast]; omega)) only [hS.glob, wraps, plain, Int.ofNat_eq_natCast] at h2
      refine ⟨?_, trivial⟩
      congr 1
      symm
      rw [hR]
      exact ⟨hl, fun j hj => heq j (by omega)⟩
theorem escan_range (l : Nat → Int) : ∀ f i o, escan l f i o = -1 ∨ ((i : Int) ≤ escan l f i o ∧ escan l f i o < i + f)
  | 0, i, o => by simp [escan]
  | f + 1, i, o => by
    have h1 := escan_range l f (i + 1) (o + 1)
    have h2 := escan_range l f (i + 1) (o - 1)
    have h3 := escan_range l f (i + 1) o
    simp only [escan]
    repeat' split
    all_goals omega
theorem endOf_range (ln : Nat) (l : Nat → Int) (a : Nat) (ha : a < ln) : endOf ln l a = -1 ∨ ((a : Int) < endOf ln l a ∧ endOf ln l a < ln) := by
  simp only [endOf]
  split
  · have := escan_range l (ln - (a + 1)) (a + 1) 1
    omega
  · simp

theorem f14_ok (ln : Nat) (l : Nat → Int) (R : Int) (hR : sgo l (endOf ln l) ln ln 0 = R) : FSpec Try.prog 14 [.rows 1 ln (icol .i64 l)] [] (fun r H' => r = .int .i64 R ∧ H' = []) := by
  refine FSpec.of (fn := Try.f14) Try.func14 rfl rfl (by simp) fun C hC => ?_
  obtain ⟨iadd, isub, imul, iquo, irem, iband, ibor, ibxor, ibandn, ishl, ishr, iconv, ieq, ine, ilt, ile, igt, ige, bbeq, bbne, bnot, bband, sseq, ssne, sscat, sssub, sslen, sssz, ssbyte, toN, ofN, addN, subN, eqN, ltB, leN, imx, imn, inb, leb, sslt, ltN, fit, ne0, ge0, ssfit, minN, inR, hS⟩ := names
  refine V.rowsLen 0 (sz := 1) (n := ln) rfl fun hl => ?_
  simp (disch := first | omega | (simp only [hS.glob, wraps, plain, Int.ofNat_eq_natCast]; omega)) only [hS.glob, wraps, plain, Int.ofNat_eq_natCast] at hl
  refine V.go Try.func14 tl_ok mixed hS.ops [] 400 ?_
  intro VV VA W hVV hVA hW
  conv => cbv
  rw [hVV]
  clear hVV hVA VV VA hW W
  refine V.to (s' := [(3, .int .i64 (ofN 0)), (0, .rows 1 ln (icol .i64 l))]) (H' := []) ?_ (by (repeat' first | exact trivial | rfl | (refine And.intro ?_ ?_) | (refine sti ?_; (first | rfl | omega | (simp (disch := omega) only [hS.glob, wraps, plain, Int.ofNat_eq_natCast]; first | done | rfl | omega | (simp; done) | (simp; omega)) | (simp (disch := omega) only [hS.glob, wraps, plain, Int.ofNat_eq_natCast, Vx.toN]; omega))) | (refine slq ?_ ?_ ?_ <;> (first | rfl | omega | (simp (disch := omega) only [hS.glob, wraps, plain, Int.ofNat_eq_natCast]; first | done | rfl | omega | (simp; done) | (simp; omega)) | (simp (disch := omega) only [hS.glob, wraps, plain, Int.ofNat_eq_natCast, Vx.toN]; omega))) | (refine ptq ?_ ?_ ?_ <;> (first | rfl | omega | (simp (disch := omega) only [hS.glob, wraps, plain, Int.ofNat_eq_natCast]; first | done | rfl | omega | (simp; done) | (simp; omega)) | (simp (disch := omega) only [hS.glob, wraps, plain, Int.ofNat_eq_natCast, Vx.toN]; omega))) | (refine blq ?_; (first | rfl | omega | (simp (disch := omega) only [hS.glob, wraps, plain, Int.ofNat_eq_natCast]; first | done | rfl | omega | (simp; done) | (simp; omega)) | (simp (disch := omega) only [hS.glob, wraps, plain, Int.ofNat_eq_natCast, Vx.toN]; omega))))) rfl trivial (by rw [hC]; simp)
  refine V.loop (γ := Nat × Nat) (fun p => p.1 ≤ ln ∧ ln - p.1 ≤ p.2 ∧ sgo l (endOf ln l) (ln) p.2 p.1 = R) (fun p => [(3, .int .i64 (ofN p.1)), (0, .rows 1 ln (icol .i64 l))]) (fun _ => []) (fun p => p.2) ?_ (0, ln) ⟨by simp, by simp, hR⟩
  rintro ⟨i, f⟩ ⟨hi, hf, hs⟩ hback
  dsimp only at hi hf hs ⊢
  refine V.go Try.func14 tl_ok mixed hS.ops [] 400 ?_
  intro VV VA W hVV hVA hW
  conv => cbv
  cases h1 : ilt (ofN i) (ofN ln)
  · conv => cbv
    simp (disch := first | omega | (simp only [hS.glob, wraps, plain, Int.ofNat_eq_natCast]; omega)) only [hS.glob, wraps, plain, Int.ofNat_eq_natCast] at h1
    have : R = 0 := by
      rw [← hs]
      cases f with
      | zero => simp [sgo]
      | succ f => simp [sgo, show ¬ i < ln by omega]
    rw [this]; simp
  · conv => cbv
    simp (disch := first | omega | (simp only [hS.glob, wraps, plain, Int.ofNat_eq_natCast]; omega)) only [hS.glob, wraps, plain, Int.ofNat_eq_natCast] at h1
    obtain ⟨f, rfl⟩ : ∃ f', f = f' + 1 := ⟨f - 1, by omega⟩
    simp only [sgo] at hs
    rw [if_pos (by omega)] at hs
    repeat (refine ⟨by first | (rw [hW]; show ordOk _ _ _ = true; kernel_rfl) | (first | trivial | omega | (simp (disch := omega) only [hS.glob, wraps, plain, Int.ofNat_eq_natCast]; first | done | omega | trivial | (simp; done) | (simp; omega) | (constructor <;> omega)) | (simp (disch := omega) only [hS.glob, wraps, plain, Int.ofNat_eq_natCast, Vx.toN]; omega)), ?_⟩)
    simp only [hS.tidy]
    cases h2 : ine (l i) 10
    · conv => cbv
      simp (disch := first | omega | (simp only [hS.glob, wraps, plain, Int.ofNat_eq_natCast]; omega)) only [hS.glob, wraps, plain, Int.ofNat_eq_natCast] at h2
      rw [if_pos (.inl h2)] at hs
      rw [← hs]; simp
    · conv => cbv
      simp (disch := first | omega | (simp only [hS.glob, wraps, plain, Int.ofNat_eq_natCast]; omega)) only [hS.glob, wraps, plain, Int.ofNat_eq_natCast] at h2
      repeat (refine ⟨by first | (rw [hW]; show ordOk _ _ _ = true; kernel_rfl) | (first | trivial | omega | (simp (disch := omega) only [hS.glob, wraps, plain, Int.ofNat_eq_natCast]; first | done | omega | trivial | (simp; done) | (simp; omega) | (constructor <;> omega)) | (simp (disch := omega) only [hS.glob, wraps, plain, Int.ofNat_eq_natCast, Vx.toN]; omega)), ?_⟩)
      simp only [hS.tidy]
      cases h3 : ieq (l i) 0
      · conv => cbv
        simp (disch := first | omega | (simp only [hS.glob, wraps, plain, Int.ofNat_eq_natCast]; omega)) only [hS.glob, wraps, plain, Int.ofNat_eq_natCast] at h3
        rw [if_neg (by simp [h2, h3])] at hs
        repeat (refine ⟨by first | (rw [hW]; show ordOk _ _ _ = true; kernel_rfl) | (first | trivial | omega | (simp (disch := omega) only [hS.glob, wraps, plain, Int.ofNat_eq_natCast]; first | done | omega | trivial | (simp; done) | (simp; omega) | (constructor <;> omega)) | (simp (disch := omega) only [hS.glob, wraps, plain, Int.ofNat_eq_natCast, Vx.toN]; omega)), ?_⟩)
        simp only [hS.tidy]
        cases h4 : ieq (l i) 1
        · conv => cbv
          simp (disch := first | omega | (simp only [hS.glob, wraps, plain, Int.ofNat_eq_natCast]; omega)) only [hS.glob, wraps, plain, Int.ofNat_eq_natCast] at h4
          repeat (refine ⟨by first | (rw [hW]; show ordOk _ _ _ = true; kernel_rfl) | (first | trivial | omega | (simp (disch := omega) only [hS.glob, wraps, plain, Int.ofNat_eq_natCast]; first | done | omega | trivial | (simp; done) | (simp; omega) | (constructor <;> omega)) | (simp (disch := omega) only [hS.glob, wraps, plain, Int.ofNat_eq_natCast, Vx.toN]; omega)), ?_⟩)
          simp only [hS.tidy]
          cases h5 : ieq (l i) 2
          · conv => cbv
            simp (disch := first | omega | (simp only [hS.glob, wraps, plain, Int.ofNat_eq_natCast]; omega)) only [hS.glob, wraps, plain, Int.ofNat_eq_natCast] at h5
            rw [if_neg (by simp [h4, h5])] at hs
            repeat (refine ⟨by first | (rw [hW]; show ordOk _ _ _ = true; kernel_rfl) | (first | trivial | omega | (simp (disch := omega) only [hS.glob, wraps, plain, Int.ofNat_eq_natCast]; first | done | omega | trivial | (simp; done) | (simp; omega) | (constructor <;> omega)) | (simp (disch := omega) only [hS.glob, wraps, plain, Int.ofNat_eq_natCast, Vx.toN]; omega)), ?_⟩)
            simp only [hS.tidy]
            rw [hVV]
            obtain ⟨b_hb, hb⟩ : ∃ b, b = begC (l i) := ⟨_, rfl⟩
            refine V.call rfl rfl rfl rfl rfl Try.func24 rfl (by decide) [] (by simp) (by simp) (by (first | rfl | ((conv => cbv); (repeat' apply And.intro) <;> first | rfl | trivial | (first | rfl | omega | (simp (disch := omega) only [hS.glob, wraps, plain, Int.ofNat_eq_natCast]; first | done | rfl | omega | (simp; done) | (simp; omega)) | (simp (disch := omega) only [hS.glob, wraps, plain, Int.ofNat_eq_natCast, Vx.toN]; omega))))) rfl (f24_ok (l i) b_hb hb) ?_
            rintro r Hc ⟨rfl, rfl⟩
            clear hVV hVA VV VA hW W
            refine V.go Try.func14 tl_ok mixed hS.ops [] 400 ?_
            intro VV VA W hVV hVA hW
            conv => cbv
            replace hb := hb.symm
            cases b_hb
            · rw [if_neg (by simp [hb])] at hs
              conv => cbv
              rw [hVV]
              exact V.to (hback (i + 1, f) ⟨by simp only; omega, by simp only; omega, hs⟩ (by simp)) (by (repeat' first | exact trivial | rfl | (refine And.intro ?_ ?_) | (refine sti ?_; (first | rfl | omega | (simp (disch := omega) only [hS.glob, wraps, plain, Int.ofNat_eq_natCast]; first | done | rfl | omega | (simp; done) | (simp; omega)) | (simp (disch := omega) only [hS.glob, wraps, plain, Int.ofNat_eq_natCast, Vx.toN]; omega))) | (refine slq ?_ ?_ ?_ <;> (first | rfl | omega | (simp (disch := omega) only [hS.glob, wraps, plain, Int.ofNat_eq_natCast]; first | done | rfl | omega | (simp; done) | (simp; omega)) | (simp (disch := omega) only [hS.glob, wraps, plain, Int.ofNat_eq_natCast, Vx.toN]; omega))) | (refine ptq ?_ ?_ ?_ <;> (first | rfl | omega | (simp (disch := omega) only [hS.glob, wraps, plain, Int.ofNat_eq_natCast]; first | done | rfl | omega | (simp; done) | (simp; omega)) | (simp (disch := omega) only [hS.glob, wraps, plain, Int.ofNat_eq_natCast, Vx.toN]; omega))) | (refine blq ?_; (first | rfl | omega | (simp (disch := omega) only [hS.glob, wraps, plain, Int.ofNat_eq_natCast]; first | done | rfl | omega | (simp; done) | (simp; omega)) | (simp (disch := omega) only [hS.glob, wraps, plain, Int.ofNat_eq_natCast, Vx.toN]; omega))))) rfl trivial (by rw [hC]; simp)
            · rw [if_pos (by simp [hb])] at hs
              conv => cbv
              rw [hVV]
              have hei := endOf_range ln l i (by omega)
              generalize hee : endOf ln l i = e at hs hei
              refine V.call rfl rfl rfl rfl rfl Try.func22 rfl (by decide) [] (by simp) (by simp) (by (first | rfl | ((conv => cbv); (repeat' apply And.intro) <;> first | rfl | trivial | (first | rfl | omega | (simp (disch := omega) only [hS.glob, wraps, plain, Int.ofNat_eq_natCast]; first | done | rfl | omega | (simp; done) | (simp; omega)) | (simp (disch := omega) only [hS.glob, wraps, plain, Int.ofNat_eq_natCast, Vx.toN]; omega))))) rfl (f22_ok ln l i (ofN i) (by simp (disch := first | omega | (simp only [hS.glob, wraps, plain, Int.ofNat_eq_natCast]; omega)) only [hS.glob, wraps, plain, Int.ofNat_eq_natCast]) (by omega) e hee.symm) ?_
              rintro r Hc ⟨rfl, rfl⟩
              clear hVV hVA VV VA hW W
              refine V.go Try.func14 tl_ok mixed hS.ops [] 400 ?_
              intro VV VA W hVV hVA hW
              conv => cbv
              split <;> rename_i h6
              rotate_left
              · conv => cbv
                simp (disch := first | omega | (simp only [hS.glob, wraps, plain, Int.ofNat_eq_natCast]; omega)) only [hS.glob, wraps, plain, Int.ofNat_eq_natCast] at h6
                rw [if_neg (by simp only [not_or]; omega)] at hs
                rw [hVV]
                exact V.to (hback (e.toNat + 1, f) ⟨by simp only; omega, by simp only; omega, hs⟩ (by simp)) (by (repeat' first | exact trivial | rfl | (refine And.intro ?_ ?_) | (refine sti ?_; (first | rfl | omega | (simp (disch := omega) only [hS.glob, wraps, plain, Int.ofNat_eq_natCast]; first | done | rfl | omega | (simp; done) | (simp; omega)) | (simp (disch := omega) only [hS.glob, wraps, plain, Int.ofNat_eq_natCast, Vx.toN]; omega))) | (refine slq ?_ ?_ ?_ <;> (first | rfl | omega | (simp (disch := omega) only [hS.glob, wraps, plain, Int.ofNat_eq_natCast]; first | done | rfl | omega | (simp; done) | (simp; omega)) | (simp (disch := omega) only [hS.glob, wraps, plain, Int.ofNat_eq_natCast, Vx.toN]; omega))) | (refine ptq ?_ ?_ ?_ <;> (first | rfl | omega | (simp (disch := omega) only [hS.glob, wraps, plain, Int.ofNat_eq_natCast]; first | done | rfl | omega | (simp; done) | (simp; omega)) | (simp (disch := omega) only [hS.glob, wraps, plain, Int.ofNat_eq_natCast, Vx.toN]; omega))) | (refine blq ?_; (first | rfl | omega | (simp (disch := omega) only [hS.glob, wraps, plain, Int.ofNat_eq_natCast]; first | done | rfl | omega | (simp; done) | (simp; omega)) | (simp (disch := omega) only [hS.glob, wraps, plain, Int.ofNat_eq_natCast, Vx.toN]; omega))))) rfl trivial (by rw [hC]; simp)
              · conv => cbv
                simp (disch := first | omega | (simp only [hS.glob, wraps, plain, Int.ofNat_eq_natCast]; omega)) only [hS.glob, wraps, plain, Int.ofNat_eq_natCast] at h6
                rw [if_pos (by omega)] at hs
                rw [← hs]; simp
          · conv => cbv
            simp (disch := first | omega | (simp only [hS.glob, wraps, plain, Int.ofNat_eq_natCast]; omega)) only [hS.glob, wraps, plain, Int.ofNat_eq_natCast] at h5
            rw [if_pos (.inr h5)] at hs
            rw [← hs]; simp
        · conv => cbv
          simp (disch := first | omega | (simp only [hS.glob, wraps, plain, Int.ofNat_eq_natCast]; omega)) only [hS.glob, wraps, plain, Int.ofNat_eq_natCast] at h4
          rw [if_pos (.inl h4)] at hs
          rw [← hs]; simp
      · conv => cbv
        simp (disch := first | omega | (simp only [hS.glob, wraps, plain, Int.ofNat_eq_natCast]; omega)) only [hS.glob, wraps, plain, Int.ofNat_eq_natCast] at h3
        rw [if_pos (.inr h3)] at hs
        rw [← hs]; simp

theorem f11_ok1 (ln : Nat) (l : Nat → Int) (hlm : ln ≤ 1000000) : FSpec Try.prog 11 [.rows 1 ln (icol .i64 l)] [] (fun r H' => ∃ g, r = .sl 0 0 (ln) ∧ H' = [some ⟨3, 1, .arr (ln) (icol .i64 g)⟩] ∧ ∀ i, i < ln → g i = endOf ln l i) := by
  refine FSpec.of (fn := Try.f11) Try.func11 rfl rfl (by simp) fun C hC => ?_
  obtain ⟨iadd, isub, imul, iquo, irem, iband, ibor, ibxor, ibandn, ishl, ishr, iconv, ieq, ine, ilt, ile, igt, ige, bbeq, bbne, bnot, bband, sseq, ssne, sscat, sssub, sslen, sssz, ssbyte, toN, ofN, addN, subN, eqN, ltB, leN, imx, imn, inb, leb, sslt, ltN, fit, ne0, ge0, ssfit, minN, inR, hS⟩ := names
  refine V.go Try.func11 tl_ok mixed hS.ops [] 400 ?_
  intro VV VA W hVV hVA hW
  conv => cbv
  rw [hVV]
  clear hVV hVA VV VA hW W
  refine V.phantom 3 3 1 (icol .i64 fun _ => 0) rfl ?_
  refine V.to (s' := [(4, .int .i64 (ofN 0)), (0, .rows 1 ln (icol .i64 l)), (3, .sl 0 0 0)]) (H' := [some ⟨3, 1, .arr 0 (icol .i64 fun _ => 0)⟩]) ?_ (by (repeat' first | exact trivial | rfl | (refine And.intro ?_ ?_) | (refine sti ?_; (first | rfl | omega | (simp (disch := omega) only [hS.glob, wraps, plain, Int.ofNat_eq_natCast]; first | done | rfl | omega | (simp; done) | (simp; omega)) | (simp (disch := omega) only [hS.glob, wraps, plain, Int.ofNat_eq_natCast, Vx.toN]; omega))) | (refine slq ?_ ?_ ?_ <;> (first | rfl | omega | (simp (disch := omega) only [hS.glob, wraps, plain, Int.ofNat_eq_natCast]; first | done | rfl | omega | (simp; done) | (simp; omega)) | (simp (disch := omega) only [hS.glob, wraps, plain, Int.ofNat_eq_natCast, Vx.toN]; omega))) | (refine ptq ?_ ?_ ?_ <;> (first | rfl | omega | (simp (disch := omega) only [hS.glob, wraps, plain, Int.ofNat_eq_natCast]; first | done | rfl | omega | (simp; done) | (simp; omega)) | (simp (disch := omega) only [hS.glob, wraps, plain, Int.ofNat_eq_natCast, Vx.toN]; omega))) | (refine blq ?_; (first | rfl | omega | (simp (disch := omega) only [hS.glob, wraps, plain, Int.ofNat_eq_natCast]; first | done | rfl | omega | (simp; done) | (simp; omega)) | (simp (disch := omega) only [hS.glob, wraps, plain, Int.ofNat_eq_natCast, Vx.toN]; omega))))) rfl (by (repeat' first | exact trivial | rfl | exact Nat.le_refl _ | exact (fun _ _ => rfl) | (refine And.intro ?_ ?_) | (simp only [hS.glob, plain]; first | done | omega))) (by rw [hC]; simp)
  refine V.loop (γ := Nat × (Nat → Int)) (fun p => p.1 ≤ ln ∧ ∀ i, i < p.1 → p.2 i = endOf ln l i) (fun p => [(4, .int .i64 (ofN p.1)), (0, .rows 1 ln (icol .i64 l)), (3, .sl 0 0 p.1)]) (fun p => [some ⟨3, 1, .arr p.1 (icol .i64 p.2)⟩]) (fun p => ln - p.1) ?_ (0, _) ⟨by simp, fun i hi => by simp at hi⟩
  rintro ⟨i, g⟩ ⟨hi, hg⟩ hback
  dsimp only at hi hg ⊢
  refine V.go Try.func11 tl_ok mixed hS.ops [] 400 ?_
  intro VV VA W hVV hVA hW
  conv => cbv
  split <;> rename_i h1
  rotate_left
  · conv => cbv
    simp (disch := first | omega | (simp only [hS.glob, wraps, plain, Int.ofNat_eq_natCast]; omega)) only [hS.glob, wraps, plain, Int.ofNat_eq_natCast] at h1
    obtain rfl : i = ln := by omega
    exact ⟨g, rfl, rfl, hg⟩
  · conv => cbv
    simp (disch := first | omega | (simp only [hS.glob, wraps, plain, Int.ofNat_eq_natCast]; omega)) only [hS.glob, wraps, plain, Int.ofNat_eq_natCast] at h1
    rw [hVV]
    obtain ⟨e, he⟩ : ∃ e, e = endOf ln l i := ⟨_, rfl⟩
    refine V.call rfl rfl rfl rfl rfl Try.func22 rfl (by decide) [] (by simp) (by simp) (by (first | rfl | ((conv => cbv); (repeat' apply And.intro) <;> first | rfl | trivial | (first | rfl | omega | (simp (disch := omega) only [hS.glob, wraps, plain, Int.ofNat_eq_natCast]; first | done | rfl | omega | (simp; done) | (simp; omega)) | (simp (disch := omega) only [hS.glob, wraps, plain, Int.ofNat_eq_natCast, Vx.toN]; omega))))) rfl (f22_ok ln l i (ofN i) (by simp (disch := first | omega | (simp only [hS.glob, wraps, plain, Int.ofNat_eq_natCast]; omega)) only [hS.glob, wraps, plain, Int.ofNat_eq_natCast]) (by omega) e he) ?_
    rintro r Hc ⟨rfl, rfl⟩
    clear hVV hVA VV VA hW W
    refine V.go Try.func11 tl_ok mixed hS.ops [] 400 ?_
    intro VV VA W hVV hVA hW
    conv => cbv
    repeat (refine ⟨by first | (rw [hW]; show ordOk _ _ _ = true; kernel_rfl) | (first | trivial | omega | (simp (disch := omega) only [hS.glob, wraps, plain, Int.ofNat_eq_natCast]; first | done | omega | trivial | (simp; done) | (simp; omega) | (constructor <;> omega)) | (simp (disch := omega) only [hS.glob, wraps, plain, Int.ofNat_eq_natCast, Vx.toN]; omega)), ?_⟩)
    rw [hVV]
    refine V.pick [2] (by decide) (by rw [hC]; exact begins_of rfl) (by rfl) (by rfl) ?_
    refine V.to (hback (i + 1, fun j => if j = i then e else g j) ⟨by simp only; omega, fun j hj => ?_⟩ (by simp only; omega)) (by (repeat' first | exact trivial | rfl | (refine And.intro ?_ ?_) | (refine sti ?_; (first | rfl | omega | (simp (disch := omega) only [hS.glob, wraps, plain, Int.ofNat_eq_natCast]; first | done | rfl | omega | (simp; done) | (simp; omega)) | (simp (disch := omega) only [hS.glob, wraps, plain, Int.ofNat_eq_natCast, Vx.toN]; omega))) | (refine slq ?_ ?_ ?_ <;> (first | rfl | omega | (simp (disch := omega) only [hS.glob, wraps, plain, Int.ofNat_eq_natCast]; first | done | rfl | omega | (simp; done) | (simp; omega)) | (simp (disch := omega) only [hS.glob, wraps, plain, Int.ofNat_eq_natCast, Vx.toN]; omega))) | (refine ptq ?_ ?_ ?_ <;> (first | rfl | omega | (simp (disch := omega) only [hS.glob, wraps, plain, Int.ofNat_eq_natCast]; first | done | rfl | omega | (simp; done) | (simp; omega)) | (simp (disch := omega) only [hS.glob, wraps, plain, Int.ofNat_eq_natCast, Vx.toN]; omega))) | (refine blq ?_; (first | rfl | omega | (simp (disch := omega) only [hS.glob, wraps, plain, Int.ofNat_eq_natCast]; first | done | rfl | omega | (simp; done) | (simp; omega)) | (simp (disch := omega) only [hS.glob, wraps, plain, Int.ofNat_eq_natCast, Vx.toN]; omega))))) rfl ?_ (by rw [hC]; simp)
    · simp only at hj ⊢
      split
      · rename_i e1; rw [e1, he]
      · exact hg j (by omega)
    · (repeat' first | exact trivial | rfl | exact Nat.le_refl _ | exact (fun _ _ => rfl) | (refine And.intro ?_ ?_) | (simp only [hS.glob, plain]; first | done | omega))
      intro j hj
      simp only [icol] at hj ⊢
      cases hr : ltB j i
      · simp (disch := first | omega | (simp only [hS.glob, wraps, plain, Int.ofNat_eq_natCast]; omega)) only [hS.glob, wraps, plain, Int.ofNat_eq_natCast] at hr
        obtain rfl : j = i := by omega
        rw [if_pos rfl]
        simp [hS.glob, Vx.subN]
      · simp (disch := first | omega | (simp only [hS.glob, wraps, plain, Int.ofNat_eq_natCast]; omega)) only [hS.glob, wraps, plain, Int.ofNat_eq_natCast] at hr
        rw [if_neg (by omega)]
theorem f11_ok (ln : Nat) (l : Nat → Int) (hl : ln ≤ 1000000) : FSpec Try.prog 11 [.rows 1 ln (icol .i64 l)] [] (fun r H' => r = .sl 0 0 ln ∧ H' = [some ⟨3, 1, .arr ln (icol .i64 (endOf ln l))⟩]) := by
  refine (f11_ok1 ln l hl).weaken ?_
  rintro r H' ⟨g, rfl, rfl, hg⟩
  exact ⟨[some ⟨3, 1, .arr ln (icol .i64 (endOf ln l))⟩], ⟨⟨rfl, rfl, ⟨Nat.le_refl _, fun i hi => by simp only [icol, hg i hi]⟩, rfl⟩, trivial⟩, rfl, by simp, rfl, rfl⟩
end Go.Proofs.Ytihmolafajmbjaa

/- The machine: its stack's top, and what it tells of a scalar. -/
namespace Go.Proofs.Ytihmolafajmbjaa
open Go Vx

/-- The machine's fields; a, b, c: where the stack, the levels and the classes lie. -/
def mrow (a b c : Nat) (ln : Nat) (l : Nat → Int) (n : Nat) (e : Nat → Int) (base : Int) (k : Nat) (iso emb opn : Int) (q : Nat) : List AV :=
  [.rows 1 ln (icol .i64 l), .rows 1 n (icol .i64 e), .int .i64 base, .sl a 0 k, .int .i64 iso, .int .i64 emb, .int .i64 opn, .sl b 0 q, .sl c 0 q]
/-- The stack's rows. -/
def srow (lv ov : Nat → Int) (is : Nat → Bool) : Nat → List AV := fun j => [.int .i64 (lv j), .int .i64 (ov j), .bool (is j)]
def mheap (ln : Nat) (l : Nat → Int) (n : Nat) (e : Nat → Int) (base : Int) (k : Nat) (lv ov : Nat → Int) (is : Nat → Bool) (iso emb opn : Int) (q : Nat) (xs cs : Nat → Int) : Hp :=
  [some ⟨49, 9, .lit [mrow 1 2 3 ln l n e base k iso emb opn q]⟩, some ⟨66, 3, .arr k (srow lv ov is)⟩, some ⟨3, 1, .arr q (icol .i64 xs)⟩, some ⟨34, 1, .arr q (icol .i64 cs)⟩]
/-- The machine behind a call: stack, levels and classes in new places. -/
def nheap (ln : Nat) (l : Nat → Int) (n : Nat) (e : Nat → Int) (base : Int) (k : Nat) (lv ov : Nat → Int) (is : Nat → Bool) (iso emb opn : Int) (q : Nat) (xs cs : Nat → Int) : Hp :=
  [some ⟨49, 9, .lit [mrow 4 5 6 ln l n e base k iso emb opn q]⟩, none, none, none, some ⟨66, 3, .arr k (srow lv ov is)⟩, some ⟨3, 1, .arr q (icol .i64 xs)⟩, some ⟨34, 1, .arr q (icol .i64 cs)⟩]
/-- Behind 'put'. -/
def pheap (ln : Nat) (l : Nat → Int) (n : Nat) (e : Nat → Int) (base : Int) (k : Nat) (lv ov : Nat → Int) (is : Nat → Bool) (iso emb opn : Int) (q : Nat) (xs cs : Nat → Int) : Hp :=
  [some ⟨49, 9, .lit [mrow 1 4 5 ln l n e base k iso emb opn q]⟩, some ⟨66, 3, .arr k (srow lv ov is)⟩, none, none, some ⟨3, 1, .arr q (icol .i64 xs)⟩, some ⟨34, 1, .arr q (icol .i64 cs)⟩]
theorem mv_m (ln : Nat) (l : Nat → Int) (n : Nat) (e : Nat → Int) (base : Int) (k : Nat) (lv ov : Nat → Int) (is : Nat → Bool) (iso emb opn : Int) (q : Nat) (xs cs : Nat → Int) : mvH 4 (mheap ln l n e base k lv ov is iso emb opn q xs cs) [1, 2, 3] = nheap ln l n e base k lv ov is iso emb opn q xs cs := rfl
theorem mv_p (ln : Nat) (l : Nat → Int) (n : Nat) (e : Nat → Int) (base : Int) (k : Nat) (lv ov : Nat → Int) (is : Nat → Bool) (iso emb opn : Int) (q : Nat) (xs cs : Nat → Int) : mvH 4 (pheap ln l n e base k lv ov is iso emb opn q xs cs) [1, 4, 5] = nheap ln l n e base k lv ov is iso emb opn q xs cs := rfl
theorem pre4 {C : Ctx} (ln : Nat) (l : Nat → Int) (n : Nat) (e : Nat → Int) (base : Int) (k : Nat) (lv ov : Nat → Int) (is : Nat → Bool) (iso emb opn : Int) (q : Nat) (xs cs : Nat → Int) (hC : C.H0 = mheap ln l n e base k lv ov is iso emb opn q xs cs) : ∀ m, begins C.H0.length (0 :: 1 :: 2 :: 3 :: m) := fun m => by
  rw [hC]
  intro k hk
  have : k < 4 := hk
  match k, this with
  | 0, _ => rfl
  | 1, _ => rfl
  | 2, _ => rfl
  | 3, _ => rfl

theorem f44_ok1 (ln : Nat) (l : Nat → Int) (n : Nat) (e : Nat → Int) (base : Int) (k : Nat) (lv ov : Nat → Int) (is : Nat → Bool) (iso emb opn : Int) (q : Nat) (xs cs : Nat → Int) (hk : 0 < k) (LV OV : Int) (IS : Bool) (hLV : LV = lv (k - 1)) (hOV : OV = ov (k - 1)) (hIS : IS = is (k - 1)) :
    FSpec Try.prog 44 [.ptr 0 0 0] (mheap ln l n e base k lv ov is iso emb opn q xs cs) (fun r H' => ∃ x, r = .agg [.int .i64 LV, .int .i64 OV, .bool IS] ∧ H' = mheap ln l n e base k lv ov is iso emb opn q xs cs ++ [x]) := by
  refine FSpec.of (fn := Try.f44) Try.func44 rfl rfl (by simp) fun C hC => ?_
  obtain ⟨iadd, isub, imul, iquo, irem, iband, ibor, ibxor, ibandn, ishl, ishr, iconv, ieq, ine, ilt, ile, igt, ige, bbeq, bbne, bnot, bband, sseq, ssne, sscat, sssub, sslen, sssz, ssbyte, toN, ofN, addN, subN, eqN, ltB, leN, imx, imn, inb, leb, sslt, ltN, fit, ne0, ge0, ssfit, minN, inR, hS⟩ := names
  refine V.objLen 1 (by rfl) fun hk2 => ?_
  replace hk2 : k ≤ maxLen := hk2
  simp (disch := first | omega | (simp only [hS.glob, wraps, plain, Int.ofNat_eq_natCast]; omega)) only [hS.glob, wraps, plain, Int.ofNat_eq_natCast] at hk2
  refine V.go Try.func44 tl_ok mixed hS.ops [] 400 ?_
  intro VV VA W hVV hVA hW
  conv => cbv
  repeat (refine ⟨by first | (rw [hW]; show ordOk _ _ _ = true; kernel_rfl) | (first | trivial | omega | (simp (disch := omega) only [hS.glob, wraps, plain, Int.ofNat_eq_natCast]; first | done | omega | trivial | (simp; done) | (simp; omega) | (constructor <;> omega)) | (simp (disch := omega) only [hS.glob, wraps, plain, Int.ofNat_eq_natCast, Vx.toN]; omega)), ?_⟩)
  refine ⟨_, ?_, rfl⟩
  have e0 : addN 0 (toN (isub .i64 (ofN k) 1)) = k - 1 := by simp (disch := first | omega | (simp only [hS.glob, wraps, plain, Int.ofNat_eq_natCast]; omega)) only [hS.glob, wraps, plain, Int.ofNat_eq_natCast]; omega
  rw [e0, hLV, hOV, hIS]
theorem f44_ok (ln : Nat) (l : Nat → Int) (n : Nat) (e : Nat → Int) (base : Int) (k : Nat) (lv ov : Nat → Int) (is : Nat → Bool) (iso emb opn : Int) (q : Nat) (xs cs : Nat → Int) (hk : 0 < k) (LV OV : Int) (IS : Bool) (hLV : LV = lv (k - 1)) (hOV : OV = ov (k - 1)) (hIS : IS = is (k - 1)) :
    FSpec Try.prog 44 [.ptr 0 0 0] (mheap ln l n e base k lv ov is iso emb opn q xs cs) (fun r H' => r = .agg [.int .i64 LV, .int .i64 OV, .bool IS] ∧ H' = mheap ln l n e base k lv ov is iso emb opn q xs cs) := by
  refine (f44_ok1 ln l n e base k lv ov is iso emb opn q xs cs hk LV OV IS hLV hOV hIS).weaken ?_
  rintro r H' ⟨x, rfl, rfl⟩
  exact ⟨mheap ln l n e base k lv ov is iso emb opn q xs cs, ⟨⟨rfl, rfl, rfl, rfl⟩, ⟨rfl, rfl, ⟨Nat.le_refl _, fun _ _ => rfl⟩, rfl⟩, ⟨rfl, rfl, ⟨Nat.le_refl _, fun _ _ => rfl⟩, rfl⟩, ⟨rfl, rfl, ⟨Nat.le_refl _, fun _ _ => rfl⟩, rfl⟩, trivial⟩, rfl, Nat.le_refl _, rfl, rfl⟩

def put45 : Tr := .one 0 .none (.one 1 .none (.one 2 .none (.one 3 .none (.one 4 .none (.one 6 .none (.one 9 .none (.one 10 .none (.one 11 .none (.one 13 .none (.one 5 (some 49) (.one 12 (some 49) (.alt 7 (.alt 8 (.one 14 .none (.one 15 .none (.one 16 .none (.one 17 .none (.one 18 .none (.one 19 .none (.one 20 .none (.one 21 .none (.done))))))))) (.alt 14 (.one 8 .none (.one 15 .none (.one 16 .none (.one 17 .none (.one 18 .none (.one 19 .none (.one 20 .none (.one 21 .none (.done))))))))) (.none))) (.alt 14 (.one 7 .none (.one 8 .none (.one 15 .none (.one 16 .none (.one 17 .none (.one 18 .none (.one 19 .none (.one 20 .none (.one 21 .none (.done)))))))))) (.none))))))))))))))

/-- Rows with one more behind them. -/
theorem leaf {addN subN : Nat → Nat → Nat} {ltB : Nat → Nat → Bool} (hl : ltB = Vx.ltB) (hs : subN = Vx.subN) (a : Int) (f g : Nat → Int) (q : Nat) (h : ∀ j, j < q → g j = f j) (hq : g q = a) : ∀ i, i < q + 1 → icol .i64 g i = (match ltB i q with | true => icol .i64 f i | false => [[.int .i64 a]].getD (subN i q) []) := by
  intro i hi
  subst hl hs
  simp only [icol]
  cases hr : Vx.ltB i q
  · simp only [plain] at hr
    obtain rfl : i = q := by omega
    simp [Vx.subN, hq]
  · simp only [plain] at hr
    rw [h i hr]

theorem f45_p (ln : Nat) (l : Nat → Int) (n : Nat) (e : Nat → Int) (base : Int) (k : Nat) (lv ov : Nat → Int) (is : Nat → Bool) (iso emb opn : Int) (q : Nat) (xs cs : Nat → Int) (hq : q ≤ 1000000) (x c : Int) (q' : Nat) (hq' : q' = q + 1) (xs' cs' : Nat → Int) (hx : ∀ j, j < q → xs' j = xs j) (hx2 : xs' q = x) (hc : ∀ j, j < q → cs' j = cs j) (hc2 : cs' q = c) :
    FSpec Try.prog 45 [.ptr 0 0 0, .int .i64 x, .int .i64 c] (mheap ln l n e base k lv ov is iso emb opn q xs cs) (fun r H' => r = .tup [] ∧ H' = pheap ln l n e base k lv ov is iso emb opn q' xs' cs') := by
  refine FSpec.of (fn := Try.f45) Try.func45 rfl rfl (by simp) fun C hC => ?_
  obtain ⟨iadd, isub, imul, iquo, irem, iband, ibor, ibxor, ibandn, ishl, ishr, iconv, ieq, ine, ilt, ile, igt, ige, bbeq, bbne, bnot, bband, sseq, ssne, sscat, sssub, sslen, sssz, ssbyte, toN, ofN, addN, subN, eqN, ltB, leN, imx, imn, inb, leb, sslt, ltN, fit, ne0, ge0, ssfit, minN, inR, hS⟩ := names
  have fin : V Try.prog 45 Try.f45.ntmps C (fun r H' => r = .tup [] ∧ H' = pheap ln l n e base k lv ov is iso emb opn q' xs' cs') [] [] (pheap ln l n e base k lv ov is iso emb opn q' xs' cs') := by
    refine V.go Try.func45 tl_ok mixed hS.ops [] 400 ?_
    intro VV VA W hVV hVA hW
    conv => cbv
    simp
  refine V.go Try.func45 tl_ok mixed hS.ops [(0, put45)] 1 ?_
  intro VV VA W hVV hVA hW
  conv => cbv
  refine ⟨by rw [hW]; show ordOk _ _ _ = true; kernel_rfl, ?_⟩
  obtain ⟨g1, g2, g3, g4, g5, g6, g7⟩ : ltB = Vx.ltB ∧ subN = Vx.subN ∧ addN = Vx.addN ∧ True ∧ True ∧ True ∧ True := by simp [hS.glob]
  refine ⟨⟨?_, ?_, trivial⟩, ?_, trivial⟩
  · repeat (refine ⟨by first | (rw [hW]; show ordOk _ _ _ = true; kernel_rfl) | (first | trivial | omega | (simp (disch := omega) only [hS.glob, wraps, plain, Int.ofNat_eq_natCast]; first | done | omega | trivial | (simp; done) | (simp; omega) | (constructor <;> omega)) | (simp (disch := omega) only [hS.glob, wraps, plain, Int.ofNat_eq_natCast, Vx.toN]; omega)), ?_⟩)
    rw [hVV]
    refine V.pick [0, 1, 2, 3, 5, 7] (by decide) (pre4 ln l n e base k lv ov is iso emb opn q xs cs hC _) rfl rfl ?_
    refine V.to fin trivial rfl ?_ (by rw [hC]; exact Nat.le_add_right 4 2)
    subst hq' g1 g2 g3
    (repeat' first | exact trivial | rfl | exact Nat.le_refl _ | exact (fun _ _ => rfl) | (refine And.intro ?_ ?_) | (simp only [hS.glob, plain]; first | done | omega))
    · exact leaf (addN := Vx.addN) rfl rfl x xs xs' q hx hx2
    · exact leaf (addN := Vx.addN) rfl rfl c cs cs' q hc hc2
  · repeat (refine ⟨by first | (rw [hW]; show ordOk _ _ _ = true; kernel_rfl) | (first | trivial | omega | (simp (disch := omega) only [hS.glob, wraps, plain, Int.ofNat_eq_natCast]; first | done | omega | trivial | (simp; done) | (simp; omega) | (constructor <;> omega)) | (simp (disch := omega) only [hS.glob, wraps, plain, Int.ofNat_eq_natCast, Vx.toN]; omega)), ?_⟩)
    rw [hVV]
    refine V.pick [0, 1, 2, 3, 6, 7] (by decide) (pre4 ln l n e base k lv ov is iso emb opn q xs cs hC _) rfl rfl ?_
    refine V.to fin trivial rfl ?_ (by rw [hC]; exact Nat.le_add_right 4 2)
    subst hq' g1 g2 g3
    (repeat' first | exact trivial | rfl | exact Nat.le_refl _ | exact (fun _ _ => rfl) | (refine And.intro ?_ ?_) | (simp only [hS.glob, plain]; first | done | omega))
    · exact leaf (addN := Vx.addN) rfl rfl x xs xs' q hx hx2
    · exact leaf (addN := Vx.addN) rfl rfl c cs cs' q hc hc2
  · repeat (refine ⟨by first | (rw [hW]; show ordOk _ _ _ = true; kernel_rfl) | (first | trivial | omega | (simp (disch := omega) only [hS.glob, wraps, plain, Int.ofNat_eq_natCast]; first | done | omega | trivial | (simp; done) | (simp; omega) | (constructor <;> omega)) | (simp (disch := omega) only [hS.glob, wraps, plain, Int.ofNat_eq_natCast, Vx.toN]; omega)), ?_⟩)
    rw [hVV]
    refine V.pick [0, 1, 2, 3, 6, 7] (by decide) (pre4 ln l n e base k lv ov is iso emb opn q xs cs hC _) rfl rfl ?_
    refine V.to fin trivial rfl ?_ (by rw [hC]; exact Nat.le_add_right 4 2)
    subst hq' g1 g2 g3
    (repeat' first | exact trivial | rfl | exact Nat.le_refl _ | exact (fun _ _ => rfl) | (refine And.intro ?_ ?_) | (simp only [hS.glob, plain]; first | done | omega))
    · exact leaf (addN := Vx.addN) rfl rfl x xs xs' q hx hx2
    · exact leaf (addN := Vx.addN) rfl rfl c cs cs' q hc hc2
theorem f45_ok (ln : Nat) (l : Nat → Int) (n : Nat) (e : Nat → Int) (base : Int) (k : Nat) (lv ov : Nat → Int) (is : Nat → Bool) (iso emb opn : Int) (q : Nat) (xs cs : Nat → Int) (hq : q ≤ 1000000) (x c : Int) (q' : Nat) (hq' : q' = q + 1) (xs' cs' : Nat → Int) (hx : ∀ j, j < q → xs' j = xs j) (hx2 : xs' q = x) (hc : ∀ j, j < q → cs' j = cs j) (hc2 : cs' q = c) :
    FSpec Try.prog 45 [.ptr 0 0 0, .int .i64 x, .int .i64 c] (mheap ln l n e base k lv ov is iso emb opn q xs cs) (fun r H' => r = .tup [] ∧ H' = nheap ln l n e base k lv ov is iso emb opn q' xs' cs') := by
  refine FSpec.mv (f45_p ln l n e base k lv ov is iso emb opn q xs cs hq x c q' hq' xs' cs' hx hx2 hc hc2) ?_
  rintro r H' ⟨rfl, rfl⟩
  exact ⟨[1, 4, 5], by decide, rfl, rfl⟩
end Go.Proofs.Ytihmolafajmbjaa

/- The machine: scalars that do nothing, and that have the top's level. -/
namespace Go.Proofs.Ytihmolafajmbjaa
open Go Vx

theorem f43_ok (ln : Nat) (l : Nat → Int) (n : Nat) (e : Nat → Int) (base : Int) (k : Nat) (lv ov : Nat → Int) (is : Nat → Bool) (iso emb opn : Int) (q : Nat) (xs cs : Nat → Int) (hq : q ≤ 1000000) (i : Nat) (hi : i < ln) (z : Int) (hz : z = i) (q' : Nat) (hq' : q' = q + 1) (xs' cs' : Nat → Int) (hx : ∀ j, j < q → xs' j = xs j) (hx2 : xs' q = -1) (hc : ∀ j, j < q → cs' j = cs j) (hc2 : cs' q = l i) :
    FSpec Try.prog 43 [.ptr 0 0 0, .int .i64 z] (mheap ln l n e base k lv ov is iso emb opn q xs cs) (fun r H' => r = .tup [] ∧ H' = nheap ln l n e base k lv ov is iso emb opn q' xs' cs') := by
  have hs := f45_ok ln l n e base k lv ov is iso emb opn q xs cs hq (-1) (l i) q' hq' xs' cs' hx hx2 hc hc2
  refine FSpec.of (fn := Try.f43) Try.func43 rfl rfl (by simp) fun C hC => ?_
  obtain ⟨iadd, isub, imul, iquo, irem, iband, ibor, ibxor, ibandn, ishl, ishr, iconv, ieq, ine, ilt, ile, igt, ige, bbeq, bbne, bnot, bband, sseq, ssne, sscat, sssub, sslen, sssz, ssbyte, toN, ofN, addN, subN, eqN, ltB, leN, imx, imn, inb, leb, sslt, ltN, fit, ne0, ge0, ssfit, minN, inR, hS⟩ := names
  obtain rfl : z = ofN i := by simp (disch := first | omega | (simp only [hS.glob, wraps, plain, Int.ofNat_eq_natCast]; omega)) only [hS.glob, wraps, plain, Int.ofNat_eq_natCast]; exact hz
  refine V.go Try.func43 tl_ok mixed hS.ops [] 400 ?_
  intro VV VA W hVV hVA hW
  conv => cbv
  repeat (refine ⟨by first | (rw [hW]; show ordOk _ _ _ = true; kernel_rfl) | (first | trivial | omega | (simp (disch := omega) only [hS.glob, wraps, plain, Int.ofNat_eq_natCast]; first | done | omega | trivial | (simp; done) | (simp; omega) | (constructor <;> omega)) | (simp (disch := omega) only [hS.glob, wraps, plain, Int.ofNat_eq_natCast, Vx.toN]; omega)), ?_⟩)
  simp only [hS.tidy]
  rw [hVV]
  refine V.call rfl rfl rfl rfl rfl Try.func45 rfl (by decide) [0, 1, 2, 3] (by decide) (all_lt (by rfl)) (by (first | rfl | ((conv => cbv); (repeat' apply And.intro) <;> first | rfl | trivial | (first | rfl | omega | (simp (disch := omega) only [hS.glob, wraps, plain, Int.ofNat_eq_natCast]; first | done | rfl | omega | (simp; done) | (simp; omega)) | (simp (disch := omega) only [hS.glob, wraps, plain, Int.ofNat_eq_natCast, Vx.toN]; omega))))) (by rfl) hs ?_
  rintro r Hc ⟨rfl, rfl⟩
  clear hVV hVA VV VA hW W
  refine V.go Try.func43 tl_ok mixed hS.ops [] 400 ?_
  intro VV VA W hVV hVA hW
  conv => cbv
  simp

theorem f28_ok (ln : Nat) (l : Nat → Int) (n : Nat) (e : Nat → Int) (base : Int) (k : Nat) (lv ov : Nat → Int) (is : Nat → Bool) (iso emb opn : Int) (q : Nat) (xs cs : Nat → Int) (hk : 0 < k) (hq : q ≤ 1000000) (i : Nat) (hi : i < ln) (z : Int) (hz : z = i) (q' : Nat) (hq' : q' = q + 1) (xs' cs' : Nat → Int) (hx : ∀ j, j < q → xs' j = xs j) (hx2 : xs' q = lv (k - 1)) (hc : ∀ j, j < q → cs' j = cs j) (hc2 : cs' q = if ov (k - 1) = 13 then l i else ov (k - 1)) :
    FSpec Try.prog 28 [.ptr 0 0 0, .int .i64 z] (mheap ln l n e base k lv ov is iso emb opn q xs cs) (fun r H' => r = .tup [] ∧ H' = nheap ln l n e base k lv ov is iso emb opn q' xs' cs') := by
  have ht := fun LV OV IS a b c => f44_ok ln l n e base k lv ov is iso emb opn q xs cs hk LV OV IS a b c
  have hp := fun x c a b => f45_ok ln l n e base k lv ov is iso emb opn q xs cs hq x c q' hq' xs' cs' hx a hc b
  generalize hlv : lv (k - 1) = LV at hx2 ht
  generalize hov : ov (k - 1) = OV at hc2 ht
  generalize his : is (k - 1) = IS at ht
  have ht := ht LV OV IS rfl rfl rfl
  refine FSpec.of (fn := Try.f28) Try.func28 rfl rfl (by simp) fun C hC => ?_
  obtain ⟨iadd, isub, imul, iquo, irem, iband, ibor, ibxor, ibandn, ishl, ishr, iconv, ieq, ine, ilt, ile, igt, ige, bbeq, bbne, bnot, bband, sseq, ssne, sscat, sssub, sslen, sssz, ssbyte, toN, ofN, addN, subN, eqN, ltB, leN, imx, imn, inb, leb, sslt, ltN, fit, ne0, ge0, ssfit, minN, inR, hS⟩ := names
  obtain rfl : z = ofN i := by simp (disch := first | omega | (simp only [hS.glob, wraps, plain, Int.ofNat_eq_natCast]; omega)) only [hS.glob, wraps, plain, Int.ofNat_eq_natCast]; exact hz
  refine V.go Try.func28 tl_ok mixed hS.ops [] 400 ?_
  intro VV VA W hVV hVA hW
  conv => cbv
  repeat (refine ⟨by first | (rw [hW]; show ordOk _ _ _ = true; kernel_rfl) | (first | trivial | omega | (simp (disch := omega) only [hS.glob, wraps, plain, Int.ofNat_eq_natCast]; first | done | omega | trivial | (simp; done) | (simp; omega) | (constructor <;> omega)) | (simp (disch := omega) only [hS.glob, wraps, plain, Int.ofNat_eq_natCast, Vx.toN]; omega)), ?_⟩)
  simp only [hS.tidy]
  rw [hVV]
  refine V.call rfl rfl rfl rfl rfl Try.func44 rfl (by decide) [0, 1, 2, 3] (by decide) (all_lt (by rfl)) (by (first | rfl | ((conv => cbv); (repeat' apply And.intro) <;> first | rfl | trivial | (first | rfl | omega | (simp (disch := omega) only [hS.glob, wraps, plain, Int.ofNat_eq_natCast]; first | done | rfl | omega | (simp; done) | (simp; omega)) | (simp (disch := omega) only [hS.glob, wraps, plain, Int.ofNat_eq_natCast, Vx.toN]; omega))))) (by rfl) ht ?_
  rintro r Hc ⟨rfl, rfl⟩
  clear hVV hVA VV VA hW W
  refine V.go Try.func28 tl_ok mixed hS.ops [] 400 ?_
  intro VV VA W hVV hVA hW
  conv => cbv
  cases h1 : ine OV 13
  · conv => cbv
    simp (disch := first | omega | (simp only [hS.glob, wraps, plain, Int.ofNat_eq_natCast]; omega)) only [hS.glob, wraps, plain, Int.ofNat_eq_natCast] at h1
    rw [hVV]
    refine V.call rfl rfl rfl rfl rfl Try.func44 rfl (by decide) [0, 1, 2, 3] (by decide) (all_lt (by rfl)) (by (first | rfl | ((conv => cbv); (repeat' apply And.intro) <;> first | rfl | trivial | (first | rfl | omega | (simp (disch := omega) only [hS.glob, wraps, plain, Int.ofNat_eq_natCast]; first | done | rfl | omega | (simp; done) | (simp; omega)) | (simp (disch := omega) only [hS.glob, wraps, plain, Int.ofNat_eq_natCast, Vx.toN]; omega))))) (by rfl) ht ?_
    rintro r Hc ⟨rfl, rfl⟩
    clear hVV hVA VV VA hW W
    refine V.go Try.func28 tl_ok mixed hS.ops [] 400 ?_
    intro VV VA W hVV hVA hW
    conv => cbv
    rw [hVV]
    refine V.call rfl rfl rfl rfl rfl Try.func45 rfl (by decide) [0, 1, 2, 3] (by decide) (all_lt (by rfl)) (by (first | rfl | ((conv => cbv); (repeat' apply And.intro) <;> first | rfl | trivial | (first | rfl | omega | (simp (disch := omega) only [hS.glob, wraps, plain, Int.ofNat_eq_natCast]; first | done | rfl | omega | (simp; done) | (simp; omega)) | (simp (disch := omega) only [hS.glob, wraps, plain, Int.ofNat_eq_natCast, Vx.toN]; omega))))) (by rfl) (hp LV (l i) hx2 (by rw [hc2, if_pos h1])) ?_
    rintro r Hc ⟨rfl, rfl⟩
    clear hVV hVA VV VA hW W
    refine V.pick [0, 1, 2, 3, 5, 6, 7] (by decide) (pre4 ln l n e base k lv ov is iso emb opn q xs cs hC _) rfl rfl ?_
    refine V.go Try.func28 tl_ok mixed hS.ops [] 400 ?_
    intro VV VA W hVV hVA hW
    conv => cbv
    simp
  · conv => cbv
    simp (disch := first | omega | (simp only [hS.glob, wraps, plain, Int.ofNat_eq_natCast]; omega)) only [hS.glob, wraps, plain, Int.ofNat_eq_natCast] at h1
    rw [hVV]
    refine V.call rfl rfl rfl rfl rfl Try.func44 rfl (by decide) [0, 1, 2, 3] (by decide) (all_lt (by rfl)) (by (first | rfl | ((conv => cbv); (repeat' apply And.intro) <;> first | rfl | trivial | (first | rfl | omega | (simp (disch := omega) only [hS.glob, wraps, plain, Int.ofNat_eq_natCast]; first | done | rfl | omega | (simp; done) | (simp; omega)) | (simp (disch := omega) only [hS.glob, wraps, plain, Int.ofNat_eq_natCast, Vx.toN]; omega))))) (by rfl) ht ?_
    rintro r Hc ⟨rfl, rfl⟩
    clear hVV hVA VV VA hW W
    refine V.go Try.func28 tl_ok mixed hS.ops [] 400 ?_
    intro VV VA W hVV hVA hW
    conv => cbv
    rw [hVV]
    refine V.call rfl rfl rfl rfl rfl Try.func45 rfl (by decide) [0, 1, 2, 3] (by decide) (all_lt (by rfl)) (by (first | rfl | ((conv => cbv); (repeat' apply And.intro) <;> first | rfl | trivial | (first | rfl | omega | (simp (disch := omega) only [hS.glob, wraps, plain, Int.ofNat_eq_natCast]; first | done | rfl | omega | (simp; done) | (simp; omega)) | (simp (disch := omega) only [hS.glob, wraps, plain, Int.ofNat_eq_natCast, Vx.toN]; omega))))) (by rfl) (hp LV OV hx2 (by rw [hc2, if_neg h1])) ?_
    rintro r Hc ⟨rfl, rfl⟩
    clear hVV hVA VV VA hW W
    refine V.pick [0, 1, 2, 3, 5, 6, 7] (by decide) (pre4 ln l n e base k lv ov is iso emb opn q xs cs hC _) rfl rfl ?_
    refine V.go Try.func28 tl_ok mixed hS.ops [] 400 ?_
    intro VV VA W hVV hVA hW
    conv => cbv
    simp
end Go.Proofs.Ytihmolafajmbjaa

/- The machine's steps, in plain words. -/
namespace Go.Proofs.Ytihmolafajmbjaa
def tab {α : Type} (n : Nat) (f : Nat → α) : List α := (List.range n).map f
theorem tab_len {α : Type} (n : Nat) (f : Nat → α) : (tab n f).length = n := by simp [tab]
theorem tab_snoc {α : Type} {n n' : Nat} {f g : Nat → α} {a : α} (hn : n' = n + 1) (h : ∀ j, j < n → g j = f j) (ha : g n = a) : tab n' g = tab n f ++ [a] := by
  subst hn ha
  simp only [tab, List.range_succ, List.map_append, List.map_cons, List.map_nil]
  congr 1
  exact List.map_congr_left fun j hj => h j (by simpa using hj)
theorem tab_last {α : Type} {n : Nat} (f : Nat → α) (d : α) (h : 0 < n) : (tab n f).getLastD d = f (n - 1) := by
  obtain ⟨m, rfl⟩ : ∃ m, n = m + 1 := ⟨n - 1, by omega⟩
  rw [tab_snoc (f := f) rfl (fun _ _ => rfl) rfl]
  simp
theorem tab_pop {α : Type} (n : Nat) (f : Nat → α) : (tab n f).dropLast = tab (n - 1) f := by
  cases n with
  | zero => rfl
  | succ n => rw [tab_snoc (f := f) rfl (fun _ _ => rfl) rfl]; simp
theorem tab_one {α : Type} (f : Nat → α) : tab 1 f = [f 0] := rfl
theorem tab_get {α : Type} [Inhabited α] (n : Nat) (f : Nat → α) (j : Nat) (h : j < n) : (tab n f)[j]? = some (f j) := by simp [tab, h]

structure Ms where
  st : List (Int × Int × Bool)
  iso : Int
  emb : Int
  opn : Int
  xs : List Int
  cs : List Int
def absM (k : Nat) (lv ov : Nat → Int) (is : Nat → Bool) (iso emb opn : Int) (q : Nat) (xs cs : Nat → Int) : Ms := ⟨tab k fun j => (lv j, ov j, is j), iso, emb, opn, tab q xs, tab q cs⟩
/-- The next level, odd or even. -/
def nextLv (t odd : Int) : Int := t + 1 + (t + 1 + odd) % 2
def topM (m : Ms) : Int × Int × Bool := m.st.getLastD (0, 13, false)
def putM (x c : Int) (m : Ms) : Ms := { m with xs := m.xs ++ [x], cs := m.cs ++ [c] }
def canP (odd : Int) (m : Ms) : Bool := decide (nextLv (topM m).1 odd ≤ 125) && decide (m.iso ≤ 0) && decide (m.emb ≤ 0)
def pushM (odd ov : Int) (isl : Bool) (m : Ms) : Ms := { m with st := m.st ++ [(nextLv (topM m).1 odd, ov, isl)] }
def oddM (c : Int) : Int := if c = 17 ∨ c = 16 then 1 else 0
def ovM (c : Int) : Int := if c = 17 then 1 else if c = 15 then 0 else 13
def removedM (c : Int) (m : Ms) : Ms := putM (-1) c m
def embM (c : Int) (m : Ms) : Ms := removedM c (if canP (oddM c) m then pushM (oddM c) (ovM c) false m else if m.iso = 0 then { m with emb := m.emb + 1 } else m)
def plainM (c : Int) (m : Ms) : Ms := putM (topM m).1 (if (topM m).2.1 = 13 then c else (topM m).2.1) m
def isoM (odd c : Int) (m0 : Ms) : Ms := let m := plainM c m0; if canP odd m then { pushM odd 13 true m with opn := m.opn + 1 } else { m with iso := m.iso + 1 }
def freshM (base : Int) (m : Ms) : Ms := { m with st := [(base, 13, false)], iso := 0, emb := 0, opn := 0 }
def parM (base c : Int) (m : Ms) : Ms := freshM base (putM base c m)
def popM (c : Int) (m : Ms) : Ms := removedM c (if 0 < m.iso then m else if 0 < m.emb then { m with emb := m.emb - 1 } else if 1 < m.st.length ∧ (topM m).2.2 = false then { m with st := m.st.dropLast } else m)
/-- The stack without its last isolate, and what stands behind it. -/
def cutI : Nat → List (Int × Int × Bool) → List (Int × Int × Bool)
  | 0, st => st
  | f + 1, st => if (st.getLastD (0, 13, false)).2.2 then st.dropLast else cutI f st.dropLast
def closeM (m : Ms) : Ms := if 0 < m.iso then { m with iso := m.iso - 1 } else if 0 < m.opn then { m with emb := 0, st := cutI m.st.length m.st, opn := m.opn - 1 } else m
def closingM (c : Int) (m : Ms) : Ms := plainM c (closeM m)
theorem topM_abs {k : Nat} (lv ov : Nat → Int) (is : Nat → Bool) (iso emb opn : Int) (q : Nat) (xs cs : Nat → Int) (h : 0 < k) : topM (absM k lv ov is iso emb opn q xs cs) = (lv (k - 1), ov (k - 1), is (k - 1)) := tab_last _ _ h
end Go.Proofs.Ytihmolafajmbjaa

/- The machine: begun anew, and one more on its stack. -/
namespace Go.Proofs.Ytihmolafajmbjaa
open Go Vx

theorem f26_ok (ln : Nat) (l : Nat → Int) (n : Nat) (e : Nat → Int) (base : Int) (k : Nat) (lv ov : Nat → Int) (is : Nat → Bool) (iso emb opn : Int) (q : Nat) (xs cs : Nat → Int) (lv' ov' : Nat → Int) (is' : Nat → Bool) (h1 : lv' 0 = base) (h2 : ov' 0 = 13) (h3 : is' 0 = false) :
    FSpec Try.prog 26 [.ptr 0 0 0] (mheap ln l n e base k lv ov is iso emb opn q xs cs) (fun r H' => r = .tup [] ∧ H' = nheap ln l n e base 1 lv' ov' is' 0 0 0 q xs cs) := by
  refine FSpec.mv (Q := fun r H' => r = .tup [] ∧ H' = [some ⟨49, 9, .lit [mrow 4 2 3 ln l n e base 1 0 0 0 q]⟩, none, some ⟨3, 1, .arr q (icol .i64 xs)⟩, some ⟨34, 1, .arr q (icol .i64 cs)⟩, some ⟨66, 3, .arr 1 (srow lv' ov' is')⟩]) ?_ ?_
  · refine FSpec.weaken (Q := fun r H' => ∃ x, r = .tup [] ∧ H' = [some ⟨49, 9, .lit [mrow 4 2 3 ln l n e base 1 0 0 0 q]⟩, x, some ⟨3, 1, .arr q (icol .i64 xs)⟩, some ⟨34, 1, .arr q (icol .i64 cs)⟩, some ⟨66, 3, .lit [[.int .i64 base, .int .i64 13, .bool false]]⟩]) ?_ ?_
    · refine FSpec.of (fn := Try.f26) Try.func26 rfl rfl (by simp) fun C hC => ?_
      obtain ⟨iadd, isub, imul, iquo, irem, iband, ibor, ibxor, ibandn, ishl, ishr, iconv, ieq, ine, ilt, ile, igt, ige, bbeq, bbne, bnot, bband, sseq, ssne, sscat, sssub, sslen, sssz, ssbyte, toN, ofN, addN, subN, eqN, ltB, leN, imx, imn, inb, leb, sslt, ltN, fit, ne0, ge0, ssfit, minN, inR, hS⟩ := names
      refine V.go Try.func26 tl_ok mixed hS.ops [] 400 ?_
      intro VV VA W hVV hVA hW
      conv => cbv
      exact ⟨_, rfl, rfl⟩
    · rintro r H' ⟨x, rfl, rfl⟩
      refine ⟨[some ⟨49, 9, .lit [mrow 4 2 3 ln l n e base 1 0 0 0 q]⟩, none, some ⟨3, 1, .arr q (icol .i64 xs)⟩, some ⟨34, 1, .arr q (icol .i64 cs)⟩, some ⟨66, 3, .arr 1 (srow lv' ov' is')⟩], ?_, rfl, Nat.le_add_right 4 1, rfl, rfl⟩
      refine ⟨⟨rfl, rfl, rfl, rfl⟩, ⟨rfl, rfl, ⟨Nat.le_refl _, fun _ _ => rfl⟩, rfl⟩, ⟨rfl, rfl, ⟨Nat.le_refl _, fun _ _ => rfl⟩, rfl⟩, ⟨rfl, rfl, ⟨Nat.le_refl _, rfl, fun i hi => ?_⟩, rfl⟩, trivial⟩
      obtain rfl : i = 0 := by omega
      simp only [srow, h1, h2, h3]
      rfl
  · rintro r H' ⟨rfl, rfl⟩
    exact ⟨[4, 2, 3], by decide, rfl, rfl⟩


theorem f51_ok (ln : Nat) (l : Nat → Int) (n : Nat) (e : Nat → Int) (base : Int) (k : Nat) (lv ov : Nat → Int) (is : Nat → Bool) (iso emb opn : Int) (q : Nat) (xs cs : Nat → Int) (hk : 0 < k) (hk2 : k ≤ 1000000) (odd x0 o0 : Int) (i0 : Bool) (hodd : 0 ≤ odd ∧ odd ≤ 1) (hlv : 0 ≤ lv (k - 1) ∧ lv (k - 1) ≤ 1000) (nl : Int) (hnl : nl = nextLv (lv (k - 1)) odd)
    (lv' ov' : Nat → Int) (is' : Nat → Bool) (k' : Nat) (hk' : k' = k + 1) (g1 : ∀ j, j < k → lv' j = lv j) (g2 : ∀ j, j < k → ov' j = ov j) (g3 : ∀ j, j < k → is' j = is j) (g4 : lv' k = nl) (g5 : ov' k = o0) (g6 : is' k = i0) :
    FSpec Try.prog 51 [.ptr 0 0 0, .int .i64 odd, .agg [.int .i64 x0, .int .i64 o0, .bool i0]] (mheap ln l n e base k lv ov is iso emb opn q xs cs) (fun r H' =>
      ((125 < nl ∨ 0 < iso ∨ 0 < emb) ∧ r = .bool false ∧ H' = nheap ln l n e base k lv ov is iso emb opn q xs cs) ∨
      (nl ≤ 125 ∧ iso ≤ 0 ∧ emb ≤ 0 ∧ r = .bool true ∧ H' = nheap ln l n e base k' lv' ov' is' iso emb opn q xs cs)) := by
  have ht := fun LV OV IS a b c => f44_ok ln l n e base k lv ov is iso emb opn q xs cs hk LV OV IS a b c
  generalize lv (k - 1) = LV at hlv hnl ht
  generalize ov (k - 1) = OV at ht
  generalize is (k - 1) = IS at ht
  have ht := ht LV OV IS rfl rfl rfl
  have run : FSpec Try.prog 51 [.ptr 0 0 0, .int .i64 odd, .agg [.int .i64 x0, .int .i64 o0, .bool i0]] (mheap ln l n e base k lv ov is iso emb opn q xs cs) (fun r H' => ∃ x y g,
      ((125 < nl ∨ 0 < iso ∨ 0 < emb) ∧ r = .bool false ∧ H' = mheap ln l n e base k lv ov is iso emb opn q xs cs ++ [x]) ∨
      (nl ≤ 125 ∧ iso ≤ 0 ∧ emb ≤ 0 ∧ r = .bool true ∧ H' = [some ⟨49, 9, .lit [mrow 6 2 3 ln l n e base k' iso emb opn q]⟩, none, some ⟨3, 1, .arr q (icol .i64 xs)⟩, some ⟨34, 1, .arr q (icol .i64 cs)⟩, x, y, some ⟨66, 3, .arr k' g⟩] ∧
        ∀ j, j < k' → g j = srow lv' ov' is' j)) := by
    refine FSpec.of (fn := Try.f51) Try.func51 rfl rfl (by simp) fun C hC => ?_
    obtain ⟨iadd, isub, imul, iquo, irem, iband, ibor, ibxor, ibandn, ishl, ishr, iconv, ieq, ine, ilt, ile, igt, ige, bbeq, bbne, bnot, bband, sseq, ssne, sscat, sssub, sslen, sssz, ssbyte, toN, ofN, addN, subN, eqN, ltB, leN, imx, imn, inb, leb, sslt, ltN, fit, ne0, ge0, ssfit, minN, inR, hS⟩ := names
    refine V.go Try.func51 tl_ok mixed hS.ops [] 400 ?_
    intro VV VA W hVV hVA hW
    conv => cbv
    rw [hVV]
    refine V.call rfl rfl rfl rfl rfl Try.func44 rfl (by decide) [0, 1, 2, 3] (by decide) (all_lt (by rfl)) (by (first | rfl | ((conv => cbv); (repeat' apply And.intro) <;> first | rfl | trivial | (first | rfl | omega | (simp (disch := omega) only [hS.glob, wraps, plain, Int.ofNat_eq_natCast]; first | done | rfl | omega | (simp; done) | (simp; omega)) | (simp (disch := omega) only [hS.glob, wraps, plain, Int.ofNat_eq_natCast, Vx.toN]; omega))))) (by rfl) ht ?_
    rintro r Hc ⟨rfl, rfl⟩
    clear hVV hVA VV VA hW W
    refine V.go Try.func51 tl_ok mixed hS.ops [] 400 ?_
    intro VV VA W hVV hVA hW
    conv => cbv
    repeat (refine ⟨by first | (rw [hW]; show ordOk _ _ _ = true; kernel_rfl) | (first | trivial | omega | (simp (disch := omega) only [hS.glob, wraps, plain, Int.ofNat_eq_natCast]; first | done | omega | trivial | (simp; done) | (simp; omega) | (constructor <;> omega)) | (simp (disch := omega) only [hS.glob, wraps, plain, Int.ofNat_eq_natCast, Vx.toN]; omega)), ?_⟩)
    have e1 : iadd .i64 (iadd .i64 LV 1) (irem (iadd .i64 (iadd .i64 LV 1) odd) 2) = nl := by
      rw [hnl, nextLv]; simp (disch := first | omega | (simp only [hS.glob, wraps, plain, Int.ofNat_eq_natCast]; omega)) only [hS.glob, wraps, plain, Int.ofNat_eq_natCast]
    simp only [e1]
    cases h1 : igt nl 125
    · conv => cbv
      simp (disch := first | omega | (simp only [hS.glob, wraps, plain, Int.ofNat_eq_natCast]; omega)) only [hS.glob, wraps, plain, Int.ofNat_eq_natCast] at h1
      cases h2 : igt iso 0
      · conv => cbv
        simp (disch := first | omega | (simp only [hS.glob, wraps, plain, Int.ofNat_eq_natCast]; omega)) only [hS.glob, wraps, plain, Int.ofNat_eq_natCast] at h2
        cases h3 : igt emb 0
        · conv => cbv
          simp (disch := first | omega | (simp only [hS.glob, wraps, plain, Int.ofNat_eq_natCast]; omega)) only [hS.glob, wraps, plain, Int.ofNat_eq_natCast] at h3
          repeat (refine ⟨by first | (rw [hW]; show ordOk _ _ _ = true; kernel_rfl) | (first | trivial | omega | (simp (disch := omega) only [hS.glob, wraps, plain, Int.ofNat_eq_natCast]; first | done | omega | trivial | (simp; done) | (simp; omega) | (constructor <;> omega)) | (simp (disch := omega) only [hS.glob, wraps, plain, Int.ofNat_eq_natCast, Vx.toN]; omega)), ?_⟩)
          have e2 : addN k 1 = k' := by simp (disch := first | omega | (simp only [hS.glob, wraps, plain, Int.ofNat_eq_natCast]; omega)) only [hS.glob, wraps, plain, Int.ofNat_eq_natCast]; omega
          rw [e2]
          refine ⟨_, _, _, .inr ⟨h1, h2, h3, rfl, rfl, ?_⟩⟩
          intro j hj
          simp only [srow]
          cases hr : ltB j k
          · simp (disch := first | omega | (simp only [hS.glob, wraps, plain, Int.ofNat_eq_natCast]; omega)) only [hS.glob, wraps, plain, Int.ofNat_eq_natCast] at hr
            obtain rfl : j = k := by omega
            rw [g4, g5, g6]
            simp [hS.glob, Vx.subN]
          · simp (disch := first | omega | (simp only [hS.glob, wraps, plain, Int.ofNat_eq_natCast]; omega)) only [hS.glob, wraps, plain, Int.ofNat_eq_natCast] at hr
            rw [g1 j hr, g2 j hr, g3 j hr]
        · conv => cbv
          simp (disch := first | omega | (simp only [hS.glob, wraps, plain, Int.ofNat_eq_natCast]; omega)) only [hS.glob, wraps, plain, Int.ofNat_eq_natCast] at h3
          exact ⟨_, none, fun _ => [], .inl ⟨.inr (.inr h3), rfl, rfl⟩⟩
      · conv => cbv
        simp (disch := first | omega | (simp only [hS.glob, wraps, plain, Int.ofNat_eq_natCast]; omega)) only [hS.glob, wraps, plain, Int.ofNat_eq_natCast] at h2
        exact ⟨_, none, fun _ => [], .inl ⟨.inr (.inl h2), rfl, rfl⟩⟩
    · conv => cbv
      simp (disch := first | omega | (simp only [hS.glob, wraps, plain, Int.ofNat_eq_natCast]; omega)) only [hS.glob, wraps, plain, Int.ofNat_eq_natCast] at h1
      exact ⟨_, none, fun _ => [], .inl ⟨.inl h1, rfl, rfl⟩⟩
  refine FSpec.mv (FSpec.weaken run (Q' := fun r H' =>
      ((125 < nl ∨ 0 < iso ∨ 0 < emb) ∧ r = .bool false ∧ H' = mheap ln l n e base k lv ov is iso emb opn q xs cs) ∨
      (nl ≤ 125 ∧ iso ≤ 0 ∧ emb ≤ 0 ∧ r = .bool true ∧ H' = [some ⟨49, 9, .lit [mrow 6 2 3 ln l n e base k' iso emb opn q]⟩, none, some ⟨3, 1, .arr q (icol .i64 xs)⟩, some ⟨34, 1, .arr q (icol .i64 cs)⟩, none, none, some ⟨66, 3, .arr k' (srow lv' ov' is')⟩])) ?_) ?_
  · rintro r H' ⟨x, y, g, ⟨h1, rfl, rfl⟩ | ⟨h1, h2, h3, rfl, rfl, hg⟩⟩
    · exact ⟨mheap ln l n e base k lv ov is iso emb opn q xs cs, ⟨⟨rfl, rfl, rfl, rfl⟩, ⟨rfl, rfl, ⟨Nat.le_refl _, fun _ _ => rfl⟩, rfl⟩, ⟨rfl, rfl, ⟨Nat.le_refl _, fun _ _ => rfl⟩, rfl⟩, ⟨rfl, rfl, ⟨Nat.le_refl _, fun _ _ => rfl⟩, rfl⟩, trivial⟩, rfl, Nat.le_refl _, .inl ⟨h1, rfl, rfl⟩⟩
    · refine ⟨_, ?_, rfl, ?_, .inr ⟨h1, h2, h3, rfl, rfl⟩⟩
      rotate_left
      · exact Nat.le_add_right 4 3
      exact ⟨⟨rfl, rfl, rfl, rfl⟩, ⟨rfl, rfl, ⟨Nat.le_refl _, fun _ _ => rfl⟩, rfl⟩, ⟨rfl, rfl, ⟨Nat.le_refl _, fun _ _ => rfl⟩, rfl⟩, ⟨rfl, rfl, ⟨Nat.le_refl _, fun j hj => (hg j hj).symm⟩, rfl⟩, trivial⟩
  · rintro r H' (⟨h1, rfl, rfl⟩ | ⟨h1, h2, h3, rfl, rfl⟩)
    · exact ⟨[1, 2, 3], by decide, .inl ⟨h1, rfl, rfl⟩⟩
    · exact ⟨[6, 2, 3], by decide, .inr ⟨h1, h2, h3, rfl, rfl⟩⟩
end Go.Proofs.Ytihmolafajmbjaa

/- The machine: RLE, LRE, RLO, LRO. -/
namespace Go.Proofs.Ytihmolafajmbjaa
open Go Vx

/-- The machine behind a step. -/
def NX (ln : Nat) (l : Nat → Int) (n : Nat) (e : Nat → Int) (base : Int) (m : Ms) : AV → Hp → Prop := fun r H' => r = .tup [] ∧
  ∃ (k' : Nat) (lv' ov' : Nat → Int) (is' : Nat → Bool) (iso' emb' opn' : Int) (q' : Nat) (xs' cs' : Nat → Int), H' = nheap ln l n e base k' lv' ov' is' iso' emb' opn' q' xs' cs' ∧ absM k' lv' ov' is' iso' emb' opn' q' xs' cs' = m
theorem snocF {α : Type} (f : Nat → α) (q : Nat) (a : α) : ∃ g : Nat → α, (∀ j, j < q → g j = f j) ∧ g q = a := ⟨fun j => if j = q then a else f j, fun j hj => by simp; omega, by simp⟩

theorem f38_ok (ln : Nat) (l : Nat → Int) (n : Nat) (e : Nat → Int) (base : Int) (k : Nat) (lv ov : Nat → Int) (is : Nat → Bool) (iso emb opn : Int) (q : Nat) (xs cs : Nat → Int) (hk : 0 < k) (hk2 : k ≤ 1000000) (hlv : 0 ≤ lv (k - 1) ∧ lv (k - 1) ≤ 1000) (hq : q ≤ 1000000) (hiso : 0 ≤ iso ∧ iso ≤ 1000000) (hemb : 0 ≤ emb ∧ emb ≤ 1000000) (hopn : 0 ≤ opn ∧ opn ≤ 1000000) (i : Nat) (hi : i < ln) (z : Int) (hz : z = i) : FSpec Try.prog 38 [.ptr 0 0 0, .int .i64 z] (mheap ln l n e base k lv ov is iso emb opn q xs cs) (NX ln l n e base (embM (l i) (absM k lv ov is iso emb opn q xs cs))) := by
  obtain ⟨odd, hodd⟩ : ∃ odd, odd = oddM (l i) := ⟨_, rfl⟩
  obtain ⟨ovr, hovr⟩ : ∃ ovr, ovr = ovM (l i) := ⟨_, rfl⟩
  obtain ⟨nl, hnl⟩ : ∃ nl, nl = nextLv (lv (k - 1)) odd := ⟨_, rfl⟩
  obtain ⟨lv', p1, p4⟩ := snocF lv k nl
  obtain ⟨ov', p2, p5⟩ := snocF ov k ovr
  obtain ⟨is', p3, p6⟩ := snocF is k false
  obtain ⟨xs', x1, x2⟩ := snocF xs q (-1)
  obtain ⟨cs', c1, c2⟩ := snocF cs q (l i)
  have ho : 0 ≤ odd ∧ odd ≤ 1 := by rw [hodd]; unfold oddM; split <;> omega
  have hp := f51_ok ln l n e base k lv ov is iso emb opn q xs cs hk hk2 odd 0 ovr false ho hlv nl hnl lv' ov' is' (k + 1) rfl p1 p2 p3 p4 p5 p6
  have ht := topM_abs lv ov is iso emb opn q xs cs hk
  have hcan : canP (oddM (l i)) (absM k lv ov is iso emb opn q xs cs) = true ↔ (nl ≤ 125 ∧ iso ≤ 0 ∧ emb ≤ 0) := by
    simp only [canP, ht, Bool.and_eq_true, decide_eq_true_eq, ← hodd, ← hnl]
    simp only [absM, and_assoc]
  -- what is told of the scalar, whatever has become of the stack
  have r1 := f43_ok ln l n e base (k + 1) lv' ov' is' iso emb opn q xs cs hq i hi z hz (q + 1) rfl xs' cs' x1 x2 c1 c2
  have r2 := f43_ok ln l n e base k lv ov is iso emb opn q xs cs hq i hi z hz (q + 1) rfl xs' cs' x1 x2 c1 c2
  have r3 := f43_ok ln l n e base k lv ov is iso (emb + 1) opn q xs cs hq i hi z hz (q + 1) rfl xs' cs' x1 x2 c1 c2
  have d1 : nl ≤ 125 ∧ iso ≤ 0 ∧ emb ≤ 0 → absM (k + 1) lv' ov' is' iso emb opn (q + 1) xs' cs' = embM (l i) (absM k lv ov is iso emb opn q xs cs) := by
    intro h
    unfold embM
    rw [if_pos (hcan.2 h)]
    simp only [removedM, putM, pushM, ht, ← hodd, ← hovr, ← hnl]
    simp only [absM]
    rw [tab_snoc rfl x1 x2, tab_snoc rfl c1 c2, tab_snoc (f := fun j => (lv j, ov j, is j)) rfl (fun j hj => by rw [p1 j hj, p2 j hj, p3 j hj]) (by rw [p4, p5, p6])]
  have d2 : ¬ (nl ≤ 125 ∧ iso ≤ 0 ∧ emb ≤ 0) → iso ≠ 0 → absM k lv ov is iso emb opn (q + 1) xs' cs' = embM (l i) (absM k lv ov is iso emb opn q xs cs) := by
    intro h h0
    unfold embM
    rw [if_neg (fun hh => h (hcan.1 hh)), if_neg (by simpa [absM] using h0)]
    simp only [removedM, putM, absM]
    rw [tab_snoc rfl x1 x2, tab_snoc rfl c1 c2]
  have d3 : ¬ (nl ≤ 125 ∧ iso ≤ 0 ∧ emb ≤ 0) → iso = 0 → absM k lv ov is iso (emb + 1) opn (q + 1) xs' cs' = embM (l i) (absM k lv ov is iso emb opn q xs cs) := by
    intro h h0
    unfold embM
    rw [if_neg (fun hh => h (hcan.1 hh)), if_pos (by simpa [absM] using h0)]
    simp only [removedM, putM, absM]
    rw [tab_snoc rfl x1 x2, tab_snoc rfl c1 c2]
  generalize embM (l i) (absM k lv ov is iso emb opn q xs cs) = M at d1 d2 d3 ⊢
  obtain ⟨k1, hk1⟩ : ∃ k1, k1 = k + 1 := ⟨_, rfl⟩
  obtain ⟨q1, hq1⟩ : ∃ q1, q1 = q + 1 := ⟨_, rfl⟩
  obtain ⟨e1, he1⟩ : ∃ e1, e1 = emb + 1 := ⟨_, rfl⟩
  rw [← hk1, ← hq1] at d1 r1
  rw [← hq1] at d2 r2
  rw [← hq1, ← he1] at d3 r3
  rw [← hk1] at hp
  have hc : (l i = 17 ∧ odd = 1 ∧ ovr = 1) ∨ (l i = 16 ∧ odd = 1 ∧ ovr = 13) ∨ (l i = 15 ∧ odd = 0 ∧ ovr = 0) ∨ (l i ≠ 17 ∧ l i ≠ 16 ∧ l i ≠ 15 ∧ odd = 0 ∧ ovr = 13) := by
    rw [hodd, hovr]; unfold oddM ovM
    by_cases a : l i = 17
    · simp [a]
    · by_cases b : l i = 16
      · simp [b]
      · by_cases c : l i = 15
        · simp [c]
        · simp [a, b, c]
  clear hodd hovr hnl hcan ht
  refine FSpec.of (fn := Try.f38) Try.func38 rfl rfl (by simp) fun C hC => ?_
  obtain ⟨iadd, isub, imul, iquo, irem, iband, ibor, ibxor, ibandn, ishl, ishr, iconv, ieq, ine, ilt, ile, igt, ige, bbeq, bbne, bnot, bband, sseq, ssne, sscat, sssub, sslen, sssz, ssbyte, toN, ofN, addN, subN, eqN, ltB, leN, imx, imn, inb, leb, sslt, ltN, fit, ne0, ge0, ssfit, minN, inR, hS⟩ := names
  obtain rfl : z = ofN i := by simp (disch := first | omega | (simp only [hS.glob, wraps, plain, Int.ofNat_eq_natCast]; omega)) only [hS.glob, wraps, plain, Int.ofNat_eq_natCast]; exact hz
  refine V.go Try.func38 tl_ok mixed hS.ops [] 400 ?_
  intro VV VA W hVV hVA hW
  conv => cbv
  repeat (refine ⟨by first | (rw [hW]; show ordOk _ _ _ = true; kernel_rfl) | (first | trivial | omega | (simp (disch := omega) only [hS.glob, wraps, plain, Int.ofNat_eq_natCast]; first | done | omega | trivial | (simp; done) | (simp; omega) | (constructor <;> omega)) | (simp (disch := omega) only [hS.glob, wraps, plain, Int.ofNat_eq_natCast, Vx.toN]; omega)), ?_⟩)
  simp only [hS.tidy]
  have b17 : ieq (l i) 17 = decide (l i = 17) := by simp only [hS.glob]; rfl
  have b16 : ieq (l i) 16 = decide (l i = 16) := by simp only [hS.glob]; rfl
  have b15 : ieq (l i) 15 = decide (l i = 15) := by simp only [hS.glob]; rfl
  rcases hc with ⟨c1, rfl, rfl⟩ | ⟨c1, rfl, rfl⟩ | ⟨c1, rfl, rfl⟩ | ⟨c1, c2, c3, rfl, rfl⟩
  · rw [show ieq (l i) 17 = true by rw [b17]; simp [c1]]
    conv => cbv
    rw [hVV]
    refine V.call rfl rfl rfl rfl rfl Try.func51 rfl (by decide) [0, 1, 2, 3] (by decide) (all_lt (by rfl)) (by (first | rfl | ((conv => cbv); (repeat' apply And.intro) <;> first | rfl | trivial | (first | rfl | omega | (simp (disch := omega) only [hS.glob, wraps, plain, Int.ofNat_eq_natCast]; first | done | rfl | omega | (simp; done) | (simp; omega)) | (simp (disch := omega) only [hS.glob, wraps, plain, Int.ofNat_eq_natCast, Vx.toN]; omega))))) (by rfl) hp ?_
    rintro r Hc (⟨h0, rfl, rfl⟩ | ⟨h0, h1, h2, rfl, rfl⟩)
    · clear hVV hVA VV VA hW W
      refine V.go Try.func38 tl_ok mixed hS.ops [] 400 ?_
      intro VV VA W hVV hVA hW
      conv => cbv
      cases h3 : ieq iso 0
      · conv => cbv
        simp (disch := first | omega | (simp only [hS.glob, wraps, plain, Int.ofNat_eq_natCast]; omega)) only [hS.glob, wraps, plain, Int.ofNat_eq_natCast] at h3
        rw [hVV]
        refine V.call rfl rfl rfl rfl rfl Try.func43 rfl (by decide) [0, 4, 5, 6] (by decide) (all_lt (by rfl)) (by (first | rfl | ((conv => cbv); (repeat' apply And.intro) <;> first | rfl | trivial | (first | rfl | omega | (simp (disch := omega) only [hS.glob, wraps, plain, Int.ofNat_eq_natCast]; first | done | rfl | omega | (simp; done) | (simp; omega)) | (simp (disch := omega) only [hS.glob, wraps, plain, Int.ofNat_eq_natCast, Vx.toN]; omega))))) (by rfl) r2 ?_
        rintro r Hc ⟨rfl, rfl⟩
        clear hVV hVA VV VA hW W
        refine V.pick [0, 1, 2, 3, 7, 8, 9] (by decide) (pre4 ln l n e base k lv ov is iso emb opn q xs cs hC _) rfl rfl ?_
        refine V.go Try.func38 tl_ok mixed hS.ops [] 400 ?_
        intro VV VA W hVV hVA hW
        conv => cbv
        exact ⟨rfl, k, lv, ov, is, iso, emb, opn, q1, xs', cs', rfl, d2 (by omega) h3⟩
      · conv => cbv
        simp (disch := first | omega | (simp only [hS.glob, wraps, plain, Int.ofNat_eq_natCast]; omega)) only [hS.glob, wraps, plain, Int.ofNat_eq_natCast] at h3
        have ee : iadd .i64 emb 1 = e1 := by simp (disch := first | omega | (simp only [hS.glob, wraps, plain, Int.ofNat_eq_natCast]; omega)) only [hS.glob, wraps, plain, Int.ofNat_eq_natCast]; omega
        rw [ee]
        rw [hVV]
        refine V.call rfl rfl rfl rfl rfl Try.func43 rfl (by decide) [0, 4, 5, 6] (by decide) (all_lt (by rfl)) (by (first | rfl | ((conv => cbv); (repeat' apply And.intro) <;> first | rfl | trivial | (first | rfl | omega | (simp (disch := omega) only [hS.glob, wraps, plain, Int.ofNat_eq_natCast]; first | done | rfl | omega | (simp; done) | (simp; omega)) | (simp (disch := omega) only [hS.glob, wraps, plain, Int.ofNat_eq_natCast, Vx.toN]; omega))))) (by rfl) r3 ?_
        rintro r Hc ⟨rfl, rfl⟩
        clear hVV hVA VV VA hW W
        refine V.pick [0, 1, 2, 3, 7, 8, 9] (by decide) (pre4 ln l n e base k lv ov is iso emb opn q xs cs hC _) rfl rfl ?_
        refine V.go Try.func38 tl_ok mixed hS.ops [] 400 ?_
        intro VV VA W hVV hVA hW
        conv => cbv
        exact ⟨rfl, k, lv, ov, is, iso, e1, opn, q1, xs', cs', rfl, d3 (by omega) h3⟩
    · clear hVV hVA VV VA hW W
      refine V.go Try.func38 tl_ok mixed hS.ops [] 400 ?_
      intro VV VA W hVV hVA hW
      conv => cbv
      rw [hVV]
      refine V.call rfl rfl rfl rfl rfl Try.func43 rfl (by decide) [0, 4, 5, 6] (by decide) (all_lt (by rfl)) (by (first | rfl | ((conv => cbv); (repeat' apply And.intro) <;> first | rfl | trivial | (first | rfl | omega | (simp (disch := omega) only [hS.glob, wraps, plain, Int.ofNat_eq_natCast]; first | done | rfl | omega | (simp; done) | (simp; omega)) | (simp (disch := omega) only [hS.glob, wraps, plain, Int.ofNat_eq_natCast, Vx.toN]; omega))))) (by rfl) r1 ?_
      rintro r Hc ⟨rfl, rfl⟩
      clear hVV hVA VV VA hW W
      refine V.pick [0, 1, 2, 3, 7, 8, 9] (by decide) (pre4 ln l n e base k lv ov is iso emb opn q xs cs hC _) rfl rfl ?_
      refine V.go Try.func38 tl_ok mixed hS.ops [] 400 ?_
      intro VV VA W hVV hVA hW
      conv => cbv
      exact ⟨rfl, k1, lv', ov', is', iso, emb, opn, q1, xs', cs', rfl, d1 ⟨h0, h1, h2⟩⟩
  · rw [show ieq (l i) 17 = false by rw [b17]; simp [c1]]
    conv => cbv
    rw [show ieq (l i) 16 = true by rw [b16]; simp [c1]]
    conv => cbv
    rw [hVV]
    refine V.call rfl rfl rfl rfl rfl Try.func51 rfl (by decide) [0, 1, 2, 3] (by decide) (all_lt (by rfl)) (by (first | rfl | ((conv => cbv); (repeat' apply And.intro) <;> first | rfl | trivial | (first | rfl | omega | (simp (disch := omega) only [hS.glob, wraps, plain, Int.ofNat_eq_natCast]; first | done | rfl | omega | (simp; done) | (simp; omega)) | (simp (disch := omega) only [hS.glob, wraps, plain, Int.ofNat_eq_natCast, Vx.toN]; omega))))) (by rfl) hp ?_
    rintro r Hc (⟨h0, rfl, rfl⟩ | ⟨h0, h1, h2, rfl, rfl⟩)
    · clear hVV hVA VV VA hW W
      refine V.go Try.func38 tl_ok mixed hS.ops [] 400 ?_
      intro VV VA W hVV hVA hW
      conv => cbv
      cases h3 : ieq iso 0
      · conv => cbv
        simp (disch := first | omega | (simp only [hS.glob, wraps, plain, Int.ofNat_eq_natCast]; omega)) only [hS.glob, wraps, plain, Int.ofNat_eq_natCast] at h3
        rw [hVV]
        refine V.call rfl rfl rfl rfl rfl Try.func43 rfl (by decide) [0, 4, 5, 6] (by decide) (all_lt (by rfl)) (by (first | rfl | ((conv => cbv); (repeat' apply And.intro) <;> first | rfl | trivial | (first | rfl | omega | (simp (disch := omega) only [hS.glob, wraps, plain, Int.ofNat_eq_natCast]; first | done | rfl | omega | (simp; done) | (simp; omega)) | (simp (disch := omega) only [hS.glob, wraps, plain, Int.ofNat_eq_natCast, Vx.toN]; omega))))) (by rfl) r2 ?_
        rintro r Hc ⟨rfl, rfl⟩
        clear hVV hVA VV VA hW W
        refine V.pick [0, 1, 2, 3, 7, 8, 9] (by decide) (pre4 ln l n e base k lv ov is iso emb opn q xs cs hC _) rfl rfl ?_
        refine V.go Try.func38 tl_ok mixed hS.ops [] 400 ?_
        intro VV VA W hVV hVA hW
        conv => cbv
        exact ⟨rfl, k, lv, ov, is, iso, emb, opn, q1, xs', cs', rfl, d2 (by omega) h3⟩
      · conv => cbv
        simp (disch := first | omega | (simp only [hS.glob, wraps, plain, Int.ofNat_eq_natCast]; omega)) only [hS.glob, wraps, plain, Int.ofNat_eq_natCast] at h3
        have ee : iadd .i64 emb 1 = e1 := by simp (disch := first | omega | (simp only [hS.glob, wraps, plain, Int.ofNat_eq_natCast]; omega)) only [hS.glob, wraps, plain, Int.ofNat_eq_natCast]; omega
        rw [ee]
        rw [hVV]
        refine V.call rfl rfl rfl rfl rfl Try.func43 rfl (by decide) [0, 4, 5, 6] (by decide) (all_lt (by rfl)) (by (first | rfl | ((conv => cbv); (repeat' apply And.intro) <;> first | rfl | trivial | (first | rfl | omega | (simp (disch := omega) only [hS.glob, wraps, plain, Int.ofNat_eq_natCast]; first | done | rfl | omega | (simp; done) | (simp; omega)) | (simp (disch := omega) only [hS.glob, wraps, plain, Int.ofNat_eq_natCast, Vx.toN]; omega))))) (by rfl) r3 ?_
        rintro r Hc ⟨rfl, rfl⟩
        clear hVV hVA VV VA hW W
        refine V.pick [0, 1, 2, 3, 7, 8, 9] (by decide) (pre4 ln l n e base k lv ov is iso emb opn q xs cs hC _) rfl rfl ?_
        refine V.go Try.func38 tl_ok mixed hS.ops [] 400 ?_
        intro VV VA W hVV hVA hW
        conv => cbv
        exact ⟨rfl, k, lv, ov, is, iso, e1, opn, q1, xs', cs', rfl, d3 (by omega) h3⟩
    · clear hVV hVA VV VA hW W
      refine V.go Try.func38 tl_ok mixed hS.ops [] 400 ?_
      intro VV VA W hVV hVA hW
      conv => cbv
      rw [hVV]
      refine V.call rfl rfl rfl rfl rfl Try.func43 rfl (by decide) [0, 4, 5, 6] (by decide) (all_lt (by rfl)) (by (first | rfl | ((conv => cbv); (repeat' apply And.intro) <;> first | rfl | trivial | (first | rfl | omega | (simp (disch := omega) only [hS.glob, wraps, plain, Int.ofNat_eq_natCast]; first | done | rfl | omega | (simp; done) | (simp; omega)) | (simp (disch := omega) only [hS.glob, wraps, plain, Int.ofNat_eq_natCast, Vx.toN]; omega))))) (by rfl) r1 ?_
      rintro r Hc ⟨rfl, rfl⟩
      clear hVV hVA VV VA hW W
      refine V.pick [0, 1, 2, 3, 7, 8, 9] (by decide) (pre4 ln l n e base k lv ov is iso emb opn q xs cs hC _) rfl rfl ?_
      refine V.go Try.func38 tl_ok mixed hS.ops [] 400 ?_
      intro VV VA W hVV hVA hW
      conv => cbv
      exact ⟨rfl, k1, lv', ov', is', iso, emb, opn, q1, xs', cs', rfl, d1 ⟨h0, h1, h2⟩⟩
  · rw [show ieq (l i) 17 = false by rw [b17]; simp [c1]]
    conv => cbv
    rw [show ieq (l i) 16 = false by rw [b16]; simp [c1]]
    conv => cbv
    rw [show ieq (l i) 15 = true by rw [b15]; simp [c1]]
    conv => cbv
    rw [hVV]
    refine V.call rfl rfl rfl rfl rfl Try.func51 rfl (by decide) [0, 1, 2, 3] (by decide) (all_lt (by rfl)) (by (first | rfl | ((conv => cbv); (repeat' apply And.intro) <;> first | rfl | trivial | (first | rfl | omega | (simp (disch := omega) only [hS.glob, wraps, plain, Int.ofNat_eq_natCast]; first | done | rfl | omega | (simp; done) | (simp; omega)) | (simp (disch := omega) only [hS.glob, wraps, plain, Int.ofNat_eq_natCast, Vx.toN]; omega))))) (by rfl) hp ?_
    rintro r Hc (⟨h0, rfl, rfl⟩ | ⟨h0, h1, h2, rfl, rfl⟩)
    · clear hVV hVA VV VA hW W
      refine V.go Try.func38 tl_ok mixed hS.ops [] 400 ?_
      intro VV VA W hVV hVA hW
      conv => cbv
      cases h3 : ieq iso 0
      · conv => cbv
        simp (disch := first | omega | (simp only [hS.glob, wraps, plain, Int.ofNat_eq_natCast]; omega)) only [hS.glob, wraps, plain, Int.ofNat_eq_natCast] at h3
        rw [hVV]
        refine V.call rfl rfl rfl rfl rfl Try.func43 rfl (by decide) [0, 4, 5, 6] (by decide) (all_lt (by rfl)) (by (first | rfl | ((conv => cbv); (repeat' apply And.intro) <;> first | rfl | trivial | (first | rfl | omega | (simp (disch := omega) only [hS.glob, wraps, plain, Int.ofNat_eq_natCast]; first | done | rfl | omega | (simp; done) | (simp; omega)) | (simp (disch := omega) only [hS.glob, wraps, plain, Int.ofNat_eq_natCast, Vx.toN]; omega))))) (by rfl) r2 ?_
        rintro r Hc ⟨rfl, rfl⟩
        clear hVV hVA VV VA hW W
        refine V.pick [0, 1, 2, 3, 7, 8, 9] (by decide) (pre4 ln l n e base k lv ov is iso emb opn q xs cs hC _) rfl rfl ?_
        refine V.go Try.func38 tl_ok mixed hS.ops [] 400 ?_
        intro VV VA W hVV hVA hW
        conv => cbv
        exact ⟨rfl, k, lv, ov, is, iso, emb, opn, q1, xs', cs', rfl, d2 (by omega) h3⟩
      · conv => cbv
        simp (disch := first | omega | (simp only [hS.glob, wraps, plain, Int.ofNat_eq_natCast]; omega)) only [hS.glob, wraps, plain, Int.ofNat_eq_natCast] at h3
        have ee : iadd .i64 emb 1 = e1 := by simp (disch := first | omega | (simp only [hS.glob, wraps, plain, Int.ofNat_eq_natCast]; omega)) only [hS.glob, wraps, plain, Int.ofNat_eq_natCast]; omega
        rw [ee]
        rw [hVV]
        refine V.call rfl rfl rfl rfl rfl Try.func43 rfl (by decide) [0, 4, 5, 6] (by decide) (all_lt (by rfl)) (by (first | rfl | ((conv => cbv); (repeat' apply And.intro) <;> first | rfl | trivial | (first | rfl | omega | (simp (disch := omega) only [hS.glob, wraps, plain, Int.ofNat_eq_natCast]; first | done | rfl | omega | (simp; done) | (simp; omega)) | (simp (disch := omega) only [hS.glob, wraps, plain, Int.ofNat_eq_natCast, Vx.toN]; omega))))) (by rfl) r3 ?_
        rintro r Hc ⟨rfl, rfl⟩
        clear hVV hVA VV VA hW W
        refine V.pick [0, 1, 2, 3, 7, 8, 9] (by decide) (pre4 ln l n e base k lv ov is iso emb opn q xs cs hC _) rfl rfl ?_
        refine V.go Try.func38 tl_ok mixed hS.ops [] 400 ?_
        intro VV VA W hVV hVA hW
        conv => cbv
        exact ⟨rfl, k, lv, ov, is, iso, e1, opn, q1, xs', cs', rfl, d3 (by omega) h3⟩
    · clear hVV hVA VV VA hW W
      refine V.go Try.func38 tl_ok mixed hS.ops [] 400 ?_
      intro VV VA W hVV hVA hW
      conv => cbv
      rw [hVV]
      refine V.call rfl rfl rfl rfl rfl Try.func43 rfl (by decide) [0, 4, 5, 6] (by decide) (all_lt (by rfl)) (by (first | rfl | ((conv => cbv); (repeat' apply And.intro) <;> first | rfl | trivial | (first | rfl | omega | (simp (disch := omega) only [hS.glob, wraps, plain, Int.ofNat_eq_natCast]; first | done | rfl | omega | (simp; done) | (simp; omega)) | (simp (disch := omega) only [hS.glob, wraps, plain, Int.ofNat_eq_natCast, Vx.toN]; omega))))) (by rfl) r1 ?_
      rintro r Hc ⟨rfl, rfl⟩
      clear hVV hVA VV VA hW W
      refine V.pick [0, 1, 2, 3, 7, 8, 9] (by decide) (pre4 ln l n e base k lv ov is iso emb opn q xs cs hC _) rfl rfl ?_
      refine V.go Try.func38 tl_ok mixed hS.ops [] 400 ?_
      intro VV VA W hVV hVA hW
      conv => cbv
      exact ⟨rfl, k1, lv', ov', is', iso, emb, opn, q1, xs', cs', rfl, d1 ⟨h0, h1, h2⟩⟩
  · rw [show ieq (l i) 17 = false by rw [b17]; simp [c1]]
    conv => cbv
    rw [show ieq (l i) 16 = false by rw [b16]; simp [c2]]
    conv => cbv
    rw [show ieq (l i) 15 = false by rw [b15]; simp [c3]]
    conv => cbv
    rw [hVV]
    refine V.call rfl rfl rfl rfl rfl Try.func51 rfl (by decide) [0, 1, 2, 3] (by decide) (all_lt (by rfl)) (by (first | rfl | ((conv => cbv); (repeat' apply And.intro) <;> first | rfl | trivial | (first | rfl | omega | (simp (disch := omega) only [hS.glob, wraps, plain, Int.ofNat_eq_natCast]; first | done | rfl | omega | (simp; done) | (simp; omega)) | (simp (disch := omega) only [hS.glob, wraps, plain, Int.ofNat_eq_natCast, Vx.toN]; omega))))) (by rfl) hp ?_
    rintro r Hc (⟨h0, rfl, rfl⟩ | ⟨h0, h1, h2, rfl, rfl⟩)
    · clear hVV hVA VV VA hW W
      refine V.go Try.func38 tl_ok mixed hS.ops [] 400 ?_
      intro VV VA W hVV hVA hW
      conv => cbv
      cases h3 : ieq iso 0
      · conv => cbv
        simp (disch := first | omega | (simp only [hS.glob, wraps, plain, Int.ofNat_eq_natCast]; omega)) only [hS.glob, wraps, plain, Int.ofNat_eq_natCast] at h3
        rw [hVV]
        refine V.call rfl rfl rfl rfl rfl Try.func43 rfl (by decide) [0, 4, 5, 6] (by decide) (all_lt (by rfl)) (by (first | rfl | ((conv => cbv); (repeat' apply And.intro) <;> first | rfl | trivial | (first | rfl | omega | (simp (disch := omega) only [hS.glob, wraps, plain, Int.ofNat_eq_natCast]; first | done | rfl | omega | (simp; done) | (simp; omega)) | (simp (disch := omega) only [hS.glob, wraps, plain, Int.ofNat_eq_natCast, Vx.toN]; omega))))) (by rfl) r2 ?_
        rintro r Hc ⟨rfl, rfl⟩
        clear hVV hVA VV VA hW W
        refine V.pick [0, 1, 2, 3, 7, 8, 9] (by decide) (pre4 ln l n e base k lv ov is iso emb opn q xs cs hC _) rfl rfl ?_
        refine V.go Try.func38 tl_ok mixed hS.ops [] 400 ?_
        intro VV VA W hVV hVA hW
        conv => cbv
        exact ⟨rfl, k, lv, ov, is, iso, emb, opn, q1, xs', cs', rfl, d2 (by omega) h3⟩
      · conv => cbv
        simp (disch := first | omega | (simp only [hS.glob, wraps, plain, Int.ofNat_eq_natCast]; omega)) only [hS.glob, wraps, plain, Int.ofNat_eq_natCast] at h3
        have ee : iadd .i64 emb 1 = e1 := by simp (disch := first | omega | (simp only [hS.glob, wraps, plain, Int.ofNat_eq_natCast]; omega)) only [hS.glob, wraps, plain, Int.ofNat_eq_natCast]; omega
        rw [ee]
        rw [hVV]
        refine V.call rfl rfl rfl rfl rfl Try.func43 rfl (by decide) [0, 4, 5, 6] (by decide) (all_lt (by rfl)) (by (first | rfl | ((conv => cbv); (repeat' apply And.intro) <;> first | rfl | trivial | (first | rfl | omega | (simp (disch := omega) only [hS.glob, wraps, plain, Int.ofNat_eq_natCast]; first | done | rfl | omega | (simp; done) | (simp; omega)) | (simp (disch := omega) only [hS.glob, wraps, plain, Int.ofNat_eq_natCast, Vx.toN]; omega))))) (by rfl) r3 ?_
        rintro r Hc ⟨rfl, rfl⟩
        clear hVV hVA VV VA hW W
        refine V.pick [0, 1, 2, 3, 7, 8, 9] (by decide) (pre4 ln l n e base k lv ov is iso emb opn q xs cs hC _) rfl rfl ?_
        refine V.go Try.func38 tl_ok mixed hS.ops [] 400 ?_
        intro VV VA W hVV hVA hW
        conv => cbv
        exact ⟨rfl, k, lv, ov, is, iso, e1, opn, q1, xs', cs', rfl, d3 (by omega) h3⟩
    · clear hVV hVA VV VA hW W
      refine V.go Try.func38 tl_ok mixed hS.ops [] 400 ?_
      intro VV VA W hVV hVA hW
      conv => cbv
      rw [hVV]
      refine V.call rfl rfl rfl rfl rfl Try.func43 rfl (by decide) [0, 4, 5, 6] (by decide) (all_lt (by rfl)) (by (first | rfl | ((conv => cbv); (repeat' apply And.intro) <;> first | rfl | trivial | (first | rfl | omega | (simp (disch := omega) only [hS.glob, wraps, plain, Int.ofNat_eq_natCast]; first | done | rfl | omega | (simp; done) | (simp; omega)) | (simp (disch := omega) only [hS.glob, wraps, plain, Int.ofNat_eq_natCast, Vx.toN]; omega))))) (by rfl) r1 ?_
      rintro r Hc ⟨rfl, rfl⟩
      clear hVV hVA VV VA hW W
      refine V.pick [0, 1, 2, 3, 7, 8, 9] (by decide) (pre4 ln l n e base k lv ov is iso emb opn q xs cs hC _) rfl rfl ?_
      refine V.go Try.func38 tl_ok mixed hS.ops [] 400 ?_
      intro VV VA W hVV hVA hW
      conv => cbv
      exact ⟨rfl, k1, lv', ov', is', iso, emb, opn, q1, xs', cs', rfl, d1 ⟨h0, h1, h2⟩⟩
end Go.Proofs.Ytihmolafajmbjaa
