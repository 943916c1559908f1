/- Proved: frisketlaw11.BracketNested returns true for every list of classes and every list of marks, and never panics. Conditions: none. -/
import Derived.Test.YtcoanfhjgmndcaaRows
import Derived.Test.YtcoanfhjgmndcaaT7
import Derived.Test.YtcoanfhjgmndcaaV3
import Derived.WalkKit
import Derived.ProofKit
import Derived.OpenShut
import Derived.ShutString
import Derived.ChangeOld
import Derived.Below
set_option linter.all false
namespace Go.Proofs.Ytcoanfhjgmndcaa.bracketNested
open Go.ChangeShapes Go.WideShapes Go.ChangeAt Go.RowKit
open Vx

theorem own : ownKnob Try.prog.godebug = none := by kernel_rfl
theorem laidOut : laidOutB Try.prog = true := by kernel_rfl
theorem cells32 : Try.prog.cellsOf 32 = 1 := by kernel_rfl
theorem cells43 : Try.prog.cellsOf 43 = 2 := by kernel_rfl
theorem cells3 : Try.prog.cellsOf 3 = 1 := by kernel_rfl
theorem bytes32 : Try.prog.bytesOf 32 = 8 := by kernel_rfl
theorem bytes43 : Try.prog.bytesOf 43 = 16 := by kernel_rfl

theorem spec (avs : List AV) (h : TyArgs Try.prog 4 [22, 23] avs) : FSpec Try.prog 5 avs [] (fun r H' => r = .bool true ∧ H' = []) := by
  obtain ⟨a0, r0, rfl, t0, h⟩ := h.cons
  obtain ⟨a1, r1, rfl, t1, h⟩ := h.cons
  obtain rfl := h.nil
  obtain ⟨n0, f0, s0, b0, _⟩ := t0.ints Try.underlying22 Try.underlying32 cells32
  obtain ⟨n1, f1, g1, s1, b1, _⟩ := t1.pairs Try.underlying23 Try.underlying43 cells43 rfl rfl Try.underlying3 cells3 Try.underlying3 cells3
  rw [bytes32] at b0
  rw [bytes43] at b1
  simp only [reachBytes] at b0 b1
  exact (f5_ok n0 n1 f0 f1 g1 (by omega) (by omega)).sub ⟨s0, s1, trivial⟩

set_option maxRecDepth 100000 in
theorem lifted (os : Os) (started : os.Started) (H : Type) (enc : TypeId × Value → H) :
    ReturnsInHanded {} Try.checked os 5 .any (Rows.bracketNestedSpec.pre6 enc Try.prog Try.f5 Rows.bracketNestedRow.domain false) (Rows.bracketNestedSpec.post enc Try.prog Try.f5 false true false false) := by
  refine law_lift (C := Try.checked) (tb := 4) 4 own started (by kernel_rfl) Try.func5 laidOut
    (ChangeSpec.witness6 (enc := enc) (C := Try.checked) false ⟨#[], #[.slice none 0 0, .slice none 0 0], []⟩ 8 (by kernel_rfl) (by kernel_rfl) (by kernel_rfl) (by kernel_rfl))
    rfl (by kernel_rfl) Try.underlying4 (by kernel_rfl) (by kernel_rfl) ?_ ?_
  · intro ds hd
    rw [Try.params5] at hd
    match ds, hd with
    | [a, b], _ => rfl
  · intro avs h
    rw [Try.params5] at h
    exact spec avs h

theorem over : Rows.bracketNestedRow.holds Try.pinned (OpenSpec.ofChange Rows.bracketNestedSpec) :=
  OpenClaim.holds_of_wide 5 Try.f5 rfl rfl rfl rfl rfl rfl rfl ⟨rfl, rfl, rfl, rfl, rfl⟩ rfl rfl rfl rfl rfl (by kernel_rfl) Try.func5 (by kernel_rfl)
    (of_decide_eq_true (by kernel_rfl)) (by unfold Func.isWrapper; first | (rw [if_pos (by decide +kernel)]; kernel_rfl) | (rw [if_neg (by decide +kernel)]; exact ⟨rfl, rfl⟩))
    (fun os started H enc _ => lifted os started H enc)

/-- ████ THE STATEMENT ████ -/
theorem proved : Rows.BracketNestedSaid := over
#print axioms proved
end Go.Proofs.Ytcoanfhjgmndcaa.bracketNested
