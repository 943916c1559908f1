/- Proved: frisketlaw11.BracketDeep returns true for every two numbers, and never panics. Conditions: none. -/
import Derived.Test.YtcoanfhjgmndcaaRows
import Derived.Test.YtcoanfhjgmndcaaT7
import Derived.Test.YtcoanfhjgmndcaaV3
import Derived.WalkKit
import Derived.ProofKit
import Derived.OpenShut
import Derived.ShutString
import Derived.ChangeOld
import Derived.Below
set_option linter.all false
namespace Go.Proofs.Ytcoanfhjgmndcaa.bracketDeep
open Go.ChangeShapes Go.WideShapes Go.ChangeAt Go.RowKit
open Vx

theorem own : ownKnob Try.prog.godebug = none := by kernel_rfl
theorem laidOut : laidOutB Try.prog = true := by kernel_rfl
theorem spec (avs : List AV) (h : TyArgs Try.prog 4 [3, 3] avs) : FSpec Try.prog 7 avs [] (fun r H' => r = .bool true ∧ H' = []) := by
  obtain ⟨a0, r0, rfl, t0, h⟩ := h.cons
  obtain ⟨a1, r1, rfl, t1, h⟩ := h.cons
  obtain rfl := h.nil
  obtain ⟨x, rfl, _⟩ := t0.int Try.underlying3
  obtain ⟨y, rfl, _⟩ := t1.int Try.underlying3
  exact f7_ok x y

set_option maxRecDepth 100000 in
theorem lifted (os : Os) (started : os.Started) (H : Type) (enc : TypeId × Value → H) :
    ReturnsInHanded {} Try.checked os 7 .any (Rows.bracketDeepSpec.pre6 enc Try.prog Try.f7 Rows.bracketDeepRow.domain false) (Rows.bracketDeepSpec.post enc Try.prog Try.f7 false true false false) := by
  refine law_lift (C := Try.checked) (tb := 4) 4 own started (by kernel_rfl) Try.func7 laidOut
    (ChangeSpec.witness6 (enc := enc) (C := Try.checked) false ⟨#[], #[.int .i64 0, .int .i64 0], []⟩ 8 (by kernel_rfl) (by kernel_rfl) (by kernel_rfl) (by kernel_rfl))
    rfl (by kernel_rfl) Try.underlying4 (by kernel_rfl) (by kernel_rfl) ?_ ?_
  · intro ds hd
    rw [Try.params7] at hd
    match ds, hd with
    | [a, b], _ => rfl
  · intro avs h
    rw [Try.params7] at h
    exact spec avs h

theorem over : Rows.bracketDeepRow.holds Try.pinned (OpenSpec.ofChange Rows.bracketDeepSpec) :=
  OpenClaim.holds_of_wide 7 Try.f7 rfl rfl rfl rfl rfl rfl rfl ⟨rfl, rfl, rfl, rfl, rfl⟩ rfl rfl rfl rfl rfl (by kernel_rfl) Try.func7 (by kernel_rfl)
    (of_decide_eq_true (by kernel_rfl)) (by unfold Func.isWrapper; first | (rw [if_pos (by decide +kernel)]; kernel_rfl) | (rw [if_neg (by decide +kernel)]; exact ⟨rfl, rfl⟩))
    (fun os started H enc _ => lifted os started H enc)

/-- ████ THE STATEMENT ████ -/
theorem proved : Rows.BracketDeepSaid := over
#print axioms proved
end Go.Proofs.Ytcoanfhjgmndcaa.bracketDeep
