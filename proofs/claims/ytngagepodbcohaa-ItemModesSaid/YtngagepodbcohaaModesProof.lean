/- Proved: frisketlaw16.ItemModes returns true, and never panics. Conditions: none. -/
import Derived.Test.YtngagepodbcohaaRows
import Derived.Test.YtngagepodbcohaaT8
import Derived.Test.YtngagepodbcohaaV3
import Derived.WalkKit
import Derived.ProofKit
import Derived.OpenShut
import Derived.ShutString
import Derived.ChangeOld
import Derived.Below
set_option linter.all false
namespace Go.Proofs.Ytngagepodbcohaa.itemModes
open Go.ChangeShapes Go.WideShapes Go.ChangeAt Go.RowKit
open Vx

theorem own : ownKnob Try.prog.godebug = none := by kernel_rfl
theorem laidOut : laidOutB Try.prog = true := by kernel_rfl
set_option maxRecDepth 100000 in
theorem spec (avs : List AV) (h : TyArgs Try.prog 4 [25] avs) : FSpec Try.prog 3 avs [] (fun r H' => r = .bool true ∧ H' = []) := by
  obtain ⟨a0, r0, rfl, t0, h⟩ := h.cons
  obtain rfl := h.nil
  obtain ⟨n, p, ns, l, s0, hn, hns, hl⟩ := textT t0
  exact (f3_ok n hn p ns hns l hl).sub ⟨s0, trivial⟩
set_option maxRecDepth 100000 in
theorem lifted (os : Os) (started : os.Started) (H : Type) (enc : TypeId × Value → H) :
    ReturnsInHanded {} Try.checked os 3 .any (Rows.itemModesSpec.pre6 enc Try.prog Try.f3 Rows.itemModesRow.domain false) (Rows.itemModesSpec.post enc Try.prog Try.f3 false true false false) := by
  refine law_lift (C := Try.checked) (tb := 4) 4 own started (by kernel_rfl) Try.func3 laidOut
    (ChangeSpec.witness6 (enc := enc) (C := Try.checked) false ⟨#[], #[.agg #[.slice none 0 0, .slice none 0 0]], []⟩ 8 (by kernel_rfl) (by kernel_rfl) (by kernel_rfl) (by kernel_rfl))
    rfl (by kernel_rfl) Try.underlying4 (by kernel_rfl) (by kernel_rfl) ?_ ?_
  · intro ds hd
    rw [Try.params3] at hd
    match ds, hd with
    | [a], _ => rfl
  · intro avs h
    rw [Try.params3] at h
    exact spec avs h

theorem over : Rows.itemModesRow.holds Try.pinned (OpenSpec.ofChange Rows.itemModesSpec) :=
  OpenClaim.holds_of_wide 3 Try.f3 rfl rfl rfl rfl rfl rfl rfl ⟨rfl, rfl, rfl, rfl, rfl⟩ rfl rfl rfl rfl rfl (by kernel_rfl) Try.func3 (by kernel_rfl)
    (of_decide_eq_true (by kernel_rfl)) (by unfold Func.isWrapper; first | (rw [if_pos (by decide +kernel)]; kernel_rfl) | (rw [if_neg (by decide +kernel)]; exact ⟨rfl, rfl⟩))
    (fun os started H enc _ => lifted os started H enc)

/-- ████ THE STATEMENT ████ -/
theorem proved : Rows.ItemModesSaid := over
#print axioms proved
end Go.Proofs.Ytngagepodbcohaa.itemModes
