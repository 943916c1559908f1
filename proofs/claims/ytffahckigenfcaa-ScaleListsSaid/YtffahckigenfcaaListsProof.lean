/- Proved: frisketlaw04.ScaleLists returns true, and never panics. Conditions: none. -/
import Derived.Test.YtffahckigenfcaaRows
import Derived.Test.YtffahckigenfcaaT5
import Derived.WalkKit
import Derived.ProofKit
import Derived.OpenShut
import Derived.ShutString
import Derived.ChangeOld
import Derived.Below
set_option linter.all false
namespace Go.Proofs.Ytffahckigenfcaa.scaleLists
open Go.ChangeShapes Go.WideShapes Go.ChangeAt Go.RowKit
open Vx

theorem own : ownKnob Try.prog.godebug = none := by kernel_rfl
theorem laidOut : laidOutB Try.prog = true := by kernel_rfl
theorem u64_bd (a : Int) (h : (Lit.int .u64 a).wf = true) : 0 ≤ a ∧ a ≤ 18446744073709551615 := by
  simpa [Lit.wf, IntKind.min, IntKind.max, IntKind.signed, IntKind.bits] using h
theorem spec (avs : List AV) (h : TyArgs Try.prog 4 [34] avs) : FSpec Try.prog 7 avs [] (fun r H' => r = .bool true ∧ H' = []) := by
  obtain ⟨a0, r0, rfl, t0, h⟩ := h.cons
  obtain rfl := h.nil
  obtain ⟨n, g, s0, hn, hg⟩ := t0.ints Try.underlying34 Try.underlying22 (by kernel_rfl)
  have hb : Try.prog.bytesOf 22 = 8 := by kernel_rfl
  rw [hb] at hn
  simp only [reachBytes] at hn
  exact (f7_ok n (by omega) g (fun j hj => u64_bd _ (hg j hj))).sub ⟨s0, trivial⟩
set_option maxRecDepth 100000 in
theorem lifted (os : Os) (started : os.Started) (H : Type) (enc : TypeId × Value → H) :
    ReturnsInHanded {} Try.checked os 7 .any (Rows.scaleListsSpec.pre6 enc Try.prog Try.f7 Rows.scaleListsRow.domain false) (Rows.scaleListsSpec.post enc Try.prog Try.f7 false true false false) := by
  refine law_lift (C := Try.checked) (tb := 4) 4 own started (by kernel_rfl) Try.func7 laidOut
    (ChangeSpec.witness6 (enc := enc) (C := Try.checked) false ⟨#[], #[.slice none 0 0], []⟩ 8 (by kernel_rfl) (by kernel_rfl) (by kernel_rfl) (by kernel_rfl))
    rfl (by kernel_rfl) Try.underlying4 (by kernel_rfl) (by kernel_rfl) ?_ ?_
  · intro ds hd
    rw [Try.params7] at hd
    match ds, hd with
    | [a], _ => rfl
  · intro avs h
    rw [Try.params7] at h
    exact spec avs h

theorem over : Rows.scaleListsRow.holds Try.pinned (OpenSpec.ofChange Rows.scaleListsSpec) :=
  OpenClaim.holds_of_wide 7 Try.f7 rfl rfl rfl rfl rfl rfl rfl ⟨rfl, rfl, rfl, rfl, rfl⟩ rfl rfl rfl rfl rfl (by kernel_rfl) Try.func7 (by kernel_rfl)
    (of_decide_eq_true (by kernel_rfl)) (by unfold Func.isWrapper; first | (rw [if_pos (by decide +kernel)]; kernel_rfl) | (rw [if_neg (by decide +kernel)]; exact ⟨rfl, rfl⟩))
    (fun os started H enc _ => lifted os started H enc)

/-- ████ THE STATEMENT ████ -/
theorem proved : Rows.ScaleListsSaid := over
#print axioms proved
end Go.Proofs.Ytffahckigenfcaa.scaleLists
