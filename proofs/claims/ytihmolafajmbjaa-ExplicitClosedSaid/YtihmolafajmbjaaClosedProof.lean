/- Proved: frisketlaw08.ExplicitClosed returns true for every three lists of classes, another list and a number, and never panics. Conditions: none. -/
import Derived.Test.YtihmolafajmbjaaRows
import Derived.Test.YtihmolafajmbjaaT5
import Derived.Test.YtihmolafajmbjaaV3
import Derived.WalkKit
import Derived.ProofKit
import Derived.OpenShut
import Derived.ShutString
import Derived.ChangeOld
import Derived.Below
set_option linter.all false
namespace Go.Proofs.Ytihmolafajmbjaa.explicitClosed
open Go.ChangeShapes Go.WideShapes Go.ChangeAt Go.RowKit
open Vx

theorem own : ownKnob Try.prog.godebug = none := by kernel_rfl
theorem laidOut : laidOutB Try.prog = true := by kernel_rfl
theorem cells38 : Try.prog.cellsOf 38 = 3 := by kernel_rfl
theorem cells22 : Try.prog.cellsOf 22 = 1 := by kernel_rfl
theorem cells34 : Try.prog.cellsOf 34 = 1 := by kernel_rfl
theorem bytes34 : Try.prog.bytesOf 34 = 8 := by kernel_rfl

theorem spec (avs : List AV) (h : TyArgs Try.prog 4 [38, 22, 3] avs) : FSpec Try.prog 6 avs [] (fun r H' => r = .bool true ∧ H' = []) := by
  obtain ⟨a0, r0, rfl, t0, h⟩ := h.cons
  obtain ⟨a1, r1, rfl, t1, h⟩ := h.cons
  obtain ⟨a2, r2, rfl, t2, h⟩ := h.cons
  obtain rfl := h.nil
  obtain ⟨cs, rfl, l0, e0⟩ := t0.array Try.underlying38
  rw [cells38] at l0
  match cs, l0, e0 with
  | [x, y, z], _, e0 =>
  rw [cells22] at e0
  obtain ⟨n0, f0, s0, b0, _⟩ := (e0 0 (by decide)).ints Try.underlying22 Try.underlying34 cells34
  obtain ⟨n1, f1, s1, b1, _⟩ := (e0 1 (by decide)).ints Try.underlying22 Try.underlying34 cells34
  obtain ⟨n2, f2, s2, b2, _⟩ := (e0 2 (by decide)).ints Try.underlying22 Try.underlying34 cells34
  obtain ⟨n3, f3, s3, b3, _⟩ := t1.ints Try.underlying22 Try.underlying34 cells34
  obtain ⟨how, rfl, _⟩ := t2.int Try.underlying3
  rw [bytes34] at b0 b1 b2 b3
  simp only [reachBytes] at b0 b1 b2 b3
  exact (f6_ok n0 n1 n2 n3 f0 f1 f2 f3 how (by omega) (by omega) (by omega) (by omega)).sub ⟨Sub.agg ⟨s0.1, s1.1, s2.1, trivial⟩, s3, Sub.refl _, trivial⟩

set_option maxRecDepth 100000 in
theorem lifted (os : Os) (started : os.Started) (H : Type) (enc : TypeId × Value → H) :
    ReturnsInHanded {} Try.checked os 6 .any (Rows.explicitClosedSpec.pre6 enc Try.prog Try.f6 Rows.explicitClosedRow.domain false) (Rows.explicitClosedSpec.post enc Try.prog Try.f6 false true false false) := by
  refine law_lift (C := Try.checked) (tb := 4) 4 own started (by kernel_rfl) Try.func6 laidOut
    (ChangeSpec.witness6 (enc := enc) (C := Try.checked) false ⟨#[], #[.agg #[.slice none 0 0, .slice none 0 0, .slice none 0 0], .slice none 0 0, .int .i64 0], []⟩ 8 (by kernel_rfl) (by kernel_rfl) (by kernel_rfl) (by kernel_rfl))
    rfl (by kernel_rfl) Try.underlying4 (by kernel_rfl) (by kernel_rfl) ?_ ?_
  · intro ds hd
    rw [Try.params6] at hd
    match ds, hd with
    | [a, b, c], _ => rfl
  · intro avs h
    rw [Try.params6] at h
    exact spec avs h

theorem over : Rows.explicitClosedRow.holds Try.pinned (OpenSpec.ofChange Rows.explicitClosedSpec) :=
  OpenClaim.holds_of_wide 6 Try.f6 rfl rfl rfl rfl rfl rfl rfl ⟨rfl, rfl, rfl, rfl, rfl⟩ rfl rfl rfl rfl rfl (by kernel_rfl) Try.func6 (by kernel_rfl)
    (of_decide_eq_true (by kernel_rfl)) (by unfold Func.isWrapper; first | (rw [if_pos (by decide +kernel)]; kernel_rfl) | (rw [if_neg (by decide +kernel)]; exact ⟨rfl, rfl⟩))
    (fun os started H enc _ => lifted os started H enc)

/-- ████ THE STATEMENT ████ -/
theorem proved : Rows.ExplicitClosedSaid := over
#print axioms proved
end Go.Proofs.Ytihmolafajmbjaa.explicitClosed
