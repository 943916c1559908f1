/- Proved: frisketlaw11.BracketBoth returns true for every pair of lists of classes, level and first class, and every list of marks, and never panics. Conditions: none. -/
import Derived.Test.YtcoanfhjgmndcaaRows
import Derived.Test.YtcoanfhjgmndcaaT9
import Derived.Test.YtcoanfhjgmndcaaV3
import Derived.WalkKit
import Derived.ProofKit
import Derived.OpenShut
import Derived.ShutString
import Derived.ChangeOld
import Derived.Below
set_option linter.all false
namespace Go.Proofs.Ytcoanfhjgmndcaa.bracketBoth
open Go.ChangeShapes Go.WideShapes Go.ChangeAt Go.RowKit
open Vx

theorem own : ownKnob Try.prog.godebug = none := by kernel_rfl
theorem laidOut : laidOutB Try.prog = true := by kernel_rfl
theorem cells34 : Try.prog.cellsOf 34 = 4 := by kernel_rfl
theorem cells22 : Try.prog.cellsOf 22 = 1 := by kernel_rfl
theorem cells32 : Try.prog.cellsOf 32 = 1 := by kernel_rfl
theorem cells43 : Try.prog.cellsOf 43 = 2 := by kernel_rfl
theorem cells3 : Try.prog.cellsOf 3 = 1 := by kernel_rfl
theorem bytes32 : Try.prog.bytesOf 32 = 8 := by kernel_rfl
theorem bytes43 : Try.prog.bytesOf 43 = 16 := by kernel_rfl

theorem struct4 {P : Program} {n t : Nat} {f0 f1 f2 f3 : Field} (hu : P.underlying t = some (.struct #[f0, f1, f2, f3])) (hc : P.cellsOf t = 4) (o0 : f0.offset = 0) (o1 : f1.offset = 1) (o2 : f2.offset = 2) (o3 : f3.offset = 3) (c0 : P.cellsOf f0.type = 1) (c1 : P.cellsOf f1.type = 1) (c2 : P.cellsOf f2.type = 1) (c3 : P.cellsOf f3.type = 1) {av : AV} (h : TyV P n t av) :
    ∃ x y z u, av = .agg [x, y, z, u] ∧ Ty P (n - 1) f0.type [x] ∧ Ty P (n - 1) f1.type [y] ∧ Ty P (n - 1) f2.type [z] ∧ Ty P (n - 1) f3.type [u] := by
  obtain ⟨cs, rfl, hl, hf⟩ := h.struct hu
  rw [hc] at hl
  match cs, hl with
  | [x, y, z, u], _ =>
    have h0 := hf f0 (by simp)
    have h1 := hf f1 (by simp)
    have h2 := hf f2 (by simp)
    have h3 := hf f3 (by simp)
    rw [o0, c0] at h0
    rw [o1, c1] at h1
    rw [o2, c2] at h2
    rw [o3, c3] at h3
    exact ⟨x, y, z, u, rfl, h0, h1, h2, h3⟩

theorem spec (avs : List AV) (h : TyArgs Try.prog 4 [34, 23] avs) : FSpec Try.prog 6 avs [] (fun r H' => r = .bool true ∧ H' = []) := by
  obtain ⟨a0, r0, rfl, t0, h⟩ := h.cons
  obtain ⟨a1, r1, rfl, t1, h⟩ := h.cons
  obtain rfl := h.nil
  obtain ⟨x, y, z, u, rfl, q0, q1, q2, q3⟩ := struct4 Try.underlying34 cells34 rfl rfl rfl rfl cells22 cells22 cells3 cells32 t0
  obtain ⟨n0, f0, s0, b0, _⟩ := q0.ints Try.underlying22 Try.underlying32 cells32
  obtain ⟨n1, f1, s1, b1, _⟩ := q1.ints Try.underlying22 Try.underlying32 cells32
  obtain ⟨level, hl, _⟩ := Ty.int_inv Try.underlying3 q2
  obtain ⟨first, hf, _⟩ := Ty.int_inv Try.underlying32 q3
  injection hl with hl
  injection hf with hf
  subst hl hf
  obtain ⟨n2, f2, g2, s2, b2, _⟩ := t1.pairs Try.underlying23 Try.underlying43 cells43 rfl rfl Try.underlying3 cells3 Try.underlying3 cells3
  rw [bytes32] at b0 b1
  rw [bytes43] at b2
  simp only [reachBytes] at b0 b1 b2
  exact (f6_ok n0 n1 n2 f0 f1 f2 g2 level first (by omega) (by omega) (by omega)).sub ⟨Sub.agg ⟨s0.1, s1.1, Sub.refl _, Sub.refl _, trivial⟩, s2, trivial⟩

set_option maxRecDepth 100000 in
theorem lifted (os : Os) (started : os.Started) (H : Type) (enc : TypeId × Value → H) :
    ReturnsInHanded {} Try.checked os 6 .any (Rows.bracketBothSpec.pre6 enc Try.prog Try.f6 Rows.bracketBothRow.domain false) (Rows.bracketBothSpec.post enc Try.prog Try.f6 false true false false) := by
  refine law_lift (C := Try.checked) (tb := 4) 4 own started (by kernel_rfl) Try.func6 laidOut
    (ChangeSpec.witness6 (enc := enc) (C := Try.checked) false ⟨#[], #[.agg #[.slice none 0 0, .slice none 0 0, .int .i64 0, .int .i64 0], .slice none 0 0], []⟩ 8 (by kernel_rfl) (by kernel_rfl) (by kernel_rfl) (by kernel_rfl))
    rfl (by kernel_rfl) Try.underlying4 (by kernel_rfl) (by kernel_rfl) ?_ ?_
  · intro ds hd
    rw [Try.params6] at hd
    match ds, hd with
    | [a, b], _ => rfl
  · intro avs h
    rw [Try.params6] at h
    exact spec avs h

theorem over : Rows.bracketBothRow.holds Try.pinned (OpenSpec.ofChange Rows.bracketBothSpec) :=
  OpenClaim.holds_of_wide 6 Try.f6 rfl rfl rfl rfl rfl rfl rfl ⟨rfl, rfl, rfl, rfl, rfl⟩ rfl rfl rfl rfl rfl (by kernel_rfl) Try.func6 (by kernel_rfl)
    (of_decide_eq_true (by kernel_rfl)) (by unfold Func.isWrapper; first | (rw [if_pos (by decide +kernel)]; kernel_rfl) | (rw [if_neg (by decide +kernel)]; exact ⟨rfl, rfl⟩))
    (fun os started H enc _ => lifted os started H enc)

/-- ████ THE STATEMENT ████ -/
theorem proved : Rows.BracketBothSaid := over
#print axioms proved
end Go.Proofs.Ytcoanfhjgmndcaa.bracketBoth
