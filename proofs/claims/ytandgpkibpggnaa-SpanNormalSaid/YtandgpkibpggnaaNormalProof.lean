/- Proved: frisketlaw07.SpanNormal returns true, and never panics. Conditions: none. -/
import Derived.Test.YtandgpkibpggnaaRows
import Derived.Test.YtandgpkibpggnaaT10
import Derived.WalkKit
import Derived.ProofKit
import Derived.OpenShut
import Derived.ShutString
import Derived.ChangeOld
import Derived.Below
set_option linter.all false
namespace Go.Proofs.Ytandgpkibpggnaa.spanNormal
open Go.ChangeShapes Go.WideShapes Go.ChangeAt Go.RowKit
open Vx

theorem own : ownKnob Try.prog.godebug = none := by kernel_rfl
theorem laidOut : laidOutB Try.prog = true := by kernel_rfl
theorem spec (avs : List AV) (h : TyArgs Try.prog 4 [22, 3, 3] avs) : FSpec Try.prog 5 avs [] (fun r H' => r = .bool true ∧ H' = []) := by
  obtain ⟨a0, r0, rfl, t0, h⟩ := h.cons
  obtain ⟨a1, r1, rfl, t1, h⟩ := h.cons
  obtain ⟨a2, r2, rfl, t2, h⟩ := h.cons
  obtain rfl := h.nil
  obtain ⟨n, g, s0, hn, hg⟩ := spans t0
  obtain ⟨z, rfl, _⟩ := t1.int Try.underlying3
  obtain ⟨q, rfl, _⟩ := t2.int Try.underlying3
  exact (f5_ok n hn g hg z q).sub ⟨s0, Sub.refl _, Sub.refl _, trivial⟩
set_option maxRecDepth 100000 in
theorem lifted (os : Os) (started : os.Started) (H : Type) (enc : TypeId × Value → H) :
    ReturnsInHanded {} Try.checked os 5 .any (Rows.spanNormalSpec.pre6 enc Try.prog Try.f5 Rows.spanNormalRow.domain false) (Rows.spanNormalSpec.post enc Try.prog Try.f5 false true false false) := by
  refine law_lift (C := Try.checked) (tb := 4) 4 own started (by kernel_rfl) Try.func5 laidOut
    (ChangeSpec.witness6 (enc := enc) (C := Try.checked) false ⟨#[], #[.slice none 0 0, .int .i64 0, .int .i64 0], []⟩ 8 (by kernel_rfl) (by kernel_rfl) (by kernel_rfl) (by kernel_rfl))
    rfl (by kernel_rfl) Try.underlying4 (by kernel_rfl) (by kernel_rfl) ?_ ?_
  · intro ds hd
    rw [Try.params5] at hd
    match ds, hd with
    | [a, b, c], _ => rfl
  · intro avs h
    rw [Try.params5] at h
    exact spec avs h

theorem over : Rows.spanNormalRow.holds Try.pinned (OpenSpec.ofChange Rows.spanNormalSpec) :=
  OpenClaim.holds_of_wide 5 Try.f5 rfl rfl rfl rfl rfl rfl rfl ⟨rfl, rfl, rfl, rfl, rfl⟩ rfl rfl rfl rfl rfl (by kernel_rfl) Try.func5 (by kernel_rfl)
    (of_decide_eq_true (by kernel_rfl)) (by unfold Func.isWrapper; first | (rw [if_pos (by decide +kernel)]; kernel_rfl) | (rw [if_neg (by decide +kernel)]; exact ⟨rfl, rfl⟩))
    (fun os started H enc _ => lifted os started H enc)

/-- ████ THE STATEMENT ████ -/
theorem proved : Rows.SpanNormalSaid := over
#print axioms proved
end Go.Proofs.Ytandgpkibpggnaa.spanNormal
