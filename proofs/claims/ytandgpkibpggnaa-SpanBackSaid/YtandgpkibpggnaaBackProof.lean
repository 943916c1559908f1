/- Proved: frisketlaw07.SpanBack returns true, and never panics. Conditions: none. -/
import Derived.Test.YtandgpkibpggnaaRows
import Derived.Test.YtandgpkibpggnaaT9
import Derived.WalkKit
import Derived.ProofKit
import Derived.OpenShut
import Derived.ShutString
import Derived.ChangeOld
import Derived.Below
set_option linter.all false
namespace Go.Proofs.Ytandgpkibpggnaa.spanBack
open Go.ChangeShapes Go.WideShapes Go.ChangeAt Go.RowKit
open Vx

theorem own : ownKnob Try.prog.godebug = none := by kernel_rfl
theorem laidOut : laidOutB Try.prog = true := by kernel_rfl
theorem arr2 {n : Nat} {av : AV} (h : TyV Try.prog n 38 av) : ∃ p q : Int, av = .agg [.int .i64 p, .int .i64 q] := by
  obtain ⟨cs, rfl, hl, hf⟩ := h.array Try.underlying38
  have c38 : Try.prog.cellsOf 38 = 2 := by kernel_rfl
  have c3 : Try.prog.cellsOf 3 = 1 := by kernel_rfl
  rw [c38] at hl
  rw [c3] at hf
  match cs, hl with
  | [x, y], _ =>
    obtain ⟨a, ha, _⟩ := Ty.int_inv Try.underlying3 (hf 0 (by decide))
    obtain ⟨b, hb, _⟩ := Ty.int_inv Try.underlying3 (hf 1 (by decide))
    simp at ha hb
    exact ⟨a, b, by rw [ha, hb]⟩
theorem spec (avs : List AV) (h : TyArgs Try.prog 4 [22, 3, 38] avs) : FSpec Try.prog 6 avs [] (fun r H' => r = .bool true ∧ H' = []) := by
  obtain ⟨a0, r0, rfl, t0, h⟩ := h.cons
  obtain ⟨a1, r1, rfl, t1, h⟩ := h.cons
  obtain ⟨a2, r2, rfl, t2, h⟩ := h.cons
  obtain rfl := h.nil
  obtain ⟨n, g, s0, hn, hg⟩ := spans t0
  obtain ⟨z, rfl, _⟩ := t1.int Try.underlying3
  obtain ⟨p, q, rfl⟩ := arr2 t2
  exact (f6_ok n hn g hg z p q).sub ⟨s0, Sub.refl _, Sub.refl _, trivial⟩
set_option maxRecDepth 100000 in
theorem lifted (os : Os) (started : os.Started) (H : Type) (enc : TypeId × Value → H) :
    ReturnsInHanded {} Try.checked os 6 .any (Rows.spanBackSpec.pre6 enc Try.prog Try.f6 Rows.spanBackRow.domain false) (Rows.spanBackSpec.post enc Try.prog Try.f6 false true false false) := by
  refine law_lift (C := Try.checked) (tb := 4) 4 own started (by kernel_rfl) Try.func6 laidOut
    (ChangeSpec.witness6 (enc := enc) (C := Try.checked) false ⟨#[], #[.slice none 0 0, .int .i64 0, .agg #[.int .i64 0, .int .i64 0]], []⟩ 8 (by kernel_rfl) (by kernel_rfl) (by kernel_rfl) (by kernel_rfl))
    rfl (by kernel_rfl) Try.underlying4 (by kernel_rfl) (by kernel_rfl) ?_ ?_
  · intro ds hd
    rw [Try.params6] at hd
    match ds, hd with
    | [a, b, c], _ => rfl
  · intro avs h
    rw [Try.params6] at h
    exact spec avs h

theorem over : Rows.spanBackRow.holds Try.pinned (OpenSpec.ofChange Rows.spanBackSpec) :=
  OpenClaim.holds_of_wide 6 Try.f6 rfl rfl rfl rfl rfl rfl rfl ⟨rfl, rfl, rfl, rfl, rfl⟩ rfl rfl rfl rfl rfl (by kernel_rfl) Try.func6 (by kernel_rfl)
    (of_decide_eq_true (by kernel_rfl)) (by unfold Func.isWrapper; first | (rw [if_pos (by decide +kernel)]; kernel_rfl) | (rw [if_neg (by decide +kernel)]; exact ⟨rfl, rfl⟩))
    (fun os started H enc _ => lifted os started H enc)

/-- ████ THE STATEMENT ████ -/
theorem proved : Rows.SpanBackSaid := over
#print axioms proved
end Go.Proofs.Ytandgpkibpggnaa.spanBack
