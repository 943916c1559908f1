/- Proved: frisketlaw07.SpanOthers returns true, and never panics. Conditions: none. -/
import Derived.Test.YtandgpkibpggnaaRows
import Derived.Test.YtandgpkibpggnaaT9
import Derived.WalkKit
import Derived.ProofKit
import Derived.OpenShut
import Derived.ShutString
import Derived.ChangeOld
import Derived.Below
set_option linter.all false
namespace Go.Proofs.Ytandgpkibpggnaa.spanOthers
open Go.ChangeShapes Go.WideShapes Go.ChangeAt Go.RowKit
open Vx

theorem own : ownKnob Try.prog.godebug = none := by kernel_rfl
theorem laidOut : laidOutB Try.prog = true := by kernel_rfl
theorem arr3 {n : Nat} {av : AV} (h : TyV Try.prog n 35 av) : ∃ p q r : Int, av = .agg [.int .i64 p, .int .i64 q, .int .i64 r] := by
  obtain ⟨cs, rfl, hl, hf⟩ := h.array Try.underlying35
  have c35 : Try.prog.cellsOf 35 = 3 := by kernel_rfl
  have c3 : Try.prog.cellsOf 3 = 1 := by kernel_rfl
  rw [c35] at hl
  rw [c3] at hf
  match cs, hl with
  | [x, y, z], _ =>
    obtain ⟨a, ha, _⟩ := Ty.int_inv Try.underlying3 (hf 0 (by decide))
    obtain ⟨b, hb, _⟩ := Ty.int_inv Try.underlying3 (hf 1 (by decide))
    obtain ⟨c, hc, _⟩ := Ty.int_inv Try.underlying3 (hf 2 (by decide))
    simp at ha hb hc
    exact ⟨a, b, c, by rw [ha, hb, hc]⟩
theorem spec (avs : List AV) (h : TyArgs Try.prog 4 [22, 3, 35] avs) : FSpec Try.prog 7 avs [] (fun r H' => r = .bool true ∧ H' = []) := by
  obtain ⟨a0, r0, rfl, t0, h⟩ := h.cons
  obtain ⟨a1, r1, rfl, t1, h⟩ := h.cons
  obtain ⟨a2, r2, rfl, t2, h⟩ := h.cons
  obtain rfl := h.nil
  obtain ⟨n, g, s0, hn, hg⟩ := spans t0
  obtain ⟨z, rfl, _⟩ := t1.int Try.underlying3
  obtain ⟨p, q, r, rfl⟩ := arr3 t2
  exact (f7_ok n hn g hg z p q r).sub ⟨s0, Sub.refl _, Sub.refl _, trivial⟩
set_option maxRecDepth 100000 in
theorem lifted (os : Os) (started : os.Started) (H : Type) (enc : TypeId × Value → H) :
    ReturnsInHanded {} Try.checked os 7 .any (Rows.spanOthersSpec.pre6 enc Try.prog Try.f7 Rows.spanOthersRow.domain false) (Rows.spanOthersSpec.post enc Try.prog Try.f7 false true false false) := by
  refine law_lift (C := Try.checked) (tb := 4) 4 own started (by kernel_rfl) Try.func7 laidOut
    (ChangeSpec.witness6 (enc := enc) (C := Try.checked) false ⟨#[], #[.slice none 0 0, .int .i64 0, .agg #[.int .i64 0, .int .i64 0, .int .i64 0]], []⟩ 8 (by kernel_rfl) (by kernel_rfl) (by kernel_rfl) (by kernel_rfl))
    rfl (by kernel_rfl) Try.underlying4 (by kernel_rfl) (by kernel_rfl) ?_ ?_
  · intro ds hd
    rw [Try.params7] at hd
    match ds, hd with
    | [a, b, c], _ => rfl
  · intro avs h
    rw [Try.params7] at h
    exact spec avs h

theorem over : Rows.spanOthersRow.holds Try.pinned (OpenSpec.ofChange Rows.spanOthersSpec) :=
  OpenClaim.holds_of_wide 7 Try.f7 rfl rfl rfl rfl rfl rfl rfl ⟨rfl, rfl, rfl, rfl, rfl⟩ rfl rfl rfl rfl rfl (by kernel_rfl) Try.func7 (by kernel_rfl)
    (of_decide_eq_true (by kernel_rfl)) (by unfold Func.isWrapper; first | (rw [if_pos (by decide +kernel)]; kernel_rfl) | (rw [if_neg (by decide +kernel)]; exact ⟨rfl, rfl⟩))
    (fun os started H enc _ => lifted os started H enc)

/-- ████ THE STATEMENT ████ -/
theorem proved : Rows.SpanOthersSaid := over
#print axioms proved
end Go.Proofs.Ytandgpkibpggnaa.spanOthers
