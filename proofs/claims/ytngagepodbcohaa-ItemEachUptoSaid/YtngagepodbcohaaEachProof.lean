/- Proved: frisketlaw16.ItemEach returns true, and never panics, where what it reads is of bulk at most 1048576. Conditions: that bound. -/
import Derived.Test.YtngagepodbcohaaRows
import Derived.Test.YtngagepodbcohaaT9
import Derived.Test.YtngagepodbcohaaV4
import Derived.WalkKit
import Derived.ProofKit
import Derived.OpenShut
import Derived.ShutString
import Derived.ChangeOld
import Derived.Below
import Derived.JoinedCond
set_option linter.all false
namespace Go.Proofs.Ytngagepodbcohaa.itemEach
open Go.ChangeShapes Go.WideShapes Go.ChangeAt Go.RowKit
open Vx

theorem own : ownKnob Try.prog.godebug = none := by kernel_rfl
theorem laidOut : laidOutB Try.prog = true := by kernel_rfl
theorem bulkOne {H : Type} (d : DataW H) : 1 ≤ Rows.uptoBulk d := by
  cases d with
  | lit l => cases l <;> simp [Rows.uptoBulk]
  | _ => simp [Rows.uptoBulk]
theorem bulkPart {H : Type} (d : DataW H) (l : List (DataW H)) (h : d ∈ l) : Rows.uptoBulk d ≤ Rows.uptoBulkAll l := by
  induction l with
  | nil => cases h
  | cons x r ih =>
    simp only [Rows.uptoBulkAll]
    cases List.mem_cons.1 h with
    | inl e => subst e; omega
    | inr e => have := ih e; omega
theorem bulkLen {H : Type} (l : List (DataW H)) : l.length ≤ Rows.uptoBulkAll l := by
  induction l with
  | nil => simp [Rows.uptoBulkAll]
  | cons x r ih => have := bulkOne x; simp only [Rows.uptoBulkAll, List.length_cons]; omega
def bulk (H : Type) : Vx.U.Bulk H where
  blk := Rows.uptoBulk
  blkAll := Rows.uptoBulkAll
  str := fun bytes => by simp [Rows.uptoBulk]
  slice := fun elems spare => by simp only [Rows.uptoBulk]; omega
  agg := fun parts => by simp only [Rows.uptoBulk]; omega
  part := bulkPart
  len := bulkLen
set_option maxRecDepth 100000 in
theorem spec (avs : List AV) (h : Vx.U.TyArgs Try.prog 1048576 4 [25, 32] avs) : FSpec Try.prog 4 avs [] (fun r H' => r = .bool true ∧ H' = []) := by
  obtain ⟨a0, r0, rfl, t0, h⟩ := h.cons
  obtain ⟨a1, r1, rfl, t1, h⟩ := h.cons
  obtain rfl := h.nil
  obtain ⟨n, p, ns, l, s0, hn, hns, hl⟩ := textU t0
  obtain ⟨m, rfl, _⟩ := t1.int Try.underlying32
  exact (f4_ok n (by omega) p ns (by omega) l hl m).sub ⟨s0, Sub.refl _, trivial⟩
set_option maxRecDepth 100000 in
theorem lifted (os : Os) (started : os.Started) (H : Type) (enc : TypeId × Value → H) (F : Stop.Interp) :
    ReturnsInHanded {} Try.checked os 4 .any ((Rows.OpenSpec.upto Rows.itemEachSpec).pre6 enc Try.prog Try.f4 Rows.itemEachUptoRow.domain false) (((Rows.OpenSpec.upto Rows.itemEachSpec).at F).post enc Try.prog Try.f4 false true false false) := by
  refine Vx.U.law_lift (C := Try.checked) (tb := 4) (bulk H) (B := 1048576) (k := Rows.uptoSmall) (s0 := Rows.OpenSpec.upto Rows.itemEachSpec) (F := F) rfl (fun ds h => of_decide_eq_true h) 4 own started (by kernel_rfl) Try.func4 laidOut
    (OpenSpec.witness (enc := enc) (C := Try.checked) (s := Rows.OpenSpec.upto Rows.itemEachSpec) (k := Rows.uptoSmall) rfl false ⟨#[], #[.agg #[.slice none 0 0, .slice none 0 0], .int .i64 0], []⟩ 8 (by kernel_rfl) (by kernel_rfl) (by kernel_rfl)
      (x := ([.agg [.nil, .nil], .lit (.int .i64 0)], [], [])) (by kernel_rfl) rfl (by kernel_rfl))
    rfl rfl (by kernel_rfl) Try.underlying4 (by kernel_rfl) (by kernel_rfl) ?_ ?_
  · intro ds hd
    rw [Try.params4] at hd
    match ds, hd with
    | [a, b], _ => rfl
  · intro avs h
    rw [Try.params4] at h
    exact spec avs h

/-- ████ THE STATEMENT ████ -/
theorem proved : Rows.ItemEachUptoSaid :=
  OpenClaim.holds_of_cond 4 Try.f4 rfl rfl rfl rfl rfl rfl rfl ⟨rfl, rfl, rfl, rfl, rfl⟩ rfl rfl rfl rfl rfl (by kernel_rfl) Try.func4 (by kernel_rfl)
    (of_decide_eq_true (by kernel_rfl)) (by unfold Func.isWrapper; first | (rw [if_pos (by decide +kernel)]; kernel_rfl) | (rw [if_neg (by decide +kernel)]; exact ⟨rfl, rfl⟩))
    (fun os started H enc _ F => lifted os started H enc F)
#print axioms proved
end Go.Proofs.Ytngagepodbcohaa.itemEach

