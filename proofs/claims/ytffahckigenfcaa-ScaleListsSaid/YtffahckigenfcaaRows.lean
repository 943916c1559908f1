/-
  No cell of these rows narrows 'for every input' (looked for: loops, veiled, ifaces, maps, wideKeys, modest, calm, conditions, laid).
  DERIVED. THE GIVEN ROWS OF THIS SEAT. 5 by the template 'for every input the law returns true; each argument reads behind the call as it read before'; 0 by the template 'total and deterministic' (their statements: YtffahckigenfcaaTotals.lean).
  GIVEN WITH THE SEED: the statements are not yours to turn. If you find one false, say at which input.
  Laid BY PROGRAM, IN A SANDBOX (cutbox-rows.mjs): the forced cells as the released guide's own fill.sh prints them over the translation c3b31e0c784dff0b… (all of the seat's roots in one cut). By AI agents, Wed Nov 11 2026. No macro, syntax, notation, axiom, sorry.
-/
import Derived.Test.YtffahckigenfcaaChecked
import GoSem.Claim
import GoSem.ClaimJoined
import GoSem.ClaimMapViews
import Derived.JoinedTies
import Derived.KernelRfl
namespace Go.Proofs.Ytffahckigenfcaa
/- THE CELL 'sum', in the pinned program and in every row, IS THE sha256 OF THE DUMP (.gsa) THAT YtffahckigenfcaaProg.lean LOADS. Nothing in Lean hashes anything: it is a label: what it is worth is what the hold of that sum in a sandbox is worth. -/
noncomputable def Try.pinned : Pinned := { name := "ytffahckigenfcaa", sum := "c3b31e0c784dff0b4f48ae63d1264e69a432165b88da9dd81e3713ad305713e6", checked := Try.checked }
namespace Rows
def none {H : Type} : Left H := { results := [], args := [] }

/-- 'frisketlaw04.ScaleTells': WHATEVER THE INPUT: true; the input reads as it did. -/
def scaleTellsSpec : ChangeSpec := { name := "scaleTells", fn := fun _ => fun
  | [d1, d2, d3] => { results := [.lit (.bool true)], args := [d1, d2, d3] }
  | _ => none }
def scaleTellsRow : OpenClaim := { program := "ytffahckigenfcaa", sum := "c3b31e0c784dff0b4f48ae63d1264e69a432165b88da9dd81e3713ad305713e6", func := "frisket/frisketlaw04.ScaleTells", spec := "scaleTells", inPlace := ["math.Float64frombits", "math.archCeil", "math.archFloor", "math.Float64bits", "math.archTrunc"], apart := false }
def ScaleTellsSaid : Prop := scaleTellsRow.holds Try.pinned (OpenSpec.ofChange scaleTellsSpec)

/-- ITS FALSE NEIGHBOUR: 'it returns false'. Refute it at one input. -/
def scaleTellsWrong : ChangeSpec := { name := "scaleTells", fn := fun _ => fun
  | [d1, d2, d3] => { results := [.lit (.bool false)], args := [d1, d2, d3] }
  | _ => none }
def ScaleTellsWrongFalsely : Prop := scaleTellsRow.holds Try.pinned (OpenSpec.ofChange scaleTellsWrong)

/-- 'frisketlaw04.ScaleOrder': WHATEVER THE INPUT: true; the input reads as it did. -/
def scaleOrderSpec : ChangeSpec := { name := "scaleOrder", fn := fun _ => fun
  | [d1, d2, d3] => { results := [.lit (.bool true)], args := [d1, d2, d3] }
  | _ => none }
def scaleOrderRow : OpenClaim := { program := "ytffahckigenfcaa", sum := "c3b31e0c784dff0b4f48ae63d1264e69a432165b88da9dd81e3713ad305713e6", func := "frisket/frisketlaw04.ScaleOrder", spec := "scaleOrder", inPlace := ["math.Float64frombits", "math.Float64bits", "math.archCeil", "math.archFloor", "math.archTrunc"], apart := false }
def ScaleOrderSaid : Prop := scaleOrderRow.holds Try.pinned (OpenSpec.ofChange scaleOrderSpec)

/-- ITS FALSE NEIGHBOUR: 'it returns false'. Refute it at one input. -/
def scaleOrderWrong : ChangeSpec := { name := "scaleOrder", fn := fun _ => fun
  | [d1, d2, d3] => { results := [.lit (.bool false)], args := [d1, d2, d3] }
  | _ => none }
def ScaleOrderWrongFalsely : Prop := scaleOrderRow.holds Try.pinned (OpenSpec.ofChange scaleOrderWrong)

/-- 'frisketlaw04.ScaleCells': WHATEVER THE INPUT: true; the input reads as it did. -/
def scaleCellsSpec : ChangeSpec := { name := "scaleCells", fn := fun _ => fun
  | [d1, d2, d3] => { results := [.lit (.bool true)], args := [d1, d2, d3] }
  | _ => none }
def scaleCellsRow : OpenClaim := { program := "ytffahckigenfcaa", sum := "c3b31e0c784dff0b4f48ae63d1264e69a432165b88da9dd81e3713ad305713e6", func := "frisket/frisketlaw04.ScaleCells", spec := "scaleCells", inPlace := ["math.Float64bits", "math.Float64frombits", "math.archCeil", "math.archFloor", "math.archTrunc"], apart := false }
def ScaleCellsSaid : Prop := scaleCellsRow.holds Try.pinned (OpenSpec.ofChange scaleCellsSpec)

/-- ITS FALSE NEIGHBOUR: 'it returns false'. Refute it at one input. -/
def scaleCellsWrong : ChangeSpec := { name := "scaleCells", fn := fun _ => fun
  | [d1, d2, d3] => { results := [.lit (.bool false)], args := [d1, d2, d3] }
  | _ => none }
def ScaleCellsWrongFalsely : Prop := scaleCellsRow.holds Try.pinned (OpenSpec.ofChange scaleCellsWrong)

/-- 'frisketlaw04.ScaleWhole': WHATEVER THE INPUT: true; the input reads as it did. -/
def scaleWholeSpec : ChangeSpec := { name := "scaleWhole", fn := fun _ => fun
  | [d1, d2] => { results := [.lit (.bool true)], args := [d1, d2] }
  | _ => none }
def scaleWholeRow : OpenClaim := { program := "ytffahckigenfcaa", sum := "c3b31e0c784dff0b4f48ae63d1264e69a432165b88da9dd81e3713ad305713e6", func := "frisket/frisketlaw04.ScaleWhole", spec := "scaleWhole", inPlace := ["math.Float64bits", "math.Float64frombits", "math.archCeil", "math.archFloor", "math.archTrunc"], apart := false }
def ScaleWholeSaid : Prop := scaleWholeRow.holds Try.pinned (OpenSpec.ofChange scaleWholeSpec)

/-- ITS FALSE NEIGHBOUR: 'it returns false'. Refute it at one input. -/
def scaleWholeWrong : ChangeSpec := { name := "scaleWhole", fn := fun _ => fun
  | [d1, d2] => { results := [.lit (.bool false)], args := [d1, d2] }
  | _ => none }
def ScaleWholeWrongFalsely : Prop := scaleWholeRow.holds Try.pinned (OpenSpec.ofChange scaleWholeWrong)

/-- 'frisketlaw04.ScaleLists': WHATEVER THE INPUT: true; the input reads as it did. -/
def scaleListsSpec : ChangeSpec := { name := "scaleLists", fn := fun _ => fun
  | [d] => { results := [.lit (.bool true)], args := [d] }
  | _ => none }
def scaleListsRow : OpenClaim := { program := "ytffahckigenfcaa", sum := "c3b31e0c784dff0b4f48ae63d1264e69a432165b88da9dd81e3713ad305713e6", func := "frisket/frisketlaw04.ScaleLists", spec := "scaleLists", inPlace := ["math.Float64frombits", "math.archCeil", "math.archFloor", "math.Float64bits", "math.archTrunc"], unfollowed := true, recurses := true, apart := false }
def ScaleListsSaid : Prop := scaleListsRow.holds Try.pinned (OpenSpec.ofChange scaleListsSpec)

/-- ITS FALSE NEIGHBOUR: 'it returns false'. Refute it at one input. -/
def scaleListsWrong : ChangeSpec := { name := "scaleLists", fn := fun _ => fun
  | [d] => { results := [.lit (.bool false)], args := [d] }
  | _ => none }
def ScaleListsWrongFalsely : Prop := scaleListsRow.holds Try.pinned (OpenSpec.ofChange scaleListsWrong)

/- THE SECOND FORM. 'bulk': how many values and letters a reading holds, each counted each time it is reached (what is shared counts as often as it is met; a slice's spare places count too). A statement '..UptoSaid' is the law's where the arguments, and the package variables that the reading takes, are together of bulk at most 1048576: NARROWER than '..Said'. Prove '..Said' where nothing that the law and all that it calls make is longer than what came in: it says more and counts as full. Else prove '..UptoSaid'. A law counts once. -/
mutual
def uptoBulk {H : Type} : DataW H → Nat
  | .lit (.string bytes) => bytes.length + 1
  | .lit _ => 1
  | .nil => 1
  | .ptr d => uptoBulk d + 1
  | .slice elems spare => uptoBulkAll elems + uptoBulkAll spare + 1
  | .agg parts => uptoBulkAll parts + 1
  | .iface _ d => uptoBulk d + 1
  | .map entries => uptoBulkEntries entries + 1
  | .held _ => 1
def uptoBulkAll {H : Type} : List (DataW H) → Nat
  | [] => 0
  | d :: r => uptoBulk d + uptoBulkAll r
def uptoBulkEntries {H : Type} : List (Lit × DataW H) → Nat
  | [] => 0
  | x :: r => uptoBulkEntry x + uptoBulkEntries r
def uptoBulkEntry {H : Type} : Lit × DataW H → Nat
  | (.string bytes, d) => bytes.length + uptoBulk d + 1
  | (_, d) => uptoBulk d + 1
 end
def uptoSmall : (H : Type) → List (DataW H) → Bool := fun _ ds => decide (uptoBulkAll ds ≤ 1048576)
def OpenSpec.upto (s : _root_.Go.ChangeSpec) : _root_.Go.OpenSpec := { _root_.Go.OpenSpec.ofChange s with cond := some uptoSmall }

/-- 'frisketlaw04.ScaleTells', WHERE WHAT IT READS IS OF BULK AT MOST 1048576: true; the input reads as it did. -/
def scaleTellsUptoRow : OpenClaim := { program := "ytffahckigenfcaa", sum := "c3b31e0c784dff0b4f48ae63d1264e69a432165b88da9dd81e3713ad305713e6", func := "frisket/frisketlaw04.ScaleTells", spec := "scaleTells", inPlace := ["math.Float64frombits", "math.archCeil", "math.archFloor", "math.Float64bits", "math.archTrunc"], apart := false, narrowed := true }
def ScaleTellsUptoSaid : Prop := scaleTellsUptoRow.holds Try.pinned (OpenSpec.upto scaleTellsSpec)

/-- 'frisketlaw04.ScaleOrder', WHERE WHAT IT READS IS OF BULK AT MOST 1048576: true; the input reads as it did. -/
def scaleOrderUptoRow : OpenClaim := { program := "ytffahckigenfcaa", sum := "c3b31e0c784dff0b4f48ae63d1264e69a432165b88da9dd81e3713ad305713e6", func := "frisket/frisketlaw04.ScaleOrder", spec := "scaleOrder", inPlace := ["math.Float64frombits", "math.Float64bits", "math.archCeil", "math.archFloor", "math.archTrunc"], apart := false, narrowed := true }
def ScaleOrderUptoSaid : Prop := scaleOrderUptoRow.holds Try.pinned (OpenSpec.upto scaleOrderSpec)

/-- 'frisketlaw04.ScaleCells', WHERE WHAT IT READS IS OF BULK AT MOST 1048576: true; the input reads as it did. -/
def scaleCellsUptoRow : OpenClaim := { program := "ytffahckigenfcaa", sum := "c3b31e0c784dff0b4f48ae63d1264e69a432165b88da9dd81e3713ad305713e6", func := "frisket/frisketlaw04.ScaleCells", spec := "scaleCells", inPlace := ["math.Float64bits", "math.Float64frombits", "math.archCeil", "math.archFloor", "math.archTrunc"], apart := false, narrowed := true }
def ScaleCellsUptoSaid : Prop := scaleCellsUptoRow.holds Try.pinned (OpenSpec.upto scaleCellsSpec)

/-- 'frisketlaw04.ScaleWhole', WHERE WHAT IT READS IS OF BULK AT MOST 1048576: true; the input reads as it did. -/
def scaleWholeUptoRow : OpenClaim := { program := "ytffahckigenfcaa", sum := "c3b31e0c784dff0b4f48ae63d1264e69a432165b88da9dd81e3713ad305713e6", func := "frisket/frisketlaw04.ScaleWhole", spec := "scaleWhole", inPlace := ["math.Float64bits", "math.Float64frombits", "math.archCeil", "math.archFloor", "math.archTrunc"], apart := false, narrowed := true }
def ScaleWholeUptoSaid : Prop := scaleWholeUptoRow.holds Try.pinned (OpenSpec.upto scaleWholeSpec)

/-- 'frisketlaw04.ScaleLists', WHERE WHAT IT READS IS OF BULK AT MOST 1048576: true; the input reads as it did. -/
def scaleListsUptoRow : OpenClaim := { program := "ytffahckigenfcaa", sum := "c3b31e0c784dff0b4f48ae63d1264e69a432165b88da9dd81e3713ad305713e6", func := "frisket/frisketlaw04.ScaleLists", spec := "scaleLists", inPlace := ["math.Float64frombits", "math.archCeil", "math.archFloor", "math.Float64bits", "math.archTrunc"], unfollowed := true, recurses := true, apart := false, narrowed := true }
def ScaleListsUptoSaid : Prop := scaleListsUptoRow.holds Try.pinned (OpenSpec.upto scaleListsSpec)

end Rows
end Go.Proofs.Ytffahckigenfcaa
