/-
  No cell of these rows narrows 'for every input' (looked for: loops, veiled, ifaces, maps, wideKeys, modest, calm, conditions, laid).
  DERIVED. THE GIVEN ROWS OF THIS SEAT. 9 by the template 'for every input the law returns true; each argument reads behind the call as it read before'; 0 by the template 'total and deterministic' (their statements: YtkhnmonbielapaaTotals.lean).
  GIVEN WITH THE SEED: the statements are not yours to turn. If you find one false, say at which input.
  Laid BY PROGRAM, IN A SANDBOX (cutbox-rows.mjs): the forced cells as the released guide's own fill.sh prints them over the translation bf2911bc877823ae… (all of the seat's roots in one cut). By AI agents, Wed Nov 11 2026. No macro, syntax, notation, axiom, sorry.
-/
import Derived.Test.YtkhnmonbielapaaChecked
import GoSem.Claim
import GoSem.ClaimJoined
import GoSem.ClaimMapViews
import Derived.JoinedTies
import Derived.KernelRfl
namespace Go.Proofs.Ytkhnmonbielapaa
/- THE CELL 'sum', in the pinned program and in every row, IS THE sha256 OF THE DUMP (.gsa) THAT YtkhnmonbielapaaProg.lean LOADS. Nothing in Lean hashes anything: it is a label: what it is worth is what the hold of that sum in a sandbox is worth. -/
noncomputable def Try.pinned : Pinned := { name := "ytkhnmonbielapaa", sum := "bf2911bc877823ae2f33a35cf2baa718200a69f8ffb6701d7f1bebb995d7d214", checked := Try.checked }
namespace Rows
def none {H : Type} : Left H := { results := [], args := [] }

/-- 'wayfinderlaw05.SegmentEnters': WHATEVER THE INPUT: true; the input reads as it did. -/
def segmentEntersSpec : ChangeSpec := { name := "segmentEnters", fn := fun _ => fun
  | [d1, d2] => { results := [.lit (.bool true)], args := [d1, d2] }
  | _ => none }
def segmentEntersRow : OpenClaim := { program := "ytkhnmonbielapaa", sum := "bf2911bc877823ae2f33a35cf2baa718200a69f8ffb6701d7f1bebb995d7d214", func := "wayfinder/wayfinderlaw05.SegmentEnters", spec := "segmentEnters", recurses := true, apart := false }
def SegmentEntersSaid : Prop := segmentEntersRow.holds Try.pinned (OpenSpec.ofChange segmentEntersSpec)

/-- ITS FALSE NEIGHBOUR: 'it returns false'. Refute it at one input. -/
def segmentEntersWrong : ChangeSpec := { name := "segmentEnters", fn := fun _ => fun
  | [d1, d2] => { results := [.lit (.bool false)], args := [d1, d2] }
  | _ => none }
def SegmentEntersWrongFalsely : Prop := segmentEntersRow.holds Try.pinned (OpenSpec.ofChange segmentEntersWrong)

/-- 'wayfinderlaw05.SegmentMoves': WHATEVER THE INPUT: true; the input reads as it did. -/
def segmentMovesSpec : ChangeSpec := { name := "segmentMoves", fn := fun _ => fun
  | [d1, d2, d3] => { results := [.lit (.bool true)], args := [d1, d2, d3] }
  | _ => none }
def segmentMovesRow : OpenClaim := { program := "ytkhnmonbielapaa", sum := "bf2911bc877823ae2f33a35cf2baa718200a69f8ffb6701d7f1bebb995d7d214", func := "wayfinder/wayfinderlaw05.SegmentMoves", spec := "segmentMoves", apart := false }
def SegmentMovesSaid : Prop := segmentMovesRow.holds Try.pinned (OpenSpec.ofChange segmentMovesSpec)

/-- ITS FALSE NEIGHBOUR: 'it returns false'. Refute it at one input. -/
def segmentMovesWrong : ChangeSpec := { name := "segmentMoves", fn := fun _ => fun
  | [d1, d2, d3] => { results := [.lit (.bool false)], args := [d1, d2, d3] }
  | _ => none }
def SegmentMovesWrongFalsely : Prop := segmentMovesRow.holds Try.pinned (OpenSpec.ofChange segmentMovesWrong)

/-- 'wayfinderlaw05.SegmentMeets': WHATEVER THE INPUT: true; the input reads as it did. -/
def segmentMeetsSpec : ChangeSpec := { name := "segmentMeets", fn := fun _ => fun
  | [d1, d2, d3] => { results := [.lit (.bool true)], args := [d1, d2, d3] }
  | _ => none }
def segmentMeetsRow : OpenClaim := { program := "ytkhnmonbielapaa", sum := "bf2911bc877823ae2f33a35cf2baa718200a69f8ffb6701d7f1bebb995d7d214", func := "wayfinder/wayfinderlaw05.SegmentMeets", spec := "segmentMeets", recurses := true, apart := false }
def SegmentMeetsSaid : Prop := segmentMeetsRow.holds Try.pinned (OpenSpec.ofChange segmentMeetsSpec)

/-- ITS FALSE NEIGHBOUR: 'it returns false'. Refute it at one input. -/
def segmentMeetsWrong : ChangeSpec := { name := "segmentMeets", fn := fun _ => fun
  | [d1, d2, d3] => { results := [.lit (.bool false)], args := [d1, d2, d3] }
  | _ => none }
def SegmentMeetsWrongFalsely : Prop := segmentMeetsRow.holds Try.pinned (OpenSpec.ofChange segmentMeetsWrong)

/-- 'wayfinderlaw05.SegmentMinuses': WHATEVER THE INPUT: true; the input reads as it did. -/
def segmentMinusesSpec : ChangeSpec := { name := "segmentMinuses", fn := fun _ => fun
  | [d1, d2, d3] => { results := [.lit (.bool true)], args := [d1, d2, d3] }
  | _ => none }
def segmentMinusesRow : OpenClaim := { program := "ytkhnmonbielapaa", sum := "bf2911bc877823ae2f33a35cf2baa718200a69f8ffb6701d7f1bebb995d7d214", func := "wayfinder/wayfinderlaw05.SegmentMinuses", spec := "segmentMinuses", apart := false }
def SegmentMinusesSaid : Prop := segmentMinusesRow.holds Try.pinned (OpenSpec.ofChange segmentMinusesSpec)

/-- ITS FALSE NEIGHBOUR: 'it returns false'. Refute it at one input. -/
def segmentMinusesWrong : ChangeSpec := { name := "segmentMinuses", fn := fun _ => fun
  | [d1, d2, d3] => { results := [.lit (.bool false)], args := [d1, d2, d3] }
  | _ => none }
def SegmentMinusesWrongFalsely : Prop := segmentMinusesRow.holds Try.pinned (OpenSpec.ofChange segmentMinusesWrong)

/-- 'wayfinderlaw05.SegmentOrders': WHATEVER THE INPUT: true; the input reads as it did. -/
def segmentOrdersSpec : ChangeSpec := { name := "segmentOrders", fn := fun _ => fun
  | [d1, d2, d3] => { results := [.lit (.bool true)], args := [d1, d2, d3] }
  | _ => none }
def segmentOrdersRow : OpenClaim := { program := "ytkhnmonbielapaa", sum := "bf2911bc877823ae2f33a35cf2baa718200a69f8ffb6701d7f1bebb995d7d214", func := "wayfinder/wayfinderlaw05.SegmentOrders", spec := "segmentOrders", apart := false }
def SegmentOrdersSaid : Prop := segmentOrdersRow.holds Try.pinned (OpenSpec.ofChange segmentOrdersSpec)

/-- ITS FALSE NEIGHBOUR: 'it returns false'. Refute it at one input. -/
def segmentOrdersWrong : ChangeSpec := { name := "segmentOrders", fn := fun _ => fun
  | [d1, d2, d3] => { results := [.lit (.bool false)], args := [d1, d2, d3] }
  | _ => none }
def SegmentOrdersWrongFalsely : Prop := segmentOrdersRow.holds Try.pinned (OpenSpec.ofChange segmentOrdersWrong)

/-- 'wayfinderlaw05.SegmentPoints': WHATEVER THE INPUT: true; the input reads as it did. -/
def segmentPointsSpec : ChangeSpec := { name := "segmentPoints", fn := fun _ => fun
  | [d1, d2, d3] => { results := [.lit (.bool true)], args := [d1, d2, d3] }
  | _ => none }
def segmentPointsRow : OpenClaim := { program := "ytkhnmonbielapaa", sum := "bf2911bc877823ae2f33a35cf2baa718200a69f8ffb6701d7f1bebb995d7d214", func := "wayfinder/wayfinderlaw05.SegmentPoints", spec := "segmentPoints", apart := false }
def SegmentPointsSaid : Prop := segmentPointsRow.holds Try.pinned (OpenSpec.ofChange segmentPointsSpec)

/-- ITS FALSE NEIGHBOUR: 'it returns false'. Refute it at one input. -/
def segmentPointsWrong : ChangeSpec := { name := "segmentPoints", fn := fun _ => fun
  | [d1, d2, d3] => { results := [.lit (.bool false)], args := [d1, d2, d3] }
  | _ => none }
def SegmentPointsWrongFalsely : Prop := segmentPointsRow.holds Try.pinned (OpenSpec.ofChange segmentPointsWrong)

/-- 'wayfinderlaw05.SegmentCrosses': WHATEVER THE INPUT: true; the input reads as it did. -/
def segmentCrossesSpec : ChangeSpec := { name := "segmentCrosses", fn := fun _ => fun
  | [d] => { results := [.lit (.bool true)], args := [d] }
  | _ => none }
def segmentCrossesRow : OpenClaim := { program := "ytkhnmonbielapaa", sum := "bf2911bc877823ae2f33a35cf2baa718200a69f8ffb6701d7f1bebb995d7d214", func := "wayfinder/wayfinderlaw05.SegmentCrosses", spec := "segmentCrosses", apart := false }
def SegmentCrossesSaid : Prop := segmentCrossesRow.holds Try.pinned (OpenSpec.ofChange segmentCrossesSpec)

/-- ITS FALSE NEIGHBOUR: 'it returns false'. Refute it at one input. -/
def segmentCrossesWrong : ChangeSpec := { name := "segmentCrosses", fn := fun _ => fun
  | [d] => { results := [.lit (.bool false)], args := [d] }
  | _ => none }
def SegmentCrossesWrongFalsely : Prop := segmentCrossesRow.holds Try.pinned (OpenSpec.ofChange segmentCrossesWrong)

/-- 'wayfinderlaw05.SegmentTouches': WHATEVER THE INPUT: true; the input reads as it did. -/
def segmentTouchesSpec : ChangeSpec := { name := "segmentTouches", fn := fun _ => fun
  | [d1, d2, d3] => { results := [.lit (.bool true)], args := [d1, d2, d3] }
  | _ => none }
def segmentTouchesRow : OpenClaim := { program := "ytkhnmonbielapaa", sum := "bf2911bc877823ae2f33a35cf2baa718200a69f8ffb6701d7f1bebb995d7d214", func := "wayfinder/wayfinderlaw05.SegmentTouches", spec := "segmentTouches", apart := false }
def SegmentTouchesSaid : Prop := segmentTouchesRow.holds Try.pinned (OpenSpec.ofChange segmentTouchesSpec)

/-- ITS FALSE NEIGHBOUR: 'it returns false'. Refute it at one input. -/
def segmentTouchesWrong : ChangeSpec := { name := "segmentTouches", fn := fun _ => fun
  | [d1, d2, d3] => { results := [.lit (.bool false)], args := [d1, d2, d3] }
  | _ => none }
def SegmentTouchesWrongFalsely : Prop := segmentTouchesRow.holds Try.pinned (OpenSpec.ofChange segmentTouchesWrong)

/-- 'wayfinderlaw05.SegmentRadii': WHATEVER THE INPUT: true; the input reads as it did. -/
def segmentRadiiSpec : ChangeSpec := { name := "segmentRadii", fn := fun _ => fun
  | [d1, d2, d3] => { results := [.lit (.bool true)], args := [d1, d2, d3] }
  | _ => none }
def segmentRadiiRow : OpenClaim := { program := "ytkhnmonbielapaa", sum := "bf2911bc877823ae2f33a35cf2baa718200a69f8ffb6701d7f1bebb995d7d214", func := "wayfinder/wayfinderlaw05.SegmentRadii", spec := "segmentRadii", apart := false }
def SegmentRadiiSaid : Prop := segmentRadiiRow.holds Try.pinned (OpenSpec.ofChange segmentRadiiSpec)

/-- ITS FALSE NEIGHBOUR: 'it returns false'. Refute it at one input. -/
def segmentRadiiWrong : ChangeSpec := { name := "segmentRadii", fn := fun _ => fun
  | [d1, d2, d3] => { results := [.lit (.bool false)], args := [d1, d2, d3] }
  | _ => none }
def SegmentRadiiWrongFalsely : Prop := segmentRadiiRow.holds Try.pinned (OpenSpec.ofChange segmentRadiiWrong)

/- THE SECOND FORM. 'bulk': how many values and letters a reading holds, each counted each time it is reached (what is shared counts as often as it is met; a slice's spare places count too). A statement '..UptoSaid' is the law's where the arguments, and the package variables that the reading takes, are together of bulk at most 1048576: NARROWER than '..Said'. Prove '..Said' where nothing that the law and all that it calls make is longer than what came in: it says more and counts as full. Else prove '..UptoSaid'. A law counts once. -/
mutual
def uptoBulk {H : Type} : DataW H → Nat
  | .lit (.string bytes) => bytes.length + 1
  | .lit _ => 1
  | .nil => 1
  | .ptr d => uptoBulk d + 1
  | .slice elems spare => uptoBulkAll elems + uptoBulkAll spare + 1
  | .agg parts => uptoBulkAll parts + 1
  | .iface _ d => uptoBulk d + 1
  | .map entries => uptoBulkEntries entries + 1
  | .held _ => 1
def uptoBulkAll {H : Type} : List (DataW H) → Nat
  | [] => 0
  | d :: r => uptoBulk d + uptoBulkAll r
def uptoBulkEntries {H : Type} : List (Lit × DataW H) → Nat
  | [] => 0
  | x :: r => uptoBulkEntry x + uptoBulkEntries r
def uptoBulkEntry {H : Type} : Lit × DataW H → Nat
  | (.string bytes, d) => bytes.length + uptoBulk d + 1
  | (_, d) => uptoBulk d + 1
 end
def uptoSmall : (H : Type) → List (DataW H) → Bool := fun _ ds => decide (uptoBulkAll ds ≤ 1048576)
def OpenSpec.upto (s : _root_.Go.ChangeSpec) : _root_.Go.OpenSpec := { _root_.Go.OpenSpec.ofChange s with cond := some uptoSmall }

/-- 'wayfinderlaw05.SegmentEnters', WHERE WHAT IT READS IS OF BULK AT MOST 1048576: true; the input reads as it did. -/
def segmentEntersUptoRow : OpenClaim := { program := "ytkhnmonbielapaa", sum := "bf2911bc877823ae2f33a35cf2baa718200a69f8ffb6701d7f1bebb995d7d214", func := "wayfinder/wayfinderlaw05.SegmentEnters", spec := "segmentEnters", recurses := true, apart := false, narrowed := true }
def SegmentEntersUptoSaid : Prop := segmentEntersUptoRow.holds Try.pinned (OpenSpec.upto segmentEntersSpec)

/-- 'wayfinderlaw05.SegmentMoves', WHERE WHAT IT READS IS OF BULK AT MOST 1048576: true; the input reads as it did. -/
def segmentMovesUptoRow : OpenClaim := { program := "ytkhnmonbielapaa", sum := "bf2911bc877823ae2f33a35cf2baa718200a69f8ffb6701d7f1bebb995d7d214", func := "wayfinder/wayfinderlaw05.SegmentMoves", spec := "segmentMoves", apart := false, narrowed := true }
def SegmentMovesUptoSaid : Prop := segmentMovesUptoRow.holds Try.pinned (OpenSpec.upto segmentMovesSpec)

/-- 'wayfinderlaw05.SegmentMeets', WHERE WHAT IT READS IS OF BULK AT MOST 1048576: true; the input reads as it did. -/
def segmentMeetsUptoRow : OpenClaim := { program := "ytkhnmonbielapaa", sum := "bf2911bc877823ae2f33a35cf2baa718200a69f8ffb6701d7f1bebb995d7d214", func := "wayfinder/wayfinderlaw05.SegmentMeets", spec := "segmentMeets", recurses := true, apart := false, narrowed := true }
def SegmentMeetsUptoSaid : Prop := segmentMeetsUptoRow.holds Try.pinned (OpenSpec.upto segmentMeetsSpec)

/-- 'wayfinderlaw05.SegmentMinuses', WHERE WHAT IT READS IS OF BULK AT MOST 1048576: true; the input reads as it did. -/
def segmentMinusesUptoRow : OpenClaim := { program := "ytkhnmonbielapaa", sum := "bf2911bc877823ae2f33a35cf2baa718200a69f8ffb6701d7f1bebb995d7d214", func := "wayfinder/wayfinderlaw05.SegmentMinuses", spec := "segmentMinuses", apart := false, narrowed := true }
def SegmentMinusesUptoSaid : Prop := segmentMinusesUptoRow.holds Try.pinned (OpenSpec.upto segmentMinusesSpec)

/-- 'wayfinderlaw05.SegmentOrders', WHERE WHAT IT READS IS OF BULK AT MOST 1048576: true; the input reads as it did. -/
def segmentOrdersUptoRow : OpenClaim := { program := "ytkhnmonbielapaa", sum := "bf2911bc877823ae2f33a35cf2baa718200a69f8ffb6701d7f1bebb995d7d214", func := "wayfinder/wayfinderlaw05.SegmentOrders", spec := "segmentOrders", apart := false, narrowed := true }
def SegmentOrdersUptoSaid : Prop := segmentOrdersUptoRow.holds Try.pinned (OpenSpec.upto segmentOrdersSpec)

/-- 'wayfinderlaw05.SegmentPoints', WHERE WHAT IT READS IS OF BULK AT MOST 1048576: true; the input reads as it did. -/
def segmentPointsUptoRow : OpenClaim := { program := "ytkhnmonbielapaa", sum := "bf2911bc877823ae2f33a35cf2baa718200a69f8ffb6701d7f1bebb995d7d214", func := "wayfinder/wayfinderlaw05.SegmentPoints", spec := "segmentPoints", apart := false, narrowed := true }
def SegmentPointsUptoSaid : Prop := segmentPointsUptoRow.holds Try.pinned (OpenSpec.upto segmentPointsSpec)

/-- 'wayfinderlaw05.SegmentCrosses', WHERE WHAT IT READS IS OF BULK AT MOST 1048576: true; the input reads as it did. -/
def segmentCrossesUptoRow : OpenClaim := { program := "ytkhnmonbielapaa", sum := "bf2911bc877823ae2f33a35cf2baa718200a69f8ffb6701d7f1bebb995d7d214", func := "wayfinder/wayfinderlaw05.SegmentCrosses", spec := "segmentCrosses", apart := false, narrowed := true }
def SegmentCrossesUptoSaid : Prop := segmentCrossesUptoRow.holds Try.pinned (OpenSpec.upto segmentCrossesSpec)

/-- 'wayfinderlaw05.SegmentTouches', WHERE WHAT IT READS IS OF BULK AT MOST 1048576: true; the input reads as it did. -/
def segmentTouchesUptoRow : OpenClaim := { program := "ytkhnmonbielapaa", sum := "bf2911bc877823ae2f33a35cf2baa718200a69f8ffb6701d7f1bebb995d7d214", func := "wayfinder/wayfinderlaw05.SegmentTouches", spec := "segmentTouches", apart := false, narrowed := true }
def SegmentTouchesUptoSaid : Prop := segmentTouchesUptoRow.holds Try.pinned (OpenSpec.upto segmentTouchesSpec)

/-- 'wayfinderlaw05.SegmentRadii', WHERE WHAT IT READS IS OF BULK AT MOST 1048576: true; the input reads as it did. -/
def segmentRadiiUptoRow : OpenClaim := { program := "ytkhnmonbielapaa", sum := "bf2911bc877823ae2f33a35cf2baa718200a69f8ffb6701d7f1bebb995d7d214", func := "wayfinder/wayfinderlaw05.SegmentRadii", spec := "segmentRadii", apart := false, narrowed := true }
def SegmentRadiiUptoSaid : Prop := segmentRadiiUptoRow.holds Try.pinned (OpenSpec.upto segmentRadiiSpec)

end Rows
end Go.Proofs.Ytkhnmonbielapaa
