/-
  No cell of these rows narrows 'for every input' (looked for: loops, veiled, ifaces, maps, wideKeys, modest, calm, conditions, laid).
  DERIVED. THE GIVEN ROWS OF THIS SEAT. 6 by the template 'for every input the law returns true; each argument reads behind the call as it read before'; 0 by the template 'total and deterministic' (their statements: YtilmnpkjlaamlaaTotals.lean).
  GIVEN WITH THE SEED: the statements are not yours to turn. If you find one false, say at which input.
  Laid BY PROGRAM, IN A SANDBOX (cutbox-rows.mjs): the forced cells as the released guide's own fill.sh prints them over the translation 7bb546828dfd3e3f… (all of the seat's roots in one cut). By AI agents, Wed Nov 11 2026. No macro, syntax, notation, axiom, sorry.
-/
import Derived.Test.YtilmnpkjlaamlaaChecked
import GoSem.Claim
import GoSem.ClaimJoined
import GoSem.ClaimMapViews
import Derived.JoinedTies
import Derived.KernelRfl
namespace Go.Proofs.Ytilmnpkjlaamlaa
/- THE CELL 'sum', in the pinned program and in every row, IS THE sha256 OF THE DUMP (.gsa) THAT YtilmnpkjlaamlaaProg.lean LOADS. Nothing in Lean hashes anything: it is a label: what it is worth is what the hold of that sum in a sandbox is worth. -/
noncomputable def Try.pinned : Pinned := { name := "ytilmnpkjlaamlaa", sum := "7bb546828dfd3e3f8c00969e586100d570f438ec0d1c710e75861a2226cf4b91", checked := Try.checked }
namespace Rows
def none {H : Type} : Left H := { results := [], args := [] }

/-- 'wayfinderlaw37.RepairBack': WHATEVER THE INPUT: true; the input reads as it did. -/
def repairBackSpec : ChangeSpec := { name := "repairBack", fn := fun _ => fun
  | [d1, d2, d3] => { results := [.lit (.bool true)], args := [d1, d2, d3] }
  | _ => none }
def repairBackRow : OpenClaim := { program := "ytilmnpkjlaamlaa", sum := "7bb546828dfd3e3f8c00969e586100d570f438ec0d1c710e75861a2226cf4b91", func := "wayfinder/wayfinderlaw37.RepairBack", spec := "repairBack", apart := false }
def RepairBackSaid : Prop := repairBackRow.holds Try.pinned (OpenSpec.ofChange repairBackSpec)

/-- ITS FALSE NEIGHBOUR: 'it returns false'. Refute it at one input. -/
def repairBackWrong : ChangeSpec := { name := "repairBack", fn := fun _ => fun
  | [d1, d2, d3] => { results := [.lit (.bool false)], args := [d1, d2, d3] }
  | _ => none }
def RepairBackWrongFalsely : Prop := repairBackRow.holds Try.pinned (OpenSpec.ofChange repairBackWrong)

/-- 'wayfinderlaw37.RepairMonotone': WHATEVER THE INPUT: true; the input reads as it did. -/
def repairMonotoneSpec : ChangeSpec := { name := "repairMonotone", fn := fun _ => fun
  | [d1, d2, d3] => { results := [.lit (.bool true)], args := [d1, d2, d3] }
  | _ => none }
def repairMonotoneRow : OpenClaim := { program := "ytilmnpkjlaamlaa", sum := "7bb546828dfd3e3f8c00969e586100d570f438ec0d1c710e75861a2226cf4b91", func := "wayfinder/wayfinderlaw37.RepairMonotone", spec := "repairMonotone", apart := false }
def RepairMonotoneSaid : Prop := repairMonotoneRow.holds Try.pinned (OpenSpec.ofChange repairMonotoneSpec)

/-- ITS FALSE NEIGHBOUR: 'it returns false'. Refute it at one input. -/
def repairMonotoneWrong : ChangeSpec := { name := "repairMonotone", fn := fun _ => fun
  | [d1, d2, d3] => { results := [.lit (.bool false)], args := [d1, d2, d3] }
  | _ => none }
def RepairMonotoneWrongFalsely : Prop := repairMonotoneRow.holds Try.pinned (OpenSpec.ofChange repairMonotoneWrong)

/-- 'wayfinderlaw37.RepairOrder': WHATEVER THE INPUT: true; the input reads as it did. -/
def repairOrderSpec : ChangeSpec := { name := "repairOrder", fn := fun _ => fun
  | [d1, d2, d3] => { results := [.lit (.bool true)], args := [d1, d2, d3] }
  | _ => none }
def repairOrderRow : OpenClaim := { program := "ytilmnpkjlaamlaa", sum := "7bb546828dfd3e3f8c00969e586100d570f438ec0d1c710e75861a2226cf4b91", func := "wayfinder/wayfinderlaw37.RepairOrder", spec := "repairOrder", apart := false }
def RepairOrderSaid : Prop := repairOrderRow.holds Try.pinned (OpenSpec.ofChange repairOrderSpec)

/-- ITS FALSE NEIGHBOUR: 'it returns false'. Refute it at one input. -/
def repairOrderWrong : ChangeSpec := { name := "repairOrder", fn := fun _ => fun
  | [d1, d2, d3] => { results := [.lit (.bool false)], args := [d1, d2, d3] }
  | _ => none }
def RepairOrderWrongFalsely : Prop := repairOrderRow.holds Try.pinned (OpenSpec.ofChange repairOrderWrong)

/-- 'wayfinderlaw37.RepairFresh': WHATEVER THE INPUT: true; the input reads as it did. -/
def repairFreshSpec : ChangeSpec := { name := "repairFresh", fn := fun _ => fun
  | [d1, d2, d3] => { results := [.lit (.bool true)], args := [d1, d2, d3] }
  | _ => none }
def repairFreshRow : OpenClaim := { program := "ytilmnpkjlaamlaa", sum := "7bb546828dfd3e3f8c00969e586100d570f438ec0d1c710e75861a2226cf4b91", func := "wayfinder/wayfinderlaw37.RepairFresh", spec := "repairFresh", apart := false }
def RepairFreshSaid : Prop := repairFreshRow.holds Try.pinned (OpenSpec.ofChange repairFreshSpec)

/-- ITS FALSE NEIGHBOUR: 'it returns false'. Refute it at one input. -/
def repairFreshWrong : ChangeSpec := { name := "repairFresh", fn := fun _ => fun
  | [d1, d2, d3] => { results := [.lit (.bool false)], args := [d1, d2, d3] }
  | _ => none }
def RepairFreshWrongFalsely : Prop := repairFreshRow.holds Try.pinned (OpenSpec.ofChange repairFreshWrong)

/-- 'wayfinderlaw37.RepairPlays': WHATEVER THE INPUT: true; the input reads as it did. -/
def repairPlaysSpec : ChangeSpec := { name := "repairPlays", fn := fun _ => fun
  | [d1, d2, d3] => { results := [.lit (.bool true)], args := [d1, d2, d3] }
  | _ => none }
def repairPlaysRow : OpenClaim := { program := "ytilmnpkjlaamlaa", sum := "7bb546828dfd3e3f8c00969e586100d570f438ec0d1c710e75861a2226cf4b91", func := "wayfinder/wayfinderlaw37.RepairPlays", spec := "repairPlays", apart := false }
def RepairPlaysSaid : Prop := repairPlaysRow.holds Try.pinned (OpenSpec.ofChange repairPlaysSpec)

/-- ITS FALSE NEIGHBOUR: 'it returns false'. Refute it at one input. -/
def repairPlaysWrong : ChangeSpec := { name := "repairPlays", fn := fun _ => fun
  | [d1, d2, d3] => { results := [.lit (.bool false)], args := [d1, d2, d3] }
  | _ => none }
def RepairPlaysWrongFalsely : Prop := repairPlaysRow.holds Try.pinned (OpenSpec.ofChange repairPlaysWrong)

/-- 'wayfinderlaw37.RepairClones': WHATEVER THE INPUT: true; the input reads as it did. -/
def repairClonesSpec : ChangeSpec := { name := "repairClones", fn := fun _ => fun
  | [d1, d2, d3] => { results := [.lit (.bool true)], args := [d1, d2, d3] }
  | _ => none }
def repairClonesRow : OpenClaim := { program := "ytilmnpkjlaamlaa", sum := "7bb546828dfd3e3f8c00969e586100d570f438ec0d1c710e75861a2226cf4b91", func := "wayfinder/wayfinderlaw37.RepairClones", spec := "repairClones", apart := false }
def RepairClonesSaid : Prop := repairClonesRow.holds Try.pinned (OpenSpec.ofChange repairClonesSpec)

/-- ITS FALSE NEIGHBOUR: 'it returns false'. Refute it at one input. -/
def repairClonesWrong : ChangeSpec := { name := "repairClones", fn := fun _ => fun
  | [d1, d2, d3] => { results := [.lit (.bool false)], args := [d1, d2, d3] }
  | _ => none }
def RepairClonesWrongFalsely : Prop := repairClonesRow.holds Try.pinned (OpenSpec.ofChange repairClonesWrong)

/- THE SECOND FORM. 'bulk': how many values and letters a reading holds, each counted each time it is reached (what is shared counts as often as it is met; a slice's spare places count too). A statement '..UptoSaid' is the law's where the arguments, and the package variables that the reading takes, are together of bulk at most 1048576: NARROWER than '..Said'. Prove '..Said' where nothing that the law and all that it calls make is longer than what came in: it says more and counts as full. Else prove '..UptoSaid'. A law counts once. -/
mutual
def uptoBulk {H : Type} : DataW H → Nat
  | .lit (.string bytes) => bytes.length + 1
  | .lit _ => 1
  | .nil => 1
  | .ptr d => uptoBulk d + 1
  | .slice elems spare => uptoBulkAll elems + uptoBulkAll spare + 1
  | .agg parts => uptoBulkAll parts + 1
  | .iface _ d => uptoBulk d + 1
  | .map entries => uptoBulkEntries entries + 1
  | .held _ => 1
def uptoBulkAll {H : Type} : List (DataW H) → Nat
  | [] => 0
  | d :: r => uptoBulk d + uptoBulkAll r
def uptoBulkEntries {H : Type} : List (Lit × DataW H) → Nat
  | [] => 0
  | x :: r => uptoBulkEntry x + uptoBulkEntries r
def uptoBulkEntry {H : Type} : Lit × DataW H → Nat
  | (.string bytes, d) => bytes.length + uptoBulk d + 1
  | (_, d) => uptoBulk d + 1
 end
def uptoSmall : (H : Type) → List (DataW H) → Bool := fun _ ds => decide (uptoBulkAll ds ≤ 1048576)
def OpenSpec.upto (s : _root_.Go.ChangeSpec) : _root_.Go.OpenSpec := { _root_.Go.OpenSpec.ofChange s with cond := some uptoSmall }

/-- 'wayfinderlaw37.RepairBack', WHERE WHAT IT READS IS OF BULK AT MOST 1048576: true; the input reads as it did. -/
def repairBackUptoRow : OpenClaim := { program := "ytilmnpkjlaamlaa", sum := "7bb546828dfd3e3f8c00969e586100d570f438ec0d1c710e75861a2226cf4b91", func := "wayfinder/wayfinderlaw37.RepairBack", spec := "repairBack", apart := false, narrowed := true }
def RepairBackUptoSaid : Prop := repairBackUptoRow.holds Try.pinned (OpenSpec.upto repairBackSpec)

/-- 'wayfinderlaw37.RepairMonotone', WHERE WHAT IT READS IS OF BULK AT MOST 1048576: true; the input reads as it did. -/
def repairMonotoneUptoRow : OpenClaim := { program := "ytilmnpkjlaamlaa", sum := "7bb546828dfd3e3f8c00969e586100d570f438ec0d1c710e75861a2226cf4b91", func := "wayfinder/wayfinderlaw37.RepairMonotone", spec := "repairMonotone", apart := false, narrowed := true }
def RepairMonotoneUptoSaid : Prop := repairMonotoneUptoRow.holds Try.pinned (OpenSpec.upto repairMonotoneSpec)

/-- 'wayfinderlaw37.RepairOrder', WHERE WHAT IT READS IS OF BULK AT MOST 1048576: true; the input reads as it did. -/
def repairOrderUptoRow : OpenClaim := { program := "ytilmnpkjlaamlaa", sum := "7bb546828dfd3e3f8c00969e586100d570f438ec0d1c710e75861a2226cf4b91", func := "wayfinder/wayfinderlaw37.RepairOrder", spec := "repairOrder", apart := false, narrowed := true }
def RepairOrderUptoSaid : Prop := repairOrderUptoRow.holds Try.pinned (OpenSpec.upto repairOrderSpec)

/-- 'wayfinderlaw37.RepairFresh', WHERE WHAT IT READS IS OF BULK AT MOST 1048576: true; the input reads as it did. -/
def repairFreshUptoRow : OpenClaim := { program := "ytilmnpkjlaamlaa", sum := "7bb546828dfd3e3f8c00969e586100d570f438ec0d1c710e75861a2226cf4b91", func := "wayfinder/wayfinderlaw37.RepairFresh", spec := "repairFresh", apart := false, narrowed := true }
def RepairFreshUptoSaid : Prop := repairFreshUptoRow.holds Try.pinned (OpenSpec.upto repairFreshSpec)

/-- 'wayfinderlaw37.RepairPlays', WHERE WHAT IT READS IS OF BULK AT MOST 1048576: true; the input reads as it did. -/
def repairPlaysUptoRow : OpenClaim := { program := "ytilmnpkjlaamlaa", sum := "7bb546828dfd3e3f8c00969e586100d570f438ec0d1c710e75861a2226cf4b91", func := "wayfinder/wayfinderlaw37.RepairPlays", spec := "repairPlays", apart := false, narrowed := true }
def RepairPlaysUptoSaid : Prop := repairPlaysUptoRow.holds Try.pinned (OpenSpec.upto repairPlaysSpec)

/-- 'wayfinderlaw37.RepairClones', WHERE WHAT IT READS IS OF BULK AT MOST 1048576: true; the input reads as it did. -/
def repairClonesUptoRow : OpenClaim := { program := "ytilmnpkjlaamlaa", sum := "7bb546828dfd3e3f8c00969e586100d570f438ec0d1c710e75861a2226cf4b91", func := "wayfinder/wayfinderlaw37.RepairClones", spec := "repairClones", apart := false, narrowed := true }
def RepairClonesUptoSaid : Prop := repairClonesUptoRow.holds Try.pinned (OpenSpec.upto repairClonesSpec)

end Rows
end Go.Proofs.Ytilmnpkjlaamlaa
