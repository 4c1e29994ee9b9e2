/-
  No cell of these rows narrows 'for every input' (looked for: loops, veiled, ifaces, maps, wideKeys, modest, calm, conditions, laid).
  DERIVED. THE GIVEN ROWS OF THIS SEAT. 11 by the template 'for every input the law returns true; each argument reads behind the call as it read before'; 0 by the template 'total and deterministic' (their statements: YtfeoolgkbljggaaTotals.lean).
  GIVEN WITH THE SEED: the statements are not yours to turn. If you find one false, say at which input.
  Laid BY PROGRAM, IN A SANDBOX (cutbox-rows.mjs): the forced cells as the released guide's own fill.sh prints them over the translation ca6d85626b53cc37… (all of the seat's roots in one cut). By AI agents, Wed Nov 11 2026. No macro, syntax, notation, axiom, sorry.
-/
import Derived.Test.YtfeoolgkbljggaaChecked
import GoSem.Claim
import GoSem.ClaimJoined
import GoSem.ClaimMapViews
import Derived.JoinedTies
import Derived.KernelRfl
namespace Go.Proofs.Ytfeoolgkbljggaa
/- THE CELL 'sum', in the pinned program and in every row, IS THE sha256 OF THE DUMP (.gsa) THAT YtfeoolgkbljggaaProg.lean LOADS. Nothing in Lean hashes anything: it is a label: what it is worth is what the hold of that sum in a sandbox is worth. -/
noncomputable def Try.pinned : Pinned := { name := "ytfeoolgkbljggaa", sum := "ca6d85626b53cc376caf5c9a199a440534d4dad15de5070b100af2cd0715ce25", checked := Try.checked }
namespace Rows
def none {H : Type} : Left H := { results := [], args := [] }

/-- 'wayfinderlaw36.PathCosts': WHATEVER THE INPUT: true; the input reads as it did. -/
def pathCostsSpec : ChangeSpec := { name := "pathCosts", fn := fun _ => fun
  | [d1, d2] => { results := [.lit (.bool true)], args := [d1, d2] }
  | _ => none }
def pathCostsRow : OpenClaim := { program := "ytfeoolgkbljggaa", sum := "ca6d85626b53cc376caf5c9a199a440534d4dad15de5070b100af2cd0715ce25", func := "wayfinder/wayfinderlaw36.PathCosts", spec := "pathCosts", apart := false }
def PathCostsSaid : Prop := pathCostsRow.holds Try.pinned (OpenSpec.ofChange pathCostsSpec)

/-- ITS FALSE NEIGHBOUR: 'it returns false'. Refute it at one input. -/
def pathCostsWrong : ChangeSpec := { name := "pathCosts", fn := fun _ => fun
  | [d1, d2] => { results := [.lit (.bool false)], args := [d1, d2] }
  | _ => none }
def PathCostsWrongFalsely : Prop := pathCostsRow.holds Try.pinned (OpenSpec.ofChange pathCostsWrong)

/-- 'wayfinderlaw36.PathFinds': WHATEVER THE INPUT: true; the input reads as it did. -/
def pathFindsSpec : ChangeSpec := { name := "pathFinds", fn := fun _ => fun
  | [d1, d2, d3] => { results := [.lit (.bool true)], args := [d1, d2, d3] }
  | _ => none }
def pathFindsRow : OpenClaim := { program := "ytfeoolgkbljggaa", sum := "ca6d85626b53cc376caf5c9a199a440534d4dad15de5070b100af2cd0715ce25", func := "wayfinder/wayfinderlaw36.PathFinds", spec := "pathFinds", apart := false }
def PathFindsSaid : Prop := pathFindsRow.holds Try.pinned (OpenSpec.ofChange pathFindsSpec)

/-- ITS FALSE NEIGHBOUR: 'it returns false'. Refute it at one input. -/
def pathFindsWrong : ChangeSpec := { name := "pathFinds", fn := fun _ => fun
  | [d1, d2, d3] => { results := [.lit (.bool false)], args := [d1, d2, d3] }
  | _ => none }
def PathFindsWrongFalsely : Prop := pathFindsRow.holds Try.pinned (OpenSpec.ofChange pathFindsWrong)

/-- 'wayfinderlaw36.PathSuffix': WHATEVER THE INPUT: true; the input reads as it did. -/
def pathSuffixSpec : ChangeSpec := { name := "pathSuffix", fn := fun _ => fun
  | [d1, d2, d3] => { results := [.lit (.bool true)], args := [d1, d2, d3] }
  | _ => none }
def pathSuffixRow : OpenClaim := { program := "ytfeoolgkbljggaa", sum := "ca6d85626b53cc376caf5c9a199a440534d4dad15de5070b100af2cd0715ce25", func := "wayfinder/wayfinderlaw36.PathSuffix", spec := "pathSuffix", apart := false }
def PathSuffixSaid : Prop := pathSuffixRow.holds Try.pinned (OpenSpec.ofChange pathSuffixSpec)

/-- ITS FALSE NEIGHBOUR: 'it returns false'. Refute it at one input. -/
def pathSuffixWrong : ChangeSpec := { name := "pathSuffix", fn := fun _ => fun
  | [d1, d2, d3] => { results := [.lit (.bool false)], args := [d1, d2, d3] }
  | _ => none }
def PathSuffixWrongFalsely : Prop := pathSuffixRow.holds Try.pinned (OpenSpec.ofChange pathSuffixWrong)

/-- 'wayfinderlaw36.PathOpens': WHATEVER THE INPUT: true; the input reads as it did. -/
def pathOpensSpec : ChangeSpec := { name := "pathOpens", fn := fun _ => fun
  | [d1, d2, d3] => { results := [.lit (.bool true)], args := [d1, d2, d3] }
  | _ => none }
def pathOpensRow : OpenClaim := { program := "ytfeoolgkbljggaa", sum := "ca6d85626b53cc376caf5c9a199a440534d4dad15de5070b100af2cd0715ce25", func := "wayfinder/wayfinderlaw36.PathOpens", spec := "pathOpens", apart := false }
def PathOpensSaid : Prop := pathOpensRow.holds Try.pinned (OpenSpec.ofChange pathOpensSpec)

/-- ITS FALSE NEIGHBOUR: 'it returns false'. Refute it at one input. -/
def pathOpensWrong : ChangeSpec := { name := "pathOpens", fn := fun _ => fun
  | [d1, d2, d3] => { results := [.lit (.bool false)], args := [d1, d2, d3] }
  | _ => none }
def PathOpensWrongFalsely : Prop := pathOpensRow.holds Try.pinned (OpenSpec.ofChange pathOpensWrong)

/-- 'wayfinderlaw36.PathSymmetric': WHATEVER THE INPUT: true; the input reads as it did. -/
def pathSymmetricSpec : ChangeSpec := { name := "pathSymmetric", fn := fun _ => fun
  | [d1, d2, d3] => { results := [.lit (.bool true)], args := [d1, d2, d3] }
  | _ => none }
def pathSymmetricRow : OpenClaim := { program := "ytfeoolgkbljggaa", sum := "ca6d85626b53cc376caf5c9a199a440534d4dad15de5070b100af2cd0715ce25", func := "wayfinder/wayfinderlaw36.PathSymmetric", spec := "pathSymmetric", apart := false }
def PathSymmetricSaid : Prop := pathSymmetricRow.holds Try.pinned (OpenSpec.ofChange pathSymmetricSpec)

/-- ITS FALSE NEIGHBOUR: 'it returns false'. Refute it at one input. -/
def pathSymmetricWrong : ChangeSpec := { name := "pathSymmetric", fn := fun _ => fun
  | [d1, d2, d3] => { results := [.lit (.bool false)], args := [d1, d2, d3] }
  | _ => none }
def PathSymmetricWrongFalsely : Prop := pathSymmetricRow.holds Try.pinned (OpenSpec.ofChange pathSymmetricWrong)

/-- 'wayfinderlaw36.PathChecks': WHATEVER THE INPUT: true; the input reads as it did. -/
def pathChecksSpec : ChangeSpec := { name := "pathChecks", fn := fun _ => fun
  | [d1, d2, d3] => { results := [.lit (.bool true)], args := [d1, d2, d3] }
  | _ => none }
def pathChecksRow : OpenClaim := { program := "ytfeoolgkbljggaa", sum := "ca6d85626b53cc376caf5c9a199a440534d4dad15de5070b100af2cd0715ce25", func := "wayfinder/wayfinderlaw36.PathChecks", spec := "pathChecks", apart := false }
def PathChecksSaid : Prop := pathChecksRow.holds Try.pinned (OpenSpec.ofChange pathChecksSpec)

/-- ITS FALSE NEIGHBOUR: 'it returns false'. Refute it at one input. -/
def pathChecksWrong : ChangeSpec := { name := "pathChecks", fn := fun _ => fun
  | [d1, d2, d3] => { results := [.lit (.bool false)], args := [d1, d2, d3] }
  | _ => none }
def PathChecksWrongFalsely : Prop := pathChecksRow.holds Try.pinned (OpenSpec.ofChange pathChecksWrong)

/-- 'wayfinderlaw36.PathTampered': WHATEVER THE INPUT: true; the input reads as it did. -/
def pathTamperedSpec : ChangeSpec := { name := "pathTampered", fn := fun _ => fun
  | [d1, d2, d3] => { results := [.lit (.bool true)], args := [d1, d2, d3] }
  | _ => none }
def pathTamperedRow : OpenClaim := { program := "ytfeoolgkbljggaa", sum := "ca6d85626b53cc376caf5c9a199a440534d4dad15de5070b100af2cd0715ce25", func := "wayfinder/wayfinderlaw36.PathTampered", spec := "pathTampered", apart := false }
def PathTamperedSaid : Prop := pathTamperedRow.holds Try.pinned (OpenSpec.ofChange pathTamperedSpec)

/-- ITS FALSE NEIGHBOUR: 'it returns false'. Refute it at one input. -/
def pathTamperedWrong : ChangeSpec := { name := "pathTampered", fn := fun _ => fun
  | [d1, d2, d3] => { results := [.lit (.bool false)], args := [d1, d2, d3] }
  | _ => none }
def PathTamperedWrongFalsely : Prop := pathTamperedRow.holds Try.pinned (OpenSpec.ofChange pathTamperedWrong)

/-- 'wayfinderlaw36.PathPotential': WHATEVER THE INPUT: true; the input reads as it did. -/
def pathPotentialSpec : ChangeSpec := { name := "pathPotential", fn := fun _ => fun
  | [d1, d2] => { results := [.lit (.bool true)], args := [d1, d2] }
  | _ => none }
def pathPotentialRow : OpenClaim := { program := "ytfeoolgkbljggaa", sum := "ca6d85626b53cc376caf5c9a199a440534d4dad15de5070b100af2cd0715ce25", func := "wayfinder/wayfinderlaw36.PathPotential", spec := "pathPotential", apart := false }
def PathPotentialSaid : Prop := pathPotentialRow.holds Try.pinned (OpenSpec.ofChange pathPotentialSpec)

/-- ITS FALSE NEIGHBOUR: 'it returns false'. Refute it at one input. -/
def pathPotentialWrong : ChangeSpec := { name := "pathPotential", fn := fun _ => fun
  | [d1, d2] => { results := [.lit (.bool false)], args := [d1, d2] }
  | _ => none }
def PathPotentialWrongFalsely : Prop := pathPotentialRow.holds Try.pinned (OpenSpec.ofChange pathPotentialWrong)

/-- 'wayfinderlaw36.PathSteps': WHATEVER THE INPUT: true; the input reads as it did. -/
def pathStepsSpec : ChangeSpec := { name := "pathSteps", fn := fun _ => fun
  | [d1, d2, d3] => { results := [.lit (.bool true)], args := [d1, d2, d3] }
  | _ => none }
def pathStepsRow : OpenClaim := { program := "ytfeoolgkbljggaa", sum := "ca6d85626b53cc376caf5c9a199a440534d4dad15de5070b100af2cd0715ce25", func := "wayfinder/wayfinderlaw36.PathSteps", spec := "pathSteps", apart := false }
def PathStepsSaid : Prop := pathStepsRow.holds Try.pinned (OpenSpec.ofChange pathStepsSpec)

/-- ITS FALSE NEIGHBOUR: 'it returns false'. Refute it at one input. -/
def pathStepsWrong : ChangeSpec := { name := "pathSteps", fn := fun _ => fun
  | [d1, d2, d3] => { results := [.lit (.bool false)], args := [d1, d2, d3] }
  | _ => none }
def PathStepsWrongFalsely : Prop := pathStepsRow.holds Try.pinned (OpenSpec.ofChange pathStepsWrong)

/-- 'wayfinderlaw36.PathLengths': WHATEVER THE INPUT: true; the input reads as it did. -/
def pathLengthsSpec : ChangeSpec := { name := "pathLengths", fn := fun _ => fun
  | [d1, d2] => { results := [.lit (.bool true)], args := [d1, d2] }
  | _ => none }
def pathLengthsRow : OpenClaim := { program := "ytfeoolgkbljggaa", sum := "ca6d85626b53cc376caf5c9a199a440534d4dad15de5070b100af2cd0715ce25", func := "wayfinder/wayfinderlaw36.PathLengths", spec := "pathLengths", unfollowed := true, recurses := true, apart := false }
def PathLengthsSaid : Prop := pathLengthsRow.holds Try.pinned (OpenSpec.ofChange pathLengthsSpec)

/-- ITS FALSE NEIGHBOUR: 'it returns false'. Refute it at one input. -/
def pathLengthsWrong : ChangeSpec := { name := "pathLengths", fn := fun _ => fun
  | [d1, d2] => { results := [.lit (.bool false)], args := [d1, d2] }
  | _ => none }
def PathLengthsWrongFalsely : Prop := pathLengthsRow.holds Try.pinned (OpenSpec.ofChange pathLengthsWrong)

/-- 'wayfinderlaw36.PathShortest': WHATEVER THE INPUT: true; the input reads as it did. -/
def pathShortestSpec : ChangeSpec := { name := "pathShortest", fn := fun _ => fun
  | [d1, d2, d3] => { results := [.lit (.bool true)], args := [d1, d2, d3] }
  | _ => none }
def pathShortestRow : OpenClaim := { program := "ytfeoolgkbljggaa", sum := "ca6d85626b53cc376caf5c9a199a440534d4dad15de5070b100af2cd0715ce25", func := "wayfinder/wayfinderlaw36.PathShortest", spec := "pathShortest", unfollowed := true, recurses := true, apart := false }
def PathShortestSaid : Prop := pathShortestRow.holds Try.pinned (OpenSpec.ofChange pathShortestSpec)

/-- ITS FALSE NEIGHBOUR: 'it returns false'. Refute it at one input. -/
def pathShortestWrong : ChangeSpec := { name := "pathShortest", fn := fun _ => fun
  | [d1, d2, d3] => { results := [.lit (.bool false)], args := [d1, d2, d3] }
  | _ => none }
def PathShortestWrongFalsely : Prop := pathShortestRow.holds Try.pinned (OpenSpec.ofChange pathShortestWrong)

/- THE SECOND FORM. 'bulk': how many values and letters a reading holds, each counted each time it is reached (what is shared counts as often as it is met; a slice's spare places count too). A statement '..UptoSaid' is the law's where the arguments, and the package variables that the reading takes, are together of bulk at most 1048576: NARROWER than '..Said'. Prove '..Said' where nothing that the law and all that it calls make is longer than what came in: it says more and counts as full. Else prove '..UptoSaid'. A law counts once. -/
mutual
def uptoBulk {H : Type} : DataW H → Nat
  | .lit (.string bytes) => bytes.length + 1
  | .lit _ => 1
  | .nil => 1
  | .ptr d => uptoBulk d + 1
  | .slice elems spare => uptoBulkAll elems + uptoBulkAll spare + 1
  | .agg parts => uptoBulkAll parts + 1
  | .iface _ d => uptoBulk d + 1
  | .map entries => uptoBulkEntries entries + 1
  | .held _ => 1
def uptoBulkAll {H : Type} : List (DataW H) → Nat
  | [] => 0
  | d :: r => uptoBulk d + uptoBulkAll r
def uptoBulkEntries {H : Type} : List (Lit × DataW H) → Nat
  | [] => 0
  | x :: r => uptoBulkEntry x + uptoBulkEntries r
def uptoBulkEntry {H : Type} : Lit × DataW H → Nat
  | (.string bytes, d) => bytes.length + uptoBulk d + 1
  | (_, d) => uptoBulk d + 1
 end
def uptoSmall : (H : Type) → List (DataW H) → Bool := fun _ ds => decide (uptoBulkAll ds ≤ 1048576)
def OpenSpec.upto (s : _root_.Go.ChangeSpec) : _root_.Go.OpenSpec := { _root_.Go.OpenSpec.ofChange s with cond := some uptoSmall }

/-- 'wayfinderlaw36.PathCosts', WHERE WHAT IT READS IS OF BULK AT MOST 1048576: true; the input reads as it did. -/
def pathCostsUptoRow : OpenClaim := { program := "ytfeoolgkbljggaa", sum := "ca6d85626b53cc376caf5c9a199a440534d4dad15de5070b100af2cd0715ce25", func := "wayfinder/wayfinderlaw36.PathCosts", spec := "pathCosts", apart := false, narrowed := true }
def PathCostsUptoSaid : Prop := pathCostsUptoRow.holds Try.pinned (OpenSpec.upto pathCostsSpec)

/-- 'wayfinderlaw36.PathFinds', WHERE WHAT IT READS IS OF BULK AT MOST 1048576: true; the input reads as it did. -/
def pathFindsUptoRow : OpenClaim := { program := "ytfeoolgkbljggaa", sum := "ca6d85626b53cc376caf5c9a199a440534d4dad15de5070b100af2cd0715ce25", func := "wayfinder/wayfinderlaw36.PathFinds", spec := "pathFinds", apart := false, narrowed := true }
def PathFindsUptoSaid : Prop := pathFindsUptoRow.holds Try.pinned (OpenSpec.upto pathFindsSpec)

/-- 'wayfinderlaw36.PathSuffix', WHERE WHAT IT READS IS OF BULK AT MOST 1048576: true; the input reads as it did. -/
def pathSuffixUptoRow : OpenClaim := { program := "ytfeoolgkbljggaa", sum := "ca6d85626b53cc376caf5c9a199a440534d4dad15de5070b100af2cd0715ce25", func := "wayfinder/wayfinderlaw36.PathSuffix", spec := "pathSuffix", apart := false, narrowed := true }
def PathSuffixUptoSaid : Prop := pathSuffixUptoRow.holds Try.pinned (OpenSpec.upto pathSuffixSpec)

/-- 'wayfinderlaw36.PathOpens', WHERE WHAT IT READS IS OF BULK AT MOST 1048576: true; the input reads as it did. -/
def pathOpensUptoRow : OpenClaim := { program := "ytfeoolgkbljggaa", sum := "ca6d85626b53cc376caf5c9a199a440534d4dad15de5070b100af2cd0715ce25", func := "wayfinder/wayfinderlaw36.PathOpens", spec := "pathOpens", apart := false, narrowed := true }
def PathOpensUptoSaid : Prop := pathOpensUptoRow.holds Try.pinned (OpenSpec.upto pathOpensSpec)

/-- 'wayfinderlaw36.PathSymmetric', WHERE WHAT IT READS IS OF BULK AT MOST 1048576: true; the input reads as it did. -/
def pathSymmetricUptoRow : OpenClaim := { program := "ytfeoolgkbljggaa", sum := "ca6d85626b53cc376caf5c9a199a440534d4dad15de5070b100af2cd0715ce25", func := "wayfinder/wayfinderlaw36.PathSymmetric", spec := "pathSymmetric", apart := false, narrowed := true }
def PathSymmetricUptoSaid : Prop := pathSymmetricUptoRow.holds Try.pinned (OpenSpec.upto pathSymmetricSpec)

/-- 'wayfinderlaw36.PathChecks', WHERE WHAT IT READS IS OF BULK AT MOST 1048576: true; the input reads as it did. -/
def pathChecksUptoRow : OpenClaim := { program := "ytfeoolgkbljggaa", sum := "ca6d85626b53cc376caf5c9a199a440534d4dad15de5070b100af2cd0715ce25", func := "wayfinder/wayfinderlaw36.PathChecks", spec := "pathChecks", apart := false, narrowed := true }
def PathChecksUptoSaid : Prop := pathChecksUptoRow.holds Try.pinned (OpenSpec.upto pathChecksSpec)

/-- 'wayfinderlaw36.PathTampered', WHERE WHAT IT READS IS OF BULK AT MOST 1048576: true; the input reads as it did. -/
def pathTamperedUptoRow : OpenClaim := { program := "ytfeoolgkbljggaa", sum := "ca6d85626b53cc376caf5c9a199a440534d4dad15de5070b100af2cd0715ce25", func := "wayfinder/wayfinderlaw36.PathTampered", spec := "pathTampered", apart := false, narrowed := true }
def PathTamperedUptoSaid : Prop := pathTamperedUptoRow.holds Try.pinned (OpenSpec.upto pathTamperedSpec)

/-- 'wayfinderlaw36.PathPotential', WHERE WHAT IT READS IS OF BULK AT MOST 1048576: true; the input reads as it did. -/
def pathPotentialUptoRow : OpenClaim := { program := "ytfeoolgkbljggaa", sum := "ca6d85626b53cc376caf5c9a199a440534d4dad15de5070b100af2cd0715ce25", func := "wayfinder/wayfinderlaw36.PathPotential", spec := "pathPotential", apart := false, narrowed := true }
def PathPotentialUptoSaid : Prop := pathPotentialUptoRow.holds Try.pinned (OpenSpec.upto pathPotentialSpec)

/-- 'wayfinderlaw36.PathSteps', WHERE WHAT IT READS IS OF BULK AT MOST 1048576: true; the input reads as it did. -/
def pathStepsUptoRow : OpenClaim := { program := "ytfeoolgkbljggaa", sum := "ca6d85626b53cc376caf5c9a199a440534d4dad15de5070b100af2cd0715ce25", func := "wayfinder/wayfinderlaw36.PathSteps", spec := "pathSteps", apart := false, narrowed := true }
def PathStepsUptoSaid : Prop := pathStepsUptoRow.holds Try.pinned (OpenSpec.upto pathStepsSpec)

/-- 'wayfinderlaw36.PathLengths', WHERE WHAT IT READS IS OF BULK AT MOST 1048576: true; the input reads as it did. -/
def pathLengthsUptoRow : OpenClaim := { program := "ytfeoolgkbljggaa", sum := "ca6d85626b53cc376caf5c9a199a440534d4dad15de5070b100af2cd0715ce25", func := "wayfinder/wayfinderlaw36.PathLengths", spec := "pathLengths", unfollowed := true, recurses := true, apart := false, narrowed := true }
def PathLengthsUptoSaid : Prop := pathLengthsUptoRow.holds Try.pinned (OpenSpec.upto pathLengthsSpec)

/-- 'wayfinderlaw36.PathShortest', WHERE WHAT IT READS IS OF BULK AT MOST 1048576: true; the input reads as it did. -/
def pathShortestUptoRow : OpenClaim := { program := "ytfeoolgkbljggaa", sum := "ca6d85626b53cc376caf5c9a199a440534d4dad15de5070b100af2cd0715ce25", func := "wayfinder/wayfinderlaw36.PathShortest", spec := "pathShortest", unfollowed := true, recurses := true, apart := false, narrowed := true }
def PathShortestUptoSaid : Prop := pathShortestUptoRow.holds Try.pinned (OpenSpec.upto pathShortestSpec)

end Rows
end Go.Proofs.Ytfeoolgkbljggaa
