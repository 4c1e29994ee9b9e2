/-
  No cell of these rows narrows 'for every input' (looked for: loops, veiled, ifaces, maps, wideKeys, modest, calm, conditions, laid).
  DERIVED. THE GIVEN ROWS OF THIS SEAT. 8 by the template 'for every input the law returns true; each argument reads behind the call as it read before'; 0 by the template 'total and deterministic' (their statements: YtcphmffpkjngiaaTotals.lean).
  GIVEN WITH THE SEED: the statements are not yours to turn. If you find one false, say at which input.
  Laid BY PROGRAM, IN A SANDBOX (cutbox-rows.mjs): the forced cells as the released guide's own fill.sh prints them over the translation be7463242ac8d5bf… (all of the seat's roots in one cut). By AI agents, Wed Nov 11 2026. No macro, syntax, notation, axiom, sorry.
-/
import Derived.Test.YtcphmffpkjngiaaChecked
import GoSem.Claim
import GoSem.ClaimJoined
import GoSem.ClaimMapViews
import Derived.JoinedTies
import Derived.KernelRfl
namespace Go.Proofs.Ytcphmffpkjngiaa
/- THE CELL 'sum', in the pinned program and in every row, IS THE sha256 OF THE DUMP (.gsa) THAT YtcphmffpkjngiaaProg.lean LOADS. Nothing in Lean hashes anything: it is a label: what it is worth is what the hold of that sum in a sandbox is worth. -/
noncomputable def Try.pinned : Pinned := { name := "ytcphmffpkjngiaa", sum := "be7463242ac8d5bf75f27605b19ee8c7a1835bbbb20e4eda02f3ae5955bb44bb", checked := Try.checked }
namespace Rows
def none {H : Type} : Left H := { results := [], args := [] }

/-- 'wayfinderlaw14.JournalEncodes': WHATEVER THE INPUT: true; the input reads as it did. -/
def journalEncodesSpec : ChangeSpec := { name := "journalEncodes", fn := fun _ => fun
  | [d] => { results := [.lit (.bool true)], args := [d] }
  | _ => none }
def journalEncodesRow : OpenClaim := { program := "ytcphmffpkjngiaa", sum := "be7463242ac8d5bf75f27605b19ee8c7a1835bbbb20e4eda02f3ae5955bb44bb", func := "wayfinder/wayfinderlaw14.JournalEncodes", spec := "journalEncodes", unfollowed := true, recurses := true, apart := false }
def JournalEncodesSaid : Prop := journalEncodesRow.holds Try.pinned (OpenSpec.ofChange journalEncodesSpec)

/-- ITS FALSE NEIGHBOUR: 'it returns false'. Refute it at one input. -/
def journalEncodesWrong : ChangeSpec := { name := "journalEncodes", fn := fun _ => fun
  | [d] => { results := [.lit (.bool false)], args := [d] }
  | _ => none }
def JournalEncodesWrongFalsely : Prop := journalEncodesRow.holds Try.pinned (OpenSpec.ofChange journalEncodesWrong)

/-- 'wayfinderlaw14.JournalDecodes': WHATEVER THE INPUT: true; the input reads as it did. -/
def journalDecodesSpec : ChangeSpec := { name := "journalDecodes", fn := fun _ => fun
  | [d] => { results := [.lit (.bool true)], args := [d] }
  | _ => none }
def journalDecodesRow : OpenClaim := { program := "ytcphmffpkjngiaa", sum := "be7463242ac8d5bf75f27605b19ee8c7a1835bbbb20e4eda02f3ae5955bb44bb", func := "wayfinder/wayfinderlaw14.JournalDecodes", spec := "journalDecodes", unfollowed := true, recurses := true, apart := false }
def JournalDecodesSaid : Prop := journalDecodesRow.holds Try.pinned (OpenSpec.ofChange journalDecodesSpec)

/-- ITS FALSE NEIGHBOUR: 'it returns false'. Refute it at one input. -/
def journalDecodesWrong : ChangeSpec := { name := "journalDecodes", fn := fun _ => fun
  | [d] => { results := [.lit (.bool false)], args := [d] }
  | _ => none }
def JournalDecodesWrongFalsely : Prop := journalDecodesRow.holds Try.pinned (OpenSpec.ofChange journalDecodesWrong)

/-- 'wayfinderlaw14.JournalAppends': WHATEVER THE INPUT: true; the input reads as it did. -/
def journalAppendsSpec : ChangeSpec := { name := "journalAppends", fn := fun _ => fun
  | [d] => { results := [.lit (.bool true)], args := [d] }
  | _ => none }
def journalAppendsRow : OpenClaim := { program := "ytcphmffpkjngiaa", sum := "be7463242ac8d5bf75f27605b19ee8c7a1835bbbb20e4eda02f3ae5955bb44bb", func := "wayfinder/wayfinderlaw14.JournalAppends", spec := "journalAppends", unfollowed := true, recurses := true, apart := false }
def JournalAppendsSaid : Prop := journalAppendsRow.holds Try.pinned (OpenSpec.ofChange journalAppendsSpec)

/-- ITS FALSE NEIGHBOUR: 'it returns false'. Refute it at one input. -/
def journalAppendsWrong : ChangeSpec := { name := "journalAppends", fn := fun _ => fun
  | [d] => { results := [.lit (.bool false)], args := [d] }
  | _ => none }
def JournalAppendsWrongFalsely : Prop := journalAppendsRow.holds Try.pinned (OpenSpec.ofChange journalAppendsWrong)

/-- 'wayfinderlaw14.JournalQueries': WHATEVER THE INPUT: true; the input reads as it did. -/
def journalQueriesSpec : ChangeSpec := { name := "journalQueries", fn := fun _ => fun
  | [d1, d2, d3] => { results := [.lit (.bool true)], args := [d1, d2, d3] }
  | _ => none }
def journalQueriesRow : OpenClaim := { program := "ytcphmffpkjngiaa", sum := "be7463242ac8d5bf75f27605b19ee8c7a1835bbbb20e4eda02f3ae5955bb44bb", func := "wayfinder/wayfinderlaw14.JournalQueries", spec := "journalQueries", unfollowed := true, recurses := true, apart := false }
def JournalQueriesSaid : Prop := journalQueriesRow.holds Try.pinned (OpenSpec.ofChange journalQueriesSpec)

/-- ITS FALSE NEIGHBOUR: 'it returns false'. Refute it at one input. -/
def journalQueriesWrong : ChangeSpec := { name := "journalQueries", fn := fun _ => fun
  | [d1, d2, d3] => { results := [.lit (.bool false)], args := [d1, d2, d3] }
  | _ => none }
def JournalQueriesWrongFalsely : Prop := journalQueriesRow.holds Try.pinned (OpenSpec.ofChange journalQueriesWrong)

/-- 'wayfinderlaw14.JournalFlips': WHATEVER THE INPUT: true; the input reads as it did. -/
def journalFlipsSpec : ChangeSpec := { name := "journalFlips", fn := fun _ => fun
  | [d1, d2, d3] => { results := [.lit (.bool true)], args := [d1, d2, d3] }
  | _ => none }
def journalFlipsRow : OpenClaim := { program := "ytcphmffpkjngiaa", sum := "be7463242ac8d5bf75f27605b19ee8c7a1835bbbb20e4eda02f3ae5955bb44bb", func := "wayfinder/wayfinderlaw14.JournalFlips", spec := "journalFlips", unfollowed := true, recurses := true, apart := false }
def JournalFlipsSaid : Prop := journalFlipsRow.holds Try.pinned (OpenSpec.ofChange journalFlipsSpec)

/-- ITS FALSE NEIGHBOUR: 'it returns false'. Refute it at one input. -/
def journalFlipsWrong : ChangeSpec := { name := "journalFlips", fn := fun _ => fun
  | [d1, d2, d3] => { results := [.lit (.bool false)], args := [d1, d2, d3] }
  | _ => none }
def JournalFlipsWrongFalsely : Prop := journalFlipsRow.holds Try.pinned (OpenSpec.ofChange journalFlipsWrong)

/-- 'wayfinderlaw14.JournalOpens': WHATEVER THE INPUT: true; the input reads as it did. -/
def journalOpensSpec : ChangeSpec := { name := "journalOpens", fn := fun _ => fun
  | [d] => { results := [.lit (.bool true)], args := [d] }
  | _ => none }
def journalOpensRow : OpenClaim := { program := "ytcphmffpkjngiaa", sum := "be7463242ac8d5bf75f27605b19ee8c7a1835bbbb20e4eda02f3ae5955bb44bb", func := "wayfinder/wayfinderlaw14.JournalOpens", spec := "journalOpens", unfollowed := true, recurses := true, apart := false }
def JournalOpensSaid : Prop := journalOpensRow.holds Try.pinned (OpenSpec.ofChange journalOpensSpec)

/-- ITS FALSE NEIGHBOUR: 'it returns false'. Refute it at one input. -/
def journalOpensWrong : ChangeSpec := { name := "journalOpens", fn := fun _ => fun
  | [d] => { results := [.lit (.bool false)], args := [d] }
  | _ => none }
def JournalOpensWrongFalsely : Prop := journalOpensRow.holds Try.pinned (OpenSpec.ofChange journalOpensWrong)

/-- 'wayfinderlaw14.JournalAgain': WHATEVER THE INPUT: true; the input reads as it did. -/
def journalAgainSpec : ChangeSpec := { name := "journalAgain", fn := fun _ => fun
  | [d1, d2] => { results := [.lit (.bool true)], args := [d1, d2] }
  | _ => none }
def journalAgainRow : OpenClaim := { program := "ytcphmffpkjngiaa", sum := "be7463242ac8d5bf75f27605b19ee8c7a1835bbbb20e4eda02f3ae5955bb44bb", func := "wayfinder/wayfinderlaw14.JournalAgain", spec := "journalAgain", unfollowed := true, recurses := true, apart := false }
def JournalAgainSaid : Prop := journalAgainRow.holds Try.pinned (OpenSpec.ofChange journalAgainSpec)

/-- ITS FALSE NEIGHBOUR: 'it returns false'. Refute it at one input. -/
def journalAgainWrong : ChangeSpec := { name := "journalAgain", fn := fun _ => fun
  | [d1, d2] => { results := [.lit (.bool false)], args := [d1, d2] }
  | _ => none }
def JournalAgainWrongFalsely : Prop := journalAgainRow.holds Try.pinned (OpenSpec.ofChange journalAgainWrong)

/-- 'wayfinderlaw14.JournalCuts': WHATEVER THE INPUT: true; the input reads as it did. -/
def journalCutsSpec : ChangeSpec := { name := "journalCuts", fn := fun _ => fun
  | [d1, d2] => { results := [.lit (.bool true)], args := [d1, d2] }
  | _ => none }
def journalCutsRow : OpenClaim := { program := "ytcphmffpkjngiaa", sum := "be7463242ac8d5bf75f27605b19ee8c7a1835bbbb20e4eda02f3ae5955bb44bb", func := "wayfinder/wayfinderlaw14.JournalCuts", spec := "journalCuts", unfollowed := true, recurses := true, apart := false }
def JournalCutsSaid : Prop := journalCutsRow.holds Try.pinned (OpenSpec.ofChange journalCutsSpec)

/-- ITS FALSE NEIGHBOUR: 'it returns false'. Refute it at one input. -/
def journalCutsWrong : ChangeSpec := { name := "journalCuts", fn := fun _ => fun
  | [d1, d2] => { results := [.lit (.bool false)], args := [d1, d2] }
  | _ => none }
def JournalCutsWrongFalsely : Prop := journalCutsRow.holds Try.pinned (OpenSpec.ofChange journalCutsWrong)

/- THE SECOND FORM. 'bulk': how many values and letters a reading holds, each counted each time it is reached (what is shared counts as often as it is met; a slice's spare places count too). A statement '..UptoSaid' is the law's where the arguments, and the package variables that the reading takes, are together of bulk at most 1048576: NARROWER than '..Said'. Prove '..Said' where nothing that the law and all that it calls make is longer than what came in: it says more and counts as full. Else prove '..UptoSaid'. A law counts once. -/
mutual
def uptoBulk {H : Type} : DataW H → Nat
  | .lit (.string bytes) => bytes.length + 1
  | .lit _ => 1
  | .nil => 1
  | .ptr d => uptoBulk d + 1
  | .slice elems spare => uptoBulkAll elems + uptoBulkAll spare + 1
  | .agg parts => uptoBulkAll parts + 1
  | .iface _ d => uptoBulk d + 1
  | .map entries => uptoBulkEntries entries + 1
  | .held _ => 1
def uptoBulkAll {H : Type} : List (DataW H) → Nat
  | [] => 0
  | d :: r => uptoBulk d + uptoBulkAll r
def uptoBulkEntries {H : Type} : List (Lit × DataW H) → Nat
  | [] => 0
  | x :: r => uptoBulkEntry x + uptoBulkEntries r
def uptoBulkEntry {H : Type} : Lit × DataW H → Nat
  | (.string bytes, d) => bytes.length + uptoBulk d + 1
  | (_, d) => uptoBulk d + 1
 end
def uptoSmall : (H : Type) → List (DataW H) → Bool := fun _ ds => decide (uptoBulkAll ds ≤ 1048576)
def OpenSpec.upto (s : _root_.Go.ChangeSpec) : _root_.Go.OpenSpec := { _root_.Go.OpenSpec.ofChange s with cond := some uptoSmall }

/-- 'wayfinderlaw14.JournalEncodes', WHERE WHAT IT READS IS OF BULK AT MOST 1048576: true; the input reads as it did. -/
def journalEncodesUptoRow : OpenClaim := { program := "ytcphmffpkjngiaa", sum := "be7463242ac8d5bf75f27605b19ee8c7a1835bbbb20e4eda02f3ae5955bb44bb", func := "wayfinder/wayfinderlaw14.JournalEncodes", spec := "journalEncodes", unfollowed := true, recurses := true, apart := false, narrowed := true }
def JournalEncodesUptoSaid : Prop := journalEncodesUptoRow.holds Try.pinned (OpenSpec.upto journalEncodesSpec)

/-- 'wayfinderlaw14.JournalDecodes', WHERE WHAT IT READS IS OF BULK AT MOST 1048576: true; the input reads as it did. -/
def journalDecodesUptoRow : OpenClaim := { program := "ytcphmffpkjngiaa", sum := "be7463242ac8d5bf75f27605b19ee8c7a1835bbbb20e4eda02f3ae5955bb44bb", func := "wayfinder/wayfinderlaw14.JournalDecodes", spec := "journalDecodes", unfollowed := true, recurses := true, apart := false, narrowed := true }
def JournalDecodesUptoSaid : Prop := journalDecodesUptoRow.holds Try.pinned (OpenSpec.upto journalDecodesSpec)

/-- 'wayfinderlaw14.JournalAppends', WHERE WHAT IT READS IS OF BULK AT MOST 1048576: true; the input reads as it did. -/
def journalAppendsUptoRow : OpenClaim := { program := "ytcphmffpkjngiaa", sum := "be7463242ac8d5bf75f27605b19ee8c7a1835bbbb20e4eda02f3ae5955bb44bb", func := "wayfinder/wayfinderlaw14.JournalAppends", spec := "journalAppends", unfollowed := true, recurses := true, apart := false, narrowed := true }
def JournalAppendsUptoSaid : Prop := journalAppendsUptoRow.holds Try.pinned (OpenSpec.upto journalAppendsSpec)

/-- 'wayfinderlaw14.JournalQueries', WHERE WHAT IT READS IS OF BULK AT MOST 1048576: true; the input reads as it did. -/
def journalQueriesUptoRow : OpenClaim := { program := "ytcphmffpkjngiaa", sum := "be7463242ac8d5bf75f27605b19ee8c7a1835bbbb20e4eda02f3ae5955bb44bb", func := "wayfinder/wayfinderlaw14.JournalQueries", spec := "journalQueries", unfollowed := true, recurses := true, apart := false, narrowed := true }
def JournalQueriesUptoSaid : Prop := journalQueriesUptoRow.holds Try.pinned (OpenSpec.upto journalQueriesSpec)

/-- 'wayfinderlaw14.JournalFlips', WHERE WHAT IT READS IS OF BULK AT MOST 1048576: true; the input reads as it did. -/
def journalFlipsUptoRow : OpenClaim := { program := "ytcphmffpkjngiaa", sum := "be7463242ac8d5bf75f27605b19ee8c7a1835bbbb20e4eda02f3ae5955bb44bb", func := "wayfinder/wayfinderlaw14.JournalFlips", spec := "journalFlips", unfollowed := true, recurses := true, apart := false, narrowed := true }
def JournalFlipsUptoSaid : Prop := journalFlipsUptoRow.holds Try.pinned (OpenSpec.upto journalFlipsSpec)

/-- 'wayfinderlaw14.JournalOpens', WHERE WHAT IT READS IS OF BULK AT MOST 1048576: true; the input reads as it did. -/
def journalOpensUptoRow : OpenClaim := { program := "ytcphmffpkjngiaa", sum := "be7463242ac8d5bf75f27605b19ee8c7a1835bbbb20e4eda02f3ae5955bb44bb", func := "wayfinder/wayfinderlaw14.JournalOpens", spec := "journalOpens", unfollowed := true, recurses := true, apart := false, narrowed := true }
def JournalOpensUptoSaid : Prop := journalOpensUptoRow.holds Try.pinned (OpenSpec.upto journalOpensSpec)

/-- 'wayfinderlaw14.JournalAgain', WHERE WHAT IT READS IS OF BULK AT MOST 1048576: true; the input reads as it did. -/
def journalAgainUptoRow : OpenClaim := { program := "ytcphmffpkjngiaa", sum := "be7463242ac8d5bf75f27605b19ee8c7a1835bbbb20e4eda02f3ae5955bb44bb", func := "wayfinder/wayfinderlaw14.JournalAgain", spec := "journalAgain", unfollowed := true, recurses := true, apart := false, narrowed := true }
def JournalAgainUptoSaid : Prop := journalAgainUptoRow.holds Try.pinned (OpenSpec.upto journalAgainSpec)

/-- 'wayfinderlaw14.JournalCuts', WHERE WHAT IT READS IS OF BULK AT MOST 1048576: true; the input reads as it did. -/
def journalCutsUptoRow : OpenClaim := { program := "ytcphmffpkjngiaa", sum := "be7463242ac8d5bf75f27605b19ee8c7a1835bbbb20e4eda02f3ae5955bb44bb", func := "wayfinder/wayfinderlaw14.JournalCuts", spec := "journalCuts", unfollowed := true, recurses := true, apart := false, narrowed := true }
def JournalCutsUptoSaid : Prop := journalCutsUptoRow.holds Try.pinned (OpenSpec.upto journalCutsSpec)

end Rows
end Go.Proofs.Ytcphmffpkjngiaa
