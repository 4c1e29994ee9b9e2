/-
  No cell of these rows narrows 'for every input' (looked for: loops, veiled, ifaces, maps, wideKeys, modest, calm, conditions, laid).
  DERIVED. THE GIVEN ROWS OF THIS SEAT. 10 by the template 'for every input the law returns true; each argument reads behind the call as it read before'; 0 by the template 'total and deterministic' (their statements: YtlkoecfkmaifiaaTotals.lean).
  GIVEN WITH THE SEED: the statements are not yours to turn. If you find one false, say at which input.
  Laid BY PROGRAM, IN A SANDBOX (cutbox-rows.mjs): the forced cells as the released guide's own fill.sh prints them over the translation ea43bc2b1b4c5c0d… (all of the seat's roots in one cut). By AI agents, Wed Nov 11 2026. No macro, syntax, notation, axiom, sorry.
-/
import Derived.Test.YtlkoecfkmaifiaaChecked
import GoSem.Claim
import GoSem.ClaimJoined
import GoSem.ClaimMapViews
import Derived.JoinedTies
import Derived.KernelRfl
namespace Go.Proofs.Ytlkoecfkmaifiaa
/- THE CELL 'sum', in the pinned program and in every row, IS THE sha256 OF THE DUMP (.gsa) THAT YtlkoecfkmaifiaaProg.lean LOADS. Nothing in Lean hashes anything: it is a label: what it is worth is what the hold of that sum in a sandbox is worth. -/
noncomputable def Try.pinned : Pinned := { name := "ytlkoecfkmaifiaa", sum := "ea43bc2b1b4c5c0df2b9b9b228389633ea34e52c076063ad63173ec0edc5195b", checked := Try.checked }
namespace Rows
def none {H : Type} : Left H := { results := [], args := [] }

/-- 'wayfinderlaw13.WireNumbers': WHATEVER THE INPUT: true; the input reads as it did. -/
def wireNumbersSpec : ChangeSpec := { name := "wireNumbers", fn := fun _ => fun
  | [d1, d2] => { results := [.lit (.bool true)], args := [d1, d2] }
  | _ => none }
def wireNumbersRow : OpenClaim := { program := "ytlkoecfkmaifiaa", sum := "ea43bc2b1b4c5c0df2b9b9b228389633ea34e52c076063ad63173ec0edc5195b", func := "wayfinder/wayfinderlaw13.WireNumbers", spec := "wireNumbers", apart := false }
def WireNumbersSaid : Prop := wireNumbersRow.holds Try.pinned (OpenSpec.ofChange wireNumbersSpec)

/-- ITS FALSE NEIGHBOUR: 'it returns false'. Refute it at one input. -/
def wireNumbersWrong : ChangeSpec := { name := "wireNumbers", fn := fun _ => fun
  | [d1, d2] => { results := [.lit (.bool false)], args := [d1, d2] }
  | _ => none }
def WireNumbersWrongFalsely : Prop := wireNumbersRow.holds Try.pinned (OpenSpec.ofChange wireNumbersWrong)

/-- 'wayfinderlaw13.WireReads': WHATEVER THE INPUT: true; the input reads as it did. -/
def wireReadsSpec : ChangeSpec := { name := "wireReads", fn := fun _ => fun
  | [d] => { results := [.lit (.bool true)], args := [d] }
  | _ => none }
def wireReadsRow : OpenClaim := { program := "ytlkoecfkmaifiaa", sum := "ea43bc2b1b4c5c0df2b9b9b228389633ea34e52c076063ad63173ec0edc5195b", func := "wayfinder/wayfinderlaw13.WireReads", spec := "wireReads", apart := false }
def WireReadsSaid : Prop := wireReadsRow.holds Try.pinned (OpenSpec.ofChange wireReadsSpec)

/-- ITS FALSE NEIGHBOUR: 'it returns false'. Refute it at one input. -/
def wireReadsWrong : ChangeSpec := { name := "wireReads", fn := fun _ => fun
  | [d] => { results := [.lit (.bool false)], args := [d] }
  | _ => none }
def WireReadsWrongFalsely : Prop := wireReadsRow.holds Try.pinned (OpenSpec.ofChange wireReadsWrong)

/-- 'wayfinderlaw13.WireIntegers': WHATEVER THE INPUT: true; the input reads as it did. -/
def wireIntegersSpec : ChangeSpec := { name := "wireIntegers", fn := fun _ => fun
  | [d1, d2] => { results := [.lit (.bool true)], args := [d1, d2] }
  | _ => none }
def wireIntegersRow : OpenClaim := { program := "ytlkoecfkmaifiaa", sum := "ea43bc2b1b4c5c0df2b9b9b228389633ea34e52c076063ad63173ec0edc5195b", func := "wayfinder/wayfinderlaw13.WireIntegers", spec := "wireIntegers", recurses := true, apart := false }
def WireIntegersSaid : Prop := wireIntegersRow.holds Try.pinned (OpenSpec.ofChange wireIntegersSpec)

/-- ITS FALSE NEIGHBOUR: 'it returns false'. Refute it at one input. -/
def wireIntegersWrong : ChangeSpec := { name := "wireIntegers", fn := fun _ => fun
  | [d1, d2] => { results := [.lit (.bool false)], args := [d1, d2] }
  | _ => none }
def WireIntegersWrongFalsely : Prop := wireIntegersRow.holds Try.pinned (OpenSpec.ofChange wireIntegersWrong)

/-- 'wayfinderlaw13.WireSums': WHATEVER THE INPUT: true; the input reads as it did. -/
def wireSumsSpec : ChangeSpec := { name := "wireSums", fn := fun _ => fun
  | [d] => { results := [.lit (.bool true)], args := [d] }
  | _ => none }
def wireSumsRow : OpenClaim := { program := "ytlkoecfkmaifiaa", sum := "ea43bc2b1b4c5c0df2b9b9b228389633ea34e52c076063ad63173ec0edc5195b", func := "wayfinder/wayfinderlaw13.WireSums", spec := "wireSums", apart := false }
def WireSumsSaid : Prop := wireSumsRow.holds Try.pinned (OpenSpec.ofChange wireSumsSpec)

/-- ITS FALSE NEIGHBOUR: 'it returns false'. Refute it at one input. -/
def wireSumsWrong : ChangeSpec := { name := "wireSums", fn := fun _ => fun
  | [d] => { results := [.lit (.bool false)], args := [d] }
  | _ => none }
def WireSumsWrongFalsely : Prop := wireSumsRow.holds Try.pinned (OpenSpec.ofChange wireSumsWrong)

/-- 'wayfinderlaw13.WireBits': WHATEVER THE INPUT: true; the input reads as it did. -/
def wireBitsSpec : ChangeSpec := { name := "wireBits", fn := fun _ => fun
  | [d1, d2, d3] => { results := [.lit (.bool true)], args := [d1, d2, d3] }
  | _ => none }
def wireBitsRow : OpenClaim := { program := "ytlkoecfkmaifiaa", sum := "ea43bc2b1b4c5c0df2b9b9b228389633ea34e52c076063ad63173ec0edc5195b", func := "wayfinder/wayfinderlaw13.WireBits", spec := "wireBits", apart := false }
def WireBitsSaid : Prop := wireBitsRow.holds Try.pinned (OpenSpec.ofChange wireBitsSpec)

/-- ITS FALSE NEIGHBOUR: 'it returns false'. Refute it at one input. -/
def wireBitsWrong : ChangeSpec := { name := "wireBits", fn := fun _ => fun
  | [d1, d2, d3] => { results := [.lit (.bool false)], args := [d1, d2, d3] }
  | _ => none }
def WireBitsWrongFalsely : Prop := wireBitsRow.holds Try.pinned (OpenSpec.ofChange wireBitsWrong)

/-- 'wayfinderlaw13.WireFrames': WHATEVER THE INPUT: true; the input reads as it did. -/
def wireFramesSpec : ChangeSpec := { name := "wireFrames", fn := fun _ => fun
  | [d1, d2, d3] => { results := [.lit (.bool true)], args := [d1, d2, d3] }
  | _ => none }
def wireFramesRow : OpenClaim := { program := "ytlkoecfkmaifiaa", sum := "ea43bc2b1b4c5c0df2b9b9b228389633ea34e52c076063ad63173ec0edc5195b", func := "wayfinder/wayfinderlaw13.WireFrames", spec := "wireFrames", recurses := true, apart := false }
def WireFramesSaid : Prop := wireFramesRow.holds Try.pinned (OpenSpec.ofChange wireFramesSpec)

/-- ITS FALSE NEIGHBOUR: 'it returns false'. Refute it at one input. -/
def wireFramesWrong : ChangeSpec := { name := "wireFrames", fn := fun _ => fun
  | [d1, d2, d3] => { results := [.lit (.bool false)], args := [d1, d2, d3] }
  | _ => none }
def WireFramesWrongFalsely : Prop := wireFramesRow.holds Try.pinned (OpenSpec.ofChange wireFramesWrong)

/-- 'wayfinderlaw13.WireUnframes': WHATEVER THE INPUT: true; the input reads as it did. -/
def wireUnframesSpec : ChangeSpec := { name := "wireUnframes", fn := fun _ => fun
  | [d] => { results := [.lit (.bool true)], args := [d] }
  | _ => none }
def wireUnframesRow : OpenClaim := { program := "ytlkoecfkmaifiaa", sum := "ea43bc2b1b4c5c0df2b9b9b228389633ea34e52c076063ad63173ec0edc5195b", func := "wayfinder/wayfinderlaw13.WireUnframes", spec := "wireUnframes", recurses := true, apart := false }
def WireUnframesSaid : Prop := wireUnframesRow.holds Try.pinned (OpenSpec.ofChange wireUnframesSpec)

/-- ITS FALSE NEIGHBOUR: 'it returns false'. Refute it at one input. -/
def wireUnframesWrong : ChangeSpec := { name := "wireUnframes", fn := fun _ => fun
  | [d] => { results := [.lit (.bool false)], args := [d] }
  | _ => none }
def WireUnframesWrongFalsely : Prop := wireUnframesRow.holds Try.pinned (OpenSpec.ofChange wireUnframesWrong)

/-- 'wayfinderlaw13.WireTorn': WHATEVER THE INPUT: true; the input reads as it did. -/
def wireTornSpec : ChangeSpec := { name := "wireTorn", fn := fun _ => fun
  | [d1, d2, d3] => { results := [.lit (.bool true)], args := [d1, d2, d3] }
  | _ => none }
def wireTornRow : OpenClaim := { program := "ytlkoecfkmaifiaa", sum := "ea43bc2b1b4c5c0df2b9b9b228389633ea34e52c076063ad63173ec0edc5195b", func := "wayfinder/wayfinderlaw13.WireTorn", spec := "wireTorn", recurses := true, apart := false }
def WireTornSaid : Prop := wireTornRow.holds Try.pinned (OpenSpec.ofChange wireTornSpec)

/-- ITS FALSE NEIGHBOUR: 'it returns false'. Refute it at one input. -/
def wireTornWrong : ChangeSpec := { name := "wireTorn", fn := fun _ => fun
  | [d1, d2, d3] => { results := [.lit (.bool false)], args := [d1, d2, d3] }
  | _ => none }
def WireTornWrongFalsely : Prop := wireTornRow.holds Try.pinned (OpenSpec.ofChange wireTornWrong)

/-- 'wayfinderlaw13.WireChanges': WHATEVER THE INPUT: true; the input reads as it did. -/
def wireChangesSpec : ChangeSpec := { name := "wireChanges", fn := fun _ => fun
  | [d1, d2, d3] => { results := [.lit (.bool true)], args := [d1, d2, d3] }
  | _ => none }
def wireChangesRow : OpenClaim := { program := "ytlkoecfkmaifiaa", sum := "ea43bc2b1b4c5c0df2b9b9b228389633ea34e52c076063ad63173ec0edc5195b", func := "wayfinder/wayfinderlaw13.WireChanges", spec := "wireChanges", recurses := true, apart := false }
def WireChangesSaid : Prop := wireChangesRow.holds Try.pinned (OpenSpec.ofChange wireChangesSpec)

/-- ITS FALSE NEIGHBOUR: 'it returns false'. Refute it at one input. -/
def wireChangesWrong : ChangeSpec := { name := "wireChanges", fn := fun _ => fun
  | [d1, d2, d3] => { results := [.lit (.bool false)], args := [d1, d2, d3] }
  | _ => none }
def WireChangesWrongFalsely : Prop := wireChangesRow.holds Try.pinned (OpenSpec.ofChange wireChangesWrong)

/-- 'wayfinderlaw13.WireBytes': WHATEVER THE INPUT: true; the input reads as it did. -/
def wireBytesSpec : ChangeSpec := { name := "wireBytes", fn := fun _ => fun
  | [d1, d2, d3] => { results := [.lit (.bool true)], args := [d1, d2, d3] }
  | _ => none }
def wireBytesRow : OpenClaim := { program := "ytlkoecfkmaifiaa", sum := "ea43bc2b1b4c5c0df2b9b9b228389633ea34e52c076063ad63173ec0edc5195b", func := "wayfinder/wayfinderlaw13.WireBytes", spec := "wireBytes", apart := false }
def WireBytesSaid : Prop := wireBytesRow.holds Try.pinned (OpenSpec.ofChange wireBytesSpec)

/-- ITS FALSE NEIGHBOUR: 'it returns false'. Refute it at one input. -/
def wireBytesWrong : ChangeSpec := { name := "wireBytes", fn := fun _ => fun
  | [d1, d2, d3] => { results := [.lit (.bool false)], args := [d1, d2, d3] }
  | _ => none }
def WireBytesWrongFalsely : Prop := wireBytesRow.holds Try.pinned (OpenSpec.ofChange wireBytesWrong)

/- THE SECOND FORM. 'bulk': how many values and letters a reading holds, each counted each time it is reached (what is shared counts as often as it is met; a slice's spare places count too). A statement '..UptoSaid' is the law's where the arguments, and the package variables that the reading takes, are together of bulk at most 1048576: NARROWER than '..Said'. Prove '..Said' where nothing that the law and all that it calls make is longer than what came in: it says more and counts as full. Else prove '..UptoSaid'. A law counts once. -/
mutual
def uptoBulk {H : Type} : DataW H → Nat
  | .lit (.string bytes) => bytes.length + 1
  | .lit _ => 1
  | .nil => 1
  | .ptr d => uptoBulk d + 1
  | .slice elems spare => uptoBulkAll elems + uptoBulkAll spare + 1
  | .agg parts => uptoBulkAll parts + 1
  | .iface _ d => uptoBulk d + 1
  | .map entries => uptoBulkEntries entries + 1
  | .held _ => 1
def uptoBulkAll {H : Type} : List (DataW H) → Nat
  | [] => 0
  | d :: r => uptoBulk d + uptoBulkAll r
def uptoBulkEntries {H : Type} : List (Lit × DataW H) → Nat
  | [] => 0
  | x :: r => uptoBulkEntry x + uptoBulkEntries r
def uptoBulkEntry {H : Type} : Lit × DataW H → Nat
  | (.string bytes, d) => bytes.length + uptoBulk d + 1
  | (_, d) => uptoBulk d + 1
 end
def uptoSmall : (H : Type) → List (DataW H) → Bool := fun _ ds => decide (uptoBulkAll ds ≤ 1048576)
def OpenSpec.upto (s : _root_.Go.ChangeSpec) : _root_.Go.OpenSpec := { _root_.Go.OpenSpec.ofChange s with cond := some uptoSmall }

/-- 'wayfinderlaw13.WireNumbers', WHERE WHAT IT READS IS OF BULK AT MOST 1048576: true; the input reads as it did. -/
def wireNumbersUptoRow : OpenClaim := { program := "ytlkoecfkmaifiaa", sum := "ea43bc2b1b4c5c0df2b9b9b228389633ea34e52c076063ad63173ec0edc5195b", func := "wayfinder/wayfinderlaw13.WireNumbers", spec := "wireNumbers", apart := false, narrowed := true }
def WireNumbersUptoSaid : Prop := wireNumbersUptoRow.holds Try.pinned (OpenSpec.upto wireNumbersSpec)

/-- 'wayfinderlaw13.WireReads', WHERE WHAT IT READS IS OF BULK AT MOST 1048576: true; the input reads as it did. -/
def wireReadsUptoRow : OpenClaim := { program := "ytlkoecfkmaifiaa", sum := "ea43bc2b1b4c5c0df2b9b9b228389633ea34e52c076063ad63173ec0edc5195b", func := "wayfinder/wayfinderlaw13.WireReads", spec := "wireReads", apart := false, narrowed := true }
def WireReadsUptoSaid : Prop := wireReadsUptoRow.holds Try.pinned (OpenSpec.upto wireReadsSpec)

/-- 'wayfinderlaw13.WireIntegers', WHERE WHAT IT READS IS OF BULK AT MOST 1048576: true; the input reads as it did. -/
def wireIntegersUptoRow : OpenClaim := { program := "ytlkoecfkmaifiaa", sum := "ea43bc2b1b4c5c0df2b9b9b228389633ea34e52c076063ad63173ec0edc5195b", func := "wayfinder/wayfinderlaw13.WireIntegers", spec := "wireIntegers", recurses := true, apart := false, narrowed := true }
def WireIntegersUptoSaid : Prop := wireIntegersUptoRow.holds Try.pinned (OpenSpec.upto wireIntegersSpec)

/-- 'wayfinderlaw13.WireSums', WHERE WHAT IT READS IS OF BULK AT MOST 1048576: true; the input reads as it did. -/
def wireSumsUptoRow : OpenClaim := { program := "ytlkoecfkmaifiaa", sum := "ea43bc2b1b4c5c0df2b9b9b228389633ea34e52c076063ad63173ec0edc5195b", func := "wayfinder/wayfinderlaw13.WireSums", spec := "wireSums", apart := false, narrowed := true }
def WireSumsUptoSaid : Prop := wireSumsUptoRow.holds Try.pinned (OpenSpec.upto wireSumsSpec)

/-- 'wayfinderlaw13.WireBits', WHERE WHAT IT READS IS OF BULK AT MOST 1048576: true; the input reads as it did. -/
def wireBitsUptoRow : OpenClaim := { program := "ytlkoecfkmaifiaa", sum := "ea43bc2b1b4c5c0df2b9b9b228389633ea34e52c076063ad63173ec0edc5195b", func := "wayfinder/wayfinderlaw13.WireBits", spec := "wireBits", apart := false, narrowed := true }
def WireBitsUptoSaid : Prop := wireBitsUptoRow.holds Try.pinned (OpenSpec.upto wireBitsSpec)

/-- 'wayfinderlaw13.WireFrames', WHERE WHAT IT READS IS OF BULK AT MOST 1048576: true; the input reads as it did. -/
def wireFramesUptoRow : OpenClaim := { program := "ytlkoecfkmaifiaa", sum := "ea43bc2b1b4c5c0df2b9b9b228389633ea34e52c076063ad63173ec0edc5195b", func := "wayfinder/wayfinderlaw13.WireFrames", spec := "wireFrames", recurses := true, apart := false, narrowed := true }
def WireFramesUptoSaid : Prop := wireFramesUptoRow.holds Try.pinned (OpenSpec.upto wireFramesSpec)

/-- 'wayfinderlaw13.WireUnframes', WHERE WHAT IT READS IS OF BULK AT MOST 1048576: true; the input reads as it did. -/
def wireUnframesUptoRow : OpenClaim := { program := "ytlkoecfkmaifiaa", sum := "ea43bc2b1b4c5c0df2b9b9b228389633ea34e52c076063ad63173ec0edc5195b", func := "wayfinder/wayfinderlaw13.WireUnframes", spec := "wireUnframes", recurses := true, apart := false, narrowed := true }
def WireUnframesUptoSaid : Prop := wireUnframesUptoRow.holds Try.pinned (OpenSpec.upto wireUnframesSpec)

/-- 'wayfinderlaw13.WireTorn', WHERE WHAT IT READS IS OF BULK AT MOST 1048576: true; the input reads as it did. -/
def wireTornUptoRow : OpenClaim := { program := "ytlkoecfkmaifiaa", sum := "ea43bc2b1b4c5c0df2b9b9b228389633ea34e52c076063ad63173ec0edc5195b", func := "wayfinder/wayfinderlaw13.WireTorn", spec := "wireTorn", recurses := true, apart := false, narrowed := true }
def WireTornUptoSaid : Prop := wireTornUptoRow.holds Try.pinned (OpenSpec.upto wireTornSpec)

/-- 'wayfinderlaw13.WireChanges', WHERE WHAT IT READS IS OF BULK AT MOST 1048576: true; the input reads as it did. -/
def wireChangesUptoRow : OpenClaim := { program := "ytlkoecfkmaifiaa", sum := "ea43bc2b1b4c5c0df2b9b9b228389633ea34e52c076063ad63173ec0edc5195b", func := "wayfinder/wayfinderlaw13.WireChanges", spec := "wireChanges", recurses := true, apart := false, narrowed := true }
def WireChangesUptoSaid : Prop := wireChangesUptoRow.holds Try.pinned (OpenSpec.upto wireChangesSpec)

/-- 'wayfinderlaw13.WireBytes', WHERE WHAT IT READS IS OF BULK AT MOST 1048576: true; the input reads as it did. -/
def wireBytesUptoRow : OpenClaim := { program := "ytlkoecfkmaifiaa", sum := "ea43bc2b1b4c5c0df2b9b9b228389633ea34e52c076063ad63173ec0edc5195b", func := "wayfinder/wayfinderlaw13.WireBytes", spec := "wireBytes", apart := false, narrowed := true }
def WireBytesUptoSaid : Prop := wireBytesUptoRow.holds Try.pinned (OpenSpec.upto wireBytesSpec)

end Rows
end Go.Proofs.Ytlkoecfkmaifiaa
