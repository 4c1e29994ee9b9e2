/-
  NARROWER THAN 'FOR EVERY INPUT', by the rows' own cells (each row's printed sentence says how): FloorFits: laid · FloorRooms: laid · FloorShrinks: laid · FloorChecks: laid · FloorTurns: laid · FloorFour: laid · FloorKeeps: laid · FloorMazes: laid · FloorGates: laid.
  DERIVED. THE GIVEN ROWS OF THIS SEAT. 9 by the template 'for every input the law returns true; each argument reads behind the call as it read before'; 0 by the template 'total and deterministic' (their statements: YthelgkjfdjnmeaaDoorTotals.lean).
  GIVEN WITH THE SEED: the statements are not yours to turn. If you find one false, say at which input.
  Laid BY PROGRAM, IN A SANDBOX (cutbox-rows.mjs): the forced cells as the released guide's own fill.sh prints them over the translation 851039dd9da7b4fe… (all of the seat's roots in one cut). By AI agents, Wed Nov 11 2026. No macro, syntax, notation, axiom, sorry.
-/
import Derived.Test.YthelgkjfdjnmeaaDoorChecked
import GoSem.Claim
import GoSem.ClaimJoined
import GoSem.ClaimMapViews
import Derived.JoinedTies
import Derived.KernelRfl
namespace Go.Proofs.YthelgkjfdjnmeaaDoor
/- THE CELL 'sum', in the pinned program and in every row, IS THE sha256 OF THE DUMP (.gsa) THAT YthelgkjfdjnmeaaDoorProg.lean LOADS. Nothing in Lean hashes anything: it is a label: what it is worth is what the hold of that sum in a sandbox is worth. -/
noncomputable def Tryd.pinned : Pinned := { name := "ythelgkjfdjnmeaadoor", sum := "851039dd9da7b4feb67f03cbe55731a2d30d04e363b9a67a49ee7ba6cd9cec08", checked := Tryd.checked }
namespace Rows
def none {H : Type} : Left H := { results := [], args := [] }

/- WHAT THE LISTED PACKAGE-LEVEL VARIABLES READ AS WHEN THE CALL BEGINS. Each datum BY PROGRAM (the guide's laid-datum.mjs) off the statement by which the dump's own 'gosem.cut.vars' lays the variable. In a bare row this is a premise. The card (YthelgkjfdjnmeaaDoorCards.lean) ties it to the program's text. -/
def laid_wayfinder_floor_sides {H : Type} : DataW H := .agg [.agg [.lit (.int .i64 1), .lit (.int .i64 0)], .agg [.lit (.int .i64 0), .lit (.int .i64 1)], .agg [.lit (.int .i64 (-1)), .lit (.int .i64 0)], .agg [.lit (.int .i64 0), .lit (.int .i64 (-1))]]

/-- 'wayfinderlaw09.FloorFits': WHATEVER THE INPUT: true; the input reads as it did. -/
def floorFitsSpec : ChangeSpec := { name := "floorFits", fn := fun _ => fun
  | [d1, d2, d3] => { results := [.lit (.bool true)], args := [d1, d2, d3] }
  | _ => none }
def floorFitsRow : OpenClaim := { program := "ythelgkjfdjnmeaadoor", sum := "851039dd9da7b4feb67f03cbe55731a2d30d04e363b9a67a49ee7ba6cd9cec08", func := "wayfinder/wayfinderlaw09.FloorFits", spec := "floorFits", inPlace := ["internal/bytealg.IndexByte"], named := ["wayfinder/floor.sides"], apart := false, laid := [("wayfinder/floor.sides", laid_wayfinder_floor_sides)] }
def FloorFitsSaid : Prop := floorFitsRow.holds Tryd.pinned (OpenSpec.ofChange floorFitsSpec)

/-- ITS FALSE NEIGHBOUR: 'it returns false'. Refute it at one input. -/
def floorFitsWrong : ChangeSpec := { name := "floorFits", fn := fun _ => fun
  | [d1, d2, d3] => { results := [.lit (.bool false)], args := [d1, d2, d3] }
  | _ => none }
def FloorFitsWrongFalsely : Prop := floorFitsRow.holds Tryd.pinned (OpenSpec.ofChange floorFitsWrong)

/-- 'wayfinderlaw09.FloorRooms': WHATEVER THE INPUT: true; the input reads as it did. -/
def floorRoomsSpec : ChangeSpec := { name := "floorRooms", fn := fun _ => fun
  | [d] => { results := [.lit (.bool true)], args := [d] }
  | _ => none }
def floorRoomsRow : OpenClaim := { program := "ythelgkjfdjnmeaadoor", sum := "851039dd9da7b4feb67f03cbe55731a2d30d04e363b9a67a49ee7ba6cd9cec08", func := "wayfinder/wayfinderlaw09.FloorRooms", spec := "floorRooms", inPlace := ["internal/bytealg.IndexByte"], named := ["wayfinder/floor.sides"], apart := false, laid := [("wayfinder/floor.sides", laid_wayfinder_floor_sides)] }
def FloorRoomsSaid : Prop := floorRoomsRow.holds Tryd.pinned (OpenSpec.ofChange floorRoomsSpec)

/-- ITS FALSE NEIGHBOUR: 'it returns false'. Refute it at one input. -/
def floorRoomsWrong : ChangeSpec := { name := "floorRooms", fn := fun _ => fun
  | [d] => { results := [.lit (.bool false)], args := [d] }
  | _ => none }
def FloorRoomsWrongFalsely : Prop := floorRoomsRow.holds Tryd.pinned (OpenSpec.ofChange floorRoomsWrong)

/-- 'wayfinderlaw09.FloorShrinks': WHATEVER THE INPUT: true; the input reads as it did. -/
def floorShrinksSpec : ChangeSpec := { name := "floorShrinks", fn := fun _ => fun
  | [d1, d2, d3] => { results := [.lit (.bool true)], args := [d1, d2, d3] }
  | _ => none }
def floorShrinksRow : OpenClaim := { program := "ythelgkjfdjnmeaadoor", sum := "851039dd9da7b4feb67f03cbe55731a2d30d04e363b9a67a49ee7ba6cd9cec08", func := "wayfinder/wayfinderlaw09.FloorShrinks", spec := "floorShrinks", inPlace := ["internal/bytealg.IndexByte"], named := ["wayfinder/floor.sides"], apart := false, laid := [("wayfinder/floor.sides", laid_wayfinder_floor_sides)] }
def FloorShrinksSaid : Prop := floorShrinksRow.holds Tryd.pinned (OpenSpec.ofChange floorShrinksSpec)

/-- ITS FALSE NEIGHBOUR: 'it returns false'. Refute it at one input. -/
def floorShrinksWrong : ChangeSpec := { name := "floorShrinks", fn := fun _ => fun
  | [d1, d2, d3] => { results := [.lit (.bool false)], args := [d1, d2, d3] }
  | _ => none }
def FloorShrinksWrongFalsely : Prop := floorShrinksRow.holds Tryd.pinned (OpenSpec.ofChange floorShrinksWrong)

/-- 'wayfinderlaw09.FloorChecks': WHATEVER THE INPUT: true; the input reads as it did. -/
def floorChecksSpec : ChangeSpec := { name := "floorChecks", fn := fun _ => fun
  | [d1, d2, d3] => { results := [.lit (.bool true)], args := [d1, d2, d3] }
  | _ => none }
def floorChecksRow : OpenClaim := { program := "ythelgkjfdjnmeaadoor", sum := "851039dd9da7b4feb67f03cbe55731a2d30d04e363b9a67a49ee7ba6cd9cec08", func := "wayfinder/wayfinderlaw09.FloorChecks", spec := "floorChecks", inPlace := ["internal/bytealg.IndexByte"], named := ["wayfinder/floor.sides"], apart := false, laid := [("wayfinder/floor.sides", laid_wayfinder_floor_sides)] }
def FloorChecksSaid : Prop := floorChecksRow.holds Tryd.pinned (OpenSpec.ofChange floorChecksSpec)

/-- ITS FALSE NEIGHBOUR: 'it returns false'. Refute it at one input. -/
def floorChecksWrong : ChangeSpec := { name := "floorChecks", fn := fun _ => fun
  | [d1, d2, d3] => { results := [.lit (.bool false)], args := [d1, d2, d3] }
  | _ => none }
def FloorChecksWrongFalsely : Prop := floorChecksRow.holds Tryd.pinned (OpenSpec.ofChange floorChecksWrong)

/-- 'wayfinderlaw09.FloorTurns': WHATEVER THE INPUT: true; the input reads as it did. -/
def floorTurnsSpec : ChangeSpec := { name := "floorTurns", fn := fun _ => fun
  | [d1, d2] => { results := [.lit (.bool true)], args := [d1, d2] }
  | _ => none }
def floorTurnsRow : OpenClaim := { program := "ythelgkjfdjnmeaadoor", sum := "851039dd9da7b4feb67f03cbe55731a2d30d04e363b9a67a49ee7ba6cd9cec08", func := "wayfinder/wayfinderlaw09.FloorTurns", spec := "floorTurns", inPlace := ["internal/bytealg.IndexByte"], named := ["wayfinder/floor.sides"], apart := false, laid := [("wayfinder/floor.sides", laid_wayfinder_floor_sides)] }
def FloorTurnsSaid : Prop := floorTurnsRow.holds Tryd.pinned (OpenSpec.ofChange floorTurnsSpec)

/-- ITS FALSE NEIGHBOUR: 'it returns false'. Refute it at one input. -/
def floorTurnsWrong : ChangeSpec := { name := "floorTurns", fn := fun _ => fun
  | [d1, d2] => { results := [.lit (.bool false)], args := [d1, d2] }
  | _ => none }
def FloorTurnsWrongFalsely : Prop := floorTurnsRow.holds Tryd.pinned (OpenSpec.ofChange floorTurnsWrong)

/-- 'wayfinderlaw09.FloorFour': WHATEVER THE INPUT: true; the input reads as it did. -/
def floorFourSpec : ChangeSpec := { name := "floorFour", fn := fun _ => fun
  | [d1, d2, d3] => { results := [.lit (.bool true)], args := [d1, d2, d3] }
  | _ => none }
def floorFourRow : OpenClaim := { program := "ythelgkjfdjnmeaadoor", sum := "851039dd9da7b4feb67f03cbe55731a2d30d04e363b9a67a49ee7ba6cd9cec08", func := "wayfinder/wayfinderlaw09.FloorFour", spec := "floorFour", inPlace := ["internal/bytealg.IndexByte"], named := ["wayfinder/floor.sides"], apart := false, laid := [("wayfinder/floor.sides", laid_wayfinder_floor_sides)] }
def FloorFourSaid : Prop := floorFourRow.holds Tryd.pinned (OpenSpec.ofChange floorFourSpec)

/-- ITS FALSE NEIGHBOUR: 'it returns false'. Refute it at one input. -/
def floorFourWrong : ChangeSpec := { name := "floorFour", fn := fun _ => fun
  | [d1, d2, d3] => { results := [.lit (.bool false)], args := [d1, d2, d3] }
  | _ => none }
def FloorFourWrongFalsely : Prop := floorFourRow.holds Tryd.pinned (OpenSpec.ofChange floorFourWrong)

/-- 'wayfinderlaw09.FloorKeeps': WHATEVER THE INPUT: true; the input reads as it did. -/
def floorKeepsSpec : ChangeSpec := { name := "floorKeeps", fn := fun _ => fun
  | [d1, d2, d3] => { results := [.lit (.bool true)], args := [d1, d2, d3] }
  | _ => none }
def floorKeepsRow : OpenClaim := { program := "ythelgkjfdjnmeaadoor", sum := "851039dd9da7b4feb67f03cbe55731a2d30d04e363b9a67a49ee7ba6cd9cec08", func := "wayfinder/wayfinderlaw09.FloorKeeps", spec := "floorKeeps", inPlace := ["internal/bytealg.IndexByte"], named := ["wayfinder/floor.sides"], apart := false, laid := [("wayfinder/floor.sides", laid_wayfinder_floor_sides)] }
def FloorKeepsSaid : Prop := floorKeepsRow.holds Tryd.pinned (OpenSpec.ofChange floorKeepsSpec)

/-- ITS FALSE NEIGHBOUR: 'it returns false'. Refute it at one input. -/
def floorKeepsWrong : ChangeSpec := { name := "floorKeeps", fn := fun _ => fun
  | [d1, d2, d3] => { results := [.lit (.bool false)], args := [d1, d2, d3] }
  | _ => none }
def FloorKeepsWrongFalsely : Prop := floorKeepsRow.holds Tryd.pinned (OpenSpec.ofChange floorKeepsWrong)

/-- 'wayfinderlaw09.FloorMazes': WHATEVER THE INPUT: true; the input reads as it did. -/
def floorMazesSpec : ChangeSpec := { name := "floorMazes", fn := fun _ => fun
  | [d1, d2, d3] => { results := [.lit (.bool true)], args := [d1, d2, d3] }
  | _ => none }
def floorMazesRow : OpenClaim := { program := "ythelgkjfdjnmeaadoor", sum := "851039dd9da7b4feb67f03cbe55731a2d30d04e363b9a67a49ee7ba6cd9cec08", func := "wayfinder/wayfinderlaw09.FloorMazes", spec := "floorMazes", inPlace := ["internal/bytealg.IndexByte", "internal/bytealg.MakeNoZero"], unfollowed := true, recurses := true, named := ["wayfinder/floor.sides"], apart := false, laid := [("wayfinder/floor.sides", laid_wayfinder_floor_sides)] }
def FloorMazesSaid : Prop := floorMazesRow.holds Tryd.pinned (OpenSpec.ofChange floorMazesSpec)

/-- ITS FALSE NEIGHBOUR: 'it returns false'. Refute it at one input. -/
def floorMazesWrong : ChangeSpec := { name := "floorMazes", fn := fun _ => fun
  | [d1, d2, d3] => { results := [.lit (.bool false)], args := [d1, d2, d3] }
  | _ => none }
def FloorMazesWrongFalsely : Prop := floorMazesRow.holds Tryd.pinned (OpenSpec.ofChange floorMazesWrong)

/-- 'wayfinderlaw09.FloorGates': WHATEVER THE INPUT: true; the input reads as it did. -/
def floorGatesSpec : ChangeSpec := { name := "floorGates", fn := fun _ => fun
  | [d1, d2, d3] => { results := [.lit (.bool true)], args := [d1, d2, d3] }
  | _ => none }
def floorGatesRow : OpenClaim := { program := "ythelgkjfdjnmeaadoor", sum := "851039dd9da7b4feb67f03cbe55731a2d30d04e363b9a67a49ee7ba6cd9cec08", func := "wayfinder/wayfinderlaw09.FloorGates", spec := "floorGates", inPlace := ["internal/bytealg.IndexByte", "internal/bytealg.MakeNoZero"], unfollowed := true, recurses := true, named := ["wayfinder/floor.sides"], apart := false, laid := [("wayfinder/floor.sides", laid_wayfinder_floor_sides)] }
def FloorGatesSaid : Prop := floorGatesRow.holds Tryd.pinned (OpenSpec.ofChange floorGatesSpec)

/-- ITS FALSE NEIGHBOUR: 'it returns false'. Refute it at one input. -/
def floorGatesWrong : ChangeSpec := { name := "floorGates", fn := fun _ => fun
  | [d1, d2, d3] => { results := [.lit (.bool false)], args := [d1, d2, d3] }
  | _ => none }
def FloorGatesWrongFalsely : Prop := floorGatesRow.holds Tryd.pinned (OpenSpec.ofChange floorGatesWrong)

/- THE SECOND FORM. 'bulk': how many values and letters a reading holds, each counted each time it is reached (what is shared counts as often as it is met; a slice's spare places count too). A statement '..UptoSaid' is the law's where the arguments, and the package variables that the reading takes, are together of bulk at most 1048576: NARROWER than '..Said'. Prove '..Said' where nothing that the law and all that it calls make is longer than what came in: it says more and counts as full. Else prove '..UptoSaid'. A law counts once. -/
mutual
def uptoBulk {H : Type} : DataW H → Nat
  | .lit (.string bytes) => bytes.length + 1
  | .lit _ => 1
  | .nil => 1
  | .ptr d => uptoBulk d + 1
  | .slice elems spare => uptoBulkAll elems + uptoBulkAll spare + 1
  | .agg parts => uptoBulkAll parts + 1
  | .iface _ d => uptoBulk d + 1
  | .map entries => uptoBulkEntries entries + 1
  | .held _ => 1
def uptoBulkAll {H : Type} : List (DataW H) → Nat
  | [] => 0
  | d :: r => uptoBulk d + uptoBulkAll r
def uptoBulkEntries {H : Type} : List (Lit × DataW H) → Nat
  | [] => 0
  | x :: r => uptoBulkEntry x + uptoBulkEntries r
def uptoBulkEntry {H : Type} : Lit × DataW H → Nat
  | (.string bytes, d) => bytes.length + uptoBulk d + 1
  | (_, d) => uptoBulk d + 1
 end
def uptoSmall : (H : Type) → List (DataW H) → Bool := fun _ ds => decide (uptoBulkAll ds ≤ 1048576)
def OpenSpec.upto (s : _root_.Go.ChangeSpec) : _root_.Go.OpenSpec := { _root_.Go.OpenSpec.ofChange s with cond := some uptoSmall }

/-- 'wayfinderlaw09.FloorFits', WHERE WHAT IT READS IS OF BULK AT MOST 1048576: true; the input reads as it did. -/
def floorFitsUptoRow : OpenClaim := { program := "ythelgkjfdjnmeaadoor", sum := "851039dd9da7b4feb67f03cbe55731a2d30d04e363b9a67a49ee7ba6cd9cec08", func := "wayfinder/wayfinderlaw09.FloorFits", spec := "floorFits", inPlace := ["internal/bytealg.IndexByte"], named := ["wayfinder/floor.sides"], apart := false, laid := [("wayfinder/floor.sides", laid_wayfinder_floor_sides)], narrowed := true }
def FloorFitsUptoSaid : Prop := floorFitsUptoRow.holds Tryd.pinned (OpenSpec.upto floorFitsSpec)

/-- 'wayfinderlaw09.FloorRooms', WHERE WHAT IT READS IS OF BULK AT MOST 1048576: true; the input reads as it did. -/
def floorRoomsUptoRow : OpenClaim := { program := "ythelgkjfdjnmeaadoor", sum := "851039dd9da7b4feb67f03cbe55731a2d30d04e363b9a67a49ee7ba6cd9cec08", func := "wayfinder/wayfinderlaw09.FloorRooms", spec := "floorRooms", inPlace := ["internal/bytealg.IndexByte"], named := ["wayfinder/floor.sides"], apart := false, laid := [("wayfinder/floor.sides", laid_wayfinder_floor_sides)], narrowed := true }
def FloorRoomsUptoSaid : Prop := floorRoomsUptoRow.holds Tryd.pinned (OpenSpec.upto floorRoomsSpec)

/-- 'wayfinderlaw09.FloorShrinks', WHERE WHAT IT READS IS OF BULK AT MOST 1048576: true; the input reads as it did. -/
def floorShrinksUptoRow : OpenClaim := { program := "ythelgkjfdjnmeaadoor", sum := "851039dd9da7b4feb67f03cbe55731a2d30d04e363b9a67a49ee7ba6cd9cec08", func := "wayfinder/wayfinderlaw09.FloorShrinks", spec := "floorShrinks", inPlace := ["internal/bytealg.IndexByte"], named := ["wayfinder/floor.sides"], apart := false, laid := [("wayfinder/floor.sides", laid_wayfinder_floor_sides)], narrowed := true }
def FloorShrinksUptoSaid : Prop := floorShrinksUptoRow.holds Tryd.pinned (OpenSpec.upto floorShrinksSpec)

/-- 'wayfinderlaw09.FloorChecks', WHERE WHAT IT READS IS OF BULK AT MOST 1048576: true; the input reads as it did. -/
def floorChecksUptoRow : OpenClaim := { program := "ythelgkjfdjnmeaadoor", sum := "851039dd9da7b4feb67f03cbe55731a2d30d04e363b9a67a49ee7ba6cd9cec08", func := "wayfinder/wayfinderlaw09.FloorChecks", spec := "floorChecks", inPlace := ["internal/bytealg.IndexByte"], named := ["wayfinder/floor.sides"], apart := false, laid := [("wayfinder/floor.sides", laid_wayfinder_floor_sides)], narrowed := true }
def FloorChecksUptoSaid : Prop := floorChecksUptoRow.holds Tryd.pinned (OpenSpec.upto floorChecksSpec)

/-- 'wayfinderlaw09.FloorTurns', WHERE WHAT IT READS IS OF BULK AT MOST 1048576: true; the input reads as it did. -/
def floorTurnsUptoRow : OpenClaim := { program := "ythelgkjfdjnmeaadoor", sum := "851039dd9da7b4feb67f03cbe55731a2d30d04e363b9a67a49ee7ba6cd9cec08", func := "wayfinder/wayfinderlaw09.FloorTurns", spec := "floorTurns", inPlace := ["internal/bytealg.IndexByte"], named := ["wayfinder/floor.sides"], apart := false, laid := [("wayfinder/floor.sides", laid_wayfinder_floor_sides)], narrowed := true }
def FloorTurnsUptoSaid : Prop := floorTurnsUptoRow.holds Tryd.pinned (OpenSpec.upto floorTurnsSpec)

/-- 'wayfinderlaw09.FloorFour', WHERE WHAT IT READS IS OF BULK AT MOST 1048576: true; the input reads as it did. -/
def floorFourUptoRow : OpenClaim := { program := "ythelgkjfdjnmeaadoor", sum := "851039dd9da7b4feb67f03cbe55731a2d30d04e363b9a67a49ee7ba6cd9cec08", func := "wayfinder/wayfinderlaw09.FloorFour", spec := "floorFour", inPlace := ["internal/bytealg.IndexByte"], named := ["wayfinder/floor.sides"], apart := false, laid := [("wayfinder/floor.sides", laid_wayfinder_floor_sides)], narrowed := true }
def FloorFourUptoSaid : Prop := floorFourUptoRow.holds Tryd.pinned (OpenSpec.upto floorFourSpec)

/-- 'wayfinderlaw09.FloorKeeps', WHERE WHAT IT READS IS OF BULK AT MOST 1048576: true; the input reads as it did. -/
def floorKeepsUptoRow : OpenClaim := { program := "ythelgkjfdjnmeaadoor", sum := "851039dd9da7b4feb67f03cbe55731a2d30d04e363b9a67a49ee7ba6cd9cec08", func := "wayfinder/wayfinderlaw09.FloorKeeps", spec := "floorKeeps", inPlace := ["internal/bytealg.IndexByte"], named := ["wayfinder/floor.sides"], apart := false, laid := [("wayfinder/floor.sides", laid_wayfinder_floor_sides)], narrowed := true }
def FloorKeepsUptoSaid : Prop := floorKeepsUptoRow.holds Tryd.pinned (OpenSpec.upto floorKeepsSpec)

/-- 'wayfinderlaw09.FloorMazes', WHERE WHAT IT READS IS OF BULK AT MOST 1048576: true; the input reads as it did. -/
def floorMazesUptoRow : OpenClaim := { program := "ythelgkjfdjnmeaadoor", sum := "851039dd9da7b4feb67f03cbe55731a2d30d04e363b9a67a49ee7ba6cd9cec08", func := "wayfinder/wayfinderlaw09.FloorMazes", spec := "floorMazes", inPlace := ["internal/bytealg.IndexByte", "internal/bytealg.MakeNoZero"], unfollowed := true, recurses := true, named := ["wayfinder/floor.sides"], apart := false, laid := [("wayfinder/floor.sides", laid_wayfinder_floor_sides)], narrowed := true }
def FloorMazesUptoSaid : Prop := floorMazesUptoRow.holds Tryd.pinned (OpenSpec.upto floorMazesSpec)

/-- 'wayfinderlaw09.FloorGates', WHERE WHAT IT READS IS OF BULK AT MOST 1048576: true; the input reads as it did. -/
def floorGatesUptoRow : OpenClaim := { program := "ythelgkjfdjnmeaadoor", sum := "851039dd9da7b4feb67f03cbe55731a2d30d04e363b9a67a49ee7ba6cd9cec08", func := "wayfinder/wayfinderlaw09.FloorGates", spec := "floorGates", inPlace := ["internal/bytealg.IndexByte", "internal/bytealg.MakeNoZero"], unfollowed := true, recurses := true, named := ["wayfinder/floor.sides"], apart := false, laid := [("wayfinder/floor.sides", laid_wayfinder_floor_sides)], narrowed := true }
def FloorGatesUptoSaid : Prop := floorGatesUptoRow.holds Tryd.pinned (OpenSpec.upto floorGatesSpec)

end Rows
end Go.Proofs.YthelgkjfdjnmeaaDoor
