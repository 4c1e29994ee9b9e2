/-
  DERIVED. GIVEN WITH THE SEED: THE CARDS: each row of YthelgkjfdjnmeaaDoorRows.lean that lists a variable, with what it lists TIED to the program's text (the seventh form; the later family's looks); each row that meets fmt, with fmt's text TOLD by the authors' own Lean function (tested against real Go, not proved from fmt's source: count such statements apart). THE CARD IS WHAT COUNTS. Prove the row's statement (the work); the ties are given (YthelgkjfdjnmeaaDoorTie.lean); close each card by the builder's one call (the guide's Derived/Test/ToyasCard.lean, 'card_holds'). Laid BY PROGRAM, IN A SANDBOX (cutbox-door.mjs). By AI agents, Wed Nov 11 2026. No macro, syntax, notation, axiom, sorry.
-/
import Derived.Test.YthelgkjfdjnmeaaDoorRows
import GoSem.ClaimSeven
namespace Go.Proofs.YthelgkjfdjnmeaaDoor
namespace Rows

/-- THE TIED CARD OF 'wayfinderlaw09.FloorFits'. -/
def floorFitsCard : Claim7 := { stood := { row := floorFitsRow, standIns := [], harness := (true, "0f732b26d0115816faa953e6331dc43c2b8df19b2dd41d6a31454e20281be15c"), looks := false }, kinds := [], alts := [], laidByText := true, laidKinds := [.data], laidTests := true, laidLooks := .later }
def FloorFitsCardSaid : Prop := Claim7.holds Tryd.pinned (.plain (OpenSpec.ofChange floorFitsSpec)) floorFitsCard

/-- THE TIED CARD OF 'wayfinderlaw09.FloorRooms'. -/
def floorRoomsCard : Claim7 := { stood := { row := floorRoomsRow, standIns := [], harness := (true, "0f732b26d0115816faa953e6331dc43c2b8df19b2dd41d6a31454e20281be15c"), looks := false }, kinds := [], alts := [], laidByText := true, laidKinds := [.data], laidTests := true, laidLooks := .later }
def FloorRoomsCardSaid : Prop := Claim7.holds Tryd.pinned (.plain (OpenSpec.ofChange floorRoomsSpec)) floorRoomsCard

/-- THE TIED CARD OF 'wayfinderlaw09.FloorShrinks'. -/
def floorShrinksCard : Claim7 := { stood := { row := floorShrinksRow, standIns := [], harness := (true, "0f732b26d0115816faa953e6331dc43c2b8df19b2dd41d6a31454e20281be15c"), looks := false }, kinds := [], alts := [], laidByText := true, laidKinds := [.data], laidTests := true, laidLooks := .later }
def FloorShrinksCardSaid : Prop := Claim7.holds Tryd.pinned (.plain (OpenSpec.ofChange floorShrinksSpec)) floorShrinksCard

/-- THE TIED CARD OF 'wayfinderlaw09.FloorChecks'. -/
def floorChecksCard : Claim7 := { stood := { row := floorChecksRow, standIns := [], harness := (true, "0f732b26d0115816faa953e6331dc43c2b8df19b2dd41d6a31454e20281be15c"), looks := false }, kinds := [], alts := [], laidByText := true, laidKinds := [.data], laidTests := true, laidLooks := .later }
def FloorChecksCardSaid : Prop := Claim7.holds Tryd.pinned (.plain (OpenSpec.ofChange floorChecksSpec)) floorChecksCard

/-- THE TIED CARD OF 'wayfinderlaw09.FloorTurns'. -/
def floorTurnsCard : Claim7 := { stood := { row := floorTurnsRow, standIns := [], harness := (true, "0f732b26d0115816faa953e6331dc43c2b8df19b2dd41d6a31454e20281be15c"), looks := false }, kinds := [], alts := [], laidByText := true, laidKinds := [.data], laidTests := true, laidLooks := .later }
def FloorTurnsCardSaid : Prop := Claim7.holds Tryd.pinned (.plain (OpenSpec.ofChange floorTurnsSpec)) floorTurnsCard

/-- THE TIED CARD OF 'wayfinderlaw09.FloorFour'. -/
def floorFourCard : Claim7 := { stood := { row := floorFourRow, standIns := [], harness := (true, "0f732b26d0115816faa953e6331dc43c2b8df19b2dd41d6a31454e20281be15c"), looks := false }, kinds := [], alts := [], laidByText := true, laidKinds := [.data], laidTests := true, laidLooks := .later }
def FloorFourCardSaid : Prop := Claim7.holds Tryd.pinned (.plain (OpenSpec.ofChange floorFourSpec)) floorFourCard

/-- THE TIED CARD OF 'wayfinderlaw09.FloorKeeps'. -/
def floorKeepsCard : Claim7 := { stood := { row := floorKeepsRow, standIns := [], harness := (true, "0f732b26d0115816faa953e6331dc43c2b8df19b2dd41d6a31454e20281be15c"), looks := false }, kinds := [], alts := [], laidByText := true, laidKinds := [.data], laidTests := true, laidLooks := .later }
def FloorKeepsCardSaid : Prop := Claim7.holds Tryd.pinned (.plain (OpenSpec.ofChange floorKeepsSpec)) floorKeepsCard

/-- THE TIED CARD OF 'wayfinderlaw09.FloorMazes'. -/
def floorMazesCard : Claim7 := { stood := { row := floorMazesRow, standIns := [], harness := (true, "0f732b26d0115816faa953e6331dc43c2b8df19b2dd41d6a31454e20281be15c"), looks := false }, kinds := [], alts := [], laidByText := true, laidKinds := [.data], laidTests := true, laidLooks := .later }
def FloorMazesCardSaid : Prop := Claim7.holds Tryd.pinned (.plain (OpenSpec.ofChange floorMazesSpec)) floorMazesCard

/-- THE TIED CARD OF 'wayfinderlaw09.FloorGates'. -/
def floorGatesCard : Claim7 := { stood := { row := floorGatesRow, standIns := [], harness := (true, "0f732b26d0115816faa953e6331dc43c2b8df19b2dd41d6a31454e20281be15c"), looks := false }, kinds := [], alts := [], laidByText := true, laidKinds := [.data], laidTests := true, laidLooks := .later }
def FloorGatesCardSaid : Prop := Claim7.holds Tryd.pinned (.plain (OpenSpec.ofChange floorGatesSpec)) floorGatesCard

/-- THE SECOND FORM's CARD OF 'wayfinderlaw09.FloorFits'. -/
def floorFitsUptoCard : Claim7 := { stood := { row := floorFitsUptoRow, standIns := [], harness := (true, "0f732b26d0115816faa953e6331dc43c2b8df19b2dd41d6a31454e20281be15c"), looks := false }, kinds := [], alts := [], laidByText := true, laidKinds := [.data], laidTests := true, laidLooks := .later }
def FloorFitsUptoCardSaid : Prop := Claim7.holds Tryd.pinned (.plain (OpenSpec.upto floorFitsSpec)) floorFitsUptoCard

/-- THE SECOND FORM's CARD OF 'wayfinderlaw09.FloorRooms'. -/
def floorRoomsUptoCard : Claim7 := { stood := { row := floorRoomsUptoRow, standIns := [], harness := (true, "0f732b26d0115816faa953e6331dc43c2b8df19b2dd41d6a31454e20281be15c"), looks := false }, kinds := [], alts := [], laidByText := true, laidKinds := [.data], laidTests := true, laidLooks := .later }
def FloorRoomsUptoCardSaid : Prop := Claim7.holds Tryd.pinned (.plain (OpenSpec.upto floorRoomsSpec)) floorRoomsUptoCard

/-- THE SECOND FORM's CARD OF 'wayfinderlaw09.FloorShrinks'. -/
def floorShrinksUptoCard : Claim7 := { stood := { row := floorShrinksUptoRow, standIns := [], harness := (true, "0f732b26d0115816faa953e6331dc43c2b8df19b2dd41d6a31454e20281be15c"), looks := false }, kinds := [], alts := [], laidByText := true, laidKinds := [.data], laidTests := true, laidLooks := .later }
def FloorShrinksUptoCardSaid : Prop := Claim7.holds Tryd.pinned (.plain (OpenSpec.upto floorShrinksSpec)) floorShrinksUptoCard

/-- THE SECOND FORM's CARD OF 'wayfinderlaw09.FloorChecks'. -/
def floorChecksUptoCard : Claim7 := { stood := { row := floorChecksUptoRow, standIns := [], harness := (true, "0f732b26d0115816faa953e6331dc43c2b8df19b2dd41d6a31454e20281be15c"), looks := false }, kinds := [], alts := [], laidByText := true, laidKinds := [.data], laidTests := true, laidLooks := .later }
def FloorChecksUptoCardSaid : Prop := Claim7.holds Tryd.pinned (.plain (OpenSpec.upto floorChecksSpec)) floorChecksUptoCard

/-- THE SECOND FORM's CARD OF 'wayfinderlaw09.FloorTurns'. -/
def floorTurnsUptoCard : Claim7 := { stood := { row := floorTurnsUptoRow, standIns := [], harness := (true, "0f732b26d0115816faa953e6331dc43c2b8df19b2dd41d6a31454e20281be15c"), looks := false }, kinds := [], alts := [], laidByText := true, laidKinds := [.data], laidTests := true, laidLooks := .later }
def FloorTurnsUptoCardSaid : Prop := Claim7.holds Tryd.pinned (.plain (OpenSpec.upto floorTurnsSpec)) floorTurnsUptoCard

/-- THE SECOND FORM's CARD OF 'wayfinderlaw09.FloorFour'. -/
def floorFourUptoCard : Claim7 := { stood := { row := floorFourUptoRow, standIns := [], harness := (true, "0f732b26d0115816faa953e6331dc43c2b8df19b2dd41d6a31454e20281be15c"), looks := false }, kinds := [], alts := [], laidByText := true, laidKinds := [.data], laidTests := true, laidLooks := .later }
def FloorFourUptoCardSaid : Prop := Claim7.holds Tryd.pinned (.plain (OpenSpec.upto floorFourSpec)) floorFourUptoCard

/-- THE SECOND FORM's CARD OF 'wayfinderlaw09.FloorKeeps'. -/
def floorKeepsUptoCard : Claim7 := { stood := { row := floorKeepsUptoRow, standIns := [], harness := (true, "0f732b26d0115816faa953e6331dc43c2b8df19b2dd41d6a31454e20281be15c"), looks := false }, kinds := [], alts := [], laidByText := true, laidKinds := [.data], laidTests := true, laidLooks := .later }
def FloorKeepsUptoCardSaid : Prop := Claim7.holds Tryd.pinned (.plain (OpenSpec.upto floorKeepsSpec)) floorKeepsUptoCard

/-- THE SECOND FORM's CARD OF 'wayfinderlaw09.FloorMazes'. -/
def floorMazesUptoCard : Claim7 := { stood := { row := floorMazesUptoRow, standIns := [], harness := (true, "0f732b26d0115816faa953e6331dc43c2b8df19b2dd41d6a31454e20281be15c"), looks := false }, kinds := [], alts := [], laidByText := true, laidKinds := [.data], laidTests := true, laidLooks := .later }
def FloorMazesUptoCardSaid : Prop := Claim7.holds Tryd.pinned (.plain (OpenSpec.upto floorMazesSpec)) floorMazesUptoCard

/-- THE SECOND FORM's CARD OF 'wayfinderlaw09.FloorGates'. -/
def floorGatesUptoCard : Claim7 := { stood := { row := floorGatesUptoRow, standIns := [], harness := (true, "0f732b26d0115816faa953e6331dc43c2b8df19b2dd41d6a31454e20281be15c"), looks := false }, kinds := [], alts := [], laidByText := true, laidKinds := [.data], laidTests := true, laidLooks := .later }
def FloorGatesUptoCardSaid : Prop := Claim7.holds Tryd.pinned (.plain (OpenSpec.upto floorGatesSpec)) floorGatesUptoCard
end Rows
end Go.Proofs.YthelgkjfdjnmeaaDoor
