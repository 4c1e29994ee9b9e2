/-
  What (tally).list and tile.Pack hand back: definitions.
-/
import Derived.Test.YtadnppefidjhfaaGreatF
import Derived.Test.YtadnppefidjhfaaGreatAeS
namespace Go.AE
open Go.Proofs Go.RowKit
set_option maxRecDepth 100000

instance : Inhabited En := ⟨⟨0, 0, 0, 0⟩⟩
/-- An entry counts something. -/
def nzE (x : En) : Bool := !f65 x.X x.Y x.A x.B
/-- By (Y, X). -/
def leE (a b : En) : Bool := decide (a.Y < b.Y ∨ a.Y = b.Y ∧ a.X ≤ b.X)
def sortE (l : List En) : List En := l.mergeSort leE
def apartE (l : List En) : Bool := decide (l.Pairwise fun a b => ¬ (a.X = b.X ∧ a.Y = b.Y))
/-- What a tally's list holds. -/
def listE (l : List (Pt × En)) : List En := sortE ((l.map (·.2)).filter nzE)
/-- A tally: no cell twice. -/
def okTl (l : List (Pt × En)) : Bool := decide (l.length ≤ 1000000) && apartE (l.map (·.2))
def S36 : FS := ⟨[[.mo]], [⟨[.one (.one (.mp 0))], [.map 66 68]⟩], [⟨[.one (.one (.sl 1))], [.map 66 68, .arr 68]⟩], [[.v]], []⟩
def f36 (x : List (Pt × En) × Unit) : Option (Nat × List (Pt × En) × List En × Unit) :=
  bif okTl x.1 then some ((listE x.1).length, x.1, listE x.1 ++ List.replicate (x.1.length - (listE x.1).length) (En.mk 0 0 0 0), ()) else none
noncomputable def F36 : CF tC := mkF tC S36 f36

/-- The list of the fixed calls. -/
def awk : List En := [⟨0, 0, 0, 1⟩, ⟨1, 0, 1, 0⟩, ⟨2, 0, 1, 0⟩]
end Go.AE
