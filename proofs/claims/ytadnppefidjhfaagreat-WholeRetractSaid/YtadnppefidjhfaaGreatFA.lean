/-
  Plain laws of the chapter Path, part 1: plans, cells, steps.
-/
import Derived.Test.YtadnppefidjhfaaGreatFS
namespace Go.AE
open Go.Proofs Go.RowKit
set_option maxRecDepth 100000

theorem u64w {n : Int} (h1 : 0 ≤ n) (h2 : n ≤ 18446744073709551615) : IntKind.u64.wrap n = n := by
  rw [IntKind.wrap_u64]; omega
theorem idxO_nat {α : Type} (l : List α) (i : Nat) : idxO l (i : Int) = l[i]? := by
  unfold idxO; simp
theorem roomy_ok {n b : Nat} (h : n * b ≤ 1000000000) : roomy n b = true := by
  unfold roomy; simp; omega

/-! ### Plans -/

theorem all_le {l : List Int} : l.all (fun x => decide (x ≤ 2)) = true ↔ ∀ x ∈ l, x ≤ 2 := by
  simp [List.all_eq_true]

/-! ### Cells -/

theorem ix_w {p : Pl} (hp : p.Ok) {c : Pt} (hc : p.inP c) : IntKind.i64.wrap (IntKind.i64.wrap (c.Y * p.W) + c.X) = ((p.ix c : Nat) : Int) := by
  have h1 := Pl.ix_val hc
  have h2 := hp.w1
  have h3 := hp.w2
  have h4 := hp.h2
  have hc2 := hc
  unfold Pl.inP at hc2
  have hm := mulb (a := c.Y) (b := p.W) (A := 64) (B := 64) (by omega) (by omega) (by omega) (by omega)
  rw [w64 (n := c.Y * p.W) (by omega) (by omega), h1, w64 (by omega) (by omega)]

theorem cell_get {p : Pl} (hp : p.Ok) {c : Pt} (hc : p.inP c) : p.C[p.ix c]? = some (p.C.getD (p.ix c) 0) := by
  have := Pl.ix_lt hp hc
  rw [List.getD_eq_getElem?_getD, List.getElem?_eq_getElem this]; rfl

/-- The value of a cell. -/
def Pl.val (p : Pl) (c : Pt) : Int := if p.inP c then p.C.getD (p.ix c) 0 else 2

theorem val_free {p : Pl} {c : Pt} : p.val c = 1 ↔ p.free c := by
  unfold Pl.val Pl.free
  by_cases hc : p.inP c <;> simp [hc]


end Go.AE
