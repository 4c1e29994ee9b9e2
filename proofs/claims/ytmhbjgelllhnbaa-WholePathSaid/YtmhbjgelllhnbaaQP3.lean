/-
  Plain laws of the chapter Path, part 3: both ways to the costs give the only list of costs.
-/
import Derived.Test.YtmhbjgelllhnbaaQP2
namespace Go.AE
open Go.Proofs Go.RowKit
set_option maxRecDepth 100000

theorem g_get {p : Pl} (hp : p.Ok) {l : List Int} (hl : l.length = p.C.length) {c : Pt} (hc : p.inP c) : l[p.ix c]? = some (p.g l c) := by
  have := Pl.ix_lt hp hc
  unfold Pl.g
  rw [List.getD_eq_getElem?_getD, List.getElem?_eq_getElem (by omega)]; rfl

theorem ix_in {p : Pl} (hp : p.Ok) {l : List Int} (hl : l.length = p.C.length) {c : Pt} (hc : p.inP c) : (0 : Int) ≤ ((p.ix c : Nat) : Int) ∧ ((p.ix c : Nat) : Int) < (l.length : Int) := by
  have := Pl.ix_lt hp hc
  omega

theorem dirs_get {k : Nat} (hk : k < 8) : ∃ d, Pl.dirs[k]? = some d ∧ d ∈ Pl.dirs ∧ Pl.dirs.drop k = d :: Pl.dirs.drop (k + 1) := by
  have h : k < Pl.dirs.length := hk
  exact ⟨Pl.dirs[k], List.getElem?_eq_getElem h, List.getElem_mem h, List.drop_eq_getElem_cons h⟩

/-! ### Improving -/

theorem size_w {p : Pl} (hp : p.Ok) : IntKind.i64.wrap (p.W * p.H) = (p.C.length : Int) := by
  rw [← hp.len, w64 (by have := hp.few; omega) (by have := hp.few; omega)]

end Go.AE
