/-
  The package variable that the laws list: where it reads as listed its cells are the table's; a world in which it does.
-/
import Derived.Test.YthelgkjfdjnmeaaDoorRows
import Derived.Test.YthelgkjfdjnmeaaDoorAeJ
import Derived.Test.YthelgkjfdjnmeaaDoorCfgT
import Derived.LaidHandle
namespace Go.AE
open Go.Proofs Go.RowKit Go.Proofs.YthelgkjfdjnmeaaDoor

theorem glob_of {W : World} (h : laidMetH Tryd.prog [("wayfinder/floor.sides", Rows.laid_wayfinder_floor_sides)] W) : Glob tC (ctx0 W) W := by
  have h : laidMet Tryd.prog [("wayfinder/floor.sides", Rows.laid_wayfinder_floor_sides)] W := h
  obtain ⟨ps, ⟨g, t, cs, fuel, p, q, h1, h2, h3, h4, _⟩, _⟩ := h
  obtain rfl : g = 0 := (Option.some.inj ((show Tryd.prog.globalNamed "wayfinder/floor.sides" = some 0 by kernel_rfl).symm.trans h1)).symm
  obtain rfl : t = 64 := (Option.some.inj ((show (Tryd.prog.globals[0]?).map (·.type) = some 64 by kernel_rfl).symm.trans h2)).symm
  have key := pairs_cells (P := Tryd.prog) (n := 4) (i := 3) (zs := [(1, 0), (0, 1), (-1, 0), (0, -1)]) Tryd.underlying64 Tryd.underlying39 (by kernel_rfl) Tryd.underlying3 (by kernel_rfl) (by kernel_rfl) h4
  have cell : ∀ i, W.cell? ⟨0, i, none⟩ = cs[i]? := World.var?_cell h1 h3
  have k0 := key 0 (by decide)
  have k1 := key 1 (by decide)
  have k2 := key 2 (by decide)
  have k3 := key 3 (by decide)
  simp only [Array.getElem?_toList, ← cell] at k0 k1 k2 k3
  intro g l e
  have hg : tGl g = some l := e
  unfold tGl at hg
  split at hg
  · cases hg
    refine ⟨?_, fun j hj => ?_⟩
    · show 0 < W.heap.size
      have := k0.1
      unfold World.cell? at this
      rcases Nat.eq_zero_or_pos W.heap.size with hz | hz
      · rw [Array.getElem?_eq_none (by show W.heap.size ≤ 0; omega)] at this
        cases this
      · exact hz
    · simp only [List.length_cons, List.length_nil] at hj
      match j, hj with
      | 0, _ => exact ⟨k0.1, k0.2.2.1⟩
      | 1, _ => exact ⟨k0.2.1, k0.2.2.2⟩
      | 2, _ => exact ⟨k1.1, k1.2.2.1⟩
      | 3, _ => exact ⟨k1.2.1, k1.2.2.2⟩
      | 4, _ => exact ⟨k2.1, k2.2.2.1⟩
      | 5, _ => exact ⟨k2.2.1, k2.2.2.2⟩
      | 6, _ => exact ⟨k3.1, k3.2.2.1⟩
      | 7, _ => exact ⟨k3.2.1, k3.2.2.2⟩
  · cases hg

/-- The settled world with the variable's cells laid. -/
noncomputable def laidWorld (os : Os) : World :=
  let w0 := World.holding Tryd.prog os ⟨#[], #[], []⟩
  { w0 with heap := w0.heap.modify 0 fun
      | .cells _ t frozen => .cells #[.int .i64 1, .int .i64 0, .int .i64 0, .int .i64 1, .int .i64 (-1), .int .i64 0, .int .i64 0, .int .i64 (-1)] t frozen
      | o => o }
theorem laidWorld_met (os : Os) (args : Array Value) : laidMetH Tryd.prog [("wayfinder/floor.sides", Rows.laid_wayfinder_floor_sides)] ((laidWorld os).forCall (fun _ _ => 0) ⟨#[], args, []⟩).memory :=
  laidMetH_of_parts (laidMet_of_run' 4 (by kernel_rfl) (by kernel_rfl)) (by kernel_rfl)
end Go.AE
