/-
  The chapter Floor, part 10: the reference's Solid; FloorChecks.
-/
import Derived.Test.YthelgkjfdjnmeaaDoorL
namespace Go.AE
open Go.Proofs Go.RowKit
set_option maxRecDepth 100000

theorem edge_b {p : Pl} {x y : Int} : edge p ⟨x, y⟩ ↔ (x == 0 || (y == 0 || (x == p.W - 1 || y == p.H - 1))) = true := by
  unfold edge
  simp

theorem r23_6_spec {p : Pl} (hp : p.Ok) {y x : Int} (hc : p.inP ⟨x, y⟩) :
    (edge p ⟨x, y⟩ ∧ p.val ⟨x, y⟩ ≠ 2 → r23_6 (y, x, p.W, p.H, p.C, ()) = some (.inr (.inl (false, ())))) ∧
      (¬ (edge p ⟨x, y⟩ ∧ p.val ⟨x, y⟩ ≠ 2) → r23_6 (y, x, p.W, p.H, p.C, ()) = some (.inl (y, x + 1, p.W, p.H, p.C, ()))) := by
  have hw2 := hp.w2
  have hh2 := hp.h2
  have h41 : f41 (p.W, p.H, p.C, x, y, ()) = some (p.val ⟨x, y⟩, ()) := f41_spec hp ⟨x, y⟩
  have hin := hc
  unfold Pl.inP at hin
  simp only at hin
  have w2 : IntKind.i64.wrap (p.W - 1) = p.W - 1 := w64 (by omega) (by omega)
  have w3 : IntKind.i64.wrap (p.H - 1) = p.H - 1 := w64 (by omega) (by omega)
  have w4 : IntKind.i64.wrap (x + 1) = x + 1 := w64 (by omega) (by omega)
  have c1 : x < p.W := hin.2.1
  have hv : p.val ⟨x, y⟩ ≠ 2 ↔ (p.val ⟨x, y⟩ != 2) = true := by simp
  rw [edge_b, hv]
  unfold r23_6
  simp only [c1, decide_true, cond_true, h41, Option.bind_some, j23_25, w2, w3, w4]
  generalize (p.val ⟨x, y⟩ != 2) = b5
  generalize (x == 0) = b1
  generalize (y == 0) = b2
  generalize (x == p.W - 1) = b3
  generalize (y == p.H - 1) = b4
  cases b1 <;> cases b2 <;> cases b3 <;> cases b4 <;> cases b5 <;> simp

open Classical in
theorem l23_6_spec {p : Pl} (hp : p.Ok) {y : Int} (hy : 0 ≤ y ∧ y < p.H) :
    l23_6 (y, 0, p.W, p.H, p.C, ()) = some (if ∃ x, 0 ≤ x ∧ x ≤ p.W - 1 ∧ (edge p ⟨x, y⟩ ∧ p.val ⟨x, y⟩ ≠ 2) then .inl (false, ()) else .inr (y, p.W, p.H, p.C, ())) := by
  have hw := hp.w1
  have hin : ∀ k : Int, 0 ≤ k → k ≤ p.W - 1 → p.inP ⟨k, y⟩ := fun k k1 k2 => by unfold Pl.inP; simp only; omega
  refine scan (f := r23_6) (fun k => (y, k, p.W, p.H, p.C, ())) (fun x => edge p ⟨x, y⟩ ∧ p.val ⟨x, y⟩ ≠ 2) _ (p.W - 1) _ 0 rfl (by omega) (fun k k1 k2 hb => (r23_6_spec hp (hin k k1 k2)).1 hb) (fun k k1 k2 hb => (r23_6_spec hp (hin k k1 k2)).2 hb) ?_
  have c1 : ¬ p.W - 1 + 1 < p.W := by omega
  unfold r23_6
  simp only [c1, decide_false, cond_false]

open Classical in
theorem l23_0_spec {p : Pl} (hp : p.Ok) :
    l23_0 (0, p.W, p.H, p.C, ()) = some (if ∃ y, 0 ≤ y ∧ y ≤ p.H - 1 ∧ ∃ x, 0 ≤ x ∧ x ≤ p.W - 1 ∧ (edge p ⟨x, y⟩ ∧ p.val ⟨x, y⟩ ≠ 2) then .inl (false, ()) else .inr ()) := by
  have hh := hp.h1
  have hh2 := hp.h2
  refine scan (f := r23_0) (fun k => (k, p.W, p.H, p.C, ())) (fun y => ∃ x, 0 ≤ x ∧ x ≤ p.W - 1 ∧ (edge p ⟨x, y⟩ ∧ p.val ⟨x, y⟩ ≠ 2)) _ (p.H - 1) _ 0 rfl (by omega) (fun k k1 k2 hb => ?_) (fun k k1 k2 hb => ?_) ?_
  · have hl := l23_6_spec hp (y := k) (by omega)
    rw [if_pos hb] at hl
    have c1 : k < p.H := by omega
    unfold r23_0
    simp only [c1, decide_true, cond_true, hl, Option.bind_some, Sum.elim_inl]
  · have hl := l23_6_spec hp (y := k) (by omega)
    rw [if_neg hb] at hl
    have c1 : k < p.H := by omega
    have w5 : IntKind.i64.wrap (k + 1) = k + 1 := w64 (by omega) (by omega)
    unfold r23_0
    simp only [c1, decide_true, cond_true, hl, Option.bind_some, Sum.elim_inr, w5]
  · have c1 : ¬ p.H - 1 + 1 < p.H := by omega
    unfold r23_0
    simp only [c1, decide_false, cond_false]

open Classical in
/-- The reference's Solid. -/
theorem f23_spec (p : Pl) (hl : p.C.length ≤ 4096) : f23 (p.W, p.H, p.C, ()) = some (decide (Solid p), ()) := by
  unfold f23
  simp only [f32_spec (p := p) (by omega), Option.bind_some]
  by_cases hb : p.bld = true
  · have hv : p.vld = true ∧ p.known = true := by unfold Pl.bld at hb; simpa using hb
    have hp := Pl.vld_ok hv.1 hl
    simp only [hb, Bool.not_true, cond_false, l23_0_spec hp, Option.bind_some]
    by_cases hex : ∃ y, 0 ≤ y ∧ y ≤ p.H - 1 ∧ ∃ x, 0 ≤ x ∧ x ≤ p.W - 1 ∧ (edge p ⟨x, y⟩ ∧ p.val ⟨x, y⟩ ≠ 2)
    · have : ¬ Solid p := fun h => by
        obtain ⟨y, y1, y2, x, x1, x2, x3, x4⟩ := hex
        exact x4 (h.2 ⟨x, y⟩ (by unfold Pl.inP; simp only; omega) x3)
      rw [if_pos hex]
      simp only [Sum.elim_inl, this, decide_false]
    · have : Solid p := ⟨hb, fun c hc he => Classical.byContradiction fun hn => hex ⟨c.Y, by unfold Pl.inP at hc; omega, by unfold Pl.inP at hc; omega, c.X, by unfold Pl.inP at hc; omega, by unfold Pl.inP at hc; omega, he, hn⟩⟩
      rw [if_neg hex]
      simp only [Sum.elim_inr, this, decide_true]
  · have hnf : ¬ Solid p := fun h => hb h.1
    have hb' : p.bld = false := by simpa using hb
    simp only [hb', Bool.not_false, cond_true, hnf, decide_false]

end Go.AE
