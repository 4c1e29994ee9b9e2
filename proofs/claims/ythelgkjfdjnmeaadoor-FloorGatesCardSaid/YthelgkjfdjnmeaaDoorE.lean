/-
  The chapter Floor, part 4: the reference's Fits; discs that shrink.
-/
import Derived.Test.YthelgkjfdjnmeaaDoorD
namespace Go.AE
open Go.Proofs Go.RowKit
set_option maxRecDepth 100000

section
variable {p : Pl} {a : Pt} {r : Int}

theorem f15_in (hp : p.Ok) (ha : nearP a) (hr : 0 ≤ r ∧ r ≤ 1024) {y x k : Int} (hk : 0 ≤ k ∧ k ≤ 100) (hy : -20000 ≤ y ∧ y ≤ 20000) (h1 : a.X / 64 - k ≤ x) (h2 : x ≤ a.X / 64 + k) :
    (hit p a r ⟨x, y⟩ → r15_6 (r, a.X / 64, a.Y / 64, k, y, x, p.W, p.H, p.C, a.X, a.Y, ()) = some (.inr (.inl (false, ())))) ∧
      (¬ hit p a r ⟨x, y⟩ → r15_6 (r, a.X / 64, a.Y / 64, k, y, x, p.W, p.H, p.C, a.X, a.Y, ()) = some (.inl (r, a.X / 64, a.Y / 64, k, y, x + 1, p.W, p.H, p.C, a.X, a.Y, ()))) := by
  have hn := ha
  unfold nearP at hn
  have w1 : IntKind.i64.wrap (a.X / 64 + k) = a.X / 64 + k := w64 (by omega) (by omega)
  have w3 : IntKind.i64.wrap (x + 1) = x + 1 := w64 (by omega) (by omega)
  have hrr : r * r ≤ 1024 * 1024 := Int.mul_le_mul hr.2 hr.2 hr.1 (by omega)
  have w4 : IntKind.i64.wrap (r * r) = r * r := w64 (by have := sq_nonneg' r; omega) (by omega)
  have hv := f41_spec hp ⟨x, y⟩
  have hg := f42_spec (c := ⟨x, y⟩) ha (by simp only; omega) (by simp only; omega)
  simp only at hv hg
  by_cases hv2 : p.val ⟨x, y⟩ = 2
  · by_cases hgap : gap2 a ⟨x, y⟩ ≤ r * r
    · refine ⟨fun _ => ?_, fun h => (h ⟨hv2, hgap⟩).elim⟩
      unfold r15_6
      simp only [w1, h2, decide_true, cond_true, hv, Option.bind_some, hv2, beq_self_eq_true, hg, w4, hgap]
    · refine ⟨fun h => (hgap h.2).elim, fun _ => ?_⟩
      unfold r15_6
      simp only [w1, h2, decide_true, cond_true, hv, Option.bind_some, hv2, beq_self_eq_true, hg, w4, hgap, decide_false, cond_false, j15_31, w3]
  · have hv3 : (p.val ⟨x, y⟩ == 2) = false := by simpa using hv2
    refine ⟨fun h => (hv2 h.1).elim, fun _ => ?_⟩
    unfold r15_6
    simp only [w1, h2, decide_true, cond_true, hv, Option.bind_some, hv3, cond_false, j15_31, w3]

open Classical in
theorem l15_6_spec (hp : p.Ok) (ha : nearP a) (hr : 0 ≤ r ∧ r ≤ 1024) {y k : Int} (hk : 0 ≤ k ∧ k ≤ 100) (hy : -20000 ≤ y ∧ y ≤ 20000) :
    l15_6 (r, a.X / 64, a.Y / 64, k, y, a.X / 64 - k, p.W, p.H, p.C, a.X, a.Y, ()) = some (if ∃ x, a.X / 64 - k ≤ x ∧ x ≤ a.X / 64 + k ∧ hit p a r ⟨x, y⟩ then .inl (false, ()) else .inr (r, a.X / 64, a.Y / 64, k, y, p.W, p.H, p.C, a.X, a.Y, ())) := by
  have hn := ha
  unfold nearP at hn
  refine scan (f := r15_6) (fun x => (r, a.X / 64, a.Y / 64, k, y, x, p.W, p.H, p.C, a.X, a.Y, ())) _ _ (a.X / 64 + k) _ _ rfl (by omega) (fun x k1 k2 hb => (f15_in hp ha hr hk hy k1 k2).1 hb) (fun x k1 k2 hb => (f15_in hp ha hr hk hy k1 k2).2 hb) ?_
  have w1 : IntKind.i64.wrap (a.X / 64 + k) = a.X / 64 + k := w64 (by omega) (by omega)
  have c1 : ¬ a.X / 64 + k + 1 ≤ a.X / 64 + k := by omega
  unfold r15_6
  simp only [w1, c1, decide_false, cond_false]

open Classical in
theorem l15_0_spec (hp : p.Ok) (ha : nearP a) (hr : 0 ≤ r ∧ r ≤ 1024) {k : Int} (hk : 0 ≤ k ∧ k ≤ 100) :
    l15_0 (r, a.X / 64, a.Y / 64, k, a.Y / 64 - k, p.W, p.H, p.C, a.X, a.Y, ()) = some (if ∃ y, a.Y / 64 - k ≤ y ∧ y ≤ a.Y / 64 + k ∧ ∃ x, a.X / 64 - k ≤ x ∧ x ≤ a.X / 64 + k ∧ hit p a r ⟨x, y⟩ then .inl (false, ()) else .inr ()) := by
  have hn := ha
  unfold nearP at hn
  have w1 : IntKind.i64.wrap (a.Y / 64 + k) = a.Y / 64 + k := w64 (by omega) (by omega)
  have w3 : IntKind.i64.wrap (a.X / 64 - k) = a.X / 64 - k := w64 (by omega) (by omega)
  refine scan (f := r15_0) (fun y => (r, a.X / 64, a.Y / 64, k, y, p.W, p.H, p.C, a.X, a.Y, ())) _ _ (a.Y / 64 + k) _ _ rfl (by omega) (fun y k1 k2 hb => ?_) (fun y k1 k2 hb => ?_) ?_
  · have hl := l15_6_spec hp ha hr (y := y) hk (by omega)
    rw [if_pos hb] at hl
    unfold r15_0
    simp only [w1, w3, k2, decide_true, cond_true, hl, Option.bind_some, Sum.elim_inl]
  · have hl := l15_6_spec hp ha hr (y := y) hk (by omega)
    rw [if_neg hb] at hl
    have w5 : IntKind.i64.wrap (y + 1) = y + 1 := w64 (by omega) (by omega)
    unfold r15_0
    simp only [w1, w3, k2, decide_true, cond_true, hl, Option.bind_some, Sum.elim_inr, w5]
  · have c1 : ¬ a.Y / 64 + k + 1 ≤ a.Y / 64 + k := by omega
    unfold r15_0
    simp only [w1, c1, decide_false, cond_false]

open Classical in
/-- The reference's Fits. -/
theorem f15_spec (p : Pl) (hl : p.C.length ≤ 4096) (a : Pt) (r : Int) : f15 (p.W, p.H, p.C, a.X, a.Y, r, ()) = some (decide (Fit p a r), ()) := by
  unfold f15
  simp only [f32_spec (p := p) (by omega), Option.bind_some]
  by_cases hb : p.bld = true
  · have hv : p.vld = true ∧ p.known = true := by unfold Pl.bld at hb; simpa using hb
    have hp := Pl.vld_ok hv.1 hl
    simp only [hb, Bool.not_true, cond_false]
    rw [f39_eq]
    by_cases ha : nearP a
    · rw [(f50_spec a).2 ha]
      simp only [Bool.not_true, cond_false]
      by_cases h0 : r < 0
      · have : ¬ Fit p a r := fun h => by have := h.2.2.1; omega
        simp only [h0, decide_true, cond_true, this, decide_false]
      · by_cases h1 : r > 1024
        · have : ¬ Fit p a r := fun h => by have := h.2.2.1; omega
          simp only [h0, h1, decide_true, decide_false, cond_true, cond_false, this]
        · have hn := ha
          unfold nearP at hn
          have e : r.tdiv 64 = r / 64 := Int.tdiv_eq_ediv_of_nonneg (by omega)
          have w1 : IntKind.i64.wrap (r / 64) = r / 64 := w64 (by omega) (by omega)
          have w2 : IntKind.i64.wrap (r / 64 + 2) = r / 64 + 2 := w64 (by omega) (by omega)
          have w3 : IntKind.i64.wrap (a.Y / 64 - (r / 64 + 2)) = a.Y / 64 - (r / 64 + 2) := w64 (by omega) (by omega)
          have hloop := l15_0_spec hp ha (r := r) (k := r / 64 + 2) (by omega) (by omega)
          simp only [h0, h1, decide_false, cond_false, f40_spec hn.1.1 hn.1.2, f40_spec hn.2.1 hn.2.2, Option.bind_some, e, w1, w2, w3, hloop]
          by_cases hex : ∃ y, a.Y / 64 - (r / 64 + 2) ≤ y ∧ y ≤ a.Y / 64 + (r / 64 + 2) ∧ ∃ x, a.X / 64 - (r / 64 + 2) ≤ x ∧ x ≤ a.X / 64 + (r / 64 + 2) ∧ hit p a r ⟨x, y⟩
          · have : ¬ Fit p a r := fun h => by
              obtain ⟨y, _, _, x, _, _, hh⟩ := hex
              exact h.2.2.2 _ hh
            rw [if_pos hex]
            simp only [Sum.elim_inl, this, decide_false]
          · have : Fit p a r := by
              refine ⟨hb, ha, by omega, fun c hc => hex ?_⟩
              obtain ⟨⟨k1, k2⟩, k3, k4⟩ := hit_cell (by omega) hc
              exact ⟨c.Y, by omega, by omega, c.X, by omega, by omega, hc⟩
            rw [if_neg hex]
            simp only [Sum.elim_inr, this, decide_true]
    · have : f50 a.X a.Y = false := by
        cases h : f50 a.X a.Y with
        | false => rfl
        | true => exact (ha ((f50_spec a).1 h)).elim
      have hnf : ¬ Fit p a r := fun h => ha h.2.1
      simp only [this, Bool.not_false, cond_true, hnf, decide_false]
  · have hnf : ¬ Fit p a r := fun h => hb h.1
    have hb' : p.bld = false := by simpa using hb
    simp only [hb', Bool.not_false, cond_true, hnf, decide_false]

/-- What fits is in the plan's rectangle. -/
theorem Fit.inR (hp : p.Ok) (h : Fit p a r) : inR p a := Classical.byContradiction fun hn => h.2.2.2 _ (hit_out hp hn)

/-- A smaller disc at a point nearby. -/
theorem Fit.less (hp : p.Ok) (h : Fit p a r) {d u v : Int} (hd : 0 ≤ d ∧ d ≤ r) (hu : -d ≤ u ∧ u ≤ d) (hv : -d ≤ v ∧ v ≤ d) (huv : ∃ s t : Int, (s = u ∨ s = -u) ∧ (t = v ∨ t = -v) ∧ 0 ≤ s ∧ 0 ≤ t ∧ s + t ≤ d) : Fit p ⟨a.X + u, a.Y + v⟩ (r - d) := by
  have hin := h.inR hp
  have hw := hp.w2
  have hh := hp.h2
  have hr := h.2.2.1
  unfold Go.AE.inR at hin
  refine ⟨h.1, ?_, by omega, fun c hc => h.2.2.2 c ⟨hc.1, ?_⟩⟩
  · unfold nearP
    simp only
    omega
  · obtain ⟨s, t, hs, ht, s0, t0, hst⟩ := huv
    obtain ⟨g1, g2⟩ := hit_gp (by omega) hc
    have h2 := hc.2
    unfold gap2 at h2 ⊢
    simp only at g1 g2 h2
    have n1 := gp_nonneg (a.X + u) c.X
    have n2 := gp_nonneg (a.Y + v) c.Y
    have m1 := gp_nonneg a.X c.X
    have m2 := gp_nonneg a.Y c.Y
    have b1 : gp a.X c.X ≤ gp (a.X + u) c.X + s := by unfold gp; omega
    have b2 : gp a.Y c.Y ≤ gp (a.Y + v) c.Y + t := by unfold gp; omega
    generalize gp a.X c.X = A at *
    generalize gp a.Y c.Y = B at *
    generalize gp (a.X + u) c.X = A' at *
    generalize gp (a.Y + v) c.Y = B' at *
    have e1 : A * A ≤ (A' + s) * (A' + s) := Int.mul_le_mul b1 b1 m1 (by omega)
    have e2 : B * B ≤ (B' + t) * (B' + t) := Int.mul_le_mul b2 b2 m2 (by omega)
    have x1 : (A' + s) * (A' + s) = A' * A' + 2 * (A' * s) + s * s := by rw [Int.add_mul, Int.mul_add, Int.mul_add, Int.mul_comm s A']; omega
    have x2 : (B' + t) * (B' + t) = B' * B' + 2 * (B' * t) + t * t := by rw [Int.add_mul, Int.mul_add, Int.mul_add, Int.mul_comm t B']; omega
    have y1 : A' * s ≤ (r - d) * s := Int.mul_le_mul_of_nonneg_right g1 s0
    have y2 : B' * t ≤ (r - d) * t := Int.mul_le_mul_of_nonneg_right g2 t0
    have z1 : (r - d) * s + (r - d) * t = (r - d) * (s + t) := by rw [Int.mul_add]
    have z2 : (r - d) * (s + t) ≤ (r - d) * d := Int.mul_le_mul_of_nonneg_left hst (by omega)
    have z3 : s * s + t * t ≤ (s + t) * (s + t) := by
      have : (s + t) * (s + t) = s * s + 2 * (s * t) + t * t := by rw [Int.add_mul, Int.mul_add, Int.mul_add, Int.mul_comm t s]; omega
      have := Int.mul_nonneg s0 t0
      omega
    have z4 : (s + t) * (s + t) ≤ d * d := Int.mul_le_mul hst hst (by omega) hd.1
    have z5 : r * r = (r - d) * (r - d) + 2 * ((r - d) * d) + d * d := by
      have : r * r = ((r - d) + d) * ((r - d) + d) := by rw [show r - d + d = r by omega]
      rw [this, Int.add_mul, Int.mul_add, Int.mul_add, Int.mul_comm d (r - d)]; omega
    omega
end
end Go.AE
