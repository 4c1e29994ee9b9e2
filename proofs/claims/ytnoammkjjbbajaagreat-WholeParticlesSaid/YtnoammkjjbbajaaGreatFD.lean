/-
  The chapter Floor, part 3: Fits, by both ways.
-/
import Derived.Test.YtnoammkjjbbajaaGreatFC
namespace Go.AE
open Go.Proofs Go.RowKit
set_option maxRecDepth 100000

/-- The point lies in the closed rectangle of the plan. -/
def inRp (p : Pl) (a : Pt) : Prop := 0 ≤ a.X ∧ 0 ≤ a.Y ∧ a.X ≤ p.W * 64 ∧ a.Y ≤ p.H * 64
instance (p : Pl) (a : Pt) : Decidable (inRp p a) := by unfold inRp; infer_instance

theorem hit_out {p : Pl} (hp : p.Ok) {a : Pt} {r : Int} (h : ¬ inRp p a) : hit p a r ⟨a.X / 64, a.Y / 64⟩ := by
  have hw := hp.w1
  have hh := hp.h1
  refine ⟨?_, ?_⟩
  · unfold Pl.val
    rw [if_neg]
    intro hin
    unfold Pl.inP at hin
    unfold inRp at h
    simp only at hin
    omega
  · have g1 : gp a.X (a.X / 64) = 0 := by unfold gp; omega
    have g2 : gp a.Y (a.Y / 64) = 0 := by unfold gp; omega
    unfold gap2
    simp only [g1, g2]
    have := sq_nonneg' r
    omega

theorem hit_cell {p : Pl} {a c : Pt} {r : Int} (hr : 0 ≤ r) (h : hit p a r c) : ((a.X - r) / 64 - 1 ≤ c.X ∧ c.X ≤ (a.X + r) / 64 + 1) ∧ (a.Y - r) / 64 - 1 ≤ c.Y ∧ c.Y ≤ (a.Y + r) / 64 + 1 := by
  obtain ⟨h1, h2⟩ := hit_gp hr h
  unfold gp at h1 h2
  omega

theorem f64_spec {p : Pl} (hp : p.Ok) (a : Pt) : f64 p.W p.H p.C a.X a.Y = decide (inRp p a) := by
  have h1 := hp.w1
  have h2 := hp.w2
  have h3 := hp.h1
  have h4 := hp.h2
  unfold f64 inRp
  rw [w64 (n := p.W * 64) (by omega) (by omega), w64 (n := p.H * 64) (by omega) (by omega)]
  by_cases q1 : 0 ≤ a.X
  · have e1 : a.X ≥ 0 := q1
    by_cases q2 : 0 ≤ a.Y
    · have e2 : a.Y ≥ 0 := q2
      by_cases q3 : a.X ≤ p.W * 64
      · simp [q1, q2, q3]
      · simp [q1, q2, q3]
    · have e2 : ¬ a.Y ≥ 0 := q2
      simp [q1, q2]
  · have e1 : ¬ a.X ≥ 0 := q1
    simp [q1]

section
variable {p : Pl} {a : Pt} {r : Int}

theorem f28_in (hp : p.Ok) (ha : nearP a) (hr : 0 ≤ r ∧ r ≤ 1024) {y x : Int} (h1 : (a.X - r) / 64 - 1 ≤ x) (h2 : x ≤ (a.X + r) / 64 + 1) :
    (okC ⟨x, y⟩ ∧ hit p a r ⟨x, y⟩ → r28_6 (r, y, x, p.W, p.H, p.C, a.X, a.Y, ()) = some (.inr (.inl (false, ())))) ∧
      (¬ (okC ⟨x, y⟩ ∧ hit p a r ⟨x, y⟩) → r28_6 (r, y, x, p.W, p.H, p.C, a.X, a.Y, ()) = some (.inl (r, y, x + 1, p.W, p.H, p.C, a.X, a.Y, ()))) := by
  have hn := ha
  unfold nearP at hn
  have w1 : IntKind.i64.wrap (a.X + r) = a.X + r := w64 (by omega) (by omega)
  have w2 : IntKind.i64.wrap ((a.X + r) / 64 + 1) = (a.X + r) / 64 + 1 := w64 (by omega) (by omega)
  have w3 : IntKind.i64.wrap (x + 1) = x + 1 := w64 (by omega) (by omega)
  have hrr : r * r ≤ 1024 * 1024 := Int.mul_le_mul hr.2 hr.2 hr.1 (by omega)
  have w4 : IntKind.i64.wrap (r * r) = r * r := w64 (by have := sq_nonneg' r; omega) (by omega)
  have hs := f61_spec ⟨x, y⟩
  have hv := f62_spec hp ⟨x, y⟩
  simp only at hs hv
  by_cases ho : okC ⟨x, y⟩
  · have e := hs.1 ho
    have hg := f63_spec ha ho
    simp only at hg
    by_cases hv2 : p.val ⟨x, y⟩ = 2
    · by_cases hgap : gap2 a ⟨x, y⟩ ≤ r * r
      · refine ⟨fun _ => ?_, fun h => (h ⟨ho, hv2, hgap⟩).elim⟩
        unfold r28_6
        simp only [f60_eq, w1, w2, h2, decide_true, cond_true, e, hv, Option.bind_some, hv2, beq_self_eq_true, hg, w4, hgap]
      · refine ⟨fun h => (hgap h.2.2).elim, fun _ => ?_⟩
        unfold r28_6
        simp only [f60_eq, w1, w2, h2, decide_true, cond_true, e, hv, Option.bind_some, hv2, beq_self_eq_true, hg, w4, hgap, decide_false, cond_false, j28_28, w3]
    · have hv3 : (p.val ⟨x, y⟩ == 2) = false := by simpa using hv2
      refine ⟨fun h => (hv2 h.2.1).elim, fun _ => ?_⟩
      unfold r28_6
      simp only [f60_eq, w1, w2, h2, decide_true, cond_true, e, hv, Option.bind_some, hv3, cond_false, j28_28, w3]
  · have e := hs.2 ho
    refine ⟨fun h => (ho h.1).elim, fun _ => ?_⟩
    unfold r28_6
    simp only [f60_eq, w1, w2, h2, decide_true, cond_true, e, cond_false, j28_28, Option.bind_some, w3]

open Classical in
theorem l28_6_spec (hp : p.Ok) (ha : nearP a) (hr : 0 ≤ r ∧ r ≤ 1024) {y : Int} :
    l28_6 (r, y, (a.X - r) / 64 - 1, p.W, p.H, p.C, a.X, a.Y, ()) = some (if ∃ x, (a.X - r) / 64 - 1 ≤ x ∧ x ≤ (a.X + r) / 64 + 1 ∧ (okC ⟨x, y⟩ ∧ hit p a r ⟨x, y⟩) then .inl (false, ()) else .inr (r, y, p.W, p.H, p.C, a.X, a.Y, ())) := by
  have hn := ha
  unfold nearP at hn
  refine scan (f := r28_6) (fun k => (r, y, k, p.W, p.H, p.C, a.X, a.Y, ())) _ _ ((a.X + r) / 64 + 1) _ _ rfl (by omega) (fun k k1 k2 hb => (f28_in hp ha hr k1 k2).1 hb) (fun k k1 k2 hb => (f28_in hp ha hr k1 k2).2 hb) ?_
  have w1 : IntKind.i64.wrap (a.X + r) = a.X + r := w64 (by omega) (by omega)
  have w2 : IntKind.i64.wrap ((a.X + r) / 64 + 1) = (a.X + r) / 64 + 1 := w64 (by omega) (by omega)
  have c1 : ¬ (a.X + r) / 64 + 1 + 1 ≤ (a.X + r) / 64 + 1 := by omega
  unfold r28_6
  simp only [f60_eq, w1, w2, c1, decide_false, cond_false]

open Classical in
theorem l28_0_spec (hp : p.Ok) (ha : nearP a) (hr : 0 ≤ r ∧ r ≤ 1024) :
    l28_0 (r, (a.Y - r) / 64 - 1, p.W, p.H, p.C, a.X, a.Y, ()) = some (if ∃ y, (a.Y - r) / 64 - 1 ≤ y ∧ y ≤ (a.Y + r) / 64 + 1 ∧ ∃ x, (a.X - r) / 64 - 1 ≤ x ∧ x ≤ (a.X + r) / 64 + 1 ∧ (okC ⟨x, y⟩ ∧ hit p a r ⟨x, y⟩) then .inl (false, ()) else .inr (p.W, p.H, p.C, a.X, a.Y, ())) := by
  have hn := ha
  unfold nearP at hn
  have w1 : IntKind.i64.wrap (a.Y + r) = a.Y + r := w64 (by omega) (by omega)
  have w2 : IntKind.i64.wrap ((a.Y + r) / 64 + 1) = (a.Y + r) / 64 + 1 := w64 (by omega) (by omega)
  have w3 : IntKind.i64.wrap (a.X - r) = a.X - r := w64 (by omega) (by omega)
  have w4 : IntKind.i64.wrap ((a.X - r) / 64 - 1) = (a.X - r) / 64 - 1 := w64 (by omega) (by omega)
  refine scan (f := r28_0) (fun k => (r, k, p.W, p.H, p.C, a.X, a.Y, ())) _ _ ((a.Y + r) / 64 + 1) _ _ rfl (by omega) (fun k k1 k2 hb => ?_) (fun k k1 k2 hb => ?_) ?_
  · have hl := l28_6_spec hp ha hr (y := k)
    rw [if_pos hb] at hl
    unfold r28_0
    simp only [f60_eq, w1, w2, w3, w4, k2, decide_true, cond_true, hl, Option.bind_some, Sum.elim_inl]
  · have hl := l28_6_spec hp ha hr (y := k)
    rw [if_neg hb] at hl
    have w5 : IntKind.i64.wrap (k + 1) = k + 1 := w64 (by omega) (by omega)
    unfold r28_0
    simp only [f60_eq, w1, w2, w3, w4, k2, decide_true, cond_true, hl, Option.bind_some, Sum.elim_inr, w5]
  · have c1 : ¬ (a.Y + r) / 64 + 1 + 1 ≤ (a.Y + r) / 64 + 1 := by omega
    unfold r28_0
    simp only [f60_eq, w1, w2, c1, decide_false, cond_false]

open Classical in
/-- floor.Fits. -/
theorem f28_spec (p : Pl) (hl : p.C.length ≤ 4096) (a : Pt) (r : Int) : f28 (p.W, p.H, p.C, a.X, a.Y, r, ()) = some (decide (Fit p a r), ()) := by
  obtain ⟨u, v, h33⟩ := f59_spec a
  have h50 := f83_spec a
  unfold f28
  simp only [h33, Option.bind_some]
  by_cases ha : nearP a
  · rw [h50.2 ha]
    simp only [Bool.not_true, cond_false, f26_spec (p := p) (by omega), Option.bind_some]
    by_cases hb : p.bld = true
    · have hv : p.vld = true ∧ p.known = true := by unfold Pl.bld at hb; simpa using hb
      have hp := Pl.vld_ok hv.1 hl
      rw [hv.1, hv.2]
      simp only [if_true, Sum.elim_inr]
      by_cases h0 : r < 0
      · have : ¬ Fit p a r := fun h => by have := h.2.2.1; omega
        simp only [h0, decide_true, cond_true, this, decide_false]
      · by_cases h1 : r > 1024
        · have : ¬ Fit p a r := fun h => by have := h.2.2.1; omega
          simp only [h0, h1, decide_true, decide_false, cond_true, cond_false, this]
        · have hn := ha
          unfold nearP at hn
          have w3 : IntKind.i64.wrap (a.Y - r) = a.Y - r := w64 (by omega) (by omega)
          have w4 : IntKind.i64.wrap ((a.Y - r) / 64 - 1) = (a.Y - r) / 64 - 1 := w64 (by omega) (by omega)
          have hloop := l28_0_spec hp ha (r := r) (by omega)
          simp only [h0, h1, decide_false, cond_false, f60_eq, w3, w4, hloop, Option.bind_some]
          by_cases hex : ∃ y, (a.Y - r) / 64 - 1 ≤ y ∧ y ≤ (a.Y + r) / 64 + 1 ∧ ∃ x, (a.X - r) / 64 - 1 ≤ x ∧ x ≤ (a.X + r) / 64 + 1 ∧ (okC ⟨x, y⟩ ∧ hit p a r ⟨x, y⟩)
          · have : ¬ Fit p a r := fun h => by
              obtain ⟨y, _, _, x, _, _, _, hh⟩ := hex
              exact h.2.2.2 _ hh
            rw [if_pos hex]
            simp only [Sum.elim_inl, this, decide_false]
          · rw [if_neg hex]
            simp only [Sum.elim_inr, f64_spec hp]
            have : inRp p a ↔ Fit p a r := by
              constructor
              · intro hin
                refine ⟨hb, ha, by omega, fun c hc => hex ?_⟩
                obtain ⟨⟨k1, k2⟩, k3, k4⟩ := hit_cell (by omega) hc
                refine ⟨c.Y, k3, k4, c.X, k1, k2, ?_, hc⟩
                have q1 := hp.w2
                have q2 := hp.h2
                unfold inRp at hin
                unfold okC
                simp only
                omega
              · intro hf
                apply Classical.byContradiction
                intro hin
                exact hf.2.2.2 _ (hit_out hp hin)
            simp only [this]
    · have hnf : ¬ Fit p a r := fun h => hb h.1
      unfold Pl.bld at hb
      cases h1 : p.vld <;> cases h2 : p.known <;> simp [h1, h2, hnf] at hb ⊢
  · have : f83 a.X a.Y = false := by
      cases h : f83 a.X a.Y with
      | false => rfl
      | true => exact (ha (h50.1 h)).elim
    have hnf : ¬ Fit p a r := fun h => ha h.2.1
    simp only [this, Bool.not_false, cond_true, hnf, decide_false]
end
end Go.AE
