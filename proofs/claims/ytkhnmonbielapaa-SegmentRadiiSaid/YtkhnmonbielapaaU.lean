/-
  Plain laws of the chapter Segment: Touch at different radii.
-/
import Derived.Test.YtkhnmonbielapaaT
namespace Go.AE
open Go.Proofs Go.RowKit
set_option maxRecDepth 100000

theorem gap_nonneg (x y a b c d : Int) : 0 ≤ gapQ x y a b c d := by
  have := sq_nonneg (bes x a c)
  have := sq_nonneg (bes y b d)
  unfold gapQ; omega

theorem TV.sw {px py qx qy a b c d k : Int} (h : TV px py qx qy a b c d k) : TV qx qy px py a b c d k :=
  ⟨h.q, h.p, h.r, h.k, by have := h.x; omega, by have := h.y; omega⟩

theorem Tch.sw {px py qx qy a b c d k : Int} (h : Tch px py qx qy a b c d k) : Tch qx qy px py a b c d k := by
  obtain ⟨hv, m | g | g | g | g | g | g⟩ := h
  · exact ⟨hv.sw, .inl m.pq⟩
  · exact ⟨hv.sw, .inr (.inr (.inl g))⟩
  · exact ⟨hv.sw, .inr (.inl g)⟩
  · exact ⟨hv.sw, .inr (.inr (.inr (.inl g.sw)))⟩
  · exact ⟨hv.sw, .inr (.inr (.inr (.inr (.inl g.sw))))⟩
  · exact ⟨hv.sw, .inr (.inr (.inr (.inr (.inr (.inl g.sw)))))⟩
  · exact ⟨hv.sw, .inr (.inr (.inr (.inr (.inr (.inr g.sw)))))⟩

theorem Tch.mono {px py qx qy a b c d k : Int} (h : Tch px py qx qy a b c d k) (hk : k ≤ 1023) : Tch px py qx qy a b c d (k + 1) := by
  obtain ⟨hv, h⟩ := h
  have hk0 := hv.k.1
  have h2 : k * k ≤ (k + 1) * (k + 1) := Int.mul_le_mul (by omega) (by omega) hk0 (by omega)
  have hv2 : TV px py qx qy a b c d (k + 1) := ⟨hv.p, hv.q, hv.r, ⟨by omega, by omega⟩, hv.x, hv.y⟩
  rcases h with m | g | g | g | g | g | g
  · exact ⟨hv2, .inl m⟩
  · exact ⟨hv2, .inr (.inl (by omega))⟩
  · exact ⟨hv2, .inr (.inr (.inl (by omega)))⟩
  · exact ⟨hv2, .inr (.inr (.inr (.inl (g.mono hk0 (by omega)))))⟩
  · exact ⟨hv2, .inr (.inr (.inr (.inr (.inl (g.mono hk0 (by omega))))))⟩
  · exact ⟨hv2, .inr (.inr (.inr (.inr (.inr (.inl (g.mono hk0 (by omega)))))))⟩
  · exact ⟨hv2, .inr (.inr (.inr (.inr (.inr (.inr (g.mono hk0 (by omega)))))))⟩

theorem gap_corner {x y a b c d cx cy : Int} (hac : a ≤ c) (hbd : b ≤ d) (hc : (cx = a ∨ cx = c) ∧ (cy = b ∨ cy = d)) : gapQ x y a b c d ≤ sq cx cy x y := by
  have e1 : bes x a c * bes x a c ≤ (cx - x) * (cx - x) := sq_ge (bes_nonneg _ _ _) (by unfold bes; omega)
  have e2 : bes y b d * bes y b d ≤ (cy - y) * (cy - y) := sq_ge (bes_nonneg _ _ _) (by unfold bes; omega)
  unfold gapQ sq; omega

/-- Of one point it compares the gap. -/
theorem Tch.one {px py a b c d k : Int} (hp : nr px ∧ nr py) (hr : VR a b c d) (hk : 0 ≤ k ∧ k ≤ 1024) : Tch px py px py a b c d k ↔ gapQ px py a b c d ≤ k * k := by
  have hw : ∀ {cx cy : Int}, Wi cx cy px py px py k → sq cx cy px py ≤ k * k := by
    intro cx cy h
    unfold Wi at h
    rwa [if_pos (by unfold dt; simp)] at h
  constructor
  · rintro ⟨_, m | g | g | g⟩
    · exact gap_in ⟨by have := m.x1; omega, by have := m.x2; omega, by have := m.y1; omega, by have := m.y2; omega⟩
    · exact g
    · exact g
    · rcases g with g | g | g | g
      · exact Int.le_trans (gap_corner hr.x hr.y (by simp)) (hw g)
      · exact Int.le_trans (gap_corner hr.x hr.y (by simp)) (hw g)
      · exact Int.le_trans (gap_corner hr.x hr.y (by simp)) (hw g)
      · exact Int.le_trans (gap_corner hr.x hr.y (by simp)) (hw g)
  · intro g
    exact ⟨⟨hp, hp, hr, hk, by omega, by omega⟩, .inr (.inl g)⟩

theorem Tch.zero {px py qx qy a b c d : Int} (h : TV px py qx qy a b c d 0) : Tch px py qx qy a b c d 0 ↔ (gapQ px py a b c d = 0 ∨ gapQ qx qy a b c d = 0 ∨ Xs px py qx qy a b c d ∨ Xs px py qx qy a d c b) := by
  have hr := h.r
  have n1 := gap_nonneg px py a b c d
  have n2 := gap_nonneg qx qy a b c d
  have mt : Mt px py qx qy a b c d → (gapQ px py a b c d = 0 ∨ gapQ qx qy a b c d = 0 ∨ Xs px py qx qy a b c d ∨ Xs px py qx qy a d c b) := by
    intro m
    by_cases hp : a ≤ px ∧ px ≤ c ∧ b ≤ py ∧ py ≤ d
    · have := gap_in (k := 0) hp
      exact .inl (by omega)
    · by_cases hq : a ≤ qx ∧ qx ≤ c ∧ b ≤ qy ∧ qy ≤ d
      · have := gap_in (k := 0) hq
        exact .inr (.inl (by omega))
      · exact .inr (.inr (diag_out m (by omega) (by omega)))
  constructor
  · rintro ⟨_, m | g | g | g⟩
    · exact mt m
    · exact .inl (by omega)
    · exact .inr (.inl (by omega))
    · rcases g with g | g | g | g
      · exact mt (Wi.zero hr.x hr.y (by simp) g)
      · exact mt (Wi.zero hr.x hr.y (by simp) g)
      · exact mt (Wi.zero hr.x hr.y (by simp) g)
      · exact mt (Wi.zero hr.x hr.y (by simp) g)
  · rintro (g | g | g | g)
    · exact ⟨h, .inr (.inl (by omega))⟩
    · exact ⟨h, .inr (.inr (.inl (by omega)))⟩
    · exact ⟨h, .inl (mt_of_Xs hr.x hr.y (by simp) (by simp) g)⟩
    · exact ⟨h, .inl (mt_of_Xs hr.x hr.y (by simp) (by simp) g)⟩

theorem f19_nr (n : Int) : f19 n 2097152 = true ↔ nr n := by
  rw [f19_spec (by omega)]; unfold nr; omega

theorem j11_52_spec {on : Bool} {px py qx qy a b c d : Int} (h : on = true ↔ Tch px py qx qy a b c d 0) : j11_52 (on, a, b, c, d, px, py, qx, qy, ()) = some (true, ()) := by
  obtain ⟨t, h1, h2⟩ := f32_spec px py qx qy a b c d 0
  have : t = on := by rw [Bool.eq_iff_iff, h2, h]
  subst this
  unfold j11_52
  simp only [h1, Option.bind_some, beq_self_eq_true]

theorem j11_25_spec {px py qx qy a b c d k : Int} (hk : 0 ≤ k ∧ k ≤ 1023) {s g : Bool} (hs : s = true ↔ Tch px py qx qy a b c d k) (hg : g = true ↔ Tch px py qx qy a b c d (k + 1)) :
    j11_25 (k, s, g, a, b, c, d, px, py, qx, qy, ()) = some (true, ()) := by
  have out : ¬ (VR a b c d ∧ nr px ∧ nr py) → s = false ∧ g = false := fun hn =>
    ⟨not_spec hs (fun h => hn ⟨h.1.r, h.1.p⟩), not_spec hg (fun h => hn ⟨h.1.r, h.1.p⟩)⟩
  unfold j11_25
  by_cases hr : VR a b c d
  · rw [(f17_spec a b c d).2 hr]
    by_cases hpx : nr px
    · rw [(f19_nr px).2 hpx]
      by_cases hpy : nr py
      · rw [(f19_nr py).2 hpy]
        simp only [Bool.not_true, cond_false]
        obtain ⟨t, h1, h2⟩ := f32_spec px py px py a b c d k
        have hone : t = decide (gapQ px py a b c d ≤ k * k) := by rw [Bool.eq_iff_iff, h2, Tch.one ⟨hpx, hpy⟩ hr ⟨hk.1, by omega⟩, decide_eq_true_iff]
        rw [h1, f20_spec ⟨hpx, hpy⟩ hr, k_w ⟨hk.1, by omega⟩, ← hone]
        simp only [Option.bind_some, beq_self_eq_true, Bool.not_true, cond_false]
        have far : ¬ (nr qx ∧ nr qy ∧ (-1024 ≤ px - qx ∧ px - qx ≤ 1024) ∧ (-1024 ≤ py - qy ∧ py - qy ≤ 1024)) → (some (!s, ()) : Option (Bool × Unit)) = some (true, ()) := by
          intro hn
          have : s = false := not_spec hs (fun h => hn ⟨h.1.q.1, h.1.q.2, by have := h.1.x; omega, by have := h.1.y; omega⟩)
          rw [this]; rfl
        by_cases hqx : nr qx
        · rw [(f19_nr qx).2 hqx]
          by_cases hqy : nr qy
          · rw [(f19_nr qy).2 hqy]
            simp only [Bool.not_true, cond_false]
            have p1 := hpx
            have p2 := hpy
            have p3 := hqx
            have p4 := hqy
            unfold nr at p1 p2 p3 p4
            rw [w64 (n := px - qx) (by omega) (by omega), w64 (n := py - qy) (by omega) (by omega)]
            by_cases hx : -1024 ≤ px - qx ∧ px - qx ≤ 1024
            · rw [(f19_spec (by omega)).2 hx]
              by_cases hy : -1024 ≤ py - qy ∧ py - qy ≤ 1024
              · rw [(f19_spec (by omega)).2 hy]
                simp only [Bool.not_true, cond_false]
                have hv : TV px py qx qy a b c d 0 := ⟨⟨hpx, hpy⟩, ⟨hqx, hqy⟩, hr, by omega, by omega, by omega⟩
                have hz := Tch.zero hv
                rw [f20_spec ⟨hqx, hqy⟩ hr]
                have hq := CR_iff ⟨hpx, hpy⟩ ⟨hqx, hqy⟩ ⟨hr.a, hr.b⟩ ⟨hr.c, hr.d⟩
                have hq2 := CR_iff ⟨hpx, hpy⟩ ⟨hqx, hqy⟩ ⟨hr.a, hr.d⟩ ⟨hr.c, hr.b⟩
                by_cases g1 : gapQ px py a b c d = 0
                · rw [g1]
                  simp only [beq_self_eq_true, cond_true]
                  rw [j11_52_spec (by rw [hz]; simp [g1])]
                  rfl
                · have e1 : (gapQ px py a b c d == 0) = false := by rw [beq_eq_false_iff_ne]; exact g1
                  simp only [e1, cond_false]
                  by_cases g2 : gapQ qx qy a b c d = 0
                  · rw [g2]
                    simp only [beq_self_eq_true, cond_true]
                    rw [j11_52_spec (by rw [hz]; simp [g2])]
                    rfl
                  · have e2 : (gapQ qx qy a b c d == 0) = false := by rw [beq_eq_false_iff_ne]; exact g2
                    simp only [e2, cond_false, f27_30]
                    have h27 := f27_spec px py qx qy a b c d
                    have h27b := f27_spec px py qx qy a d c b
                    rw [hq] at h27
                    rw [hq2] at h27b
                    cases g3 : f27 px py qx qy a b c d with
                    | true =>
                      simp only [cond_true]
                      rw [j11_52_spec (by rw [hz]; simp [h27.1 g3])]
                      rfl
                    | false =>
                      simp only [cond_false]
                      have n3 : ¬ Xs px py qx qy a b c d := fun h => by rw [h27.2 h] at g3; cases g3
                      rw [j11_52_spec (by rw [hz, h27b]; simp [g1, g2, n3])]
                      rfl
              · rw [not_spec (f19_spec (n := py - qy) (m := 1024) (by omega)) hy]
                exact far (fun h => hy h.2.2.2)
            · rw [not_spec (f19_spec (n := px - qx) (m := 1024) (by omega)) hx]
              exact far (fun h => hx h.2.2.1)
          · rw [not_spec (f19_nr qy) hqy]
            exact far (fun h => hqy h.2.1)
        · rw [not_spec (f19_nr qx) hqx]
          exact far (fun h => hqx h.1)
      · rw [not_spec (f19_nr py) hpy, (out (fun h => hpy h.2.2)).1, (out (fun h => hpy h.2.2)).2]
        rfl
    · rw [not_spec (f19_nr px) hpx, (out (fun h => hpx h.2.1)).1, (out (fun h => hpx h.2.1)).2]
      rfl
  · rw [not_spec (f17_spec a b c d) hr, (out (fun h => hr h.1)).1, (out (fun h => hr h.1)).2]
    rfl

theorem segmentRadii_plain {px py qx qy a b c d rad : Int} (h0 : 0 ≤ rad) (h1 : rad ≤ 65535) : f11 (px, py, qx, qy, a, b, c, d, rad, ()) = some (true, ()) := by
  have w1 : IntKind.i64.wrap rad = rad := w64 (by omega) (by omega)
  have w2 : rad.tmod 1024 = rad % 1024 := Int.tmod_eq_emod_of_nonneg h0
  have w3 : IntKind.i64.wrap (rad % 1024 + 1) = rad % 1024 + 1 := w64 (by omega) (by omega)
  have hk : 0 ≤ rad % 1024 ∧ rad % 1024 ≤ 1023 := by omega
  obtain ⟨s, s1, s2⟩ := f32_spec px py qx qy a b c d (rad % 1024)
  obtain ⟨g, g1, g2⟩ := f32_spec px py qx qy a b c d (rad % 1024 + 1)
  obtain ⟨t, t1, t2⟩ := f32_spec qx qy px py a b c d (rad % 1024)
  have hst : t = s := by rw [Bool.eq_iff_iff, s2, t2]; exact ⟨Tch.sw, Tch.sw⟩
  subst hst
  have hj := j11_25_spec hk s2 g2
  unfold f11
  simp only [f12_spec, Option.bind_some, Bool.not_true, cond_false, w1, w2, w3, s1, g1, t1, beq_self_eq_true, hj]
  cases t with
  | false => rfl
  | true =>
    have : g = true := g2.2 (Tch.mono (s2.1 rfl) hk.2)
    rw [this]; rfl

end Go.AE
