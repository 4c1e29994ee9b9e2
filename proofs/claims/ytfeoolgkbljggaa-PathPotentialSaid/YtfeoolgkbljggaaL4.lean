/-
  Plain laws of the chapter Path: costs are a potential.
-/
import Derived.Test.YtfeoolgkbljggaaP7
import Derived.Test.YtfeoolgkbljggaaL1
namespace Go.AE
open Go.Proofs Go.RowKit
set_option maxRecDepth 100000

theorem l10_12_spec {p : Pl} (hp : p.Ok) {goal c : Pt} {m : List Int} (h : Pl.IsDist p goal m) (hc : p.inP c) : ∀ (t k : Nat) (nr : Bool), 8 - k = t → k ≤ 8 →
    l10_12 (m.length, 8, c.Y, c.X, p.g m c, nr, (k : Int), p.W, p.H, p.C, goal.X, goal.Y, m, Pl.dirs, c.X, c.Y, ()) = some (.inr (m.length, 8, c.Y, c.X, p.g m c, nr || (Pl.dirs.drop k).any (p.hit m c), p.W, p.H, p.C, goal.X, goal.Y, m, Pl.dirs, c.X, c.Y, ())) := by
  intro t
  induction t with
  | zero =>
    intro k nr ht hk
    have : k = 8 := by omega
    subst this
    have e : (nr || (Pl.dirs.drop 8).any (p.hit m c)) = nr := by rw [show Pl.dirs.drop 8 = [] from rfl, List.any_nil, Bool.or_false]
    rw [e]
    have : r10_12 (m.length, 8, c.Y, c.X, p.g m c, nr, ((8 : Nat) : Int), p.W, p.H, p.C, goal.X, goal.Y, m, Pl.dirs, c.X, c.Y, ()) = some (.inr (.inr (m.length, 8, c.Y, c.X, p.g m c, nr, p.W, p.H, p.C, goal.X, goal.Y, m, Pl.dirs, c.X, c.Y, ()))) := rfl
    unfold l10_12
    rw [iterO_eq, this]
  | succ t ih =>
    intro k nr ht hk
    have hk8 : k < 8 := by omega
    obtain ⟨d, e1, e2, e3⟩ := dirs_get hk8
    rw [e3, List.any_cons]
    obtain ⟨⟨x1, x2⟩, y1, y2⟩ := inP_near hp hc
    obtain ⟨⟨d1, d2⟩, ⟨d3, d4⟩, _⟩ := dirs_small e2
    have c1 : (k : Int) < 8 := by omega
    have c2 : (0 : Int) ≤ (k : Int) := by omega
    have c3 : (k : Int) < ((8 : Nat) : Int) := by omega
    have e1' : Pl.dirs[0 + k]? = some d := by rw [Nat.zero_add]; exact e1
    have w0 : IntKind.i64.wrap ((k : Int) + 1) = ((k + 1 : Nat) : Int) := by rw [w64 (by omega) (by omega)]; rfl
    have w1 : IntKind.i64.wrap (c.X + d.X) = c.X + d.X := w64 (by omega) (by omega)
    have w2 : IntKind.i64.wrap (c.Y + d.Y) = c.Y + d.Y := w64 (by omega) (by omega)
    have hf := f32_spec hp c (Pl.add c d)
    rw [stp_add e2] at hf
    have hf' : f32 (p.W, p.H, p.C, c.X, c.Y, c.X + d.X, c.Y + d.Y, ()) = some ((p.st c d).getD 0, (p.st c d).isSome, ()) := hf
    have hr : r10_12 (m.length, 8, c.Y, c.X, p.g m c, nr, (k : Int), p.W, p.H, p.C, goal.X, goal.Y, m, Pl.dirs, c.X, c.Y, ()) = some (.inl (m.length, 8, c.Y, c.X, p.g m c, nr || p.hit m c d, ((k + 1 : Nat) : Int), p.W, p.H, p.C, goal.X, goal.Y, m, Pl.dirs, c.X, c.Y, ())) := by
      unfold Pl.hit
      cases hs : p.st c d with
      | none =>
        rw [hs] at hf'
        unfold r10_12
        simp only [c1, c2, c3, decide_true, Bool.and_self, cond_true, Int.toNat_natCast, e1', Option.bind_some, w1, w2, hf', Option.isSome_none, Bool.not_false, j10_61, w0, Bool.or_false]
      | some w =>
        rw [hs] at hf'
        have hw := Pl.st_pos hs
        have hfr := Pl.st_free hs
        have hst : p.stp c (Pl.add c d) = some w := by rw [stp_add e2]; exact hs
        have i2 : IntKind.i64.wrap (IntKind.i64.wrap ((c.Y + d.Y) * p.W) + (c.X + d.X)) = ((p.ix (Pl.add c d) : Nat) : Int) := ix_w hp (c := Pl.add c d) hfr.2.1
        have g2 := g_get hp h.len hfr.2.1
        obtain ⟨b3, b4⟩ := ix_in hp h.len hfr.2.1
        have t1 := h.top hp hc
        have t2 := h.top hp hfr.2.1
        have r1 := h.rng _ hc
        have r2 := h.rng _ hfr.2.1
        have w3 : IntKind.i64.wrap (p.g m (Pl.add c d) + w) = p.g m (Pl.add c d) + w := w64 (by omega) (by omega)
        have s1 := h.step_le (Pl.stp_symm hst)
        have s2 := h.step_le hst
        have q1 : (p.g m c == -1) = (p.g m (Pl.add c d) == -1) := by
          rw [Bool.eq_iff_iff, beq_iff_eq, beq_iff_eq]
          constructor
          · intro q
            by_cases z : 0 ≤ p.g m (Pl.add c d)
            · have := s2 z; omega
            · omega
          · intro q
            by_cases z : 0 ≤ p.g m c
            · have := s1 z; omega
            · omega
        have q2 : ¬ p.g m c > p.g m (Pl.add c d) + w := by
          by_cases z : 0 ≤ p.g m (Pl.add c d)
          · have := s2 z; omega
          · by_cases z2 : 0 ≤ p.g m c
            · have := s1 z2; omega
            · omega
        have g2' : m[0 + p.ix (Pl.add c d)]? = some (p.g m (Pl.add c d)) := by rw [Nat.zero_add]; exact g2
        have q3 : (p.g m c == p.g m (Pl.add c d) + w) = decide (p.g m (Pl.add c d) + w = p.g m c) := by
          rw [Bool.eq_iff_iff, beq_iff_eq, decide_eq_true_eq]; exact eq_comm
        unfold r10_12
        simp only [c1, c2, c3, decide_true, Bool.and_self, cond_true, Int.toNat_natCast, e1', Option.bind_some, w1, w2, hf', Option.isSome_some, Option.getD_some, Bool.not_true, cond_false, i2, b3, b4, g2', q1, beq_self_eq_true, w3, q2, decide_false, j10_61, w0, q3]
        cases nr <;> rfl
    have next := ih (k + 1) (nr || p.hit m c d) (by omega) (by omega)
    rw [Bool.or_assoc] at next
    unfold l10_12 at next ⊢
    rw [iterO_eq, hr]
    exact next

theorem j10_55_spec {p : Pl} (hp : p.Ok) {goal c : Pt} {m : List Int} (h : Pl.IsDist p goal m) (hc : p.inP c) (nr : Bool) (hn : c = goal ∨ p.g m c = -1 → nr = true) :
    j10_55 (m.length, 8, c.Y, c.X, p.g m c, nr, p.W, p.H, p.C, goal.X, goal.Y, m, Pl.dirs, c.X, c.Y, ()) = some (.inr (m.length, 8, c.Y, c.X, p.W, p.H, p.C, goal.X, goal.Y, m, Pl.dirs, ())) := by
  have hl := l10_12_spec hp h hc 8 0 nr rfl (by omega)
  have hl' : l10_12 (m.length, 8, c.Y, c.X, p.g m c, nr, 0, p.W, p.H, p.C, goal.X, goal.Y, m, Pl.dirs, c.X, c.Y, ()) = some (.inr (m.length, 8, c.Y, c.X, p.g m c, nr || Pl.dirs.any (p.hit m c), p.W, p.H, p.C, goal.X, goal.Y, m, Pl.dirs, c.X, c.Y, ())) := hl
  have r1 := h.rng _ hc
  have hnear : (nr || Pl.dirs.any (p.hit m c)) = true := by
    by_cases q : c = goal ∨ p.g m c = -1
    · rw [hn q]; rfl
    · obtain ⟨d, w, k1, k2, k3, k4⟩ := h.next hc (fun e => q (.inl e)) (by
        have : ¬ p.g m c = -1 := fun e => q (.inr e)
        omega)
      have : Pl.dirs.any (p.hit m c) = true := List.any_eq_true.2 ⟨d, k1, by unfold Pl.hit; rw [k2]; simp only [decide_eq_true_eq]; omega⟩
      rw [this, Bool.or_true]
  have n1 : ¬ p.g m c < -1 := by omega
  unfold j10_55
  simp only [hl', Option.bind_some, Sum.elim_inr, hnear, Bool.not_true, cond_false, n1, decide_false, pt_eqb]
  by_cases q : p.g m c = -1
  · have : ¬ c = goal := fun e => by
      have := h.zero
      rw [e] at q; omega
    simp only [q, beq_self_eq_true, cond_true, this, decide_false, cond_false]
  · have q' : (p.g m c == -1) = false := by simpa using q
    simp only [q', cond_false]

theorem l10_6_spec {p : Pl} (hp : p.Ok) {goal : Pt} {m : List Int} (h : Pl.IsDist p goal m) {y : Int} (hy0 : 0 ≤ y) (hy1 : y < p.H) : ∀ (t : Nat) (x : Int), 0 ≤ x → x ≤ p.W → p.W - x = t →
    l10_6 (m.length, 8, y, x, p.W, p.H, p.C, goal.X, goal.Y, m, Pl.dirs, ()) = some (.inr (m.length, 8, y, p.W, p.H, p.C, goal.X, goal.Y, m, Pl.dirs, ())) := by
  intro t
  have hw := hp.w2
  induction t with
  | zero =>
    intro x h0 h1 ht
    have c1 : ¬ x < p.W := by omega
    have : r10_6 (m.length, 8, y, x, p.W, p.H, p.C, goal.X, goal.Y, m, Pl.dirs, ()) = some (.inr (.inr (m.length, 8, y, p.W, p.H, p.C, goal.X, goal.Y, m, Pl.dirs, ()))) := by
      unfold r10_6
      simp only [c1, decide_false, cond_false]
    unfold l10_6
    rw [iterO_eq, this]
  | succ t ih =>
    intro x h0 h1 ht
    have c1 : x < p.W := by omega
    have hc : p.inP ⟨x, y⟩ := ⟨h0, c1, hy0, hy1⟩
    have i1 := ix_w hp hc
    simp only at i1
    have g1 : m[0 + p.ix ⟨x, y⟩]? = some (p.g m ⟨x, y⟩) := by rw [Nat.zero_add]; exact g_get hp h.len hc
    obtain ⟨b1, b2⟩ := ix_in hp h.len hc
    have wx : IntKind.i64.wrap (x + 1) = x + 1 := w64 (by omega) (by omega)
    have hp1 := pt_eqb ⟨x, y⟩ goal
    simp only at hp1
    have hr : r10_6 (m.length, 8, y, x, p.W, p.H, p.C, goal.X, goal.Y, m, Pl.dirs, ()) = some (.inl (m.length, 8, y, x + 1, p.W, p.H, p.C, goal.X, goal.Y, m, Pl.dirs, ())) := by
      unfold r10_6
      simp only [c1, decide_true, cond_true, i1, b1, b2, Bool.and_self, Int.toNat_natCast, g1, Option.bind_some, hp1]
      by_cases q : (⟨x, y⟩ : Pt) = goal
      · have hj := j10_55_spec hp h hc true (fun _ => rfl)
        simp only at hj
        simp only [q, decide_true, cond_true]
        rw [q] at hj
        simp only [hj, Option.bind_some, Sum.elim_inr, j10_43, wx]
      · have hj := j10_55_spec hp h hc (p.g m ⟨x, y⟩ == -1) (fun hh => by
          rcases hh with hh | hh
          · exact (q hh).elim
          · simp [hh])
        simp only at hj
        simp only [q, decide_false, cond_false, hj, Option.bind_some, Sum.elim_inr, j10_43, wx]
    have next := ih (x + 1) (by omega) (by omega) (by omega)
    unfold l10_6 at next ⊢
    rw [iterO_eq, hr]
    exact next

theorem l10_0_spec {p : Pl} (hp : p.Ok) {goal : Pt} {m : List Int} (h : Pl.IsDist p goal m) : ∀ (t : Nat) (y : Int), 0 ≤ y → y ≤ p.H → p.H - y = t →
    l10_0 (m.length, 8, y, p.W, p.H, p.C, goal.X, goal.Y, m, Pl.dirs, ()) = some (.inr ()) := by
  intro t
  have hh := hp.h2
  have hw := hp.w1
  induction t with
  | zero =>
    intro y h0 h1 ht
    have c1 : ¬ y < p.H := by omega
    have : r10_0 (m.length, 8, y, p.W, p.H, p.C, goal.X, goal.Y, m, Pl.dirs, ()) = some (.inr (.inr ())) := by
      unfold r10_0
      simp only [c1, decide_false, cond_false]
    unfold l10_0
    rw [iterO_eq, this]
  | succ t ih =>
    intro y h0 h1 ht
    have c1 : y < p.H := by omega
    have wy : IntKind.i64.wrap (y + 1) = y + 1 := w64 (by omega) (by omega)
    have hrow := l10_6_spec hp h h0 c1 p.W.toNat 0 (by omega) (by omega) (by omega)
    have hr : r10_0 (m.length, 8, y, p.W, p.H, p.C, goal.X, goal.Y, m, Pl.dirs, ()) = some (.inl (m.length, 8, y + 1, p.W, p.H, p.C, goal.X, goal.Y, m, Pl.dirs, ())) := by
      unfold r10_0
      simp only [c1, decide_true, cond_true, hrow, Option.bind_some, Sum.elim_inr, wy]
    have next := ih (y + 1) (by omega) (by omega) (by omega)
    unfold l10_0 at next ⊢
    rw [iterO_eq, hr]
    exact next

theorem pathPotential_plain (x : Int × Int × List Int × Int × Int × Unit) : f10 x = some (true, ()) := by
  obtain ⟨w, h, l, a, b, ⟨⟩⟩ := x
  unfold f10
  simp only [f14_spec, Option.bind_some, Bool.not_true, cond_false, f15_spec]
  by_cases hl : l.length ≤ 400
  · simp only [hl, decide_true, Bool.not_true, cond_false]
    have z00 : (((0 : Nat) : Int) == 0) = true := rfl
    cases hv : (⟨w, h, l⟩ : Pl).vld with
    | false =>
      have e1 : f17 (w, h, l, a, b, ()) = some (0, 1, [], ()) := f17_bad (p := ⟨w, h, l⟩) (by simp only; omega) hv a b
      have e2 : f24 (w, h, l, ()) = some (false, ()) := by have := f24_spec (p := ⟨w, h, l⟩) (by simp only; omega); rw [hv] at this; exact this
      have e3 : ((1 : Int) != 0) = true := rfl
      simp only [e1, e2, e3, Option.bind_some, Bool.not_false, cond_true, z00]
    | true =>
      have hp := Pl.vld_ok hv hl
      have e2 : f24 (w, h, l, ()) = some (true, ()) := by have := f24_spec (p := ⟨w, h, l⟩) (by simp only; omega); rw [hv] at this; exact this
      have e3 := f25_spec hp ⟨a, b⟩
      simp only at e3
      by_cases hg : (⟨w, h, l⟩ : Pl).free ⟨a, b⟩
      · obtain ⟨m, e1, hm⟩ := f17_spec hp hg
        simp only at e1
        have e5 : ((⟨w, h, l⟩ : Pl).val ⟨a, b⟩ != 1) = false := by rw [val_free.2 hg]; rfl
        have hlm : m.length = l.length := hm.len
        have hsz := size_w hp
        simp only at hsz
        have ne2 : ((m.length : Int) != (l.length : Int)) = false := by simp [hlm]
        have hgx := ix_w hp hg.1
        simp only at hgx
        obtain ⟨b3, b4⟩ := ix_in hp (l := m) hlm hg.1
        have hz : m[0 + (⟨w, h, l⟩ : Pl).ix ⟨a, b⟩]? = some 0 := by
          have := g_get hp hm.len (c := ⟨a, b⟩) hg.1
          rw [hm.zero] at this
          rw [Nat.zero_add]
          exact this
        have hfd : f31 = (8, Pl.dirs) := rfl
        have h1 := hp.h1
        simp only at h1
        have hloop := l10_0_spec hp hm h.toNat 0 (by omega) (by simp only; omega) (by simp only; omega)
        simp only at hloop
        simp only [e1, e2, e3, e5, Option.bind_some, bne_self_eq_false, cond_false, Bool.not_true, hsz, ne2, hgx, b3, b4, decide_true, Bool.and_self, cond_true, Int.toNat_natCast, hz, hfd, hloop, Sum.elim_inr]
      · have e1 : f17 (w, h, l, a, b, ()) = some (0, 7, [], ()) := f17_none hp hg
        have e5 : ((⟨w, h, l⟩ : Pl).val ⟨a, b⟩ != 1) = true := by
          have : (⟨w, h, l⟩ : Pl).val ⟨a, b⟩ ≠ 1 := fun q => hg (val_free.1 q)
          simpa using this
        have e6 : ((7 : Int) != 0) = true := rfl
        simp only [e1, e2, e3, e5, e6, Option.bind_some, Bool.not_true, cond_false, cond_true, z00]
  · simp only [hl, decide_false, Bool.not_false, cond_true]

end Go.AE
