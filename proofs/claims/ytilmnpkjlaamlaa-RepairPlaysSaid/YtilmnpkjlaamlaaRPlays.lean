/-
  The chapter Repair, RepairPlays: a planner returns what the document says after each change.
-/
import Derived.Test.YtilmnpkjlaamlaaR7
import Derived.Test.YtilmnpkjlaamlaaFPlays
namespace Go.AE
open Go.Proofs Go.RowKit
set_option maxRecDepth 100000

theorem f914_inl (a b : Int) (C : List Int) (x y : Int) (l : List Int) (c d : Int) : f914 (Sum.inl (a, b, C, x, y, l, c, d, ())) = f14 (a, b, C, x, y, l, c, d, ()) := rfl
theorem f915_inl (a b : Int) (C : List Int) (x y : Int) (l : List Int) (c d : Int) : f915 (Sum.inl (a, b, C, x, y, l, c, d, ())) = f15 (a, b, C, x, y, l, c, d, ()) := rfl
theorem f915_inr (a b : Int) : f915 (Sum.inr (a, b, ())) = some (0, 0, 1, [], ()) := rfl
theorem f923_inl (a b : Int) (C : List Int) (x y : Int) (l : List Int) : f923 (Sum.inl (a, b, C, x, y, l, ())) = some (x, y, ()) := rfl
theorem f919_inl {p : Pl} (hp : p.Ok) (goal : Pt) (l : List Int) : f919 (Sum.inl (p.W, p.H, p.C, goal.X, goal.Y, l, ())) = some (Sum.inl (p.W, p.H, p.C.length, p.C, ())) := by
  have := hp.few
  have h : f919 (Sum.inl (p.W, p.H, p.C, goal.X, goal.Y, l, ())) = f919_0 (p.W, p.H, p.C, goal.X, goal.Y, l, ()) := rfl
  rw [h]
  unfold f919_0
  simp only [f34_spec (l := p.C) (by omega), Option.bind_some]
  rfl

theorem f28_spec {p : Pl} (hp : p.Ok) (g c : Pt) (b : Bool) : f28 (p.W, p.H, p.C, g.X, g.Y, c.X, c.Y, b, ()) = some ((p.upd c b).W, (p.upd c b).H, (p.upd c b).C, g.X, g.Y, if p.inP c then 0 else 7, ()) := by
  have h12 := f12_spec (p := p) c
  have hfew := hp.few
  have rr : roomy p.C.length 1 = true := roomy_ok (by omega)
  by_cases hc : p.inP c
  · have hix := ix_w hp hc
    obtain ⟨b1, b2⟩ := ix_in hp rfl hc
    have g0 := cell_get hp hc
    have g2 : (p.C.set (p.ix c) 2)[p.ix c]? = some 2 := List.getElem?_set_self (Pl.ix_lt hp hc)
    have ti : ∀ v : Int, List.take p.C.length (p.C.set (p.ix c) v) = p.C.set (p.ix c) v := fun v => List.take_of_length_le (by rw [List.length_set]; omega)
    have z1 : (p.C.length ≤ p.C.length) = True := by simp
    have hu : p.upd c b = p.put c (if b then 1 else 2) := by unfold Pl.upd; rw [if_pos hc]
    rw [hu, if_pos hc]
    cases b with
    | true =>
      unfold f28
      simp only [h12, hc, decide_true, Bool.not_true, cond_false, cond_true, Nat.zero_add, List.nil_append, List.drop_zero, rr, hix, b1, b2, Bool.and_self, Int.toNat_natCast, g0, g2, Option.bind_some, List.set_set, j28_22, List.length_set, z1, ti, if_true, Pl.put]
    | false =>
      unfold f28
      simp only [h12, hc, decide_true, Bool.not_true, cond_false, cond_true, Nat.zero_add, List.nil_append, List.drop_zero, rr, hix, b1, b2, Bool.and_self, Int.toNat_natCast, g0, Option.bind_some, j28_22, List.length_set, z1, ti, Bool.false_eq_true, if_false, Pl.put]
  · have hu : p.upd c b = p := by unfold Pl.upd; rw [if_neg hc]
    rw [hu, if_neg hc]
    unfold f28
    simp only [h12, hc, decide_false, Bool.not_false, cond_true]

theorem f29_spec {p : Pl} (g c : Pt) : f29 p.W p.H p.C g.X g.Y c.X c.Y = (p.W, p.H, p.C, (if p.inP c then c else g).X, (if p.inP c then c else g).Y, if p.inP c then 0 else 7) := by
  have h12 := f12_spec (p := p) c
  unfold f29
  by_cases hc : p.inP c
  · simp only [h12, hc, decide_true, Bool.not_true, cond_false, if_true]
  · simp only [h12, hc, decide_false, Bool.not_false, cond_true, if_false]

theorem f30_spec {p : Pl} {g : Pt} {l : List Int} (h : Rp p g l) (c : Pt) : f30 (p.W, p.H, p.C, g.X, g.Y, c.X, c.Y, ()) = some (p.cost l c, ()) := by
  have h12 := f12_spec (p := p) c
  unfold f30 Pl.cost
  by_cases hf : p.free g
  · obtain ⟨m, k1, k2⟩ := f45_spec h.ok hf
    have := Pl.IsDist.unique h.ok k2 (h.dist hf)
    subst this
    by_cases hc : p.inP c
    · have hix := ix_w h.ok hc
      obtain ⟨b1, b2⟩ := ix_in h.ok k2.len hc
      simp only [k1, Option.bind_some, bne_self_eq_false, cond_false, h12, hc, decide_true, Bool.not_true, hix, b1, b2, Bool.and_self, cond_true, Nat.zero_add, Int.toNat_natCast, g_get h.ok k2.len hc, if_true]
    · simp only [k1, Option.bind_some, bne_self_eq_false, cond_false, h12, hc, decide_false, Bool.not_false, cond_true, if_false]
  · have k1 := f45_none h.ok hf
    have q : ((7 : Int) != 0) = true := rfl
    have hl : (if p.inP c then p.g l c else -1) = -1 := by
      rw [h.none hf, Pl.g_none]
      split <;> rfl
    simp only [k1, Option.bind_some, q, cond_true, hl]

theorem f31_eq (a b : Int) (C : List Int) (x y c d : Int) : f31 (a, b, C, x, y, c, d, ()) = f46 (a, b, C, c, d, x, y, ()) := by
  unfold f31
  cases f46 (a, b, C, c, d, x, y, ()) with
  | none => rfl
  | some y => rfl

/-- Both ways to a path. -/
theorem path_same {p : Pl} (hp : p.Ok) (s t : Pt) : ∃ n k e ob n2 ob2, f25 (p.W, p.H, p.C, s.X, s.Y, t.X, t.Y, ()) = some (n, k, e, ob, ()) ∧ f46 (p.W, p.H, p.C, s.X, s.Y, t.X, t.Y, ()) = some (n2, k, e, ob2, ()) ∧ n ≤ ob.length ∧ n2 ≤ ob2.length ∧ n ≤ 39601 ∧ ob.take n = ob2.take n2 := by
  obtain ⟨r1, h1, a1⟩ := f25_ans (p := p) hp.few s t
  obtain ⟨r2, h2, a2⟩ := f46_ans (p := p) hp.few s t
  cases a1 with
  | bad v => rw [hp.vld] at v; cases v
  | none _ q =>
    cases a2 with
    | bad v => rw [hp.vld] at v; cases v
    | none _ _ => exact ⟨_, _, _, _, _, _, h1, h2, by simp, by simp, by omega, rfl⟩
    | far _ s t => exact (q ⟨s, t⟩).elim
    | path _ s t => exact (q ⟨s, t⟩).elim
  | far _ s t k m =>
    cases a2 with
    | bad v => rw [hp.vld] at v; cases v
    | none _ q => exact (q ⟨s, t⟩).elim
    | far _ _ _ _ _ => exact ⟨_, _, _, _, _, _, h1, h2, by simp, by simp, by omega, rfl⟩
    | path _ _ _ k' m' => rw [Pl.IsDist.unique hp k' k] at m'; omega
  | @path l1 n1 ob1 _ s t k m q1 q2 q3 =>
    cases a2 with
    | bad v => rw [hp.vld] at v; cases v
    | none _ q => exact (q ⟨s, t⟩).elim
    | far _ _ _ k' m' => rw [Pl.IsDist.unique hp k' k] at m'; omega
    | @path l2 n2 ob2 _ _ _ k' m' u1 u2 u3 =>
      have := Pl.IsDist.unique hp k' k
      subst this
      exact ⟨_, _, _, _, _, _, h1, h2, q1, u1, q2, q3.trans u3.symm⟩

section
variable {L : List Ac} {sx sy : Int}

theorem j7_58_spec {p : Pl} {g : Pt} {l : List Int} (h : Rp p g l) (i : Int) : j7_58 (L, i, sx, sy, p.W, p.H, p.C.length, g.X, g.Y, p.C.length, p.W, p.H, p.C, g.X, g.Y, p.C, l, ()) = some (.inr (L, i, sx, sy, p.W, p.H, p.C.length, g.X, g.Y, p.C.length, p.W, p.H, p.C, g.X, g.Y, p.C, l, ())) := by
  have hl := h.len
  have z1 : (p.C.length ≤ p.C.length) = True := by simp
  have z2 : (p.C.length ≤ l.length) = True := by simp [hl]
  have tl : List.take p.C.length l = l := List.take_of_length_le (by omega)
  have tc : List.take p.C.length p.C = p.C := by simp
  obtain ⟨n, k, e, ob, n2, ob2, a1, a2, a3, a4, a5, a6⟩ := path_same h.ok ⟨sx, sy⟩ g
  have h15 := f15_spec (p := p) (goal := g) ⟨sx, sy⟩ l
  simp only at a1 a2 h15
  have z3 : (n ≤ ob.length) = True := by simp [a3]
  have z4 : (n2 ≤ ob2.length) = True := by simp [a4]
  have h17 := f17_spec (a := ob2.take n2) (b := ob2.take n2) (by rw [← a6, take_len0 a3]; omega)
  unfold j7_58
  simp only [Nat.zero_add, List.drop_zero, z1, z2, tl, tc, decide_true, cond_true]
  rw [f915_inl, h15, a1]
  erw [Option.bind_some]
  simp only [z3, z4, decide_true, cond_true, Option.bind_some, f31_eq, a2, a6, h17, Bool.not_true, cond_false, bne_self_eq_false]

theorem j7_49_spec {p : Pl} {g : Pt} {l : List Int} (h : Rp p g l) {i : Nat} {a : Ac} (ha : L[i]? = some a) (o1 o2 : Int) (o3 : List Int) (o4 o5 : Int) :
    ∃ m, Rp (actP p a) (actG p g a) m ∧ j7_49 (L, (i : Int), actE p a, sx, sy, p.W, p.H, p.C.length, g.X, g.Y, p.C.length, o1, o2, o3, o4, o5, (actP p a).W, (actP p a).H, (actP p a).C, (actG p g a).X, (actG p g a).Y, p.C, l, ()) =
      some (.inr (L, (i : Int), sx, sy, (actP p a).W, (actP p a).H, (actP p a).C.length, (actG p g a).X, (actG p g a).Y, (actP p a).C.length, (actP p a).W, (actP p a).H, (actP p a).C, (actG p g a).X, (actG p g a).Y, (actP p a).C, m, ())) := by
  have hl := h.len
  have z1 : (p.C.length ≤ p.C.length) = True := by simp
  have z2 : (p.C.length ≤ l.length) = True := by simp [hl]
  have tl : List.take p.C.length l = l := List.take_of_length_le (by omega)
  have tc : List.take p.C.length p.C = p.C := by simp
  obtain ⟨m, k1, k2⟩ := f22_spec h a
  refine ⟨m, k2, ?_⟩
  generalize actP p a = q at *
  generalize actG p g a = g' at *
  have hm := k2.len
  have y1 : (q.C.length ≤ q.C.length) = True := by simp
  have y2 : (q.C.length ≤ m.length) = True := by simp [hm]
  have yl : List.take q.C.length m = m := List.take_of_length_le (by omega)
  have yc : List.take q.C.length q.C = q.C := by simp
  have hc := f14_spec k2 ⟨a.X, a.Y⟩
  have hc2 := f30_spec k2 ⟨a.X, a.Y⟩
  simp only at hc hc2
  unfold j7_49
  simp only [idxO_nat, ha, Option.bind_some, Nat.zero_add, List.drop_zero, z1, z2, tl, tc, decide_true, cond_true, k1, bne_self_eq_false, cond_false, y1, y2, yl, yc]
  rw [f919_inl k2.ok]
  erw [Option.bind_some]
  simp only [Sum.elim_inl, f18_self, Bool.not_true, cond_false, y1, yc, decide_true, cond_true]
  rw [f923_inl]
  erw [Option.bind_some]
  simp only [beq_self_eq_true, cond_true, cond_false, Bool.not_true]
  rw [f914_inl, hc]
  erw [Option.bind_some]
  simp only [hc2, Option.bind_some, bne_self_eq_false, cond_false, j7_58_spec k2, Sum.elim_inr]

theorem l7_0_spec (hL : L.length ≤ 20) : ∀ (t i : Nat) (p : Pl) (g : Pt) (l : List Int), L.length - i = t → i ≤ L.length → Rp p g l →
    ∃ p' g' l', Rp p' g' l' ∧ l7_0 (L, (i : Int), sx, sy, p.W, p.H, p.C.length, g.X, g.Y, p.C.length, p.W, p.H, p.C, g.X, g.Y, p.C, l, ()) = some (.inr (p'.W, p'.H, p'.C.length, g'.X, g'.Y, p'.C.length, p'.W, p'.H, p'.C, g'.X, g'.Y, p'.C, l', ())) := by
  intro t
  induction t with
  | zero =>
    intro i p g l ht hi h
    have : i = L.length := by omega
    subst this
    have c1 : ¬ (L.length : Int) < (L.length : Int) := by omega
    refine ⟨p, g, l, h, ?_⟩
    have hr : r7_0 (L, (L.length : Int), sx, sy, p.W, p.H, p.C.length, g.X, g.Y, p.C.length, p.W, p.H, p.C, g.X, g.Y, p.C, l, ()) = some (.inr (.inr (p.W, p.H, p.C.length, g.X, g.Y, p.C.length, p.W, p.H, p.C, g.X, g.Y, p.C, l, ()))) := by
      unfold r7_0
      simp only [c1, decide_false, cond_false]
    unfold l7_0
    rw [iterO_eq, hr]
  | succ t ih =>
    intro i p g l ht hi h
    have hin : i < L.length := by omega
    have c1 : (i : Int) < (L.length : Int) := by omega
    have w0 : IntKind.i64.wrap ((i : Int) + 1) = ((i + 1 : Nat) : Int) := by rw [w64 (by omega) (by omega)]; rfl
    have e1 : L[i]? = some L[i] := List.getElem?_eq_getElem hin
    generalize L[i] = a at *
    have h28 := f28_spec h.ok g ⟨a.X, a.Y⟩ (a.K.tmod 3 == 1)
    have h29 := f29_spec (p := p) g ⟨a.X, a.Y⟩
    simp only at h28 h29
    obtain ⟨m, k1, k2⟩ := j7_49_spec (sx := sx) (sy := sy) h e1 p.W p.H p.C g.X g.Y
    obtain ⟨p', g', l', q1, q2⟩ := ih (i + 1) _ _ m (by omega) (by omega) k1
    refine ⟨p', g', l', q1, ?_⟩
    have hr : r7_0 (L, (i : Int), sx, sy, p.W, p.H, p.C.length, g.X, g.Y, p.C.length, p.W, p.H, p.C, g.X, g.Y, p.C, l, ()) = some (.inl (L, ((i + 1 : Nat) : Int), sx, sy, (actP p a).W, (actP p a).H, (actP p a).C.length, (actG p g a).X, (actG p g a).Y, (actP p a).C.length, (actP p a).W, (actP p a).H, (actP p a).C, (actG p g a).X, (actG p g a).Y, (actP p a).C, m, ())) := by
      by_cases e : a.K.tmod 3 = 2
      · have eb : (a.K.tmod 3 == 2) = true := by simpa using e
        have hP : actP p a = p := by unfold actP; rw [if_pos e]
        have hG : actG p g a = (if p.inP ⟨a.X, a.Y⟩ then ⟨a.X, a.Y⟩ else g) := by unfold actG; rw [if_pos e]
        have hE : actE p a = (if p.inP ⟨a.X, a.Y⟩ then 0 else 7) := rfl
        rw [hE, hG, hP] at k2
        rw [hG, hP]
        unfold r7_0
        simp only [c1, decide_true, cond_true, idxO_nat, e1, Option.bind_some, h28, eb, h29, k2, Sum.elim_inr, j7_37, w0]
      · have eb : (a.K.tmod 3 == 2) = false := by simpa using e
        have hP : actP p a = p.upd ⟨a.X, a.Y⟩ (a.K.tmod 3 == 1) := by unfold actP; rw [if_neg e]
        have hG : actG p g a = g := by unfold actG; rw [if_neg e]
        have hE : actE p a = (if p.inP ⟨a.X, a.Y⟩ then 0 else 7) := rfl
        rw [hE, hG, hP] at k2
        rw [hG, hP]
        unfold r7_0
        simp only [c1, decide_true, cond_true, cond_false, idxO_nat, e1, Option.bind_some, h28, eb, k2, Sum.elim_inr, j7_37, w0]
    unfold l7_0 at q2 ⊢
    rw [iterO_eq, hr]
    exact q2
end

theorem f26_spec {p : Pl} (hl : p.C.length ≤ 400) (g : Pt) : (p.vld = false → ∃ r, f26 (p.W, p.H, p.C, g.X, g.Y, ()) = some (.inl r)) ∧ (p.vld = true → ¬ p.inP g → ∃ r, f26 (p.W, p.H, p.C, g.X, g.Y, ()) = some (.inr (.inl r))) ∧
    (p.vld = true → p.inP g → f26 (p.W, p.H, p.C, g.X, g.Y, ()) = some (.inr (.inr (p.W, p.H, p.C, g.X, g.Y, ())))) := by
  have h11 := f11_spec (p := p) (by omega)
  have h12 := f12_spec (p := p) g
  have rr : roomy p.C.length 1 = true := roomy_ok (by omega)
  have z1 : (p.C.length ≤ p.C.length) = True := by simp
  have tc : List.take p.C.length p.C = p.C := by simp
  refine ⟨fun v => ⟨(0, 0, [], 0, 0, ()), ?_⟩, fun v hg => ⟨(0, 0, [], 0, 0, ()), ?_⟩, fun v hg => ?_⟩
  · unfold f26
    simp only [h11, v, Option.bind_some, Bool.not_false, cond_true]
  · unfold f26
    simp only [h11, v, Option.bind_some, Bool.not_true, cond_false, h12, hg, decide_false, Bool.not_false, cond_true]
  · unfold f26
    simp only [h11, v, Option.bind_some, Bool.not_true, cond_false, h12, hg, decide_true, Nat.zero_add, List.nil_append, List.drop_zero, rr, cond_true, z1, tc]

theorem j7_28_spec (a b : Int) : j7_28 (1, a, b, ()) = some (true, ()) := rfl

theorem repairPlays_plain (x : Int × Int × List Int × Int × Int × List Ac × Unit) : f7 x = some (true, ()) := by
  obtain ⟨w, h, C, a, b, L, ⟨⟩⟩ := x
  unfold f7
  simp only [f9_spec, Option.bind_some, Bool.not_true, cond_false, f20_spec]
  by_cases hs : C.length ≤ 100 ∧ L.length ≤ 20
  · simp only [hs, and_self, decide_true, Bool.not_true, cond_false]
    obtain ⟨r1, r2, r3⟩ := f26_spec (p := ⟨w, h, C⟩) (by simp only; omega) ⟨a, b⟩
    rcases f10_spec (p := ⟨w, h, C⟩) (by simp only; omega) ⟨a, b⟩ with ⟨v, e⟩ | ⟨v, hg, e⟩ | ⟨v, hg, l, rp, e⟩
    · obtain ⟨r, hr⟩ := r1 v
      simp only at e hr
      simp only [e, hr, Option.bind_some, Sum.elim_inl]
      rw [f915_inr]
      erw [Option.bind_some]
      simp only [j7_28_spec, Option.bind_some]
    · obtain ⟨r, hr⟩ := r2 v hg
      simp only at e hr
      simp only [e, hr, Option.bind_some, Sum.elim_inl, Sum.elim_inr]
      rw [f915_inr]
      erw [Option.bind_some]
      simp only [j7_28_spec, Option.bind_some]
    · have hr := r3 v hg
      simp only at e hr
      obtain ⟨p, g, m, k1, k2⟩ := l7_0_spec (sx := a) (sy := b) hs.2 L.length 0 _ _ l (by omega) (by omega) rp
      have k2' : l7_0 (L, 0, a, b, w, h, C.length, a, b, C.length, w, h, C, a, b, C, l, ()) = _ := k2
      have hl := k1.len
      have z1 : (p.C.length ≤ p.C.length) = True := by simp
      have z2 : (p.C.length ≤ m.length) = True := by simp [hl]
      have tl : List.take p.C.length m = m := List.take_of_length_le (by omega)
      have tc : List.take p.C.length p.C = p.C := by simp
      simp only [e, hr, Option.bind_some, Sum.elim_inr, k2', Nat.zero_add, List.drop_zero, z1, z2, tl, tc, decide_true, cond_true]
      rw [f919_inl k1.ok]
      erw [Option.bind_some]
      simp only [Sum.elim_inl, z1, tc, decide_true, cond_true, f18_self]
  · simp only [hs, decide_false, Bool.not_false, cond_true]

end Go.AE
