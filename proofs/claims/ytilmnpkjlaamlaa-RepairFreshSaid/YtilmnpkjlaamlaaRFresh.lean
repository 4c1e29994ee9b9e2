/-
  The chapter Repair, RepairFresh: after any changes the costs are those of a new computation.
-/
import Derived.Test.YtilmnpkjlaamlaaR7
import Derived.Test.YtilmnpkjlaamlaaFFresh
namespace Go.AE
open Go.Proofs Go.RowKit
set_option maxRecDepth 100000

theorem l6_0_spec (sx sy : Int) {L : List Ac} (hL : L.length ≤ 20) : ∀ (t i : Nat) (p : Pl) (g : Pt) (l : List Int), L.length - i = t → i ≤ L.length → Rp p g l →
    ∃ p' g' l', Rp p' g' l' ∧ l6_0 (L, (i : Int), sx, sy, p.W, p.H, p.C.length, g.X, g.Y, p.C.length, p.C, l, ()) = some (sx, sy, p'.W, p'.H, p'.C.length, g'.X, g'.Y, p'.C.length, p'.C, l', ()) := by
  intro t
  induction t with
  | zero =>
    intro i p g l ht hi h
    have : i = L.length := by omega
    subst this
    have c1 : ¬ (L.length : Int) < (L.length : Int) := by omega
    refine ⟨p, g, l, h, ?_⟩
    have hr : r6_0 (L, (L.length : Int), sx, sy, p.W, p.H, p.C.length, g.X, g.Y, p.C.length, p.C, l, ()) = some (.inr (sx, sy, p.W, p.H, p.C.length, g.X, g.Y, p.C.length, p.C, l, ())) := by
      unfold r6_0
      simp only [c1, decide_false, cond_false]
    unfold l6_0
    rw [iterO_eq, hr]
  | succ t ih =>
    intro i p g l ht hi h
    have hin : i < L.length := by omega
    have c1 : (i : Int) < (L.length : Int) := by omega
    have w0 : IntKind.i64.wrap ((i : Int) + 1) = ((i + 1 : Nat) : Int) := by rw [w64 (by omega) (by omega)]; rfl
    have e1 : L[i]? = some L[i] := List.getElem?_eq_getElem hin
    have hl := h.len
    have z1 : (p.C.length ≤ p.C.length) = True := by simp
    have z2 : (p.C.length ≤ l.length) = True := by simp [hl]
    have tl : List.take p.C.length l = l := List.take_of_length_le (by omega)
    have tc : List.take p.C.length p.C = p.C := by simp
    obtain ⟨m, k1, k2⟩ := f22_spec h L[i]
    obtain ⟨p', g', l', q1, q2⟩ := ih (i + 1) _ _ m (by omega) (by omega) k2
    refine ⟨p', g', l', q1, ?_⟩
    have hr : r6_0 (L, (i : Int), sx, sy, p.W, p.H, p.C.length, g.X, g.Y, p.C.length, p.C, l, ()) = some (.inl (L, ((i + 1 : Nat) : Int), sx, sy, (actP p L[i]).W, (actP p L[i]).H, (actP p L[i]).C.length, (actG p g L[i]).X, (actG p g L[i]).Y, (actP p L[i]).C.length, (actP p L[i]).C, m, ())) := by
      unfold r6_0
      simp only [c1, decide_true, cond_true, idxO_nat, e1, Option.bind_some, Nat.zero_add, List.drop_zero, z1, z2, tl, tc, k1, w0]
    unfold l6_0 at q2 ⊢
    rw [iterO_eq, hr]
    exact q2

/-- What path.Costs answers beside a planner. -/
inductive Cst (p : Pl) (g : Pt) (l : List Int) : Nat → Int → List Int → Prop
  | yes : Pl.IsDist p g l → Cst p g l l.length 0 l
  | no : l = p.none_ → Cst p g l 0 7 []

theorem cst_of {p : Pl} {g : Pt} {l : List Int} (h : Rp p g l) : ∃ n e cs, f24 (p.W, p.H, p.C, g.X, g.Y, ()) = some (n, e, cs, ()) ∧ Cst p g l n e cs := by
  by_cases hf : p.free g
  · obtain ⟨m, k1, k2⟩ := f24_spec h.ok hf
    have := Pl.IsDist.unique h.ok k2 (h.dist hf)
    subst this
    exact ⟨_, _, _, k1, .yes k2⟩
  · exact ⟨_, _, _, f24_none h.ok hf, .no (h.none hf)⟩

theorem j6_73_spec {p : Pl} {g : Pt} {l : List Int} (h : Rp p g l) (n : Nat) (e y x sx sy a b : Int) (k : Nat) (ax ay : Int) (cs : List Int) (C : List Int) :
    j6_73 (n, e, y, x, p.cost l ⟨x, y⟩, sx, sy, p.W, p.H, p.C.length, g.X, g.Y, p.C.length, a, b, k, ax, ay, cs, x, y, p.C, l, C, ()) = some (.inr (n, e, y, x, sx, sy, p.W, p.H, p.C.length, g.X, g.Y, p.C.length, a, b, k, ax, ay, cs, p.C, l, C, ())) := by
  have hl := h.len
  have z1 : (p.C.length ≤ p.C.length) = True := by simp
  have z2 : (p.C.length ≤ l.length) = True := by simp [hl]
  have tl : List.take p.C.length l = l := List.take_of_length_le (by omega)
  have tc : List.take p.C.length p.C = p.C := by simp
  have hc := f14_spec h ⟨x, y⟩
  simp only at hc
  unfold j6_73
  simp only [Nat.zero_add, List.drop_zero, z1, z2, tl, tc, decide_true, cond_true, hc, Option.bind_some, bne_self_eq_false, cond_false]

theorem r6_12_spec {p : Pl} {g : Pt} {l : List Int} (h : Rp p g l) {n : Nat} {e : Int} {cs : List Int} (hc : Cst p g l n e cs) (sx sy y x : Int) (hx : -1 ≤ x) (h1 : x ≤ p.W) (h2 : x < 101) :
    r6_12 (n, e, y, x, sx, sy, p.W, p.H, p.C.length, g.X, g.Y, p.C.length, p.W, p.H, p.C.length, g.X, g.Y, cs, p.C, l, p.C, ()) = some (.inl (n, e, y, x + 1, sx, sy, p.W, p.H, p.C.length, g.X, g.Y, p.C.length, p.W, p.H, p.C.length, g.X, g.Y, cs, p.C, l, p.C, ())) := by
  have z1 : (p.C.length ≤ p.C.length) = True := by simp
  have tc : List.take p.C.length p.C = p.C := by simp
  have w0 : IntKind.i64.wrap (x + 1) = x + 1 := w64 (by omega) (by omega)
  have h12 := f12_spec (p := p) ⟨x, y⟩
  simp only at h12
  cases hc with
  | yes d =>
    by_cases hin : p.inP ⟨x, y⟩
    · have hix := ix_w h.ok hin
      simp only at hix
      obtain ⟨b1, b2⟩ := ix_in h.ok d.len hin
      have b3 : ¬ ((p.ix ⟨x, y⟩ : Nat) : Int) ≥ (l.length : Int) := by omega
      have g1 := g_get h.ok d.len hin
      have hco : p.cost l ⟨x, y⟩ = p.g l ⟨x, y⟩ := by unfold Pl.cost; rw [if_pos hin]
      have hj := j6_73_spec h l.length 0 y x sx sy p.W p.H p.C.length g.X g.Y l p.C
      rw [hco] at hj
      unfold r6_12
      simp only [h1, h2, decide_true, cond_true, beq_self_eq_true, Nat.zero_add, List.drop_zero, z1, tc, h12, hin, hix, b1, b2, b3, decide_false, cond_false, Bool.and_self, Int.toNat_natCast, g1, Option.bind_some, hj, Sum.elim_inr, j6_52, w0]
    · have hco : p.cost l ⟨x, y⟩ = -1 := by unfold Pl.cost; rw [if_neg hin]
      have hj := j6_73_spec h l.length 0 y x sx sy p.W p.H p.C.length g.X g.Y l p.C
      rw [hco] at hj
      unfold r6_12
      simp only [h1, h2, decide_true, cond_true, beq_self_eq_true, Nat.zero_add, List.drop_zero, z1, tc, h12, hin, decide_false, cond_false, hj, Option.bind_some, Sum.elim_inr, j6_52, w0]
  | no hn =>
    have hco : p.cost l ⟨x, y⟩ = -1 := by
      unfold Pl.cost
      rw [hn, Pl.g_none]
      split <;> rfl
    have hj := j6_73_spec h 0 7 y x sx sy p.W p.H p.C.length g.X g.Y [] p.C
    rw [hco] at hj
    have q : ((7 : Int) == 0) = false := rfl
    unfold r6_12
    simp only [h1, h2, decide_true, cond_true, q, cond_false, hj, Option.bind_some, Sum.elim_inr, j6_52, w0]

theorem l6_12_spec {p : Pl} {g : Pt} {l : List Int} (h : Rp p g l) {n : Nat} {e : Int} {cs : List Int} (hc : Cst p g l n e cs) (sx sy y : Int) : ∀ (t : Nat) (x : Int), -1 ≤ x → x ≤ p.W + 1 → (p.W + 1 - x).toNat = t →
    l6_12 (n, e, y, x, sx, sy, p.W, p.H, p.C.length, g.X, g.Y, p.C.length, p.W, p.H, p.C.length, g.X, g.Y, cs, p.C, l, p.C, ()) = some (.inr (n, e, y, sx, sy, p.W, p.H, p.C.length, g.X, g.Y, p.C.length, p.W, p.H, p.C.length, g.X, g.Y, cs, p.C, l, p.C, ())) := by
  intro t
  induction t with
  | zero =>
    intro x hx h1 ht
    have c1 : ¬ x ≤ p.W := by omega
    unfold l6_12
    rw [iterO_eq]
    have hr : r6_12 (n, e, y, x, sx, sy, p.W, p.H, p.C.length, g.X, g.Y, p.C.length, p.W, p.H, p.C.length, g.X, g.Y, cs, p.C, l, p.C, ()) = some (.inr (.inr (n, e, y, sx, sy, p.W, p.H, p.C.length, g.X, g.Y, p.C.length, p.W, p.H, p.C.length, g.X, g.Y, cs, p.C, l, p.C, ()))) := by
      unfold r6_12
      simp only [c1, decide_false, cond_false]
    rw [hr]
  | succ t ih =>
    intro x hx h1 ht
    have hw := h.ok.w2
    have := ih (x + 1) (by omega) (by omega) (by omega)
    unfold l6_12 at this ⊢
    rw [iterO_eq, r6_12_spec h hc sx sy y x hx (by omega) (by omega)]
    exact this

theorem l6_6_spec {p : Pl} {g : Pt} {l : List Int} (h : Rp p g l) {n : Nat} {e : Int} {cs : List Int} (hc : Cst p g l n e cs) (sx sy : Int) : ∀ (t : Nat) (y : Int), -1 ≤ y → y ≤ p.H + 1 → (p.H + 1 - y).toNat = t →
    l6_6 (n, e, y, sx, sy, p.W, p.H, p.C.length, g.X, g.Y, p.C.length, p.W, p.H, p.C.length, g.X, g.Y, cs, p.C, l, p.C, ()) = some (.inr (sx, sy, p.W, p.H, p.C.length, g.X, g.Y, p.C.length, p.W, p.H, p.C.length, g.X, g.Y, p.C, l, p.C, ())) := by
  have hh := h.ok.h2
  have hw := h.ok.w1
  have out : ∀ y, (¬ y ≤ p.H ∨ ¬ y < 12) → l6_6 (n, e, y, sx, sy, p.W, p.H, p.C.length, g.X, g.Y, p.C.length, p.W, p.H, p.C.length, g.X, g.Y, cs, p.C, l, p.C, ()) = some (.inr (sx, sy, p.W, p.H, p.C.length, g.X, g.Y, p.C.length, p.W, p.H, p.C.length, g.X, g.Y, p.C, l, p.C, ())) := by
    intro y hy
    unfold l6_6
    rw [iterO_eq]
    have hr : r6_6 (n, e, y, sx, sy, p.W, p.H, p.C.length, g.X, g.Y, p.C.length, p.W, p.H, p.C.length, g.X, g.Y, cs, p.C, l, p.C, ()) = some (.inr (.inr (sx, sy, p.W, p.H, p.C.length, g.X, g.Y, p.C.length, p.W, p.H, p.C.length, g.X, g.Y, p.C, l, p.C, ()))) := by
      unfold r6_6
      by_cases q : y ≤ p.H
      · have q2 : ¬ y < 12 := by omega
        simp only [q, q2, decide_true, decide_false, cond_true, cond_false]
      · simp only [q, decide_false, cond_false]
    rw [hr]
  intro t
  induction t with
  | zero =>
    intro y hy h1 ht
    exact out y (.inl (by omega))
  | succ t ih =>
    intro y hy h1 ht
    by_cases q : y < 12
    · have q1 : y ≤ p.H := by omega
      have w0 : IntKind.i64.wrap (y + 1) = y + 1 := w64 (by omega) (by omega)
      have := ih (y + 1) (by omega) (by omega) (by omega)
      have hr : r6_6 (n, e, y, sx, sy, p.W, p.H, p.C.length, g.X, g.Y, p.C.length, p.W, p.H, p.C.length, g.X, g.Y, cs, p.C, l, p.C, ()) = some (.inl (n, e, y + 1, sx, sy, p.W, p.H, p.C.length, g.X, g.Y, p.C.length, p.W, p.H, p.C.length, g.X, g.Y, cs, p.C, l, p.C, ())) := by
        unfold r6_6
        simp only [q, q1, decide_true, cond_true, l6_12_spec h hc sx sy y _ (-1) (by omega) (by omega) rfl, Option.bind_some, Sum.elim_inr, w0]
      unfold l6_6 at this ⊢
      rw [iterO_eq, hr]
      exact this
    · exact out y (.inr q)

theorem f23_eq (a b : Int) (C : List Int) (x y : Int) (l : List Int) : f23 a b C x y l = (x, y) := rfl

theorem repairFresh_plain (x : Int × Int × List Int × Int × Int × List Ac × Unit) : f6 x = some (true, ()) := by
  obtain ⟨w, h, C, a, b, L, ⟨⟩⟩ := x
  unfold f6
  simp only [f9_spec, Option.bind_some, Bool.not_true, cond_false, f20_spec]
  by_cases hs : C.length ≤ 100 ∧ L.length ≤ 20
  · simp only [hs, and_self, decide_true, Bool.not_true, cond_false]
    rcases f10_spec (p := ⟨w, h, C⟩) (by simp only; omega) ⟨a, b⟩ with ⟨v, e⟩ | ⟨v, _, e⟩ | ⟨v, _, l, rp, e⟩
    · simp only at e
      simp only [e, Option.bind_some, Sum.elim_inl]
    · simp only at e
      simp only [e, Option.bind_some, Sum.elim_inl, Sum.elim_inr]
    · obtain ⟨p, g, m, q1, q2⟩ := l6_0_spec a b hs.2 L.length 0 _ _ l (by omega) (by omega) rp
      have q2' : l6_0 (L, 0, a, b, w, h, C.length, a, b, C.length, C, l, ()) = _ := q2
      simp only at e
      obtain ⟨n, er, cs, k1, k2⟩ := cst_of q1
      have h19 := f19_spec q1.ok g m
      have hl := q1.len
      have z1 : (p.C.length ≤ p.C.length) = True := by simp
      have z2 : (p.C.length ≤ m.length) = True := by simp [hl]
      have tl : List.take p.C.length m = m := List.take_of_length_le (by omega)
      have tc : List.take p.C.length p.C = p.C := by simp
      have hloop := l6_6_spec q1 k2 a b _ (-1) (by omega) (by have := q1.ok.h1; omega) rfl
      obtain ⟨nn, kk, ee, ob, u1, u2, u3⟩ := f25_any (p := p) q1.ok.few ⟨a, b⟩ g
      have h15 := f15_spec (p := p) (goal := g) ⟨a, b⟩ m
      simp only at u1 h15
      have z3 : (nn ≤ ob.length) = True := by simp [u2]
      have h17 := f17_spec (a := ob.take nn) (b := ob.take nn) (by rw [take_len0 u2]; omega)
      simp only [e, Option.bind_some, Sum.elim_inr, q2', Nat.zero_add, List.drop_zero, z1, z2, tl, tc, decide_true, cond_true, h19, f23_eq, k1, hloop, h15, u1, z3, h17, beq_self_eq_true]
  · simp only [hs, decide_false, Bool.not_false, cond_true]

end Go.AE
