/-
  The chapter Repair, RepairClones: a copy is not affected by later changes.
-/
import Derived.Test.YtilmnpkjlaamlaaR7
import Derived.Test.YtilmnpkjlaamlaaFClone
namespace Go.AE
open Go.Proofs Go.RowKit
set_option maxRecDepth 100000

/-- A plan and a goal after an act. -/
def actS (s : Pl × Pt) (a : Ac) : Pl × Pt := (actP s.1 a, actG s.1 s.2 a)

section
variable {L : List Ac} {n : Nat} {k e W H gx gy oW oH : Int} {C : List Int} {on : Nat} {c1 c2 c4 c5 : Int} {c3 c6 : Nat} {ob : List Pt} {oC cC cl : List Int}

theorem l8_0_spec (hL : L.length ≤ 20) : ∀ (t i : Nat) (s : Pl × Pt) (l : List Int), L.length - i = t → i ≤ L.length → Rp s.1 s.2 l →
    ∃ l', Rp ((L.drop i).foldl actS s).1 ((L.drop i).foldl actS s).2 l' ∧ l8_0 (L, n, k, e, (i : Int), W, H, C, gx, gy, oW, oH, on, s.1.W, s.1.H, s.1.C.length, s.2.X, s.2.Y, s.1.C.length, c1, c2, c3, c4, c5, c6, ob, oC, s.1.C, l, cC, cl, ()) =
      some (L, n, k, e, W, H, C, gx, gy, oW, oH, on, ((L.drop i).foldl actS s).1.W, ((L.drop i).foldl actS s).1.H, ((L.drop i).foldl actS s).1.C.length, ((L.drop i).foldl actS s).2.X, ((L.drop i).foldl actS s).2.Y, ((L.drop i).foldl actS s).1.C.length, c1, c2, c3, c4, c5, c6, ob, oC, ((L.drop i).foldl actS s).1.C, l', cC, cl, ()) := by
  intro t
  induction t with
  | zero =>
    intro i s l ht hi h
    have : i = L.length := by omega
    subst this
    have c1' : ¬ (L.length : Int) < (L.length : Int) := by omega
    rw [List.drop_length]
    refine ⟨l, h, ?_⟩
    have hr : r8_0 (L, n, k, e, (L.length : Int), W, H, C, gx, gy, oW, oH, on, s.1.W, s.1.H, s.1.C.length, s.2.X, s.2.Y, s.1.C.length, c1, c2, c3, c4, c5, c6, ob, oC, s.1.C, l, cC, cl, ()) = some (.inr (L, n, k, e, W, H, C, gx, gy, oW, oH, on, s.1.W, s.1.H, s.1.C.length, s.2.X, s.2.Y, s.1.C.length, c1, c2, c3, c4, c5, c6, ob, oC, s.1.C, l, cC, cl, ())) := by
      unfold r8_0
      simp only [c1', decide_false, cond_false]
    unfold l8_0
    rw [iterO_eq, hr]
    rfl
  | succ t ih =>
    intro i s l ht hi h
    have hin : i < L.length := by omega
    have c1' : (i : Int) < (L.length : Int) := by omega
    have w0 : IntKind.i64.wrap ((i : Int) + 1) = ((i + 1 : Nat) : Int) := by rw [w64 (by omega) (by omega)]; rfl
    have e1 : L[i]? = some L[i] := List.getElem?_eq_getElem hin
    have hd : L.drop i = L[i] :: L.drop (i + 1) := drop_cons hin
    rw [hd]
    generalize L[i] = a at *
    have hl := h.len
    have z1 : (s.1.C.length ≤ s.1.C.length) = True := by simp
    have z2 : (s.1.C.length ≤ l.length) = True := by simp [hl]
    have tl : List.take s.1.C.length l = l := List.take_of_length_le (by omega)
    have tc : List.take s.1.C.length s.1.C = s.1.C := by simp
    obtain ⟨m, k1, k2⟩ := f22_spec h a
    obtain ⟨l', q1, q2⟩ := ih (i + 1) (actS s a) m (by omega) (by omega) k2
    refine ⟨l', q1, ?_⟩
    have hr : r8_0 (L, n, k, e, (i : Int), W, H, C, gx, gy, oW, oH, on, s.1.W, s.1.H, s.1.C.length, s.2.X, s.2.Y, s.1.C.length, c1, c2, c3, c4, c5, c6, ob, oC, s.1.C, l, cC, cl, ()) =
        some (.inl (L, n, k, e, ((i + 1 : Nat) : Int), W, H, C, gx, gy, oW, oH, on, (actS s a).1.W, (actS s a).1.H, (actS s a).1.C.length, (actS s a).2.X, (actS s a).2.Y, (actS s a).1.C.length, c1, c2, c3, c4, c5, c6, ob, oC, (actS s a).1.C, m, cC, cl, ())) := by
      unfold r8_0
      simp only [c1', decide_true, cond_true, idxO_nat, e1, Option.bind_some, Nat.zero_add, List.drop_zero, z1, z2, tl, tc, k1, w0]
      rfl
    unfold l8_0 at q2 ⊢
    rw [iterO_eq, hr]
    exact q2

theorem l8_6_spec {rC rl : List Int} (hL : L.length ≤ 20) : ∀ (t i : Nat) (s : Pl × Pt) (l : List Int), L.length - i = t → i ≤ L.length → Rp s.1 s.2 l →
    ∃ l', Rp ((L.drop i).foldl actS s).1 ((L.drop i).foldl actS s).2 l' ∧ l8_6 (L, (i : Int), gx, gy, c1, c2, c3, c4, c5, c6, s.1.W, s.1.H, s.1.C.length, s.2.X, s.2.Y, s.1.C.length, rC, rl, s.1.C, l, ()) =
      some (gx, gy, c1, c2, c3, c4, c5, c6, ((L.drop i).foldl actS s).1.W, ((L.drop i).foldl actS s).1.H, ((L.drop i).foldl actS s).1.C.length, ((L.drop i).foldl actS s).2.X, ((L.drop i).foldl actS s).2.Y, ((L.drop i).foldl actS s).1.C.length, rC, rl, ((L.drop i).foldl actS s).1.C, l', ()) := by
  intro t
  induction t with
  | zero =>
    intro i s l ht hi h
    have : i = L.length := by omega
    subst this
    have c1' : ¬ (L.length : Int) < (L.length : Int) := by omega
    rw [List.drop_length]
    refine ⟨l, h, ?_⟩
    have hr : r8_6 (L, (L.length : Int), gx, gy, c1, c2, c3, c4, c5, c6, s.1.W, s.1.H, s.1.C.length, s.2.X, s.2.Y, s.1.C.length, rC, rl, s.1.C, l, ()) = some (.inr (gx, gy, c1, c2, c3, c4, c5, c6, s.1.W, s.1.H, s.1.C.length, s.2.X, s.2.Y, s.1.C.length, rC, rl, s.1.C, l, ())) := by
      unfold r8_6
      simp only [c1', decide_false, cond_false]
    unfold l8_6
    rw [iterO_eq, hr]
    rfl
  | succ t ih =>
    intro i s l ht hi h
    have hin : i < L.length := by omega
    have c1' : (i : Int) < (L.length : Int) := by omega
    have w0 : IntKind.i64.wrap ((i : Int) + 1) = ((i + 1 : Nat) : Int) := by rw [w64 (by omega) (by omega)]; rfl
    have e1 : L[i]? = some L[i] := List.getElem?_eq_getElem hin
    have hd : L.drop i = L[i] :: L.drop (i + 1) := drop_cons hin
    rw [hd]
    generalize L[i] = a at *
    have hl := h.len
    have z1 : (s.1.C.length ≤ s.1.C.length) = True := by simp
    have z2 : (s.1.C.length ≤ l.length) = True := by simp [hl]
    have tl : List.take s.1.C.length l = l := List.take_of_length_le (by omega)
    have tc : List.take s.1.C.length s.1.C = s.1.C := by simp
    obtain ⟨m, k1, k2⟩ := f22_spec h a
    obtain ⟨l', q1, q2⟩ := ih (i + 1) (actS s a) m (by omega) (by omega) k2
    refine ⟨l', q1, ?_⟩
    have hr : r8_6 (L, (i : Int), gx, gy, c1, c2, c3, c4, c5, c6, s.1.W, s.1.H, s.1.C.length, s.2.X, s.2.Y, s.1.C.length, rC, rl, s.1.C, l, ()) =
        some (.inl (L, ((i + 1 : Nat) : Int), gx, gy, c1, c2, c3, c4, c5, c6, (actS s a).1.W, (actS s a).1.H, (actS s a).1.C.length, (actS s a).2.X, (actS s a).2.Y, (actS s a).1.C.length, rC, rl, (actS s a).1.C, m, ())) := by
      unfold r8_6
      simp only [c1', decide_true, cond_true, idxO_nat, e1, Option.bind_some, Nat.zero_add, List.drop_zero, z1, z2, tl, tc, k1, w0]
      rfl
    unfold l8_6 at q2 ⊢
    rw [iterO_eq, hr]
    exact q2
end

theorem f23_eq (a b : Int) (C : List Int) (x y : Int) (l : List Int) : f23 a b C x y l = (x, y) := rfl

theorem repairClones_plain (x : Int × Int × List Int × Int × Int × List Ac × Unit) : f8 x = some (true, ()) := by
  obtain ⟨w, h, C, a, b, L, ⟨⟩⟩ := x
  unfold f8
  simp only [f9_spec, Option.bind_some, Bool.not_true, cond_false, f20_spec]
  by_cases hs : C.length ≤ 100 ∧ L.length ≤ 20
  · have rr : roomy C.length 1 = true := roomy_ok (by omega)
    have z1 : (C.length ≤ C.length) = True := by simp
    have tc : List.take C.length C = C := by simp
    simp only [hs, and_self, decide_true, Bool.not_true, cond_false, Nat.zero_add, List.nil_append, List.drop_zero, rr, cond_true, z1, tc]
    rcases f10_spec (p := ⟨w, h, C⟩) (by simp only; omega) ⟨a, b⟩ with ⟨v, e⟩ | ⟨v, _, e⟩ | ⟨v, _, l, rp, e⟩
    · simp only at e
      simp only [e, Option.bind_some, Sum.elim_inl, f18_self]
    · simp only at e
      simp only [e, Option.bind_some, Sum.elim_inl, Sum.elim_inr, f18_self]
    · simp only at e
      have h27 := f27_spec rp
      have hl := rp.len
      obtain ⟨n, k, ee, ob, g1, g2, g3⟩ := f25_any (p := ⟨w, h, C⟩) rp.ok.few ⟨a, b⟩ ⟨a, b⟩
      have h15 := f15_spec (p := ⟨w, h, C⟩) (goal := ⟨a, b⟩) ⟨a, b⟩ l
      have h19 := f19_spec rp.ok ⟨a, b⟩ l
      simp only at h27 hl g1 h15 h19
      have z2 : (C.length ≤ l.length) = True := by simp [hl]
      have tl : List.take C.length l = l := List.take_of_length_le (by omega)
      have z3 : (n ≤ ob.length) = True := by simp [g2]
      have h17 := f17_spec (a := ob.take n) (b := ob.take n) (by rw [take_len0 g2]; omega)
      obtain ⟨l1, k1, k2⟩ := l8_0_spec (n := n) (k := k) (e := ee) (W := w) (H := h) (gx := a) (gy := b) (oW := w) (oH := h) (C := C) (on := C.length) (c1 := w) (c2 := h) (c3 := C.length) (c4 := a) (c5 := b) (c6 := C.length) (ob := ob) (oC := C) (cC := C) (cl := l) hs.2 L.length 0 (⟨w, h, C⟩, ⟨a, b⟩) l (by omega) (by omega) rp
      obtain ⟨l2, k3, k4⟩ := l8_6_spec (gx := a) (gy := b) (c1 := (L.foldl actS (⟨w, h, C⟩, ⟨a, b⟩)).1.W) (c2 := (L.foldl actS (⟨w, h, C⟩, ⟨a, b⟩)).1.H) (c3 := (L.foldl actS (⟨w, h, C⟩, ⟨a, b⟩)).1.C.length) (c4 := (L.foldl actS (⟨w, h, C⟩, ⟨a, b⟩)).2.X) (c5 := (L.foldl actS (⟨w, h, C⟩, ⟨a, b⟩)).2.Y) (c6 := (L.foldl actS (⟨w, h, C⟩, ⟨a, b⟩)).1.C.length) (rC := (L.foldl actS (⟨w, h, C⟩, ⟨a, b⟩)).1.C) (rl := l1) hs.2 L.length 0 (⟨w, h, C⟩, ⟨a, b⟩) l (by omega) (by omega) rp
      rw [List.drop_zero] at k1 k2 k3 k4
      generalize L.foldl actS (⟨w, h, C⟩, ⟨a, b⟩) = s at *
      have := k3.unique k1
      subst this
      obtain ⟨p, g⟩ := s
      simp only at k1 k2 k3 k4
      have k2' : l8_0 (L, n, k, ee, 0, w, h, C, a, b, w, h, C.length, w, h, C.length, a, b, C.length, w, h, C.length, a, b, C.length, ob, C, C, l, C, l, ()) = _ := k2
      have k4' : l8_6 (L, 0, a, b, p.W, p.H, p.C.length, g.X, g.Y, p.C.length, w, h, C.length, a, b, C.length, p.C, l2, C, l, ()) = _ := k4
      have hl2 := k1.len
      have y1 : (p.C.length ≤ p.C.length) = True := by simp
      have y2 : (p.C.length ≤ l2.length) = True := by simp [hl2]
      have yl : List.take p.C.length l2 = l2 := List.take_of_length_le (by omega)
      have yc : List.take p.C.length p.C = p.C := by simp
      have j19 := f19_spec k1.ok g l2
      have hc := f14_spec k1 ⟨a, b⟩
      simp only at hc
      simp only [e, Option.bind_some, Sum.elim_inr, z1, z2, tl, tc, decide_true, cond_true, h27, h15, g1, k2', z3, h17, Bool.not_true, cond_false, bne_self_eq_false, f23_eq, beq_self_eq_true, f18_self, h19, k4', y1, y2, yl, yc, j19, hc]
  · simp only [hs, decide_false, Bool.not_false, cond_true]

end Go.AE
