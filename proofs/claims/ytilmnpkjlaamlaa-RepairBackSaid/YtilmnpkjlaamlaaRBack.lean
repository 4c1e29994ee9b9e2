/-
  The chapter Repair, RepairBack: a change that is taken back.
-/
import Derived.Test.YtilmnpkjlaamlaaR7
import Derived.Test.YtilmnpkjlaamlaaFBack
namespace Go.AE
open Go.Proofs Go.RowKit
set_option maxRecDepth 100000

/-- Taken back. -/
theorem upd_back {p : Pl} (hp : p.Ok) {c : Pt} (hc : p.inP c) {b b' : Bool} (h : p.C.getD (p.ix c) 0 = if b then 1 else 2) : (p.upd c b').upd c b = p := by
  have e : (p.upd c b').upd c b = p.put c (p.C.getD (p.ix c) 0) := by
    unfold Pl.upd
    rw [if_pos hc]
    have : (p.put c (if b' = true then 1 else 2)).inP c := hc
    rw [if_pos this, h]
    unfold Pl.put Pl.ix
    simp only [List.set_set]
  rw [e, Pl.put_same hp hc]

theorem j3_49_spec {p : Pl} {goal : Pt} {l : List Int} (h : Rp p goal l) {L : List Pt} {c0 : Pt} (h0 : L[0]? = some c0) (i : Int) (w hh : Int) (C : List Int) (c : Pt) {n : Nat} {k e : Int} {ob : List Pt} (hf : f25 (p.W, p.H, p.C, c.X, c.Y, goal.X, goal.Y, ()) = some (n, k, e, ob, ())) (hob : n ≤ ob.length) (hn : n ≤ 39601) :
    j3_49 (L, i, p.cost l c0, n, k, e, w, hh, C, p.W, p.H, p.C.length, goal.X, goal.Y, p.C.length, c.X, c.Y, ob, p.C, l, ()) = some (.inr (L, i, w, hh, C, p.W, p.H, p.C.length, goal.X, goal.Y, p.C.length, p.C, l, ())) := by
  have hl := h.len
  have z1 : (p.C.length ≤ p.C.length) = True := by simp
  have z2 : (p.C.length ≤ l.length) = True := by simp [hl]
  have z3 : (n ≤ ob.length) = True := by simp [hob]
  have tl : List.take p.C.length l = l := List.take_of_length_le (by omega)
  have tc : List.take p.C.length p.C = p.C := by simp
  have hs := f17_spec (a := ob.take n) (b := ob.take n) (by rw [take_len0 hob]; omega)
  unfold j3_49
  simp only [Nat.zero_add, List.drop_zero, z1, z2, z3, tl, tc, decide_true, cond_true, f15_spec, hf, Option.bind_some, hs, Bool.not_true, cond_false, bne_self_eq_false, idxO_zero, h0, f14_spec h]

theorem r3_0_spec {p : Pl} {goal : Pt} {l : List Int} (h : Rp p goal l) (hz : ∀ x ∈ p.C, 0 ≤ x) {L : List Pt} (hL : L.length ≤ 12) {i : Nat} (hi : i < L.length) :
    r3_0 (L, (i : Int), p.W, p.H, p.C, p.W, p.H, p.C.length, goal.X, goal.Y, p.C.length, p.C, l, ()) = some (.inl (L, ((i + 1 : Nat) : Int), p.W, p.H, p.C, p.W, p.H, p.C.length, goal.X, goal.Y, p.C.length, p.C, l, ())) := by
  have hl := h.len
  have c1 : (i : Int) < (L.length : Int) := by omega
  have w0 : IntKind.i64.wrap ((i : Int) + 1) = ((i + 1 : Nat) : Int) := by rw [w64 (by omega) (by omega)]; rfl
  have e1 : L[i]? = some L[i] := List.getElem?_eq_getElem hi
  have e0 : L[0]? = some L[0] := List.getElem?_eq_getElem (by omega)
  generalize L[0] = c0 at *
  generalize L[i] = c at *
  have z1 : (p.C.length ≤ p.C.length) = True := by simp
  have z2 : (p.C.length ≤ l.length) = True := by simp [hl]
  have tl : List.take p.C.length l = l := List.take_of_length_le (by omega)
  have tc : List.take p.C.length p.C = p.C := by simp
  have h12 := f12_spec (p := p) c
  by_cases hc : p.inP c
  · have hv : p.val c = p.C.getD (p.ix c) 0 := by unfold Pl.val; rw [if_pos hc]
    have h13 := f13_spec h.ok c
    by_cases v0 : p.val c = 0
    · unfold r3_0
      simp only [c1, decide_true, cond_true, idxO_nat, e1, Option.bind_some, h12, hc, Bool.not_true, cond_false, h13, v0, beq_self_eq_true, j3_25, w0]
    · have v0' : (p.val c == 0) = false := by simpa using v0
      have hb : p.C.getD (p.ix c) 0 = if (p.val c == 1) = true then 1 else 2 := by
        have hm : p.C.getD (p.ix c) 0 ∈ p.C := List.mem_of_getElem? (cell_get h.ok hc)
        have h1 := hz _ hm
        have h2 := h.ok.cells _ hm
        rw [hv] at v0 ⊢
        by_cases q : p.C.getD (p.ix c) 0 = 1
        · rw [q]; rfl
        · have : (p.C.getD (p.ix c) 0 == 1) = false := by simpa using q
          rw [this]
          simp only [Bool.false_eq_true, if_false]
          omega
      have hback := upd_back h.ok hc (b' := !(p.val c == 1)) hb
      obtain ⟨n, k, e, ob, k1, k2, k3⟩ := f25_any (p := p) h.ok.few c goal
      obtain ⟨r1, s1, s2⟩ := f16_spec h c (!(p.val c == 1))
      rw [if_pos hc] at s2
      have hin1 : (p.upd c (!(p.val c == 1))).inP c := Pl.upd_inP.2 hc
      generalize p.upd c (!(p.val c == 1)) = q at *
      have go : ∀ m, Rp q goal m → ∃ r2, f16 (c.X, c.Y, p.val c == 1, q.C, m, q.W, q.H, q.C.length, goal.X, goal.Y, q.C.length, ()) = some r2 ∧ Out p goal 0 r2 := fun m hm => by
        obtain ⟨r2, t1, t2⟩ := f16_spec hm c (p.val c == 1)
        rw [if_pos hin1, hback] at t2
        exact ⟨r2, t1, t2⟩
      have y1 : (q.C.length ≤ q.C.length) = True := by simp
      have yc : List.take q.C.length q.C = q.C := by simp
      have fin : ∀ m, Rp p goal m → j3_49 (L, (i : Int), p.cost l c0, n, k, e, p.W, p.H, p.C, p.W, p.H, p.C.length, goal.X, goal.Y, p.C.length, c.X, c.Y, ob, p.C, m, ()) = some (.inr (L, (i : Int), p.W, p.H, p.C, p.W, p.H, p.C.length, goal.X, goal.Y, p.C.length, p.C, l, ())) := fun m hm => by
        have := hm.unique h
        subst this
        exact j3_49_spec h e0 _ _ _ _ c k1 k2 k3
      cases s2 with
      | @old m hm =>
        have y2 : (q.C.length ≤ m.length) = True := by simp [hm.len]
        have yl : List.take q.C.length m = m := List.take_of_length_le (by rw [hm.len]; omega)
        obtain ⟨r2, t1, t2⟩ := go m hm
        cases t2 with
        | @old m2 hm2 =>
          unfold r3_0
          simp only [c1, decide_true, cond_true, idxO_nat, e1, Option.bind_some, h12, hc, Bool.not_true, cond_false, h13, v0', idxO_zero, e0, Nat.zero_add, List.drop_zero, z1, z2, tl, tc, f14_spec h, f15_spec, k1, s1, Sum.elim_inl, Sum.elim_inr, bne_self_eq_false, y1, y2, yc, yl, t1, fin m2 hm2, j3_25, w0]
        | @new m2 hm2 =>
          unfold r3_0
          simp only [c1, decide_true, cond_true, idxO_nat, e1, Option.bind_some, h12, hc, Bool.not_true, cond_false, h13, v0', idxO_zero, e0, Nat.zero_add, List.drop_zero, z1, z2, tl, tc, f14_spec h, f15_spec, k1, s1, Sum.elim_inl, Sum.elim_inr, bne_self_eq_false, y1, y2, yc, yl, t1, fin m2 hm2, j3_25, w0]
      | @new m hm =>
        have y2 : (q.C.length ≤ m.length) = True := by simp [hm.len]
        have yl : List.take q.C.length m = m := List.take_of_length_le (by rw [hm.len]; omega)
        obtain ⟨r2, t1, t2⟩ := go m hm
        cases t2 with
        | @old m2 hm2 =>
          unfold r3_0
          simp only [c1, decide_true, cond_true, idxO_nat, e1, Option.bind_some, h12, hc, Bool.not_true, cond_false, h13, v0', idxO_zero, e0, Nat.zero_add, List.drop_zero, z1, z2, tl, tc, f14_spec h, f15_spec, k1, s1, Sum.elim_inl, Sum.elim_inr, bne_self_eq_false, y1, y2, yc, yl, t1, fin m2 hm2, j3_25, w0]
        | @new m2 hm2 =>
          unfold r3_0
          simp only [c1, decide_true, cond_true, idxO_nat, e1, Option.bind_some, h12, hc, Bool.not_true, cond_false, h13, v0', idxO_zero, e0, Nat.zero_add, List.drop_zero, z1, z2, tl, tc, f14_spec h, f15_spec, k1, s1, Sum.elim_inr, bne_self_eq_false, y1, y2, yc, yl, t1, fin m2 hm2, j3_25, w0]
  · unfold r3_0
    simp only [c1, decide_true, cond_true, idxO_nat, e1, Option.bind_some, h12, hc, decide_false, Bool.not_false, j3_25, w0]

theorem l3_0_spec {p : Pl} {goal : Pt} {l : List Int} (h : Rp p goal l) (hz : ∀ x ∈ p.C, 0 ≤ x) {L : List Pt} (hL : L.length ≤ 12) : ∀ (t i : Nat), L.length - i = t → i ≤ L.length →
    l3_0 (L, (i : Int), p.W, p.H, p.C, p.W, p.H, p.C.length, goal.X, goal.Y, p.C.length, p.C, l, ()) = some (.inr (p.W, p.H, p.C, p.W, p.H, p.C.length, goal.X, goal.Y, p.C.length, p.C, l, ())) := by
  intro t
  induction t with
  | zero =>
    intro i ht hi
    have : i = L.length := by omega
    subst this
    have c1 : ¬ (L.length : Int) < (L.length : Int) := by omega
    have hr : r3_0 (L, (L.length : Int), p.W, p.H, p.C, p.W, p.H, p.C.length, goal.X, goal.Y, p.C.length, p.C, l, ()) = some (.inr (.inr (p.W, p.H, p.C, p.W, p.H, p.C.length, goal.X, goal.Y, p.C.length, p.C, l, ()))) := by
      unfold r3_0
      simp only [c1, decide_false, cond_false]
    unfold l3_0
    rw [iterO_eq, hr]
  | succ t ih =>
    intro i ht hi
    have := ih (i + 1) (by omega) (by omega)
    unfold l3_0 at this ⊢
    rw [iterO_eq, r3_0_spec h hz hL (by omega)]
    exact this

theorem f11_vld {p : Pl} (hl : p.C.length ≤ 1000000) : f11 (p.W, p.H, p.C, ()) = some (p.vld, ()) := f11_spec hl

theorem repairBack_plain (x : Int × Int × List Int × Int × Int × List Pt × Unit) (hz : ∀ v ∈ x.2.2.1, 0 ≤ v) : f3 x = some (true, ()) := by
  obtain ⟨w, h, C, a, b, L, ⟨⟩⟩ := x
  simp only at hz
  unfold f3
  simp only [f9_spec, Option.bind_some, Bool.not_true, cond_false]
  by_cases hC : (C.length : Int) > 100
  · simp only [hC, decide_true, cond_true]
  · by_cases hL : (L.length : Int) > 12
    · simp only [hC, hL, decide_true, decide_false, cond_true, cond_false]
    · simp only [hC, hL, decide_false, cond_false]
      have h11 := f11_vld (p := ⟨w, h, C⟩) (by simp only; omega)
      simp only at h11
      rcases f10_spec (p := ⟨w, h, C⟩) (by simp only; omega) ⟨a, b⟩ with ⟨v, e⟩ | ⟨v, _, e⟩ | ⟨v, _, l, rp, e⟩
      · simp only at e
        rw [v] at h11
        simp only [e, Option.bind_some, Sum.elim_inl, h11, Bool.not_false, cond_true]
      · simp only at e
        rw [v] at h11
        simp only [e, Option.bind_some, Sum.elim_inl, Sum.elim_inr, h11, Bool.not_true, cond_false]
      · have hloop := l3_0_spec rp hz (L := L) (by omega) L.length 0 (by omega) (by omega)
        have h19 := f19_spec rp.ok ⟨a, b⟩ l
        have hl := rp.len
        simp only at e hloop h19 hl
        have z1 : (C.length ≤ C.length) = True := by simp
        have z2 : (C.length ≤ l.length) = True := by simp [hl]
        have tl : List.take C.length l = l := List.take_of_length_le (by omega)
        have tc : List.take C.length C = C := by simp
        have hloop' : l3_0 (L, 0, w, h, C, w, h, C.length, a, b, C.length, C, l, ()) = some (.inr (w, h, C, w, h, C.length, a, b, C.length, C, l, ())) := hloop
        rw [v] at h11
        simp only [e, Option.bind_some, Sum.elim_inr, h11, Bool.not_true, cond_false, hloop', Nat.zero_add, List.drop_zero, z1, z2, tl, tc, decide_true, cond_true, h19, f18_self]

end Go.AE
