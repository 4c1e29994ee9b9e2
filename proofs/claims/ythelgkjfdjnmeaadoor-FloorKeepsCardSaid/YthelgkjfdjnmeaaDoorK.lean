/-
  The chapter Floor, part 8: the reference's Rooms numbers the rooms too; FloorRooms.
-/
import Derived.Test.YthelgkjfdjnmeaaDoorJ
namespace Go.AE
open Go.Proofs Go.RowKit
set_option maxRecDepth 100000

section
variable {p : Pl} {l0 : List Int} {r : Int} {c0 : Pt} {i : Int}

theorem r17_18_spec (hp : p.Ok) {l : List Int} {c : Pt} {off m : Nat} {ob : List Pt} {j : Nat} {d : Pt} {rem : List Pt} (h : Pl.FI p l0 r c0 l ((ob.drop off).take m) c (d :: rem)) (hc : p.Conn c0 c) (hj : Pl.four[j]? = some d) (hj4 : j < 4) (hd : d ∈ Pl.four) (hob : off + m ≤ ob.length) (hm : m ≤ 5000) :
    ∃ l' off' m' ob', r17_18 (p.C.length, r, i, off, m, 4, (j : Int), p.W, p.H, p.C, l, ob, Pl.four.map (Pl.add c), ()) = some (.inl (p.C.length, r, i, off', m', 4, ((j + 1 : Nat) : Int), p.W, p.H, p.C, l', ob', Pl.four.map (Pl.add c), ())) ∧ off' + m' ≤ ob'.length ∧ Pl.FI p l0 r c0 l' ((ob'.drop off').take m') c rem ∧ Pl.fmu l' ((ob'.drop off').take m') ≤ Pl.fmu l ((ob.drop off).take m) := by
  have c1 : (j : Int) < 4 := by omega
  have c2 : (0 : Int) ≤ (j : Int) := by omega
  have c3 : (j : Int) < ((4 : Nat) : Int) := by omega
  have hj' : (Pl.four.map (Pl.add c))[j]? = some (Pl.add c d) := by rw [List.getElem?_map, hj]; rfl
  have w3 : IntKind.i64.wrap ((j : Int) + 1) = ((j + 1 : Nat) : Int) := by rw [w64 (by omega) (by omega)]; rfl
  have hv := f41_spec hp (Pl.add c d)
  have hln : ((ob.drop off).take m).length = m := by rw [List.length_take, List.length_drop]; omega
  by_cases hf : p.free (Pl.add c d)
  · have hv1 : (p.val (Pl.add c d) == 1) = true := by rw [beq_iff_eq]; exact val_free.2 hf
    have hix := ix_w hp hf.1
    obtain ⟨b1, b2⟩ := ix_in hp h.len hf.1
    rw [h.len] at b2
    have g1 := g_get hp h.len hf.1
    by_cases h0 : p.g l (Pl.add c d) < 0
    · have z3 : (off + m ≤ ob.length) = True := by simp [hob]
      have rr : roomy (m + 1) 16 = true := roomy_ok (by omega)
      have hmu := Pl.FI.mu hp h.len hf.1 h0 h.r0
      have hlen : ((ob.drop off).take m ++ [Pl.add c d]).length = m + 1 := by rw [List.length_append, hln]; rfl
      have e : ((((ob.drop off).take m ++ [Pl.add c d]).drop 0).take (m + 1)) = (ob.drop off).take m ++ [Pl.add c d] := by rw [List.drop_zero, List.take_of_length_le (by omega)]
      refine ⟨l.set (p.ix (Pl.add c d)) r, 0, m + 1, (ob.drop off).take m ++ [Pl.add c d], ?_, by omega, ?_, ?_⟩
      · unfold r17_18
        simp only [c1, c2, c3, decide_true, Bool.and_self, cond_true, Nat.zero_add, Int.toNat_natCast, hj', Option.bind_some, hv, hv1, hix, b1, b2, g1, h0, z3, rr, j17_67, w3]
      · rw [e]
        exact h.push hp hc hd hf h0 (fun x => by simp)
      · rw [e]
        unfold Pl.fmu
        rw [List.length_append, List.length_singleton]
        omega
    · refine ⟨l, off, m, ob, ?_, hob, h.pass hc hd (fun hx => h0 hx.2), Nat.le_refl _⟩
      unfold r17_18
      simp only [c1, c2, c3, decide_true, Bool.and_self, cond_true, Nat.zero_add, Int.toNat_natCast, hj', Option.bind_some, hv, hv1, hix, b1, b2, g1, h0, decide_false, cond_false, j17_67, w3]
  · have hv1 : (p.val (Pl.add c d) == 1) = false := by rw [beq_eq_false_iff_ne]; exact fun e => hf (val_free.1 e)
    refine ⟨l, off, m, ob, ?_, hob, h.pass hc hd (fun hx => hf hx.1), Nat.le_refl _⟩
    unfold r17_18
    simp only [c1, c2, c3, decide_true, Bool.and_self, cond_true, Nat.zero_add, Int.toNat_natCast, hj', Option.bind_some, hv, hv1, cond_false, j17_67, w3]

theorem l17_18_spec (hp : p.Ok) {c : Pt} (hc : p.Conn c0 c) : ∀ (t j : Nat) (l : List Int) (off m : Nat) (ob : List Pt), 4 - j = t → j ≤ 4 → off + m ≤ ob.length → Pl.FI p l0 r c0 l ((ob.drop off).take m) c (Pl.four.drop j) → Pl.fmu l ((ob.drop off).take m) ≤ 2000 →
    ∃ l' off' m' ob', l17_18 (p.C.length, r, i, off, m, 4, (j : Int), p.W, p.H, p.C, l, ob, Pl.four.map (Pl.add c), ()) = some (p.C.length, r, i, off', m', p.W, p.H, p.C, l', ob', ()) ∧ off' + m' ≤ ob'.length ∧ Pl.FI p l0 r c0 l' ((ob'.drop off').take m') c [] ∧ Pl.fmu l' ((ob'.drop off').take m') ≤ Pl.fmu l ((ob.drop off).take m) := by
  intro t
  induction t with
  | zero =>
    intro j l off m ob ht hj hob h _
    have : j = 4 := by omega
    subst this
    refine ⟨l, off, m, ob, ?_, hob, h, Nat.le_refl _⟩
    have hr : r17_18 (p.C.length, r, i, off, m, 4, ((4 : Nat) : Int), p.W, p.H, p.C, l, ob, Pl.four.map (Pl.add c), ()) = some (.inr (p.C.length, r, i, off, m, p.W, p.H, p.C, l, ob, ())) := rfl
    unfold l17_18
    rw [iterO_eq, hr]
  | succ t ih =>
    intro j l off m ob ht hj hob h hmu
    obtain ⟨d, d1, d2, d3⟩ := four_get (j := j) (by omega)
    rw [d3] at h
    have hln : ((ob.drop off).take m).length = m := by rw [List.length_take, List.length_drop]; omega
    obtain ⟨l1, o1, m1, ob1, s1, s2, s4, s5⟩ := r17_18_spec (i := i) hp h hc d1 (by omega) d2 hob (by unfold Pl.fmu at hmu; omega)
    obtain ⟨l2, o2, m2, ob2, u1, u2, u4, u5⟩ := ih (j + 1) l1 o1 m1 ob1 (by omega) (by omega) s2 s4 (by omega)
    refine ⟨l2, o2, m2, ob2, ?_, u2, u4, by omega⟩
    unfold l17_18 at u1 ⊢
    rw [iterO_eq, s1]
    exact u1

theorem four_lit (c : Pt) : [Pt.mk (c.X + 1) c.Y, Pt.mk c.X (c.Y + 1), Pt.mk (c.X - 1) c.Y, Pt.mk c.X (c.Y - 1)] = Pl.four.map (Pl.add c) := by
  simp only [Pl.four, Pl.add, List.map_cons, List.map_nil, Int.add_zero]
  rfl

theorem l17_12_spec (hp : p.Ok) : ∀ (t : Nat) (l : List Int) (off m : Nat) (ob : List Pt) (c : Pt), Pl.fmu l ((ob.drop off).take m) = t → off + m ≤ ob.length → Pl.FI p l0 r c0 l ((ob.drop off).take m) c [] → t ≤ 2000 →
    ∃ l' c', l17_12 (p.C.length, r, i, off, m, p.W, p.H, p.C, l, ob, ()) = some (p.C.length, r, i, p.W, p.H, p.C, l', ()) ∧ Pl.FI p l0 r c0 l' [] c' [] := by
  have hw2 := hp.w2
  have hh2 := hp.h2
  intro t
  induction t using Nat.strongRecOn with
  | _ t ih =>
    intro l off m ob c ht hob h hmu
    unfold l17_12
    rw [iterO_eq]
    by_cases hm0 : m = 0
    · subst hm0
      have hr : r17_12 (p.C.length, r, i, off, 0, p.W, p.H, p.C, l, ob, ()) = some (.inr (p.C.length, r, i, p.W, p.H, p.C, l, ())) := rfl
      rw [hr]
      rw [List.take_zero] at h
      exact ⟨l, c, rfl, h⟩
    · have hlt : off < ob.length := by omega
      have e1 : ob[off]? = some ob[off] := List.getElem?_eq_getElem hlt
      have e2 : (ob.drop off).take m = ob[off] :: (ob.drop (off + 1)).take (m - 1) := by
        obtain ⟨k, rfl⟩ : ∃ k, m = k + 1 := ⟨m - 1, by omega⟩
        rw [List.drop_eq_getElem_cons hlt, List.take_succ_cons]
        simp
      rw [e2] at h ht
      generalize ob[off] = v at *
      obtain ⟨k1, k2⟩ := h.pop (S' := (ob.drop (off + 1)).take (m - 1)) (c := v) (fun x => by simp)
      have hvin := k2.free2.2.1
      unfold Pl.inP at hvin
      have c1 : (m : Int) > 0 := by omega
      have c4 : (1 : Int) ≤ (m : Int) := by omega
      have x1 : IntKind.i64.wrap (v.X + 1) = v.X + 1 := w64 (by omega) (by omega)
      have x2 : IntKind.i64.wrap (v.Y + 1) = v.Y + 1 := w64 (by omega) (by omega)
      have x3 : IntKind.i64.wrap (v.X - 1) = v.X - 1 := w64 (by omega) (by omega)
      have x4 : IntKind.i64.wrap (v.Y - 1) = v.Y - 1 := w64 (by omega) (by omega)
      have hmu' : Pl.fmu l ((ob.drop (off + 1)).take (m - 1)) + 1 = Pl.fmu l (v :: (ob.drop (off + 1)).take (m - 1)) := by unfold Pl.fmu; simp only [List.length_cons]; omega
      obtain ⟨l1, o1, m1, ob1, s1, s2, s4, s5⟩ := l17_18_spec (i := i) hp k2 4 0 l (off + 1) (m - 1) ob rfl (by omega) (by omega) k1 (by omega)
      have s1' : l17_18 (p.C.length, r, i, off + 1, m - 1, 4, 0, p.W, p.H, p.C, l, ob, Pl.four.map (Pl.add v), ()) = _ := s1
      have hr : r17_12 (p.C.length, r, i, off, m, p.W, p.H, p.C, l, ob, ()) = some (.inl (p.C.length, r, i, o1, m1, p.W, p.H, p.C, l1, ob1, ())) := by
        unfold r17_12
        simp only [c1, c4, Int.le_refl, decide_true, Bool.and_self, cond_true, Nat.add_zero, e1, Option.bind_some, Int.toNat_natCast, x1, x2, x3, x4, four_lit, s1']
      rw [hr]
      exact ih (Pl.fmu l1 ((ob1.drop o1).take m1)) (by omega) l1 o1 m1 ob1 v rfl s2 s4 (by omega)
end

theorem l17_0_spec (a b : Int) (C : List Int) (n : Nat) (hn : n ≤ 1000000) : ∀ (t k : Nat) (l : List Int), n - k = t → k ≤ n → l.length = n → l.take k = List.replicate k (-1) →
    l17_0 (n, (k : Int), a, b, C, l, ()) = some (n, a, b, C, List.replicate n (-1), ()) := by
  intro t
  induction t with
  | zero =>
    intro k l ht hk hl h
    have : k = n := by omega
    subst this
    have c1 : ¬ (k : Int) < (k : Int) := by omega
    have e : l = List.replicate k (-1) := by rw [← h, List.take_of_length_le (by omega)]
    have hr : r17_0 (k, (k : Int), a, b, C, l, ()) = some (.inr (k, a, b, C, l, ())) := by
      unfold r17_0
      simp only [c1, decide_false, cond_false]
    unfold l17_0
    rw [iterO_eq, hr, e]
  | succ t ih =>
    intro k l ht hk hl h
    have c1 : (k : Int) < (n : Int) := by omega
    have c2 : (0 : Int) ≤ (k : Int) := by omega
    have e1 : l[k]? = some l[k] := List.getElem?_eq_getElem (by omega)
    have w0 : IntKind.i64.wrap ((k : Int) + 1) = ((k + 1 : Nat) : Int) := by rw [w64 (by omega) (by omega)]; rfl
    have hr : r17_0 (n, (k : Int), a, b, C, l, ()) = some (.inl (n, ((k + 1 : Nat) : Int), a, b, C, l.set k (-1), ())) := by
      unfold r17_0
      simp only [c1, c2, decide_true, Bool.and_self, cond_true, Nat.zero_add, Int.toNat_natCast, e1, Option.bind_some, w0]
    have := ih (k + 1) (l.set k (-1)) (by omega) (by omega) (by rw [List.length_set]; exact hl) (take_set_rep (by omega) h)
    unfold l17_0 at this ⊢
    rw [iterO_eq, hr]
    exact this

theorem l17_6_spec {p : Pl} (hp : p.Ok) : ∀ (t i : Nat) (l : List Int), p.C.length - i = t → i ≤ p.C.length → Pl.OI p l i →
    ∃ l', l17_6 (p.C.length, (p.rk i : Int), (i : Int), p.W, p.H, p.C, l, ()) = some (p.C.length, l', ()) ∧ Pl.IsRooms p l' := by
  have hfew := hp.few
  have hw := hp.w1
  intro t
  induction t with
  | zero =>
    intro i l ht hi h
    have : i = p.C.length := by omega
    subst this
    have c1 : ¬ (p.C.length : Int) < (p.C.length : Int) := by omega
    refine ⟨l, ?_, h.done hp⟩
    have hr : r17_6 (p.C.length, (p.rk p.C.length : Int), (p.C.length : Int), p.W, p.H, p.C, l, ()) = some (.inr (p.C.length, l, ())) := by
      unfold r17_6
      simp only [c1, decide_false, cond_false]
    unfold l17_6
    rw [iterO_eq, hr]
  | succ t ih =>
    intro i l ht hi h
    have hin : i < p.C.length := by omega
    have c1 : (i : Int) < (p.C.length : Int) := by omega
    have c2 : (0 : Int) ≤ (i : Int) := by omega
    have w0 : IntKind.i64.wrap ((i : Int) + 1) = ((i + 1 : Nat) : Int) := by rw [w64 (by omega) (by omega)]; rfl
    obtain ⟨v, hv⟩ : ∃ v, p.C[i]? = some v := ⟨_, List.getElem?_eq_getElem hin⟩
    have g1 := g_cell hp h.len hin
    have hfr := cell_free hp hin
    have go : ∀ (l1 : List Int), Pl.OI p l1 (i + 1) → r17_6 (p.C.length, (p.rk i : Int), (i : Int), p.W, p.H, p.C, l, ()) = some (.inl (p.C.length, (p.rk (i + 1) : Int), ((i + 1 : Nat) : Int), p.W, p.H, p.C, l1, ())) →
        ∃ l', l17_6 (p.C.length, (p.rk i : Int), (i : Int), p.W, p.H, p.C, l, ()) = some (p.C.length, l', ()) ∧ Pl.IsRooms p l' := by
      intro l1 h1 hr
      obtain ⟨l', q1, q2⟩ := ih (i + 1) l1 (by omega) (by omega) h1
      refine ⟨l', ?_, q2⟩
      unfold l17_6 at q1 ⊢
      rw [iterO_eq, hr]
      exact q1
    by_cases hf : p.free (p.cellOf i)
    · have hv1 : v = 1 := by rw [hfr, hv] at hf; exact Option.some.inj hf
      have hvb : (v != 1) = false := by simp [hv1]
      by_cases h0 : p.g l (p.cellOf i) ≥ 0
      · obtain ⟨k1, k2⟩ := h.skip (h.seen h0)
        refine go l k1 ?_
        rw [k2]
        unfold r17_6
        simp only [c1, c2, decide_true, cond_true, idxO_nat, hv, Option.bind_some, hvb, cond_false, Bool.and_self, Nat.zero_add, Int.toNat_natCast, g1, h0, j17_37, w0]
      · have hl := h.new hf (by omega)
        have hfi := Pl.FI.init hp h hl (p.rk i : Int) (by omega)
        rw [Pl.ix_cellOf hp] at hfi
        have hrk := rk_le (p := p) i
        have hsum := lsum_le1 (fun x => if x < 0 then 1 else 0) (fun x => by split <;> omega) (l.set i (p.rk i : Int))
        rw [List.length_set, h.len] at hsum
        have hcell : p.cellOf i = ⟨(i : Int).tmod p.W, (i : Int).tdiv p.W⟩ := by
          unfold Pl.cellOf
          rw [Int.tmod_eq_emod_of_nonneg c2, Int.tdiv_eq_ediv_of_nonneg c2]
        obtain ⟨l1, c', s1, s2⟩ := l17_12_spec (i := (i : Int)) hp _ (l.set i (p.rk i : Int)) 0 1 [p.cellOf i] (p.cellOf i) rfl (by simp) (by simpa using hfi) (by unfold Pl.fmu; simp; omega)
        obtain ⟨k1, k2⟩ := h.flood hl s2
        refine go l1 k1 ?_
        rw [k2]
        rw [hcell] at s1
        have hq : (p.W == 0) = false := by rw [beq_eq_false_iff_ne]; omega
        have w1 : IntKind.i64.wrap ((p.rk i : Int) + 1) = ((p.rk i + 1 : Nat) : Int) := by rw [w64 (by omega) (by omega)]; rfl
        have hd0 : 0 ≤ (i : Int).tdiv p.W := Int.tdiv_nonneg c2 (by omega)
        have hd1 : (i : Int).tdiv p.W ≤ i := Int.tdiv_le_self _ c2
        have w2 : IntKind.i64.wrap ((i : Int).tdiv p.W) = (i : Int).tdiv p.W := w64 (by omega) (by omega)
        unfold r17_6
        simp only [c1, c2, decide_true, cond_true, idxO_nat, hv, Option.bind_some, hvb, cond_false, Bool.and_self, Nat.zero_add, Int.toNat_natCast, g1, h0, decide_false, hq, w2, s1, j17_37, w0, w1]
    · have hv1 : v ≠ 1 := fun e => hf (hfr.2 (by rw [hv, e]))
      have hvb : (v != 1) = true := by simpa using hv1
      obtain ⟨k1, k2⟩ := h.skip (h.unfree hf)
      refine go l k1 ?_
      rw [k2]
      unfold r17_6
      simp only [c1, decide_true, cond_true, idxO_nat, hv, Option.bind_some, hvb, j17_37, w0]

theorem size_w {p : Pl} (hp : p.Ok) : IntKind.i64.wrap (p.W * p.H) = (p.C.length : Int) := by
  have h1 := hp.len
  have h2 := hp.few
  rw [← h1]
  exact w64 (by omega) (by omega)

/-- The reference's Rooms. -/
theorem f17_spec {p : Pl} (hl : p.C.length ≤ 400) : (p.bld = true ∧ ∃ l, f17 (p.W, p.H, p.C, ()) = some (p.C.length, 0, l, ()) ∧ Pl.IsRooms p l) ∨ (p.bld = false ∧ f17 (p.W, p.H, p.C, ()) = some (0, if p.vld then 3 else 1, [], ())) := by
  have h21 := f21_spec (p := p) (by omega)
  by_cases hb : p.bld = true
  · have hv : p.vld = true ∧ p.known = true := by unfold Pl.bld at hb; simpa using hb
    have hp := Pl.vld_ok hv.1 hl
    refine .inl ⟨hb, ?_⟩
    have hi := l17_0_spec p.W p.H p.C p.C.length (by omega) p.C.length 0 (List.replicate p.C.length 0) rfl (by omega) (by simp) (by simp)
    obtain ⟨l, s1, s2⟩ := l17_6_spec hp p.C.length 0 _ rfl (by omega) OI_zero
    refine ⟨l, ?_, s2⟩
    have hi' : l17_0 (p.C.length, 0, p.W, p.H, p.C, List.replicate p.C.length 0, ()) = _ := hi
    have s1' : l17_6 (p.C.length, 0, 0, p.W, p.H, p.C, List.replicate p.C.length (-1), ()) = some (p.C.length, l, ()) := s1
    have c0 : (0 : Int) ≤ (p.C.length : Int) := by omega
    have c1 : (p.C.length : Int) * 8 ≤ 140737488355328 := by omega
    have c2 : (p.C.length : Int) ≤ 140737488355328 := by omega
    rw [hv.1, hv.2] at h21
    simp only [if_true] at h21
    unfold f17
    simp only [h21, Option.bind_some, bne_self_eq_false, cond_false, size_w hp, Int.le_refl, c0, c1, c2, decide_true, Bool.and_self, cond_true, Int.toNat_natCast, hi', s1']
  · have hb' : p.bld = false := by simpa using hb
    refine .inr ⟨hb', ?_⟩
    have e : (if p.vld = true then if p.known = true then (0 : Int) else 3 else 1) = (if p.vld = true then 3 else 1) := by
      unfold Pl.bld at hb'
      cases h1 : p.vld <;> cases h2 : p.known <;> simp [h1, h2] at hb' ⊢
    rw [e] at h21
    have q : ((if p.vld = true then (3 : Int) else 1) != 0) = true := by cases p.vld <;> rfl
    unfold f17
    simp only [h21, Option.bind_some, q, cond_true]

theorem f19_self (a b : Int) (l : List Int) : f19 a b l a b l = true := by simp [f19]

theorem floorRooms_plain (x : Int × Int × List Int × Unit) : f4 x = some (true, ()) := by
  obtain ⟨w, h, C, ⟨⟩⟩ := x
  unfold f4
  simp only [f12_spec, Option.bind_some, Bool.not_true, cond_false, f13_few]
  by_cases hl : C.length ≤ 400
  · have rr : roomy C.length 1 = true := roomy_ok (by omega)
    have z1 : (C.length ≤ C.length) = True := by simp
    have tc : List.take C.length C = C := by simp
    simp only [hl, decide_true, Bool.not_true, cond_false, Nat.zero_add, List.nil_append, List.drop_zero, rr, cond_true, z1, tc]
    rcases f16_spec (p := ⟨w, h, C⟩) hl with ⟨b1, hp, l, e1, r1⟩ | ⟨b1, e1⟩
    · rcases f17_spec (p := ⟨w, h, C⟩) hl with ⟨_, m, e2, r2⟩ | ⟨b2, _⟩
      · have := r2.unique hp r1
        subst this
        have hlen := r1.len
        simp only at e1 e2 hlen
        have z2 : (C.length ≤ m.length) = True := by simp [hlen]
        have tl : List.take C.length m = m := List.take_of_length_le (by omega)
        have h18 := f18_spec (a := m) (b := m) (by omega)
        simp only [decide_true] at h18
        simp only [e1, e2, Option.bind_some, beq_self_eq_true, cond_true, z2, decide_true, tl, h18, f19_self]
      · rw [b1] at b2; cases b2
    · rcases f17_spec (p := ⟨w, h, C⟩) hl with ⟨b2, _⟩ | ⟨_, e2⟩
      · rw [b1] at b2; cases b2
      · simp only at e1 e2
        have h18 : f18 ([], [], ()) = some (true, ()) := by rw [f18_spec (by decide)]; simp
        have z2 : (0 ≤ ([] : List Int).length) = True := by simp
        simp only [e1, e2, Option.bind_some, beq_self_eq_true, cond_true, z2, decide_true, List.take_nil, h18, f19_self]
  · simp only [hl, decide_false, Bool.not_false, cond_true]

end Go.AE
