/-
  WholePath, part 6: equal lists; Check; the planner is led to the inflated plan; the path keeps the clearance.
-/
import Derived.Test.YtmhbjgelllhnbaaT5
import Derived.Test.YtmhbjgelllhnbaaFc
namespace Go.AE
open Go.Proofs Go.RowKit
set_option maxRecDepth 100000

theorem l33_self (l : List Int) (hn : l.length ≤ 1000000) : ∀ (t i : Nat), l.length - i = t → i ≤ l.length → l33_0 (l, l, (l.length : Int), (i : Int), ()) = some (.inr ()) := by
  intro t
  induction t with
  | zero =>
    intro i ht hi
    have c1 : ¬ (i : Int) < (l.length : Int) := by omega
    have hr : r33_0 (l, l, (l.length : Int), (i : Int), ()) = some (.inr (.inr ())) := by
      unfold r33_0
      simp only [c1, decide_false, cond_false]
    unfold l33_0
    rw [iterO_eq, hr]
  | succ t ih =>
    intro i ht hi
    have hlt : i < l.length := by omega
    have c1 : (i : Int) < (l.length : Int) := by omega
    have w0 : IntKind.i64.wrap ((i : Int) + 1) = ((i + 1 : Nat) : Int) := by rw [w64 (by omega) (by omega)]; rfl
    have hr : r33_0 (l, l, (l.length : Int), (i : Int), ()) = some (.inl (l, l, (l.length : Int), ((i + 1 : Nat) : Int), ())) := by
      unfold r33_0
      simp only [c1, decide_true, cond_true, idxO_nat, List.getElem?_eq_getElem hlt, Option.bind_some, bne_self_eq_false, cond_false, w0]
    have := ih (i + 1) (by omega) (by omega)
    unfold l33_0 at this ⊢
    rw [iterO_eq, hr]
    exact this
theorem f33_self {l : List Int} (hn : l.length ≤ 1000000) : f33 (l, l, ()) = some (true, ()) := by
  have h := l33_self l hn l.length 0 (by omega) (by omega)
  have h' : l33_0 (l, l, (l.length : Int), 0, ()) = _ := h
  unfold f33
  simp only [bne_self_eq_false, cond_false, h', Option.bind_some, Sum.elim_inr]

/-- Check accepts the costs. -/
theorem f14_good {p : Pl} {t : Pt} {l : List Int} (hn : l.length ≤ 1000000) (h : f13 (p.W, p.H, p.C, t.X, t.Y, ()) = some (l.length, 0, l, ())) : f14 (p.W, p.H, p.C, t.X, t.Y, l, ()) = some (0, ()) := by
  unfold f14
  simp only [h, Option.bind_some, bne_self_eq_false, cond_false, Nat.zero_add, Nat.le_refl, decide_true, cond_true, List.drop_zero, List.take_length, f33_self hn, Bool.not_true]

/-! ### Cell by cell -/

theorem set_mix {q c : List Int} (hl : q.length = c.length) {i : Nat} (hi : i < q.length) : (q.take i ++ c.drop i).set i q[i] = q.take (i + 1) ++ c.drop (i + 1) := by
  have h1 : (q.take i).length = i := by rw [List.length_take]; omega
  rw [List.set_append_right _ _ (by omega), h1, Nat.sub_self, List.drop_eq_getElem_cons (show i < c.length by omega), List.set_cons_zero]
  have e : q.take (i + 1) = q.take i ++ [q[i]] := by
    rw [List.take_add_one, List.getElem?_eq_getElem hi]
    rfl
  rw [e, List.append_assoc]
  rfl

theorem l3_6_spec {p : Pl} {t : Pt} {S : List Int} (hp : p.Ok) (hl : S.length = p.C.length) (s : Int) (n : Nat) (cost e sx sy qW qH : Int) (ob : List Pt) : ∀ (k i : Nat) (P : Pl) (L : List Int), p.C.length - i = k → i ≤ p.C.length → Rp P t L → P.W = p.W → P.H = p.H →
    P.C = (p.lev S s).C.take i ++ p.C.drop i →
    ∃ L', l3_6 (n, cost, e, (i : Int), p.W, p.H, p.C, sx, sy, qW, qH, p.C.length, ob, P.W, P.H, P.C.length, t.X, t.Y, P.C.length, (p.lev S s).C, P.C, L, ()) =
      some (.inr (n, cost, e, sx, sy, qW, qH, p.C.length, ob, p.W, p.H, p.C.length, t.X, t.Y, p.C.length, (p.lev S s).C, (p.lev S s).C, L', ())) ∧ Rp (p.lev S s) t L' := by
  have hq : (p.lev S s).C.length = p.C.length := by show (S.map (cellS s)).length = _; rw [List.length_map, hl]
  have hw := hp.w1
  have hw2 := hp.w2
  have hfew := hp.few
  intro k
  induction k with
  | zero =>
    intro i P L hk hi hR h1 h2 h3
    have hii : i = p.C.length := by omega
    subst hii
    have hPC : P.C = (p.lev S s).C := by
      rw [h3, List.take_of_length_le (by omega), List.drop_length, List.append_nil]
    have hPe : P = p.lev S s := by
      cases P
      simp only at h1 h2 hPC
      rw [h1, h2, hPC]
      rfl
    subst hPe
    refine ⟨L, ?_, hR⟩
    have c1 : ¬ (p.C.length : Int) < (p.C.length : Int) := by omega
    have hr : r3_6 (n, cost, e, (p.C.length : Int), p.W, p.H, p.C, sx, sy, qW, qH, p.C.length, ob, (p.lev S s).W, (p.lev S s).H, (p.lev S s).C.length, t.X, t.Y, (p.lev S s).C.length, (p.lev S s).C, (p.lev S s).C, L, ()) =
        some (.inr (.inr (n, cost, e, sx, sy, qW, qH, p.C.length, ob, p.W, p.H, p.C.length, t.X, t.Y, p.C.length, (p.lev S s).C, (p.lev S s).C, L, ()))) := by
      unfold r3_6
      simp only [c1, decide_false, cond_false, hq]
      rfl
    unfold l3_6
    rw [iterO_eq, hr]
  | succ k ih =>
    intro i P L hk hi hR h1 h2 h3
    have hlt : i < p.C.length := by omega
    have c1 : (i : Int) < (p.C.length : Int) := by omega
    have c2 : (0 : Int) ≤ (i : Int) := by omega
    have qz : (p.W == 0) = false := by rw [beq_eq_false_iff_ne]; omega
    have w0 : IntKind.i64.wrap ((i : Int) + 1) = ((i + 1 : Nat) : Int) := by rw [w64 (by omega) (by omega)]; rfl
    have ex : (i : Int).tmod p.W = (p.cellOf i).X := by unfold Pl.cellOf; rw [Int.tmod_eq_emod_of_nonneg (by omega)]
    have ey : (i : Int).tdiv p.W = (p.cellOf i).Y := by unfold Pl.cellOf; rw [Int.tdiv_eq_ediv_of_nonneg (by omega)]
    have hcin := Pl.cellOf_in hp hlt
    have hn := hcin
    unfold Pl.inP at hn
    have hh2 := hp.h2
    have wy : IntKind.i64.wrap (p.cellOf i).Y = (p.cellOf i).Y := w64 (by omega) (by omega)
    have hix : p.ix (p.cellOf i) = i := Pl.ix_cellOf hp
    have hqi : i < (p.lev S s).C.length := by omega
    have hget := List.getElem?_eq_getElem hqi
    have hPl : P.C.length = p.C.length := by
      rw [h3, List.length_append, List.length_take, List.length_drop]; omega
    have hLl := hR.len
    have z1 : P.C.length ≤ P.C.length := Nat.le_refl _
    have z2 : P.C.length ≤ L.length := by omega
    have tl : List.take P.C.length L = L := List.take_of_length_le (by omega)
    obtain ⟨r, f1, f2⟩ := f16_spec hR (p.cellOf i) ((p.lev S s).C[i] == 1)
    have hPin : P.inP (p.cellOf i) := by unfold Pl.inP; rw [h1, h2]; exact hcin
    rw [if_pos hPin] at f2
    -- the plan behind it
    have hval : (if ((p.lev S s).C[i] == 1) = true then (1 : Int) else 2) = (p.lev S s).C[i] := by
      have : (p.lev S s).C[i] = cellS s (S[i]'(by omega)) := by
        show (S.map (cellS s))[i]'(by rw [List.length_map]; omega) = _
        rw [List.getElem_map]
      rw [this]
      unfold cellS
      split <;> rfl
    have hup : P.upd (p.cellOf i) ((p.lev S s).C[i] == 1) = ⟨p.W, p.H, (p.lev S s).C.take (i + 1) ++ p.C.drop (i + 1)⟩ := by
      unfold Pl.upd
      rw [if_pos hPin, hval]
      unfold Pl.put
      have : P.ix (p.cellOf i) = i := by unfold Pl.ix at hix ⊢; rw [h1]; exact hix
      rw [this, h1, h2, h3, set_mix hq hqi]
    rw [hup] at f2
    have hU : ((p.lev S s).C.take (i + 1) ++ p.C.drop (i + 1)).length = p.C.length := by
      rw [List.length_append, List.length_take, List.length_drop]; omega
    have step : ∀ L2, Rp ⟨p.W, p.H, (p.lev S s).C.take (i + 1) ++ p.C.drop (i + 1)⟩ t L2 →
        r3_6 (n, cost, e, (i : Int), p.W, p.H, p.C, sx, sy, qW, qH, p.C.length, ob, P.W, P.H, P.C.length, t.X, t.Y, P.C.length, (p.lev S s).C, P.C, L, ()) =
          some (.inl (n, cost, e, ((i + 1 : Nat) : Int), p.W, p.H, p.C, sx, sy, qW, qH, p.C.length, ob, p.W, p.H, ((p.lev S s).C.take (i + 1) ++ p.C.drop (i + 1)).length, t.X, t.Y, ((p.lev S s).C.take (i + 1) ++ p.C.drop (i + 1)).length, (p.lev S s).C, (p.lev S s).C.take (i + 1) ++ p.C.drop (i + 1), L2, ())) →
        ∃ L', l3_6 (n, cost, e, (i : Int), p.W, p.H, p.C, sx, sy, qW, qH, p.C.length, ob, P.W, P.H, P.C.length, t.X, t.Y, P.C.length, (p.lev S s).C, P.C, L, ()) =
          some (.inr (n, cost, e, sx, sy, qW, qH, p.C.length, ob, p.W, p.H, p.C.length, t.X, t.Y, p.C.length, (p.lev S s).C, (p.lev S s).C, L', ())) ∧ Rp (p.lev S s) t L' := by
      intro L2 hR2 hr
      obtain ⟨L', a1, a2⟩ := ih (i + 1) ⟨p.W, p.H, (p.lev S s).C.take (i + 1) ++ p.C.drop (i + 1)⟩ L2 (by omega) (by omega) hR2 rfl rfl rfl
      refine ⟨L', ?_, a2⟩
      unfold l3_6 at a1 ⊢
      rw [iterO_eq, hr]
      exact a1
    have core : r3_6 (n, cost, e, (i : Int), p.W, p.H, p.C, sx, sy, qW, qH, p.C.length, ob, P.W, P.H, P.C.length, t.X, t.Y, P.C.length, (p.lev S s).C, P.C, L, ()) =
        Sum.elim (fun y => bif y.1 != 0 then some (Sum.inr (Sum.inl (false, ()))) else (j3_103 (n, cost, e, (i : Int), p.W, p.H, p.C, sx, sy, qW, qH, p.C.length, ob, y.2.2.2.1, y.2.2.2.2.1, y.2.2.2.2.2.1, y.2.2.2.2.2.2.1, y.2.2.2.2.2.2.2.1, y.2.2.2.2.2.2.2.2.1, (p.lev S s).C, y.2.1, y.2.2.1, ())).bind fun z => some (Sum.inl (z.1, z.2.1, z.2.2.1, z.2.2.2.1, z.2.2.2.2.1, z.2.2.2.2.2.1, z.2.2.2.2.2.2.1, z.2.2.2.2.2.2.2.1, z.2.2.2.2.2.2.2.2.1, z.2.2.2.2.2.2.2.2.2.1, z.2.2.2.2.2.2.2.2.2.2.1, z.2.2.2.2.2.2.2.2.2.2.2.1, z.2.2.2.2.2.2.2.2.2.2.2.2.1, z.2.2.2.2.2.2.2.2.2.2.2.2.2.1, z.2.2.2.2.2.2.2.2.2.2.2.2.2.2.1, z.2.2.2.2.2.2.2.2.2.2.2.2.2.2.2.1, z.2.2.2.2.2.2.2.2.2.2.2.2.2.2.2.2.1, z.2.2.2.2.2.2.2.2.2.2.2.2.2.2.2.2.2.1, z.2.2.2.2.2.2.2.2.2.2.2.2.2.2.2.2.2.2.1, z.2.2.2.2.2.2.2.2.2.2.2.2.2.2.2.2.2.2.2.1, z.2.2.2.2.2.2.2.2.2.2.2.2.2.2.2.2.2.2.2.2.1, z.2.2.2.2.2.2.2.2.2.2.2.2.2.2.2.2.2.2.2.2.2.1, ())))
          (fun y => bif y.1 != 0 then some (Sum.inr (Sum.inl (false, ()))) else (j3_103 (n, cost, e, (i : Int), p.W, p.H, p.C, sx, sy, qW, qH, p.C.length, ob, y.2.1, y.2.2.1, y.2.2.2.1, y.2.2.2.2.1, y.2.2.2.2.2.1, y.2.2.2.2.2.2.1, (p.lev S s).C, y.2.2.2.2.2.2.2.1, y.2.2.2.2.2.2.2.2.1, ())).bind fun z => some (Sum.inl (z.1, z.2.1, z.2.2.1, z.2.2.2.1, z.2.2.2.2.1, z.2.2.2.2.2.1, z.2.2.2.2.2.2.1, z.2.2.2.2.2.2.2.1, z.2.2.2.2.2.2.2.2.1, z.2.2.2.2.2.2.2.2.2.1, z.2.2.2.2.2.2.2.2.2.2.1, z.2.2.2.2.2.2.2.2.2.2.2.1, z.2.2.2.2.2.2.2.2.2.2.2.2.1, z.2.2.2.2.2.2.2.2.2.2.2.2.2.1, z.2.2.2.2.2.2.2.2.2.2.2.2.2.2.1, z.2.2.2.2.2.2.2.2.2.2.2.2.2.2.2.1, z.2.2.2.2.2.2.2.2.2.2.2.2.2.2.2.2.1, z.2.2.2.2.2.2.2.2.2.2.2.2.2.2.2.2.2.1, z.2.2.2.2.2.2.2.2.2.2.2.2.2.2.2.2.2.2.1, z.2.2.2.2.2.2.2.2.2.2.2.2.2.2.2.2.2.2.2.1, z.2.2.2.2.2.2.2.2.2.2.2.2.2.2.2.2.2.2.2.2.1, z.2.2.2.2.2.2.2.2.2.2.2.2.2.2.2.2.2.2.2.2.2.1, ()))) r := by
      unfold r3_6
      simp only [c1, c2, decide_true, cond_true, Bool.and_self, qz, cond_false, Nat.zero_add, Int.toNat_natCast, hget, Option.bind_some, z1, z2, List.drop_zero, List.take_length, tl, ex, ey, wy, f1]
    cases f2 with
    | old hR2 =>
      refine step _ hR2 ?_
      rw [core]
      simp only [Sum.elim_inl, bne_self_eq_false, cond_false, j3_103, w0, Option.bind_some]
    | new hR2 =>
      refine step _ hR2 ?_
      rw [core]
      simp only [Sum.elim_inr, bne_self_eq_false, cond_false, j3_103, w0, Option.bind_some]

end Go.AE
