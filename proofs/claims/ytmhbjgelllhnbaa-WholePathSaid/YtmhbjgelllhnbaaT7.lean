/-
  WholePath, part 7: the law.
-/
import Derived.Test.YtmhbjgelllhnbaaT6
import Derived.Test.YtmhbjgelllhnbaaWf
namespace Go.AE
open Go.Proofs Go.RowKit
set_option maxRecDepth 100000

/-- Every cell of the path keeps the clearance. -/
theorem l3_0_spec {p : Pl} (hp : p.Ok) {S : List Int} (hl : S.length = p.C.length) (r cost e : Int) {n : Nat} (hn : n ≤ 1000000) (sx sy tx ty qW qH : Int) (ql : Nat) {ob : List Pt} (QC : List Int)
    (hob : ∀ i, i < n → ∃ c, ob[i]? = some c ∧ p.inP c ∧ r < p.g S c) : ∀ (k i : Nat), n - i = k → i ≤ n →
    l3_0 (r, p.C.length, n, cost, e, (i : Int), p.W, p.H, p.C, sx, sy, tx, ty, qW, qH, ql, S, ob, QC, ()) = some (.inr (n, cost, e, p.W, p.H, p.C, sx, sy, tx, ty, qW, qH, ql, ob, QC, ())) := by
  intro k
  induction k with
  | zero =>
    intro i hk hi
    have c1 : ¬ (i : Int) < (n : Int) := by omega
    have hr : r3_0 (r, p.C.length, n, cost, e, (i : Int), p.W, p.H, p.C, sx, sy, tx, ty, qW, qH, ql, S, ob, QC, ()) = some (.inr (.inr (n, cost, e, p.W, p.H, p.C, sx, sy, tx, ty, qW, qH, ql, ob, QC, ()))) := by
      unfold r3_0
      simp only [c1, decide_false, cond_false]
    unfold l3_0
    rw [iterO_eq, hr]
  | succ k ih =>
    intro i hk hi
    have c1 : (i : Int) < (n : Int) := by omega
    have c2 : (0 : Int) ≤ (i : Int) := by omega
    have w0 : IntKind.i64.wrap ((i : Int) + 1) = ((i + 1 : Nat) : Int) := by rw [w64 (by omega) (by omega)]; rfl
    obtain ⟨c, hget, hin, hc⟩ := hob i (by omega)
    have hix := ix_w hp hin
    have hlt := Pl.ix_lt hp hin
    have i0 : (0 : Int) ≤ ((p.ix c : Nat) : Int) := by omega
    have i1 : ((p.ix c : Nat) : Int) < (p.C.length : Int) := by omega
    have hnle : ¬ p.g S c ≤ r := by omega
    have hr : r3_0 (r, p.C.length, n, cost, e, (i : Int), p.W, p.H, p.C, sx, sy, tx, ty, qW, qH, ql, S, ob, QC, ()) = some (.inl (r, p.C.length, n, cost, e, ((i + 1 : Nat) : Int), p.W, p.H, p.C, sx, sy, tx, ty, qW, qH, ql, S, ob, QC, ())) := by
      unfold r3_0
      simp only [c1, c2, decide_true, cond_true, Bool.and_self, Nat.zero_add, Int.toNat_natCast, hget, Option.bind_some, f12_spec, hin, Bool.not_true, cond_false, hix, i0, i1, g_get hp hl hin, hnle, decide_false, w0]
    have := ih (i + 1) (by omega) (by omega)
    unfold l3_0 at this ⊢
    rw [iterO_eq, hr]
    exact this

/-- The planner finds the same path. -/
theorem j3_88_spec {p : Pl} (hp : p.Ok) {S : List Int} (hl : S.length = p.C.length) (v : Int) {s t : Pt} {n : Nat} {cost e : Int} {ob : List Pt} (hn : n ≤ 1000000)
    (hf : f9 (p.W, p.H, (p.lev S v).C, s.X, s.Y, t.X, t.Y, ()) = some (n, cost, e, ob, ())) (hob : n ≤ ob.length) (ht : ¬ p.inP t → e = 7) :
    j3_88 (n, cost, e, p.W, p.H, p.C, s.X, s.Y, t.X, t.Y, p.W, p.H, p.C.length, ob, (p.lev S v).C, ()) = some (true, ()) := by
  have hfew := hp.few
  have hq : (p.lev S v).C.length = p.C.length := by show (S.map (cellS v)).length = _; rw [List.length_map, hl]
  have hQ := Pl.lev_ok hp hl v
  unfold j3_88
  rcases f15_spec hp.few t with ⟨h1, _⟩ | ⟨_, h2, h3⟩ | ⟨_, h2, L, h4, h3⟩
  · rw [hp.vld] at h1; cases h1
  · simp only [h3, Option.bind_some, Sum.elim_inr, Sum.elim_inl, f12_spec, h2, decide_false, Bool.not_false, cond_true, ht h2, beq_self_eq_true]
  · obtain ⟨L', a1, a2⟩ := l3_6_spec (t := t) hp hl v n cost e s.X s.Y p.W p.H ob p.C.length 0 p L (by omega) (by omega) h4 rfl rfl (by simp)
    have a1' : l3_6 (n, cost, e, 0, p.W, p.H, p.C, s.X, s.Y, p.W, p.H, p.C.length, ob, p.W, p.H, p.C.length, t.X, t.Y, p.C.length, (p.lev S v).C, p.C, L, ()) = _ := a1
    have hL' := a2.len
    have z1 : p.C.length ≤ (p.lev S v).C.length := by omega
    have z2 : p.C.length ≤ L'.length := by omega
    have t1 : List.take p.C.length (p.lev S v).C = (p.lev S v).C := List.take_of_length_le (by omega)
    have t2 : List.take p.C.length L' = L' := List.take_of_length_le (by omega)
    have h17 : f17 (p.W, p.H, (p.lev S v).C, t.X, t.Y, L', s.X, s.Y, ()) = some (n, cost, e, ob, ()) := (f17_spec (p := p.lev S v) (goal := t) s L').trans hf
    have h19 : f19 (p.W, p.H, (p.lev S v).C, t.X, t.Y, L', ()) = some (p.W, p.H, (p.lev S v).C.length, (p.lev S v).C, ()) := f19_spec hQ t L'
    have h20 := f20_spec (a := ob.take n) (b := ob.take n) (by rw [List.length_take]; omega)
    rw [decide_eq_true rfl] at h20
    simp only [h3, Option.bind_some, Sum.elim_inr, a1', Nat.zero_add, z1, z2, decide_true, cond_true, List.drop_zero, t1, t2, h17, h19, Nat.le_refl, List.take_length, f18, beq_self_eq_true, hob, h20]

theorem j3_61_spec {p : Pl} (hp : p.Ok) {S : List Int} (hl : S.length = p.C.length) {r : Int} {s t : Pt} {n : Nat} {cost e : Int} {ob : List Pt}
    (hf : f9 (p.W, p.H, (p.lev S (r + 1)).C, s.X, s.Y, t.X, t.Y, ()) = some (n, cost, e, ob, ())) (hA : (p.lev S (r + 1)).Ans s t (n, cost, e, ob, ())) :
    j3_61 (r, p.C.length, n, cost, e, p.W, p.H, p.C, s.X, s.Y, t.X, t.Y, p.W, p.H, p.C.length, S, ob, (p.lev S (r + 1)).C, ()) = some (true, ()) := by
  have hfew := hp.few
  have hq : (p.lev S (r + 1)).C.length = p.C.length := by show (S.map (cellS (r + 1))).length = _; rw [List.length_map, hl]
  have hQ := Pl.lev_ok hp hl (r + 1)
  have qlev : ∀ c, (p.lev S (r + 1)).free c → p.inP c ∧ r < p.g S c := fun c hc => by
    have := (Pl.lev_free hp hl).1 hc
    exact ⟨this.1, by omega⟩
  unfold j3_61
  generalize hx : ((n, cost, e, ob, ()) : Nat × Int × Int × List Pt × Unit) = x at hA
  cases hA with
  | bad h => rw [hQ.vld] at h; cases h
  | none h1 h2 =>
    cases hx
    have a := l3_0_spec hp hl r 0 7 (n := 0) (by omega) s.X s.Y t.X t.Y p.W p.H p.C.length (ob := []) (p.lev S (r + 1)).C (fun i hi => by omega) 0 0 rfl (by omega)
    have a' : l3_0 (r, p.C.length, 0, 0, 7, 0, p.W, p.H, p.C, s.X, s.Y, t.X, t.Y, p.W, p.H, p.C.length, S, [], (p.lev S (r + 1)).C, ()) = _ := a
    have b := j3_88_spec hp hl (r + 1) (by omega) hf (by simp) (fun _ => rfl)
    have q : ((7 : Int) == 0) = false := rfl
    simp only [a', Option.bind_some, Sum.elim_inr, q, cond_false, b]
  | far h1 h2 h3 h4 h5 =>
    cases hx
    have a := l3_0_spec hp hl r 0 14 (n := 0) (by omega) s.X s.Y t.X t.Y p.W p.H p.C.length (ob := []) (p.lev S (r + 1)).C (fun i hi => by omega) 0 0 rfl (by omega)
    have a' : l3_0 (r, p.C.length, 0, 0, 14, 0, p.W, p.H, p.C, s.X, s.Y, t.X, t.Y, p.W, p.H, p.C.length, S, [], (p.lev S (r + 1)).C, ()) = _ := a
    have b := j3_88_spec hp hl (r + 1) (by omega) hf (by simp) (fun hn => (hn h3.1).elim)
    have q : ((14 : Int) == 0) = false := rfl
    simp only [a', Option.bind_some, Sum.elim_inr, q, cond_false, b]
  | @path l n ob h1 h2 h3 h4 h5 h6 h7 h8 =>
    cases hx
    have hpath := (Pl.path_facts hQ h3 h4 39600 s h2.1 h5 (by have := h4.top hQ h2.1; omega)).1
    have a := l3_0_spec hp hl r ((p.lev S (r + 1)).g l s) 0 (n := n) (by omega) s.X s.Y t.X t.Y p.W p.H p.C.length (ob := ob) (p.lev S (r + 1)).C (fun i hi => by
      have hg : ob[i]? = some (ob[i]'(by omega)) := List.getElem?_eq_getElem (by omega)
      have hg2 : ((p.lev S (r + 1)).path l s t)[i]? = some (ob[i]'(by omega)) := by rw [← h8, List.getElem?_take, if_pos hi]; exact hg
      exact ⟨_, hg, qlev _ (hpath i _ hg2).1⟩) n 0 (by omega) (by omega)
    have a' : l3_0 (r, p.C.length, n, (p.lev S (r + 1)).g l s, 0, 0, p.W, p.H, p.C, s.X, s.Y, t.X, t.Y, p.W, p.H, p.C.length, S, ob, (p.lev S (r + 1)).C, ()) = _ := a
    have b := j3_88_spec hp hl (r + 1) (by omega) hf h6 (fun hn => (hn h3.1).elim)
    obtain ⟨l', d1, d2⟩ := f13_spec hQ h3
    have := Pl.IsDist.unique hQ d2 h4
    subst this
    have d1' : f13 (p.W, p.H, (p.lev S (r + 1)).C, t.X, t.Y, ()) = some (l'.length, 0, l', ()) := d1
    have hll := h4.len
    have e1 := f14_good (p := p.lev S (r + 1)) (t := t) (l := l') (by omega) d1
    have e1' : f14 (p.W, p.H, (p.lev S (r + 1)).C, t.X, t.Y, l', ()) = some (0, ()) := e1
    have z1 : p.C.length ≤ (p.lev S (r + 1)).C.length := by omega
    have t1 : List.take p.C.length (p.lev S (r + 1)).C = (p.lev S (r + 1)).C := List.take_of_length_le (by omega)
    have hix := ix_w hQ h2.1
    have hix' : IntKind.i64.wrap (IntKind.i64.wrap (s.Y * p.W) + s.X) = (((p.lev S (r + 1)).ix s : Nat) : Int) := hix
    obtain ⟨i0, i1⟩ := ix_in hQ h4.len h2.1
    have hg := g_get hQ h4.len h2.1
    have q1 : ((l'.length : Int) != (p.C.length : Int)) = false := by rw [hll, hq]; exact bne_self_eq_false _
    simp only [a', Option.bind_some, Sum.elim_inr, beq_self_eq_true, cond_true, Nat.zero_add, z1, decide_true, List.drop_zero, t1, d1', bne_self_eq_false, cond_false, Nat.le_refl, List.take_length, e1', q1, hix', i0, i1, Bool.and_self, Int.toNat_natCast, hg, b]

/-! ### The sample -/

def p33 : Pl := ⟨3, 3, [1, 1, 1, 1, 1, 1, 1, 1, 1]⟩
theorem p33_ok : p33.Ok := Pl.vld_ok (by decide) (by decide)
def l33 : List Int := [198, 169, 140, 169, 99, 70, 140, 70, 0]
theorem l33_dist : Pl.IsDist p33 ⟨2, 2⟩ l33 := Pl.chk_dist p33_ok (by decide)
theorem sq33 : p33.sq ⟨1, 1⟩ = 4 := by decide

theorem f4_spec : f4 () = some (true, ()) := by
  obtain ⟨S, s1, s2, s3⟩ := f23_spec p33_ok
  have h8 := f8_good p33_ok s1
  have h8' : f8 (3, 3, [1, 1, 1, 1, 1, 1, 1, 1, 1], ()) = some (9, 0, S, ()) := h8
  have hc : S[4]? = some 4 := by
    have := g_get p33_ok s2 (c := ⟨1, 1⟩) (by decide)
    rw [s3 _ (by decide), sq33] at this
    exact this
  obtain ⟨n, ob, a1, a2, a3, a4⟩ := f9_spec p33_ok (start := ⟨0, 0⟩) l33_dist (by decide) (by decide) (by decide)
  have a1' : f9 (3, 3, [1, 1, 1, 1, 1, 1, 1, 1, 1], 0, 0, 2, 2, ()) = some (n, 198, 0, ob, ()) := a1
  rcases f15_spec (p := p33) (by decide) ⟨2, 2⟩ with ⟨h1, _⟩ | ⟨_, h2, _⟩ | ⟨_, _, L, h4, h3⟩
  · exact absurd h1 (by decide)
  · exact absurd (show p33.inP ⟨2, 2⟩ by decide) h2
  · have hL : L = l33 := Pl.IsDist.unique p33_ok (h4.dist (by decide)) l33_dist
    subst hL
    have h3' : f15 (3, 3, [1, 1, 1, 1, 1, 1, 1, 1, 1], 2, 2, ()) = some (.inr (.inr (3, 3, 9, 2, 2, 9, [1, 1, 1, 1, 1, 1, 1, 1, 1], l33, ()))) := h3
    have h21 := f21_spec h4 ⟨0, 0⟩
    have h21' : f21 (3, 3, [1, 1, 1, 1, 1, 1, 1, 1, 1], 2, 2, l33, 0, 0, ()) = some (198, ()) := h21
    have d1 : decide (0 + 9 ≤ [(1 : Int), 1, 1, 1, 1, 1, 1, 1, 1].length) = true := rfl
    have d2 : decide (0 + 9 ≤ l33.length) = true := rfl
    have t1 : List.take 9 (List.drop 0 [(1 : Int), 1, 1, 1, 1, 1, 1, 1, 1]) = [1, 1, 1, 1, 1, 1, 1, 1, 1] := rfl
    have t2 : List.take 9 (List.drop 0 l33) = l33 := rfl
    have c1 : decide ((4 : Int) < ((9 : Nat) : Int)) = true := rfl
    have c2 : (((9 : Nat) : Int) == 9) = true := rfl
    unfold f4
    simp only [h8', a1', h3', Option.bind_some, Sum.elim_inr, beq_self_eq_true, cond_true, c2, c1, Bool.and_self, hc, d1, d2, t1, t2, h21']

end Go.AE
