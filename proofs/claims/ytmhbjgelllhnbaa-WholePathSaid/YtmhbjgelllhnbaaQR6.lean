/-
  The chapter Repair, part 6: the planner's methods.
-/
import Derived.Test.YtmhbjgelllhnbaaQR5
import Derived.Test.YtmhbjgelllhnbaaFb
namespace Go.AE
open Go.Proofs Go.RowKit
set_option maxRecDepth 100000

namespace Pl
/-- A change of a cell, if it is in the plan. -/
def upd (p : Pl) (c : Pt) (b : Bool) : Pl := if p.inP c then p.put c (if b then 1 else 2) else p
theorem upd_ok {p : Pl} (hp : p.Ok) (c : Pt) (b : Bool) : (p.upd c b).Ok := by
  unfold upd
  split
  · exact put_ok hp c (by split <;> omega)
  · exact hp
theorem upd_inP {p : Pl} {c a : Pt} {b : Bool} : (p.upd c b).inP a ↔ p.inP a := by
  unfold upd
  split <;> exact Iff.rfl
end Pl

/-- What a method leaves: the plan, the goal, the answer. -/
inductive Out (p : Pl) (goal : Pt) (e : Int) : (Int × List Int × List Int × Int × Int × Nat × Int × Int × Nat × Unit ⊕ Int × Int × Int × Nat × Int × Int × Nat × List Int × List Int × Unit) → Prop
  | old {l : List Int} (h : Rp p goal l) : Out p goal e (.inl (e, p.C, l, p.W, p.H, p.C.length, goal.X, goal.Y, p.C.length, ()))
  | new {l : List Int} (h : Rp p goal l) : Out p goal e (.inr (e, p.W, p.H, p.C.length, goal.X, goal.Y, p.C.length, p.C, l, ()))

theorem eqb_self (a : Bool) (b : Bool) : (a == b) = decide (a = b) := by cases a <;> cases b <;> rfl

theorem f16_spec {p : Pl} {goal : Pt} {l : List Int} (h : Rp p goal l) (c : Pt) (b : Bool) :
    ∃ r, f16 (c.X, c.Y, b, p.C, l, p.W, p.H, p.C.length, goal.X, goal.Y, p.C.length, ()) = some r ∧ Out (p.upd c b) goal (if p.inP c then 0 else 7) r := by
  have hp := h.ok
  have hl := h.len
  have z1 : (p.C.length ≤ p.C.length) = True := by simp
  have z2 : (p.C.length ≤ l.length) = True := by simp [hl]
  have tl : List.take p.C.length l = l := List.take_of_length_le (by omega)
  have tc : List.take p.C.length p.C = p.C := by simp
  by_cases hc : p.inP c
  · have hix := f37_spec hp hc l goal.X goal.Y
    obtain ⟨b1, b2⟩ := ix_in hp rfl hc
    have g0 := cell_get hp hc
    have ti : ∀ v : Int, List.take p.C.length (p.C.set (p.ix c) v) = p.C.set (p.ix c) v := fun v => List.take_of_length_le (by rw [List.length_set]; omega)
    have i2 : f37 p.W p.H (p.C.set (p.ix c) 2) goal.X goal.Y l c.X c.Y = ((p.ix c : Nat) : Int) := f37_spec (p := p.put c 2) (Pl.put_ok hp c (by omega)) hc l goal.X goal.Y
    have g2 : (p.C.set (p.ix c) 2)[p.ix c]? = some 2 := List.getElem?_set_self (Pl.ix_lt hp hc)
    have hin := f34_spec (p := p) c
    have hu : p.upd c b = p.put c (if b then 1 else 2) := by unfold Pl.upd; rw [if_pos hc]
    have hq := Pl.upd_ok hp c b
    have near : Pl.Near p (p.upd c b) c := by rw [hu]; exact Pl.put_near hp hc _
    have fr : ∀ a, (p.upd c b).free a ↔ if a = c then b = true else p.free a := fun a => by
      rw [hu, Pl.put_free hp hc]
      by_cases e : a = c
      · rw [if_pos e, if_pos e]; cases b <;> simp
      · rw [if_neg e, if_neg e]
    have hw : (p.C.getD (p.ix c) 0 == 1) = decide (p.free c) := by
      rw [Bool.eq_iff_iff, beq_iff_eq, decide_eq_true_eq]
      exact ⟨fun h => ⟨hc, h⟩, fun h => h.2⟩
    have hqin : (p.upd c b).inP goal := Pl.upd_inP.2 h.gin
    rw [if_pos hc]
    -- the answer's plan
    have hC : (p.upd c b).C = p.C.set (p.ix c) (if b then 1 else 2) := by rw [hu]; rfl
    have hW : (p.upd c b).W = p.W := by rw [hu]; rfl
    have hH : (p.upd c b).H = p.H := by rw [hu]; rfl
    have hL : (p.upd c b).C.length = p.C.length := by rw [hC, List.length_set]
    by_cases same : decide (p.free c) = b
    · -- nothing opens or closes
      have rp : Rp (p.upd c b) goal l := by
        have fs : ∀ a, (p.upd c b).free a ↔ p.free a := fun a => by
          rw [fr a]
          by_cases e : a = c
          · rw [if_pos e, e, ← same, decide_eq_true_eq]
          · rw [if_neg e]
        refine ⟨hq, hqin, fun hf => (h.dist ((fs _).1 hf)).same near fs, fun hf => ?_⟩
        rw [h.none (fun hf2 => hf ((fs _).2 hf2))]
        unfold Pl.none_
        rw [hL]
      have out := Out.old (e := 0) rp
      rw [hC, hW, hH, List.length_set] at out
      refine ⟨_, ?_, out⟩
      cases b with
      | true =>
        unfold f16
        simp only [Nat.zero_add, List.drop_zero, z1, z2, tl, tc, ti, hin, hc, hix, b1, b2, Int.toNat_natCast, g0, hw, same, List.length_set, i2, g2, List.set_set, decide_true, Bool.not_true, Bool.and_self, cond_true, cond_false, Option.bind_some, beq_self_eq_true, if_true]
      | false =>
        unfold f16
        simp only [Nat.zero_add, List.drop_zero, z1, z2, tl, tc, hin, hc, hix, b1, b2, Int.toNat_natCast, g0, hw, same, decide_true, Bool.not_true, Bool.and_self, cond_true, cond_false, Option.bind_some, beq_self_eq_true, Bool.false_eq_true, if_false]
    · have nb : (decide (p.free c) == b) = false := by rw [beq_eq_false_iff_ne]; exact same
      have j2 : f37 p.W p.H (p.C.set (p.ix c) 1) goal.X goal.Y l c.X c.Y = ((p.ix c : Nat) : Int) := f37_spec (p := p.put c 1) (Pl.put_ok hp c (by omega)) hc l goal.X goal.Y
      by_cases cg : c = goal
      · obtain ⟨m, k1, k2⟩ := f36_spec hq (goal := goal) hqin (l := l) (nl := p.C.length)
        rw [hC, hW, hH, List.length_set] at k1
        have out := Out.new (e := 0) k2
        rw [hC, hW, hH, List.length_set] at out
        refine ⟨_, ?_, out⟩
        have pe : (bif c.X == goal.X then bif c.Y == goal.Y then true else false else false) = true := by rw [pt_eqb, decide_eq_true cg]
        cases b with
        | true =>
          simp only [if_true] at k1
          unfold f16
          simp only [Nat.zero_add, List.drop_zero, z1, z2, tl, tc, ti, hin, hc, hix, b1, b2, Int.toNat_natCast, g0, hw, nb, List.length_set, i2, g2, List.set_set, decide_true, Bool.not_true, Bool.and_self, cond_true, cond_false, Option.bind_some, pe, k1, if_true]
        | false =>
          simp only [Bool.false_eq_true, if_false] at k1
          unfold f16
          simp only [Nat.zero_add, List.drop_zero, z1, z2, tl, tc, ti, hin, hc, hix, b1, b2, Int.toNat_natCast, g0, hw, nb, List.length_set, decide_true, Bool.not_true, Bool.and_self, cond_true, cond_false, Option.bind_some, pe, k1, Bool.false_eq_true, if_false]
      · have pe : (bif c.X == goal.X then bif c.Y == goal.Y then true else false else false) = false := by rw [pt_eqb, decide_eq_false cg]
        have gfr : (p.upd c b).free goal ↔ p.free goal := by rw [fr, if_neg (fun e => cg e.symm)]
        obtain ⟨k, ar, a1, a2, a3⟩ := f39_spec hq (c := c) (Pl.upd_inP.2 hc)
        rw [hC, hW, hH] at a1
        have hk := a3.few
        rw [take_len0 a2] at hk
        have z3 : (k ≤ ar.length) = True := by simp [a2]
        have tt : List.take k (List.take k ar) = List.take k ar := by rw [List.take_take, Nat.min_self]
        have hk2 : k ≤ (List.take k ar).length := by rw [take_len0 a2]; omega
        cases b with
        | true =>
          have hmono : ∀ x, p.free x → (p.upd c true).free x := fun x hx => by
            rw [fr x]
            split
            · rfl
            · exact hx
          have key : ∃ m, f38 (k, (p.upd c true).C, l, (p.upd c true).W, (p.upd c true).H, (p.upd c true).C.length, goal.X, goal.Y, (p.upd c true).C.length, List.take k ar, ()) = some ((p.upd c true).C, m, (p.upd c true).W, (p.upd c true).H, (p.upd c true).C.length, goal.X, goal.Y, (p.upd c true).C.length, ()) ∧ Rp (p.upd c true) goal m := by
            by_cases hf : p.free goal
            · have rj := Pl.RJ.opened hq near hmono (fun a d w hs => Pl.stp_mono hmono hs) (h.dist hf) hf a3 goal
              have htop : ∀ x, (p.upd c true).inP x → (p.upd c true).g l x ≤ 39600 := fun x hx => by have := rj.top2 hq hx; omega
              have hrm := rmu_le hq rj.len htop (List.take k ar)
              rw [take_len0 a2] at hrm
              obtain ⟨m, k1, k2⟩ := f38_spec hq (goal := goal) (c := goal) (gx := goal.X) (gy := goal.Y) (l := l) (n := k) (ob := List.take k ar) hk2 (by rw [tt]; exact rj) (by rw [tt]; omega)
              exact ⟨m, k1, ⟨hq, hqin, fun _ => k2, fun hn => (hn (gfr.2 hf)).elim⟩⟩
            · have e : l = (p.upd c true).none_ := by
                rw [h.none hf]; unfold Pl.none_; rw [hL]
              rw [e]
              exact ⟨_, f37_none hq hk2 (fun x hx => by rw [tt] at hx; exact ((a3.mem x).1 hx).1), ⟨hq, hqin, fun hn => (hf (gfr.1 hn)).elim, fun _ => rfl⟩⟩
          obtain ⟨m, k1, k2⟩ := key
          rw [hC, hW, hH, List.length_set] at k1
          have out := Out.new (e := 0) k2
          rw [hC, hW, hH, List.length_set] at out
          refine ⟨_, ?_, out⟩
          simp only [if_true] at k1 a1
          unfold f16
          simp only [Nat.zero_add, List.drop_zero, z1, z2, z3, tl, tc, ti, hin, hc, hix, b1, b2, Int.toNat_natCast, g0, hw, nb, List.length_set, i2, g2, List.set_set, decide_true, Bool.not_true, Bool.and_self, cond_true, cond_false, Option.bind_some, pe, a1, k1, if_true]
        | false =>
          have hmono : ∀ x, (p.upd c false).free x → p.free x := fun x hx => by
            have := (fr x).1 hx
            split at this
            · cases this
            · exact this
          have key : ∃ m, f40 (k, (p.upd c false).C, l, (p.upd c false).W, (p.upd c false).H, (p.upd c false).C.length, goal.X, goal.Y, (p.upd c false).C.length, List.take k ar, ()) = some ((p.upd c false).W, (p.upd c false).H, (p.upd c false).C.length, goal.X, goal.Y, (p.upd c false).C.length, (p.upd c false).C, m, ()) ∧ Rp (p.upd c false) goal m := by
            by_cases hf : p.free goal
            · have rk := Pl.RK.closed near (fun a d w hs => Pl.stp_mono hmono hs) (h.dist hf) (gfr.2 hf) a3
              have htop : ∀ x, (p.upd c false).inP x → (p.upd c false).g l x ≤ 39600 := fun x hx => by rw [near.g]; exact (h.dist hf).top hp (near.inP.1 hx)
              obtain ⟨m, k1, k2⟩ := f40_spec hq (goal := goal) (l := l) (n := k) (ob := List.take k ar) hk2 hk (by rw [tt]; exact rk) htop
              exact ⟨m, k1, ⟨hq, hqin, fun _ => k2, fun hn => (hn (gfr.2 hf)).elim⟩⟩
            · have e : l = (p.upd c false).none_ := by
                rw [h.none hf]; unfold Pl.none_; rw [hL]
              rw [e]
              exact ⟨_, f39_none hq (fun hn => hf (gfr.1 hn)) hk2 (fun x hx => by rw [tt] at hx; exact ((a3.mem x).1 hx).1), ⟨hq, hqin, fun hn => (hf (gfr.1 hn)).elim, fun _ => rfl⟩⟩
          obtain ⟨m, k1, k2⟩ := key
          rw [hC, hW, hH, List.length_set] at k1
          have out := Out.new (e := 0) k2
          rw [hC, hW, hH, List.length_set] at out
          refine ⟨_, ?_, out⟩
          simp only [Bool.false_eq_true, if_false] at k1 a1
          unfold f16
          simp only [Nat.zero_add, List.drop_zero, z1, z2, z3, tl, tc, ti, hin, hc, hix, b1, b2, Int.toNat_natCast, g0, hw, nb, List.length_set, decide_true, Bool.not_true, Bool.and_self, cond_true, cond_false, Option.bind_some, pe, a1, k1, Bool.false_eq_true, if_false]
  · have hu : p.upd c b = p := by unfold Pl.upd; rw [if_neg hc]
    rw [hu, if_neg hc]
    have hin := f34_spec (p := p) c
    refine ⟨_, ?_, Out.old h⟩
    unfold f16
    simp only [Nat.zero_add, List.drop_zero, z1, tc, hin, hc, decide_true, decide_false, Bool.not_false, cond_true]

/-- The cost of a cell. -/
def Pl.cost (p : Pl) (l : List Int) (c : Pt) : Int := if p.inP c then p.g l c else -1

theorem f21_spec {p : Pl} {goal : Pt} {l : List Int} (h : Rp p goal l) (c : Pt) : f21 (p.W, p.H, p.C, goal.X, goal.Y, l, c.X, c.Y, ()) = some (p.cost l c, ()) := by
  have hin := f34_spec (p := p) c
  unfold f21 Pl.cost
  by_cases hc : p.inP c
  · simp only [hin, hc, decide_true, Bool.not_true, cond_false, f37_spec h.ok hc l goal.X goal.Y, idxO_nat, g_get h.ok h.len hc, Option.bind_some, if_true]
  · simp only [hin, hc, decide_false, Bool.not_false, cond_true, if_false]

theorem f17_spec {p : Pl} {goal : Pt} (c : Pt) (l : List Int) : f17 (p.W, p.H, p.C, goal.X, goal.Y, l, c.X, c.Y, ()) = f9 (p.W, p.H, p.C, c.X, c.Y, goal.X, goal.Y, ()) := by
  unfold f17
  cases f9 (p.W, p.H, p.C, c.X, c.Y, goal.X, goal.Y, ()) with
  | none => rfl
  | some y => rfl

theorem f35_spec {l : List Int} (hl : l.length ≤ 1000000) : f35 (l, ()) = some (l.length, l, ()) := by
  have r : roomy l.length 1 = true := roomy_ok (by omega)
  unfold f35 j35_4
  simp only [Nat.zero_add, r, cond_true, Option.bind_some]
theorem f29_spec {l : List Int} (hl : l.length ≤ 100000) : f29 (l, ()) = some (l.length, l, ()) := by
  have r : roomy l.length 8 = true := roomy_ok (by omega)
  unfold f29 j29_4
  simp only [Nat.zero_add, r, cond_true, Option.bind_some]

theorem f19_spec {p : Pl} (hp : p.Ok) (goal : Pt) (l : List Int) : f19 (p.W, p.H, p.C, goal.X, goal.Y, l, ()) = some (p.W, p.H, p.C.length, p.C, ()) := by
  have := hp.few
  unfold f19
  simp only [f35_spec (l := p.C) (by omega), Option.bind_some]

theorem f15_spec {p : Pl} (hl : p.C.length ≤ 400) (goal : Pt) : (p.vld = false ∧ f15 (p.W, p.H, p.C, goal.X, goal.Y, ()) = some (.inl ())) ∨ (p.vld = true ∧ ¬ p.inP goal ∧ f15 (p.W, p.H, p.C, goal.X, goal.Y, ()) = some (.inr (.inl ()))) ∨
    (p.vld = true ∧ p.inP goal ∧ ∃ l, Rp p goal l ∧ f15 (p.W, p.H, p.C, goal.X, goal.Y, ()) = some (.inr (.inr (p.W, p.H, p.C.length, goal.X, goal.Y, p.C.length, p.C, l, ())))) := by
  have hv := f22_spec (p := p) (by omega)
  have hin := f34_spec (p := p) goal
  cases e : p.vld with
  | false =>
    refine .inl ⟨rfl, ?_⟩
    unfold f15
    simp only [hv, e, Option.bind_some, Bool.not_false, cond_true]
  | true =>
    have hp := Pl.vld_ok e hl
    by_cases hg : p.inP goal
    · refine .inr (.inr ⟨rfl, hg, ?_⟩)
      obtain ⟨m, k1, k2⟩ := f936_spec hp hg
      have z1 : (p.C.length ≤ p.C.length) = True := by simp
      have tc : List.take p.C.length p.C = p.C := by simp
      refine ⟨m, k2, ?_⟩
      unfold f15
      simp only [hv, e, Option.bind_some, Bool.not_true, cond_false, hin, hg, decide_true, f35_spec (l := p.C) (by omega), Nat.zero_add, List.drop_zero, z1, tc, cond_true, k1]
    · refine .inr (.inl ⟨rfl, hg, ?_⟩)
      unfold f15
      simp only [hv, e, Option.bind_some, Bool.not_true, cond_false, hin, hg, decide_false, Bool.not_false, cond_true]

/-! ### Acts -/

/-- The plan and the goal after an act; its answer. -/
def actP (p : Pl) (a : Ac) : Pl := if a.K.tmod 3 = 2 then p else p.upd ⟨a.X, a.Y⟩ (a.K.tmod 3 == 1)
def actG (p : Pl) (g : Pt) (a : Ac) : Pt := if a.K.tmod 3 = 2 then (if p.inP ⟨a.X, a.Y⟩ then ⟨a.X, a.Y⟩ else g) else g
def actE (p : Pl) (a : Ac) : Int := if p.inP ⟨a.X, a.Y⟩ then 0 else 7

end Go.AE
