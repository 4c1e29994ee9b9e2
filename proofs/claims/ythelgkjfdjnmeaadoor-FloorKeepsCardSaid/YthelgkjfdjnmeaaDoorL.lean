/-
  The chapter Floor, part 9: Joined and Solid; FloorChecks.
-/
import Derived.Test.YthelgkjfdjnmeaaDoorK
namespace Go.AE
open Go.Proofs Go.RowKit
set_option maxRecDepth 100000

namespace Pl
variable {p : Pl}
theorem rk_mono : ∀ {i j : Nat}, i ≤ j → p.rk i ≤ p.rk j := by
  intro i j h
  induction j with
  | zero => rw [Nat.le_zero.1 h]; exact Nat.le_refl _
  | succ j ih =>
    by_cases e : i = j + 1
    · rw [e]; exact Nat.le_refl _
    · have := ih (by omega)
      by_cases hl : p.lead j
      · rw [rk_yes hl]; omega
      · rw [rk_no hl]; exact this
theorem rk_inj {i j : Nat} (hi : p.lead i) (hj : p.lead j) (h : p.rk i = p.rk j) : i = j := by
  have h1 := rk_yes hi
  have h2 := rk_yes hj
  rcases Nat.lt_trichotomy i j with e | e | e
  · have := rk_mono (p := p) (i := i + 1) (j := j) e; omega
  · exact e
  · have := rk_mono (p := p) (i := j + 1) (j := i) e; omega

theorem IsRooms.same (hp : p.Ok) {l : List Int} (h : IsRooms p l) {a b : Pt} (ha : p.free a) (hb : p.free b) : p.g l a = p.g l b ↔ p.Conn a b := by
  have ea := cell_ix hp ha.1
  have eb := cell_ix hp hb.1
  obtain ⟨i, _, i2, i3⟩ := lead_of (p.ix a) (c := a) (by rw [ea]; exact .refl ha)
  obtain ⟨j, _, j2, j3⟩ := lead_of (p.ix b) (c := b) (by rw [eb]; exact .refl hb)
  rw [h.room i i2 a i3, h.room j j2 b j3]
  constructor
  · intro e
    have : i = j := rk_inj i2 j2 (by omega)
    subst this
    exact i3.symm.trans j3
  · intro hc
    rcases Nat.lt_trichotomy i j with e | e | e
    · exact (j2.2 i e ((i3.trans hc).trans j3.symm)).elim
    · rw [e]
    · exact (i2.2 j e ((j3.trans hc.symm).trans i3.symm)).elim
end Pl

open Classical in
/-- floor.Joined. -/
theorem f24_spec (p : Pl) (hl : p.C.length ≤ 400) (a b : Pt) : f24 (p.W, p.H, p.C, a.X, a.Y, b.X, b.Y, ()) = some (decide (p.bld = true ∧ p.Conn a b), ()) := by
  unfold f24
  rcases f16_spec (p := p) hl with ⟨b1, hp, l, e1, r1⟩ | ⟨b1, e1⟩
  · simp only [e1, Option.bind_some, bne_self_eq_false, cond_false, f36_spec hp]
    by_cases ha : p.free a
    · have va : (p.val a != 1) = false := by simp [val_free.2 ha]
      by_cases hb : p.free b
      · have vb : (p.val b != 1) = false := by simp [val_free.2 hb]
        obtain ⟨a1, a2⟩ := ix_in hp rfl ha.1
        obtain ⟨c1, c2⟩ := ix_in hp rfl hb.1
        have hs := r1.same hp ha hb
        simp only [va, vb, cond_false, ix_w hp ha.1, ix_w hp hb.1, a1, a2, c1, c2, decide_true, Bool.and_self, cond_true, Nat.zero_add, Int.toNat_natCast, g_get hp r1.len ha.1, g_get hp r1.len hb.1, Option.bind_some, b1, true_and]
        by_cases e : p.Conn a b
        · simp [e, hs.2 e]
        · have : p.g l a ≠ p.g l b := fun h => e (hs.1 h)
          simp [e, this]
      · have vb : (p.val b != 1) = true := by simpa using fun h => hb (val_free.1 h)
        have hn : ¬ p.Conn a b := fun h => hb h.free2.2
        simp only [va, vb, cond_false, cond_true, hn, and_false, decide_false]
    · have va : (p.val a != 1) = true := by simpa using fun h => ha (val_free.1 h)
      have hn : ¬ p.Conn a b := fun h => ha h.free2.1
      simp only [va, cond_true, hn, and_false, decide_false]
  · have q : ((if p.vld = true then (3 : Int) else 1) != 0) = true := by cases p.vld <;> rfl
    simp only [e1, Option.bind_some, q, cond_true, b1, Bool.false_eq_true, false_and, decide_false]

open Classical in
/-- The reference's Joined. -/
theorem f25_spec (p : Pl) (hl : p.C.length ≤ 400) (a b : Pt) : f25 (p.W, p.H, p.C, a.X, a.Y, b.X, b.Y, ()) = some (decide (p.bld = true ∧ p.Conn a b), ()) := by
  unfold f25
  rcases f17_spec (p := p) hl with ⟨b1, l, e1, r1⟩ | ⟨b1, e1⟩
  · have hv : p.vld = true ∧ p.known = true := by unfold Pl.bld at b1; simpa using b1
    have hp := Pl.vld_ok hv.1 hl
    simp only [e1, Option.bind_some, bne_self_eq_false, cond_false, f41_spec hp]
    by_cases ha : p.free a
    · have va : (p.val a != 1) = false := by simp [val_free.2 ha]
      by_cases hb : p.free b
      · have vb : (p.val b != 1) = false := by simp [val_free.2 hb]
        obtain ⟨a1, a2⟩ := ix_in hp rfl ha.1
        obtain ⟨c1, c2⟩ := ix_in hp rfl hb.1
        have hs := r1.same hp ha hb
        simp only [va, vb, cond_false, ix_w hp ha.1, ix_w hp hb.1, a1, a2, c1, c2, decide_true, Bool.and_self, cond_true, Nat.zero_add, Int.toNat_natCast, g_get hp r1.len ha.1, g_get hp r1.len hb.1, Option.bind_some, b1, true_and]
        by_cases e : p.Conn a b
        · simp [e, hs.2 e]
        · have : p.g l a ≠ p.g l b := fun h => e (hs.1 h)
          simp [e, this]
      · have vb : (p.val b != 1) = true := by simpa using fun h => hb (val_free.1 h)
        have hn : ¬ p.Conn a b := fun h => hb h.free2.2
        simp only [va, vb, cond_false, cond_true, hn, and_false, decide_false]
    · have va : (p.val a != 1) = true := by simpa using fun h => ha (val_free.1 h)
      have hn : ¬ p.Conn a b := fun h => ha h.free2.1
      simp only [va, cond_true, hn, and_false, decide_false]
  · have q : ((if p.vld = true then (3 : Int) else 1) != 0) = true := by cases p.vld <;> rfl
    simp only [e1, Option.bind_some, q, cond_true, b1, Bool.false_eq_true, false_and, decide_false]

/-! ### Solid -/

def edge (p : Pl) (c : Pt) : Prop := c.X = 0 ∨ c.Y = 0 ∨ c.X = p.W - 1 ∨ c.Y = p.H - 1
def Solid (p : Pl) : Prop := p.bld = true ∧ ∀ c, p.inP c → edge p c → p.val c = 2

theorem r22_0_spec {p : Pl} (hp : p.Ok) {k : Int} (h0 : 0 ≤ k) (h1 : k ≤ (p.C.length : Int) - 1) :
    (edge p (p.cellOf k.toNat) ∧ p.val (p.cellOf k.toNat) ≠ 2 → r22_0 (p.C, (p.C.length : Int), k, p.W, p.H, p.C, ()) = some (.inr (.inl (false, ())))) ∧
      (¬ (edge p (p.cellOf k.toNat) ∧ p.val (p.cellOf k.toNat) ≠ 2) → r22_0 (p.C, (p.C.length : Int), k, p.W, p.H, p.C, ()) = some (.inl (p.C, (p.C.length : Int), k + 1, p.W, p.H, p.C, ()))) := by
  have hfew := hp.few
  have hw1 := hp.w1
  have hw2 := hp.w2
  have hh1 := hp.h1
  have hh2 := hp.h2
  obtain ⟨i, rfl⟩ : ∃ i : Nat, k = i := ⟨k.toNat, by omega⟩
  have hi : i < p.C.length := by omega
  rw [Int.toNat_natCast]
  have hcin := Pl.cellOf_in hp hi
  have hv : p.val (p.cellOf i) = p.C.getD i 0 := by
    unfold Pl.val
    rw [if_pos hcin, Pl.ix_cellOf hp]
  have hget : p.C[i]? = some (p.val (p.cellOf i)) := by rw [hv, List.getD_eq_getElem?_getD, List.getElem?_eq_getElem hi]; rfl
  have c1 : (i : Int) < (p.C.length : Int) := by omega
  have q : (p.W == 0) = false := by rw [beq_eq_false_iff_ne]; omega
  have ex : (i : Int).tmod p.W = (p.cellOf i).X := by unfold Pl.cellOf; rw [Int.tmod_eq_emod_of_nonneg (by omega)]
  have ey : (i : Int).tdiv p.W = (p.cellOf i).Y := by unfold Pl.cellOf; rw [Int.tdiv_eq_ediv_of_nonneg (by omega)]
  generalize p.cellOf i = c at *
  have hin := hcin
  unfold Pl.inP at hin
  have w1 : IntKind.i64.wrap c.Y = c.Y := w64 (by omega) (by omega)
  have w2 : IntKind.i64.wrap (p.W - 1) = p.W - 1 := w64 (by omega) (by omega)
  have w3 : IntKind.i64.wrap (p.H - 1) = p.H - 1 := w64 (by omega) (by omega)
  have w4 : IntKind.i64.wrap ((i : Int) + 1) = (i : Int) + 1 := w64 (by omega) (by omega)
  unfold edge
  by_cases a1 : c.X = 0
  · by_cases v : p.val c = 2
    · refine ⟨fun h => (h.2 v).elim, fun _ => ?_⟩
      unfold r22_0
      simp only [c1, decide_true, cond_true, cond_false, idxO_nat, hget, Option.bind_some, q, ex, a1, beq_self_eq_true, v, bne_self_eq_false, j22_28, w4]
    · have vb : (p.val c != 2) = true := by simpa using v
      refine ⟨fun _ => ?_, fun h => (h ⟨.inl a1, v⟩).elim⟩
      unfold r22_0
      simp only [c1, decide_true, cond_true, cond_false, idxO_nat, hget, Option.bind_some, q, ex, a1, beq_self_eq_true, vb]
  · have b1 : (c.X == 0) = false := by simpa using a1
    by_cases a2 : c.Y = 0
    · have e2 : (c.Y == 0) = true := by simpa using a2
      by_cases v : p.val c = 2
      · refine ⟨fun h => (h.2 v).elim, fun _ => ?_⟩
        unfold r22_0
        simp only [c1, decide_true, cond_true, cond_false, idxO_nat, hget, Option.bind_some, q, ex, ey, b1, w1, e2, v, bne_self_eq_false, j22_28, w4]
      · have vb : (p.val c != 2) = true := by simpa using v
        refine ⟨fun _ => ?_, fun h => (h ⟨.inr (.inl a2), v⟩).elim⟩
        unfold r22_0
        simp only [c1, decide_true, cond_true, cond_false, idxO_nat, hget, Option.bind_some, q, ex, ey, b1, w1, e2, vb]
    · have b2 : (c.Y == 0) = false := by simpa using a2
      by_cases a3 : c.X = p.W - 1
      · have e3 : (c.X == p.W - 1) = true := by simpa using a3
        by_cases v : p.val c = 2
        · refine ⟨fun h => (h.2 v).elim, fun _ => ?_⟩
          unfold r22_0
          simp only [c1, decide_true, cond_true, cond_false, idxO_nat, hget, Option.bind_some, q, ex, ey, b1, b2, w1, w2, e3, v, bne_self_eq_false, j22_28, w4]
        · have vb : (p.val c != 2) = true := by simpa using v
          refine ⟨fun _ => ?_, fun h => (h ⟨.inr (.inr (.inl a3)), v⟩).elim⟩
          unfold r22_0
          simp only [c1, decide_true, cond_true, cond_false, idxO_nat, hget, Option.bind_some, q, ex, ey, b1, b2, w1, w2, e3, vb]
      · have b3 : (c.X == p.W - 1) = false := by simpa using a3
        by_cases a4 : c.Y = p.H - 1
        · have e4 : (c.Y == p.H - 1) = true := by simpa using a4
          by_cases v : p.val c = 2
          · refine ⟨fun h => (h.2 v).elim, fun _ => ?_⟩
            unfold r22_0
            simp only [c1, decide_true, cond_true, cond_false, idxO_nat, hget, Option.bind_some, q, ex, ey, b1, b2, b3, w1, w2, w3, e4, v, bne_self_eq_false, j22_28, w4]
          · have vb : (p.val c != 2) = true := by simpa using v
            refine ⟨fun _ => ?_, fun h => (h ⟨.inr (.inr (.inr a4)), v⟩).elim⟩
            unfold r22_0
            simp only [c1, decide_true, cond_true, cond_false, idxO_nat, hget, Option.bind_some, q, ex, ey, b1, b2, b3, w1, w2, w3, e4, vb]
        · have b4 : (c.Y == p.H - 1) = false := by simpa using a4
          refine ⟨fun h => (h.1.elim a1 (fun h => h.elim a2 (fun h => h.elim a3 a4))).elim, fun _ => ?_⟩
          unfold r22_0
          simp only [c1, decide_true, cond_true, cond_false, idxO_nat, hget, Option.bind_some, q, ex, ey, b1, b2, b3, b4, w1, w2, w3, j22_28, w4]

open Classical in
/-- floor.Solid. -/
theorem f22_spec (p : Pl) (hl : p.C.length ≤ 400) : f22 (p.W, p.H, p.C, ()) = some (decide (Solid p), ()) := by
  have h20 := f20_spec (p := p) (by omega)
  unfold f22
  by_cases hb : p.bld = true
  · have hv : p.vld = true ∧ p.known = true := by unfold Pl.bld at hb; simpa using hb
    have hp := Pl.vld_ok hv.1 hl
    rw [hv.1, hv.2] at h20
    simp only [if_true] at h20
    have hs := scan (f := r22_0) (fun k => (p.C, (p.C.length : Int), k, p.W, p.H, p.C, ())) (fun k => edge p (p.cellOf k.toNat) ∧ p.val (p.cellOf k.toNat) ≠ 2) () ((p.C.length : Int) - 1) p.C.length 0 (by omega) (by omega)
      (fun k k1 k2 hb => (r22_0_spec hp k1 k2).1 hb) (fun k k1 k2 hb => (r22_0_spec hp k1 k2).2 hb)
      (by
        have c1 : ¬ ((p.C.length : Int) - 1 + 1) < (p.C.length : Int) := by omega
        unfold r22_0
        simp only [c1, decide_false, cond_false])
    have hs' : l22_0 (p.C, (p.C.length : Int), 0, p.W, p.H, p.C, ()) = _ := hs
    simp only [h20, Option.bind_some, bne_self_eq_false, cond_false, hs']
    by_cases hex : ∃ k : Int, 0 ≤ k ∧ k ≤ (p.C.length : Int) - 1 ∧ (edge p (p.cellOf k.toNat) ∧ p.val (p.cellOf k.toNat) ≠ 2)
    · have : ¬ Solid p := fun h => by
        obtain ⟨k, k1, k2, k3, k4⟩ := hex
        exact k4 (h.2 _ (Pl.cellOf_in hp (by omega)) k3)
      rw [if_pos hex]
      simp only [Sum.elim_inl, this, decide_false]
    · have : Solid p := ⟨hb, fun c hc he => Classical.byContradiction fun hn => hex ⟨(p.ix c : Nat), by omega, by have := Pl.ix_lt hp hc; omega, by rw [Int.toNat_natCast, Pl.cell_ix hp hc]; exact ⟨he, hn⟩⟩⟩
      rw [if_neg hex]
      simp only [Sum.elim_inr, this, decide_true]
  · have hnf : ¬ Solid p := fun h => hb h.1
    have hne : ((if p.vld = true then if p.known = true then (0 : Int) else 3 else 1) != 0) = true := by
      unfold Pl.bld at hb
      cases h1 : p.vld <;> cases h2 : p.known <;> simp [h1, h2] at hb ⊢
    simp only [h20, Option.bind_some, hne, cond_true, hnf, decide_false]

end Go.AE
