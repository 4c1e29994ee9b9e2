/-
  WholePath, part 2: squared distances; Squares, Inflate.
-/
import Derived.Test.YtmhbjgelllhnbaaT1
namespace Go.AE
open Go.Proofs Go.RowKit
set_option maxRecDepth 100000

namespace Pl
def side (p : Pl) (x : Int) : Int := if p.W - x < x + 1 then p.W - x else x + 1
def far (p : Pl) (c : Pt) (u : Int) : Int := (c.X - u) * (c.X - u) + p.gap ⟨u, c.Y⟩ * p.gap ⟨u, c.Y⟩
def bst (p : Pl) (c : Pt) : Nat → Int
  | 0 => p.side c.X * p.side c.X
  | u + 1 => if p.far c u < p.bst c u then p.far c u else p.bst c u
/-- The squared distance of a cell. -/
def sq (p : Pl) (c : Pt) : Int := p.bst c p.W.toNat

theorem gap_low {p : Pl} (hp : p.Ok) {c : Pt} (hc : p.inP c) : 0 ≤ p.gap c ∧ p.gap c ≤ 64 := by
  have h1 := gd_low p c.X (c.Y.toNat + 1)
  have h2 := gu_low p c.X (p.H - c.Y).toNat
  have h3 := hp.h2
  have h4 := hc.2.2
  unfold gap
  split <;> omega
theorem side_low {p : Pl} (hp : p.Ok) {c : Pt} (hc : p.inP c) : 1 ≤ p.side c.X ∧ p.side c.X ≤ 64 := by
  have h3 := hp.w2
  have h4 := hc.1
  have h5 := hc.2.1
  unfold side
  split <;> omega
theorem sqr_low {a : Int} (h0 : -64 ≤ a) (h1 : a ≤ 64) : 0 ≤ a * a ∧ a * a ≤ 4096 := by
  have h := mulb (a := a) (b := a) (A := 64) (B := 64) h0 h1 h0 h1
  have h2 : 0 ≤ a * a := by
    by_cases hn : 0 ≤ a
    · exact Int.mul_nonneg hn hn
    · rw [← Int.neg_mul_neg]; exact Int.mul_nonneg (by omega) (by omega)
  omega
theorem far_low {p : Pl} (hp : p.Ok) {c : Pt} (hc : p.inP c) {u : Int} (h0 : 0 ≤ u) (h1 : u < p.W) : 0 ≤ p.far c u ∧ p.far c u ≤ 8192 := by
  have hw := hp.w2
  have hin : p.inP ⟨u, c.Y⟩ := ⟨h0, h1, hc.2.2⟩
  have a1 := gap_low hp hin
  have a2 := sqr_low (a := p.gap ⟨u, c.Y⟩) (by omega) (by omega)
  have hx := hc.1
  have hx2 := hc.2.1
  have a3 := sqr_low (a := c.X - u) (by omega) (by omega)
  unfold far
  omega
theorem bst_low {p : Pl} (hp : p.Ok) {c : Pt} (hc : p.inP c) : ∀ (u : Nat), (u : Int) ≤ p.W → 0 ≤ p.bst c u ∧ p.bst c u ≤ 8192
  | 0, _ => by
    have h1 := side_low hp hc
    have h2 := sqr_low (a := p.side c.X) (by omega) (by omega)
    unfold bst
    omega
  | u + 1, h => by
    have h1 := bst_low hp hc u (by omega)
    have h2 := far_low hp hc (u := (u : Int)) (by omega) (by omega)
    unfold bst
    split <;> omega
theorem sq_low {p : Pl} (hp : p.Ok) {c : Pt} (hc : p.inP c) : 0 ≤ p.sq c ∧ p.sq c ≤ 8192 := bst_low hp hc _ (by have := hp.w1; omega)

theorem gap_zero {p : Pl} {c : Pt} (hc : p.inP c) : p.gap c = 0 ↔ ¬ p.free c := by
  have h4 := hc.2.2
  have e1 : p.gd c.X (c.Y.toNat + 1) = if p.fr c.X c.Y then p.gd c.X c.Y.toNat + 1 else 0 := by
    rw [gd, show ((c.Y.toNat : Nat) : Int) = c.Y by omega]
  obtain ⟨k, hk⟩ : ∃ k : Nat, (p.H - c.Y).toNat = k + 1 := ⟨(p.H - c.Y).toNat - 1, by omega⟩
  have e2 : p.gu c.X (p.H - c.Y).toNat = if p.fr c.X c.Y then p.gu c.X k + 1 else 0 := by
    rw [hk, gu, show p.H - 1 - (k : Int) = c.Y by omega]
  have h1 := gd_low p c.X c.Y.toNat
  have h2 := gu_low p c.X k
  have hf : p.fr c.X c.Y ↔ p.free c := ⟨fun h => ⟨hc, h⟩, fun h => h.2⟩
  unfold gap
  rw [e1, e2]
  by_cases h : p.fr c.X c.Y
  · simp only [if_pos h]
    constructor
    · intro h0; split at h0 <;> omega
    · intro h0; exact (h0 (hf.1 h)).elim
  · simp only [if_neg h]
    exact ⟨fun _ hh => h (hf.2 hh), fun _ => by simp⟩

theorem bst_pos {p : Pl} (hp : p.Ok) {c : Pt} (hc : p.free c) : ∀ u : Nat, (u : Int) ≤ p.W → 0 < p.bst c u
  | 0, _ => by
    have h1 := side_low hp hc.1
    unfold bst
    exact Int.mul_pos (by omega) (by omega)
  | u + 1, h => by
    have h1 := bst_pos hp hc u (by omega)
    have hin : p.inP ⟨(u : Int), c.Y⟩ := ⟨by show (0 : Int) ≤ u; omega, by show (u : Int) < p.W; omega, hc.1.2.2⟩
    have h2 : 0 < p.far c u := by
      have hx := hc.1.1
      have hx2 := hc.1.2.1
      have hw := hp.w2
      have g0 := gap_low hp hin
      have g1 := sqr_low (a := p.gap ⟨(u : Int), c.Y⟩) (by omega) (by omega)
      have g2 := sqr_low (a := c.X - (u : Int)) (by omega) (by omega)
      unfold far
      by_cases he : c.X = (u : Int)
      · have hce : (⟨(u : Int), c.Y⟩ : Pt) = c := by cases c; simp only at he; subst he; rfl
        have g3 : p.gap ⟨(u : Int), c.Y⟩ ≠ 0 := fun h0 => (gap_zero hin).1 h0 (by rw [hce]; exact hc)
        have : 0 < p.gap ⟨(u : Int), c.Y⟩ * p.gap ⟨(u : Int), c.Y⟩ := Int.mul_pos (by omega) (by omega)
        omega
      · have : 0 < (c.X - (u : Int)) * (c.X - (u : Int)) := by
          by_cases hn : 0 < c.X - (u : Int)
          · exact Int.mul_pos hn hn
          · rw [← Int.neg_mul_neg]; exact Int.mul_pos (by omega) (by omega)
        omega
    unfold bst
    split <;> omega
theorem bst_mono {p : Pl} {c : Pt} : ∀ (k u : Nat), p.bst c (u + k) ≤ p.bst c u
  | 0, u => Int.le_refl _
  | k + 1, u => by
    have h := bst_mono (p := p) (c := c) k u
    rw [show u + (k + 1) = (u + k) + 1 by omega, bst]
    split <;> omega
/-- It is 0 exactly where the cell is not free. -/
theorem sq_pos {p : Pl} (hp : p.Ok) {c : Pt} (hc : p.inP c) : 0 < p.sq c ↔ p.free c := by
  constructor
  · intro h
    refine Classical.byContradiction fun hn => ?_
    have g0 := (gap_zero hc).2 hn
    have hx := hc.1
    have hx2 := hc.2.1
    have hce : (⟨((c.X.toNat : Nat) : Int), c.Y⟩ : Pt) = c := by
      cases c
      simp only at hx
      simp only [Pt.mk.injEq, and_true]
      omega
    have hfar : p.far c (c.X.toNat : Nat) = 0 := by
      unfold far
      rw [hce, g0, show c.X - ((c.X.toNat : Nat) : Int) = 0 by omega]
      rfl
    have h1 : p.bst c (c.X.toNat + 1) ≤ 0 := by
      rw [bst, hfar]
      split <;> omega
    have h2 := bst_mono (p := p) (c := c) (p.W.toNat - (c.X.toNat + 1)) (c.X.toNat + 1)
    rw [show c.X.toNat + 1 + (p.W.toNat - (c.X.toNat + 1)) = p.W.toNat by omega] at h2
    have h3 : p.sq c = p.bst c p.W.toNat := rfl
    omega
  · intro h
    exact bst_pos hp h _ (by have := hp.w1; omega)
end Pl

theorem l23_12_spec {p : Pl} (hp : p.Ok) {c : Pt} (hc : p.inP c) {G : List Int} (hG : ∀ u : Nat, (u : Int) < p.W → G[p.ix ⟨0, c.Y⟩ + u]? = some (p.gap ⟨u, c.Y⟩)) (n m : Nat) (y p5 p6 p7 p8 q15 q16 : Int) (C out : List Int) : ∀ (k u : Nat), p.W - u = k → (u : Int) ≤ p.W →
    l23_12 (n, m, y, p.ix ⟨0, c.Y⟩, p.W.toNat, c.X, p.bst c u, p5, p6, p7, p8, p.ix ⟨0, c.Y⟩, p.W.toNat, (p.W.toNat : Int), (u : Int), q15, q16, C, G, out, ()) =
      some (n, m, y, p.ix ⟨0, c.Y⟩, p.W.toNat, c.X, p.sq c, p5, p6, p7, p8, q15, q16, C, G, out, ()) := by
  have hw := hp.w1
  intro k
  induction k with
  | zero =>
    intro u hk hu
    have : u = p.W.toNat := by omega
    subst this
    have c1 : ¬ ((p.W.toNat : Nat) : Int) < ((p.W.toNat : Nat) : Int) := by omega
    have hr : r23_12 (n, m, y, p.ix ⟨0, c.Y⟩, p.W.toNat, c.X, p.bst c p.W.toNat, p5, p6, p7, p8, p.ix ⟨0, c.Y⟩, p.W.toNat, (p.W.toNat : Int), (p.W.toNat : Int), q15, q16, C, G, out, ()) =
      some (.inr (n, m, y, p.ix ⟨0, c.Y⟩, p.W.toNat, c.X, p.bst c p.W.toNat, p5, p6, p7, p8, q15, q16, C, G, out, ())) := by
      unfold r23_12
      simp only [c1, decide_false, cond_false]
    unfold l23_12
    rw [iterO_eq, hr]
    rfl
  | succ k ih =>
    intro u hk hu
    have hw2 := hp.w2
    have c1 : (u : Int) < ((p.W.toNat : Nat) : Int) := by omega
    have c2 : (0 : Int) ≤ (u : Int) := by omega
    have hin : p.inP ⟨(u : Int), c.Y⟩ := ⟨c2, by show (u : Int) < p.W; omega, hc.2.2⟩
    have hx := hc.1
    have hx2 := hc.2.1
    have g0 := Pl.gap_low hp hin
    have g1 := Pl.sqr_low (a := p.gap ⟨(u : Int), c.Y⟩) (by omega) (by omega)
    have g2 := Pl.sqr_low (a := c.X - (u : Int)) (by omega) (by omega)
    have w0 : IntKind.i64.wrap ((u : Int) + 1) = ((u + 1 : Nat) : Int) := by rw [w64 (by omega) (by omega)]; rfl
    have w1 : IntKind.i64.wrap (c.X - (u : Int)) = c.X - (u : Int) := w64 (by omega) (by omega)
    have w2 : IntKind.i64.wrap ((c.X - (u : Int)) * (c.X - (u : Int))) = (c.X - (u : Int)) * (c.X - (u : Int)) := w64 (by omega) (by omega)
    have w3 : IntKind.i64.wrap (p.gap ⟨(u : Int), c.Y⟩ * p.gap ⟨(u : Int), c.Y⟩) = p.gap ⟨(u : Int), c.Y⟩ * p.gap ⟨(u : Int), c.Y⟩ := w64 (by omega) (by omega)
    have w4 : IntKind.i64.wrap ((c.X - (u : Int)) * (c.X - (u : Int)) + p.gap ⟨(u : Int), c.Y⟩ * p.gap ⟨(u : Int), c.Y⟩) = p.far c u := w64 (by omega) (by omega)
    have hget := hG u (by omega)
    have hv : (bif decide (p.far c u < p.bst c u) then p.far c u else p.bst c u) = p.bst c (u + 1) := by
      rw [Pl.bst]
      by_cases h : p.far c u < p.bst c u
      · simp only [h, decide_true, cond_true, if_true]
      · simp only [h, decide_false, cond_false, if_false]
    have hr : r23_12 (n, m, y, p.ix ⟨0, c.Y⟩, p.W.toNat, c.X, p.bst c u, p5, p6, p7, p8, p.ix ⟨0, c.Y⟩, p.W.toNat, (p.W.toNat : Int), (u : Int), q15, q16, C, G, out, ()) =
      some (.inl (n, m, y, p.ix ⟨0, c.Y⟩, p.W.toNat, c.X, p.bst c (u + 1), p5, p6, p7, p8, p.ix ⟨0, c.Y⟩, p.W.toNat, (p.W.toNat : Int), ((u + 1 : Nat) : Int), q15, q16, C, G, out, ())) := by
      unfold r23_12
      simp only [c1, c2, decide_true, cond_true, Bool.and_self, Int.toNat_natCast, hget, Option.bind_some, w0, w1, w2, w3, w4, hv]
    have := ih (u + 1) (by omega) (by omega)
    unfold l23_12 at this ⊢
    rw [iterO_eq, hr]
    exact this

theorem l23_6_spec {p : Pl} (hp : p.Ok) {y : Int} (hy0 : 0 ≤ y) (hy1 : y < p.H) {G : List Int} (hG : ∀ u : Nat, (u : Int) < p.W → G[p.ix ⟨0, y⟩ + u]? = some (p.gap ⟨u, y⟩)) (n : Nat) (p5 p6 q16 : Int) (C : List Int) : ∀ (k x : Nat) (out : List Int), p.W - x = k → (x : Int) ≤ p.W → out.length = p.C.length →
    ∃ out', l23_6 (n, p.C.length, y, p.ix ⟨0, y⟩, p.W.toNat, p5, p6, p.W, (x : Int), p.W, q16, C, G, out, ()) = some (n, p.C.length, p5, p6, p.W, q16, C, G, out', ()) ∧ out'.length = p.C.length ∧
      ∀ c, p.inP c → p.g out' c = if c.Y = y ∧ (x : Int) ≤ c.X then p.sq c else p.g out c := by
  intro k
  induction k with
  | zero =>
    intro x out hk hx hl
    have c1 : ¬ (x : Int) < p.W := by omega
    refine ⟨out, ?_, hl, fun c hc => ?_⟩
    · have hr : r23_6 (n, p.C.length, y, p.ix ⟨0, y⟩, p.W.toNat, p5, p6, p.W, (x : Int), p.W, q16, C, G, out, ()) = some (.inr (n, p.C.length, p5, p6, p.W, q16, C, G, out, ())) := by
        unfold r23_6
        simp only [c1, decide_false, cond_false]
      unfold l23_6
      rw [iterO_eq, hr]
    · rw [if_neg (fun h => by have := hc.2.1; omega)]
  | succ k ih =>
    intro x out hk hx hl
    have c1 : (x : Int) < p.W := by omega
    have hw2 := hp.w2
    have hin : p.inP ⟨(x : Int), y⟩ := ⟨by show (0 : Int) ≤ x; omega, c1, hy0, hy1⟩
    have hix := ix_w hp hin
    have hlt := Pl.ix_lt hp hin
    have s0 : 1 ≤ p.side (x : Int) ∧ p.side (x : Int) ≤ 64 := Pl.side_low hp hin
    have s1 := Pl.sqr_low (a := p.side (x : Int)) (by omega) (by omega)
    have w0 : IntKind.i64.wrap ((x : Int) + 1) = ((x + 1 : Nat) : Int) := by rw [w64 (by omega) (by omega)]; rfl
    have w0' : IntKind.i64.wrap ((x : Int) + 1) = (x : Int) + 1 := w64 (by omega) (by omega)
    have w1 : IntKind.i64.wrap (p.W - (x : Int)) = p.W - (x : Int) := w64 (by omega) (by omega)
    have hsd : (bif decide (p.W - (x : Int) < (x : Int) + 1) then p.W - (x : Int) else (x : Int) + 1) = p.side (x : Int) := by
      unfold Pl.side
      by_cases h : p.W - (x : Int) < (x : Int) + 1
      · simp only [h, decide_true, cond_true, if_true]
      · simp only [h, decide_false, cond_false, if_false]
    have w2 : IntKind.i64.wrap (p.side (x : Int) * p.side (x : Int)) = p.side (x : Int) * p.side (x : Int) := w64 (by omega) (by omega)
    have i0 : (0 : Int) ≤ ((p.ix ⟨(x : Int), y⟩ : Nat) : Int) := by omega
    have i1 : ((p.ix ⟨(x : Int), y⟩ : Nat) : Int) < (p.C.length : Int) := by omega
    have hget : out[p.ix ⟨(x : Int), y⟩]? = some (out[p.ix ⟨(x : Int), y⟩]'(by omega)) := List.getElem?_eq_getElem _
    have hin2 := l23_12_spec hp (c := ⟨(x : Int), y⟩) hin hG n p.C.length y p5 p6 p.W (x : Int) p.W q16 C out p.W.toNat 0 (by have := hp.w1; omega) (by have := hp.w1; omega)
    have hin2' : l23_12 (n, p.C.length, y, p.ix ⟨0, y⟩, p.W.toNat, (x : Int), p.side (x : Int) * p.side (x : Int), p5, p6, p.W, (x : Int), p.ix ⟨0, y⟩, p.W.toNat, (p.W.toNat : Int), 0, p.W, q16, C, G, out, ()) = _ := hin2
    have hr : r23_6 (n, p.C.length, y, p.ix ⟨0, y⟩, p.W.toNat, p5, p6, p.W, (x : Int), p.W, q16, C, G, out, ()) = some (.inl (n, p.C.length, y, p.ix ⟨0, y⟩, p.W.toNat, p5, p6, p.W, ((x + 1 : Nat) : Int), p.W, q16, C, G, out.set (p.ix ⟨(x : Int), y⟩) (p.sq ⟨(x : Int), y⟩), ())) := by
      unfold r23_6
      simp only at hix
      simp only [c1, decide_true, cond_true, w0', w1, hsd, w2, hin2', Option.bind_some, hix, i0, i1, Bool.and_self, Nat.zero_add, Int.toNat_natCast, hget]
      rfl
    obtain ⟨out', o1, o2, o3⟩ := ih (x + 1) (out.set (p.ix ⟨(x : Int), y⟩) (p.sq ⟨(x : Int), y⟩)) (by omega) (by omega) (by rw [List.length_set]; exact hl)
    refine ⟨out', ?_, o2, fun c hc => ?_⟩
    · unfold l23_6 at o1 ⊢
      rw [iterO_eq, hr]
      exact o1
    · rw [o3 c hc, Pl.g_set hp hl hin hc]
      by_cases hcy : c.Y = y
      · by_cases hcx : c.X = x
        · have hce : c = ⟨(x : Int), y⟩ := by cases c; simp only at hcx hcy; subst hcx hcy; rfl
          have hA : ¬ (c.Y = y ∧ ((x + 1 : Nat) : Int) ≤ c.X) := by omega
          have hR : c.Y = y ∧ (x : Int) ≤ c.X := by omega
          rw [if_neg hA, if_pos hce, if_pos hR, hce]
        · have hce : c ≠ ⟨(x : Int), y⟩ := fun h => hcx (by rw [h])
          rw [if_neg hce]
          by_cases h2 : ((x + 1 : Nat) : Int) ≤ c.X
          · have hA : c.Y = y ∧ ((x + 1 : Nat) : Int) ≤ c.X := ⟨hcy, h2⟩
            have hR : c.Y = y ∧ (x : Int) ≤ c.X := by omega
            rw [if_pos hA, if_pos hR]
          · have hA : ¬ (c.Y = y ∧ ((x + 1 : Nat) : Int) ≤ c.X) := by omega
            have hR : ¬ (c.Y = y ∧ (x : Int) ≤ c.X) := by omega
            rw [if_neg hA, if_neg hR]
      · have hce : c ≠ ⟨(x : Int), y⟩ := fun h => hcy (by rw [h])
        have hA : ¬ (c.Y = y ∧ ((x + 1 : Nat) : Int) ≤ c.X) := by omega
        have hR : ¬ (c.Y = y ∧ (x : Int) ≤ c.X) := by omega
        rw [if_neg hA, if_neg hce, if_neg hR]

theorem l23_0_spec {p : Pl} (hp : p.Ok) {G : List Int} (hl : G.length = p.C.length) (hG : ∀ c, p.inP c → p.g G c = p.gap c) : ∀ (k y : Nat) (out : List Int), p.H - y = k → (y : Int) ≤ p.H → out.length = p.C.length → (∀ c, p.inP c → c.Y < y → p.g out c = p.sq c) →
    ∃ out', l23_0 (p.C.length, p.C.length, p.H, (y : Int), p.W, p.H, p.C, G, out, ()) = some (p.C.length, out', ()) ∧ out'.length = p.C.length ∧ ∀ c, p.inP c → p.g out' c = p.sq c := by
  intro k
  induction k with
  | zero =>
    intro y out hk hy ho hb
    have c1 : ¬ (y : Int) < p.H := by omega
    refine ⟨out, ?_, ho, fun c hc => hb c hc (by have := hc.2.2.2; omega)⟩
    have hr : r23_0 (p.C.length, p.C.length, p.H, (y : Int), p.W, p.H, p.C, G, out, ()) = some (.inr (p.C.length, out, ())) := by
      unfold r23_0
      simp only [c1, decide_false, cond_false]
    unfold l23_0
    rw [iterO_eq, hr]
  | succ k ih =>
    intro y out hk hy ho hb
    have c1 : (y : Int) < p.H := by omega
    have hw := hp.w1
    have hw2 := hp.w2
    have hh := hp.h2
    have hlen := hp.len
    have hin0 : p.inP ⟨0, (y : Int)⟩ := ⟨Int.le_refl _, by show (0 : Int) < p.W; omega, by show (0 : Int) ≤ y; omega, c1⟩
    have hix := Pl.ix_val hin0
    simp only [Int.add_zero] at hix
    have w0 : IntKind.i64.wrap ((y : Int) + 1) = (y : Int) + 1 := w64 (by omega) (by omega)
    have m1 := mulb (a := (y : Int)) (b := p.W) (A := 64) (B := 64) (by omega) (by omega) (by omega) (by omega)
    have m2 : ((y : Int) + 1) * p.W = (y : Int) * p.W + p.W := by rw [Int.add_mul, Int.one_mul]
    have w1 : IntKind.i64.wrap ((y : Int) * p.W) = ((p.ix ⟨0, (y : Int)⟩ : Nat) : Int) := by rw [w64 (by omega) (by omega)]; exact hix.symm
    have w2 : IntKind.i64.wrap (((y : Int) + 1) * p.W) = ((p.ix ⟨0, (y : Int)⟩ + p.W.toNat : Nat) : Int) := by rw [m2, w64 (by omega) (by omega)]; omega
    have hle : p.ix ⟨0, (y : Int)⟩ + p.W.toNat ≤ p.C.length := by
      have h1 : ((y : Int) + 1) * p.W ≤ p.H * p.W := Int.mul_le_mul_of_nonneg_right (by omega) (by omega)
      rw [m2, Int.mul_comm p.H] at h1
      omega
    have i1 : (0 : Int) ≤ ((p.ix ⟨0, (y : Int)⟩ : Nat) : Int) := by omega
    have i2 : ((p.ix ⟨0, (y : Int)⟩ : Nat) : Int) ≤ ((p.ix ⟨0, (y : Int)⟩ + p.W.toNat : Nat) : Int) := by omega
    have i3 : ((p.ix ⟨0, (y : Int)⟩ + p.W.toNat : Nat) : Int) ≤ (p.C.length : Int) := by omega
    have hrow : ∀ u : Nat, (u : Int) < p.W → G[p.ix ⟨0, (y : Int)⟩ + u]? = some (p.gap ⟨u, (y : Int)⟩) := fun u hu => by
      have hin : p.inP ⟨(u : Int), (y : Int)⟩ := ⟨by show (0 : Int) ≤ u; omega, hu, by show (0 : Int) ≤ y; omega, c1⟩
      have h1 := Pl.ix_val hin
      simp only at h1
      have h2 : p.ix ⟨0, (y : Int)⟩ + u = p.ix ⟨(u : Int), (y : Int)⟩ := by omega
      rw [h2, g_get hp hl hin, hG _ hin]
    obtain ⟨o1, a1, a2, a3⟩ := l23_6_spec hp (show (0 : Int) ≤ (y : Int) by omega) c1 hrow p.C.length p.H (y : Int) p.H p.C p.W.toNat 0 out (by omega) (by omega) ho
    have a1' : l23_6 (p.C.length, p.C.length, (y : Int), p.ix ⟨0, (y : Int)⟩, p.W.toNat, p.H, (y : Int), p.W, 0, p.W, p.H, p.C, G, out, ()) = _ := a1
    have hr : r23_0 (p.C.length, p.C.length, p.H, (y : Int), p.W, p.H, p.C, G, out, ()) = some (.inl (p.C.length, p.C.length, p.H, ((y + 1 : Nat) : Int), p.W, p.H, p.C, G, o1, ())) := by
      unfold r23_0
      simp only [c1, decide_true, cond_true, w0, w1, w2, i1, i2, i3, Int.le_refl, Bool.and_self, Int.toNat_natCast, Nat.zero_add, Nat.add_sub_cancel_left, a1', Option.bind_some]
      rfl
    obtain ⟨o3, d1, d2, d3⟩ := ih (y + 1) o1 (by omega) (by omega) a2 (fun c hc hcy => by
      rw [a3 c hc]
      by_cases hy2 : c.Y = y
      · rw [if_pos ⟨hy2, by have := hc.1; omega⟩]
      · rw [if_neg (fun h => hy2 h.1)]
        exact hb c hc (by omega))
    refine ⟨o3, ?_, d2, d3⟩
    unfold l23_0 at d1 ⊢
    rw [iterO_eq, hr]
    exact d1

theorem f23_spec {p : Pl} (hp : p.Ok) : ∃ S, f23 (p.W, p.H, p.C, ()) = some (p.C.length, S, ()) ∧ S.length = p.C.length ∧ ∀ c, p.inP c → p.g S c = p.sq c := by
  have hh := hp.h1
  have hfew := hp.few
  obtain ⟨G, g1, g2, g3⟩ := f43_spec hp
  obtain ⟨o, a1, a2, a3⟩ := l23_0_spec hp g2 g3 p.H.toNat 0 (List.replicate p.C.length 0) (by omega) (by omega) (by simp) (fun c hc h => by have := hc.2.2.1; omega)
  have a1' : l23_0 (p.C.length, p.C.length, p.H, 0, p.W, p.H, p.C, G, List.replicate p.C.length 0, ()) = _ := a1
  have c1 : ((p.C.length : Int) * 8 ≤ 140737488355328) := by omega
  have c2 : ((p.C.length : Int) ≤ 140737488355328) := by omega
  refine ⟨o, ?_, a2, a3⟩
  unfold f23
  simp only [g1, Option.bind_some, Int.le_refl, c1, c2, decide_true, Bool.and_self, cond_true, Int.toNat_natCast, a1']

end Go.AE
