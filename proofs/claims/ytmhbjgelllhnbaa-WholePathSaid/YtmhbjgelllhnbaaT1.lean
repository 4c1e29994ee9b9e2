/-
  WholePath, part 1: distances in columns; squared distances.
-/
import Derived.Test.YtmhbjgelllhnbaaQR6
namespace Go.AE
open Go.Proofs Go.RowKit
set_option maxRecDepth 100000

namespace Pl
def fr (p : Pl) (x y : Int) : Prop := p.C.getD (p.ix ⟨x, y⟩) 0 = 1
instance (p : Pl) (x y : Int) : Decidable (p.fr x y) := by unfold fr; infer_instance
/-- The free cells just above row y. -/
def gd (p : Pl) (x : Int) : Nat → Int
  | 0 => 0
  | y + 1 => if p.fr x y then p.gd x y + 1 else 0
/-- The free cells among the last k just below them. -/
def gu (p : Pl) (x : Int) : Nat → Int
  | 0 => 0
  | k + 1 => if p.fr x (p.H - 1 - k) then p.gu x k + 1 else 0
def gap (p : Pl) (c : Pt) : Int := if p.gu c.X (p.H - c.Y).toNat < p.gd c.X (c.Y.toNat + 1) then p.gu c.X (p.H - c.Y).toNat else p.gd c.X (c.Y.toNat + 1)

theorem gd_low (p : Pl) (x : Int) : ∀ y : Nat, 0 ≤ p.gd x y ∧ p.gd x y ≤ y
  | 0 => ⟨Int.le_refl _, Int.le_refl _⟩
  | y + 1 => by
    have := gd_low p x y
    unfold gd
    split <;> omega
theorem gu_low (p : Pl) (x : Int) : ∀ k : Nat, 0 ≤ p.gu x k ∧ p.gu x k ≤ k
  | 0 => ⟨Int.le_refl _, Int.le_refl _⟩
  | y + 1 => by
    have := gu_low p x y
    unfold gu
    split <;> omega
end Pl

theorem l43_6_spec {p : Pl} (hp : p.Ok) {x : Int} (hx0 : 0 ≤ x) (hx1 : x < p.W) (lim cnt : Int) : ∀ (k : Nat) (y : Nat) (out : List Int), p.H - y = k → (y : Int) ≤ p.H → out.length = p.C.length →
    ∃ out', l43_6 (p.C.length, x, p.gd x y, lim, cnt, p.H, (y : Int), p.W, p.H, p.C, out, ()) = some (p.C.length, x, lim, cnt, p.W, p.H, p.C, out', ()) ∧ out'.length = p.C.length ∧
      ∀ c, p.inP c → p.g out' c = if c.X = x ∧ (y : Int) ≤ c.Y then p.gd x (c.Y.toNat + 1) else p.g out c := by
  intro k
  induction k with
  | zero =>
    intro y out hk hy hl
    have c1 : ¬ (y : Int) < p.H := by omega
    refine ⟨out, ?_, hl, fun c hc => ?_⟩
    · have hr : r43_6 (p.C.length, x, p.gd x y, lim, cnt, p.H, (y : Int), p.W, p.H, p.C, out, ()) = some (.inr (p.C.length, x, lim, cnt, p.W, p.H, p.C, out, ())) := by
        unfold r43_6
        simp only [c1, decide_false, cond_false]
      unfold l43_6
      rw [iterO_eq, hr]
    · rw [if_neg (fun h => by have := hc.2.2.2; omega)]
  | succ k ih =>
    intro y out hk hy hl
    have c1 : (y : Int) < p.H := by omega
    have hin : p.inP ⟨x, y⟩ := ⟨hx0, hx1, by show (0 : Int) ≤ y; omega, c1⟩
    have hix := ix_w hp hin
    have hlt := Pl.ix_lt hp hin
    have hcg := cell_get hp hin
    have hg := Pl.gd_low p x y
    have hh := hp.h2
    have w0 : IntKind.i64.wrap ((y : Int) + 1) = ((y + 1 : Nat) : Int) := by rw [w64 (by omega) (by omega)]; rfl
    have w1 : IntKind.i64.wrap (p.gd x y + 1) = p.gd x y + 1 := w64 (by omega) (by omega)
    have i0 : (0 : Int) ≤ ((p.ix ⟨x, y⟩ : Nat) : Int) := by omega
    have i1 : ((p.ix ⟨x, y⟩ : Nat) : Int) < (p.C.length : Int) := by omega
    have hget : out[p.ix ⟨x, y⟩]? = some (out[p.ix ⟨x, y⟩]'(by omega)) := List.getElem?_eq_getElem _
    have hr : r43_6 (p.C.length, x, p.gd x y, lim, cnt, p.H, (y : Int), p.W, p.H, p.C, out, ()) = some (.inl (p.C.length, x, p.gd x (y + 1), lim, cnt, p.H, ((y + 1 : Nat) : Int), p.W, p.H, p.C, out.set (p.ix ⟨x, y⟩) (p.gd x (y + 1)), ())) := by
      unfold r43_6 j43_37 j43_40
      simp only at hix
      simp only [c1, decide_true, cond_true, hix, idxO_nat, hcg, Option.bind_some, w0, w1, i0, i1, Bool.and_self, Nat.zero_add, Int.toNat_natCast, hget]
      by_cases hf : p.fr x y
      · have q : (p.C.getD (p.ix ⟨x, y⟩) 0 != 1) = false := by rw [show p.C.getD (p.ix ⟨x, y⟩) 0 = 1 from hf]; rfl
        simp only [q, cond_false, Pl.gd, if_pos hf]
      · have q : (p.C.getD (p.ix ⟨x, y⟩) 0 != 1) = true := by simpa [Pl.fr] using hf
        simp only [q, cond_true, Pl.gd, if_neg hf]
    obtain ⟨out', o1, o2, o3⟩ := ih (y + 1) (out.set (p.ix ⟨x, y⟩) (p.gd x (y + 1))) (by omega) (by omega) (by rw [List.length_set]; exact hl)
    refine ⟨out', ?_, o2, fun c hc => ?_⟩
    · unfold l43_6 at o1 ⊢
      rw [iterO_eq, hr]
      exact o1
    · rw [o3 c hc, Pl.g_set hp hl hin hc]
      by_cases hcx : c.X = x
      · by_cases hcy : c.Y = y
        · have hce : c = ⟨x, y⟩ := by cases c; simp only at hcx hcy; subst hcx hcy; rfl
          rw [if_neg (by omega), if_pos hce, if_pos (by omega)]
          rw [hce]
          rfl
        · have hce : c ≠ ⟨x, y⟩ := fun h => hcy (by rw [h])
          rw [if_neg hce]
          by_cases h2 : (y : Int) ≤ c.Y
          · rw [if_pos (by omega), if_pos (by omega)]
          · rw [if_neg (by omega), if_neg (by omega)]
      · have hce : c ≠ ⟨x, y⟩ := fun h => hcx (by rw [h])
        rw [if_neg (by omega), if_neg hce, if_neg (by omega)]

theorem l43_12_spec {p : Pl} (hp : p.Ok) {x : Int} (hx0 : 0 ≤ x) (hx1 : x < p.W) (lim cnt : Int) : ∀ (k : Nat) (out : List Int) (m : Nat), p.H = (m + k : Nat) → out.length = p.C.length →
    ∃ out', l43_12 (p.C.length, x, p.gu x m, (k : Int) - 1, lim, cnt, p.W, p.H, p.C, out, ()) = some (p.C.length, lim, cnt, p.W, p.H, p.C, out', ()) ∧ out'.length = p.C.length ∧
      ∀ c, p.inP c → p.g out' c = if c.X = x ∧ c.Y < (k : Int) then (if p.gu x (p.H - c.Y).toNat < p.g out c then p.gu x (p.H - c.Y).toNat else p.g out c) else p.g out c := by
  intro k
  induction k with
  | zero =>
    intro out m hm hl
    have c1 : ¬ ((0 : Nat) : Int) - 1 ≥ 0 := by omega
    refine ⟨out, ?_, hl, fun c hc => ?_⟩
    · have hr : r43_12 (p.C.length, x, p.gu x m, ((0 : Nat) : Int) - 1, lim, cnt, p.W, p.H, p.C, out, ()) = some (.inr (p.C.length, lim, cnt, p.W, p.H, p.C, out, ())) := by
        unfold r43_12
        simp only [c1, decide_false, cond_false]
      unfold l43_12
      rw [iterO_eq, hr]
    · rw [if_neg (fun h => by have := hc.2.2.1; omega)]
  | succ k ih =>
    intro out m hm hl
    have e1 : ((k + 1 : Nat) : Int) - 1 = (k : Int) := by omega
    have c1 : (k : Int) ≥ 0 := by omega
    have hin : p.inP ⟨x, k⟩ := ⟨hx0, hx1, by show (0 : Int) ≤ k; omega, by show (k : Int) < p.H; omega⟩
    have hix := ix_w hp hin
    have hlt := Pl.ix_lt hp hin
    have hcg := cell_get hp hin
    have hg := Pl.gu_low p x m
    have hh := hp.h2
    have w0 : IntKind.i64.wrap ((k : Int) - 1) = (k : Int) - 1 := w64 (by omega) (by omega)
    have w1 : IntKind.i64.wrap (p.gu x m + 1) = p.gu x m + 1 := w64 (by omega) (by omega)
    have i0 : (0 : Int) ≤ ((p.ix ⟨x, k⟩ : Nat) : Int) := by omega
    have i1 : ((p.ix ⟨x, k⟩ : Nat) : Int) < (p.C.length : Int) := by omega
    have hget : out[p.ix ⟨x, k⟩]? = some (p.g out ⟨x, k⟩) := by
      unfold Pl.g
      rw [List.getD_eq_getElem?_getD, List.getElem?_eq_getElem (by omega)]
      rfl
    have hrow : p.H - 1 - (m : Int) = (k : Int) := by omega
    have hgu : p.gu x (m + 1) = if p.fr x k then p.gu x m + 1 else 0 := by
      rw [Pl.gu, hrow]
    have hHk : (p.H - (k : Int)).toNat = m + 1 := by omega
    have hr : r43_12 (p.C.length, x, p.gu x m, (k : Int), lim, cnt, p.W, p.H, p.C, out, ()) = some (.inl (p.C.length, x, p.gu x (m + 1), (k : Int) - 1, lim, cnt, p.W, p.H, p.C, out.set (p.ix ⟨x, k⟩) (bif decide (p.gu x (m + 1) < p.g out ⟨x, k⟩) then p.gu x (m + 1) else p.g out ⟨x, k⟩), ())) := by
      unfold r43_12 j43_64 j43_52
      simp only at hix
      simp only [c1, decide_true, cond_true, hix, idxO_nat, hcg, Option.bind_some, w0, w1, i0, i1, Bool.and_self, Nat.zero_add, Int.toNat_natCast, hget, hgu]
      by_cases hf : p.fr x k
      · have q : (p.C.getD (p.ix ⟨x, k⟩) 0 != 1) = false := by rw [show p.C.getD (p.ix ⟨x, k⟩) 0 = 1 from hf]; rfl
        simp only [q, cond_false, if_pos hf]
      · have q : (p.C.getD (p.ix ⟨x, k⟩) 0 != 1) = true := by simpa [Pl.fr] using hf
        simp only [q, cond_true, if_neg hf]
    have hv : (bif decide (p.gu x (m + 1) < p.g out ⟨x, k⟩) then p.gu x (m + 1) else p.g out ⟨x, k⟩) = if p.gu x (m + 1) < p.g out ⟨x, k⟩ then p.gu x (m + 1) else p.g out ⟨x, k⟩ := by
      by_cases h : p.gu x (m + 1) < p.g out ⟨x, k⟩
      · simp only [h, decide_true, cond_true, if_true]
      · simp only [h, decide_false, cond_false, if_false]
    rw [hv] at hr
    obtain ⟨out', o1, o2, o3⟩ := ih (out.set (p.ix ⟨x, k⟩) (if p.gu x (m + 1) < p.g out ⟨x, k⟩ then p.gu x (m + 1) else p.g out ⟨x, k⟩)) (m + 1) (by omega) (by rw [List.length_set]; exact hl)
    refine ⟨out', ?_, o2, fun c hc => ?_⟩
    · rw [e1]
      unfold l43_12 at o1 ⊢
      rw [iterO_eq, hr]
      exact o1
    · rw [o3 c hc, Pl.g_set hp hl hin hc]
      by_cases hcx : c.X = x
      · by_cases hcy : c.Y = k
        · have hce : c = ⟨x, k⟩ := by cases c; simp only at hcx hcy; subst hcx hcy; rfl
          have hA : ¬ (c.X = x ∧ c.Y < (k : Int)) := by omega
          have hR : c.X = x ∧ c.Y < ((k + 1 : Nat) : Int) := by omega
          rw [if_neg hA, if_pos hce, if_pos hR, hce]
          simp only [hHk]
        · have hce : c ≠ ⟨x, k⟩ := fun h => hcy (by rw [h])
          rw [if_neg hce]
          by_cases h2 : c.Y < (k : Int)
          · have hA : c.X = x ∧ c.Y < (k : Int) := ⟨hcx, h2⟩
            have hR : c.X = x ∧ c.Y < ((k + 1 : Nat) : Int) := by omega
            rw [if_pos hA, if_pos hR]
          · have hA : ¬ (c.X = x ∧ c.Y < (k : Int)) := by omega
            have hR : ¬ (c.X = x ∧ c.Y < ((k + 1 : Nat) : Int)) := by omega
            rw [if_neg hA, if_neg hR]
      · have hce : c ≠ ⟨x, k⟩ := fun h => hcx (by rw [h])
        have hA : ¬ (c.X = x ∧ c.Y < (k : Int)) := by omega
        have hR : ¬ (c.X = x ∧ c.Y < ((k + 1 : Nat) : Int)) := by omega
        rw [if_neg hA, if_neg hce, if_neg hR]

theorem l43_0_spec {p : Pl} (hp : p.Ok) : ∀ (k : Nat) (x : Nat) (out : List Int), p.W - x = k → (x : Int) ≤ p.W → out.length = p.C.length → (∀ c, p.inP c → c.X < x → p.g out c = p.gap c) →
    ∃ out', l43_0 (p.C.length, p.W, (x : Int), p.W, p.H, p.C, out, ()) = some (p.C.length, out', ()) ∧ out'.length = p.C.length ∧ ∀ c, p.inP c → p.g out' c = p.gap c := by
  intro k
  induction k with
  | zero =>
    intro x out hk hx hl hb
    have c1 : ¬ (x : Int) < p.W := by omega
    refine ⟨out, ?_, hl, fun c hc => hb c hc (by have := hc.2.1; omega)⟩
    have hr : r43_0 (p.C.length, p.W, (x : Int), p.W, p.H, p.C, out, ()) = some (.inr (p.C.length, out, ())) := by
      unfold r43_0
      simp only [c1, decide_false, cond_false]
    unfold l43_0
    rw [iterO_eq, hr]
  | succ k ih =>
    intro x out hk hx hl hb
    have c1 : (x : Int) < p.W := by omega
    have hw := hp.w2
    have hh := hp.h2
    have hh1 := hp.h1
    have w0 : IntKind.i64.wrap ((x : Int) + 1) = ((x + 1 : Nat) : Int) := by rw [w64 (by omega) (by omega)]; rfl
    obtain ⟨o1, a1, a2, a3⟩ := l43_6_spec hp (show (0 : Int) ≤ x by omega) c1 p.W (x : Int) p.H.toNat 0 out (by omega) (by omega) hl
    have a1' : l43_6 (p.C.length, (x : Int), 0, p.W, (x : Int), p.H, 0, p.W, p.H, p.C, out, ()) = _ := a1
    obtain ⟨o2, b1, b2, b3⟩ := l43_12_spec hp (show (0 : Int) ≤ x by omega) c1 p.W (x : Int) p.H.toNat o1 0 (by omega) a2
    have b1' : l43_12 (p.C.length, (x : Int), 0, p.H - 1, p.W, (x : Int), p.W, p.H, p.C, o1, ()) = some (p.C.length, p.W, (x : Int), p.W, p.H, p.C, o2, ()) := by
      rw [show ((p.H.toNat : Nat) : Int) = p.H by omega] at b1
      exact b1
    have w1 : IntKind.i64.wrap (p.H - 1) = p.H - 1 := w64 (by omega) (by omega)
    have hr : r43_0 (p.C.length, p.W, (x : Int), p.W, p.H, p.C, out, ()) = some (.inl (p.C.length, p.W, ((x + 1 : Nat) : Int), p.W, p.H, p.C, o2, ())) := by
      unfold r43_0
      simp only [c1, decide_true, cond_true, a1', Option.bind_some, w1, b1', w0]
    obtain ⟨o3, d1, d2, d3⟩ := ih (x + 1) o2 (by omega) (by omega) b2 (fun c hc hcx => by
      rw [b3 c hc]
      by_cases hx2 : c.X = x
      · have hA : c.X = (x : Int) ∧ c.Y < ((p.H.toNat : Nat) : Int) := ⟨hx2, by have := hc.2.2.2; omega⟩
        have hB : c.X = (x : Int) ∧ ((0 : Nat) : Int) ≤ c.Y := ⟨hx2, by have := hc.2.2.1; omega⟩
        rw [if_pos hA, a3 c hc, if_pos hB]
        unfold Pl.gap
        rw [hx2]
      · have hA : ¬ (c.X = (x : Int) ∧ c.Y < ((p.H.toNat : Nat) : Int)) := fun h => hx2 h.1
        have hB : ¬ (c.X = (x : Int) ∧ ((0 : Nat) : Int) ≤ c.Y) := fun h => hx2 h.1
        rw [if_neg hA, a3 c hc, if_neg hB]
        exact hb c hc (by omega))
    refine ⟨o3, ?_, d2, d3⟩
    unfold l43_0 at d1 ⊢
    rw [iterO_eq, hr]
    exact d1

theorem f43_spec {p : Pl} (hp : p.Ok) : ∃ G, f43 (p.W, p.H, p.C, ()) = some (p.C.length, G, ()) ∧ G.length = p.C.length ∧ ∀ c, p.inP c → p.g G c = p.gap c := by
  have hw := hp.w1
  have hfew := hp.few
  obtain ⟨o, a1, a2, a3⟩ := l43_0_spec hp p.W.toNat 0 (List.replicate p.C.length 0) (by omega) (by omega) (by simp) (fun c hc h => by have := hc.1; omega)
  have a1' : l43_0 (p.C.length, p.W, 0, p.W, p.H, p.C, List.replicate p.C.length 0, ()) = _ := a1
  have c1 : ((p.C.length : Int) * 8 ≤ 140737488355328) := by omega
  have c2 : ((p.C.length : Int) ≤ 140737488355328) := by omega
  refine ⟨o, ?_, a2, a3⟩
  unfold f43
  simp only [Int.le_refl, c1, c2, decide_true, Bool.and_self, cond_true, Int.toNat_natCast, a1', Option.bind_some]

end Go.AE
