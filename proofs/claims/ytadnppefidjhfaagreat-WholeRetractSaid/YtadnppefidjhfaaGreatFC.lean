/-
  The chapter Floor, part 2: which discs fit.
-/
import Derived.Test.YtadnppefidjhfaaGreatFB
namespace Go.AE
open Go.Proofs Go.RowKit
set_option maxRecDepth 100000

/-- How far a number lies from the interval of a cell. -/
def gp (n c : Int) : Int := max (max 0 (c * 64 - n)) (n - (c * 64 + 64))
def gap2 (a c : Pt) : Int := gp a.X c.X * gp a.X c.X + gp a.Y c.Y * gp a.Y c.Y
def hit (p : Pl) (a : Pt) (r : Int) (c : Pt) : Prop := p.val c = 2 ∧ gap2 a c ≤ r * r
def nearP (a : Pt) : Prop := (-1048576 ≤ a.X ∧ a.X ≤ 1048576) ∧ -1048576 ≤ a.Y ∧ a.Y ≤ 1048576
def Fit (p : Pl) (a : Pt) (r : Int) : Prop := p.bld = true ∧ nearP a ∧ (0 ≤ r ∧ r ≤ 1024) ∧ ∀ c, ¬ hit p a r c

theorem gp_nonneg (n c : Int) : 0 ≤ gp n c := by unfold gp; omega
theorem sq_nonneg' (a : Int) : 0 ≤ a * a := by
  rcases Int.le_total 0 a with h | h
  · exact Int.mul_nonneg h h
  · have := Int.mul_nonneg (show 0 ≤ -a by omega) (show 0 ≤ -a by omega)
    rwa [Int.neg_mul_neg] at this
theorem sq_leF {a r : Int} (ha : 0 ≤ a) (hr : 0 ≤ r) (h : a * a ≤ r * r) : a ≤ r := by
  rcases Int.lt_or_le r a with h1 | h1
  · have h2 : (r + 1) * (r + 1) ≤ a * a := Int.mul_le_mul (by omega) (by omega) (by omega) ha
    have h3 : (r + 1) * (r + 1) = r * r + 2 * r + 1 := by rw [Int.add_mul, Int.mul_add]; omega
    omega
  · exact h1
theorem hit_gp {p : Pl} {a c : Pt} {r : Int} (hr : 0 ≤ r) (h : hit p a r c) : gp a.X c.X ≤ r ∧ gp a.Y c.Y ≤ r := by
  have h1 := sq_nonneg' (gp a.X c.X)
  have h2 := sq_nonneg' (gp a.Y c.Y)
  have h3 := h.2
  unfold gap2 at h3
  exact ⟨sq_leF (gp_nonneg _ _) hr (by omega), sq_leF (gp_nonneg _ _) hr (by omega)⟩

theorem f95_spec {n : Int} (h1 : -1048576 ≤ n) (h2 : n ≤ 1048576) : f95 (n, 64, ()) = some (n / 64, ()) := by
  have e1 := Int.tdiv_eq_ediv_of_nonneg (a := n) (b := 64)
  have q : ((64 : Int) == 0) = false := rfl
  unfold f95
  by_cases h : 0 ≤ n
  · have c1 : ¬ n.tmod 64 < 0 := by have := Int.tmod_nonneg 64 h; omega
    simp only [q, cond_false, c1, decide_false, j95_13, Option.bind_some, e1 h]
    rw [w64 (by omega) (by omega)]
  · have h3 : n.tdiv 64 = -((-n) / 64) := by
      rw [show n = -(-n) by omega, Int.neg_tdiv, Int.tdiv_eq_ediv_of_nonneg (by omega)]
      omega
    have h4 : n.tmod 64 = -((-n) % 64) := by
      rw [show n = -(-n) by omega, Int.neg_tmod, Int.tmod_eq_emod_of_nonneg (by omega)]
      omega
    by_cases c : n.tmod 64 < 0
    · simp only [q, cond_false, c, decide_true, cond_true, j95_13, Option.bind_some]
      rw [w64 (n := n.tdiv 64) (by omega) (by omega), w64 (by omega) (by omega)]
      congr 2
      omega
    · simp only [q, cond_false, c, decide_false, j95_13, Option.bind_some]
      rw [w64 (by omega) (by omega)]
      congr 2
      omega

theorem f76_spec {n m : Int} (h : 0 ≤ m ∧ m ≤ 1048576) : f76 n m = (decide (-m ≤ n) && decide (n ≤ m)) := by
  have w0 : IntKind.i64.wrap (0 - m) = -m := by rw [w64 (by omega) (by omega)]; omega
  unfold f76
  rw [w0]
  by_cases h1 : -m ≤ n
  · have : n ≥ -m := h1
    simp [h1]
  · have : ¬ n ≥ -m := h1
    simp [h1]
theorem f58_spec (a : Pt) : (f58 a.X a.Y = true ↔ nearP a) := by
  unfold f58 nearP
  rw [f76_spec (by omega), f76_spec (by omega)]
  by_cases h1 : -1048576 ≤ a.X <;> by_cases h2 : a.X ≤ 1048576 <;> simp [h1, h2]
theorem f95_ok (n : Int) : ∃ v, f95 (n, 64, ()) = some (v, ()) := by
  have q : ((64 : Int) == 0) = false := rfl
  unfold f95
  by_cases c : n.tmod 64 < 0
  · exact ⟨_, by simp only [q, cond_false, c, decide_true, cond_true, j95_13, Option.bind_some]; rfl⟩
  · exact ⟨_, by simp only [q, cond_false, c, decide_false, j95_13, Option.bind_some]; rfl⟩
theorem mx (a b : Int) : (bif decide (a > b) then a else b) = max b a := by
  by_cases h : a > b
  · rw [decide_eq_true h]; simp only [cond_true]; omega
  · rw [decide_eq_false h]; simp only [cond_false]; omega
theorem mx0' (b : Int) : (bif decide (0 > b) then 0 else b) = max 0 b := by
  by_cases h : 0 > b
  · rw [decide_eq_true h]; simp only [cond_true]; omega
  · rw [decide_eq_false h]; simp only [cond_false]; omega

theorem gp_le {n c : Int} (hn : -1048576 ≤ n ∧ n ≤ 1048576) (hc : -100000 ≤ c ∧ c ≤ 100000) : gp n c ≤ 8000000 := by unfold gp; omega
theorem gap2_le {a c : Pt} (ha : nearP a) (hx : -100000 ≤ c.X ∧ c.X ≤ 100000) (hy : -100000 ≤ c.Y ∧ c.Y ≤ 100000) : (0 ≤ gp a.X c.X * gp a.X c.X ∧ gp a.X c.X * gp a.X c.X ≤ 64000000000000) ∧ 0 ≤ gp a.Y c.Y * gp a.Y c.Y ∧ gp a.Y c.Y * gp a.Y c.Y ≤ 64000000000000 := by
  have h1 := gp_le ha.1 hx
  have h2 := gp_le ha.2 hy
  have h3 : gp a.X c.X * gp a.X c.X ≤ 8000000 * 8000000 := Int.mul_le_mul h1 h1 (gp_nonneg _ _) (by omega)
  have h4 : gp a.Y c.Y * gp a.Y c.Y ≤ 8000000 * 8000000 := Int.mul_le_mul h2 h2 (gp_nonneg _ _) (by omega)
  exact ⟨⟨sq_nonneg' _, by omega⟩, sq_nonneg' _, by omega⟩

theorem f80_spec {c : Pt} (hx : -100000 ≤ c.X ∧ c.X ≤ 100000) (hy : -100000 ≤ c.Y ∧ c.Y ≤ 100000) : f80 c.X c.Y = (c.X * 64, c.Y * 64, c.X * 64 + 64, c.Y * 64 + 64) := by
  unfold f80
  rw [w64 (n := c.X * 64) (by omega) (by omega), w64 (n := c.Y * 64) (by omega) (by omega), w64 (n := c.X * 64 + 64) (by omega) (by omega), w64 (n := c.Y * 64 + 64) (by omega) (by omega)]

def okC (c : Pt) : Prop := (-16384 ≤ c.X ∧ c.X ≤ 16384) ∧ -16384 ≤ c.Y ∧ c.Y ≤ 16384
instance (c : Pt) : Decidable (okC c) := by unfold okC; infer_instance

end Go.AE
