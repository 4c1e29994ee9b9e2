/-
  Plain laws of the chapter Path, part 9: what is seen from a cell.
-/
import Derived.Test.YtfeoolgkbljggaaP8
namespace Go.AE
open Go.Proofs Go.RowKit
set_option maxRecDepth 100000

def mxI (a b : Int) : Int := bif decide (b > a) then b else a
def mnI (a b : Int) : Int := bif decide (b < a) then b else a
def abI (n : Int) : Int := bif decide (-n > n) then -n else n
theorem mxI_eq (a b : Int) : mxI a b = max a b := by
  unfold mxI
  by_cases h : b > a
  · simp only [h, decide_true, cond_true]; omega
  · simp only [h, decide_false, cond_false]; omega
theorem mnI_eq (a b : Int) : mnI a b = min a b := by
  unfold mnI
  by_cases h : b < a
  · simp only [h, decide_true, cond_true]; omega
  · simp only [h, decide_false, cond_false]; omega
theorem abI_eq (n : Int) : (abI n = n ∧ 0 ≤ n) ∨ (abI n = -n ∧ n ≤ 0) := by
  unfold abI
  by_cases h : -n > n
  · right
    rw [decide_eq_true h]
    exact ⟨rfl, by omega⟩
  · left
    rw [decide_eq_false h]
    exact ⟨rfl, by omega⟩

/-- How far a cell lies from the line, doubled. -/
def offI (a b : Pt) (x y : Int) : Int := (b.X - a.X) * (2 * (y - a.Y)) - (b.Y - a.Y) * (2 * (x - a.X))
/-- Whether a cell lies near the line. -/
def onI (a b : Pt) (x y : Int) : Prop := abI (offI a b x y) ≤ abI (b.X - a.X) + abI (b.Y - a.Y)
/-- What lies between. -/
def Pl.vis (p : Pl) (a b : Pt) : Prop := ∀ y, mnI a.Y b.Y ≤ y → y ≤ mxI a.Y b.Y → ∀ x, mnI a.X b.X ≤ x → x ≤ mxI a.X b.X → onI a b x y → p.free ⟨x, y⟩

theorem r27_row {p : Pl} (hp : p.Ok) {a b : Pt} (ha : p.inP a) (hb : p.inP b) {x y : Int} (hx0 : 0 ≤ x) (hx1 : x ≤ 63) (hy0 : 0 ≤ y) (hy1 : y ≤ 63) (hx : x ≤ mxI a.X b.X) :
    r27_6 (b.X - a.X, b.Y - a.Y, y, x, p.W, p.H, p.C, a.X, a.Y, b.X, b.Y, ()) = some (bif decide (abI (offI a b x y) ≤ abI (b.X - a.X) + abI (b.Y - a.Y)) then (bif decide (p.free ⟨x, y⟩) then .inl (b.X - a.X, b.Y - a.Y, y, x + 1, p.W, p.H, p.C, a.X, a.Y, b.X, b.Y, ()) else .inr (.inl (false, ()))) else .inl (b.X - a.X, b.Y - a.Y, y, x + 1, p.W, p.H, p.C, a.X, a.Y, b.X, b.Y, ())) := by
  obtain ⟨⟨x1, x2⟩, y1, y2⟩ := inP_near hp ha
  obtain ⟨⟨x3, x4⟩, y3, y4⟩ := inP_near hp hb
  have v1 : IntKind.i64.wrap (y - a.Y) = y - a.Y := w64 (by omega) (by omega)
  have v2 : IntKind.i64.wrap (x - a.X) = x - a.X := w64 (by omega) (by omega)
  have v3 : IntKind.i64.wrap (2 * (y - a.Y)) = 2 * (y - a.Y) := w64 (by omega) (by omega)
  have v4 : IntKind.i64.wrap (2 * (x - a.X)) = 2 * (x - a.X) := w64 (by omega) (by omega)
  have m1 := mulb (a := b.X - a.X) (b := 2 * (y - a.Y)) (A := 63) (B := 126) (by omega) (by omega) (by omega) (by omega)
  have m2 := mulb (a := b.Y - a.Y) (b := 2 * (x - a.X)) (A := 63) (B := 126) (by omega) (by omega) (by omega) (by omega)
  have v5 : IntKind.i64.wrap ((b.X - a.X) * (2 * (y - a.Y))) = (b.X - a.X) * (2 * (y - a.Y)) := w64 (by omega) (by omega)
  have v6 : IntKind.i64.wrap ((b.Y - a.Y) * (2 * (x - a.X))) = (b.Y - a.Y) * (2 * (x - a.X)) := w64 (by omega) (by omega)
  have v7 : IntKind.i64.wrap ((b.X - a.X) * (2 * (y - a.Y)) - (b.Y - a.Y) * (2 * (x - a.X))) = offI a b x y := by unfold offI; exact w64 (by omega) (by omega)
  have o1 : -20000 ≤ offI a b x y ∧ offI a b x y ≤ 20000 := by unfold offI; omega
  have v8 : IntKind.i64.wrap (0 - offI a b x y) = -offI a b x y := by rw [w64 (by omega) (by omega)]; omega
  have v9 : IntKind.i64.wrap (0 - (b.X - a.X)) = -(b.X - a.X) := by rw [w64 (by omega) (by omega)]; omega
  have va : IntKind.i64.wrap (0 - (b.Y - a.Y)) = -(b.Y - a.Y) := by rw [w64 (by omega) (by omega)]; omega
  have a1 := abI_eq (b.X - a.X)
  have a2 := abI_eq (b.Y - a.Y)
  have vb : IntKind.i64.wrap (abI (b.X - a.X) + abI (b.Y - a.Y)) = abI (b.X - a.X) + abI (b.Y - a.Y) := w64 (by omega) (by omega)
  have vc : IntKind.i64.wrap (x + 1) = x + 1 := w64 (by omega) (by omega)
  have hf := f38_spec hp ⟨x, y⟩
  simp only at hf
  have k1 : ∀ n : Int, (bif decide (-n > n) then -n else n) = abI n := fun _ => rfl
  have k2 : ∀ a b : Int, (bif decide (b > a) then b else a) = mxI a b := fun _ _ => rfl
  unfold r27_6
  simp only [v1, v2, v3, v4, v5, v6, v7, v8, v9, va, k1, k2, vb, hx, decide_true, cond_true, hf, Option.bind_some, j27_28, vc]
  by_cases q : abI (offI a b x y) ≤ abI (b.X - a.X) + abI (b.Y - a.Y)
  · by_cases q2 : p.free ⟨x, y⟩
    · simp only [q, q2, decide_true, cond_true, Bool.not_true, cond_false]
    · simp only [q, q2, decide_true, decide_false, cond_true, cond_false, Bool.not_false]
  · simp only [q, decide_false, cond_false]

theorem l27_6_spec {p : Pl} (hp : p.Ok) {a b : Pt} (ha : p.inP a) (hb : p.inP b) {y : Int} (hy0 : 0 ≤ y) (hy1 : y ≤ 63) : ∀ (t : Nat) (x : Int), 0 ≤ x → x ≤ mxI a.X b.X + 1 → mxI a.X b.X + 1 - x = t →
    ((∀ x', x ≤ x' → x' ≤ mxI a.X b.X → onI a b x' y → p.free ⟨x', y⟩) ∧ l27_6 (b.X - a.X, b.Y - a.Y, y, x, p.W, p.H, p.C, a.X, a.Y, b.X, b.Y, ()) = some (.inr (b.X - a.X, b.Y - a.Y, y, p.W, p.H, p.C, a.X, a.Y, b.X, b.Y, ()))) ∨
    ((¬ ∀ x', x ≤ x' → x' ≤ mxI a.X b.X → onI a b x' y → p.free ⟨x', y⟩) ∧ l27_6 (b.X - a.X, b.Y - a.Y, y, x, p.W, p.H, p.C, a.X, a.Y, b.X, b.Y, ()) = some (.inl (false, ()))) := by
  obtain ⟨⟨x1, x2⟩, y1, y2⟩ := inP_near hp ha
  obtain ⟨⟨x3, x4⟩, y3, y4⟩ := inP_near hp hb
  have hm := mxI_eq a.X b.X
  intro t
  induction t with
  | zero =>
    intro x h0 h1 ht
    left
    refine ⟨fun x' k1 k2 => by omega, ?_⟩
    have c1 : ¬ x ≤ mxI a.X b.X := by omega
    have k2 : ∀ a b : Int, (bif decide (b > a) then b else a) = mxI a b := fun _ _ => rfl
    have : r27_6 (b.X - a.X, b.Y - a.Y, y, x, p.W, p.H, p.C, a.X, a.Y, b.X, b.Y, ()) = some (.inr (.inr (b.X - a.X, b.Y - a.Y, y, p.W, p.H, p.C, a.X, a.Y, b.X, b.Y, ()))) := by
      unfold r27_6
      simp only [k2, c1, decide_false, cond_false]
    unfold l27_6
    rw [iterO_eq, this]
  | succ t ih =>
    intro x h0 h1 ht
    have hx : x ≤ mxI a.X b.X := by omega
    have hr := r27_row hp ha hb h0 (by omega) hy0 hy1 hx
    have step : (∀ x', x ≤ x' → x' ≤ mxI a.X b.X → onI a b x' y → p.free ⟨x', y⟩) ↔ (onI a b x y → p.free ⟨x, y⟩) ∧ (∀ x', x + 1 ≤ x' → x' ≤ mxI a.X b.X → onI a b x' y → p.free ⟨x', y⟩) := by
      constructor
      · intro h; exact ⟨h x (by omega) hx, fun x' k1 k2 => h x' (by omega) k2⟩
      · rintro ⟨h1, h2⟩ x' k1 k2 k3
        by_cases e : x' = x
        · subst e; exact h1 k3
        · exact h2 x' (by omega) k2 k3
    rw [step]
    have next := ih (x + 1) (by omega) (by omega) (by omega)
    unfold l27_6 at next ⊢
    rw [iterO_eq, hr]
    by_cases q : onI a b x y
    · have q' := q
      unfold onI at q'
      by_cases q2 : p.free ⟨x, y⟩
      · simp only [q', q, q2, decide_true, cond_true, forall_const, true_and]
        exact next
      · right
        refine ⟨fun h => q2 (h.1 q), ?_⟩
        simp only [q', q2, decide_true, decide_false, cond_true, cond_false]
    · have q' := q
      unfold onI at q'
      simp only [q', q, decide_false, cond_false, false_implies, true_and]
      exact next

theorem l27_0_spec {p : Pl} (hp : p.Ok) {a b : Pt} (ha : p.inP a) (hb : p.inP b) : ∀ (t : Nat) (y : Int), 0 ≤ y → y ≤ mxI a.Y b.Y + 1 → mxI a.Y b.Y + 1 - y = t →
    ((∀ y', y ≤ y' → y' ≤ mxI a.Y b.Y → ∀ x, mnI a.X b.X ≤ x → x ≤ mxI a.X b.X → onI a b x y' → p.free ⟨x, y'⟩) ∧ l27_0 (b.X - a.X, b.Y - a.Y, y, p.W, p.H, p.C, a.X, a.Y, b.X, b.Y, ()) = some (.inr ())) ∨
    ((¬ ∀ y', y ≤ y' → y' ≤ mxI a.Y b.Y → ∀ x, mnI a.X b.X ≤ x → x ≤ mxI a.X b.X → onI a b x y' → p.free ⟨x, y'⟩) ∧ l27_0 (b.X - a.X, b.Y - a.Y, y, p.W, p.H, p.C, a.X, a.Y, b.X, b.Y, ()) = some (.inl (false, ()))) := by
  obtain ⟨⟨x1, x2⟩, y1, y2⟩ := inP_near hp ha
  obtain ⟨⟨x3, x4⟩, y3, y4⟩ := inP_near hp hb
  have hm := mxI_eq a.Y b.Y
  have hmx := mxI_eq a.X b.X
  have hmn := mnI_eq a.X b.X
  have k2 : ∀ a b : Int, (bif decide (b > a) then b else a) = mxI a b := fun _ _ => rfl
  have k3 : ∀ a b : Int, (bif decide (b < a) then b else a) = mnI a b := fun _ _ => rfl
  intro t
  induction t with
  | zero =>
    intro y h0 h1 ht
    left
    refine ⟨fun y' k1 k2 => by omega, ?_⟩
    have c1 : ¬ y ≤ mxI a.Y b.Y := by omega
    have : r27_0 (b.X - a.X, b.Y - a.Y, y, p.W, p.H, p.C, a.X, a.Y, b.X, b.Y, ()) = some (.inr (.inr ())) := by
      unfold r27_0
      simp only [k2, c1, decide_false, cond_false]
    unfold l27_0
    rw [iterO_eq, this]
  | succ t ih =>
    intro y h0 h1 ht
    have hy : y ≤ mxI a.Y b.Y := by omega
    have hrow := l27_6_spec hp ha hb h0 (by omega) (mxI a.X b.X + 1 - mnI a.X b.X).toNat (mnI a.X b.X) (by omega) (by omega) (by omega)
    have vc : IntKind.i64.wrap (y + 1) = y + 1 := w64 (by omega) (by omega)
    have step : (∀ y', y ≤ y' → y' ≤ mxI a.Y b.Y → ∀ x, mnI a.X b.X ≤ x → x ≤ mxI a.X b.X → onI a b x y' → p.free ⟨x, y'⟩) ↔ (∀ x, mnI a.X b.X ≤ x → x ≤ mxI a.X b.X → onI a b x y → p.free ⟨x, y⟩) ∧ (∀ y', y + 1 ≤ y' → y' ≤ mxI a.Y b.Y → ∀ x, mnI a.X b.X ≤ x → x ≤ mxI a.X b.X → onI a b x y' → p.free ⟨x, y'⟩) := by
      constructor
      · intro h; exact ⟨h y (by omega) hy, fun y' k1 k2 => h y' (by omega) k2⟩
      · rintro ⟨h1, h2⟩ y' k1 k2
        by_cases e : y' = y
        · subst e; exact h1
        · exact h2 y' (by omega) k2
    rw [step]
    have next := ih (y + 1) (by omega) (by omega) (by omega)
    rcases hrow with ⟨r1, r2⟩ | ⟨r1, r2⟩
    · have : r27_0 (b.X - a.X, b.Y - a.Y, y, p.W, p.H, p.C, a.X, a.Y, b.X, b.Y, ()) = some (.inl (b.X - a.X, b.Y - a.Y, y + 1, p.W, p.H, p.C, a.X, a.Y, b.X, b.Y, ())) := by
        unfold r27_0
        simp only [k2, k3, hy, decide_true, cond_true, r2, Option.bind_some, Sum.elim_inr, vc]
      unfold l27_0 at next ⊢
      rw [iterO_eq, this]
      simp only [and_iff_right r1]
      exact next
    · right
      have : r27_0 (b.X - a.X, b.Y - a.Y, y, p.W, p.H, p.C, a.X, a.Y, b.X, b.Y, ()) = some (.inr (.inl (false, ()))) := by
        unfold r27_0
        simp only [k2, k3, hy, decide_true, cond_true, r2, Option.bind_some, Sum.elim_inl]
      refine ⟨fun h => r1 h.1, ?_⟩
      unfold l27_0
      rw [iterO_eq, this]

theorem f27_spec {p : Pl} (hp : p.Ok) (a b : Pt) : ∃ t, f27 (p.W, p.H, p.C, a.X, a.Y, b.X, b.Y, ()) = some (t, ()) ∧ (t = true ↔ p.free a ∧ p.free b ∧ p.vis a b) := by
  have hfew := hp.few
  unfold f27
  simp only [f37_spec (p := p) (by omega), hp.vld, Option.bind_some, Bool.not_true, cond_false, f38_spec hp]
  by_cases ga : p.free a
  · by_cases gb : p.free b
    · obtain ⟨⟨x1, x2⟩, y1, y2⟩ := inP_near hp ga.1
      obtain ⟨⟨x3, x4⟩, y3, y4⟩ := inP_near hp gb.1
      have hm := mxI_eq a.Y b.Y
      have hmn := mnI_eq a.Y b.Y
      have w1 : IntKind.i64.wrap (b.X - a.X) = b.X - a.X := w64 (by omega) (by omega)
      have w2 : IntKind.i64.wrap (b.Y - a.Y) = b.Y - a.Y := w64 (by omega) (by omega)
      have k3 : ∀ a b : Int, (bif decide (b < a) then b else a) = mnI a b := fun _ _ => rfl
      have h := l27_0_spec hp ga.1 gb.1 (mxI a.Y b.Y + 1 - mnI a.Y b.Y).toNat (mnI a.Y b.Y) (by omega) (by omega) (by omega)
      simp only [ga, gb, decide_true, Bool.not_true, cond_false, w1, w2, k3, true_and]
      rcases h with ⟨h1, h2⟩ | ⟨h1, h2⟩
      · exact ⟨true, by simp only [h2, Option.bind_some, Sum.elim_inr], fun _ => h1, fun _ => rfl⟩
      · exact ⟨false, by simp only [h2, Option.bind_some, Sum.elim_inl], fun h => (Bool.false_ne_true h).elim, fun h => (h1 h).elim⟩
    · refine ⟨false, ?_, by simp [gb]⟩
      simp only [ga, gb, decide_true, decide_false, Bool.not_true, Bool.not_false, cond_false, cond_true]
  · refine ⟨false, ?_, by simp [ga]⟩
    simp only [ga, decide_false, Bool.not_false, cond_true]
theorem f27_bad {p : Pl} (hl : p.C.length ≤ 1000000) (hv : p.vld = false) (a b x y : Int) : f27 (p.W, p.H, p.C, a, b, x, y, ()) = some (false, ()) := by
  unfold f27
  simp only [f37_spec hl, hv, Option.bind_some, Bool.not_false, cond_true]

theorem abI_neg (n : Int) : abI (-n) = abI n := by
  have h1 := abI_eq n
  have h2 := abI_eq (-n)
  omega
theorem offI_symm (a b : Pt) (x y : Int) : offI b a x y = -offI a b x y := by
  unfold offI
  have e1 : (a.X - b.X) * (2 * (y - b.Y)) = -((b.X - a.X) * (2 * (y - a.Y))) + (b.X - a.X) * (2 * (b.Y - a.Y)) := by
    rw [show 2 * (y - a.Y) = 2 * (y - b.Y) + 2 * (b.Y - a.Y) by omega, Int.mul_add, show a.X - b.X = -(b.X - a.X) by omega, Int.neg_mul]; omega
  have e2 : (a.Y - b.Y) * (2 * (x - b.X)) = -((b.Y - a.Y) * (2 * (x - a.X))) + (b.Y - a.Y) * (2 * (b.X - a.X)) := by
    rw [show 2 * (x - a.X) = 2 * (x - b.X) + 2 * (b.X - a.X) by omega, Int.mul_add, show a.Y - b.Y = -(b.Y - a.Y) by omega, Int.neg_mul]; omega
  have e3 : (b.X - a.X) * (2 * (b.Y - a.Y)) = (b.Y - a.Y) * (2 * (b.X - a.X)) := by
    rw [Int.mul_left_comm, Int.mul_comm (b.X - a.X), Int.mul_left_comm]
  omega
theorem onI_symm (a b : Pt) (x y : Int) : onI b a x y ↔ onI a b x y := by
  unfold onI
  rw [offI_symm, abI_neg, show a.X - b.X = -(b.X - a.X) by omega, abI_neg, show a.Y - b.Y = -(b.Y - a.Y) by omega, abI_neg]
theorem vis_symm {p : Pl} {a b : Pt} (h : p.vis a b) : p.vis b a := by
  intro y h1 h2 x h3 h4 h5
  rw [mnI_eq] at h1 h3
  rw [mxI_eq] at h2 h4
  exact h y (by rw [mnI_eq]; omega) (by rw [mxI_eq]; omega) x (by rw [mnI_eq]; omega) (by rw [mxI_eq]; omega) ((onI_symm a b x y).1 h5)

end Go.AE
