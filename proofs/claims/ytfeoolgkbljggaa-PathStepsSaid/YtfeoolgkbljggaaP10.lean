/-
  Plain laws of the chapter Path, part 10: the reference's way to what is seen.
-/
import Derived.Test.YtfeoolgkbljggaaP9
namespace Go.AE
open Go.Proofs Go.RowKit
set_option maxRecDepth 100000

def sgI (s : Int) : Int := bif decide (s > 0) then 1 else bif decide (s < 0) then -1 else 0
theorem sgI_eq (s : Int) : (sgI s ≤ 0 ↔ s ≤ 0) ∧ (sgI s ≥ 0 ↔ s ≥ 0) := by
  unfold sgI
  by_cases h : s > 0
  · rw [decide_eq_true h, cond_true]; omega
  · rw [decide_eq_false h, cond_false]
    by_cases h2 : s < 0
    · rw [decide_eq_true h2, cond_true]; omega
    · rw [decide_eq_false h2, cond_false]; omega
theorem scale (a b : Int) : (64 * a) * (32 * b) = 2048 * (a * b) := by
  rw [Int.mul_assoc, Int.mul_left_comm a]; omega

theorem f56_spec {dx dy u v px py qx qy cx cy : Int} (e1 : qx - px = 64 * dx) (e2 : qy - py = 64 * dy) (e3 : cx - px = 32 * u) (e4 : cy - py = 32 * v)
    (h1 : -63 ≤ dx ∧ dx ≤ 63) (h2 : -63 ≤ dy ∧ dy ≤ 63) (h3 : -128 ≤ u ∧ u ≤ 128) (h4 : -128 ≤ v ∧ v ≤ 128) : f56 px py qx qy cx cy = sgI (2048 * (dx * v - dy * u)) := by
  have m1 := mulb (a := dx) (b := v) (A := 63) (B := 128) h1.1 h1.2 h4.1 h4.2
  have m2 := mulb (a := dy) (b := u) (A := 63) (B := 128) h2.1 h2.2 h3.1 h3.2
  have w1 : IntKind.i64.wrap (64 * dx) = 64 * dx := w64 (by omega) (by omega)
  have w2 : IntKind.i64.wrap (64 * dy) = 64 * dy := w64 (by omega) (by omega)
  have w3 : IntKind.i64.wrap (32 * u) = 32 * u := w64 (by omega) (by omega)
  have w4 : IntKind.i64.wrap (32 * v) = 32 * v := w64 (by omega) (by omega)
  have w5 : IntKind.i64.wrap (2048 * (dx * v)) = 2048 * (dx * v) := w64 (by omega) (by omega)
  have w6 : IntKind.i64.wrap (2048 * (dy * u)) = 2048 * (dy * u) := w64 (by omega) (by omega)
  have w7 : IntKind.i64.wrap (2048 * (dx * v) - 2048 * (dy * u)) = 2048 * (dx * v - dy * u) := by rw [w64 (by omega) (by omega)]; omega
  unfold f56 sgI
  simp only [e1, e2, e3, e4, w1, w2, w3, w4, scale, w5, w6, w7]

theorem lin_le (A B : Int) {x y X Y : Int} (hx : (X = x ∧ 0 ≤ x) ∨ (X = -x ∧ x ≤ 0)) (hy : (Y = y ∧ 0 ≤ y) ∨ (Y = -y ∧ y ≤ 0)) :
    (2048 * (A - x - (B - y)) ≤ 0 ∨ 2048 * (A - x - (B + y)) ≤ 0 ∨ 2048 * (A + x - (B - y)) ≤ 0 ∨ 2048 * (A + x - (B + y)) ≤ 0) ↔ A - B ≤ X + Y := by
  rcases hx with ⟨rfl, hx⟩ | ⟨rfl, hx⟩ <;> rcases hy with ⟨rfl, hy⟩ | ⟨rfl, hy⟩ <;> omega
theorem lin_ge (A B : Int) {x y X Y : Int} (hx : (X = x ∧ 0 ≤ x) ∨ (X = -x ∧ x ≤ 0)) (hy : (Y = y ∧ 0 ≤ y) ∨ (Y = -y ∧ y ≤ 0)) :
    (2048 * (A - x - (B - y)) ≥ 0 ∨ 2048 * (A - x - (B + y)) ≥ 0 ∨ 2048 * (A + x - (B - y)) ≥ 0 ∨ 2048 * (A + x - (B + y)) ≥ 0) ↔ -(A - B) ≤ X + Y := by
  rcases hx with ⟨rfl, hx⟩ | ⟨rfl, hx⟩ <;> rcases hy with ⟨rfl, hy⟩ | ⟨rfl, hy⟩ <;> omega
theorem abI_le (n m : Int) : abI n ≤ m ↔ n ≤ m ∧ -n ≤ m := by
  have := abI_eq n
  omega
theorem min4 {a b c d : Int} : min (min (min a b) c) d ≤ 0 ↔ (a ≤ 0 ∨ b ≤ 0 ∨ c ≤ 0 ∨ d ≤ 0) := by omega
theorem max4 {a b c d : Int} : max (max (max a b) c) d ≥ 0 ↔ (a ≥ 0 ∨ b ≥ 0 ∨ c ≥ 0 ∨ d ≥ 0) := by omega

theorem f46_spec {a b : Pt} {x y : Int} (ha : (0 ≤ a.X ∧ a.X < 64) ∧ (0 ≤ a.Y ∧ a.Y < 64)) (hb : (0 ≤ b.X ∧ b.X < 64) ∧ (0 ≤ b.Y ∧ b.Y < 64))
    (hx0 : mnI a.X b.X ≤ x) (hx1 : x ≤ mxI a.X b.X) (hy0 : mnI a.Y b.Y ≤ y) (hy1 : y ≤ mxI a.Y b.Y) :
    f46 (64 * a.X + 32) (64 * a.Y + 32) (64 * b.X + 32) (64 * b.Y + 32) x y = decide (abI (offI a b x y) ≤ abI (b.X - a.X) + abI (b.Y - a.Y)) := by
  rw [mnI_eq] at hx0 hy0
  rw [mxI_eq] at hx1 hy1
  have k2 : ∀ a b : Int, (bif decide (b > a) then b else a) = mxI a b := fun _ _ => rfl
  have k3 : ∀ a b : Int, (bif decide (b < a) then b else a) = mnI a b := fun _ _ => rfl
  have v1 : IntKind.i64.wrap (x * 64) = x * 64 := w64 (by omega) (by omega)
  have v2 : IntKind.i64.wrap (y * 64) = y * 64 := w64 (by omega) (by omega)
  have v3 : IntKind.i64.wrap (x * 64 + 64) = x * 64 + 64 := w64 (by omega) (by omega)
  have v4 : IntKind.i64.wrap (y * 64 + 64) = y * 64 + 64 := w64 (by omega) (by omega)
  have n1 : ¬ mxI (64 * a.X + 32) (64 * b.X + 32) < x * 64 := by rw [mxI_eq]; omega
  have n2 : ¬ mnI (64 * a.X + 32) (64 * b.X + 32) > x * 64 + 64 := by rw [mnI_eq]; omega
  have n3 : ¬ mxI (64 * a.Y + 32) (64 * b.Y + 32) < y * 64 := by rw [mxI_eq]; omega
  have n4 : ¬ mnI (64 * a.Y + 32) (64 * b.Y + 32) > y * 64 + 64 := by rw [mnI_eq]; omega
  have s1 := f56_spec (dx := b.X - a.X) (dy := b.Y - a.Y) (u := 2 * (x - a.X) - 1) (v := 2 * (y - a.Y) - 1) (px := 64 * a.X + 32) (py := 64 * a.Y + 32) (qx := 64 * b.X + 32) (qy := 64 * b.Y + 32) (cx := x * 64) (cy := y * 64) (by omega) (by omega) (by omega) (by omega) (by omega) (by omega) (by omega) (by omega)
  have s2 := f56_spec (dx := b.X - a.X) (dy := b.Y - a.Y) (u := 2 * (x - a.X) + 1) (v := 2 * (y - a.Y) - 1) (px := 64 * a.X + 32) (py := 64 * a.Y + 32) (qx := 64 * b.X + 32) (qy := 64 * b.Y + 32) (cx := x * 64 + 64) (cy := y * 64) (by omega) (by omega) (by omega) (by omega) (by omega) (by omega) (by omega) (by omega)
  have s3 := f56_spec (dx := b.X - a.X) (dy := b.Y - a.Y) (u := 2 * (x - a.X) - 1) (v := 2 * (y - a.Y) + 1) (px := 64 * a.X + 32) (py := 64 * a.Y + 32) (qx := 64 * b.X + 32) (qy := 64 * b.Y + 32) (cx := x * 64) (cy := y * 64 + 64) (by omega) (by omega) (by omega) (by omega) (by omega) (by omega) (by omega) (by omega)
  have s4 := f56_spec (dx := b.X - a.X) (dy := b.Y - a.Y) (u := 2 * (x - a.X) + 1) (v := 2 * (y - a.Y) + 1) (px := 64 * a.X + 32) (py := 64 * a.Y + 32) (qx := 64 * b.X + 32) (qy := 64 * b.Y + 32) (cx := x * 64 + 64) (cy := y * 64 + 64) (by omega) (by omega) (by omega) (by omega) (by omega) (by omega) (by omega) (by omega)
  unfold f46 f55
  simp only [v1, v2, v3, v4, k2, k3, n1, n2, n3, n4, decide_false, cond_false, s1, s2, s3, s4]
  have o : offI a b x y = (b.X - a.X) * (2 * (y - a.Y)) - (b.Y - a.Y) * (2 * (x - a.X)) := rfl
  have p1 : (b.X - a.X) * (2 * (y - a.Y) - 1) = (b.X - a.X) * (2 * (y - a.Y)) - (b.X - a.X) := by rw [Int.mul_sub, Int.mul_one]
  have p2 : (b.X - a.X) * (2 * (y - a.Y) + 1) = (b.X - a.X) * (2 * (y - a.Y)) + (b.X - a.X) := by rw [Int.mul_add, Int.mul_one]
  have p3 : (b.Y - a.Y) * (2 * (x - a.X) - 1) = (b.Y - a.Y) * (2 * (x - a.X)) - (b.Y - a.Y) := by rw [Int.mul_sub, Int.mul_one]
  have p4 : (b.Y - a.Y) * (2 * (x - a.X) + 1) = (b.Y - a.Y) * (2 * (x - a.X)) + (b.Y - a.Y) := by rw [Int.mul_add, Int.mul_one]
  rw [p1, p2, p3, p4]
  generalize hA : (b.X - a.X) * (2 * (y - a.Y)) = A at *
  generalize hB : (b.Y - a.Y) * (2 * (x - a.X)) = B at *
  rw [o]
  have l1 := lin_le A B (abI_eq (b.X - a.X)) (abI_eq (b.Y - a.Y))
  have l2 := lin_ge A B (abI_eq (b.X - a.X)) (abI_eq (b.Y - a.Y))
  have l3 := abI_le (A - B) (abI (b.X - a.X) + abI (b.Y - a.Y))
  rw [← (sgI_eq (2048 * (A - (b.X - a.X) - (B - (b.Y - a.Y))))).1, ← (sgI_eq (2048 * (A - (b.X - a.X) - (B + (b.Y - a.Y))))).1, ← (sgI_eq (2048 * (A + (b.X - a.X) - (B - (b.Y - a.Y))))).1, ← (sgI_eq (2048 * (A + (b.X - a.X) - (B + (b.Y - a.Y))))).1] at l1
  rw [← (sgI_eq (2048 * (A - (b.X - a.X) - (B - (b.Y - a.Y))))).2, ← (sgI_eq (2048 * (A - (b.X - a.X) - (B + (b.Y - a.Y))))).2, ← (sgI_eq (2048 * (A + (b.X - a.X) - (B - (b.Y - a.Y))))).2, ← (sgI_eq (2048 * (A + (b.X - a.X) - (B + (b.Y - a.Y))))).2] at l2
  rw [← min4] at l1
  rw [← max4] at l2
  rw [Bool.eq_iff_iff, decide_eq_true_eq, l3, ← l1, ← l2, mnI_eq, mnI_eq, mnI_eq, mxI_eq, mxI_eq, mxI_eq]
  by_cases q1 : min (min (min (sgI (2048 * (A - (b.X - a.X) - (B - (b.Y - a.Y))))) (sgI (2048 * (A - (b.X - a.X) - (B + (b.Y - a.Y)))))) (sgI (2048 * (A + (b.X - a.X) - (B - (b.Y - a.Y)))))) (sgI (2048 * (A + (b.X - a.X) - (B + (b.Y - a.Y))))) ≤ 0
  · simp only [q1, decide_true, cond_true, true_and, decide_eq_true_eq]
  · simp only [q1, decide_false, cond_false, false_and, Bool.false_eq_true]

theorem r34_row {p : Pl} (hp : p.Ok) {a b : Pt} (ha : p.inP a) (hb : p.inP b) {x y : Int} (hx0 : mnI a.X b.X ≤ x) (hx1 : x ≤ mxI a.X b.X) (hy0 : mnI a.Y b.Y ≤ y) (hy1 : y ≤ mxI a.Y b.Y) :
    r34_6 (y, x, p.W, p.H, p.C, a.X, a.Y, b.X, b.Y, 64 * a.X + 32, 64 * a.Y + 32, 64 * b.X + 32, 64 * b.Y + 32, ()) = some (bif decide (abI (offI a b x y) ≤ abI (b.X - a.X) + abI (b.Y - a.Y)) then (bif decide (p.free ⟨x, y⟩) then .inl (y, x + 1, p.W, p.H, p.C, a.X, a.Y, b.X, b.Y, 64 * a.X + 32, 64 * a.Y + 32, 64 * b.X + 32, 64 * b.Y + 32, ()) else .inr (.inl (false, ()))) else .inl (y, x + 1, p.W, p.H, p.C, a.X, a.Y, b.X, b.Y, 64 * a.X + 32, 64 * a.Y + 32, 64 * b.X + 32, 64 * b.Y + 32, ())) := by
  have na := inP_near hp ha
  have nb := inP_near hp hb
  have hm := mxI_eq a.X b.X
  have hm2 := mnI_eq a.X b.X
  have h46 := f46_spec na nb hx0 hx1 hy0 hy1
  have vc : IntKind.i64.wrap (x + 1) = x + 1 := w64 (by omega) (by omega)
  have hf := f40_spec hp ⟨x, y⟩
  simp only at hf
  have k2 : ∀ a b : Int, (bif decide (b > a) then b else a) = mxI a b := fun _ _ => rfl
  unfold r34_6
  simp only [k2, hx1, decide_true, cond_true, h46, hf, Option.bind_some, j34_31, vc]
  by_cases q : abI (offI a b x y) ≤ abI (b.X - a.X) + abI (b.Y - a.Y)
  · by_cases q2 : p.free ⟨x, y⟩
    · simp only [q, q2, decide_true, cond_true, Bool.not_true, cond_false]
    · simp only [q, q2, decide_true, decide_false, cond_true, cond_false, Bool.not_false]
  · simp only [q, decide_false, cond_false]

theorem l34_6_spec {p : Pl} (hp : p.Ok) {a b : Pt} (ha : p.inP a) (hb : p.inP b) {y : Int} (hy0 : mnI a.Y b.Y ≤ y) (hy1 : y ≤ mxI a.Y b.Y) : ∀ (t : Nat) (x : Int), mnI a.X b.X ≤ x → x ≤ mxI a.X b.X + 1 → mxI a.X b.X + 1 - x = t →
    ((∀ x', x ≤ x' → x' ≤ mxI a.X b.X → onI a b x' y → p.free ⟨x', y⟩) ∧ l34_6 (y, x, p.W, p.H, p.C, a.X, a.Y, b.X, b.Y, 64 * a.X + 32, 64 * a.Y + 32, 64 * b.X + 32, 64 * b.Y + 32, ()) = some (.inr (y, p.W, p.H, p.C, a.X, a.Y, b.X, b.Y, 64 * a.X + 32, 64 * a.Y + 32, 64 * b.X + 32, 64 * b.Y + 32, ()))) ∨
    ((¬ ∀ x', x ≤ x' → x' ≤ mxI a.X b.X → onI a b x' y → p.free ⟨x', y⟩) ∧ l34_6 (y, x, p.W, p.H, p.C, a.X, a.Y, b.X, b.Y, 64 * a.X + 32, 64 * a.Y + 32, 64 * b.X + 32, 64 * b.Y + 32, ()) = some (.inl (false, ()))) := by
  intro t
  induction t with
  | zero =>
    intro x h0 h1 ht
    left
    refine ⟨fun x' k1 k2 => by omega, ?_⟩
    have c1 : ¬ x ≤ mxI a.X b.X := by omega
    have k2 : ∀ a b : Int, (bif decide (b > a) then b else a) = mxI a b := fun _ _ => rfl
    have : r34_6 (y, x, p.W, p.H, p.C, a.X, a.Y, b.X, b.Y, 64 * a.X + 32, 64 * a.Y + 32, 64 * b.X + 32, 64 * b.Y + 32, ()) = some (.inr (.inr (y, p.W, p.H, p.C, a.X, a.Y, b.X, b.Y, 64 * a.X + 32, 64 * a.Y + 32, 64 * b.X + 32, 64 * b.Y + 32, ()))) := by
      unfold r34_6
      simp only [k2, c1, decide_false, cond_false]
    unfold l34_6
    rw [iterO_eq, this]
  | succ t ih =>
    intro x h0 h1 ht
    have hx : x ≤ mxI a.X b.X := by omega
    have hr := r34_row hp ha hb h0 hx hy0 hy1
    have step : (∀ x', x ≤ x' → x' ≤ mxI a.X b.X → onI a b x' y → p.free ⟨x', y⟩) ↔ (onI a b x y → p.free ⟨x, y⟩) ∧ (∀ x', x + 1 ≤ x' → x' ≤ mxI a.X b.X → onI a b x' y → p.free ⟨x', y⟩) := by
      constructor
      · intro h; exact ⟨h x (by omega) hx, fun x' k1 k2 => h x' (by omega) k2⟩
      · rintro ⟨h1, h2⟩ x' k1 k2 k3
        by_cases e : x' = x
        · subst e; exact h1 k3
        · exact h2 x' (by omega) k2 k3
    rw [step]
    have next := ih (x + 1) (by omega) (by omega) (by omega)
    unfold l34_6 at next ⊢
    rw [iterO_eq, hr]
    by_cases q : onI a b x y
    · have q' := q
      unfold onI at q'
      by_cases q2 : p.free ⟨x, y⟩
      · simp only [q', q, q2, decide_true, cond_true, forall_const, true_and]
        exact next
      · right
        refine ⟨fun h => q2 (h.1 q), ?_⟩
        simp only [q', q2, decide_true, decide_false, cond_true, cond_false]
    · have q' := q
      unfold onI at q'
      simp only [q', q, decide_false, cond_false, false_implies, true_and]
      exact next

theorem l34_0_spec {p : Pl} (hp : p.Ok) {a b : Pt} (ha : p.inP a) (hb : p.inP b) : ∀ (t : Nat) (y : Int), mnI a.Y b.Y ≤ y → y ≤ mxI a.Y b.Y + 1 → mxI a.Y b.Y + 1 - y = t →
    ((∀ y', y ≤ y' → y' ≤ mxI a.Y b.Y → ∀ x, mnI a.X b.X ≤ x → x ≤ mxI a.X b.X → onI a b x y' → p.free ⟨x, y'⟩) ∧ l34_0 (y, p.W, p.H, p.C, a.X, a.Y, b.X, b.Y, 64 * a.X + 32, 64 * a.Y + 32, 64 * b.X + 32, 64 * b.Y + 32, ()) = some (.inr ())) ∨
    ((¬ ∀ y', y ≤ y' → y' ≤ mxI a.Y b.Y → ∀ x, mnI a.X b.X ≤ x → x ≤ mxI a.X b.X → onI a b x y' → p.free ⟨x, y'⟩) ∧ l34_0 (y, p.W, p.H, p.C, a.X, a.Y, b.X, b.Y, 64 * a.X + 32, 64 * a.Y + 32, 64 * b.X + 32, 64 * b.Y + 32, ()) = some (.inl (false, ()))) := by
  obtain ⟨⟨x1, x2⟩, y1, y2⟩ := inP_near hp ha
  obtain ⟨⟨x3, x4⟩, y3, y4⟩ := inP_near hp hb
  have hm := mxI_eq a.Y b.Y
  have hmm := mnI_eq a.Y b.Y
  have hmx := mxI_eq a.X b.X
  have hmn := mnI_eq a.X b.X
  have k2 : ∀ a b : Int, (bif decide (b > a) then b else a) = mxI a b := fun _ _ => rfl
  have k3 : ∀ a b : Int, (bif decide (b < a) then b else a) = mnI a b := fun _ _ => rfl
  intro t
  induction t with
  | zero =>
    intro y h0 h1 ht
    left
    refine ⟨fun y' k1 k2 => by omega, ?_⟩
    have c1 : ¬ y ≤ mxI a.Y b.Y := by omega
    have : r34_0 (y, p.W, p.H, p.C, a.X, a.Y, b.X, b.Y, 64 * a.X + 32, 64 * a.Y + 32, 64 * b.X + 32, 64 * b.Y + 32, ()) = some (.inr (.inr ())) := by
      unfold r34_0
      simp only [k2, c1, decide_false, cond_false]
    unfold l34_0
    rw [iterO_eq, this]
  | succ t ih =>
    intro y h0 h1 ht
    have hy : y ≤ mxI a.Y b.Y := by omega
    have hrow := l34_6_spec hp ha hb h0 hy (mxI a.X b.X + 1 - mnI a.X b.X).toNat (mnI a.X b.X) (by omega) (by omega) (by omega)
    have vc : IntKind.i64.wrap (y + 1) = y + 1 := w64 (by omega) (by omega)
    have step : (∀ y', y ≤ y' → y' ≤ mxI a.Y b.Y → ∀ x, mnI a.X b.X ≤ x → x ≤ mxI a.X b.X → onI a b x y' → p.free ⟨x, y'⟩) ↔ (∀ x, mnI a.X b.X ≤ x → x ≤ mxI a.X b.X → onI a b x y → p.free ⟨x, y⟩) ∧ (∀ y', y + 1 ≤ y' → y' ≤ mxI a.Y b.Y → ∀ x, mnI a.X b.X ≤ x → x ≤ mxI a.X b.X → onI a b x y' → p.free ⟨x, y'⟩) := by
      constructor
      · intro h; exact ⟨h y (by omega) hy, fun y' k1 k2 => h y' (by omega) k2⟩
      · rintro ⟨h1, h2⟩ y' k1 k2
        by_cases e : y' = y
        · subst e; exact h1
        · exact h2 y' (by omega) k2
    rw [step]
    have next := ih (y + 1) (by omega) (by omega) (by omega)
    rcases hrow with ⟨r1, r2⟩ | ⟨r1, r2⟩
    · have : r34_0 (y, p.W, p.H, p.C, a.X, a.Y, b.X, b.Y, 64 * a.X + 32, 64 * a.Y + 32, 64 * b.X + 32, 64 * b.Y + 32, ()) = some (.inl (y + 1, p.W, p.H, p.C, a.X, a.Y, b.X, b.Y, 64 * a.X + 32, 64 * a.Y + 32, 64 * b.X + 32, 64 * b.Y + 32, ())) := by
        unfold r34_0
        simp only [k2, k3, hy, decide_true, cond_true, r2, Option.bind_some, Sum.elim_inr, vc]
      unfold l34_0 at next ⊢
      rw [iterO_eq, this]
      simp only [and_iff_right r1]
      exact next
    · right
      have : r34_0 (y, p.W, p.H, p.C, a.X, a.Y, b.X, b.Y, 64 * a.X + 32, 64 * a.Y + 32, 64 * b.X + 32, 64 * b.Y + 32, ()) = some (.inr (.inl (false, ()))) := by
        unfold r34_0
        simp only [k2, k3, hy, decide_true, cond_true, r2, Option.bind_some, Sum.elim_inl]
      refine ⟨fun h => r1 h.1, ?_⟩
      unfold l34_0
      rw [iterO_eq, this]

theorem f34_spec {p : Pl} (hp : p.Ok) (a b : Pt) : ∃ t, f34 (p.W, p.H, p.C, a.X, a.Y, b.X, b.Y, ()) = some (t, ()) ∧ (t = true ↔ p.free a ∧ p.free b ∧ p.vis a b) := by
  have hfew := hp.few
  unfold f34
  simp only [f24_spec (p := p) (by omega), hp.vld, Option.bind_some, Bool.not_true, cond_false, f40_spec hp]
  by_cases ga : p.free a
  · by_cases gb : p.free b
    · obtain ⟨⟨x1, x2⟩, y1, y2⟩ := inP_near hp ga.1
      obtain ⟨⟨x3, x4⟩, y3, y4⟩ := inP_near hp gb.1
      have hm := mxI_eq a.Y b.Y
      have hmn := mnI_eq a.Y b.Y
      have w1 : ∀ n : Int, 0 ≤ n → n < 64 → IntKind.i64.wrap (IntKind.i64.wrap (n * 64) + 32) = 64 * n + 32 := fun n h0 h1 => by
        rw [w64 (n := n * 64) (by omega) (by omega), w64 (by omega) (by omega)]; omega
      have k3 : ∀ a b : Int, (bif decide (b < a) then b else a) = mnI a b := fun _ _ => rfl
      have h := l34_0_spec hp ga.1 gb.1 (mxI a.Y b.Y + 1 - mnI a.Y b.Y).toNat (mnI a.Y b.Y) (by omega) (by omega) (by omega)
      simp only [ga, gb, decide_true, Bool.not_true, cond_false, w1 _ x1 x2, w1 _ x3 x4, w1 _ y1 y2, w1 _ y3 y4, k3, true_and]
      rcases h with ⟨h1, h2⟩ | ⟨h1, h2⟩
      · exact ⟨true, by simp only [h2, Option.bind_some, Sum.elim_inr], fun _ => h1, fun _ => rfl⟩
      · exact ⟨false, by simp only [h2, Option.bind_some, Sum.elim_inl], fun h => (Bool.false_ne_true h).elim, fun h => (h1 h).elim⟩
    · refine ⟨false, ?_, by simp [gb]⟩
      simp only [ga, gb, decide_true, decide_false, Bool.not_true, Bool.not_false, cond_false, cond_true]
  · refine ⟨false, ?_, by simp [ga]⟩
    simp only [ga, decide_false, Bool.not_false, cond_true]
theorem f34_bad {p : Pl} (hl : p.C.length ≤ 1000000) (hv : p.vld = false) (a b x y : Int) : f34 (p.W, p.H, p.C, a, b, x, y, ()) = some (false, ()) := by
  unfold f34
  simp only [f24_spec hl, hv, Option.bind_some, Bool.not_false, cond_true]

end Go.AE
