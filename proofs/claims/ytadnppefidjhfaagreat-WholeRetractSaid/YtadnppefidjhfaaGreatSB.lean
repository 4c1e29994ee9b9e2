/-
  Plain laws of the chapter Segment: spans as sets; Meets and Before.
-/
import Derived.Test.YtadnppefidjhfaaGreatSA
namespace Go.AE
open Go.Proofs Go.RowKit
set_option maxRecDepth 100000

/-! ### Spans as sets -/

theorem vd_le_iff {n d : Int} {t : Rat} (hd : 0 < d) : vd n d ≤ t ↔ (n : Rat) ≤ t * d := by
  have : (0 : Rat) < d := by exact_mod_cast hd
  unfold vd
  rw [← Rat.not_lt, Rat.lt_div_iff this, Rat.not_lt]
theorem le_vd_iff {n d : Int} {t : Rat} (hd : 0 < d) : t ≤ vd n d ↔ t * d ≤ (n : Rat) := by
  have : (0 : Rat) < d := by exact_mod_cast hd
  unfold vd
  rw [← Rat.not_lt, Rat.div_lt_iff this, Rat.not_lt]

/-- At t the coordinate is within the range. -/
def inS (p d a b : Int) (t : Rat) : Prop := (a : Rat) ≤ p + t * d ∧ (p : Rat) + t * d ≤ b

theorem slab_mem {p d a b : Int} {lo hi : Rat} (hl : lo ≤ hi) :
    (∀ t, (lo ≤ t ∧ t ≤ hi ∧ inS p d a b t) ↔ ((slabQ p d a b lo hi).1 = true ∧ (slabQ p d a b lo hi).2.1 ≤ t ∧ t ≤ (slabQ p d a b lo hi).2.2)) ∧
    ((slabQ p d a b lo hi).1 = true → (slabQ p d a b lo hi).2.1 ≤ (slabQ p d a b lo hi).2.2) := by
  by_cases e : d = 0
  · subst e
    have h0 : ∀ t : Rat, inS p 0 a b t ↔ a ≤ p ∧ p ≤ b := by
      intro t
      unfold inS
      rw [show (p : Rat) + t * ((0 : Int) : Rat) = p by grind, Rat.intCast_le_intCast, Rat.intCast_le_intCast]
    simp only [slabQ, if_true, decide_eq_true_eq, h0]
    exact ⟨fun t => by constructor <;> intro h <;> grind, fun _ => hl⟩
  · have key : ∃ L H : Rat, (∀ t, inS p d a b t ↔ L ≤ t ∧ t ≤ H) ∧ slabQ p d a b lo hi = (!decide ((if H < hi then H else hi) < (if lo < L then L else lo)), (if lo < L then L else lo), (if H < hi then H else hi)) := by
      by_cases e2 : d < 0
      · refine ⟨vd (p - b) (-d), vd (p - a) (-d), fun t => ?_, ?_⟩
        · rw [vd_le_iff (by omega), le_vd_iff (by omega)]
          unfold inS
          rw [Rat.intCast_sub, Rat.intCast_sub, Rat.intCast_neg]
          grind
        · unfold slabQ
          rw [if_neg e]
          simp [e2]
      · refine ⟨vd (a - p) d, vd (b - p) d, fun t => ?_, ?_⟩
        · rw [vd_le_iff (by omega), le_vd_iff (by omega)]
          unfold inS
          rw [Rat.intCast_sub, Rat.intCast_sub]
          grind
        · unfold slabQ
          rw [if_neg e]
          simp [e2]
    obtain ⟨L, H, h1, h2⟩ := key
    rw [h2]
    simp only [h1, Bool.not_eq_true', decide_eq_false_iff_not]
    exact ⟨fun t => by constructor <;> intro h <;> grind, fun h => Rat.not_lt.1 h⟩

/-- At t the ray is in the rectangle. -/
def inR (px py x y a b c e : Int) (t : Rat) : Prop := 0 ≤ t ∧ t ≤ 8388608 ∧ inS px x a c t ∧ inS py y b e t

def okR (px py x y d a b c e : Int) : Prop := (nr px ∧ nr py) ∧ VV x y d ∧ VR a b c e

theorem thru_some {px py x y d a b c e : Int} {l h : Rat} (hk : thruQ px py x y d a b c e = some (l, h)) : okR px py x y d a b c e ∧ l ≤ h ∧ ∀ t, inR px py x y a b c e t ↔ l ≤ t ∧ t ≤ h := by
  refine ⟨?_, (thruQ_lo hk).2.1, ?_⟩
  · unfold thruQ at hk
    split at hk
    · assumption
    · cases hk
  · unfold thruQ at hk
    split at hk
    · split at hk
      · rename_i h1
        simp only at hk
        split at hk
        · rename_i h2
          have hk := Option.some.inj hk
          have hl : (slabQ py y b e (slabQ px x a c 0 8388608).2.1 (slabQ px x a c 0 8388608).2.2).2.1 = l := congrArg Prod.fst hk
          have hh : (slabQ py y b e (slabQ px x a c 0 8388608).2.1 (slabQ px x a c 0 8388608).2.2).2.2 = h := congrArg Prod.snd hk
          obtain ⟨m1, m2⟩ := slab_mem (p := px) (d := x) (a := a) (b := c) (lo := 0) (hi := 8388608) (by decide)
          obtain ⟨k1, k2⟩ := slab_mem (p := py) (d := y) (a := b) (b := e) (m2 h1)
          intro t
          have m := m1 t
          have k := k1 t
          rw [hl, hh] at k
          unfold inR
          simp only [h1, h2, true_and] at m k
          constructor
          · rintro ⟨q1, q2, q3, q4⟩
            obtain ⟨r1, r2⟩ := m.1 ⟨q1, q2, q3⟩
            exact k.1 ⟨r1, r2, q4⟩
          · intro q
            obtain ⟨r1, r2, r3⟩ := k.2 q
            obtain ⟨r4, r5, r7⟩ := m.2 ⟨r1, r2⟩
            exact ⟨r4, r5, r7, r3⟩
        · cases hk
      · cases hk
    · cases hk

theorem thru_none {px py x y d a b c e : Int} (hk : thruQ px py x y d a b c e = none) (hv : okR px py x y d a b c e) (t : Rat) : ¬ inR px py x y a b c e t := by
  unfold thruQ at hk
  rw [if_pos (show (nr px ∧ nr py) ∧ VV x y d ∧ VR a b c e from hv)] at hk
  obtain ⟨m1, m2⟩ := slab_mem (p := px) (d := x) (a := a) (b := c) (lo := 0) (hi := 8388608) (by decide)
  rintro ⟨q1, q2, q3, q4⟩
  obtain ⟨r0, r1, r2⟩ := (m1 t).1 ⟨q1, q2, q3⟩
  rw [if_pos r0] at hk
  simp only at hk
  obtain ⟨k1, k2⟩ := slab_mem (p := py) (d := y) (a := b) (b := e) (m2 r0)
  obtain ⟨s0, _⟩ := (k1 t).1 ⟨r1, r2, q4⟩
  rw [if_pos s0] at hk
  cases hk

/-- Rays and rectangles with the same times have the same span. -/
theorem thru_congr {px py x y d a b c e px' py' x' y' d' a' b' c' e' : Int} (hv : okR px py x y d a b c e ↔ okR px' py' x' y' d' a' b' c' e') (ht : ∀ t, inR px py x y a b c e t ↔ inR px' py' x' y' a' b' c' e' t) :
    thruQ px py x y d a b c e = thruQ px' py' x' y' d' a' b' c' e' := by
  cases h : thruQ px py x y d a b c e with
  | none =>
    cases h' : thruQ px' py' x' y' d' a' b' c' e' with
    | none => rfl
    | some q =>
      obtain ⟨l, u⟩ := q
      obtain ⟨g1, g2, g3⟩ := thru_some h'
      exact (thru_none h (hv.2 g1) l ((ht l).2 ((g3 l).2 ⟨Rat.le_refl, g2⟩))).elim
  | some q =>
    obtain ⟨l, u⟩ := q
    obtain ⟨g1, g2, g3⟩ := thru_some h
    cases h' : thruQ px' py' x' y' d' a' b' c' e' with
    | none => exact (thru_none h' (hv.1 g1) l ((ht l).1 ((g3 l).2 ⟨Rat.le_refl, g2⟩))).elim
    | some q =>
      obtain ⟨l', u'⟩ := q
      obtain ⟨k1, k2, k3⟩ := thru_some h'
      have e1 := (k3 l).1 ((ht l).1 ((g3 l).2 ⟨Rat.le_refl, g2⟩))
      have e2 := (k3 u).1 ((ht u).1 ((g3 u).2 ⟨g2, Rat.le_refl⟩))
      have e3 := (g3 l').1 ((ht l').2 ((k3 l').2 ⟨Rat.le_refl, k2⟩))
      have e4 := (g3 u').1 ((ht u').2 ((k3 u').2 ⟨k2, Rat.le_refl⟩))
      have : l = l' := Rat.le_antisymm e3.1 e1.1
      have : u = u' := Rat.le_antisymm e2.2 e4.2
      subst_vars
      rfl

theorem inS_move {p d a b s : Int} {t : Rat} : inS (p + s) d (a + s) (b + s) t ↔ inS p d a b t := by
  unfold inS
  rw [Rat.intCast_add, Rat.intCast_add, Rat.intCast_add]
  grind

/-! ### Meets and Before -/

noncomputable def meetsQ (T : Option (Rat × Rat)) (d lo hi : Int) : Bool := match T with
  | none => false
  | some (l, h) => decide (0 ≤ lo ∧ lo ≤ hi ∧ hi ≤ 65536) && (decide ((lo : Rat) ≤ h * d) && decide (l * d ≤ hi))
noncomputable def beforeQ (T : Option (Rat × Rat)) (d hi : Int) : Bool := match T with
  | none => false
  | some (l, _) => decide (0 ≤ hi ∧ hi ≤ 65536) && decide (l * d < hi)

theorem le_mul_iff {n d D m : Int} (hd : 0 < d) : m * d ≤ n * D ↔ (m : Rat) ≤ vd n d * D := by
  rw [← vd_mul, le_vd_iff hd, ← Rat.intCast_mul, Rat.intCast_le_intCast]
theorem mul_le_iff {n d D m : Int} (hd : 0 < d) : n * D ≤ m * d ↔ vd n d * D ≤ (m : Rat) := by
  rw [← vd_mul, vd_le_iff hd, ← Rat.intCast_mul, Rat.intCast_le_intCast]
theorem mul_lt_iff {n d D m : Int} (hd : 0 < d) : n * D < m * d ↔ vd n d * D < (m : Rat) := by
  rw [← Int.not_le, le_mul_iff hd, Rat.not_le]

theorem f81_sg (px py x y d lo hi a b c e : Int) : f81 (px, py, x, y, d, lo, hi, a, b, c, e, ()) = some (meetsQ (thruQ px py x y d a b c e) d lo hi, ()) := by
  unfold f81
  simp only
  have hout : ∀ T, ¬(0 ≤ lo ∧ lo ≤ hi ∧ hi ≤ 65536) → meetsQ T d lo hi = false := by
    intro T h
    unfold meetsQ
    split
    · rfl
    · simp [h]
  by_cases e1 : lo < 0
  · rw [hout _ (by omega)]; simp [e1]
  by_cases e2 : hi < lo
  · rw [hout _ (by omega)]; simp [e2]
  by_cases e3 : hi > 65536
  · rw [hout _ (by omega)]; simp [e3]
  simp only [e1, e2, e3, decide_false, cond_false]
  rcases f97_sg px py x y d a b c e with ⟨h1, h2⟩ | ⟨l1, l2, k1, k2, h1, h2, h3, h4⟩
  · rw [h1, h2]; rfl
  · rw [h1, h4]
    obtain ⟨_, _, V⟩ := thruQ_lo h1
    have := V.d1
    have := V.d2
    have := h2.d1
    have := h2.d2
    have := h3.d1
    have := h3.d2
    have m1 := mulb (a := lo) (b := k2) (A := 65536) (B := 67108864) (by omega) (by omega) (by omega) (by omega)
    have m2 := mulb (a := k1) (b := d) (A := 8388608) (B := 67108864) h3.n1 h3.n2 (by omega) (by omega)
    have m3 := mulb (a := l1) (b := d) (A := 8388608) (B := 67108864) h2.n1 h2.n2 (by omega) (by omega)
    have m4 := mulb (a := hi) (b := l2) (A := 65536) (B := 67108864) (by omega) (by omega) (by omega) (by omega)
    simp only [Option.bind_some, cond_true]
    rw [w64 (by omega) (by omega), w64 (by omega) (by omega), w64 (by omega) (by omega), w64 (by omega) (by omega)]
    simp only [meetsQ]
    rw [show decide (0 ≤ lo ∧ lo ≤ hi ∧ hi ≤ 65536) = true by simp; omega]
    rw [decide_eq_decide.2 (le_mul_iff (n := k1) (d := k2) (D := d) (m := lo) (by omega)), decide_eq_decide.2 (mul_le_iff (n := l1) (d := l2) (D := d) (m := hi) (by omega))]
    cases decide ((lo : Rat) ≤ vd k1 k2 * d) <;> rfl

theorem num_le {q : Rat} {m : Int} : q.num ≤ m * (q.den : Int) ↔ q ≤ (m : Rat) := by
  rw [Rat.le_iff]; simp
theorem num_lt {q : Rat} {m : Int} : q.num < m * (q.den : Int) ↔ q < (m : Rat) := by
  rw [Rat.lt_iff]; simp
theorem le_num {q : Rat} {m : Int} : m * (q.den : Int) ≤ q.num ↔ (m : Rat) ≤ q := by
  rw [Rat.le_iff]; simp

theorem thru_den {px py x y d a b c e : Int} {l h : Rat} (hk : thruQ px py x y d a b c e = some (l, h)) :
    (0 ≤ (l * d).num ∧ 1 ≤ ((l * d).den : Int) ∧ ((l * d).den : Int) ≤ 67108864) ∧ (0 ≤ (h * d).num ∧ 1 ≤ ((h * d).den : Int) ∧ ((h * d).den : Int) ≤ 67108864) := by
  obtain ⟨g1, g2, V⟩ := thruQ_lo hk
  rcases f97_sg px py x y d a b c e with ⟨h1, h2⟩ | ⟨l1, l2, k1, k2, h1, h2, h3, h4⟩
  · rw [hk] at h1; cases h1
  · rw [hk] at h1
    have h1 := Option.some.inj h1
    have hl : l = vd l1 l2 := congrArg Prod.fst h1
    have hh : h = vd k1 k2 := congrArg Prod.snd h1
    subst hl; subst hh
    rw [← vd_mul, ← vd_mul]
    have n1 : 0 ≤ l1 := (vd_nonneg (by have := h2.d1; omega)).1 g1
    have n2 : 0 ≤ k1 := (vd_nonneg (by have := h3.d1; omega)).1 (Rat.le_trans g1 g2)
    obtain ⟨a1, a2, a3, a4⟩ := num_bd (n := l1 * d) (d := l2) (by have := h2.d1; omega) (Int.mul_nonneg n1 (by have := V.d1; omega))
    obtain ⟨b1, b2, b3, b4⟩ := num_bd (n := k1 * d) (d := k2) (by have := h3.d1; omega) (Int.mul_nonneg n2 (by have := V.d1; omega))
    have := h2.d2
    have := h3.d2
    exact ⟨⟨a1, a4, by omega⟩, b1, b4, by omega⟩

end Go.AE
