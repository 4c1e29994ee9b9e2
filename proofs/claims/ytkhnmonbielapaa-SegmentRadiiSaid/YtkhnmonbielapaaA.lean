/-
  Plain laws of the chapter Segment: where a ray is in a rectangle; lowest terms; the reference and the program agree.
-/
import Derived.Test.YtkhnmonbielapaaF
import Derived.IntWalk
namespace Go.AE
open Go.Proofs Go.RowKit
set_option maxRecDepth 100000

theorem w64 {n : Int} (h1 : -9223372036854775808 ≤ n) (h2 : n ≤ 9223372036854775807) : IntKind.i64.wrap n = n := by
  rw [IntKind.wrap_i64]; omega

theorem mulb {a b A B : Int} (ha1 : -A ≤ a) (ha2 : a ≤ A) (hb1 : -B ≤ b) (hb2 : b ≤ B) : -(A * B) ≤ a * b ∧ a * b ≤ A * B := by
  have hA : a.natAbs ≤ A.natAbs := by omega
  have hB : b.natAbs ≤ B.natAbs := by omega
  have h := Nat.mul_le_mul hA hB
  rw [← Int.natAbs_mul, ← Int.natAbs_mul] at h
  have hp : 0 ≤ A * B := Int.mul_nonneg (by omega) (by omega)
  omega

/-- The number n/d. -/
def vd (n d : Int) : Rat := (n : Rat) / (d : Rat)

theorem vd_lt {a b c d : Int} (hb : 0 < b) (hd : 0 < d) : vd a b < vd c d ↔ a * d < c * b := by
  have h1 : (0 : Rat) < b := by exact_mod_cast hb
  have h2 : (0 : Rat) < d := by exact_mod_cast hd
  unfold vd
  rw [Rat.div_lt_iff h1, ← Rat.intCast_lt_intCast (a := a * d)]
  have : (c : Rat) / d * b = (c * b) / d := by grind
  rw [this, Rat.lt_div_iff h2]
  push_cast
  rfl

structure FB (n d : Int) : Prop where
  n1 : -8388608 ≤ n
  n2 : n ≤ 8388608
  d1 : 1 ≤ d
  d2 : d ≤ 67108864

theorem f60_spec {a b c d : Int} (h : FB a b) (k : FB c d) : f60 a b c d = decide (vd a b < vd c d) := by
  unfold f60
  have := mulb (A := 8388608) (B := 67108864) h.n1 h.n2 (by have := k.d1; omega) k.d2
  have := mulb (A := 8388608) (B := 67108864) k.n1 k.n2 (by have := h.d1; omega) h.d2
  rw [w64 (by omega) (by omega), w64 (by omega) (by omega)]
  rw [decide_eq_decide, vd_lt (by have := h.d1; omega) (by have := k.d1; omega)]

/-- A span narrowed to where a coordinate that begins at p and grows by d is from a to b. -/
def slabQ (p d a b : Int) (lo hi : Rat) : Bool × Rat × Rat :=
  if d = 0 then (decide (a ≤ p ∧ p ≤ b), lo, hi)
  else
    let l : Rat := if d < 0 then vd (p - b) (-d) else vd (a - p) d
    let h : Rat := if d < 0 then vd (p - a) (-d) else vd (b - p) d
    let lo' := if lo < l then l else lo
    let hi' := if h < hi then h else hi
    (!decide (hi' < lo'), lo', hi')

theorem j55_spec {l1 l2 h1 h2 a1 a2 b1 b2 : Int} (k1 : FB l1 l2) (k2 : FB h1 h2) (k3 : FB a1 a2) (k4 : FB b1 b2) :
    ∃ ok c1 c2 d1 d2, j55_19 (l1, l2, h1, h2, a1, a2, b1, b2, ()) = some (ok, c1, c2, d1, d2, ()) ∧ FB c1 c2 ∧ FB d1 d2 ∧
      vd c1 c2 = (if vd l1 l2 < vd a1 a2 then vd a1 a2 else vd l1 l2) ∧ vd d1 d2 = (if vd b1 b2 < vd h1 h2 then vd b1 b2 else vd h1 h2) ∧ ok = !decide (vd d1 d2 < vd c1 c2) := by
  unfold j55_19 j55_25 j55_31
  simp only [Option.bind_some, f60_spec k1 k3, f60_spec k4 k2]
  by_cases e1 : vd l1 l2 < vd a1 a2 <;> by_cases e2 : vd b1 b2 < vd h1 h2 <;> simp only [e1, e2, decide_true, decide_false, cond_true, cond_false, if_true, if_false]
  · exact ⟨_, _, _, _, _, rfl, k3, k4, rfl, rfl, by rw [f60_spec k4 k3]⟩
  · exact ⟨_, _, _, _, _, rfl, k3, k2, rfl, rfl, by rw [f60_spec k2 k3]⟩
  · exact ⟨_, _, _, _, _, rfl, k1, k4, rfl, rfl, by rw [f60_spec k4 k1]⟩
  · exact ⟨_, _, _, _, _, rfl, k1, k2, rfl, rfl, by rw [f60_spec k2 k1]⟩

/-- Within the line's coordinates. -/
def nr (n : Int) : Prop := -2097152 ≤ n ∧ n ≤ 2097152

theorem f55_spec {p d a b l1 l2 h1 h2 : Int} (hp : nr p) (ha : nr a) (hb : nr b) (hd1 : -67108864 ≤ d) (hd2 : d ≤ 67108864) (k1 : FB l1 l2) (k2 : FB h1 h2) :
    ∃ ok c1 c2 d1 d2, f55 (p, d, a, b, l1, l2, h1, h2, ()) = some (ok, c1, c2, d1, d2, ()) ∧ FB c1 c2 ∧ FB d1 d2 ∧ slabQ p d a b (vd l1 l2) (vd h1 h2) = (ok, vd c1 c2, vd d1 d2) := by
  unfold nr at hp ha hb
  unfold f55 slabQ
  by_cases e : d = 0
  · subst e
    simp only [beq_self_eq_true, cond_true, if_true]
    by_cases e2 : a ≤ p
    · exact ⟨decide (p ≤ b), _, _, _, _, by simp [e2], k1, k2, by simp [e2]⟩
    · exact ⟨false, _, _, _, _, by simp [e2], k1, k2, by simp [e2]⟩
  · simp only [beq_eq_false_iff_ne.2 e, cond_false, if_neg e]
    by_cases e2 : d < 0
    · simp only [e2, decide_true, cond_true, if_true]
      rw [w64 (by omega) (by omega), w64 (n := 0 - d) (by omega) (by omega), w64 (by omega) (by omega), Int.zero_sub]
      obtain ⟨ok, c1, c2, d1, d2, g1, g2, g3, g4, g5, g6⟩ := j55_spec k1 k2 (a1 := p - b) (a2 := -d) (b1 := p - a) (b2 := -d) ⟨by omega, by omega, by omega, by omega⟩ ⟨by omega, by omega, by omega, by omega⟩
      rw [g1]
      exact ⟨_, _, _, _, _, rfl, g2, g3, by rw [g6, g4, g5]⟩
    · simp only [e2, decide_false, cond_false, if_false]
      rw [w64 (by omega) (by omega), w64 (by omega) (by omega)]
      obtain ⟨ok, c1, c2, d1, d2, g1, g2, g3, g4, g5, g6⟩ := j55_spec k1 k2 (a1 := a - p) (a2 := d) (b1 := b - p) (b2 := d) ⟨by omega, by omega, by omega, by omega⟩ ⟨by omega, by omega, by omega, by omega⟩
      rw [g1]
      exact ⟨_, _, _, _, _, rfl, g2, g3, by rw [g6, g4, g5]⟩

structure VV (x y d : Int) : Prop where
  d1 : 1 ≤ d
  d2 : d ≤ 67108864
  x1 : -d ≤ x
  x2 : x ≤ d
  y1 : -d ≤ y
  y2 : y ≤ d
  sq : x * x + y * y = d * d
structure VR (x0 y0 x1 y1 : Int) : Prop where
  a : nr x0
  b : nr y0
  c : nr x1
  d : nr y1
  x : x0 ≤ x1
  y : y0 ≤ y1

theorem f39_spec (n : Int) : f39 n = true ↔ nr n := by
  unfold f39 nr; simp
theorem f41_spec (x y : Int) : f41 x y = true ↔ nr x ∧ nr y := by
  unfold f41
  rw [← f39_spec, ← f39_spec]
  cases f39 x <;> simp
theorem f17_spec (a b c d : Int) : f17 a b c d = true ↔ VR a b c d := by
  have h : VR a b c d ↔ nr a ∧ nr b ∧ nr c ∧ nr d ∧ a ≤ c ∧ b ≤ d := ⟨fun h => ⟨h.a, h.b, h.c, h.d, h.x, h.y⟩, fun ⟨h1, h2, h3, h4, h5, h6⟩ => ⟨h1, h2, h3, h4, h5, h6⟩⟩
  rw [h]
  unfold f17
  rw [← f39_spec, ← f39_spec, ← f39_spec, ← f39_spec]
  cases f39 a <;> cases f39 b <;> cases f39 c <;> cases f39 d <;> simp
theorem f19_spec {n m : Int} (h : 0 ≤ m ∧ m ≤ 9223372036854775807) : f19 n m = true ↔ -m ≤ n ∧ n ≤ m := by
  unfold f19
  rw [w64 (by omega) (by omega), Int.zero_sub]
  simp
theorem f43_spec (x y : Int) : f43 x y = true ↔ nr x ∧ nr y := by
  unfold f43 nr
  rw [← f19_spec (by omega), ← f19_spec (by omega)]
  cases f19 x 2097152 <;> simp
theorem f40_spec (a b c d : Int) : f40 a b c d = true ↔ VR a b c d := by
  have h : VR a b c d ↔ nr a ∧ nr b ∧ nr c ∧ nr d ∧ a ≤ c ∧ b ≤ d := ⟨fun h => ⟨h.a, h.b, h.c, h.d, h.x, h.y⟩, fun ⟨h1, h2, h3, h4, h5, h6⟩ => ⟨h1, h2, h3, h4, h5, h6⟩⟩
  rw [h]
  unfold f40 nr
  simp only [Bool.cond_decide]
  constructor
  · intro g; repeat' split at g
    all_goals simp at g
    omega
  · intro g; repeat' split
    all_goals simp
    all_goals omega
theorem sq_wrap {x y d : Int} (h0 : 1 ≤ d) (h1 : d ≤ 67108864) (hx1 : -d ≤ x) (hx2 : x ≤ d) (hy1 : -d ≤ y) (hy2 : y ≤ d) :
    (IntKind.i64.wrap (IntKind.i64.wrap (x * x) + IntKind.i64.wrap (y * y)) == IntKind.i64.wrap (d * d)) = decide (x * x + y * y = d * d) := by
  have h2 := mulb (a := x) (b := x) (A := 67108864) (B := 67108864) (by omega) (by omega) (by omega) (by omega)
  have h3 := mulb (a := y) (b := y) (A := 67108864) (B := 67108864) (by omega) (by omega) (by omega) (by omega)
  have h4 := mulb (a := d) (b := d) (A := 67108864) (B := 67108864) (by omega) (by omega) (by omega) (by omega)
  rw [w64 (n := x * x) (by omega) (by omega), w64 (n := y * y) (by omega) (by omega), w64 (n := d * d) (by omega) (by omega), w64 (by omega) (by omega)]
  rw [Bool.eq_iff_iff]; simp
theorem f54_spec (x y d : Int) : f54 x y d = true ↔ VV x y d := by
  have h : VV x y d ↔ 1 ≤ d ∧ d ≤ 67108864 ∧ -d ≤ x ∧ x ≤ d ∧ -d ≤ y ∧ y ≤ d ∧ x * x + y * y = d * d := ⟨fun h => ⟨h.1, h.2, h.3, h.4, h.5, h.6, h.7⟩, fun ⟨h1, h2, h3, h4, h5, h6, h7⟩ => ⟨h1, h2, h3, h4, h5, h6, h7⟩⟩
  rw [h]
  unfold f54
  by_cases e1 : d < 1
  · simp [e1]; omega
  by_cases e2 : d > 67108864
  · simp [e2]; omega
  rw [w64 (by omega) (by omega), Int.zero_sub]
  by_cases e3 : x < -d
  · simp [e3]; omega
  by_cases e4 : x > d
  · simp [e4]; omega
  by_cases e5 : y < -d
  · simp [e5]; omega
  by_cases e6 : y > d
  · simp [e6]; omega
  rw [sq_wrap (by omega) (by omega) (by omega) (by omega) (by omega) (by omega)]
  simp only [e1, e2, e3, e4, e5, e6, decide_false, cond_false, decide_eq_true_eq]
  exact ⟨fun h => ⟨by omega, by omega, by omega, by omega, by omega, by omega, h⟩, fun h => h.2.2.2.2.2.2⟩
theorem f56_spec (x y d : Int) : f56 x y d = true ↔ VV x y d := by
  have h : VV x y d ↔ 1 ≤ d ∧ d ≤ 67108864 ∧ -d ≤ x ∧ x ≤ d ∧ -d ≤ y ∧ y ≤ d ∧ x * x + y * y = d * d := ⟨fun h => ⟨h.1, h.2, h.3, h.4, h.5, h.6, h.7⟩, fun ⟨h1, h2, h3, h4, h5, h6, h7⟩ => ⟨h1, h2, h3, h4, h5, h6, h7⟩⟩
  rw [h]
  unfold f56
  by_cases e1 : d ≥ 1
  · by_cases e2 : d ≤ 67108864
    · simp only [e1, e2, decide_true, cond_true]
      have a := f19_spec (n := x) (m := d) (by omega)
      have b := f19_spec (n := y) (m := d) (by omega)
      cases hx : f19 x d
      · have a' : ¬(-d ≤ x ∧ x ≤ d) := fun h => by rw [a.2 h] at hx; cases hx
        exact ⟨(fun h => by cases h), fun h => (a' ⟨h.2.2.1, h.2.2.2.1⟩).elim⟩
      · cases hy : f19 y d
        · have b' : ¬(-d ≤ y ∧ y ≤ d) := fun h => by rw [b.2 h] at hy; cases hy
          exact ⟨(fun h => by cases h), fun h => (b' ⟨h.2.2.2.2.1, h.2.2.2.2.2.1⟩).elim⟩
        · have a := a.1 hx
          have b := b.1 hy
          rw [cond_true, cond_true, sq_wrap (by omega) (by omega) (by omega) (by omega) (by omega) (by omega), decide_eq_true_eq]
          exact ⟨fun h => ⟨trivial, trivial, a.1, a.2, b.1, b.2, h⟩, fun h => h.2.2.2.2.2.2⟩
    · simp [e1, e2]
  · simp [e1]
theorem f36_spec (px py x y d a b c e : Int) : f36 px py x y d a b c e = true ↔ (nr px ∧ nr py) ∧ VV x y d ∧ VR a b c e := by
  unfold f36
  rw [← f43_spec, ← f56_spec, ← f40_spec]
  cases f43 px py <;> cases f56 x y d <;> simp
/-- The numbers t at which a ray is in a rectangle. -/
noncomputable def thruQ (px py x y d a b c e : Int) : Option (Rat × Rat) := open Classical in
  if (nr px ∧ nr py) ∧ VV x y d ∧ VR a b c e then
    if (slabQ px x a c 0 8388608).1 = true then
      let s := slabQ px x a c 0 8388608
      if (slabQ py y b e s.2.1 s.2.2).1 = true then some (slabQ py y b e s.2.1 s.2.2).2 else none
    else none
  else none

theorem f34_spec (px py x y d a b c e : Int) : (thruQ px py x y d a b c e = none ∧ f34 (px, py, x, y, d, a, b, c, e, ()) = some (0, 0, 0, 0, false, ())) ∨
    ∃ l1 l2 h1 h2, thruQ px py x y d a b c e = some (vd l1 l2, vd h1 h2) ∧ FB l1 l2 ∧ FB h1 h2 ∧ f34 (px, py, x, y, d, a, b, c, e, ()) = some (l1, l2, h1, h2, true, ()) := by
  unfold f34 thruQ
  simp only
  by_cases e1 : nr px ∧ nr py
  · rw [(f41_spec px py).2 e1]
    by_cases e2 : VV x y d
    · rw [(f54_spec x y d).2 e2]
      by_cases e3 : VR a b c e
      · rw [(f17_spec a b c e).2 e3]
        simp only [Bool.not_true, cond_false, if_pos (And.intro e1 (And.intro e2 e3))]
        have k0 : FB 0 1 := ⟨by omega, by omega, by omega, by omega⟩
        have k1 : FB 8388608 1 := ⟨by omega, by omega, by omega, by omega⟩
        have v0 : vd 0 1 = 0 := by unfold vd; grind
        have v1 : vd 8388608 1 = 8388608 := by unfold vd; grind
        obtain ⟨ok, c1, c2, d1, d2, g1, g2, g3, g4⟩ := f55_spec e1.1 e3.a e3.c (d := x) (by have := e2.x1; have := e2.d2; omega) (by have := e2.x2; have := e2.d2; omega) k0 k1
        rw [v0, v1] at g4
        rw [g1, g4]
        simp only [Option.bind_some]
        cases ok with
        | false => left; simp
        | true =>
          obtain ⟨ok, c1, c2, d1, d2, q1, q2, q3, q4⟩ := f55_spec e1.2 e3.b e3.d (d := y) (by have := e2.y1; have := e2.d2; omega) (by have := e2.y2; have := e2.d2; omega) g2 g3
          simp only [if_true, Bool.not_true, cond_false]
          rw [q1, q4]
          simp only [Option.bind_some]
          cases ok with
          | false => left; simp
          | true => right; exact ⟨c1, c2, d1, d2, by simp, q2, q3, by simp⟩
      · left
        rw [if_neg (fun h => e3 h.2.2)]
        have : f17 a b c e = false := by rw [Bool.eq_false_iff]; exact fun h => e3 ((f17_spec _ _ _ _).1 h)
        rw [this]; exact ⟨rfl, rfl⟩
    · left
      rw [if_neg (fun h => e2 h.2.1)]
      have : f54 x y d = false := by rw [Bool.eq_false_iff]; exact fun h => e2 ((f54_spec _ _ _).1 h)
      rw [this]; exact ⟨rfl, rfl⟩
  · left
    rw [if_neg (fun h => e1 h.1)]
    have : f41 px py = false := by rw [Bool.eq_false_iff]; exact fun h => e1 ((f41_spec _ _).1 h)
    rw [this]; exact ⟨rfl, rfl⟩

/-! ### Lowest terms -/

theorem tmod_gcd {a b : Int} (ha : 0 ≤ a) (hb : 0 < b) : 0 ≤ a.tmod b ∧ a.tmod b < b ∧ Int.gcd b (a.tmod b) = Int.gcd a b := by
  rw [Int.tmod_eq_emod_of_nonneg ha]
  refine ⟨Int.emod_nonneg _ (by omega), Int.emod_lt_of_pos _ hb, ?_⟩
  obtain ⟨m, rfl⟩ := Int.eq_ofNat_of_zero_le ha
  obtain ⟨n, rfl⟩ := Int.eq_ofNat_of_zero_le (Int.le_of_lt hb)
  rw [← Int.natCast_emod, Int.gcd_natCast_natCast, Int.gcd_natCast_natCast, Nat.gcd_comm n, ← Nat.gcd_rec, Nat.gcd_comm]

theorem l35_spec (n d z w : Int) : ∀ (b a : Int), 0 ≤ a → 0 ≤ b → iterO r35_0 (n, d, a, b, z, w, ()) = some (n, d, (Int.gcd a b : Int), z, w, ()) := by
  intro b a ha hb
  obtain ⟨y, h1, h2⟩ := iterO_rule (f := r35_0) (fun s => s.1 = n ∧ s.2.1 = d ∧ 0 ≤ s.2.2.1 ∧ 0 ≤ s.2.2.2.1 ∧ s.2.2.2.2 = (z, w, ())) (fun s => s.2.2.2.1.toNat)
    (fun s y => y = (n, d, (Int.gcd s.2.2.1 s.2.2.2.1 : Int), z, w, ())) (by
    rintro ⟨n', d', a, b, z', w', u⟩ ⟨rfl, rfl, h3, h4, h5⟩
    cases h5
    simp only at h3 h4
    by_cases hb : b = 0
    · subst hb
      right
      refine ⟨_, rfl, ?_⟩
      simp
      omega
    · left
      obtain ⟨q1, q2, q3⟩ := tmod_gcd h3 (b := b) (by omega)
      refine ⟨(n', d', b, a.tmod b, z, w, ()), ?_, ⟨rfl, rfl, by simp only; omega, q1, rfl⟩, by simp only; omega, fun y hy => ?_⟩
      · unfold r35_0
        have hb2 : (b == 0) = false := by simp [hb]
        simp [bne, hb2]
      · simp only at hy ⊢
        rw [hy, q3]) (n, d, a, b, z, w, ()) ⟨rfl, rfl, ha, hb, rfl⟩
  rw [h1, h2]

theorem l58_spec : ∀ (b a : Int), 0 ≤ a → 0 ≤ b → iterO r58_0 (a, b, ()) = some ((Int.gcd a b : Int), ()) := by
  intro b a ha hb
  obtain ⟨y, h1, h2⟩ := iterO_rule (f := r58_0) (fun s => 0 ≤ s.1 ∧ 0 ≤ s.2.1) (fun s => s.2.1.toNat)
    (fun s y => y = ((Int.gcd s.1 s.2.1 : Int), ())) (by
    rintro ⟨a, b, u⟩ ⟨h3, h4⟩
    simp only at h3 h4
    by_cases hb : b = 0
    · subst hb
      right
      refine ⟨_, rfl, ?_⟩
      simp
      omega
    · left
      obtain ⟨q1, q2, q3⟩ := tmod_gcd h3 (b := b) (by omega)
      refine ⟨(b, a.tmod b, ()), ?_, ⟨by simp only; omega, q1⟩, by simp only; omega, fun y hy => ?_⟩
      · unfold r58_0
        have hb2 : (b == 0) = false := by simp [hb]
        simp [hb2, show b > 0 by omega]
      · simp only at hy ⊢
        rw [hy, q3]) (a, b, ()) ⟨ha, hb⟩
  rw [h1, h2]

/-- n/d in lowest terms. -/
theorem lowest {n d : Int} (hd : 0 < d) (hn : 0 ≤ n) : n.tdiv (Int.gcd n d) = (vd n d).num ∧ d.tdiv (Int.gcd n d) = ((vd n d).den : Int) := by
  have hv : vd n d = Rat.divInt n d := by unfold vd; rw [Rat.divInt_eq_div]
  have hs : d.sign = 1 := Int.sign_eq_one_of_pos hd
  rw [hv, Rat.num_divInt, Rat.den_divInt, hs, Int.one_mul, Int.gcd_comm d n]
  have hg : (0 : Int) < Int.gcd n d := by
    have : Int.gcd n d ≠ 0 := fun h => by have := (Int.gcd_eq_zero_iff.1 h).2; omega
    omega
  rw [Int.tdiv_eq_ediv_of_nonneg hn, Int.tdiv_eq_ediv_of_nonneg (by omega)]
  refine ⟨rfl, ?_⟩
  rw [if_neg (by omega)]
  have : (d.natAbs : Int) = d := by omega
  rw [Int.natCast_ediv, this]

theorem gcd_bd {n d : Int} (hd : 0 < d) : 0 < (Int.gcd n d : Int) ∧ (Int.gcd n d : Int) ≤ d := by
  have h1 : Int.gcd n d ≠ 0 := fun h => by have := (Int.gcd_eq_zero_iff.1 h).2; omega
  have h2 : (Int.gcd n d : Int) ∣ d := Int.gcd_dvd_right ..
  exact ⟨by omega, Int.le_of_dvd hd h2⟩

theorem num_bd {n d : Int} (hd : 0 < d) (hn : 0 ≤ n) : 0 ≤ (vd n d).num ∧ (vd n d).num ≤ n ∧ ((vd n d).den : Int) ≤ d ∧ 1 ≤ ((vd n d).den : Int) := by
  obtain ⟨h1, h2⟩ := lowest hd hn
  obtain ⟨g1, g2⟩ := gcd_bd (n := n) hd
  rw [← h1, ← h2]
  refine ⟨Int.tdiv_nonneg hn (by omega), Int.tdiv_le_self _ hn, Int.tdiv_le_self _ (by omega), ?_⟩
  rw [h2]
  have := (vd n d).den_pos
  omega

/-- The distance at a parameter. -/
theorem f35_spec {n d x y D : Int} (h : FB n d) (hn : 0 ≤ n) (hD : VV x y D) : f35 (n, d, x, y, D, ()) = some ((vd (n * D) d).num, ((vd (n * D) d).den : Int), ()) := by
  have := mulb (A := 8388608) (B := 67108864) h.n1 h.n2 (b := D) (by have := hD.d1; omega) hD.d2
  have hd := h.d1
  have hd2 := h.d2
  have hnn : 0 ≤ n * D := Int.mul_nonneg hn (by have := hD.d1; omega)
  unfold f35 j35_22
  simp only [l35_0]
  rw [w64 (by omega) (by omega), l35_spec _ _ _ _ _ _ hnn (by omega)]
  simp only [Option.bind_some]
  obtain ⟨g1, g2⟩ := gcd_bd (n := n * D) (d := d) (by omega)
  have h0 : ((Int.gcd (n * D) d : Int) == 0) = false := by simp; omega
  obtain ⟨e1, e2⟩ := lowest (n := n * D) (d := d) (by omega) hnn
  obtain ⟨b1, b2, b3, b4⟩ := num_bd (n := n * D) (d := d) (by omega) hnn
  rw [show decide ((Int.gcd (n * D) d : Int) < 0) = false by simp, h0]
  simp only [cond_false, Option.bind_some]
  rw [e1, e2, w64 (by omega) (by omega), w64 (by omega) (by omega)]

theorem vd_mul {n d D : Int} : vd (n * D) d = vd n d * D := by
  unfold vd
  rw [Rat.intCast_mul]
  grind

theorem vd_nonneg {n d : Int} (hd : 0 < d) : 0 ≤ vd n d ↔ 0 ≤ n := by
  have := vd_lt (a := n) (b := d) (c := 0) (d := 1) hd (by omega)
  have e : vd 0 1 = 0 := by unfold vd; grind
  rw [e] at this
  constructor
  · intro h
    have h1 : ¬ vd n d < 0 := Rat.not_lt.2 h
    exact Int.not_lt.1 (fun h2 => h1 (this.2 (by omega)))
  · intro h
    exact Rat.not_lt.1 (fun h2 => by have := this.1 h2; omega)

theorem slabQ_lo {p d a b : Int} {lo hi : Rat} : lo ≤ (slabQ p d a b lo hi).2.1 := by
  unfold slabQ
  split
  · grind
  · simp only
    split <;> grind

theorem thruQ_lo {px py x y d a b c e : Int} {l h : Rat} (hk : thruQ px py x y d a b c e = some (l, h)) : 0 ≤ l ∧ l ≤ h ∧ VV x y d := by
  unfold thruQ at hk
  split at hk
  · rename_i hv
    split at hk
    · simp only at hk
      split at hk
      · rename_i h1 h2
        have hk := Option.some.inj hk
        have hl : (slabQ py y b e (slabQ px x a c 0 8388608).2.1 (slabQ px x a c 0 8388608).2.2).2.1 = l := congrArg Prod.fst hk
        have hh : (slabQ py y b e (slabQ px x a c 0 8388608).2.1 (slabQ px x a c 0 8388608).2.2).2.2 = h := congrArg Prod.snd hk
        rw [← hl, ← hh]
        have q1 := slabQ_lo (p := px) (d := x) (a := a) (b := c) (lo := 0) (hi := 8388608)
        have q2 := slabQ_lo (p := py) (d := y) (a := b) (b := e) (lo := (slabQ px x a c 0 8388608).2.1) (hi := (slabQ px x a c 0 8388608).2.2)
        refine ⟨by grind, ?_, hv.2.1⟩
        have : ∀ (p d a b : Int) (lo hi : Rat), lo ≤ hi → (slabQ p d a b lo hi).1 = true → (slabQ p d a b lo hi).2.1 ≤ (slabQ p d a b lo hi).2.2 := by
          intro p d a b lo hi hlh h
          unfold slabQ at h ⊢
          split
          · exact hlh
          · rename_i hd
            rw [if_neg hd] at h
            simp at h ⊢
            exact Rat.not_lt.1 h
        exact this _ _ _ _ _ _ (this _ _ _ _ _ _ (by grind) h1) h2
      · cases hk
    · cases hk
  · cases hk

/-- Enter and Leave. -/
noncomputable def lowQ (o : Option Rat) : Int × Int × Bool × Unit := match o with
  | some q => (q.num, (q.den : Int), true, ())
  | none => (0, 0, false, ())

theorem f13_spec (px py x y d a b c e : Int) : f13 (px, py, x, y, d, a, b, c, e, ()) = some (lowQ ((thruQ px py x y d a b c e).map fun s => s.1 * d)) := by
  unfold f13
  simp only
  rcases f34_spec px py x y d a b c e with ⟨h1, h2⟩ | ⟨l1, l2, k1, k2, h1, h2, h3, h4⟩
  · rw [h1, h2]; rfl
  · rw [h1, h4]
    obtain ⟨g1, g2, g3⟩ := thruQ_lo h1
    have hn : 0 ≤ l1 := (vd_nonneg (by have := h2.d1; omega)).1 g1
    simp only [Option.bind_some, Bool.not_true, cond_false]
    rw [f35_spec h2 hn g3, vd_mul]
    rfl

theorem f14_spec (px py x y d a b c e : Int) : f14 (px, py, x, y, d, a, b, c, e, ()) = some (lowQ ((thruQ px py x y d a b c e).map fun s => s.2 * d)) := by
  unfold f14
  simp only
  rcases f34_spec px py x y d a b c e with ⟨h1, h2⟩ | ⟨l1, l2, k1, k2, h1, h2, h3, h4⟩
  · rw [h1, h2]; rfl
  · rw [h1, h4]
    obtain ⟨g1, g2, g3⟩ := thruQ_lo h1
    have hn : 0 ≤ k1 := (vd_nonneg (by have := h3.d1; omega)).1 (Rat.le_trans g1 g2)
    simp only [Option.bind_some, Bool.not_true, cond_false]
    rw [f35_spec h3 hn g3, vd_mul]
    rfl

/-! ### The reference -/

theorem f57_spec {p x lo hi : Int} (hp : nr p) (h1 : nr lo) (h2 : nr hi) (hx1 : -67108864 ≤ x) (hx2 : x ≤ 67108864) :
    f57 (p, x, lo, hi, ()) = some (if x = 0 then (if lo ≤ p ∧ p ≤ hi then (0, 0, 0, 0, false, true, ()) else (0, 0, 0, 0, true, false, ())) else if x < 0 then (p - hi, -x, p - lo, -x, false, false, ()) else (lo - p, x, hi - p, x, false, false, ())) := by
  unfold nr at hp h1 h2
  show b57 (b57 (fun _ => none)) (p, x, lo, hi, ()) = _
  unfold b57
  by_cases e : x = 0
  · subst e
    simp only [beq_self_eq_true, cond_true, if_true]
    by_cases e1 : p < lo
    · simp [e1, show ¬ lo ≤ p by omega]
    · by_cases e2 : p > hi
      · simp [e1, e2, show ¬ p ≤ hi by omega]
      · simp [e1, e2, show lo ≤ p by omega, show p ≤ hi by omega]
  · simp only [beq_eq_false_iff_ne.2 e, cond_false, if_neg e]
    by_cases e2 : x < 0
    · simp only [e2, decide_true, cond_true, if_true]
      rw [w64 (n := 0 - p) (by omega) (by omega), w64 (n := 0 - x) (by omega) (by omega), w64 (n := 0 - hi) (by omega) (by omega), w64 (n := 0 - lo) (by omega) (by omega)]
      have : ((0 - x) == 0) = false := by simp; omega
      rw [this]
      simp only [cond_false]
      rw [show decide (0 - x < 0) = false by simp; omega]
      simp only [cond_false]
      show (some (IntKind.i64.wrap (0 - hi - (0 - p)), 0 - x, IntKind.i64.wrap (0 - lo - (0 - p)), 0 - x, false, false, ()) : Option (Int × Int × Int × Int × Bool × Bool × Unit)) = _
      rw [w64 (by omega) (by omega), w64 (by omega) (by omega), show 0 - hi - (0 - p) = p - hi by omega, show 0 - lo - (0 - p) = p - lo by omega, Int.zero_sub]
    · simp only [e2, decide_false, cond_false, if_false]
      rw [w64 (by omega) (by omega), w64 (by omega) (by omega)]

theorem cmp_lt {a b c d : Int} (h : FB a b) (k : FB c d) : decide (IntKind.i64.wrap (a * d) < IntKind.i64.wrap (c * b)) = decide (vd a b < vd c d) := f60_spec h k
theorem cmp_gt {a b c d : Int} (h : FB a b) (k : FB c d) : decide (IntKind.i64.wrap (a * d) > IntKind.i64.wrap (c * b)) = decide (vd c d < vd a b) := f60_spec k h

theorem FB01 : FB 0 1 := ⟨by omega, by omega, by omega, by omega⟩
theorem vd01 : vd 0 1 = 0 := by unfold vd; grind

theorem vd_neg {n d : Int} (hd : 0 < d) : n < 0 ↔ vd n d < 0 := by
  have := vd_lt (a := n) (b := d) (c := 0) (d := 1) hd (by omega)
  rw [vd01] at this
  rw [this]
  omega

/-- What the reference makes of two spans that are neither empty nor all. -/
theorem j28_spec {z1 z2 z3 z4 : Int} {z5 z6 : Bool} {a1 a2 a3 a4 b1 b2 b3 b4 : Int} {ea aa eb ab : Bool} (k1 : FB a1 a2) (k2 : FB a3 a4) (k3 : FB b1 b2) (k4 : FB b3 b4) :
    ∃ l1 l2 h1 h2, FB l1 l2 ∧ FB h1 h2 ∧ vd l1 l2 = (if (if vd a1 a2 < vd b1 b2 then vd b1 b2 else vd a1 a2) < 0 then 0 else if vd a1 a2 < vd b1 b2 then vd b1 b2 else vd a1 a2) ∧
      vd h1 h2 = (if vd b3 b4 < vd a3 a4 then vd b3 b4 else vd a3 a4) ∧
      j37_28 (z1, z2, z3, z4, z5, z6, a1, a2, a3, a4, ea, aa, b1, b2, b3, b4, eb, ab, ()) = some (if vd h1 h2 < vd l1 l2 then (0, 0, 0, 0, true, false, ()) else (l1, l2, h1, h2, ea, aa, ())) := by
  have tail : ∀ (l1 l2 h1 h2 : Int), FB l1 l2 → FB h1 h2 → ∃ m1 m2, FB m1 m2 ∧ vd m1 m2 = (if vd l1 l2 < 0 then 0 else vd l1 l2) ∧
      j37_40 (z1, z2, z3, z4, z5, z6, l1, l2, h1, h2, ea, aa, ()) = some (if vd h1 h2 < vd m1 m2 then (0, 0, 0, 0, true, false, ()) else (m1, m2, h1, h2, ea, aa, ())) := by
    intro l1 l2 h1 h2 q1 q2
    have last : ∀ m1 m2, FB m1 m2 → j37_46 (z1, z2, z3, z4, z5, z6, m1, m2, h1, h2, ea, aa, ()) = some (if vd h1 h2 < vd m1 m2 then (0, 0, 0, 0, true, false, ()) else (m1, m2, h1, h2, ea, aa, ())) := by
      intro m1 m2 q3
      unfold j37_46
      simp only [cmp_gt q3 q2]
      by_cases e : vd h1 h2 < vd m1 m2 <;> simp [e]
    unfold j37_40
    by_cases e : l1 < 0
    · refine ⟨0, 1, FB01, ?_, ?_⟩
      · rw [if_pos ((vd_neg (by have := q1.d1; omega)).1 e), vd01]
      · simp only [e, decide_true, cond_true]
        rw [last 0 1 FB01]
        split <;> rfl
    · refine ⟨l1, l2, q1, ?_, ?_⟩
      · rw [if_neg (fun h => e ((vd_neg (by have := q1.d1; omega)).2 h))]
      · simp only [e, decide_false, cond_false]
        rw [last l1 l2 q1]
        split <;> rfl
  unfold j37_28 j37_34
  simp only [cmp_lt k1 k3, cmp_gt k2 k4]
  by_cases e1 : vd a1 a2 < vd b1 b2 <;> by_cases e2 : vd b3 b4 < vd a3 a4 <;> simp only [e1, e2, decide_true, decide_false, cond_true, cond_false, if_true, if_false]
  · obtain ⟨m1, m2, g1, g2, g3⟩ := tail b1 b2 b3 b4 k3 k4
    exact ⟨m1, m2, b3, b4, g1, k4, g2, rfl, by rw [g3]; simp only [Option.bind_some]⟩
  · obtain ⟨m1, m2, g1, g2, g3⟩ := tail b1 b2 a3 a4 k3 k2
    exact ⟨m1, m2, a3, a4, g1, k2, g2, rfl, by rw [g3]; simp only [Option.bind_some]⟩
  · obtain ⟨m1, m2, g1, g2, g3⟩ := tail a1 a2 b3 b4 k1 k4
    exact ⟨m1, m2, b3, b4, g1, k4, g2, rfl, by rw [g3]; simp only [Option.bind_some]⟩
  · obtain ⟨m1, m2, g1, g2, g3⟩ := tail a1 a2 a3 a4 k1 k2
    exact ⟨m1, m2, a3, a4, g1, k2, g2, rfl, by rw [g3]; simp only [Option.bind_some]⟩

theorem vd_le {n d m : Int} (hd : 0 < d) (hm : 0 ≤ m) (h : n ≤ m) : vd n d ≤ (m : Rat) := by
  have e : vd m 1 = (m : Rat) := by unfold vd; grind
  rw [← e]
  refine Rat.not_lt.1 fun h2 => ?_
  have := (vd_lt (a := m) (b := 1) (c := n) (d := d) (by omega) hd).1 h2
  have : m * 1 ≤ m * d := Int.mul_le_mul_of_nonneg_left (by omega) hm
  omega

/-- The ends of a slab. -/
def iv (p d a b : Int) : Int × Int × Int × Int := if d < 0 then (p - b, -d, p - a, -d) else (a - p, d, b - p, d)

theorem iv_FB {p d a b : Int} (hp : nr p) (ha : nr a) (hb : nr b) (hd : d ≠ 0) (hd1 : -67108864 ≤ d) (hd2 : d ≤ 67108864) :
    FB (iv p d a b).1 (iv p d a b).2.1 ∧ FB (iv p d a b).2.2.1 (iv p d a b).2.2.2 ∧ vd (iv p d a b).2.2.1 (iv p d a b).2.2.2 < 8388608 := by
  unfold nr at hp ha hb
  unfold iv
  split
  · refine ⟨⟨by simp only; omega, by simp only; omega, by simp only; omega, by simp only; omega⟩, ⟨by simp only; omega, by simp only; omega, by simp only; omega, by simp only; omega⟩, ?_⟩
    have := vd_le (n := p - a) (d := -d) (m := 4194304) (by omega) (by omega) (by omega)
    have e : ((4194304 : Int) : Rat) < 8388608 := by decide
    simp only; grind
  · refine ⟨⟨by simp only; omega, by simp only; omega, by simp only; omega, by simp only; omega⟩, ⟨by simp only; omega, by simp only; omega, by simp only; omega, by simp only; omega⟩, ?_⟩
    have := vd_le (n := b - p) (d := d) (m := 4194304) (by omega) (by omega) (by omega)
    have e : ((4194304 : Int) : Rat) < 8388608 := by decide
    simp only; grind

theorem slab_iv {p d a b : Int} {lo hi : Rat} (hd : d ≠ 0) : slabQ p d a b lo hi =
    (!decide ((if vd (iv p d a b).2.2.1 (iv p d a b).2.2.2 < hi then vd (iv p d a b).2.2.1 (iv p d a b).2.2.2 else hi) < (if lo < vd (iv p d a b).1 (iv p d a b).2.1 then vd (iv p d a b).1 (iv p d a b).2.1 else lo)),
      (if lo < vd (iv p d a b).1 (iv p d a b).2.1 then vd (iv p d a b).1 (iv p d a b).2.1 else lo), (if vd (iv p d a b).2.2.1 (iv p d a b).2.2.2 < hi then vd (iv p d a b).2.2.1 (iv p d a b).2.2.2 else hi)) := by
  unfold slabQ iv
  rw [if_neg hd]
  split <;> simp

theorem axis_iv {p x lo hi : Int} (hp : nr p) (h1 : nr lo) (h2 : nr hi) (hx : x ≠ 0) (hx1 : -67108864 ≤ x) (hx2 : x ≤ 67108864) :
    f57 (p, x, lo, hi, ()) = some ((iv p x lo hi).1, (iv p x lo hi).2.1, (iv p x lo hi).2.2.1, (iv p x lo hi).2.2.2, false, false, ()) := by
  rw [f57_spec hp h1 h2 hx1 hx2, if_neg hx]
  unfold iv
  split <;> rfl

/-- The reference's span is the program's. -/
theorem f37_spec {px py x y d a b c e : Int} (hv : (nr px ∧ nr py) ∧ VV x y d ∧ VR a b c e) :
    (thruQ px py x y d a b c e = none ∧ ∃ z1 z2 z3 z4 z5, f37 (px, py, x, y, d, a, b, c, e, ()) = some (z1, z2, z3, z4, true, z5, ())) ∨
    ∃ l1 l2 h1 h2 z, thruQ px py x y d a b c e = some (vd l1 l2, vd h1 h2) ∧ FB l1 l2 ∧ FB h1 h2 ∧ f37 (px, py, x, y, d, a, b, c, e, ()) = some (l1, l2, h1, h2, false, z, ()) := by
  unfold thruQ
  rw [if_pos hv]
  obtain ⟨⟨hx, hy⟩, V, W⟩ := hv
  have x1 : -67108864 ≤ x := by have := V.x1; have := V.d2; omega
  have x2 : x ≤ 67108864 := by have := V.x2; have := V.d2; omega
  have y1 : -67108864 ≤ y := by have := V.y1; have := V.d2; omega
  have y2 : y ≤ 67108864 := by have := V.y2; have := V.d2; omega
  unfold f37
  simp only
  have fin : ∀ (l1 l2 h1 h2 : Int) (z : Bool) (L H : Rat), vd l1 l2 = L → vd h1 h2 = H → FB l1 l2 → FB h1 h2 → ∀ (o : Option (Int × Int × Int × Int × Bool × Bool × Unit)) (t : Option (Rat × Rat)),
      o = some (if vd h1 h2 < vd l1 l2 then (0, 0, 0, 0, true, false, ()) else (l1, l2, h1, h2, false, z, ())) → t = (if H < L then none else some (L, H)) →
      (t = none ∧ ∃ z1 z2 z3 z4 z5, o = some (z1, z2, z3, z4, true, z5, ())) ∨ ∃ l1 l2 h1 h2 z, t = some (vd l1 l2, vd h1 h2) ∧ FB l1 l2 ∧ FB h1 h2 ∧ o = some (l1, l2, h1, h2, false, z, ()) := by
    intro l1 l2 h1 h2 z L H e1 e2 k1 k2 o t ho ht
    rw [← e1, ← e2] at ht
    by_cases hc : vd h1 h2 < vd l1 l2
    · rw [if_pos hc] at ho ht
      exact .inl ⟨ht, _, _, _, _, _, ho⟩
    · rw [if_neg hc] at ho ht
      exact .inr ⟨l1, l2, h1, h2, z, ht, k1, k2, ho⟩
  by_cases ex : x = 0
  · subst ex
    have ey : y ≠ 0 := by
      intro h0; subst h0
      have := V.sq
      have h1 := V.d1
      have : 0 < d * d := Int.mul_pos (by omega) (by omega)
      omega
    rw [axis_iv hy W.b W.d ey y1 y2, f57_spec hx W.a W.c x1 x2, if_pos rfl]
    obtain ⟨q1, q2, q3⟩ := iv_FB hy W.b W.d ey y1 y2
    simp only [slab_iv ey]
    generalize iv py y b e = I at *
    by_cases h0 : a ≤ px ∧ px ≤ c
    · rw [if_pos h0]
      obtain ⟨l1, l2, h1, h2, g1, g2, g3, g4, g5⟩ := j28_spec (z1 := 0) (z2 := 0) (z3 := 0) (z4 := 0) (z5 := false) (z6 := false) (ea := false) (aa := false) (eb := false) (ab := false) q1 q2 q1 q2
      have hs : slabQ px 0 a c 0 8388608 = (true, 0, 8388608) := by simp [slabQ, h0]
      rw [hs]
      refine fin l1 l2 h1 h2 false _ _ g3 g4 g1 g2 _ _ ?_ ?_
      · show Option.bind (j37_22 (0, 0, 0, 0, false, false, I.1, I.2.1, I.2.2.1, I.2.2.2, false, false, I.1, I.2.1, I.2.2.1, I.2.2.2, false, false, ())) (fun y204 => some (y204.fst, y204.snd.fst, y204.snd.snd.fst, y204.snd.snd.snd.fst, y204.snd.snd.snd.snd.fst, y204.snd.snd.snd.snd.snd.fst, ())) = _
        unfold j37_22
        simp only [cond_false]
        rw [g5]
        rfl
      · simp only [if_true, Bool.not_eq_true', decide_eq_false_iff_not]
        generalize vd I.1 I.2.1 = A at *
        generalize vd I.2.2.1 I.2.2.2 = B at *
        clear fin g1 g2 g3 g4 g5 q1 q2 hs
        grind
    · left
      refine ⟨?_, 0, 0, 0, 0, false, ?_⟩
      · simp [slabQ, h0]
      · rw [if_neg h0]; rfl
  · by_cases ey : y = 0
    · subst ey
      rw [axis_iv hx W.a W.c ex x1 x2, f57_spec hy W.b W.d y1 y2, if_pos rfl]
      obtain ⟨q1, q2, q3⟩ := iv_FB hx W.a W.c ex x1 x2
      simp only [slab_iv ex]
      generalize iv px x a c = I at *
      by_cases h0 : b ≤ py ∧ py ≤ e
      · rw [if_pos h0]
        obtain ⟨l1, l2, h1, h2, g1, g2, g3, g4, g5⟩ := j28_spec (z1 := 0) (z2 := 0) (z3 := 0) (z4 := 0) (z5 := false) (z6 := false) (ea := false) (aa := false) (eb := false) (ab := false) q1 q2 q1 q2
        have hs : ∀ u v, slabQ py 0 b e u v = (true, u, v) := by intro u v; simp [slabQ, h0]
        simp only [hs]
        refine fin l1 l2 h1 h2 false _ _ g3 g4 g1 g2 _ _ ?_ ?_
        · show Option.bind (j37_22 (0, 0, 0, 0, false, false, I.1, I.2.1, I.2.2.1, I.2.2.2, false, false, 0, 0, 0, 0, false, true, ())) (fun y204 => some (y204.fst, y204.snd.fst, y204.snd.snd.fst, y204.snd.snd.snd.fst, y204.snd.snd.snd.snd.fst, y204.snd.snd.snd.snd.snd.fst, ())) = _
          unfold j37_22
          simp only [cond_true]
          rw [g5]
          rfl
        · simp only [if_true, Bool.not_eq_true', decide_eq_false_iff_not]
          generalize vd I.1 I.2.1 = A at *
          generalize vd I.2.2.1 I.2.2.2 = B at *
          clear fin g1 g2 g3 g4 g5 q1 q2 hs
          grind
      · left
        refine ⟨?_, 0, 0, 0, 0, false, ?_⟩
        · simp [slabQ, h0]
        · rw [if_neg h0]; rfl
    · rw [axis_iv hx W.a W.c ex x1 x2, axis_iv hy W.b W.d ey y1 y2]
      obtain ⟨q1, q2, q3⟩ := iv_FB hx W.a W.c ex x1 x2
      obtain ⟨r1, r2, r3⟩ := iv_FB hy W.b W.d ey y1 y2
      simp only [slab_iv ex, slab_iv ey]
      generalize iv px x a c = I at *
      generalize iv py y b e = J at *
      obtain ⟨l1, l2, h1, h2, g1, g2, g3, g4, g5⟩ := j28_spec (z1 := 0) (z2 := 0) (z3 := 0) (z4 := 0) (z5 := false) (z6 := false) (ea := false) (aa := false) (eb := false) (ab := false) q1 q2 r1 r2
      refine fin l1 l2 h1 h2 false _ _ g3 g4 g1 g2 _ _ ?_ ?_
      · show Option.bind (j37_22 (0, 0, 0, 0, false, false, I.1, I.2.1, I.2.2.1, I.2.2.2, false, false, J.1, J.2.1, J.2.2.1, J.2.2.2, false, false, ())) (fun y204 => some (y204.fst, y204.snd.fst, y204.snd.snd.fst, y204.snd.snd.snd.fst, y204.snd.snd.snd.snd.fst, y204.snd.snd.snd.snd.snd.fst, ())) = _
        unfold j37_22
        simp only [cond_false]
        rw [g5]
        rfl
      · simp only [Bool.not_eq_true', decide_eq_false_iff_not]
        generalize vd I.1 I.2.1 = A at *
        generalize vd I.2.2.1 I.2.2.2 = B at *
        generalize vd J.1 J.2.1 = A' at *
        generalize vd J.2.2.1 J.2.2.2 = B' at *
        clear fin g1 g2 g3 g4 g5 q1 q2 r1 r2
        grind

theorem f38_spec {n d : Int} (hd : 0 < d) (hd2 : d ≤ 9223372036854775807) (hn : 0 ≤ n) (hn2 : n ≤ 9223372036854775807) : f38 (n, d, ()) = some ((vd n d).num, ((vd n d).den : Int), ()) := by
  unfold f38 f58
  simp only [l58_0]
  rw [l58_spec _ _ hn (by omega)]
  simp only [Option.bind_some]
  obtain ⟨g1, g2⟩ := gcd_bd (n := n) (d := d) hd
  have h0 : ((Int.gcd n d : Int) == 0) = false := by simp; omega
  obtain ⟨e1, e2⟩ := lowest (n := n) (d := d) hd hn
  obtain ⟨b1, b2, b3, b4⟩ := num_bd (n := n) (d := d) hd hn
  rw [h0]
  simp only [cond_false]
  rw [e1, e2, w64 (by omega) (by omega), w64 (by omega) (by omega)]

theorem f15_spec (px py x y d a b c e : Int) : f15 (px, py, x, y, d, a, b, c, e, ()) = some (lowQ ((thruQ px py x y d a b c e).map fun s => s.1 * d)) := by
  unfold f15
  simp only
  by_cases hv : (nr px ∧ nr py) ∧ VV x y d ∧ VR a b c e
  · rw [(f36_spec px py x y d a b c e).2 hv]
    rcases f37_spec hv with ⟨h1, z1, z2, z3, z4, z5, h2⟩ | ⟨l1, l2, k1, k2, z, h1, h2, h3, h4⟩
    · rw [h1, h2]; rfl
    · rw [h1, h4]
      obtain ⟨g1, g2, g3⟩ := thruQ_lo h1
      have hn : 0 ≤ l1 := (vd_nonneg (by have := h2.d1; omega)).1 g1
      have hm := mulb (A := 8388608) (B := 67108864) h2.n1 h2.n2 (b := d) (by have := g3.d1; omega) g3.d2
      have hnn : 0 ≤ l1 * d := Int.mul_nonneg hn (by have := g3.d1; omega)
      simp only [Bool.not_true, cond_false, Option.bind_some]
      have := h2.d1
      have := h2.d2
      rw [w64 (by omega) (by omega), f38_spec (by omega) (by omega) hnn (by omega), vd_mul]
      rfl
  · have : f36 px py x y d a b c e = false := by rw [Bool.eq_false_iff]; exact fun h => hv ((f36_spec _ _ _ _ _ _ _ _ _).1 h)
    rw [this]
    unfold thruQ
    rw [if_neg hv]
    rfl

theorem f16_spec (px py x y d a b c e : Int) : f16 (px, py, x, y, d, a, b, c, e, ()) = some (lowQ ((thruQ px py x y d a b c e).map fun s => s.2 * d)) := by
  unfold f16
  simp only
  by_cases hv : (nr px ∧ nr py) ∧ VV x y d ∧ VR a b c e
  · rw [(f36_spec px py x y d a b c e).2 hv]
    rcases f37_spec hv with ⟨h1, z1, z2, z3, z4, z5, h2⟩ | ⟨l1, l2, k1, k2, z, h1, h2, h3, h4⟩
    · rw [h1, h2]; rfl
    · rw [h1, h4]
      obtain ⟨g1, g2, g3⟩ := thruQ_lo h1
      have hn : 0 ≤ k1 := (vd_nonneg (by have := h3.d1; omega)).1 (Rat.le_trans g1 g2)
      have hm := mulb (A := 8388608) (B := 67108864) h3.n1 h3.n2 (b := d) (by have := g3.d1; omega) g3.d2
      have hnn : 0 ≤ k1 * d := Int.mul_nonneg hn (by have := g3.d1; omega)
      simp only [Bool.not_true, cond_false, Option.bind_some]
      have := h3.d1
      have := h3.d2
      rw [w64 (by omega) (by omega), f38_spec (by omega) (by omega) hnn (by omega), vd_mul]
      rfl
  · have : f36 px py x y d a b c e = false := by rw [Bool.eq_false_iff]; exact fun h => hv ((f36_spec _ _ _ _ _ _ _ _ _).1 h)
    rw [this]
    unfold thruQ
    rw [if_neg hv]
    rfl

theorem awake_Q : thruQ 0 0 3 4 5 6 0 9 20 = some (2, 3) := by
  have hv : (nr 0 ∧ nr 0) ∧ VV 3 4 5 ∧ VR 6 0 9 20 := by
    refine ⟨⟨by unfold nr; omega, by unfold nr; omega⟩, ⟨by omega, by omega, by omega, by omega, by omega, by omega, by omega⟩, ⟨by unfold nr; omega, by unfold nr; omega, by unfold nr; omega, by unfold nr; omega, by omega, by omega⟩⟩
  unfold thruQ
  rw [if_pos hv]
  have e1 : vd 6 3 = 2 := by unfold vd; grind
  have e2 : vd 9 3 = 3 := by unfold vd; grind
  have e3 : vd 0 4 = 0 := by unfold vd; grind
  have e4 : vd 20 4 = 5 := by unfold vd; grind
  have s1 : slabQ 0 3 6 9 0 8388608 = (true, 2, 3) := by
    simp only [slabQ]
    rw [if_neg (by omega)]
    simp [e1, e2]
    decide
  have s2 : slabQ 0 4 0 20 2 3 = (true, 2, 3) := by
    simp only [slabQ]
    rw [if_neg (by omega)]
    simp [e3, e4]
    decide
  rw [s1]
  simp only [if_true]
  rw [s2]
  rfl

theorem f12_spec : f12 () = some (true, ()) := by
  unfold f12
  rw [f13_spec, f14_spec, awake_Q]
  have h1 : ((2 : Rat) * ((5 : Int) : Rat)) = 10 := by decide +kernel
  have h2 : ((3 : Rat) * ((5 : Int) : Rat)) = 15 := by decide +kernel
  simp only [Option.map_some, lowQ, Option.bind_some, h1, h2]
  decide

theorem f17_18 (a b c e : Int) : f17 a b c e = f18 a b c e := by
  unfold f18
  rw [Bool.eq_iff_iff, f17_spec, f40_spec]

theorem segmentEnters_plain (x : Int × Int × Int × Int × Int × Int × Int × Int × Int × Unit) : f3 x = some (true, ()) := by
  obtain ⟨px, py, x, y, d, a, b, c, e, ⟨⟩⟩ := x
  unfold f3
  simp only [f12_spec, f13_spec, f14_spec, f15_spec, f16_spec, Option.bind_some, beq_self_eq_true, cond_true, f17_18, Bool.not_true, cond_false]
end Go.AE
