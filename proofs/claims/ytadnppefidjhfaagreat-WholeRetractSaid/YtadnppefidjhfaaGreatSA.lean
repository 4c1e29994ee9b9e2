/-
  Plain laws of the chapter Segment: where a ray is in a rectangle; lowest terms; the reference and the program agree.
-/
import Derived.Test.YtadnppefidjhfaaGreatF
import Derived.IntWalk
namespace Go.AE
open Go.Proofs Go.RowKit
set_option maxRecDepth 100000

theorem w64 {n : Int} (h1 : -9223372036854775808 ≤ n) (h2 : n ≤ 9223372036854775807) : IntKind.i64.wrap n = n := by
  rw [IntKind.wrap_i64]; omega

theorem mulb {a b A B : Int} (ha1 : -A ≤ a) (ha2 : a ≤ A) (hb1 : -B ≤ b) (hb2 : b ≤ B) : -(A * B) ≤ a * b ∧ a * b ≤ A * B := by
  have hA : a.natAbs ≤ A.natAbs := by omega
  have hB : b.natAbs ≤ B.natAbs := by omega
  have h := Nat.mul_le_mul hA hB
  rw [← Int.natAbs_mul, ← Int.natAbs_mul] at h
  have hp : 0 ≤ A * B := Int.mul_nonneg (by omega) (by omega)
  omega

/-- The number n/d. -/
def vd (n d : Int) : Rat := (n : Rat) / (d : Rat)

theorem vd_lt {a b c d : Int} (hb : 0 < b) (hd : 0 < d) : vd a b < vd c d ↔ a * d < c * b := by
  have h1 : (0 : Rat) < b := by exact_mod_cast hb
  have h2 : (0 : Rat) < d := by exact_mod_cast hd
  unfold vd
  rw [Rat.div_lt_iff h1, ← Rat.intCast_lt_intCast (a := a * d)]
  have : (c : Rat) / d * b = (c * b) / d := by grind
  rw [this, Rat.lt_div_iff h2]
  push_cast
  rfl

structure FB (n d : Int) : Prop where
  n1 : -8388608 ≤ n
  n2 : n ≤ 8388608
  d1 : 1 ≤ d
  d2 : d ≤ 67108864

theorem f119_sg {a b c d : Int} (h : FB a b) (k : FB c d) : f119 a b c d = decide (vd a b < vd c d) := by
  unfold f119
  have := mulb (A := 8388608) (B := 67108864) h.n1 h.n2 (by have := k.d1; omega) k.d2
  have := mulb (A := 8388608) (B := 67108864) k.n1 k.n2 (by have := h.d1; omega) h.d2
  rw [w64 (by omega) (by omega), w64 (by omega) (by omega)]
  rw [decide_eq_decide, vd_lt (by have := h.d1; omega) (by have := k.d1; omega)]

/-- A span narrowed to where a coordinate that begins at p and grows by d is from a to b. -/
def slabQ (p d a b : Int) (lo hi : Rat) : Bool × Rat × Rat :=
  if d = 0 then (decide (a ≤ p ∧ p ≤ b), lo, hi)
  else
    let l : Rat := if d < 0 then vd (p - b) (-d) else vd (a - p) d
    let h : Rat := if d < 0 then vd (p - a) (-d) else vd (b - p) d
    let lo' := if lo < l then l else lo
    let hi' := if h < hi then h else hi
    (!decide (hi' < lo'), lo', hi')

theorem j114_sg {l1 l2 h1 h2 a1 a2 b1 b2 : Int} (k1 : FB l1 l2) (k2 : FB h1 h2) (k3 : FB a1 a2) (k4 : FB b1 b2) :
    ∃ ok c1 c2 d1 d2, j114_19 (l1, l2, h1, h2, a1, a2, b1, b2, ()) = some (ok, c1, c2, d1, d2, ()) ∧ FB c1 c2 ∧ FB d1 d2 ∧
      vd c1 c2 = (if vd l1 l2 < vd a1 a2 then vd a1 a2 else vd l1 l2) ∧ vd d1 d2 = (if vd b1 b2 < vd h1 h2 then vd b1 b2 else vd h1 h2) ∧ ok = !decide (vd d1 d2 < vd c1 c2) := by
  unfold j114_19 j114_25 j114_31
  simp only [Option.bind_some, f119_sg k1 k3, f119_sg k4 k2]
  by_cases e1 : vd l1 l2 < vd a1 a2 <;> by_cases e2 : vd b1 b2 < vd h1 h2 <;> simp only [e1, e2, decide_true, decide_false, cond_true, cond_false, if_true, if_false]
  · exact ⟨_, _, _, _, _, rfl, k3, k4, rfl, rfl, by rw [f119_sg k4 k3]⟩
  · exact ⟨_, _, _, _, _, rfl, k3, k2, rfl, rfl, by rw [f119_sg k2 k3]⟩
  · exact ⟨_, _, _, _, _, rfl, k1, k4, rfl, rfl, by rw [f119_sg k4 k1]⟩
  · exact ⟨_, _, _, _, _, rfl, k1, k2, rfl, rfl, by rw [f119_sg k2 k1]⟩

/-- Within the line's coordinates. -/
def nr (n : Int) : Prop := -2097152 ≤ n ∧ n ≤ 2097152

theorem f114_sg {p d a b l1 l2 h1 h2 : Int} (hp : nr p) (ha : nr a) (hb : nr b) (hd1 : -67108864 ≤ d) (hd2 : d ≤ 67108864) (k1 : FB l1 l2) (k2 : FB h1 h2) :
    ∃ ok c1 c2 d1 d2, f114 (p, d, a, b, l1, l2, h1, h2, ()) = some (ok, c1, c2, d1, d2, ()) ∧ FB c1 c2 ∧ FB d1 d2 ∧ slabQ p d a b (vd l1 l2) (vd h1 h2) = (ok, vd c1 c2, vd d1 d2) := by
  unfold nr at hp ha hb
  unfold f114 slabQ
  by_cases e : d = 0
  · subst e
    simp only [beq_self_eq_true, cond_true, if_true]
    by_cases e2 : a ≤ p
    · exact ⟨decide (p ≤ b), _, _, _, _, by simp [e2], k1, k2, by simp [e2]⟩
    · exact ⟨false, _, _, _, _, by simp [e2], k1, k2, by simp [e2]⟩
  · simp only [beq_eq_false_iff_ne.2 e, cond_false, if_neg e]
    by_cases e2 : d < 0
    · simp only [e2, decide_true, cond_true, if_true]
      rw [w64 (by omega) (by omega), w64 (n := 0 - d) (by omega) (by omega), w64 (by omega) (by omega), Int.zero_sub]
      obtain ⟨ok, c1, c2, d1, d2, g1, g2, g3, g4, g5, g6⟩ := j114_sg k1 k2 (a1 := p - b) (a2 := -d) (b1 := p - a) (b2 := -d) ⟨by omega, by omega, by omega, by omega⟩ ⟨by omega, by omega, by omega, by omega⟩
      rw [g1]
      exact ⟨_, _, _, _, _, rfl, g2, g3, by rw [g6, g4, g5]⟩
    · simp only [e2, decide_false, cond_false, if_false]
      rw [w64 (by omega) (by omega), w64 (by omega) (by omega)]
      obtain ⟨ok, c1, c2, d1, d2, g1, g2, g3, g4, g5, g6⟩ := j114_sg k1 k2 (a1 := a - p) (a2 := d) (b1 := b - p) (b2 := d) ⟨by omega, by omega, by omega, by omega⟩ ⟨by omega, by omega, by omega, by omega⟩
      rw [g1]
      exact ⟨_, _, _, _, _, rfl, g2, g3, by rw [g6, g4, g5]⟩

structure VV (x y d : Int) : Prop where
  d1 : 1 ≤ d
  d2 : d ≤ 67108864
  x1 : -d ≤ x
  x2 : x ≤ d
  y1 : -d ≤ y
  y2 : y ≤ d
  sq : x * x + y * y = d * d
structure VR (x0 y0 x1 y1 : Int) : Prop where
  a : nr x0
  b : nr y0
  c : nr x1
  d : nr y1
  x : x0 ≤ x1
  y : y0 ≤ y1

theorem f111_sg (n : Int) : f111 n = true ↔ nr n := by
  unfold f111 nr; simp
theorem f112_sg (x y : Int) : f112 x y = true ↔ nr x ∧ nr y := by
  unfold f112
  rw [← f111_sg, ← f111_sg]
  cases f111 x <;> simp
theorem f96_sg (a b c d : Int) : f96 a b c d = true ↔ VR a b c d := by
  have h : VR a b c d ↔ nr a ∧ nr b ∧ nr c ∧ nr d ∧ a ≤ c ∧ b ≤ d := ⟨fun h => ⟨h.a, h.b, h.c, h.d, h.x, h.y⟩, fun ⟨h1, h2, h3, h4, h5, h6⟩ => ⟨h1, h2, h3, h4, h5, h6⟩⟩
  rw [h]
  unfold f96
  rw [← f111_sg, ← f111_sg, ← f111_sg, ← f111_sg]
  cases f111 a <;> cases f111 b <;> cases f111 c <;> cases f111 d <;> simp
theorem sq_wrap {x y d : Int} (h0 : 1 ≤ d) (h1 : d ≤ 67108864) (hx1 : -d ≤ x) (hx2 : x ≤ d) (hy1 : -d ≤ y) (hy2 : y ≤ d) :
    (IntKind.i64.wrap (IntKind.i64.wrap (x * x) + IntKind.i64.wrap (y * y)) == IntKind.i64.wrap (d * d)) = decide (x * x + y * y = d * d) := by
  have h2 := mulb (a := x) (b := x) (A := 67108864) (B := 67108864) (by omega) (by omega) (by omega) (by omega)
  have h3 := mulb (a := y) (b := y) (A := 67108864) (B := 67108864) (by omega) (by omega) (by omega) (by omega)
  have h4 := mulb (a := d) (b := d) (A := 67108864) (B := 67108864) (by omega) (by omega) (by omega) (by omega)
  rw [w64 (n := x * x) (by omega) (by omega), w64 (n := y * y) (by omega) (by omega), w64 (n := d * d) (by omega) (by omega), w64 (by omega) (by omega)]
  rw [Bool.eq_iff_iff]; simp
theorem f113_sg (x y d : Int) : f113 x y d = true ↔ VV x y d := by
  have h : VV x y d ↔ 1 ≤ d ∧ d ≤ 67108864 ∧ -d ≤ x ∧ x ≤ d ∧ -d ≤ y ∧ y ≤ d ∧ x * x + y * y = d * d := ⟨fun h => ⟨h.1, h.2, h.3, h.4, h.5, h.6, h.7⟩, fun ⟨h1, h2, h3, h4, h5, h6, h7⟩ => ⟨h1, h2, h3, h4, h5, h6, h7⟩⟩
  rw [h]
  unfold f113
  by_cases e1 : d < 1
  · simp [e1]; omega
  by_cases e2 : d > 67108864
  · simp [e2]; omega
  rw [w64 (by omega) (by omega), Int.zero_sub]
  by_cases e3 : x < -d
  · simp [e3]; omega
  by_cases e4 : x > d
  · simp [e4]; omega
  by_cases e5 : y < -d
  · simp [e5]; omega
  by_cases e6 : y > d
  · simp [e6]; omega
  rw [sq_wrap (by omega) (by omega) (by omega) (by omega) (by omega) (by omega)]
  simp only [e1, e2, e3, e4, e5, e6, decide_false, cond_false, decide_eq_true_eq]
  exact ⟨fun h => ⟨by omega, by omega, by omega, by omega, by omega, by omega, h⟩, fun h => h.2.2.2.2.2.2⟩
/-- The numbers t at which a ray is in a rectangle. -/
noncomputable def thruQ (px py x y d a b c e : Int) : Option (Rat × Rat) := open Classical in
  if (nr px ∧ nr py) ∧ VV x y d ∧ VR a b c e then
    if (slabQ px x a c 0 8388608).1 = true then
      let s := slabQ px x a c 0 8388608
      if (slabQ py y b e s.2.1 s.2.2).1 = true then some (slabQ py y b e s.2.1 s.2.2).2 else none
    else none
  else none

theorem f97_sg (px py x y d a b c e : Int) : (thruQ px py x y d a b c e = none ∧ f97 (px, py, x, y, d, a, b, c, e, ()) = some (0, 0, 0, 0, false, ())) ∨
    ∃ l1 l2 h1 h2, thruQ px py x y d a b c e = some (vd l1 l2, vd h1 h2) ∧ FB l1 l2 ∧ FB h1 h2 ∧ f97 (px, py, x, y, d, a, b, c, e, ()) = some (l1, l2, h1, h2, true, ()) := by
  unfold f97 thruQ
  simp only
  by_cases e1 : nr px ∧ nr py
  · rw [(f112_sg px py).2 e1]
    by_cases e2 : VV x y d
    · rw [(f113_sg x y d).2 e2]
      by_cases e3 : VR a b c e
      · rw [(f96_sg a b c e).2 e3]
        simp only [Bool.not_true, cond_false, if_pos (And.intro e1 (And.intro e2 e3))]
        have k0 : FB 0 1 := ⟨by omega, by omega, by omega, by omega⟩
        have k1 : FB 8388608 1 := ⟨by omega, by omega, by omega, by omega⟩
        have v0 : vd 0 1 = 0 := by unfold vd; grind
        have v1 : vd 8388608 1 = 8388608 := by unfold vd; grind
        obtain ⟨ok, c1, c2, d1, d2, g1, g2, g3, g4⟩ := f114_sg e1.1 e3.a e3.c (d := x) (by have := e2.x1; have := e2.d2; omega) (by have := e2.x2; have := e2.d2; omega) k0 k1
        rw [v0, v1] at g4
        rw [g1, g4]
        simp only [Option.bind_some]
        cases ok with
        | false => left; simp
        | true =>
          obtain ⟨ok, c1, c2, d1, d2, q1, q2, q3, q4⟩ := f114_sg e1.2 e3.b e3.d (d := y) (by have := e2.y1; have := e2.d2; omega) (by have := e2.y2; have := e2.d2; omega) g2 g3
          simp only [if_true, Bool.not_true, cond_false]
          rw [q1, q4]
          simp only [Option.bind_some]
          cases ok with
          | false => left; simp
          | true => right; exact ⟨c1, c2, d1, d2, by simp, q2, q3, by simp⟩
      · left
        rw [if_neg (fun h => e3 h.2.2)]
        have : f96 a b c e = false := by rw [Bool.eq_false_iff]; exact fun h => e3 ((f96_sg _ _ _ _).1 h)
        rw [this]; exact ⟨rfl, rfl⟩
    · left
      rw [if_neg (fun h => e2 h.2.1)]
      have : f113 x y d = false := by rw [Bool.eq_false_iff]; exact fun h => e2 ((f113_sg _ _ _).1 h)
      rw [this]; exact ⟨rfl, rfl⟩
  · left
    rw [if_neg (fun h => e1 h.1)]
    have : f112 px py = false := by rw [Bool.eq_false_iff]; exact fun h => e1 ((f112_sg _ _).1 h)
    rw [this]; exact ⟨rfl, rfl⟩

/-! ### Lowest terms -/

theorem tmod_gcd {a b : Int} (ha : 0 ≤ a) (hb : 0 < b) : 0 ≤ a.tmod b ∧ a.tmod b < b ∧ Int.gcd b (a.tmod b) = Int.gcd a b := by
  rw [Int.tmod_eq_emod_of_nonneg ha]
  refine ⟨Int.emod_nonneg _ (by omega), Int.emod_lt_of_pos _ hb, ?_⟩
  obtain ⟨m, rfl⟩ := Int.eq_ofNat_of_zero_le ha
  obtain ⟨n, rfl⟩ := Int.eq_ofNat_of_zero_le (Int.le_of_lt hb)
  rw [← Int.natCast_emod, Int.gcd_natCast_natCast, Int.gcd_natCast_natCast, Nat.gcd_comm n, ← Nat.gcd_rec, Nat.gcd_comm]

/-- n/d in lowest terms. -/
theorem lowest {n d : Int} (hd : 0 < d) (hn : 0 ≤ n) : n.tdiv (Int.gcd n d) = (vd n d).num ∧ d.tdiv (Int.gcd n d) = ((vd n d).den : Int) := by
  have hv : vd n d = Rat.divInt n d := by unfold vd; rw [Rat.divInt_eq_div]
  have hs : d.sign = 1 := Int.sign_eq_one_of_pos hd
  rw [hv, Rat.num_divInt, Rat.den_divInt, hs, Int.one_mul, Int.gcd_comm d n]
  have hg : (0 : Int) < Int.gcd n d := by
    have : Int.gcd n d ≠ 0 := fun h => by have := (Int.gcd_eq_zero_iff.1 h).2; omega
    omega
  rw [Int.tdiv_eq_ediv_of_nonneg hn, Int.tdiv_eq_ediv_of_nonneg (by omega)]
  refine ⟨rfl, ?_⟩
  rw [if_neg (by omega)]
  have : (d.natAbs : Int) = d := by omega
  rw [Int.natCast_ediv, this]

theorem gcd_bd {n d : Int} (hd : 0 < d) : 0 < (Int.gcd n d : Int) ∧ (Int.gcd n d : Int) ≤ d := by
  have h1 : Int.gcd n d ≠ 0 := fun h => by have := (Int.gcd_eq_zero_iff.1 h).2; omega
  have h2 : (Int.gcd n d : Int) ∣ d := Int.gcd_dvd_right ..
  exact ⟨by omega, Int.le_of_dvd hd h2⟩

theorem num_bd {n d : Int} (hd : 0 < d) (hn : 0 ≤ n) : 0 ≤ (vd n d).num ∧ (vd n d).num ≤ n ∧ ((vd n d).den : Int) ≤ d ∧ 1 ≤ ((vd n d).den : Int) := by
  obtain ⟨h1, h2⟩ := lowest hd hn
  obtain ⟨g1, g2⟩ := gcd_bd (n := n) hd
  rw [← h1, ← h2]
  refine ⟨Int.tdiv_nonneg hn (by omega), Int.tdiv_le_self _ hn, Int.tdiv_le_self _ (by omega), ?_⟩
  rw [h2]
  have := (vd n d).den_pos
  omega

theorem vd_mul {n d D : Int} : vd (n * D) d = vd n d * D := by
  unfold vd
  rw [Rat.intCast_mul]
  grind

theorem vd_nonneg {n d : Int} (hd : 0 < d) : 0 ≤ vd n d ↔ 0 ≤ n := by
  have := vd_lt (a := n) (b := d) (c := 0) (d := 1) hd (by omega)
  have e : vd 0 1 = 0 := by unfold vd; grind
  rw [e] at this
  constructor
  · intro h
    have h1 : ¬ vd n d < 0 := Rat.not_lt.2 h
    exact Int.not_lt.1 (fun h2 => h1 (this.2 (by omega)))
  · intro h
    exact Rat.not_lt.1 (fun h2 => by have := this.1 h2; omega)

theorem slabQ_lo {p d a b : Int} {lo hi : Rat} : lo ≤ (slabQ p d a b lo hi).2.1 := by
  unfold slabQ
  split
  · grind
  · simp only
    split <;> grind

theorem thruQ_lo {px py x y d a b c e : Int} {l h : Rat} (hk : thruQ px py x y d a b c e = some (l, h)) : 0 ≤ l ∧ l ≤ h ∧ VV x y d := by
  unfold thruQ at hk
  split at hk
  · rename_i hv
    split at hk
    · simp only at hk
      split at hk
      · rename_i h1 h2
        have hk := Option.some.inj hk
        have hl : (slabQ py y b e (slabQ px x a c 0 8388608).2.1 (slabQ px x a c 0 8388608).2.2).2.1 = l := congrArg Prod.fst hk
        have hh : (slabQ py y b e (slabQ px x a c 0 8388608).2.1 (slabQ px x a c 0 8388608).2.2).2.2 = h := congrArg Prod.snd hk
        rw [← hl, ← hh]
        have q1 := slabQ_lo (p := px) (d := x) (a := a) (b := c) (lo := 0) (hi := 8388608)
        have q2 := slabQ_lo (p := py) (d := y) (a := b) (b := e) (lo := (slabQ px x a c 0 8388608).2.1) (hi := (slabQ px x a c 0 8388608).2.2)
        refine ⟨by grind, ?_, hv.2.1⟩
        have : ∀ (p d a b : Int) (lo hi : Rat), lo ≤ hi → (slabQ p d a b lo hi).1 = true → (slabQ p d a b lo hi).2.1 ≤ (slabQ p d a b lo hi).2.2 := by
          intro p d a b lo hi hlh h
          unfold slabQ at h ⊢
          split
          · exact hlh
          · rename_i hd
            rw [if_neg hd] at h
            simp at h ⊢
            exact Rat.not_lt.1 h
        exact this _ _ _ _ _ _ (this _ _ _ _ _ _ (by grind) h1) h2
      · cases hk
    · cases hk
  · cases hk

/-- Enter and Leave. -/
noncomputable def lowQ (o : Option Rat) : Int × Int × Bool × Unit := match o with
  | some q => (q.num, (q.den : Int), true, ())
  | none => (0, 0, false, ())

/-! ### The reference -/

theorem cmp_lt {a b c d : Int} (h : FB a b) (k : FB c d) : decide (IntKind.i64.wrap (a * d) < IntKind.i64.wrap (c * b)) = decide (vd a b < vd c d) := f119_sg h k
theorem cmp_gt {a b c d : Int} (h : FB a b) (k : FB c d) : decide (IntKind.i64.wrap (a * d) > IntKind.i64.wrap (c * b)) = decide (vd c d < vd a b) := f119_sg k h

theorem FB01 : FB 0 1 := ⟨by omega, by omega, by omega, by omega⟩
theorem vd01 : vd 0 1 = 0 := by unfold vd; grind

theorem vd_neg {n d : Int} (hd : 0 < d) : n < 0 ↔ vd n d < 0 := by
  have := vd_lt (a := n) (b := d) (c := 0) (d := 1) hd (by omega)
  rw [vd01] at this
  rw [this]
  omega

theorem vd_le {n d m : Int} (hd : 0 < d) (hm : 0 ≤ m) (h : n ≤ m) : vd n d ≤ (m : Rat) := by
  have e : vd m 1 = (m : Rat) := by unfold vd; grind
  rw [← e]
  refine Rat.not_lt.1 fun h2 => ?_
  have := (vd_lt (a := m) (b := 1) (c := n) (d := d) (by omega) hd).1 h2
  have : m * 1 ≤ m * d := Int.mul_le_mul_of_nonneg_left (by omega) hm
  omega

/-- The ends of a slab. -/
def iv (p d a b : Int) : Int × Int × Int × Int := if d < 0 then (p - b, -d, p - a, -d) else (a - p, d, b - p, d)

theorem iv_FB {p d a b : Int} (hp : nr p) (ha : nr a) (hb : nr b) (hd : d ≠ 0) (hd1 : -67108864 ≤ d) (hd2 : d ≤ 67108864) :
    FB (iv p d a b).1 (iv p d a b).2.1 ∧ FB (iv p d a b).2.2.1 (iv p d a b).2.2.2 ∧ vd (iv p d a b).2.2.1 (iv p d a b).2.2.2 < 8388608 := by
  unfold nr at hp ha hb
  unfold iv
  split
  · refine ⟨⟨by simp only; omega, by simp only; omega, by simp only; omega, by simp only; omega⟩, ⟨by simp only; omega, by simp only; omega, by simp only; omega, by simp only; omega⟩, ?_⟩
    have := vd_le (n := p - a) (d := -d) (m := 4194304) (by omega) (by omega) (by omega)
    have e : ((4194304 : Int) : Rat) < 8388608 := by decide
    simp only; grind
  · refine ⟨⟨by simp only; omega, by simp only; omega, by simp only; omega, by simp only; omega⟩, ⟨by simp only; omega, by simp only; omega, by simp only; omega, by simp only; omega⟩, ?_⟩
    have := vd_le (n := b - p) (d := d) (m := 4194304) (by omega) (by omega) (by omega)
    have e : ((4194304 : Int) : Rat) < 8388608 := by decide
    simp only; grind

theorem slab_iv {p d a b : Int} {lo hi : Rat} (hd : d ≠ 0) : slabQ p d a b lo hi =
    (!decide ((if vd (iv p d a b).2.2.1 (iv p d a b).2.2.2 < hi then vd (iv p d a b).2.2.1 (iv p d a b).2.2.2 else hi) < (if lo < vd (iv p d a b).1 (iv p d a b).2.1 then vd (iv p d a b).1 (iv p d a b).2.1 else lo)),
      (if lo < vd (iv p d a b).1 (iv p d a b).2.1 then vd (iv p d a b).1 (iv p d a b).2.1 else lo), (if vd (iv p d a b).2.2.1 (iv p d a b).2.2.2 < hi then vd (iv p d a b).2.2.1 (iv p d a b).2.2.2 else hi)) := by
  unfold slabQ iv
  rw [if_neg hd]
  split <;> simp

theorem awake_Q : thruQ 0 0 3 4 5 6 0 9 20 = some (2, 3) := by
  have hv : (nr 0 ∧ nr 0) ∧ VV 3 4 5 ∧ VR 6 0 9 20 := by
    refine ⟨⟨by unfold nr; omega, by unfold nr; omega⟩, ⟨by omega, by omega, by omega, by omega, by omega, by omega, by omega⟩, ⟨by unfold nr; omega, by unfold nr; omega, by unfold nr; omega, by unfold nr; omega, by omega, by omega⟩⟩
  unfold thruQ
  rw [if_pos hv]
  have e1 : vd 6 3 = 2 := by unfold vd; grind
  have e2 : vd 9 3 = 3 := by unfold vd; grind
  have e3 : vd 0 4 = 0 := by unfold vd; grind
  have e4 : vd 20 4 = 5 := by unfold vd; grind
  have s1 : slabQ 0 3 6 9 0 8388608 = (true, 2, 3) := by
    simp only [slabQ]
    rw [if_neg (by omega)]
    simp [e1, e2]
    decide
  have s2 : slabQ 0 4 0 20 2 3 = (true, 2, 3) := by
    simp only [slabQ]
    rw [if_neg (by omega)]
    simp [e3, e4]
    decide
  rw [s1]
  simp only [if_true]
  rw [s2]
  rfl

end Go.AE
