/-
  The cells that a ray meets: plan.Traced.
-/
import Derived.Test.YtadnppefidjhfaaGreatFD
namespace Go.AE
open Go.Proofs Go.RowKit
set_option maxRecDepth 100000

/-- Division downward. -/
theorem f95_gen {n d : Int} (hd : 1 ≤ d) (h1 : -4611686018427387904 ≤ n) (h2 : n ≤ 4611686018427387904) : f95 (n, d, ()) = some (n / d, ()) := by
  have q : (d == 0) = false := by rw [beq_eq_false_iff_ne]; omega
  have hm := Int.emod_nonneg n (show d ≠ 0 by omega)
  have hm2 := Int.emod_lt_of_pos n (show 0 < d by omega)
  have hq1 : -4611686018427387904 ≤ n / d ∧ n / d ≤ 4611686018427387904 := by
    constructor
    · rw [Int.le_ediv_iff_mul_le (by omega)]
      have := Int.mul_le_mul_of_nonneg_left hd (show (0 : Int) ≤ 4611686018427387904 by omega)
      omega
    · rcases Int.lt_or_le n 0 with h | h
      · have := Int.ediv_neg_of_neg_of_pos h (show 0 < d by omega)
        omega
      · have := Int.ediv_le_self d h
        omega
  unfold f95
  by_cases h : 0 ≤ n
  · have c1 : ¬ n.tmod d < 0 := by have := Int.tmod_nonneg d h; omega
    simp only [q, cond_false, c1, decide_false, j95_13, Option.bind_some, Int.tdiv_eq_ediv_of_nonneg h]
    rw [w64 (by omega) (by omega)]
  · have hneg : ¬ d ∣ n → n.tdiv d = n / d + 1 := fun hnd => by
      rw [Int.tdiv_eq_ediv]
      have hs : d.sign = 1 := Int.sign_eq_one_of_pos (by omega)
      rw [if_neg (by rintro (k | k); omega; exact hnd k), hs]
    have htm := Int.tmod_add_mul_tdiv n d
    have hem := Int.emod_add_mul_ediv n d
    by_cases hdv : d ∣ n
    · have e0 : n.tmod d = 0 := Int.tmod_eq_zero_of_dvd hdv
      have e1 : n.tdiv d = n / d := by
        rw [Int.tdiv_eq_ediv, if_pos (.inr hdv)]
        omega
      have c1 : ¬ n.tmod d < 0 := by omega
      simp only [q, cond_false, c1, decide_false, j95_13, Option.bind_some, e1]
      rw [w64 (by omega) (by omega)]
    · have e1 := hneg hdv
      have hnz : n % d ≠ 0 := fun e => hdv (Int.dvd_of_emod_eq_zero e)
      have c1 : n.tmod d < 0 := by
        rw [e1, Int.mul_add, Int.mul_one] at htm
        omega
      simp only [q, cond_false, c1, decide_true, cond_true, j95_13, Option.bind_some, e1]
      rw [w64 (n := n / d + 1) (by omega) (by omega), w64 (by omega) (by omega)]
      congr 2
      omega

/-! ### Where a ray is in a cell -/

/-- Where the ray from (px, py) is in the square of a cell. -/
noncomputable def thruC (px py x y d : Int) (c : Pt) : Option (Rat × Rat) := thruQ px py x y d (c.X * 64) (c.Y * 64) (c.X * 64 + 64) (c.Y * 64 + 64)

/-- The ray meets the cell at a distance from lo to hi. -/
def Met (px py x y d lo hi : Int) (c : Pt) : Prop := ∃ l h, thruC px py x y d c = some (l, h) ∧ (lo : Rat) ≤ h * d ∧ l * d ≤ (hi : Rat)

/-- A ray that is looked at. -/
structure Ray (px py x y d : Int) : Prop where
  p : nearP ⟨px, py⟩
  v : VV x y d

theorem Ray.okC {px py x y d : Int} (h : Ray px py x y d) {c : Pt} (hc : (-20000 ≤ c.X ∧ c.X ≤ 20000) ∧ -20000 ≤ c.Y ∧ c.Y ≤ 20000) : okR px py x y d (c.X * 64) (c.Y * 64) (c.X * 64 + 64) (c.Y * 64 + 64) := by
  have hp := h.p
  unfold nearP at hp
  simp only at hp
  refine ⟨⟨?_, ?_⟩, h.v, ?_⟩
  · unfold nr; omega
  · unfold nr; omega
  · constructor <;> first | (unfold nr; omega) | omega

theorem rat_le {a b : Int} : (a : Rat) ≤ (b : Rat) ↔ a ≤ b := Rat.intCast_le_intCast

/-- A product with a number between two others. -/
theorem mul_between {s : Rat} {lo hi x : Int} (h1 : (lo : Rat) ≤ s) (h2 : s ≤ (hi : Rat)) : ((min (lo * x) (hi * x) : Int) : Rat) ≤ s * x ∧ s * x ≤ ((max (lo * x) (hi * x) : Int) : Rat) := by
  rcases Int.le_total 0 x with hx | hx
  · have hx' : (0 : Rat) ≤ x := by exact_mod_cast hx
    have a1 := Rat.mul_le_mul_of_nonneg_right h1 hx'
    have a2 := Rat.mul_le_mul_of_nonneg_right h2 hx'
    rw [← Rat.intCast_mul] at a1 a2
    constructor
    · exact Rat.le_trans (rat_le.2 (Int.min_le_left _ _)) a1
    · exact Rat.le_trans a2 (rat_le.2 (Int.le_max_right _ _))
  · have hx' : (0 : Rat) ≤ -(x : Rat) := by
      have : (0 : Rat) ≤ ((-x : Int) : Rat) := by exact_mod_cast (by omega : (0 : Int) ≤ -x)
      rwa [Rat.intCast_neg] at this
    have a1 := Rat.mul_le_mul_of_nonneg_right h1 hx'
    have a2 := Rat.mul_le_mul_of_nonneg_right h2 hx'
    have b1 : s * (x : Rat) ≤ (lo : Rat) * x := by grind
    have b2 : (hi : Rat) * x ≤ s * (x : Rat) := by grind
    rw [← Rat.intCast_mul] at b1 b2
    constructor
    · exact Rat.le_trans (rat_le.2 (Int.min_le_right _ _)) b2
    · exact Rat.le_trans b1 (rat_le.2 (Int.le_max_left _ _))

/-- One coordinate of a cell that is met lies where the sweep looks. -/
theorem span_in {p x d lo hi c : Int} {t : Rat} (hd : 1 ≤ d) (ht1 : (lo : Rat) ≤ t * d) (ht2 : t * d ≤ (hi : Rat)) (hs : inS p x (c * 64) (c * 64 + 64) t) :
    -((-(p + min (lo * x) (hi * x) / d)) / 64) - 1 ≤ c ∧ c ≤ (p + max (lo * x) (hi * x) / d + 1) / 64 := by
  obtain ⟨m1, m2⟩ := mul_between (x := x) ht1 ht2
  obtain ⟨s1, s2⟩ := hs
  have hd' : (0 : Rat) ≤ d := by exact_mod_cast (by omega : (0 : Int) ≤ d)
  have k1 : ((c * 64 - p : Int) : Rat) ≤ t * x := by
    rw [Rat.intCast_sub]; grind
  have k2 : t * x ≤ ((c * 64 + 64 - p : Int) : Rat) := by
    rw [Rat.intCast_sub]; grind
  have e1 := Rat.mul_le_mul_of_nonneg_right k1 hd'
  have e2 := Rat.mul_le_mul_of_nonneg_right k2 hd'
  have e3 : t * (x : Rat) * d = t * d * x := by grind
  rw [e3] at e1 e2
  have i1 : (c * 64 - p) * d ≤ max (lo * x) (hi * x) := by
    rw [← rat_le, Rat.intCast_mul]
    exact Rat.le_trans e1 m2
  have i2 : min (lo * x) (hi * x) ≤ (c * 64 + 64 - p) * d := by
    rw [← rat_le, Rat.intCast_mul]
    exact Rat.le_trans m1 e2
  have j1 : c * 64 - p ≤ max (lo * x) (hi * x) / d := (Int.le_ediv_iff_mul_le (by omega)).2 i1
  have j2 : min (lo * x) (hi * x) / d ≤ c * 64 + 64 - p := Int.ediv_le_of_le_mul (by omega) i2
  omega

theorem Met.point {px py x y d lo hi : Int} {c : Pt} (h : Met px py x y d lo hi c) (hlh : lo ≤ hi) : ∃ t, inR px py x y (c.X * 64) (c.Y * 64) (c.X * 64 + 64) (c.Y * 64 + 64) t ∧ (lo : Rat) ≤ t * d ∧ t * d ≤ (hi : Rat) := by
  obtain ⟨l, u, h1, h2, h3⟩ := h
  obtain ⟨g1, g2, g3⟩ := thru_some h1
  have hd0 := g1.2.1.d1
  have hd : (0 : Rat) < d := by exact_mod_cast (by omega : (0 : Int) < d)
  by_cases hl : (lo : Rat) ≤ l * d
  · exact ⟨l, (g3 l).2 ⟨Rat.le_refl, g2⟩, hl, h3⟩
  · have hl' : l * d < (lo : Rat) := Rat.not_le.1 hl
    have e : ((lo : Rat) / d) * d = lo := by
      rw [Rat.div_mul_cancel]
      exact fun e => by rw [e] at hd; exact absurd hd (by decide)
    refine ⟨(lo : Rat) / d, (g3 _).2 ⟨?_, ?_⟩, by rw [e]; exact Rat.le_refl, by rw [e]; exact rat_le.2 hlh⟩
    · exact Rat.le_of_lt ((Rat.lt_div_iff hd).2 hl')
    · refine Rat.not_lt.1 fun hlt => ?_
      exact absurd ((Rat.lt_div_iff hd).1 hlt) (Rat.not_lt.2 h2)

/-- The sweep's box. -/
def bx0 (p x d lo hi : Int) : Int := -((-(p + min (lo * x) (hi * x) / d)) / 64) - 1
def bx1 (p x d lo hi : Int) : Int := (p + max (lo * x) (hi * x) / d + 1) / 64

theorem Met.box {px py x y d lo hi : Int} {c : Pt} (hlh : lo ≤ hi) (h : Met px py x y d lo hi c) : (bx0 px x d lo hi ≤ c.X ∧ c.X ≤ bx1 px x d lo hi) ∧ bx0 py y d lo hi ≤ c.Y ∧ c.Y ≤ bx1 py y d lo hi := by
  obtain ⟨t, h1, h2, h3⟩ := h.point hlh
  obtain ⟨l, u, g1, _, _⟩ := h
  have hd := (thru_some g1).1.2.1.d1
  exact ⟨span_in hd h2 h3 h1.2.2.1, span_in hd h2 h3 h1.2.2.2⟩

/-- How far the box reaches. -/
theorem box_size {p x d lo hi : Int} (hd : 1 ≤ d ∧ d ≤ 67108864) (hx : -d ≤ x ∧ x ≤ d) (hlo : 0 ≤ lo) (hlh : lo ≤ hi) (hhi : hi ≤ 2048) :
    (-2048 ≤ min (lo * x) (hi * x) / d ∧ min (lo * x) (hi * x) / d ≤ 2048) ∧ (-2048 ≤ max (lo * x) (hi * x) / d ∧ max (lo * x) (hi * x) / d ≤ 2048) ∧ bx1 p x d lo hi ≤ bx0 p x d lo hi + 70 ∧ p - 5000 ≤ bx0 p x d lo hi * 64 ∧ bx1 p x d lo hi * 64 ≤ p + 5000 ∧
      (-137438953472 ≤ lo * x ∧ lo * x ≤ 137438953472) ∧ (-137438953472 ≤ hi * x ∧ hi * x ≤ 137438953472) := by
  have m1 := mulb (a := lo) (b := x) (A := 2048) (B := d) (by omega) (by omega) (by omega) (by omega)
  have m2 := mulb (a := hi) (b := x) (A := 2048) (B := d) (by omega) (by omega) (by omega) (by omega)
  have e0 : 2048 * d = d * 2048 := Int.mul_comm _ _
  have lo1 : -2048 ≤ min (lo * x) (hi * x) / d := (Int.le_ediv_iff_mul_le (by omega)).2 (by omega)
  have lo2 : min (lo * x) (hi * x) / d ≤ 2048 := Int.ediv_le_of_le_mul (by omega) (by omega)
  have hi1 : -2048 ≤ max (lo * x) (hi * x) / d := (Int.le_ediv_iff_mul_le (by omega)).2 (by omega)
  have hi2 : max (lo * x) (hi * x) / d ≤ 2048 := Int.ediv_le_of_le_mul (by omega) (by omega)
  unfold bx0 bx1
  omega

/-! ### Rows of cells -/

open Classical in
noncomputable def rowL (P : Pt → Prop) (y x : Int) : Nat → List Pt
  | 0 => []
  | k + 1 => (if P ⟨x, y⟩ then [⟨x, y⟩] else []) ++ rowL P y (x + 1) k
noncomputable def gridL (P : Pt → Prop) (x0 : Int) (w : Nat) (y : Int) : Nat → List Pt
  | 0 => []
  | k + 1 => rowL P y x0 w ++ gridL P x0 w (y + 1) k

theorem rowL_len (P : Pt → Prop) (y : Int) : ∀ (k : Nat) (x : Int), (rowL P y x k).length ≤ k
  | 0, _ => Nat.le_refl _
  | k + 1, x => by
    have := rowL_len P y k (x + 1)
    unfold rowL
    rw [List.length_append]
    split <;> simp <;> omega
theorem gridL_len (P : Pt → Prop) (x0 : Int) (w : Nat) : ∀ (k : Nat) (y : Int), (gridL P x0 w y k).length ≤ k * w
  | 0, _ => by simp [gridL]
  | k + 1, y => by
    have h1 := gridL_len P x0 w k (y + 1)
    have h2 := rowL_len P y w x0
    unfold gridL
    rw [List.length_append, Nat.add_mul, Nat.one_mul]
    omega
theorem rowL_mem {P : Pt → Prop} {y : Int} {c : Pt} : ∀ (k : Nat) (x : Int), c ∈ rowL P y x k ↔ c.Y = y ∧ x ≤ c.X ∧ c.X < x + k ∧ P c
  | 0, x => by
    unfold rowL
    simp
    omega
  | k + 1, x => by
    have ih := rowL_mem (P := P) (y := y) (c := c) k (x + 1)
    unfold rowL
    rw [List.mem_append, ih]
    constructor
    · rintro (h | ⟨h1, h2, h3, h4⟩)
      · split at h
        · rename_i hp
          rw [List.mem_singleton.1 h]
          exact ⟨rfl, Int.le_refl _, by simp only; omega, hp⟩
        · cases h
      · exact ⟨h1, by omega, by omega, h4⟩
    · rintro ⟨h1, h2, h3, h4⟩
      by_cases e : c.X = x
      · left
        have : c = ⟨x, y⟩ := by cases c; simp only at e h1; rw [e, h1]
        rw [this] at h4
        rw [if_pos h4, this]
        simp
      · exact .inr ⟨h1, by omega, by omega, h4⟩
theorem gridL_mem {P : Pt → Prop} {x0 : Int} {w : Nat} {c : Pt} : ∀ (k : Nat) (y : Int), c ∈ gridL P x0 w y k ↔ (y ≤ c.Y ∧ c.Y < y + k) ∧ x0 ≤ c.X ∧ c.X < x0 + w ∧ P c
  | 0, y => by
    unfold gridL
    simp
    omega
  | k + 1, y => by
    unfold gridL
    rw [List.mem_append, gridL_mem k (y + 1), rowL_mem]
    constructor
    · rintro (⟨h1, h2, h3, h4⟩ | ⟨h1, h2, h3, h4⟩)
      · exact ⟨by omega, h2, h3, h4⟩
      · exact ⟨by omega, h2, h3, h4⟩
    · rintro ⟨h1, h2, h3, h4⟩
      by_cases e : c.Y = y
      · exact .inl ⟨e, h2, h3, h4⟩
      · exact .inr ⟨by omega, h2, h3, h4⟩

/-! ### plan.sweep -/

section
variable {px py x y d lo hi : Int}

/-- What the sweep asks of a cell. -/
theorem cell_ask (h : Ray px py x y d) (hlo : 0 ≤ lo) (hlh : lo ≤ hi) (hhi : hi ≤ 2048) {c : Pt} (hc : (px - 5000 ≤ c.X * 64 ∧ c.X * 64 ≤ px + 5000) ∧ py - 5000 ≤ c.Y * 64 ∧ c.Y * 64 ≤ py + 5000) :
    ∃ a b e g : Int, f79 (f80 c.X c.Y).1 (f80 c.X c.Y).2.1 (f80 c.X c.Y).2.2.1 (f80 c.X c.Y).2.2.2 px py px py = (a, b, e, g, true) ∧ ∃ t : Bool, f81 (0, 0, x, y, d, lo, hi, a, b, e, g, ()) = some (t, ()) ∧ (t = true ↔ Met px py x y d lo hi c) := by
  have hp := h.p
  unfold nearP at hp
  simp only at hp
  have hok := h.okC (c := c) (by omega)
  obtain ⟨_, _, hr⟩ := hok
  have hpr : VR px py px py := by constructor <;> first | (unfold nr; omega) | omega
  have hdr : VR (c.X * 64 - px) (c.Y * 64 - py) (c.X * 64 + 64 - px) (c.Y * 64 + 64 - py) := by
    constructor <;> first | (unfold nr; omega) | omega
  have w1 : IntKind.i64.wrap (c.X * 64 - px) = c.X * 64 - px := w64 (by omega) (by omega)
  have w2 : IntKind.i64.wrap (c.Y * 64 - py) = c.Y * 64 - py := w64 (by omega) (by omega)
  have w3 : IntKind.i64.wrap (c.X * 64 + 64 - px) = c.X * 64 + 64 - px := w64 (by omega) (by omega)
  have w4 : IntKind.i64.wrap (c.Y * 64 + 64 - py) = c.Y * 64 + 64 - py := w64 (by omega) (by omega)
  have s86 := f80_spec (c := c) (by omega) (by omega)
  refine ⟨c.X * 64 - px, c.Y * 64 - py, c.X * 64 + 64 - px, c.Y * 64 + 64 - py, ?_, _, f81_sg _ _ _ _ _ _ _ _ _ _ _, ?_⟩
  · rw [s86]
    unfold f79
    simp only [w1, w2, w3, w4, (f96_sg _ _ _ _).2 hr, (f96_sg _ _ _ _).2 hpr, (f96_sg _ _ _ _).2 hdr, Bool.not_true, cond_false]
  · have hT : thruQ 0 0 x y d (c.X * 64 - px) (c.Y * 64 - py) (c.X * 64 + 64 - px) (c.Y * 64 + 64 - py) = thruC px py x y d c := by
      refine thru_congr ⟨fun _ => h.okC (by omega), fun _ => ⟨⟨by unfold nr; omega, by unfold nr; omega⟩, h.v, hdr⟩⟩ (fun t => ?_)
      have k1 := inS_move (p := 0) (d := x) (a := c.X * 64 - px) (b := c.X * 64 + 64 - px) (s := px) (t := t)
      have k2 := inS_move (p := 0) (d := y) (a := c.Y * 64 - py) (b := c.Y * 64 + 64 - py) (s := py) (t := t)
      rw [Int.zero_add, Int.sub_add_cancel, Int.sub_add_cancel] at k1 k2
      unfold inR
      rw [k1, k2]
    rw [hT]
    unfold meetsQ Met
    cases thruC px py x y d c with
    | none => simp
    | some q =>
      obtain ⟨l, u⟩ := q
      have e0 : decide (0 ≤ lo ∧ lo ≤ hi ∧ hi ≤ 65536) = true := decide_eq_true ⟨hlo, hlh, by omega⟩
      simp only [e0, Bool.true_and, Bool.and_eq_true, decide_eq_true_eq]
      constructor
      · rintro ⟨k1, k2⟩
        exact ⟨l, u, rfl, k1, k2⟩
      · rintro ⟨l', u', k0, k1, k2⟩
        cases k0
        exact ⟨k1, k2⟩

variable (x0 x1 y1 : Int)

theorem l60_6_spec (h : Ray px py x y d) (hlo : 0 ≤ lo) (hlh : lo ≤ hi) (hhi : hi ≤ 2048) (hx1 : x1 * 64 ≤ px + 5000) {cy : Int} (hy : py - 5000 ≤ cy * 64 ∧ cy * 64 ≤ py + 5000) : ∀ (k : Nat) (cx : Int) (n : Nat) (ob : List Pt), x1 + 1 - cx = k → px - 5000 ≤ cx * 64 → n ≤ ob.length → n + k ≤ 1000000 →
    ∃ (n' : Nat) (ob' : List Pt), l60_6 (lo, hi, x0, x1, y1, n, cy, cx, px, py, px, py, x, y, d, ob, ()) = some (lo, hi, x0, x1, y1, n', cy, px, py, px, py, x, y, d, ob', ()) ∧ n' ≤ ob'.length ∧ ob'.take n' = ob.take n ++ rowL (Met px py x y d lo hi) cy cx k
  | k, cx, n, ob, hk, hcx, hn, hnk => by
    unfold l60_6
    rw [iterO_eq]
    cases k with
    | zero =>
      have c1 : ¬ cx ≤ x1 := by omega
      have hd : r60_6 (lo, hi, x0, x1, y1, n, cy, cx, px, py, px, py, x, y, d, ob, ()) = some (.inr (lo, hi, x0, x1, y1, n, cy, px, py, px, py, x, y, d, ob, ())) := by
        unfold r60_6
        simp only [c1, decide_false, cond_false]
      rw [hd]
      exact ⟨n, ob, rfl, hn, by simp [rowL]⟩
    | succ k =>
      have c1 : cx ≤ x1 := by omega
      obtain ⟨a, b, e, g, g1, t, g2, g3⟩ := cell_ask (c := ⟨cx, cy⟩) h hlo hlh hhi (by simp only; omega)
      simp only at g1
      have hnp := h.p
      unfold nearP at hnp
      simp only at hnp
      have w1 : IntKind.i64.wrap (cx + 1) = cx + 1 := w64 (by omega) (by omega)
      have ro : roomy (n + 1) 16 = true := roomy_ok (by omega)
      unfold rowL
      by_cases ht : t = true
      · subst ht
        have hm := g3.1 rfl
        have hd : r60_6 (lo, hi, x0, x1, y1, n, cy, cx, px, py, px, py, x, y, d, ob, ()) = some (.inl (lo, hi, x0, x1, y1, n + 1, cy, cx + 1, px, py, px, py, x, y, d, ob.take n ++ [Pt.mk cx cy], ())) := by
          unfold r60_6
          simp only [c1, decide_true, cond_true, g1, g2, Option.bind_some, Nat.zero_add, hn, ro, j60_34, w1, List.drop_zero]
        have hl : (ob.take n).length = n := by rw [List.length_take]; omega
        obtain ⟨n', ob', q1, q2, q3⟩ := l60_6_spec h hlo hlh hhi hx1 hy k (cx + 1) (n + 1) (ob.take n ++ [Pt.mk cx cy]) (by omega) (by omega) (by simp [hl]) (by omega)
        rw [hd]
        refine ⟨n', ob', q1, q2, ?_⟩
        rw [q3, List.take_of_length_le (by simp [hl]), if_pos hm, List.append_assoc]
      · have ht' : t = false := by simpa using ht
        have hm : ¬ Met px py x y d lo hi ⟨cx, cy⟩ := fun hm => ht (g3.2 hm)
        subst ht'
        have hd : r60_6 (lo, hi, x0, x1, y1, n, cy, cx, px, py, px, py, x, y, d, ob, ()) = some (.inl (lo, hi, x0, x1, y1, n, cy, cx + 1, px, py, px, py, x, y, d, ob, ())) := by
          unfold r60_6
          simp only [c1, decide_true, cond_true, g1, g2, Option.bind_some, cond_false, j60_34, w1]
        obtain ⟨n', ob', q1, q2, q3⟩ := l60_6_spec h hlo hlh hhi hx1 hy k (cx + 1) n ob (by omega) (by omega) hn (by omega)
        rw [hd]
        refine ⟨n', ob', q1, q2, ?_⟩
        rw [q3, if_neg hm, List.nil_append]

theorem l60_0_spec (h : Ray px py x y d) (hlo : 0 ≤ lo) (hlh : lo ≤ hi) (hhi : hi ≤ 2048) (hx0 : px - 5000 ≤ x0 * 64) (hx1 : x1 * 64 ≤ px + 5000) (hy1 : y1 * 64 ≤ py + 5000) {w : Nat} (hw : x1 + 1 - x0 = w) (hw2 : w ≤ 71) : ∀ (k : Nat) (cy : Int) (n : Nat) (ob : List Pt), y1 + 1 - cy = k → py - 5000 ≤ cy * 64 → n ≤ ob.length → k ≤ 71 → n + k * 71 ≤ 900000 →
    ∃ (n' : Nat) (ob' : List Pt), l60_0 (lo, hi, x0, x1, y1, n, cy, px, py, px, py, x, y, d, ob, ()) = some (n', ob', ()) ∧ n' ≤ ob'.length ∧ ob'.take n' = ob.take n ++ gridL (Met px py x y d lo hi) x0 w cy k
  | k, cy, n, ob, hk, hcy, hn, hk2, hnk => by
    unfold l60_0
    rw [iterO_eq]
    cases k with
    | zero =>
      have c1 : ¬ cy ≤ y1 := by omega
      have hd : r60_0 (lo, hi, x0, x1, y1, n, cy, px, py, px, py, x, y, d, ob, ()) = some (.inr (n, ob, ())) := by
        unfold r60_0
        simp only [c1, decide_false, cond_false]
      rw [hd]
      exact ⟨n, ob, rfl, hn, by simp [gridL]⟩
    | succ k =>
      have c1 : cy ≤ y1 := by omega
      have hnp := h.p
      unfold nearP at hnp
      simp only at hnp
      have w1 : IntKind.i64.wrap (cy + 1) = cy + 1 := w64 (by omega) (by omega)
      obtain ⟨n1, ob1, r1, r2, r3⟩ := l60_6_spec x0 x1 y1 h hlo hlh hhi hx1 (cy := cy) (by omega) w x0 n ob hw hx0 hn (by omega)
      have hd : r60_0 (lo, hi, x0, x1, y1, n, cy, px, py, px, py, x, y, d, ob, ()) = some (.inl (lo, hi, x0, x1, y1, n1, cy + 1, px, py, px, py, x, y, d, ob1, ())) := by
        unfold r60_0
        simp only [c1, decide_true, cond_true, r1, Option.bind_some, w1]
      have hlen : n1 ≤ n + 71 := by
        have e1 := congrArg List.length r3
        rw [List.length_append, List.length_take, List.length_take] at e1
        have e2 := rowL_len (Met px py x y d lo hi) cy w x0
        omega
      obtain ⟨n', ob', q1, q2, q3⟩ := l60_0_spec h hlo hlh hhi hx0 hx1 hy1 hw hw2 k (cy + 1) n1 ob1 (by omega) (by omega) r2 (by omega) (by omega)
      rw [hd]
      refine ⟨n', ob', q1, q2, ?_⟩
      rw [q3, r3, List.append_assoc]
      rfl

end

/-- The cells that a ray meets, as they are listed. -/
noncomputable def trc (px py x y d lo hi : Int) : List Pt :=
  gridL (Met px py x y d lo hi) (bx0 px x d lo hi) (bx1 px x d lo hi + 1 - bx0 px x d lo hi).toNat (bx0 py y d lo hi) (bx1 py y d lo hi + 1 - bx0 py y d lo hi).toNat

theorem trc_mem {px py x y d lo hi : Int} (hlh : lo ≤ hi) (c : Pt) : c ∈ trc px py x y d lo hi ↔ Met px py x y d lo hi c := by
  unfold trc
  rw [gridL_mem]
  constructor
  · exact fun h => h.2.2.2
  · intro h
    obtain ⟨⟨h1, h2⟩, h3, h4⟩ := h.box hlh
    exact ⟨by omega, by omega, by omega, h⟩
end Go.AE
