/-
  Motion: drive.Next, drive.Blocked, drive.Step; where a robot may stand.
-/
import Derived.Test.YtnoammkjjbbajaaGreatP3
namespace Go.AE
open Go.Proofs Go.RowKit
set_option maxRecDepth 100000

/-- Division downward, again. -/
theorem f74_gen {n d : Int} (hd : 1 ≤ d) (h1 : -4611686018427387904 ≤ n) (h2 : n ≤ 4611686018427387904) : f74 (n, d, ()) = some (n / d, ()) := by
  have q : (d == 0) = false := by rw [beq_eq_false_iff_ne]; omega
  have hm := Int.emod_nonneg n (show d ≠ 0 by omega)
  have hm2 := Int.emod_lt_of_pos n (show 0 < d by omega)
  have hq1 : -4611686018427387904 ≤ n / d ∧ n / d ≤ 4611686018427387904 := by
    constructor
    · rw [Int.le_ediv_iff_mul_le (by omega)]
      have := Int.mul_le_mul_of_nonneg_left hd (show (0 : Int) ≤ 4611686018427387904 by omega)
      omega
    · rcases Int.lt_or_le n 0 with h | h
      · have := Int.ediv_neg_of_neg_of_pos h (show 0 < d by omega)
        omega
      · have := Int.ediv_le_self d h
        omega
  unfold f74
  by_cases h : 0 ≤ n
  · have c1 : ¬ n.tmod d < 0 := by have := Int.tmod_nonneg d h; omega
    simp only [q, cond_false, c1, decide_false, j74_13, Option.bind_some, Int.tdiv_eq_ediv_of_nonneg h]
    rw [w64 (by omega) (by omega)]
  · have hneg : ¬ d ∣ n → n.tdiv d = n / d + 1 := fun hnd => by
      rw [Int.tdiv_eq_ediv]
      have hs : d.sign = 1 := Int.sign_eq_one_of_pos (by omega)
      rw [if_neg (by rintro (k | k); omega; exact hnd k), hs]
    have htm := Int.tmod_add_mul_tdiv n d
    have hem := Int.emod_add_mul_ediv n d
    by_cases hdv : d ∣ n
    · have e0 : n.tmod d = 0 := Int.tmod_eq_zero_of_dvd hdv
      have e1 : n.tdiv d = n / d := by
        rw [Int.tdiv_eq_ediv, if_pos (.inr hdv)]
        omega
      have c1 : ¬ n.tmod d < 0 := by omega
      simp only [q, cond_false, c1, decide_false, j74_13, Option.bind_some, e1]
      rw [w64 (by omega) (by omega)]
    · have e1 := hneg hdv
      have hnz : n % d ≠ 0 := fun e => hdv (Int.dvd_of_emod_eq_zero e)
      have c1 : n.tmod d < 0 := by
        rw [e1, Int.mul_add, Int.mul_one] at htm
        omega
      simp only [q, cond_false, c1, decide_true, cond_true, j74_13, Option.bind_some, e1]
      rw [w64 (n := n / d + 1) (by omega) (by omega), w64 (by omega) (by omega)]
      congr 2
      omega


open Classical in
/-- A loop over numbers that ends with v at the first bad one. -/
theorem scanV {S Y : Type} (v : Bool) {f : S → Option (S ⊕ (Bool × Unit ⊕ Y))} (st : Int → S) (bad : Int → Prop) (out : Y) (b : Int) : ∀ (t : Nat) (a : Int), (b + 1 - a).toNat = t → a ≤ b + 1 →
    (∀ k, a ≤ k → k ≤ b → bad k → f (st k) = some (.inr (.inl (v, ())))) → (∀ k, a ≤ k → k ≤ b → ¬ bad k → f (st k) = some (.inl (st (k + 1)))) → f (st (b + 1)) = some (.inr (.inr out)) →
    iterO f (st a) = some (if ∃ k, a ≤ k ∧ k ≤ b ∧ bad k then .inl (v, ()) else .inr out) := by
  intro t
  induction t with
  | zero =>
    intro a ht ha h1 h2 h3
    have : a = b + 1 := by omega
    subst this
    rw [iterO_eq, h3, if_neg (by rintro ⟨k, k1, k2, _⟩; omega)]
  | succ t ih =>
    intro a ht ha h1 h2 h3
    by_cases hb : bad a
    · rw [iterO_eq, h1 a (by omega) (by omega) hb, if_pos ⟨a, by omega, by omega, hb⟩]
    · rw [iterO_eq, h2 a (by omega) (by omega) hb]
      show iterO f (st (a + 1)) = _
      rw [ih (a + 1) (by omega) (by omega) (fun k k1 k2 => h1 k (by omega) k2) (fun k k1 k2 => h2 k (by omega) k2) h3]
      have : (∃ k, a + 1 ≤ k ∧ k ≤ b ∧ bad k) ↔ ∃ k, a ≤ k ∧ k ≤ b ∧ bad k := by
        constructor
        · rintro ⟨k, k1, k2, k3⟩; exact ⟨k, by omega, k2, k3⟩
        · rintro ⟨k, k1, k2, k3⟩
          by_cases e : k = a
          · exact (hb (e ▸ k3)).elim
          · exact ⟨k, by omega, k2, k3⟩
      simp only [this]

theorem f39_spec (n a b : Int) : f39 n a b = decide (a ≤ n ∧ n ≤ b) := f56_spec n a b
theorem f38_spec (n : Int) {k : Int} (hk : 0 ≤ k ∧ k ≤ 1099511627776) : f38 n k = decide (-k ≤ n ∧ n ≤ k) := by
  have w : IntKind.i64.wrap (0 - k) = -k := by rw [w64 (by omega) (by omega)]; omega
  unfold f38
  rw [w, f39_spec]
def okCmd (t f : Int) : Prop := (-32 ≤ t ∧ t ≤ 32) ∧ 0 ≤ f ∧ f ≤ 32
instance (t f : Int) : Decidable (okCmd t f) := by unfold okCmd; infer_instance
theorem f17_spec (t f : Int) : f17 t f = decide (okCmd t f) := by
  unfold f17 okCmd
  rw [f38_spec t (by omega), f39_spec]
  by_cases h : -32 ≤ t ∧ t ≤ 32
  · simp only [h, and_self, decide_true, cond_true, true_and]
  · simp only [h, decide_false, cond_false, false_and]
instance (a : Pt) : Decidable (nearP a) := by unfold nearP; infer_instance
theorem f44_spec (x y : Int) : f44 x y = decide (nearP ⟨x, y⟩) := by
  unfold f44 nearP
  rw [f38_spec x (by omega), f38_spec y (by omega)]
  by_cases h : -1048576 ≤ x ∧ x ≤ 1048576
  · simp only [h, and_self, decide_true, cond_true, true_and]
  · simp only [h, decide_false, cond_false, false_and]
theorem f41_spec (x y h : Int) : f41 x y h = decide (nearP ⟨x, y⟩ ∧ 0 ≤ h ∧ h ≤ 255) := by
  unfold f41 f45
  simp only [f44_spec, f39_spec]
  by_cases hn : nearP ⟨x, y⟩
  · simp only [hn, decide_true, cond_true, true_and]
  · simp only [hn, decide_false, cond_false, false_and]

theorem f42_spec (n : Int) : f42 n = n % 256 := by
  have t1 := Int.tmod_lt_of_pos n (show (0 : Int) < 256 by omega)
  have t2 : -256 < n.tmod 256 := by
    have := Int.tmod_lt_of_pos (-n) (show (0 : Int) < 256 by omega)
    rw [Int.neg_tmod] at this
    omega
  have e := Int.tmod_add_mul_tdiv n 256
  unfold f42
  rw [w64 (by omega) (by omega), Int.tmod_eq_emod_of_nonneg (by omega)]
  omega

theorem f43_spec (h : Int) {len : Int} (hl : -1000 ≤ len ∧ len ≤ 1000) : ∃ u v, f43 (h, len, ()) = some (u, v, ()) ∧ (-(max 0 len) ≤ u ∧ u ≤ max 0 len) ∧ -(max 0 len) ≤ v ∧ v ≤ max 0 len := by
  obtain ⟨X, Y, D, s1, ⟨V, hD⟩⟩ := f73_spec h
  obtain ⟨d1, d2, x1, x2, y1, y2, _⟩ := V
  have hn : (bif decide (len > 0) then len else 0) = max 0 len := by
    by_cases c : len > 0
    · simp only [c, decide_true, cond_true]; omega
    · simp only [c, decide_false, cond_false]; omega
  obtain ⟨n, hnn⟩ : ∃ n, max 0 len = n := ⟨_, rfl⟩
  have n0 : 0 ≤ n ∧ n ≤ 1000 := by omega
  have m1 := mulb (a := n) (b := X) (A := 1000) (B := 8192) (by omega) (by omega) (by omega) (by omega)
  have m2 := mulb (a := n) (b := Y) (A := 1000) (B := 8192) (by omega) (by omega) (by omega) (by omega)
  have bd : ∀ Z : Int, -D ≤ Z → Z ≤ D → -n ≤ n * Z / D ∧ n * Z / D ≤ n := fun Z z1 z2 => by
    have a1 := Int.mul_le_mul_of_nonneg_left z1 n0.1
    have a2 := Int.mul_le_mul_of_nonneg_left z2 n0.1
    rw [Int.mul_neg] at a1
    constructor
    · rw [Int.le_ediv_iff_mul_le (by omega), Int.neg_mul]
      exact a1
    · exact Int.ediv_le_of_le_mul (by omega) a2
  have b1 := bd X x1 x2
  have b2 := bd Y y1 y2
  have w1 : IntKind.i64.wrap (n * X) = n * X := w64 (by omega) (by omega)
  have w2 : IntKind.i64.wrap (n * Y) = n * Y := w64 (by omega) (by omega)
  have s2 := f74_gen (n := n * X) d1 (by omega) (by omega)
  have s3 := f74_gen (n := n * Y) d1 (by omega) (by omega)
  refine ⟨n * X / D, n * Y / D, ?_, by rw [hnn]; exact b1, by rw [hnn]; exact b2⟩
  unfold f43
  simp only [s1, Option.bind_some, hn, hnn, w1, w2, s2, s3]

/-- Of a pose: valid. -/
def posed (x y h : Int) : Prop := nearP ⟨x, y⟩ ∧ 0 ≤ h ∧ h ≤ 255
instance (x y h : Int) : Decidable (posed x y h) := by unfold posed; infer_instance

/-- drive.Next. -/
theorem f21_spec (x y h t f e1 e2 e3 e4 : Int) : ∃ x' y' h' err, f21 (x, y, h, t, f, e1, e2, e3, e4, ()) = some (x', y', h', err, ()) ∧ (err = 0 → posed x' y' h') ∧
    (posed x y h → okCmd t f → (-5000 ≤ x ∧ x ≤ 5000) → (-5000 ≤ y ∧ y ≤ 5000) → e1 = 0 → e2 = 0 → e3 = 0 → e4 = 0 → err = 0 ∧ (-f ≤ x' - x ∧ x' - x ≤ f) ∧ (-f ≤ y' - y ∧ y' - y ≤ f)) := by
  have E : ∀ n, f38 n 64 = decide (-64 ≤ n ∧ n ≤ 64) := fun n => f38_spec n (by omega)
  by_cases h1 : posed x y h
  rotate_left
  · refine ⟨0, 0, 0, 1, ?_, fun e => (by omega), fun k => (h1 k).elim⟩
    unfold f21
    have : decide (nearP ⟨x, y⟩ ∧ 0 ≤ h ∧ h ≤ 255) = false := decide_eq_false h1
    simp only [f41_spec, this, Bool.not_false, cond_true]
  have p1 : decide (nearP ⟨x, y⟩ ∧ 0 ≤ h ∧ h ≤ 255) = true := decide_eq_true h1
  by_cases h2 : okCmd t f
  rotate_left
  · refine ⟨0, 0, 0, 1, ?_, fun e => (by omega), fun _ k => (h2 k).elim⟩
    unfold f21
    simp only [f41_spec, p1, Bool.not_true, cond_false, f17_spec, h2, decide_false, Bool.not_false, cond_true]
  by_cases h3 : (-64 ≤ e1 ∧ e1 ≤ 64) ∧ (-64 ≤ e2 ∧ e2 ≤ 64) ∧ (-64 ≤ e3 ∧ e3 ≤ 64) ∧ (-64 ≤ e4 ∧ e4 ≤ 64)
  rotate_left
  · refine ⟨0, 0, 0, 2, ?_, fun e => (by omega), fun _ _ _ _ k1 k2 k3 k4 => absurd (by omega) h3⟩
    unfold f21
    simp only [f41_spec, p1, Bool.not_true, cond_false, f17_spec, h2, decide_true, E]
    by_cases c1 : -64 ≤ e1 ∧ e1 ≤ 64
    · by_cases c2 : -64 ≤ e2 ∧ e2 ≤ 64
      · by_cases c3 : -64 ≤ e3 ∧ e3 ≤ 64
        · have c4 : ¬ (-64 ≤ e4 ∧ e4 ≤ 64) := fun c4 => h3 ⟨c1, c2, c3, c4⟩
          simp only [c1, c2, c3, c4, and_self, decide_true, decide_false, Bool.not_true, Bool.not_false, cond_true, cond_false]
        · simp only [c1, c2, c3, and_self, decide_true, decide_false, Bool.not_true, Bool.not_false, cond_true, cond_false]
      · simp only [c1, c2, and_self, decide_true, decide_false, Bool.not_true, Bool.not_false, cond_true, cond_false]
    · simp only [c1, decide_false, Bool.not_false, cond_true]
  obtain ⟨c1, c2, c3, c4⟩ := h3
  have hc := h2
  unfold okCmd at hc
  obtain ⟨hn, hh0, hh1⟩ := h1
  have hn2 := hn
  unfold nearP at hn2
  simp only at hn2
  have w1 : IntKind.i64.wrap (h + t) = h + t := w64 (by omega) (by omega)
  have w2 : IntKind.i64.wrap (h + t + e1) = h + t + e1 := w64 (by omega) (by omega)
  have w3 : IntKind.i64.wrap (f + e2) = f + e2 := w64 (by omega) (by omega)
  have s1 := f42_spec (h + t + e1)
  obtain ⟨H, hH⟩ : ∃ H, (h + t + e1) % 256 = H := ⟨_, rfl⟩
  rw [hH] at s1
  have hHb : 0 ≤ H ∧ H ≤ 255 := by omega
  by_cases hf : f = 0
  · refine ⟨x, y, H, 0, ?_, fun _ => ⟨hn, hHb⟩, fun _ _ _ _ _ _ _ _ => ⟨rfl, by omega, by omega⟩⟩
    have q : (f == 0) = true := by simpa using hf
    unfold f21
    simp only [f41_spec, p1, Bool.not_true, cond_false, f17_spec, h2, decide_true, E, c1, c2, c3, c4, and_self, q, cond_true, w1, w2, s1]
  · have q : (f == 0) = false := by simpa using hf
    obtain ⟨u, v, s2, bu, bv⟩ := f43_spec H (len := f + e2) (by omega)
    have w4 : IntKind.i64.wrap (u + e3) = u + e3 := w64 (by omega) (by omega)
    have w5 : IntKind.i64.wrap (v + e4) = v + e4 := w64 (by omega) (by omega)
    have w6 : IntKind.i64.wrap (x + (u + e3)) = x + (u + e3) := w64 (by omega) (by omega)
    have w7 : IntKind.i64.wrap (y + (v + e4)) = y + (v + e4) := w64 (by omega) (by omega)
    by_cases hok : nearP ⟨x + (u + e3), y + (v + e4)⟩
    · refine ⟨x + (u + e3), y + (v + e4), H, 0, ?_, fun _ => ⟨hok, hHb⟩, fun _ _ _ _ k1 k2 k3 k4 => ⟨rfl, by omega, by omega⟩⟩
      unfold f21 f45
      simp only [f41_spec, p1, Bool.not_true, cond_false, f17_spec, h2, decide_true, E, c1, c2, c3, c4, and_self, q, w1, w2, s1, w3, s2, Option.bind_some, w4, w5, w6, w7, f44_spec, hok]
    · refine ⟨0, 0, 0, 2, ?_, fun e => (by omega), fun _ _ k5 k6 k1 k2 k3 k4 => (hok ?_).elim⟩
      · unfold f21 f45
        simp only [f41_spec, p1, Bool.not_true, cond_false, f17_spec, h2, decide_true, E, c1, c2, c3, c4, and_self, q, w1, w2, s1, w3, s2, Option.bind_some, w4, w5, w6, w7, f44_spec, hok, decide_false, Bool.not_false, cond_true]
      · unfold nearP
        simp only
        omega

/-! ### Where a robot may stand -/

/-- The point is in the closed square of a cell. -/
def inC (a c : Pt) : Prop := (c.X * 64 ≤ a.X ∧ a.X ≤ c.X * 64 + 64) ∧ c.Y * 64 ≤ a.Y ∧ a.Y ≤ c.Y * 64 + 64
/-- No wall, nor what lies outside, has the point. -/
def Clear (p : Pl) (a : Pt) : Prop := ∀ c, inC a c → p.val c ≠ 2

theorem Clear.inRp {p : Pl} (hp : p.Ok) {a : Pt} (h : Clear p a) : inRp p a := by
  apply Classical.byContradiction
  intro hn
  have hw := hp.w1
  have hh := hp.h1
  have hin : inC a ⟨a.X / 64, a.Y / 64⟩ := by unfold inC; simp only; omega
  refine h _ hin ?_
  unfold Pl.val
  rw [if_neg]
  intro hk
  unfold Pl.inP at hk
  unfold Go.AE.inRp at hn
  simp only at hk
  omega

theorem Fit.clear {p : Pl} {a : Pt} (h : Fit p a 20) : Clear p a := fun c hc hv => h.2.2.2 c ⟨hv, by
  have g1 : gp a.X c.X = 0 := by unfold gp inC at *; omega
  have g2 : gp a.Y c.Y = 0 := by unfold gp inC at *; omega
  unfold gap2
  rw [g1, g2]
  omega⟩

theorem ct_zero {p : Pl} (hk : p.known = true) : ctByte p.C 0 = 0 := by
  unfold ctByte
  have h0 := known_iff.1 hk
  have : p.C.countP (fun x => decide (x = 0)) = 0 := by
    rw [List.countP_eq_zero]
    intro x hx
    simp only [decide_eq_true_eq]
    exact fun e => h0 (e ▸ hx)
  rw [this]
  rfl
theorem f67_spec {p : Pl} (hp : p.Ok) (hk : p.known = true) : f67 (p.W, p.H, p.C, 0, ()) = some (0, ()) := by
  have e1 : idxO [(0 : Int)] (0 : Int) = some 0 := rfl
  have e2 : f102 (p.C, 0, ()) = some (ctByte p.C 0, ()) := rfl
  have l0 : ((([(0 : Int)].length : Nat) : Int) == 0) = false := rfl
  have l1 : ((([(0 : Int)].length : Nat) : Int) == 1) = true := rfl
  unfold f67 f90
  simp only [f22_spec (p := p) (by have := hp.few; omega), Option.bind_some, hp.vld, Bool.not_true, cond_false, l0, l1, cond_true, e1, e2, ct_zero hk]

section
variable {p : Pl} {px py qx qy : Int}

/-- The robot touches the cell on its way. -/
def Tou (px py qx qy : Int) (c : Pt) : Prop := Tch px py qx qy (c.X * 64) (c.Y * 64) (c.X * 64 + 64) (c.Y * 64 + 64) 20

theorem r68_6_spec (hp : p.Ok) {x0 x1 y1 : Int} {c : Pt} (hc : (-1000 ≤ c.X ∧ c.X ≤ 1000) ∧ -1000 ≤ c.Y ∧ c.Y ≤ 1000) (h1 : c.X ≤ x1) :
    (p.val c = 2 ∧ Tou px py qx qy c → r68_6 (x0, x1, y1, c.Y, c.X, p.W, p.H, p.C, px, py, qx, qy, ()) = some (.inr (.inl (true, ())))) ∧
      (¬ (p.val c = 2 ∧ Tou px py qx qy c) → r68_6 (x0, x1, y1, c.Y, c.X, p.W, p.H, p.C, px, py, qx, qy, ()) = some (.inl (x0, x1, y1, c.Y, c.X + 1, p.W, p.H, p.C, px, py, qx, qy, ()))) := by
  have w1 : IntKind.i64.wrap (c.X * 64) = c.X * 64 := w64 (by omega) (by omega)
  have w2 : IntKind.i64.wrap (c.Y * 64) = c.Y * 64 := w64 (by omega) (by omega)
  have w3 : IntKind.i64.wrap (c.X + 1) = c.X + 1 := w64 (by omega) (by omega)
  have w4 : IntKind.i64.wrap (c.Y + 1) = c.Y + 1 := w64 (by omega) (by omega)
  have w5 : IntKind.i64.wrap ((c.X + 1) * 64) = c.X * 64 + 64 := by rw [w64 (by omega) (by omega)]; omega
  have w6 : IntKind.i64.wrap ((c.Y + 1) * 64) = c.Y * 64 + 64 := by rw [w64 (by omega) (by omega)]; omega
  obtain ⟨t, t1, t2⟩ := f91_sg px py qx qy (c.X * 64) (c.Y * 64) (c.X * 64 + 64) (c.Y * 64 + 64) 20
  have t2 : t = true ↔ Tou px py qx qy c := t2
  have j43 : j68_43 (x0, x1, y1, c.Y, c.X, p.W, p.H, p.C, px, py, qx, qy, ()) = some (bif t then .inl (true, ()) else .inr (x0, x1, y1, c.Y, c.X, p.W, p.H, p.C, px, py, qx, qy, ())) := by
    unfold j68_43
    simp only [w1, w2, w3, w4, w5, w6, t1, Option.bind_some]
    cases t <;> rfl
  have touch : p.val c = 2 → (Tou px py qx qy c → t = true) ∧ (¬ Tou px py qx qy c → t = false) := fun _ => ⟨fun h => t2.2 h, fun h => by cases t with | false => rfl | true => exact (h (t2.1 rfl)).elim⟩
  by_cases hin : p.inP c
  · have hin2 := hin
    unfold Pl.inP at hin2
    have e1 : c.X ≥ 0 := hin2.1
    have e2 : c.X < p.W := hin2.2.1
    have e3 : c.Y ≥ 0 := hin2.2.2.1
    have e4 : c.Y < p.H := hin2.2.2.2
    have hv : p.val c = p.C.getD (p.ix c) 0 := by unfold Pl.val; rw [if_pos hin]
    have hg := cell_get hp hin
    rw [← hv] at hg
    by_cases hw : p.val c = 2
    · have q : (p.val c != 2) = false := by simp [hw]
      by_cases ht : Tou px py qx qy c
      · have := (touch hw).1 ht
        subst this
        refine ⟨fun _ => ?_, fun h => (h ⟨hw, ht⟩).elim⟩
        unfold r68_6
        simp only [h1, e1, e2, e3, e4, decide_true, cond_true, ix_w hp hin, idxO_nat, hg, Option.bind_some, q, cond_false, j43, Sum.elim_inl]
      · have := (touch hw).2 ht
        subst this
        refine ⟨fun h => (ht h.2).elim, fun _ => ?_⟩
        unfold r68_6
        simp only [h1, e1, e2, e3, e4, decide_true, cond_true, ix_w hp hin, idxO_nat, hg, Option.bind_some, q, cond_false, j43, Sum.elim_inr, j68_37, w3]
    · have q : (p.val c != 2) = true := by simpa using hw
      refine ⟨fun h => (hw h.1).elim, fun _ => ?_⟩
      unfold r68_6
      simp only [h1, e1, e2, e3, e4, decide_true, cond_true, ix_w hp hin, idxO_nat, hg, Option.bind_some, q, j68_37, w3]
  · have hw : p.val c = 2 := by unfold Pl.val; rw [if_neg hin]
    have main : ∀ t', t' = t → r68_6 (x0, x1, y1, c.Y, c.X, p.W, p.H, p.C, px, py, qx, qy, ()) = some (bif t' then .inr (.inl (true, ())) else .inl (x0, x1, y1, c.Y, c.X + 1, p.W, p.H, p.C, px, py, qx, qy, ())) := by
      rintro t' rfl
      unfold r68_6
      by_cases e1 : c.X ≥ 0
      · by_cases e2 : c.X < p.W
        · by_cases e3 : c.Y ≥ 0
          · have e4 : ¬ c.Y < p.H := fun e4 => hin ⟨e1, e2, e3, e4⟩
            simp only [h1, e1, e2, e3, e4, decide_true, decide_false, cond_true, cond_false, j43, Option.bind_some]
            cases t' <;> simp only [cond_true, cond_false, Sum.elim_inl, Sum.elim_inr, j68_37, Option.bind_some, w3]
          · simp only [h1, e1, e2, e3, decide_true, decide_false, cond_true, cond_false, j43, Option.bind_some]
            cases t' <;> simp only [cond_true, cond_false, Sum.elim_inl, Sum.elim_inr, j68_37, Option.bind_some, w3]
        · simp only [h1, e1, e2, decide_true, decide_false, cond_true, cond_false, j43, Option.bind_some]
          cases t' <;> simp only [cond_true, cond_false, Sum.elim_inl, Sum.elim_inr, j68_37, Option.bind_some, w3]
      · simp only [h1, e1, decide_true, decide_false, cond_true, cond_false, j43, Option.bind_some]
        cases t' <;> simp only [cond_true, cond_false, Sum.elim_inl, Sum.elim_inr, j68_37, Option.bind_some, w3]
    have m := main t rfl
    refine ⟨fun h => ?_, fun h => ?_⟩
    · rw [m, (touch hw).1 h.2]; rfl
    · rw [m, (touch hw).2 (fun ht => h ⟨hw, ht⟩)]; rfl

open Classical in
/-- drive.Blocked. -/
theorem f68_spec (hb : p.bld = true) (hp : p.Ok) (h1 : inRp p ⟨px, py⟩) (h2 : (-40 ≤ qx - px ∧ qx - px ≤ 40) ∧ -40 ≤ qy - py ∧ qy - py ≤ 40) : ∃ t : Bool, f68 (p.W, p.H, p.C, px, py, qx, qy, ()) = some (t, ()) ∧ (t = false → Clear p ⟨qx, qy⟩) := by
  have hv : p.vld = true ∧ p.known = true := by unfold Pl.bld at hb; simpa using hb
  have hw := hp.w2
  have hh := hp.h2
  unfold inRp at h1
  simp only at h1
  have n1 : nearP ⟨px, py⟩ := by unfold nearP; simp only; omega
  have n2 : nearP ⟨qx, qy⟩ := by unfold nearP; simp only; omega
  have w1 : IntKind.i64.wrap (qx - px) = qx - px := w64 (by omega) (by omega)
  have w2 : IntKind.i64.wrap (qy - py) = qy - py := w64 (by omega) (by omega)
  have e1 : f38 (qx - px) 1024 = true := by rw [f38_spec _ (by omega)]; exact decide_eq_true (by omega)
  have e2 : f38 (qy - py) 1024 = true := by rw [f38_spec _ (by omega)]; exact decide_eq_true (by omega)
  have mn : ∀ a b : Int, (bif decide (b < a) then b else a) = min a b := min_c
  have mx' : ∀ a b : Int, (bif decide (b > a) then b else a) = max a b := max_c
  have w3 : IntKind.i64.wrap (min px qx - 20) = min px qx - 20 := w64 (by omega) (by omega)
  have w4 : IntKind.i64.wrap (max px qx + 20) = max px qx + 20 := w64 (by omega) (by omega)
  have w5 : IntKind.i64.wrap (min py qy - 20) = min py qy - 20 := w64 (by omega) (by omega)
  have w6 : IntKind.i64.wrap (max py qy + 20) = max py qy + 20 := w64 (by omega) (by omega)
  have s1 := f74_gen (n := min px qx - 20) (d := 64) (by omega) (by omega) (by omega)
  have s2 := f74_gen (n := max px qx + 20) (d := 64) (by omega) (by omega) (by omega)
  have s3 := f74_gen (n := min py qy - 20) (d := 64) (by omega) (by omega) (by omega)
  have s4 := f74_gen (n := max py qy + 20) (d := 64) (by omega) (by omega) (by omega)
  obtain ⟨x0, hx0⟩ : ∃ x0, (min px qx - 20) / 64 - 1 = x0 := ⟨_, rfl⟩
  obtain ⟨x1, hx1⟩ : ∃ x1, (max px qx + 20) / 64 = x1 := ⟨_, rfl⟩
  obtain ⟨y0, hy0⟩ : ∃ y0, (min py qy - 20) / 64 - 1 = y0 := ⟨_, rfl⟩
  obtain ⟨y1, hy1⟩ : ∃ y1, (max py qy + 20) / 64 = y1 := ⟨_, rfl⟩
  have w7 : IntKind.i64.wrap ((min px qx - 20) / 64 - 1) = x0 := by rw [hx0, w64 (by omega) (by omega)]
  have w8 : IntKind.i64.wrap ((min py qy - 20) / 64 - 1) = y0 := by rw [hy0, w64 (by omega) (by omega)]
  have row : ∀ y, y0 ≤ y → y ≤ y1 → l68_6 (x0, x1, y1, y, x0, p.W, p.H, p.C, px, py, qx, qy, ()) = some (if ∃ x, x0 ≤ x ∧ x ≤ x1 ∧ (p.val ⟨x, y⟩ = 2 ∧ Tou px py qx qy ⟨x, y⟩) then .inl (true, ()) else .inr (x0, x1, y1, y, p.W, p.H, p.C, px, py, qx, qy, ())) := fun y hya hyb => by
    refine scanV true (f := r68_6) (fun k => (x0, x1, y1, y, k, p.W, p.H, p.C, px, py, qx, qy, ())) (fun x => p.val ⟨x, y⟩ = 2 ∧ Tou px py qx qy ⟨x, y⟩) (x0, x1, y1, y, p.W, p.H, p.C, px, py, qx, qy, ()) x1 _ x0 rfl (by omega)
      (fun k k1 k2 hbad => (r68_6_spec hp (c := ⟨k, y⟩) (by simp only; omega) k2).1 hbad) (fun k k1 k2 hbad => (r68_6_spec hp (c := ⟨k, y⟩) (by simp only; omega) k2).2 hbad) ?_
    have c1 : ¬ x1 + 1 ≤ x1 := by omega
    unfold r68_6
    simp only [c1, decide_false, cond_false]
  have all := scanV true (f := r68_0) (fun k => (x0, x1, y1, k, p.W, p.H, p.C, px, py, qx, qy, ())) (fun y => ∃ x, x0 ≤ x ∧ x ≤ x1 ∧ (p.val ⟨x, y⟩ = 2 ∧ Tou px py qx qy ⟨x, y⟩)) () y1 _ y0 rfl (by omega)
    (fun k k1 k2 hbad => by
      have hr := row k k1 k2
      rw [if_pos hbad] at hr
      unfold r68_0
      simp only [k2, decide_true, cond_true, hr, Option.bind_some, Sum.elim_inl])
    (fun k k1 k2 hbad => by
      have hr := row k k1 k2
      rw [if_neg hbad] at hr
      have w9 : IntKind.i64.wrap (k + 1) = k + 1 := w64 (by omega) (by omega)
      unfold r68_0
      simp only [k2, decide_true, cond_true, hr, Option.bind_some, Sum.elim_inr, w9])
    (by
      have c1 : ¬ y1 + 1 ≤ y1 := by omega
      unfold r68_0
      simp only [c1, decide_false, cond_false])
  have all' : l68_0 (x0, x1, y1, y0, p.W, p.H, p.C, px, py, qx, qy, ()) = _ := all
  have c0 : ¬ ((0 : Int) > 0) := by omega
  have head : f68 (p.W, p.H, p.C, px, py, qx, qy, ()) = (l68_0 (x0, x1, y1, y0, p.W, p.H, p.C, px, py, qx, qy, ())).bind fun y => Sum.elim (fun y => some (y.1, ())) (fun _ => some (false, ())) y := by
    unfold f68
    simp only [f22_spec (p := p) (by have := hp.few; omega), Option.bind_some, hv.1, Bool.not_true, cond_false, f67_spec hp hv.2, c0, decide_false, f44_spec, n1, n2, decide_true, w1, w2, e1, e2, mn, mx', w3, w4, w5, w6, s1, s2, s3, s4, w7, w8, hx1, hy1]
  rw [head, all']
  by_cases hex : ∃ y, y0 ≤ y ∧ y ≤ y1 ∧ ∃ x, x0 ≤ x ∧ x ≤ x1 ∧ (p.val ⟨x, y⟩ = 2 ∧ Tou px py qx qy ⟨x, y⟩)
  · rw [if_pos hex]
    exact ⟨true, rfl, fun h => by cases h⟩
  · rw [if_neg hex]
    refine ⟨false, rfl, fun _ c hc hval => hex ?_⟩
    unfold inC at hc
    simp only at hc
    refine ⟨c.Y, by omega, by omega, c.X, by omega, by omega, hval, ?_⟩
    refine ⟨⟨⟨by unfold nr; omega, by unfold nr; omega⟩, ⟨by unfold nr; omega, by unfold nr; omega⟩, ?_, by omega, by omega, by omega⟩, .inr (.inr (.inl ?_))⟩
    · constructor <;> first | (unfold nr; simp only; omega) | (simp only; omega)
    · exact gap_in (by simp only; omega)

/-- drive.Step, without slip. -/
theorem f33_spec (hb : p.bld = true) (hp : p.Ok) {h t f : Int} (hcl : Clear p ⟨px, py⟩) (hh : 0 ≤ h ∧ h ≤ 255) (hc : okCmd t f) :
    ∃ x' y' h' bump, f33 (p.W, p.H, p.C, px, py, h, t, f, 0, 0, 0, 0, ()) = some (x', y', h', bump, 0, ()) ∧ ((bump = true ∧ x' = px ∧ y' = py) ∨ (bump = false ∧ f21 (px, py, h, t, f, 0, 0, 0, 0, ()) = some (x', y', h', 0, ()))) ∧ Clear p ⟨x', y'⟩ ∧ (0 ≤ h' ∧ h' ≤ 255) := by
  have hv : p.vld = true ∧ p.known = true := by unfold Pl.bld at hb; simpa using hb
  have hin := hcl.inRp hp
  have hw := hp.w2
  have hhh := hp.h2
  have hin2 := hin
  unfold inRp at hin2
  simp only at hin2
  have hps : posed px py h := ⟨Ok.in_near hp hin, hh⟩
  obtain ⟨x', y', h', err, s1, k1, k2⟩ := f21_spec px py h t f 0 0 0 0
  obtain ⟨e0, bx, by'⟩ := k2 hps hc (by omega) (by omega) rfl rfl rfl rfl
  subst e0
  have hp' := k1 rfl
  have hc2 := hc
  unfold okCmd at hc2
  have c0 : ¬ ((0 : Int) > 0) := by omega
  have pre : f33 (p.W, p.H, p.C, px, py, h, t, f, 0, 0, 0, 0, ()) = (bif decide (f > 0) then (f68 (p.W, p.H, p.C, px, py, x', y', ())).bind fun y47 => bif y47.1 then some (px, py, h', true, 0, ()) else some (x', y', h', false, 0, ()) else some (x', y', h', false, 0, ())) := by
    unfold f33 f45
    simp only [f22_spec (p := p) (by have := hp.few; omega), Option.bind_some, hv.1, Bool.not_true, cond_false, f67_spec hp hv.2, c0, decide_false, s1, bne_self_eq_false, j33_31]
  by_cases hf : f > 0
  · obtain ⟨b, s2, k3⟩ := f68_spec hb hp hin (qx := x') (qy := y') (by omega)
    cases b with
    | true =>
      refine ⟨px, py, h', true, ?_, .inl ⟨rfl, rfl, rfl⟩, hcl, hp'.2⟩
      rw [pre]
      simp only [hf, decide_true, cond_true, s2, Option.bind_some]
    | false =>
      refine ⟨x', y', h', false, ?_, .inr ⟨rfl, s1⟩, k3 rfl, hp'.2⟩
      rw [pre]
      simp only [hf, decide_true, cond_true, s2, Option.bind_some, cond_false]
  · have ex : x' = px := by omega
    have ey : y' = py := by omega
    refine ⟨x', y', h', false, ?_, .inr ⟨rfl, s1⟩, by rw [ex, ey]; exact hcl, hp'.2⟩
    rw [pre]
    simp only [hf, decide_false, cond_false]
end
end Go.AE
