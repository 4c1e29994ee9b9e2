/-
  plan.Traced, ray.First: the nearest wall that a ray meets.
-/
import Derived.Test.YtadnppefidjhfaaGreatP1
namespace Go.AE
open Go.Proofs Go.RowKit
set_option maxRecDepth 100000

theorem f77_spec {p x d lo hi : Int} (hp : -1048576 ≤ p ∧ p ≤ 1048576) (hd : 1 ≤ d ∧ d ≤ 67108864) (hx : -d ≤ x ∧ x ≤ d) (hlo : 0 ≤ lo) (hlh : lo ≤ hi) (hhi : hi ≤ 2048) :
    f77 (p, p, x, d, lo, hi, ()) = some (p + min (lo * x) (hi * x) / d, p + max (lo * x) (hi * x) / d + 1, ()) := by
  obtain ⟨b1, b2, _, _, _, b6, b7⟩ := box_size (p := p) hd hx hlo hlh hhi
  have w1 : IntKind.i64.wrap (lo * x) = lo * x := w64 (by omega) (by omega)
  have w2 : IntKind.i64.wrap (hi * x) = hi * x := w64 (by omega) (by omega)
  have s1 := f95_gen (n := min (lo * x) (hi * x)) hd.1 (by omega) (by omega)
  have s2 := f95_gen (n := max (lo * x) (hi * x)) hd.1 (by omega) (by omega)
  have w3 : IntKind.i64.wrap (p + min (lo * x) (hi * x) / d) = p + min (lo * x) (hi * x) / d := w64 (by omega) (by omega)
  have w4 : IntKind.i64.wrap (p + max (lo * x) (hi * x) / d) = p + max (lo * x) (hi * x) / d := w64 (by omega) (by omega)
  have w5 : IntKind.i64.wrap (p + max (lo * x) (hi * x) / d + 1) = p + max (lo * x) (hi * x) / d + 1 := w64 (by omega) (by omega)
  unfold f77
  simp only [w1, w2, min_c, max_c, s1, s2, Option.bind_some, w3, w4, w5]

theorem f78_spec {p x d lo hi : Int} (hp : -1048576 ≤ p ∧ p ≤ 1048576) (hd : 1 ≤ d ∧ d ≤ 67108864) (hx : -d ≤ x ∧ x ≤ d) (hlo : 0 ≤ lo) (hlh : lo ≤ hi) (hhi : hi ≤ 2048) :
    f78 (p + min (lo * x) (hi * x) / d, p + max (lo * x) (hi * x) / d + 1, ()) = some (bx0 p x d lo hi, bx1 p x d lo hi, ()) := by
  obtain ⟨b1, b2, _⟩ := box_size (p := p) hd hx hlo hlh hhi
  generalize hm : min (lo * x) (hi * x) / d = m at *
  generalize hM : max (lo * x) (hi * x) / d = M at *
  have w1 : IntKind.i64.wrap (0 - (p + m)) = -(p + m) := by rw [w64 (by omega) (by omega)]; omega
  have s1 := f95_gen (n := -(p + m)) (d := 64) (by omega) (by omega) (by omega)
  have s2 := f95_gen (n := p + M + 1) (d := 64) (by omega) (by omega) (by omega)
  have w2 : IntKind.i64.wrap (0 - (-(p + m)) / 64) = -((-(p + m)) / 64) := by rw [w64 (by omega) (by omega)]; omega
  have w3 : IntKind.i64.wrap (-((-(p + m)) / 64) - 1) = -((-(p + m)) / 64) - 1 := w64 (by omega) (by omega)
  unfold f78 bx0 bx1
  simp only [w1, s1, s2, Option.bind_some, w2, w3, hm, hM]

theorem ord {p x d lo hi : Int} (hd : 1 ≤ d) : bx0 p x d lo hi ≤ bx1 p x d lo hi + 1 := by
  have : min (lo * x) (hi * x) / d ≤ max (lo * x) (hi * x) / d := Int.ediv_le_ediv (by omega) (by omega)
  unfold bx0 bx1
  omega

section
variable {px py x y d lo hi : Int}

theorem f60_spec (h : Ray px py x y d) (hlo : 0 ≤ lo) (hlh : lo ≤ hi) (hhi : hi ≤ 2048) : ∃ (n : Nat) (ob : List Pt), f60 (px, py, px, py, x, y, d, lo, hi, ()) = some (n, ob, ()) ∧ n ≤ ob.length ∧ ob.take n = trc px py x y d lo hi := by
  have hp := h.p
  unfold nearP at hp
  simp only at hp
  have hv := h.v
  have hd : 1 ≤ d ∧ d ≤ 67108864 := ⟨hv.d1, hv.d2⟩
  obtain ⟨_, _, b3, b4, b5, _⟩ := box_size (p := px) hd ⟨hv.x1, hv.x2⟩ hlo hlh hhi
  obtain ⟨_, _, c3, c4, c5, _⟩ := box_size (p := py) hd ⟨hv.y1, hv.y2⟩ hlo hlh hhi
  have s1 := f77_spec hp.1 hd ⟨hv.x1, hv.x2⟩ hlo hlh hhi
  have s2 := f77_spec hp.2 hd ⟨hv.y1, hv.y2⟩ hlo hlh hhi
  have s3 := f78_spec hp.1 hd ⟨hv.x1, hv.x2⟩ hlo hlh hhi
  have s4 := f78_spec hp.2 hd ⟨hv.y1, hv.y2⟩ hlo hlh hhi
  have ht1 : -((-(px + min (lo * x) (hi * x) / d)) / 64) - 1 = bx0 px x d lo hi := rfl
  have key : ∃ (n : Nat) (ob : List Pt), l60_0 (lo, hi, bx0 px x d lo hi, bx1 px x d lo hi, bx1 py y d lo hi, 0, bx0 py y d lo hi, px, py, px, py, x, y, d, [], ()) = some (n, ob, ()) ∧ n ≤ ob.length ∧ ob.take n = trc px py x y d lo hi := by
    by_cases hx : bx0 px x d lo hi ≤ bx1 px x d lo hi + 1
    · by_cases hy : bx0 py y d lo hi ≤ bx1 py y d lo hi + 1
      · obtain ⟨n, ob, q1, q2, q3⟩ := l60_0_spec (bx0 px x d lo hi) (bx1 px x d lo hi) (bx1 py y d lo hi) h hlo hlh hhi b4 b5 c5 (w := (bx1 px x d lo hi + 1 - bx0 px x d lo hi).toNat) (by omega) (by omega)
          (bx1 py y d lo hi + 1 - bx0 py y d lo hi).toNat (bx0 py y d lo hi) 0 [] (by omega) (by omega) (by simp) (by omega) (by omega)
        exact ⟨n, ob, q1, q2, by rw [q3]; rfl⟩
      · exact absurd (ord hd.1) hy
    · exact absurd (ord hd.1) hx
  obtain ⟨n, ob, q1, q2, q3⟩ := key
  refine ⟨n, ob, ?_, q2, q3⟩
  unfold f60
  simp only [s1, s2, s3, s4, Option.bind_some, q1]

theorem f76_gen {n m : Int} (h : 0 ≤ m ∧ m ≤ 1099511627776) : f76 n m = (decide (-m ≤ n) && decide (n ≤ m)) := by
  have w0 : IntKind.i64.wrap (0 - m) = -m := by rw [w64 (by omega) (by omega)]; omega
  unfold f76
  rw [w0]
  by_cases h1 : -m ≤ n
  · have : n ≥ -m := h1
    simp [h1]
  · have : ¬ n ≥ -m := h1
    simp [h1]

theorem f59_spec (x y d : Int) : f59 x y d = true ↔ VV x y d := by
  have h : VV x y d ↔ 1 ≤ d ∧ d ≤ 67108864 ∧ -d ≤ x ∧ x ≤ d ∧ -d ≤ y ∧ y ≤ d ∧ x * x + y * y = d * d := ⟨fun h => ⟨h.1, h.2, h.3, h.4, h.5, h.6, h.7⟩, fun ⟨h1, h2, h3, h4, h5, h6, h7⟩ => ⟨h1, h2, h3, h4, h5, h6, h7⟩⟩
  rw [h]
  unfold f59
  by_cases e1 : d ≥ 1
  · by_cases e2 : d ≤ 67108864
    · rw [f76_gen (by omega), f76_gen (by omega)]
      by_cases e3 : -d ≤ x
      · by_cases e4 : x ≤ d
        · by_cases e5 : -d ≤ y
          · by_cases e6 : y ≤ d
            · rw [sq_wrap (by omega) (by omega) (by omega) (by omega) (by omega) (by omega)]
              simp [e1, e2, e3, e4, e5, e6]
            · simp [e1, e2, e3, e4, e5, e6]
          · simp [e1, e2, e3, e4, e5]
        · simp [e1, e2, e4]
      · simp [e1, e2, e3]
    · simp [e1, e2]
  · simp [e1]

end

/-! ### The nearest wall -/

/-- How far away a cell begins. -/
noncomputable def dist (px py x y d : Int) (c : Pt) : Rat := match thruC px py x y d c with
  | some (l, _) => l * d
  | none => 0

theorem met_iff {px py x y d hi : Int} {c : Pt} : Met px py x y d 0 hi c ↔ (thruC px py x y d c).isSome = true ∧ dist px py x y d c ≤ (hi : Rat) := by
  unfold Met dist
  constructor
  · rintro ⟨l, h, e, _, h2⟩
    rw [e]
    exact ⟨rfl, h2⟩
  · rintro ⟨h1, h2⟩
    cases e : thruC px py x y d c with
    | none => rw [e] at h1; cases h1
    | some q =>
      obtain ⟨l, u⟩ := q
      rw [e] at h2
      obtain ⟨g1, g2, V⟩ := thruQ_lo e
      have hd := V.d1
      have hd' : (0 : Rat) ≤ d := by exact_mod_cast (by omega : (0 : Int) ≤ d)
      refine ⟨l, u, rfl, ?_, h2⟩
      have := Rat.mul_nonneg (Rat.le_trans g1 g2) hd'
      exact this

/-- Of what is met: its distance in lowest terms. -/
theorem dist_num {px py x y d hi : Int} {c : Pt} (h : Met px py x y d 0 hi c) : (0 ≤ (dist px py x y d c).num ∧ 1 ≤ ((dist px py x y d c).den : Int) ∧ ((dist px py x y d c).den : Int) ≤ 67108864) ∧ (dist px py x y d c).num ≤ hi * ((dist px py x y d c).den : Int) := by
  obtain ⟨l, u, e, _, h2⟩ := h
  have ed : dist px py x y d c = l * d := by unfold dist; rw [e]
  rw [ed]
  exact ⟨(thru_den e).1, num_le.2 h2⟩

section
variable (p : Pl) (px py x y d : Int)

/-- The first of the nearest walls of a list. -/
noncomputable def best : List Pt → Option (Rat × Pt) → Option (Rat × Pt)
  | [], b => b
  | c :: l, b => best l (if p.val c = 2 then (match b with
    | none => some (dist px py x y d c, c)
    | some (q, w) => if dist px py x y d c < q then some (dist px py x y d c, c) else some (q, w)) else b)

variable {p} {px} {py} {x} {y} {d}

theorem best_spec : ∀ (l : List Pt) (b : Option (Rat × Pt)),
    (best p px py x y d l b = none ↔ b = none ∧ ∀ c ∈ l, p.val c ≠ 2) ∧
      ∀ q w, best p px py x y d l b = some (q, w) → ((w ∈ l ∧ p.val w = 2 ∧ q = dist px py x y d w) ∨ b = some (q, w)) ∧ (∀ c ∈ l, p.val c = 2 → q ≤ dist px py x y d c) ∧ (∀ q0 w0, b = some (q0, w0) → q ≤ q0)
  | [], b => by
    unfold best
    refine ⟨by simp, fun q w e => ⟨.inr e, by simp, fun q0 w0 e0 => by rw [e] at e0; cases e0; exact Rat.le_refl⟩⟩
  | c :: l, b => by
    unfold best
    by_cases hw : p.val c = 2
    · rw [if_pos hw]
      cases b with
      | none =>
        obtain ⟨h1, h2⟩ := best_spec l (some (dist px py x y d c, c))
        refine ⟨⟨fun e => ?_, fun h => ?_⟩, fun q w e => ?_⟩
        · have := h1.1 e
          cases this.1
        · exact (h.2 c (List.mem_cons_self ..) hw).elim
        · obtain ⟨k1, k2, k3⟩ := h2 q w e
          refine ⟨.inl ?_, fun c' hc' hw' => ?_, fun _ _ e => by cases e⟩
          · rcases k1 with ⟨a1, a2, a3⟩ | e
            · exact ⟨List.mem_cons_of_mem _ a1, a2, a3⟩
            · cases e
              exact ⟨List.mem_cons_self .., hw, rfl⟩
          · rcases List.mem_cons.1 hc' with rfl | hc'
            · exact k3 _ _ rfl
            · exact k2 c' hc' hw'
      | some b =>
        obtain ⟨q1, w1⟩ := b
        simp only
        by_cases hlt : dist px py x y d c < q1
        · rw [if_pos hlt]
          obtain ⟨h1, h2⟩ := best_spec l (some (dist px py x y d c, c))
          refine ⟨⟨fun e => ?_, fun h => by cases h.1⟩, fun q w e => ?_⟩
          · have := h1.1 e
            cases this.1
          · obtain ⟨k1, k2, k3⟩ := h2 q w e
            have k4 := k3 _ _ rfl
            refine ⟨.inl ?_, fun c' hc' hw' => ?_, fun q0 w0 e => by cases e; exact Rat.le_trans k4 (Rat.le_of_lt hlt)⟩
            · rcases k1 with ⟨a1, a2, a3⟩ | e
              · exact ⟨List.mem_cons_of_mem _ a1, a2, a3⟩
              · cases e
                exact ⟨List.mem_cons_self .., hw, rfl⟩
            · rcases List.mem_cons.1 hc' with rfl | hc'
              · exact k4
              · exact k2 c' hc' hw'
        · rw [if_neg hlt]
          obtain ⟨h1, h2⟩ := best_spec l (some (q1, w1))
          refine ⟨⟨fun e => ?_, fun h => by cases h.1⟩, fun q w e => ?_⟩
          · have := h1.1 e
            cases this.1
          · obtain ⟨k1, k2, k3⟩ := h2 q w e
            have k4 := k3 _ _ rfl
            refine ⟨?_, fun c' hc' hw' => ?_, k3⟩
            · rcases k1 with ⟨a1, a2, a3⟩ | e
              · exact .inl ⟨List.mem_cons_of_mem _ a1, a2, a3⟩
              · exact .inr e
            · rcases List.mem_cons.1 hc' with rfl | hc'
              · exact Rat.le_trans k4 (Rat.not_lt.1 hlt)
              · exact k2 c' hc' hw'
    · rw [if_neg hw]
      obtain ⟨h1, h2⟩ := best_spec l b
      refine ⟨⟨fun e => ?_, fun h => h1.2 ⟨h.1, fun c' hc' => h.2 c' (List.mem_cons_of_mem _ hc')⟩⟩, fun q w e => ?_⟩
      · have := h1.1 e
        refine ⟨this.1, fun c' hc' => ?_⟩
        rcases List.mem_cons.1 hc' with rfl | hc'
        · exact hw
        · exact this.2 c' hc'
      · obtain ⟨k1, k2, k3⟩ := h2 q w e
        refine ⟨?_, fun c' hc' hw' => ?_, k3⟩
        · rcases k1 with ⟨a1, a2, a3⟩ | e
          · exact .inl ⟨List.mem_cons_of_mem _ a1, a2, a3⟩
          · exact .inr e
        · rcases List.mem_cons.1 hc' with rfl | hc'
          · exact (hw hw').elim
          · exact k2 c' hc' hw'

/-- What is kept of the nearest so far: found, numerator, denominator, cell. -/
def encB : Option (Rat × Pt) → Bool × Int × Int × Int × Int
  | none => (false, 0, 0, 0, 0)
  | some (q, w) => (true, q.num, (q.den : Int), w.X, w.Y)

/-- What is compared fits. -/
theorem num_mul {q r : Rat} {hi : Int} (h0 : 0 ≤ q.num) (hq : (q.den : Int) ≤ 67108864) (hn : q.num ≤ hi * (q.den : Int)) (hhi : hi ≤ 2048) (hr : (r.den : Int) ≤ 67108864) : 0 ≤ q.num * (r.den : Int) ∧ q.num * (r.den : Int) ≤ 9223372036854775807 := by
  have hd := q.den_pos
  have h1 := Int.mul_le_mul_of_nonneg_right hhi (show 0 ≤ (q.den : Int) by omega)
  refine ⟨Int.mul_nonneg h0 (by omega), ?_⟩
  by_cases e : q.num = 2048 * (q.den : Int)
  · have hr1 := q.reduced
    have hdv : q.den ∣ q.num.natAbs := by
      rw [e, Int.natAbs_mul, Int.natAbs_natCast]
      exact Nat.dvd_mul_left _ _
    have h2 : q.den = 1 := (Nat.gcd_eq_right hdv).symm.trans hr1
    have := mulb (a := q.num) (b := (r.den : Int)) (A := 2048) (B := 67108864) (by omega) (by omega) (by omega) (by omega)
    omega
  · have := mulb (a := q.num) (b := (r.den : Int)) (A := 137438953471) (B := 67108864) (by omega) (by omega) (by omega) (by omega)
    omega

end
end Go.AE
