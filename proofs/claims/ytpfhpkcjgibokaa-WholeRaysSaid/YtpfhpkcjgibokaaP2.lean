/-
  plan.Traced, ray.First: the nearest wall that a ray meets.
-/
import Derived.Test.YtpfhpkcjgibokaaP1
namespace Go.AE
open Go.Proofs Go.RowKit
set_option maxRecDepth 100000

theorem f46_spec {p x d lo hi : Int} (hp : -1048576 ≤ p ∧ p ≤ 1048576) (hd : 1 ≤ d ∧ d ≤ 67108864) (hx : -d ≤ x ∧ x ≤ d) (hlo : 0 ≤ lo) (hlh : lo ≤ hi) (hhi : hi ≤ 2048) :
    f46 (p, p, x, d, lo, hi, ()) = some (p + min (lo * x) (hi * x) / d, p + max (lo * x) (hi * x) / d + 1, ()) := by
  obtain ⟨b1, b2, _, _, _, b6, b7⟩ := box_size (p := p) hd hx hlo hlh hhi
  have w1 : IntKind.i64.wrap (lo * x) = lo * x := w64 (by omega) (by omega)
  have w2 : IntKind.i64.wrap (hi * x) = hi * x := w64 (by omega) (by omega)
  have s1 := f67_gen (n := min (lo * x) (hi * x)) hd.1 (by omega) (by omega)
  have s2 := f67_gen (n := max (lo * x) (hi * x)) hd.1 (by omega) (by omega)
  have w3 : IntKind.i64.wrap (p + min (lo * x) (hi * x) / d) = p + min (lo * x) (hi * x) / d := w64 (by omega) (by omega)
  have w4 : IntKind.i64.wrap (p + max (lo * x) (hi * x) / d) = p + max (lo * x) (hi * x) / d := w64 (by omega) (by omega)
  have w5 : IntKind.i64.wrap (p + max (lo * x) (hi * x) / d + 1) = p + max (lo * x) (hi * x) / d + 1 := w64 (by omega) (by omega)
  unfold f46
  simp only [w1, w2, min_c, max_c, s1, s2, Option.bind_some, w3, w4, w5]

theorem f47_spec {p x d lo hi : Int} (hp : -1048576 ≤ p ∧ p ≤ 1048576) (hd : 1 ≤ d ∧ d ≤ 67108864) (hx : -d ≤ x ∧ x ≤ d) (hlo : 0 ≤ lo) (hlh : lo ≤ hi) (hhi : hi ≤ 2048) :
    f47 (p + min (lo * x) (hi * x) / d, p + max (lo * x) (hi * x) / d + 1, ()) = some (bx0 p x d lo hi, bx1 p x d lo hi, ()) := by
  obtain ⟨b1, b2, _⟩ := box_size (p := p) hd hx hlo hlh hhi
  generalize hm : min (lo * x) (hi * x) / d = m at *
  generalize hM : max (lo * x) (hi * x) / d = M at *
  have w1 : IntKind.i64.wrap (0 - (p + m)) = -(p + m) := by rw [w64 (by omega) (by omega)]; omega
  have s1 := f67_gen (n := -(p + m)) (d := 64) (by omega) (by omega) (by omega)
  have s2 := f67_gen (n := p + M + 1) (d := 64) (by omega) (by omega) (by omega)
  have w2 : IntKind.i64.wrap (0 - (-(p + m)) / 64) = -((-(p + m)) / 64) := by rw [w64 (by omega) (by omega)]; omega
  have w3 : IntKind.i64.wrap (-((-(p + m)) / 64) - 1) = -((-(p + m)) / 64) - 1 := w64 (by omega) (by omega)
  unfold f47 bx0 bx1
  simp only [w1, s1, s2, Option.bind_some, w2, w3, hm, hM]

theorem ord {p x d lo hi : Int} (hd : 1 ≤ d) : bx0 p x d lo hi ≤ bx1 p x d lo hi + 1 := by
  have : min (lo * x) (hi * x) / d ≤ max (lo * x) (hi * x) / d := Int.ediv_le_ediv (by omega) (by omega)
  unfold bx0 bx1
  omega

section
variable {px py x y d lo hi : Int}

theorem f27_spec (h : Ray px py x y d) (hlo : 0 ≤ lo) (hlh : lo ≤ hi) (hhi : hi ≤ 2048) : ∃ (n : Nat) (ob : List Pt), f27 (px, py, px, py, x, y, d, lo, hi, ()) = some (n, ob, ()) ∧ n ≤ ob.length ∧ ob.take n = trc px py x y d lo hi := by
  have hp := h.p
  unfold nearP at hp
  simp only at hp
  have hv := h.v
  have hd : 1 ≤ d ∧ d ≤ 67108864 := ⟨hv.d1, hv.d2⟩
  obtain ⟨_, _, b3, b4, b5, _⟩ := box_size (p := px) hd ⟨hv.x1, hv.x2⟩ hlo hlh hhi
  obtain ⟨_, _, c3, c4, c5, _⟩ := box_size (p := py) hd ⟨hv.y1, hv.y2⟩ hlo hlh hhi
  have s1 := f46_spec hp.1 hd ⟨hv.x1, hv.x2⟩ hlo hlh hhi
  have s2 := f46_spec hp.2 hd ⟨hv.y1, hv.y2⟩ hlo hlh hhi
  have s3 := f47_spec hp.1 hd ⟨hv.x1, hv.x2⟩ hlo hlh hhi
  have s4 := f47_spec hp.2 hd ⟨hv.y1, hv.y2⟩ hlo hlh hhi
  have ht1 : -((-(px + min (lo * x) (hi * x) / d)) / 64) - 1 = bx0 px x d lo hi := rfl
  have key : ∃ (n : Nat) (ob : List Pt), l27_0 (lo, hi, bx0 px x d lo hi, bx1 px x d lo hi, bx1 py y d lo hi, 0, bx0 py y d lo hi, px, py, px, py, x, y, d, [], ()) = some (n, ob, ()) ∧ n ≤ ob.length ∧ ob.take n = trc px py x y d lo hi := by
    by_cases hx : bx0 px x d lo hi ≤ bx1 px x d lo hi + 1
    · by_cases hy : bx0 py y d lo hi ≤ bx1 py y d lo hi + 1
      · obtain ⟨n, ob, q1, q2, q3⟩ := l27_0_spec (bx0 px x d lo hi) (bx1 px x d lo hi) (bx1 py y d lo hi) h hlo hlh hhi b4 b5 c5 (w := (bx1 px x d lo hi + 1 - bx0 px x d lo hi).toNat) (by omega) (by omega)
          (bx1 py y d lo hi + 1 - bx0 py y d lo hi).toNat (bx0 py y d lo hi) 0 [] (by omega) (by omega) (by simp) (by omega) (by omega)
        exact ⟨n, ob, q1, q2, by rw [q3]; rfl⟩
      · exact absurd (ord hd.1) hy
    · exact absurd (ord hd.1) hx
  obtain ⟨n, ob, q1, q2, q3⟩ := key
  refine ⟨n, ob, ?_, q2, q3⟩
  unfold f27
  simp only [s1, s2, s3, s4, Option.bind_some, q1]

theorem f45_gen {n m : Int} (h : 0 ≤ m ∧ m ≤ 1099511627776) : f45 n m = (decide (-m ≤ n) && decide (n ≤ m)) := by
  have w0 : IntKind.i64.wrap (0 - m) = -m := by rw [w64 (by omega) (by omega)]; omega
  unfold f45
  rw [w0]
  by_cases h1 : -m ≤ n
  · have : n ≥ -m := h1
    simp [h1]
  · have : ¬ n ≥ -m := h1
    simp [h1]

theorem f26_spec (x y d : Int) : f26 x y d = true ↔ VV x y d := by
  have h : VV x y d ↔ 1 ≤ d ∧ d ≤ 67108864 ∧ -d ≤ x ∧ x ≤ d ∧ -d ≤ y ∧ y ≤ d ∧ x * x + y * y = d * d := ⟨fun h => ⟨h.1, h.2, h.3, h.4, h.5, h.6, h.7⟩, fun ⟨h1, h2, h3, h4, h5, h6, h7⟩ => ⟨h1, h2, h3, h4, h5, h6, h7⟩⟩
  rw [h]
  unfold f26
  by_cases e1 : d ≥ 1
  · by_cases e2 : d ≤ 67108864
    · rw [f45_gen (by omega), f45_gen (by omega)]
      by_cases e3 : -d ≤ x
      · by_cases e4 : x ≤ d
        · by_cases e5 : -d ≤ y
          · by_cases e6 : y ≤ d
            · rw [sq_wrap (by omega) (by omega) (by omega) (by omega) (by omega) (by omega)]
              simp [e1, e2, e3, e4, e5, e6]
            · simp [e1, e2, e3, e4, e5, e6]
          · simp [e1, e2, e3, e4, e5]
        · simp [e1, e2, e4]
      · simp [e1, e2, e3]
    · simp [e1, e2]
  · simp [e1]

/-- plan.Traced. -/
theorem f12_spec (h : Ray px py x y d) (hlo : 0 ≤ lo) (hlh : lo ≤ hi) (hhi : hi ≤ 2048) : f12 (px, py, x, y, d, lo, hi, ()) = some (trc px py x y d lo hi, 0, ()) := by
  obtain ⟨n, ob, q1, q2, q3⟩ := f27_spec h hlo hlh hhi
  have s1 : f25 px py = true := (f25_spec ⟨px, py⟩).2 h.p
  have s2 : f26 x y d = true := (f26_spec x y d).2 h.v
  have c1 : ¬ lo < 0 := by omega
  have c2 : ¬ hi < lo := by omega
  have c3 : ¬ hi > 2048 := by omega
  unfold f12
  simp only [s1, s2, Bool.not_true, cond_false, c1, c2, c3, decide_false, q1, Option.bind_some, Nat.zero_add, q2, decide_true, cond_true, List.drop_zero, q3]
theorem f12_bad (hv : ¬ VV x y d) : f12 (px, py, x, y, d, lo, hi, ()) = some ([], 1, ()) := by
  have s2 : f26 x y d = false := by
    cases e : f26 x y d with
    | false => rfl
    | true => exact (hv ((f26_spec x y d).1 e)).elim
  unfold f12
  simp only [s2]
  cases f25 px py <;> rfl
end

/-! ### The nearest wall -/

/-- How far away a cell begins. -/
noncomputable def dist (px py x y d : Int) (c : Pt) : Rat := match thruC px py x y d c with
  | some (l, _) => l * d
  | none => 0

theorem met_iff {px py x y d hi : Int} {c : Pt} : Met px py x y d 0 hi c ↔ (thruC px py x y d c).isSome = true ∧ dist px py x y d c ≤ (hi : Rat) := by
  unfold Met dist
  constructor
  · rintro ⟨l, h, e, _, h2⟩
    rw [e]
    exact ⟨rfl, h2⟩
  · rintro ⟨h1, h2⟩
    cases e : thruC px py x y d c with
    | none => rw [e] at h1; cases h1
    | some q =>
      obtain ⟨l, u⟩ := q
      rw [e] at h2
      obtain ⟨g1, g2, V⟩ := thruQ_lo e
      have hd := V.d1
      have hd' : (0 : Rat) ≤ d := by exact_mod_cast (by omega : (0 : Int) ≤ d)
      refine ⟨l, u, rfl, ?_, h2⟩
      have := Rat.mul_nonneg (Rat.le_trans g1 g2) hd'
      exact this

/-- Of what is met: its distance in lowest terms. -/
theorem dist_num {px py x y d hi : Int} {c : Pt} (h : Met px py x y d 0 hi c) : (0 ≤ (dist px py x y d c).num ∧ 1 ≤ ((dist px py x y d c).den : Int) ∧ ((dist px py x y d c).den : Int) ≤ 67108864) ∧ (dist px py x y d c).num ≤ hi * ((dist px py x y d c).den : Int) := by
  obtain ⟨l, u, e, _, h2⟩ := h
  have ed : dist px py x y d c = l * d := by unfold dist; rw [e]
  rw [ed]
  exact ⟨(thru_den e).1, num_le.2 h2⟩

section
variable (p : Pl) (px py x y d : Int)

/-- The first of the nearest walls of a list. -/
noncomputable def best : List Pt → Option (Rat × Pt) → Option (Rat × Pt)
  | [], b => b
  | c :: l, b => best l (if p.val c = 2 then (match b with
    | none => some (dist px py x y d c, c)
    | some (q, w) => if dist px py x y d c < q then some (dist px py x y d c, c) else some (q, w)) else b)

variable {p} {px} {py} {x} {y} {d}

theorem best_spec : ∀ (l : List Pt) (b : Option (Rat × Pt)),
    (best p px py x y d l b = none ↔ b = none ∧ ∀ c ∈ l, p.val c ≠ 2) ∧
      ∀ q w, best p px py x y d l b = some (q, w) → ((w ∈ l ∧ p.val w = 2 ∧ q = dist px py x y d w) ∨ b = some (q, w)) ∧ (∀ c ∈ l, p.val c = 2 → q ≤ dist px py x y d c) ∧ (∀ q0 w0, b = some (q0, w0) → q ≤ q0)
  | [], b => by
    unfold best
    refine ⟨by simp, fun q w e => ⟨.inr e, by simp, fun q0 w0 e0 => by rw [e] at e0; cases e0; exact Rat.le_refl⟩⟩
  | c :: l, b => by
    unfold best
    by_cases hw : p.val c = 2
    · rw [if_pos hw]
      cases b with
      | none =>
        obtain ⟨h1, h2⟩ := best_spec l (some (dist px py x y d c, c))
        refine ⟨⟨fun e => ?_, fun h => ?_⟩, fun q w e => ?_⟩
        · have := h1.1 e
          cases this.1
        · exact (h.2 c (List.mem_cons_self ..) hw).elim
        · obtain ⟨k1, k2, k3⟩ := h2 q w e
          refine ⟨.inl ?_, fun c' hc' hw' => ?_, fun _ _ e => by cases e⟩
          · rcases k1 with ⟨a1, a2, a3⟩ | e
            · exact ⟨List.mem_cons_of_mem _ a1, a2, a3⟩
            · cases e
              exact ⟨List.mem_cons_self .., hw, rfl⟩
          · rcases List.mem_cons.1 hc' with rfl | hc'
            · exact k3 _ _ rfl
            · exact k2 c' hc' hw'
      | some b =>
        obtain ⟨q1, w1⟩ := b
        simp only
        by_cases hlt : dist px py x y d c < q1
        · rw [if_pos hlt]
          obtain ⟨h1, h2⟩ := best_spec l (some (dist px py x y d c, c))
          refine ⟨⟨fun e => ?_, fun h => by cases h.1⟩, fun q w e => ?_⟩
          · have := h1.1 e
            cases this.1
          · obtain ⟨k1, k2, k3⟩ := h2 q w e
            have k4 := k3 _ _ rfl
            refine ⟨.inl ?_, fun c' hc' hw' => ?_, fun q0 w0 e => by cases e; exact Rat.le_trans k4 (Rat.le_of_lt hlt)⟩
            · rcases k1 with ⟨a1, a2, a3⟩ | e
              · exact ⟨List.mem_cons_of_mem _ a1, a2, a3⟩
              · cases e
                exact ⟨List.mem_cons_self .., hw, rfl⟩
            · rcases List.mem_cons.1 hc' with rfl | hc'
              · exact k4
              · exact k2 c' hc' hw'
        · rw [if_neg hlt]
          obtain ⟨h1, h2⟩ := best_spec l (some (q1, w1))
          refine ⟨⟨fun e => ?_, fun h => by cases h.1⟩, fun q w e => ?_⟩
          · have := h1.1 e
            cases this.1
          · obtain ⟨k1, k2, k3⟩ := h2 q w e
            have k4 := k3 _ _ rfl
            refine ⟨?_, fun c' hc' hw' => ?_, k3⟩
            · rcases k1 with ⟨a1, a2, a3⟩ | e
              · exact .inl ⟨List.mem_cons_of_mem _ a1, a2, a3⟩
              · exact .inr e
            · rcases List.mem_cons.1 hc' with rfl | hc'
              · exact Rat.le_trans k4 (Rat.not_lt.1 hlt)
              · exact k2 c' hc' hw'
    · rw [if_neg hw]
      obtain ⟨h1, h2⟩ := best_spec l b
      refine ⟨⟨fun e => ?_, fun h => h1.2 ⟨h.1, fun c' hc' => h.2 c' (List.mem_cons_of_mem _ hc')⟩⟩, fun q w e => ?_⟩
      · have := h1.1 e
        refine ⟨this.1, fun c' hc' => ?_⟩
        rcases List.mem_cons.1 hc' with rfl | hc'
        · exact hw
        · exact this.2 c' hc'
      · obtain ⟨k1, k2, k3⟩ := h2 q w e
        refine ⟨?_, fun c' hc' hw' => ?_, k3⟩
        · rcases k1 with ⟨a1, a2, a3⟩ | e
          · exact .inl ⟨List.mem_cons_of_mem _ a1, a2, a3⟩
          · exact .inr e
        · rcases List.mem_cons.1 hc' with rfl | hc'
          · exact (hw hw').elim
          · exact k2 c' hc' hw'

/-- What is kept of the nearest so far: found, numerator, denominator, cell. -/
def encB : Option (Rat × Pt) → Bool × Int × Int × Int × Int
  | none => (false, 0, 0, 0, 0)
  | some (q, w) => (true, q.num, (q.den : Int), w.X, w.Y)

theorem f13_spec (hp : p.Ok) (c : Pt) : f13 (p.W, p.H, p.C, c.X, c.Y, ()) = some (p.val c, ()) := by
  have hv := hp.vld
  have e78 : f29 p.W p.H p.C c.X c.Y = decide (p.inP c) := by
    unfold f29
    rw [Bool.eq_iff_iff, decide_eq_true_iff]
    unfold Pl.inP
    by_cases e1 : c.X ≥ 0 <;> by_cases e2 : c.Y ≥ 0 <;> by_cases e3 : c.X < p.W <;> by_cases e4 : c.Y < p.H <;> simp [e1, e2, e3, e4] <;> omega
  unfold f13 Pl.val
  simp only [f28_spec (p := p) (by have := hp.few; omega), Option.bind_some, hv, Bool.not_true, cond_false, e78]
  by_cases hc : p.inP c
  · simp only [hc, decide_true, Bool.not_true, cond_false, ix_w hp hc, idxO_nat, cell_get hp hc, Option.bind_some, if_true]
  · simp only [hc, decide_false, Bool.not_false, cond_true, if_false]

/-- What is compared fits. -/
theorem num_mul {q r : Rat} {hi : Int} (h0 : 0 ≤ q.num) (hq : (q.den : Int) ≤ 67108864) (hn : q.num ≤ hi * (q.den : Int)) (hhi : hi ≤ 2048) (hr : (r.den : Int) ≤ 67108864) : 0 ≤ q.num * (r.den : Int) ∧ q.num * (r.den : Int) ≤ 9223372036854775807 := by
  have hd := q.den_pos
  have h1 := Int.mul_le_mul_of_nonneg_right hhi (show 0 ≤ (q.den : Int) by omega)
  refine ⟨Int.mul_nonneg h0 (by omega), ?_⟩
  by_cases e : q.num = 2048 * (q.den : Int)
  · have hr1 := q.reduced
    have hdv : q.den ∣ q.num.natAbs := by
      rw [e, Int.natAbs_mul, Int.natAbs_natCast]
      exact Nat.dvd_mul_left _ _
    have h2 : q.den = 1 := (Nat.gcd_eq_right hdv).symm.trans hr1
    have := mulb (a := q.num) (b := (r.den : Int)) (A := 2048) (B := 67108864) (by omega) (by omega) (by omega) (by omega)
    omega
  · have := mulb (a := q.num) (b := (r.den : Int)) (A := 137438953471) (B := 67108864) (by omega) (by omega) (by omega) (by omega)
    omega

theorem l14_0_spec (hp : p.Ok) (h : Ray px py x y d) {hi : Int} (hhi : hi ≤ 2048) (L : List Pt) (hL : ∀ c ∈ L, Met px py x y d 0 hi c) (hL2 : L.length ≤ 1000000) (hok : ∀ c ∈ L, okC c) : ∀ (t i : Nat) (b : Option (Rat × Pt)), L.length - i = t → i ≤ L.length → (∀ q w, b = some (q, w) → (0 ≤ q.num ∧ (q.den : Int) ≤ 67108864) ∧ q.num ≤ hi * (q.den : Int)) →
    l14_0 ((encB b).1, L, (L.length : Int), (i : Int), p.W, p.H, p.C, px, py, x, y, d, 0, 0, 0, 0, (encB b).2.1, (encB b).2.2.1, (encB b).2.2.2.1, (encB b).2.2.2.2, ()) =
      some ((encB (best p px py x y d (L.drop i) b)).1, 0, 0, 0, 0, (encB (best p px py x y d (L.drop i) b)).2.1, (encB (best p px py x y d (L.drop i) b)).2.2.1, (encB (best p px py x y d (L.drop i) b)).2.2.2.1, (encB (best p px py x y d (L.drop i) b)).2.2.2.2, ())
  | t, i, b, ht, hi', hb => by
    unfold l14_0
    rw [iterO_eq]
    by_cases e : i = L.length
    · have c1 : ¬ ((i : Int) < (L.length : Int)) := by omega
      have hd : L.drop i = [] := List.drop_eq_nil_of_le (by omega)
      rw [hd]
      unfold r14_0 best
      simp only [c1, decide_false, cond_false]
    · have hlt : i < L.length := by omega
      have c1 : ((i : Int) < (L.length : Int)) := by omega
      obtain ⟨c, hc⟩ : ∃ c, L[i]? = some c := ⟨_, List.getElem?_eq_getElem hlt⟩
      have hcm := List.mem_of_getElem? hc
      have hdrop : L.drop i = c :: L.drop (i + 1) := by
        rw [List.drop_eq_getElem_cons hlt]
        rw [List.getElem?_eq_getElem hlt] at hc
        rw [Option.some.inj hc]
      have w1 : IntKind.i64.wrap ((i : Int) + 1) = ((i + 1 : Nat) : Int) := by rw [w64 (by omega) (by omega)]; rfl
      have hmet := hL c hcm
      obtain ⟨⟨m1, m2, m3⟩, m4⟩ := dist_num hmet
      have h61 := (f31_spec c).1 (hok c hcm)
      have h98 : f32 (px, py, x, y, d, c.X * 64, c.Y * 64, c.X * 64 + 64, c.Y * 64 + 64, ()) = some ((dist px py x y d c).num, ((dist px py x y d c).den : Int), true, ()) := by
        rw [f32_sg]
        obtain ⟨l, u, e1, _, _⟩ := hmet
        have e2 : thruQ px py x y d (c.X * 64) (c.Y * 64) (c.X * 64 + 64) (c.Y * 64 + 64) = some (l, u) := e1
        unfold dist
        rw [e1, e2]
        rfl
      match t, ht with
      | 0, ht => omega
      | t + 1, ht =>
        rw [hdrop]
        unfold best
        by_cases hw : p.val c = 2
        · have hv : (p.val c != 2) = false := by simp [hw]
          rw [if_pos hw]
          have hnew : ∀ q w, some (dist px py x y d c, c) = some (q, w) → (0 ≤ q.num ∧ (q.den : Int) ≤ 67108864) ∧ q.num ≤ hi * (q.den : Int) := fun q w e => by cases e; exact ⟨⟨m1, m3⟩, m4⟩
          cases b with
          | none =>
            have hstep : r14_0 ((encB none).1, L, (L.length : Int), (i : Int), p.W, p.H, p.C, px, py, x, y, d, 0, 0, 0, 0, (encB none).2.1, (encB none).2.2.1, (encB none).2.2.2.1, (encB none).2.2.2.2, ()) =
                some (.inl ((encB (some (dist px py x y d c, c))).1, L, (L.length : Int), ((i + 1 : Nat) : Int), p.W, p.H, p.C, px, py, x, y, d, 0, 0, 0, 0, (encB (some (dist px py x y d c, c))).2.1, (encB (some (dist px py x y d c, c))).2.2.1, (encB (some (dist px py x y d c, c))).2.2.2.1, (encB (some (dist px py x y d c, c))).2.2.2.2, ())) := by
              unfold r14_0
              simp only [c1, decide_true, cond_true, idxO_nat, hc, Option.bind_some, f13_spec hp, hv, cond_false, h61, h98, encB, Bool.not_false, j14_52, w1]
            rw [hstep]
            exact l14_0_spec hp h hhi L hL hL2 hok t (i + 1) (some (dist px py x y d c, c)) (by omega) (by omega) hnew
          | some b =>
            obtain ⟨q1, w1'⟩ := b
            obtain ⟨⟨n1, n3⟩, n4⟩ := hb q1 w1' rfl
            have n2 : 1 ≤ (q1.den : Int) := by have := q1.den_pos; omega
            have k1 := num_mul (r := q1) m1 m3 m4 hhi n3
            have k2 := num_mul (r := dist px py x y d c) n1 n3 n4 hhi m3
            have wa : IntKind.i64.wrap ((dist px py x y d c).num * (q1.den : Int)) = (dist px py x y d c).num * (q1.den : Int) := w64 (by omega) (by omega)
            have wb : IntKind.i64.wrap (q1.num * ((dist px py x y d c).den : Int)) = q1.num * ((dist px py x y d c).den : Int) := w64 (by omega) (by omega)
            simp only
            by_cases hlt2 : dist px py x y d c < q1
            · have hc2 : (dist px py x y d c).num * (q1.den : Int) < q1.num * ((dist px py x y d c).den : Int) := (Rat.lt_iff _ _).1 hlt2
              rw [if_pos hlt2]
              have hstep : r14_0 ((encB (some (q1, w1'))).1, L, (L.length : Int), (i : Int), p.W, p.H, p.C, px, py, x, y, d, 0, 0, 0, 0, (encB (some (q1, w1'))).2.1, (encB (some (q1, w1'))).2.2.1, (encB (some (q1, w1'))).2.2.2.1, (encB (some (q1, w1'))).2.2.2.2, ()) =
                  some (.inl ((encB (some (dist px py x y d c, c))).1, L, (L.length : Int), ((i + 1 : Nat) : Int), p.W, p.H, p.C, px, py, x, y, d, 0, 0, 0, 0, (encB (some (dist px py x y d c, c))).2.1, (encB (some (dist px py x y d c, c))).2.2.1, (encB (some (dist px py x y d c, c))).2.2.2.1, (encB (some (dist px py x y d c, c))).2.2.2.2, ())) := by
                unfold r14_0
                simp only [c1, decide_true, cond_true, idxO_nat, hc, Option.bind_some, f13_spec hp, hv, cond_false, h61, h98, encB, Bool.not_true, wa, wb, hc2, j14_52, w1]
              rw [hstep]
              exact l14_0_spec hp h hhi L hL hL2 hok t (i + 1) (some (dist px py x y d c, c)) (by omega) (by omega) hnew
            · have hc2 : ¬ (dist px py x y d c).num * (q1.den : Int) < q1.num * ((dist px py x y d c).den : Int) := fun h => hlt2 ((Rat.lt_iff _ _).2 h)
              rw [if_neg hlt2]
              have hstep : r14_0 ((encB (some (q1, w1'))).1, L, (L.length : Int), (i : Int), p.W, p.H, p.C, px, py, x, y, d, 0, 0, 0, 0, (encB (some (q1, w1'))).2.1, (encB (some (q1, w1'))).2.2.1, (encB (some (q1, w1'))).2.2.2.1, (encB (some (q1, w1'))).2.2.2.2, ()) =
                  some (.inl ((encB (some (q1, w1'))).1, L, (L.length : Int), ((i + 1 : Nat) : Int), p.W, p.H, p.C, px, py, x, y, d, 0, 0, 0, 0, (encB (some (q1, w1'))).2.1, (encB (some (q1, w1'))).2.2.1, (encB (some (q1, w1'))).2.2.2.1, (encB (some (q1, w1'))).2.2.2.2, ())) := by
                unfold r14_0
                simp only [c1, decide_true, cond_true, idxO_nat, hc, Option.bind_some, f13_spec hp, hv, cond_false, h61, h98, encB, Bool.not_true, wa, wb, hc2, decide_false, j14_52, w1]
              rw [hstep]
              exact l14_0_spec hp h hhi L hL hL2 hok t (i + 1) (some (q1, w1')) (by omega) (by omega) hb
        · have hv : (p.val c != 2) = true := by simpa using hw
          rw [if_neg hw]
          have hstep : r14_0 ((encB b).1, L, (L.length : Int), (i : Int), p.W, p.H, p.C, px, py, x, y, d, 0, 0, 0, 0, (encB b).2.1, (encB b).2.2.1, (encB b).2.2.2.1, (encB b).2.2.2.2, ()) =
              some (.inl ((encB b).1, L, (L.length : Int), ((i + 1 : Nat) : Int), p.W, p.H, p.C, px, py, x, y, d, 0, 0, 0, 0, (encB b).2.1, (encB b).2.2.1, (encB b).2.2.2.1, (encB b).2.2.2.2, ())) := by
            unfold r14_0
            simp only [c1, decide_true, cond_true, idxO_nat, hc, Option.bind_some, f13_spec hp, hv, j14_52, w1]
          rw [hstep]
          exact l14_0_spec hp h hhi L hL hL2 hok t (i + 1) b (by omega) (by omega) hb
end
end Go.AE
