/-
  Headings; ray.First, ray.Measure, ray.Plausible: what is measured is plausible.
-/
import Derived.Test.YtadnppefidjhfaaGreatP2
namespace Go.AE
open Go.Proofs Go.RowKit
set_option maxRecDepth 100000

/-! ### Directions -/

theorem l74_6_spec (v0 v1 v2 z0 z1 z2 z3 z4 z5 : Int) : ∀ (b a : Int), 0 ≤ a → 0 ≤ b → iterO r74_6 (v0, v1, v2, a, b, z0, z1, z2, z3, z4, z5, ()) = some (v0, v1, v2, (Int.gcd a b : Int), z0, z1, z2, z3, z4, z5, ()) := by
  intro b a ha hb
  obtain ⟨y, h1, h2⟩ := iterO_rule (f := r74_6) (fun s => s.1 = v0 ∧ s.2.1 = v1 ∧ s.2.2.1 = v2 ∧ 0 ≤ s.2.2.2.1 ∧ 0 ≤ s.2.2.2.2.1 ∧ s.2.2.2.2.2 = (z0, z1, z2, z3, z4, z5, ())) (fun s => s.2.2.2.2.1.toNat)
    (fun s y => y = (v0, v1, v2, (Int.gcd s.2.2.2.1 s.2.2.2.2.1 : Int), z0, z1, z2, z3, z4, z5, ())) (by
    rintro ⟨n1, n2, n3, a, b, y0, y1, y2, y3, y4, y5, u⟩ ⟨rfl, rfl, rfl, h3, h4, h5⟩
    cases h5
    simp only at h3 h4
    by_cases hb : b = 0
    · subst hb
      right
      refine ⟨_, rfl, ?_⟩
      simp
      omega
    · left
      obtain ⟨q1, q2, q3⟩ := tmod_gcd h3 (b := b) (by omega)
      refine ⟨(n1, n2, n3, b, a.tmod b, z0, z1, z2, z3, z4, z5, ()), ?_, ⟨rfl, rfl, rfl, by simp only; omega, q1, rfl⟩, by simp only; omega, fun y hy => ?_⟩
      · unfold r74_6
        have hb2 : (b == 0) = false := by simp [hb]
        simp [bne, hb2]
      · simp only at hy ⊢
        rw [hy, q3]) (v0, v1, v2, a, b, z0, z1, z2, z3, z4, z5, ()) ⟨rfl, rfl, rfl, ha, hb, rfl⟩
  rw [h1, h2]

theorem abs_c {n : Int} (h1 : -1152921504606846976 ≤ n) (h2 : n ≤ 1152921504606846976) : (bif decide (IntKind.i64.wrap (0 - n) > n) then IntKind.i64.wrap (0 - n) else n) = (n.natAbs : Int) := by
  have w : IntKind.i64.wrap (0 - n) = -n := by rw [w64 (by omega) (by omega)]; omega
  rw [w]
  by_cases h : -n > n
  · simp only [h, decide_true, cond_true]; omega
  · simp only [h, decide_false, cond_false]; omega

/-- heading.lowest. -/
theorem f74_spec {x y d : Int} (hd : 1 ≤ d) (hd2 : d ≤ 1152921504606846976) (hx : -1152921504606846976 ≤ x ∧ x ≤ 1152921504606846976) (hy : -1152921504606846976 ≤ y ∧ y ≤ 1152921504606846976) :
    ∃ g X Y D : Int, 1 ≤ g ∧ x = g * X ∧ y = g * Y ∧ d = g * D ∧ f74 (x, y, d, ()) = some (X, Y, D, ()) := by
  obtain ⟨g1, hg1⟩ : ∃ g1 : Int, (Int.gcd d (x.natAbs : Int) : Int) = g1 := ⟨_, rfl⟩
  obtain ⟨g2, hg2⟩ : ∃ g2 : Int, (Int.gcd g1 (y.natAbs : Int) : Int) = g2 := ⟨_, rfl⟩
  have p1 : 1 ≤ g1 := by
    rw [← hg1]
    have := Int.gcd_pos_of_ne_zero_left (x.natAbs : Int) (show d ≠ 0 by omega)
    omega
  have p2 : 1 ≤ g2 := by
    rw [← hg2]
    have := Int.gcd_pos_of_ne_zero_left (y.natAbs : Int) (show g1 ≠ 0 by omega)
    omega
  have d1 : g1 ∣ d := by rw [← hg1]; exact Int.gcd_dvd_left ..
  have d2 : g1 ∣ (x.natAbs : Int) := by rw [← hg1]; exact Int.gcd_dvd_right ..
  have d3 : g2 ∣ g1 := by rw [← hg2]; exact Int.gcd_dvd_left ..
  have d4 : g2 ∣ (y.natAbs : Int) := by rw [← hg2]; exact Int.gcd_dvd_right ..
  have dx : g2 ∣ x := Int.dvd_natAbs.1 (Int.dvd_trans d3 d2)
  have dy : g2 ∣ y := Int.dvd_natAbs.1 d4
  have dd : g2 ∣ d := Int.dvd_trans d3 d1
  obtain ⟨X, hX⟩ := dx
  obtain ⟨Y, hY⟩ := dy
  obtain ⟨D, hD⟩ := dd
  have t1 : x.tdiv g2 = X := by rw [hX]; exact Int.mul_tdiv_cancel_left _ (by omega)
  have t2 : y.tdiv g2 = Y := by rw [hY]; exact Int.mul_tdiv_cancel_left _ (by omega)
  have t3 : d.tdiv g2 = D := by rw [hD]; exact Int.mul_tdiv_cancel_left _ (by omega)
  have bnd : ∀ n q : Int, n = g2 * q → q.natAbs ≤ n.natAbs := fun n q e => by
    rw [e, Int.natAbs_mul]
    exact Nat.le_mul_of_pos_left _ (by omega)
  have bX := bnd x X hX
  have bY := bnd y Y hY
  have bD := bnd d D hD
  have wX : IntKind.i64.wrap X = X := w64 (by omega) (by omega)
  have wY : IntKind.i64.wrap Y = Y := w64 (by omega) (by omega)
  have wD : IntKind.i64.wrap D = D := w64 (by omega) (by omega)
  refine ⟨g2, X, Y, D, p2, hX, hY, hD, ?_⟩
  have s1 := l74_6_spec x y d x y 0 0 0 0 (x.natAbs : Int) d (by omega) (by omega)
  have s2 := l74_6_spec x y d x y 1 0 0 0 (y.natAbs : Int) g1 (by omega) (by omega)
  rw [hg1] at s1
  rw [hg2] at s2
  have a1 := abs_c hx.1 hx.2
  have a2 := abs_c hy.1 hy.2
  have i0 : idxO [x, y] (0 : Int) = some x := rfl
  have i1 : idxO [x, y] (1 : Int) = some y := rfl
  have hl : l74_0 (x, y, d, d, x, y, 0, 0, 0, 0, ()) = some (x, y, d, g2, 0, 0, 0, ()) := by
    unfold l74_0
    have r0 : r74_0 (x, y, d, d, x, y, 0, 0, 0, 0, ()) = some (.inl (x, y, d, g1, x, y, 1, 0, 0, 0, ())) := by
      unfold r74_0 l74_6
      simp only [i0, Option.bind_some, a1, s1]
      rfl
    have r1 : r74_0 (x, y, d, g1, x, y, 1, 0, 0, 0, ()) = some (.inl (x, y, d, g2, x, y, 2, 0, 0, 0, ())) := by
      unfold r74_0 l74_6
      simp only [i1, Option.bind_some, a2, s2]
      rfl
    have r2 : r74_0 (x, y, d, g2, x, y, 2, 0, 0, 0, ()) = some (.inr (x, y, d, g2, 0, 0, 0, ())) := by
      unfold r74_0
      rfl
    rw [iterO_eq, r0]
    show iterO r74_0 _ = _
    rw [iterO_eq, r1]
    show iterO r74_0 _ = _
    rw [iterO_eq, r2]
  have q : (g2 == 0) = false := by rw [beq_eq_false_iff_ne]; omega
  unfold f74
  simp only [hl, Option.bind_some, q, cond_false, t1, t2, t3, wX, wY, wD]

/-- A unit vector of a mark's kind. -/
structure VD (x y d : Int) : Prop where
  v : VV x y d
  s : d ≤ 8192

theorem VD.turn {x y d : Int} (h : VD x y d) : VD (-y) x d := by
  obtain ⟨⟨h1, h2, h3, h4, h5, h6, h7⟩, h8⟩ := h
  refine ⟨⟨h1, h2, by omega, by omega, h3, h4, ?_⟩, h8⟩
  have : -y * -y = y * y := by rw [Int.neg_mul_neg]
  rw [this]
  omega

theorem l57_0_spec (k z0 z1 z2 z3 : Int) (hk : k ≤ 3) : ∀ (t : Nat) (i x y d : Int), (k - i).toNat = t → 0 ≤ i → VD x y d → ∃ x' y', l57_0 (k, i, z0, z1, z2, x, y, d, ()) = some (z0, z1, z2, x', y', d, ()) ∧ VD x' y' d
  | t, i, x, y, d, ht, hi, hv => by
    unfold l57_0
    rw [iterO_eq]
    by_cases c : i < k
    · have w1 : IntKind.i64.wrap (i + 1) = i + 1 := w64 (by omega) (by omega)
      have := hv.v.y1
      have := hv.v.y2
      have := hv.s
      have w2 : IntKind.i64.wrap (0 - y) = -y := by rw [w64 (by omega) (by omega)]; omega
      have hd : r57_0 (k, i, z0, z1, z2, x, y, d, ()) = some (.inl (k, i + 1, z0, z1, z2, -y, x, d, ())) := by
        unfold r57_0
        simp only [c, decide_true, cond_true, w1, w2]
      rw [hd]
      match t, ht with
      | 0, ht => omega
      | t + 1, ht => exact l57_0_spec k z0 z1 z2 z3 hk t (i + 1) (-y) x d (by omega) (by omega) hv.turn
    · have hd : r57_0 (k, i, z0, z1, z2, x, y, d, ()) = some (.inr (z0, z1, z2, x, y, d, ())) := by
        unfold r57_0
        simp only [c, decide_false, cond_false]
      rw [hd]
      exact ⟨x, y, rfl, hv⟩

theorem f75_spec (q : Int) : f75 q = q % 256 := by
  show IntKind.i64.wrap ((BitVec.ofInt 64 q &&& BitVec.ofInt 64 255).toNat : Int) = _
  have e : (BitVec.ofInt 64 q &&& BitVec.ofInt 64 255).toNat = (q % 18446744073709551616).toNat % 256 := by
    rw [BitVec.toNat_and, BitVec.toNat_ofInt, BitVec.toNat_ofInt]
    exact Nat.and_two_pow_sub_one_eq_mod _ 8
  rw [e, w64 (by omega) (by omega)]
  omega

/-- A vector in lowest terms is one. -/
theorem VV_div {x y d g X Y D : Int} (hg : 1 ≤ g) (h : VV x y d) (hx : x = g * X) (hy : y = g * Y) (hd : d = g * D) : VV X Y D ∧ D ≤ d := by
  obtain ⟨h1, h2, h3, h4, h5, h6, h7⟩ := h
  have gp : 0 < g := by omega
  have D1 : 1 ≤ D := by
    rcases Int.lt_or_le D 1 with hlt | hle
    · have := Int.mul_le_mul_of_nonneg_left (show D ≤ 0 by omega) (show 0 ≤ g by omega)
      omega
    · exact hle
  have dd : D ≤ d := by
    have := Int.mul_le_mul_of_nonneg_right hg (show 0 ≤ D by omega)
    omega
  have cmp : ∀ a b : Int, g * a ≤ g * b → a ≤ b := fun a b hab => Int.le_of_mul_le_mul_left hab gp
  refine ⟨⟨D1, by omega, cmp _ _ ?_, cmp _ _ (by omega), cmp _ _ ?_, cmp _ _ (by omega), ?_⟩, dd⟩
  · rw [Int.mul_neg]; omega
  · rw [Int.mul_neg]; omega
  · rw [hx, hy, hd] at h7
    have e : g * g * (X * X + Y * Y) = g * g * (D * D) := by
      have e1 : g * X * (g * X) = g * g * (X * X) := by simp only [Int.mul_comm, Int.mul_left_comm]
      have e2 : g * Y * (g * Y) = g * g * (Y * Y) := by simp only [Int.mul_comm, Int.mul_left_comm]
      have e3 : g * D * (g * D) = g * g * (D * D) := by simp only [Int.mul_comm, Int.mul_left_comm]
      rw [Int.mul_add, ← e1, ← e2, ← e3]
      exact h7
    exact Int.eq_of_mul_eq_mul_left (by have := Int.mul_pos gp gp; omega) e

/-- heading.Dir. -/
theorem f57_spec (h : Int) : ∃ X Y D, f57 (h, ()) = some (X, Y, D, ()) ∧ VD X Y D := by
  have m0 := Int.emod_nonneg h (show (256 : Int) ≠ 0 by omega)
  have m1 := Int.emod_lt_of_pos h (show (0 : Int) < 256 by omega)
  obtain ⟨m, hm⟩ : ∃ m, h % 256 = m := ⟨_, rfl⟩
  rw [hm] at m0 m1
  obtain ⟨k, hk⟩ : ∃ k, m % 64 = k := ⟨_, rfl⟩
  have k0 : 0 ≤ k ∧ k < 64 := by omega
  have e1 : m.tmod 64 = k := by rw [Int.tmod_eq_emod_of_nonneg m0, hk]
  have e2 : m.tdiv 64 = m / 64 := Int.tdiv_eq_ediv_of_nonneg m0
  have kk := mulb (a := k) (b := k) (A := 63) (B := 63) (by omega) (by omega) (by omega) (by omega)
  have kk0 : 0 ≤ k * k := Int.mul_nonneg k0.1 k0.1
  have w1 : IntKind.i64.wrap (k * k) = k * k := w64 (by omega) (by omega)
  have w2 : IntKind.i64.wrap (4096 - k * k) = 4096 - k * k := w64 (by omega) (by omega)
  have w3 : IntKind.i64.wrap (128 * k) = 128 * k := w64 (by omega) (by omega)
  have w4 : IntKind.i64.wrap (4096 + k * k) = 4096 + k * k := w64 (by omega) (by omega)
  have w5 : IntKind.i64.wrap (m / 64) = m / 64 := w64 (by omega) (by omega)
  obtain ⟨g, X, Y, D, hg, hx, hy, hd, s1⟩ := f74_spec (x := 4096 - k * k) (y := 128 * k) (d := 4096 + k * k) (by omega) (by omega) (by omega) (by omega)
  have hV : VV (4096 - k * k) (128 * k) (4096 + k * k) := by
    have hk8 : 128 * k ≤ 4096 + k * k := by
      have := Int.mul_nonneg (show 0 ≤ 64 - k by omega) (show 0 ≤ 64 - k by omega)
      rw [Int.sub_mul, Int.mul_sub, Int.mul_sub] at this
      omega
    refine ⟨by omega, by omega, by omega, by omega, by omega, hk8, ?_⟩
    grind
  obtain ⟨hV2, hle⟩ := VV_div hg hV hx hy hd
  obtain ⟨X', Y', s2, hVD⟩ := l57_0_spec (m / 64) 0 0 0 0 (by omega) _ 0 X Y D rfl (by omega) ⟨hV2, by omega⟩
  refine ⟨X', Y', D, ?_, hVD⟩
  unfold f57
  simp only [f75_spec, hm, e1, e2, w1, w2, w3, w4, w5, s1, Option.bind_some, s2]

theorem f73_spec (x y d : Int) : f73 x y d = f113 x y d := rfl

/-- heading.Turn of two such vectors. -/
theorem f32_spec (h m : Int) : ∃ X Y D, f32 (h, m, ()) = some (X, Y, D, ()) ∧ VV X Y D := by
  obtain ⟨a, b, c, s1, v1⟩ := f57_spec h
  obtain ⟨a', b', c', s2, v2⟩ := f57_spec m
  have t1 : f73 a b c = true := (f113_sg a b c).2 v1.v
  have t2 : f73 a' b' c' = true := (f113_sg a' b' c').2 v2.v
  obtain ⟨⟨p1, p2, p3, p4, p5, p6, p7⟩, p8⟩ := v1
  obtain ⟨⟨q1, q2, q3, q4, q5, q6, q7⟩, q8⟩ := v2
  have m1 := mulb (a := a) (b := a') (A := 8192) (B := 8192) (by omega) (by omega) (by omega) (by omega)
  have m2 := mulb (a := b) (b := b') (A := 8192) (B := 8192) (by omega) (by omega) (by omega) (by omega)
  have m3 := mulb (a := a) (b := b') (A := 8192) (B := 8192) (by omega) (by omega) (by omega) (by omega)
  have m4 := mulb (a := b) (b := a') (A := 8192) (B := 8192) (by omega) (by omega) (by omega) (by omega)
  have m5 := mulb (a := c) (b := c') (A := 8192) (B := 8192) (by omega) (by omega) (by omega) (by omega)
  have c1 : 1 ≤ c * c' := by have := Int.mul_pos (show 0 < c by omega) (show 0 < c' by omega); omega
  have w1 : IntKind.i64.wrap (a * a') = a * a' := w64 (by omega) (by omega)
  have w2 : IntKind.i64.wrap (b * b') = b * b' := w64 (by omega) (by omega)
  have w3 : IntKind.i64.wrap (a * b') = a * b' := w64 (by omega) (by omega)
  have w4 : IntKind.i64.wrap (b * a') = b * a' := w64 (by omega) (by omega)
  have w5 : IntKind.i64.wrap (c * c') = c * c' := w64 (by omega) (by omega)
  have w6 : IntKind.i64.wrap (a * a' - b * b') = a * a' - b * b' := w64 (by omega) (by omega)
  have w7 : IntKind.i64.wrap (a * b' + b * a') = a * b' + b * a' := w64 (by omega) (by omega)
  have hsq : (a * a' - b * b') * (a * a' - b * b') + (a * b' + b * a') * (a * b' + b * a') = c * c' * (c * c') := by
    have e : (a * a' - b * b') * (a * a' - b * b') + (a * b' + b * a') * (a * b' + b * a') = (a * a + b * b) * (a' * a' + b' * b') := by grind
    rw [e, p7, q7]
    grind
  have big : ∀ u : Int, 0 ≤ u * u := fun u => by
    rcases Int.le_total 0 u with h | h
    · exact Int.mul_nonneg h h
    · have := Int.mul_nonneg (show 0 ≤ -u by omega) (show 0 ≤ -u by omega)
      rwa [Int.neg_mul_neg] at this
  have leof : ∀ u w : Int, 0 ≤ w → u * u ≤ w * w → u ≤ w := fun u w hw huw => by
    rcases Int.lt_or_le w u with h | h
    · have h1 := Int.mul_lt_mul_of_pos_left h (show 0 < u by omega)
      have h2 := Int.mul_le_mul_of_nonneg_right (Int.le_of_lt h) hw
      omega
    · exact h
  have hV : VV (a * a' - b * b') (a * b' + b * a') (c * c') := by
    have b1 := big (a * b' + b * a')
    have b2 := big (a * a' - b * b')
    refine ⟨c1, by omega, ?_, leof _ _ (by omega) (by omega), ?_, leof _ _ (by omega) (by omega), hsq⟩
    · have := leof (-(a * a' - b * b')) (c * c') (by omega) (by rw [Int.neg_mul_neg]; omega)
      omega
    · have := leof (-(a * b' + b * a')) (c * c') (by omega) (by rw [Int.neg_mul_neg]; omega)
      omega
  obtain ⟨g, X, Y, D, hg, hx, hy, hd, s3⟩ := f74_spec (x := a * a' - b * b') (y := a * b' + b * a') (d := c * c') c1 (by omega) (by omega) (by omega)
  obtain ⟨hV2, hle⟩ := VV_div hg hV hx hy hd
  have c2 : ¬ D > 67108864 := by have := hV2.d2; omega
  refine ⟨X, Y, D, ?_, hV2⟩
  unfold f32 f56
  simp only [s1, s2, Option.bind_some, t1, t2, Bool.not_true, cond_false, w1, w2, w3, w4, w5, w6, w7, s3, c2, decide_false]

/-! ### First -/

/-- The nearest wall within a distance. -/
noncomputable def fst (p : Pl) (px py x y d most : Int) : Option (Rat × Pt) := best p px py x y d (trc px py x y d 0 most) none

theorem fst_none {p : Pl} {px py x y d most : Int} (h0 : 0 ≤ most) : fst p px py x y d most = none ↔ ∀ c, p.val c = 2 → ¬ Met px py x y d 0 most c := by
  unfold fst
  rw [(best_spec _ _).1]
  constructor
  · rintro ⟨_, h⟩ c hc hm
    exact h c ((trc_mem h0 c).2 hm) hc
  · intro h
    exact ⟨rfl, fun c hc hw => h c hw ((trc_mem h0 c).1 hc)⟩
theorem fst_some {p : Pl} {px py x y d most : Int} {q : Rat} {w : Pt} (h0 : 0 ≤ most) (h : fst p px py x y d most = some (q, w)) :
    (Met px py x y d 0 most w ∧ p.val w = 2 ∧ q = dist px py x y d w) ∧ ∀ c, p.val c = 2 → Met px py x y d 0 most c → q ≤ dist px py x y d c := by
  unfold fst at h
  obtain ⟨k1, k2, _⟩ := (best_spec _ _).2 q w h
  refine ⟨?_, fun c hc hm => k2 c ((trc_mem h0 c).2 hm) hc⟩
  rcases k1 with ⟨a1, a2, a3⟩ | e
  · exact ⟨(trc_mem h0 w).1 a1, a2, a3⟩
  · cases e

section
variable {p : Pl} {px py x y d : Int}

theorem Ok.in_near (hp : p.Ok) (hin : inRp p ⟨px, py⟩) : nearP ⟨px, py⟩ := by
  have h1 := hp.w2
  have h2 := hp.h2
  unfold inRp at hin
  unfold nearP
  simp only at hin ⊢
  omega

theorem trc_len {lo hi : Int} (h : Ray px py x y d) (hlo : 0 ≤ lo) (hlh : lo ≤ hi) (hhi : hi ≤ 2048) : (trc px py x y d lo hi).length ≤ 5041 := by
  have hv := h.v
  obtain ⟨_, _, b3, _⟩ := box_size (p := px) ⟨hv.d1, hv.d2⟩ ⟨hv.x1, hv.x2⟩ hlo hlh hhi
  obtain ⟨_, _, c3, _⟩ := box_size (p := py) ⟨hv.d1, hv.d2⟩ ⟨hv.y1, hv.y2⟩ hlo hlh hhi
  have := gridL_len (Met px py x y d lo hi) (bx0 px x d lo hi) (bx1 px x d lo hi + 1 - bx0 px x d lo hi).toNat (bx1 py y d lo hi + 1 - bx0 py y d lo hi).toNat (bx0 py y d lo hi)
  unfold trc
  have h2 := Nat.mul_le_mul (show (bx1 py y d lo hi + 1 - bx0 py y d lo hi).toNat ≤ 71 by omega) (show (bx1 px x d lo hi + 1 - bx0 px x d lo hi).toNat ≤ 71 by omega)
  omega

end
end Go.AE
