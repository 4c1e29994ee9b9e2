/-
  Plain laws of the chapter Segment: moves, differences, crossings.
-/
import Derived.Test.YtadnppefidjhfaaGreatSB
namespace Go.AE
open Go.Proofs Go.RowKit
set_option maxRecDepth 100000

theorem okR_swap {px py x y d a b c e : Int} : okR px py x y d a b c e ↔ okR py px y x d b a e c := by
  unfold okR
  constructor
  · rintro ⟨⟨h1, h2⟩, V, W⟩
    exact ⟨⟨h2, h1⟩, ⟨V.d1, V.d2, V.y1, V.y2, V.x1, V.x2, by have := V.sq; omega⟩, ⟨W.b, W.a, W.d, W.c, W.y, W.x⟩⟩
  · rintro ⟨⟨h1, h2⟩, V, W⟩
    exact ⟨⟨h2, h1⟩, ⟨V.d1, V.d2, V.y1, V.y2, V.x1, V.x2, by have := V.sq; omega⟩, ⟨W.b, W.a, W.d, W.c, W.y, W.x⟩⟩

theorem thru_swap {px py x y d a b c e : Int} : thruQ py px y x d b a e c = thruQ px py x y d a b c e := by
  refine thru_congr okR_swap fun t => ?_
  unfold inR
  constructor
  · rintro ⟨h1, h2, h3, h4⟩; exact ⟨h1, h2, h4, h3⟩
  · rintro ⟨h1, h2, h3, h4⟩; exact ⟨h1, h2, h4, h3⟩

theorem meets_mono {px py x y d a b c e px' py' a' b' c' e' lo hi : Int} (hv : okR px' py' x y d a' b' c' e') (ht : ∀ t, inR px py x y a b c e t → inR px' py' x y a' b' c' e' t)
    (h : meetsQ (thruQ px py x y d a b c e) d lo hi = true) : meetsQ (thruQ px' py' x y d a' b' c' e') d lo hi = true := by
  cases hT : thruQ px py x y d a b c e with
  | none => rw [hT] at h; cases h
  | some q =>
    obtain ⟨l, u⟩ := q
    rw [hT] at h
    obtain ⟨g1, g2, g3⟩ := thru_some hT
    cases hT' : thruQ px' py' x y d a' b' c' e' with
    | none => exact (thru_none hT' hv l (ht l ((g3 l).2 ⟨Rat.le_refl, g2⟩))).elim
    | some q =>
      obtain ⟨l', u'⟩ := q
      obtain ⟨k1, k2, k3⟩ := thru_some hT'
      have e1 := (k3 l).1 (ht l ((g3 l).2 ⟨Rat.le_refl, g2⟩))
      have e2 := (k3 u).1 (ht u ((g3 u).2 ⟨g2, Rat.le_refl⟩))
      have hd : (0 : Rat) ≤ d := by have := g1.2.1.d1; exact_mod_cast (by omega : (0 : Int) ≤ d)
      simp only [meetsQ, Bool.and_eq_true, decide_eq_true_eq] at h ⊢
      have m1 := Rat.mul_le_mul_of_nonneg_right e1.1 hd
      have m2 := Rat.mul_le_mul_of_nonneg_right e2.2 hd
      exact ⟨h.1, Rat.le_trans h.2.1 m2, Rat.le_trans m1 h.2.2⟩

theorem inS_minus {p d a b r0 r1 : Int} {t : Rat} (h1 : r0 ≤ p) (h2 : p ≤ r1) (h : inS p d a b t) : inS 0 d (a - r1) (b - r0) t := by
  have g1 : (r0 : Rat) ≤ p := by exact_mod_cast h1
  have g2 : (p : Rat) ≤ r1 := by exact_mod_cast h2
  unfold inS at h ⊢
  rw [Rat.intCast_sub, Rat.intCast_sub]
  grind

theorem f79_ok {a b c e a' b' c' e' : Int} (h : (f79 a b c e a' b' c' e').2.2.2.2 = true) : VR a b c e ∧ VR a' b' c' e' ∧ VR (a - c') (b - e') (c - a') (e - b') ∧ f79 a b c e a' b' c' e' = (a - c', b - e', c - a', e - b', true) := by
  unfold f79 at h ⊢
  cases h1 : f96 a b c e with
  | false => rw [h1] at h; cases h
  | true =>
    cases h2 : f96 a' b' c' e' with
    | false => rw [h1, h2] at h; cases h
    | true =>
      have W := (f96_sg _ _ _ _).1 h1
      have W' := (f96_sg _ _ _ _).1 h2
      have := W.a; have := W.b; have := W.c; have := W.d
      have := W'.a; have := W'.b; have := W'.c; have := W'.d
      unfold nr at *
      have w1 := w64 (n := a - c') (by omega) (by omega)
      have w2 := w64 (n := b - e') (by omega) (by omega)
      have w3 := w64 (n := c - a') (by omega) (by omega)
      have w4 := w64 (n := e - b') (by omega) (by omega)
      simp only [h1, h2, w1, w2, w3, w4, Bool.not_true, cond_false] at h ⊢
      cases h3 : f96 (a - c') (b - e') (c - a') (e - b') with
      | false => rw [h3] at h; cases h
      | true => exact ⟨W, W', (f96_sg _ _ _ _).1 h3, rfl⟩

/-! ### Turn and Cross -/

/-- (q - p) x (r - p) -/
def crs (px py qx qy rx ry : Int) : Int := (qx - px) * (ry - py) - (qy - py) * (rx - px)
def sgn (n : Int) : Int := if n > 0 then 1 else if n < 0 then -1 else 0
/-- Turn. -/
def trn (px py qx qy rx ry : Int) : Int := if f112 px py && (f112 qx qy && f112 rx ry) then sgn (crs px py qx qy rx ry) else 0

theorem crs_swap (px py qx qy rx ry : Int) : crs qx qy px py rx ry = -crs px py qx qy rx ry := by unfold crs; grind
theorem crs_turn (px py qx qy rx ry : Int) : crs qx qy rx ry px py = crs px py qx qy rx ry := by unfold crs; grind
theorem sgn_neg (n : Int) : sgn (-n) = -sgn n := by
  unfold sgn
  by_cases e1 : n > 0
  · rw [if_neg (by omega), if_pos (by omega), if_pos e1]
  · by_cases e2 : n < 0
    · rw [if_pos (by omega), if_neg e1, if_pos e2]; rfl
    · rw [if_neg (by omega), if_neg (by omega), if_neg e1, if_neg e2]; rfl
theorem sgn_bd (n : Int) : -1 ≤ sgn n ∧ sgn n ≤ 1 := by
  unfold sgn
  split
  · omega
  · split <;> omega
theorem trn_swap (px py qx qy rx ry : Int) : trn qx qy px py rx ry = -trn px py qx qy rx ry := by
  unfold trn
  rw [crs_swap, sgn_neg]
  cases f112 px py <;> cases f112 qx qy <;> cases f112 rx ry <;> simp
theorem trn_turn (px py qx qy rx ry : Int) : trn qx qy rx ry px py = trn px py qx qy rx ry := by
  unfold trn
  rw [crs_turn]
  cases f112 px py <;> cases f112 qx qy <;> cases f112 rx ry <;> simp
theorem trn_bd (px py qx qy rx ry : Int) : -1 ≤ trn px py qx qy rx ry ∧ trn px py qx qy rx ry ≤ 1 := by
  unfold trn
  split
  · exact sgn_bd _
  · omega

structure CR (px py qx qy ax ay bx by_ : Int) : Prop where
  p : nr px ∧ nr py
  q : nr qx ∧ nr qy
  a : nr ax ∧ nr ay
  b : nr bx ∧ nr by_
  x1 : min ax bx ≤ max px qx
  x2 : min px qx ≤ max ax bx
  y1 : min ay by_ ≤ max py qy
  y2 : min py qy ≤ max ay by_
  t1 : trn px py qx qy ax ay * trn px py qx qy bx by_ ≤ 0
  t2 : trn ax ay bx by_ px py * trn ax ay bx by_ qx qy ≤ 0

theorem max_c (a b : Int) : (bif decide (b > a) then b else a) = max a b := by
  by_cases h : b > a <;> simp [h] <;> omega
theorem min_c (a b : Int) : (bif decide (b < a) then b else a) = min a b := by
  by_cases h : b < a <;> simp [h] <;> omega

theorem CR_pq {px py qx qy ax ay bx by_ : Int} (h : CR px py qx qy ax ay bx by_) : CR qx qy px py ax ay bx by_ :=
  ⟨h.q, h.p, h.a, h.b, by have := h.x1; omega, by have := h.x2; omega, by have := h.y1; omega, by have := h.y2; omega, by rw [trn_swap, trn_swap px py qx qy, Int.neg_mul_neg]; exact h.t1, by rw [Int.mul_comm]; exact h.t2⟩
theorem CR_ab {px py qx qy ax ay bx by_ : Int} (h : CR px py qx qy ax ay bx by_) : CR px py qx qy bx by_ ax ay :=
  ⟨h.p, h.q, h.b, h.a, by have := h.x1; omega, by have := h.x2; omega, by have := h.y1; omega, by have := h.y2; omega, by rw [Int.mul_comm]; exact h.t1, by rw [trn_swap, trn_swap ax ay bx by_, Int.neg_mul_neg]; exact h.t2⟩
theorem CR_sw {px py qx qy ax ay bx by_ : Int} (h : CR px py qx qy ax ay bx by_) : CR ax ay bx by_ px py qx qy :=
  ⟨h.a, h.b, h.p, h.q, h.x2, h.x1, h.y2, h.y1, h.t2, h.t1⟩

end Go.AE
