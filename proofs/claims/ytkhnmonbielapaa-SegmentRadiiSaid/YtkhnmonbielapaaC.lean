/-
  Plain laws of the chapter Segment: moves, differences, crossings.
-/
import Derived.Test.YtkhnmonbielapaaB
namespace Go.AE
open Go.Proofs Go.RowKit
set_option maxRecDepth 100000

theorem okR_swap {px py x y d a b c e : Int} : okR px py x y d a b c e ↔ okR py px y x d b a e c := by
  unfold okR
  constructor
  · rintro ⟨⟨h1, h2⟩, V, W⟩
    exact ⟨⟨h2, h1⟩, ⟨V.d1, V.d2, V.y1, V.y2, V.x1, V.x2, by have := V.sq; omega⟩, ⟨W.b, W.a, W.d, W.c, W.y, W.x⟩⟩
  · rintro ⟨⟨h1, h2⟩, V, W⟩
    exact ⟨⟨h2, h1⟩, ⟨V.d1, V.d2, V.y1, V.y2, V.x1, V.x2, by have := V.sq; omega⟩, ⟨W.b, W.a, W.d, W.c, W.y, W.x⟩⟩

theorem thru_swap {px py x y d a b c e : Int} : thruQ py px y x d b a e c = thruQ px py x y d a b c e := by
  refine thru_congr okR_swap fun t => ?_
  unfold inR
  constructor
  · rintro ⟨h1, h2, h3, h4⟩; exact ⟨h1, h2, h4, h3⟩
  · rintro ⟨h1, h2, h3, h4⟩; exact ⟨h1, h2, h4, h3⟩

theorem gap_swap (px py a b c e : Int) : f20 px py a b c e = f20 py px b a e c := by
  unfold f20
  have h1 : f41 px py = f41 py px := by rw [Bool.eq_iff_iff, f41_spec, f41_spec]; exact And.comm
  have h2 : f17 a b c e = f17 b a e c := by
    rw [Bool.eq_iff_iff, f17_spec, f17_spec]
    exact ⟨fun W => ⟨W.b, W.a, W.d, W.c, W.y, W.x⟩, fun W => ⟨W.b, W.a, W.d, W.c, W.y, W.x⟩⟩
  rw [h1, h2, Int.add_comm (IntKind.i64.wrap (f42 px a c * f42 px a c))]

theorem segmentMoves_plain (px py x y d a b c e s t : Int) (hs1 : -32768 ≤ s) (hs2 : s ≤ 32767) (ht1 : -32768 ≤ t) (ht2 : t ≤ 32767) : f4 (px, py, x, y, d, a, b, c, e, s, t, ()) = some (true, ()) := by
  unfold f4
  simp only [f12_spec, Option.bind_some, Bool.not_true, cond_false]
  cases g1 : f19 px 1048576 with
  | false => rfl
  | true =>
  cases g2 : f19 py 1048576 with
  | false => rfl
  | true =>
  cases g3 : f19 a 1048576 with
  | false => rfl
  | true =>
  cases g4 : f19 c 1048576 with
  | false => rfl
  | true =>
  cases g5 : f19 b 1048576 with
  | false => rfl
  | true =>
  cases g6 : f19 e 1048576 with
  | false => rfl
  | true =>
  have k1 := (f19_spec (by omega)).1 g1
  have k2 := (f19_spec (by omega)).1 g2
  have k3 := (f19_spec (by omega)).1 g3
  have k4 := (f19_spec (by omega)).1 g4
  have k5 := (f19_spec (by omega)).1 g5
  have k6 := (f19_spec (by omega)).1 g6
  have ws := w64 (n := s) (by omega) (by omega)
  have wt := w64 (n := t) (by omega) (by omega)
  have w1 := w64 (n := px + s) (by omega) (by omega)
  have w2 := w64 (n := py + t) (by omega) (by omega)
  have w3 := w64 (n := a + s) (by omega) (by omega)
  have w4 := w64 (n := b + t) (by omega) (by omega)
  have w5 := w64 (n := c + s) (by omega) (by omega)
  have w6 := w64 (n := e + t) (by omega) (by omega)
  simp only [Bool.not_true, cond_false, ws, wt, w1, w2, w3, w4, w5, w6, f13_spec, Option.bind_some]
  have e1 : thruQ (px + s) (py + t) x y d (a + s) (b + t) (c + s) (e + t) = thruQ px py x y d a b c e := by
    refine thru_congr ?_ fun u => ?_
    · unfold okR
      constructor
      · rintro ⟨⟨h1, h2⟩, V, W⟩
        have := W.x
        have := W.y
        exact ⟨⟨by unfold nr; omega, by unfold nr; omega⟩, V, ⟨by unfold nr; omega, by unfold nr; omega, by unfold nr; omega, by unfold nr; omega, by omega, by omega⟩⟩
      · rintro ⟨⟨h1, h2⟩, V, W⟩
        have := W.x
        have := W.y
        exact ⟨⟨by unfold nr; omega, by unfold nr; omega⟩, V, ⟨by unfold nr; omega, by unfold nr; omega, by unfold nr; omega, by unfold nr; omega, by omega, by omega⟩⟩
    · unfold inR
      rw [inS_move, inS_move]
  rw [e1, thru_swap, gap_swap px py a b c e]
  simp

theorem meets_mono {px py x y d a b c e px' py' a' b' c' e' lo hi : Int} (hv : okR px' py' x y d a' b' c' e') (ht : ∀ t, inR px py x y a b c e t → inR px' py' x y a' b' c' e' t)
    (h : meetsQ (thruQ px py x y d a b c e) d lo hi = true) : meetsQ (thruQ px' py' x y d a' b' c' e') d lo hi = true := by
  cases hT : thruQ px py x y d a b c e with
  | none => rw [hT] at h; cases h
  | some q =>
    obtain ⟨l, u⟩ := q
    rw [hT] at h
    obtain ⟨g1, g2, g3⟩ := thru_some hT
    cases hT' : thruQ px' py' x y d a' b' c' e' with
    | none => exact (thru_none hT' hv l (ht l ((g3 l).2 ⟨Rat.le_refl, g2⟩))).elim
    | some q =>
      obtain ⟨l', u'⟩ := q
      obtain ⟨k1, k2, k3⟩ := thru_some hT'
      have e1 := (k3 l).1 (ht l ((g3 l).2 ⟨Rat.le_refl, g2⟩))
      have e2 := (k3 u).1 (ht u ((g3 u).2 ⟨g2, Rat.le_refl⟩))
      have hd : (0 : Rat) ≤ d := by have := g1.2.1.d1; exact_mod_cast (by omega : (0 : Int) ≤ d)
      simp only [meetsQ, Bool.and_eq_true, decide_eq_true_eq] at h ⊢
      have m1 := Rat.mul_le_mul_of_nonneg_right e1.1 hd
      have m2 := Rat.mul_le_mul_of_nonneg_right e2.2 hd
      exact ⟨h.1, Rat.le_trans h.2.1 m2, Rat.le_trans m1 h.2.2⟩

theorem inS_minus {p d a b r0 r1 : Int} {t : Rat} (h1 : r0 ≤ p) (h2 : p ≤ r1) (h : inS p d a b t) : inS 0 d (a - r1) (b - r0) t := by
  have g1 : (r0 : Rat) ≤ p := by exact_mod_cast h1
  have g2 : (p : Rat) ≤ r1 := by exact_mod_cast h2
  unfold inS at h ⊢
  rw [Rat.intCast_sub, Rat.intCast_sub]
  grind

theorem f25_26 (a b c e a' b' c' e' : Int) : f25 a b c e a' b' c' e' = f26 a b c e a' b' c' e' := by
  unfold f25 f26
  have h : ∀ a b c e, f17 a b c e = f40 a b c e := fun a b c e => by rw [Bool.eq_iff_iff, f17_spec, f40_spec]
  simp only [h]

theorem f25_ok {a b c e a' b' c' e' : Int} (h : (f25 a b c e a' b' c' e').2.2.2.2 = true) : VR a b c e ∧ VR a' b' c' e' ∧ VR (a - c') (b - e') (c - a') (e - b') ∧ f25 a b c e a' b' c' e' = (a - c', b - e', c - a', e - b', true) := by
  unfold f25 at h ⊢
  cases h1 : f17 a b c e with
  | false => rw [h1] at h; cases h
  | true =>
    cases h2 : f17 a' b' c' e' with
    | false => rw [h1, h2] at h; cases h
    | true =>
      have W := (f17_spec _ _ _ _).1 h1
      have W' := (f17_spec _ _ _ _).1 h2
      have := W.a; have := W.b; have := W.c; have := W.d
      have := W'.a; have := W'.b; have := W'.c; have := W'.d
      unfold nr at *
      have w1 := w64 (n := a - c') (by omega) (by omega)
      have w2 := w64 (n := b - e') (by omega) (by omega)
      have w3 := w64 (n := c - a') (by omega) (by omega)
      have w4 := w64 (n := e - b') (by omega) (by omega)
      simp only [h1, h2, w1, w2, w3, w4, Bool.not_true, cond_false] at h ⊢
      cases h3 : f17 (a - c') (b - e') (c - a') (e - b') with
      | false => rw [h3] at h; cases h
      | true => exact ⟨W, W', (f17_spec _ _ _ _).1 h3, rfl⟩

theorem segmentPoints_plain (px py x y d a b c e lo hi : Int) : f8 (px, py, x, y, d, a, b, c, e, lo, hi, ()) = some (true, ()) := by
  unfold f8
  simp only [f12_spec, Option.bind_some, Bool.not_true, cond_false]
  cases g1 : f19 px 2097152 with
  | false => rfl
  | true =>
  cases g2 : f19 py 2097152 with
  | false => rfl
  | true =>
  simp only [Bool.not_true, cond_false]
  cases hk : (f25 a b c e px py px py).2.2.2.2 with
  | false => rfl
  | true =>
    obtain ⟨W, W', W2, he⟩ := f25_ok hk
    have k1 := (f19_spec (by omega)).1 g1
    have k2 := (f19_spec (by omega)).1 g2
    simp only [he, Bool.not_true, cond_false, f21_spec, f23_spec, Option.bind_some]
    have e1 : thruQ 0 0 x y d (a - px) (b - py) (c - px) (e - py) = thruQ px py x y d a b c e := by
      refine thru_congr ?_ fun u => ?_
      · unfold okR
        exact ⟨fun h => ⟨⟨k1, k2⟩, h.2.1, W⟩, fun h => ⟨⟨by unfold nr; omega, by unfold nr; omega⟩, h.2.1, W2⟩⟩
      · unfold inR
        have m1 := inS_move (p := 0) (d := x) (a := a - px) (b := c - px) (s := px) (t := u)
        have m2 := inS_move (p := 0) (d := y) (a := b - py) (b := e - py) (s := py) (t := u)
        rw [show 0 + px = px by omega, show a - px + px = a by omega, show c - px + px = c by omega] at m1
        rw [show 0 + py = py by omega, show b - py + py = b by omega, show e - py + py = e by omega] at m2
        rw [m1, m2]
    rw [e1]
    simp

theorem segmentMinuses_plain (x y d a b c e a' b' c' e' lo hi : Int) : f6 (x, y, d, a, b, c, e, a', b', c', e', lo, hi, ()) = some (true, ()) := by
  unfold f6
  simp only [f12_spec, Option.bind_some, Bool.not_true, cond_false, f25_26, beq_self_eq_true, cond_true]
  rw [← f25_26]
  cases hk : (f25 a b c e a' b' c' e').2.2.2.2 with
  | false => rfl
  | true =>
    obtain ⟨W, W', W2, he⟩ := f25_ok hk
    simp only [he, Bool.not_true, cond_false]
    have step : ∀ (X Y : Int), a' ≤ X → X ≤ c' → b' ≤ Y → Y ≤ e' → meetsQ (thruQ X Y x y d a b c e) d lo hi = true → meetsQ (thruQ 0 0 x y d (a - c') (b - e') (c - a') (e - b')) d lo hi = true := by
      intro X Y h1 h2 h3 h4 hm
      refine meets_mono (a := a) (b := b) (c := c) (e := e) (px := X) (py := Y) ?_ ?_ hm
      · cases hT : thruQ X Y x y d a b c e with
        | none => rw [hT] at hm; cases hm
        | some q =>
          obtain ⟨g1, _⟩ := thru_some (l := q.1) (h := q.2) hT
          exact ⟨⟨by unfold nr; omega, by unfold nr; omega⟩, g1.2.1, W2⟩
      · rintro t ⟨q1, q2, q3, q4⟩
        exact ⟨q1, q2, inS_minus h1 h2 q3, inS_minus h3 h4 q4⟩
    obtain ⟨r, h1, h2⟩ := iterO_rule (f := r6_0) (fun s => ∃ i : Nat, i ≤ 4 ∧ s = (4, (i : Int), x, y, d, lo, hi, a, b, c, e, a - c', b - e', c - a', e - b', [Pt.mk a' b', Pt.mk c' b', Pt.mk a' e', Pt.mk c' e'], ()))
      (fun s => (4 - s.2.1).toNat) (fun _ r => r = Sum.inr ()) (by
      rintro s ⟨i, hi4, rfl⟩
      by_cases h4 : i = 4
      · subst h4
        right
        exact ⟨_, rfl, rfl⟩
      · left
        have hget : ∃ X Y : Int, [Pt.mk a' b', Pt.mk c' b', Pt.mk a' e', Pt.mk c' e'][0 + (i : Int).toNat]? = some (Pt.mk X Y) ∧ a' ≤ X ∧ X ≤ c' ∧ b' ≤ Y ∧ Y ≤ e' := by
          have := W'.x
          have := W'.y
          match i, h4, hi4 with
          | 0, _, _ => exact ⟨_, _, rfl, by omega, by omega, by omega, by omega⟩
          | 1, _, _ => exact ⟨_, _, rfl, by omega, by omega, by omega, by omega⟩
          | 2, _, _ => exact ⟨_, _, rfl, by omega, by omega, by omega, by omega⟩
          | 3, _, _ => exact ⟨_, _, rfl, by omega, by omega, by omega, by omega⟩
          | n + 4, _, _ => omega
        obtain ⟨X, Y, hg, b1, b2, b3, b4⟩ := hget
        have hs := step X Y b1 b2 b3 b4
        refine ⟨_, ?_, ⟨i + 1, by omega, rfl⟩, ?_, fun _ h => h⟩
        · unfold r6_0 j6_40
          have w1 := w64 (n := (i : Int) + 1) (by omega) (by omega)
          have c1 : ((i : Int) < 4) := by omega
          have c2 : (0 : Int) ≤ (i : Int) := by omega
          simp only [hg, f21_spec, Option.bind_some, w1, c1, c2, decide_true, cond_true, Bool.true_and]
          rw [show decide ((i : Int) < ((4 : Nat) : Int)) = true by simp; omega]
          simp only [cond_true]
          cases hm : meetsQ (thruQ X Y x y d a b c e) d lo hi with
          | false => rfl
          | true => rw [hs hm]; rfl
        · simp only; omega) _ ⟨0, by omega, rfl⟩
    simp only [l6_0]
    rw [show ((4 : Nat), (0 : Int), x, y, d, lo, hi, a, b, c, e, a - c', b - e', c - a', e - b', [Pt.mk a' b', Pt.mk c' b', Pt.mk a' e', Pt.mk c' e'], ()) = ((4 : Nat), ((0 : Nat) : Int), x, y, d, lo, hi, a, b, c, e, a - c', b - e', c - a', e - b', [Pt.mk a' b', Pt.mk c' b', Pt.mk a' e', Pt.mk c' e'], ()) from rfl, h1, h2]
    rfl

/-! ### Turn and Cross -/

/-- (q - p) x (r - p) -/
def crs (px py qx qy rx ry : Int) : Int := (qx - px) * (ry - py) - (qy - py) * (rx - px)
def sgn (n : Int) : Int := if n > 0 then 1 else if n < 0 then -1 else 0
/-- Turn. -/
def trn (px py qx qy rx ry : Int) : Int := if f41 px py && (f41 qx qy && f41 rx ry) then sgn (crs px py qx qy rx ry) else 0

theorem f43_41 (x y : Int) : f43 x y = f41 x y := by rw [Bool.eq_iff_iff, f41_spec, f43_spec]

theorem cross_w {px py qx qy rx ry : Int} (h1 : nr px ∧ nr py) (h2 : nr qx ∧ nr qy) (h3 : nr rx ∧ nr ry) : f45 px py qx qy rx ry = crs px py qx qy rx ry := by
  unfold nr at *
  unfold f45 crs
  have m1 := mulb (a := qx - px) (b := ry - py) (A := 4194304) (B := 4194304) (by omega) (by omega) (by omega) (by omega)
  have m2 := mulb (a := qy - py) (b := rx - px) (A := 4194304) (B := 4194304) (by omega) (by omega) (by omega) (by omega)
  rw [w64 (n := qx - px) (by omega) (by omega), w64 (n := ry - py) (by omega) (by omega), w64 (n := qy - py) (by omega) (by omega), w64 (n := rx - px) (by omega) (by omega),
    w64 (n := (qx - px) * (ry - py)) (by omega) (by omega), w64 (n := (qy - py) * (rx - px)) (by omega) (by omega), w64 (by omega) (by omega)]

theorem f28_spec (px py qx qy rx ry : Int) : f28 px py qx qy rx ry = trn px py qx qy rx ry := by
  unfold f28 trn
  cases h1 : f41 px py with
  | false => rfl
  | true =>
  cases h2 : f41 qx qy with
  | false => rfl
  | true =>
  cases h3 : f41 rx ry with
  | false => rfl
  | true =>
  rw [cross_w ((f41_spec _ _).1 h1) ((f41_spec _ _).1 h2) ((f41_spec _ _).1 h3)]
  simp only [Bool.not_true, cond_false, Bool.and_self, if_true]
  unfold f44 sgn
  by_cases e1 : crs px py qx qy rx ry > 0
  · simp [e1]
  · by_cases e2 : crs px py qx qy rx ry < 0 <;> simp [e1, e2]

theorem f29_spec (px py qx qy rx ry : Int) : f29 px py qx qy rx ry = trn px py qx qy rx ry := by
  unfold f29 trn
  simp only [f43_41]
  cases h1 : f41 px py with
  | false => rfl
  | true =>
  cases h2 : f41 qx qy with
  | false => rfl
  | true =>
  cases h3 : f41 rx ry with
  | false => rfl
  | true =>
  have := cross_w ((f41_spec _ _).1 h1) ((f41_spec _ _).1 h2) ((f41_spec _ _).1 h3)
  unfold f45 at this
  rw [this]
  simp only [Bool.not_true, cond_false, Bool.and_self, if_true]
  unfold f46 sgn
  by_cases e1 : crs px py qx qy rx ry > 0
  · by_cases e2 : 1 < crs px py qx qy rx ry
    · simp [e1, e2]
    · have : crs px py qx qy rx ry = 1 := by omega
      rw [this]; rfl
  · by_cases e2 : crs px py qx qy rx ry < 0
    · have e3 : ¬ 1 < crs px py qx qy rx ry := by omega
      have e4 : ¬ crs px py qx qy rx ry > -1 := by omega
      simp only [e1, e2, e3, e4, decide_false, cond_false, if_false, if_true]
    · have : crs px py qx qy rx ry = 0 := by omega
      rw [this]; rfl

theorem crs_swap (px py qx qy rx ry : Int) : crs qx qy px py rx ry = -crs px py qx qy rx ry := by unfold crs; grind
theorem crs_turn (px py qx qy rx ry : Int) : crs qx qy rx ry px py = crs px py qx qy rx ry := by unfold crs; grind
theorem sgn_neg (n : Int) : sgn (-n) = -sgn n := by
  unfold sgn
  by_cases e1 : n > 0
  · rw [if_neg (by omega), if_pos (by omega), if_pos e1]
  · by_cases e2 : n < 0
    · rw [if_pos (by omega), if_neg e1, if_pos e2]; rfl
    · rw [if_neg (by omega), if_neg (by omega), if_neg e1, if_neg e2]; rfl
theorem sgn_bd (n : Int) : -1 ≤ sgn n ∧ sgn n ≤ 1 := by
  unfold sgn
  split
  · omega
  · split <;> omega
theorem trn_swap (px py qx qy rx ry : Int) : trn qx qy px py rx ry = -trn px py qx qy rx ry := by
  unfold trn
  rw [crs_swap, sgn_neg]
  cases f41 px py <;> cases f41 qx qy <;> cases f41 rx ry <;> simp
theorem trn_turn (px py qx qy rx ry : Int) : trn qx qy rx ry px py = trn px py qx qy rx ry := by
  unfold trn
  rw [crs_turn]
  cases f41 px py <;> cases f41 qx qy <;> cases f41 rx ry <;> simp
theorem trn_bd (px py qx qy rx ry : Int) : -1 ≤ trn px py qx qy rx ry ∧ trn px py qx qy rx ry ≤ 1 := by
  unfold trn
  split
  · exact sgn_bd _
  · omega

structure CR (px py qx qy ax ay bx by_ : Int) : Prop where
  p : nr px ∧ nr py
  q : nr qx ∧ nr qy
  a : nr ax ∧ nr ay
  b : nr bx ∧ nr by_
  x1 : min ax bx ≤ max px qx
  x2 : min px qx ≤ max ax bx
  y1 : min ay by_ ≤ max py qy
  y2 : min py qy ≤ max ay by_
  t1 : trn px py qx qy ax ay * trn px py qx qy bx by_ ≤ 0
  t2 : trn ax ay bx by_ px py * trn ax ay bx by_ qx qy ≤ 0

theorem max_c (a b : Int) : (bif decide (b > a) then b else a) = max a b := by
  by_cases h : b > a <;> simp [h] <;> omega
theorem min_c (a b : Int) : (bif decide (b < a) then b else a) = min a b := by
  by_cases h : b < a <;> simp [h] <;> omega

theorem f27_30 (px py qx qy ax ay bx by_ : Int) : f30 px py qx qy ax ay bx by_ = f27 px py qx qy ax ay bx by_ := by
  unfold f27 f30
  simp only [f43_41, f28_spec, f29_spec]

theorem f27_spec (px py qx qy ax ay bx by_ : Int) : f27 px py qx qy ax ay bx by_ = true ↔ CR px py qx qy ax ay bx by_ := by
  have hw : ∀ a b c d e f a' b' c' d' e' f', IntKind.i64.wrap (trn a b c d e f * trn a' b' c' d' e' f') = trn a b c d e f * trn a' b' c' d' e' f' := by
    intro a b c d e f a' b' c' d' e' f'
    have h1 := trn_bd a b c d e f
    have h2 := trn_bd a' b' c' d' e' f'
    have := mulb (A := 1) (B := 1) h1.1 h1.2 h2.1 h2.2
    exact w64 (by omega) (by omega)
  unfold f27
  simp only [f43_41, f29_spec, max_c, min_c, hw]
  have k : CR px py qx qy ax ay bx by_ ↔ (f41 px py = true ∧ f41 qx qy = true ∧ f41 ax ay = true ∧ f41 bx by_ = true ∧ ¬ max px qx < min ax bx ∧ ¬ max ax bx < min px qx ∧ ¬ max py qy < min ay by_ ∧ ¬ max ay by_ < min py qy ∧
      trn px py qx qy ax ay * trn px py qx qy bx by_ ≤ 0 ∧ trn ax ay bx by_ px py * trn ax ay bx by_ qx qy ≤ 0) := by
    simp only [f41_spec, Int.not_lt]
    exact ⟨fun h => ⟨h.p, h.q, h.a, h.b, h.x1, h.x2, h.y1, h.y2, h.t1, h.t2⟩, fun ⟨h1, h2, h3, h4, h5, h6, h7, h8, h9, h10⟩ => ⟨h1, h2, h3, h4, h5, h6, h7, h8, h9, h10⟩⟩
  rw [k]
  cases f41 px py <;> cases f41 qx qy <;> cases f41 ax ay <;> cases f41 bx by_ <;> simp only [Bool.not_true, Bool.not_false, cond_true, cond_false, true_and, false_and, and_false, Bool.false_eq_true]
  by_cases e1 : max px qx < min ax bx <;> by_cases e2 : max ax bx < min px qx <;> by_cases e3 : max py qy < min ay by_ <;> by_cases e4 : max ay by_ < min py qy <;>
    by_cases e5 : trn px py qx qy ax ay * trn px py qx qy bx by_ ≤ 0 <;> simp [e1, e2, e3, e4, e5]

theorem CR_pq {px py qx qy ax ay bx by_ : Int} (h : CR px py qx qy ax ay bx by_) : CR qx qy px py ax ay bx by_ :=
  ⟨h.q, h.p, h.a, h.b, by have := h.x1; omega, by have := h.x2; omega, by have := h.y1; omega, by have := h.y2; omega, by rw [trn_swap, trn_swap px py qx qy, Int.neg_mul_neg]; exact h.t1, by rw [Int.mul_comm]; exact h.t2⟩
theorem CR_ab {px py qx qy ax ay bx by_ : Int} (h : CR px py qx qy ax ay bx by_) : CR px py qx qy bx by_ ax ay :=
  ⟨h.p, h.q, h.b, h.a, by have := h.x1; omega, by have := h.x2; omega, by have := h.y1; omega, by have := h.y2; omega, by rw [Int.mul_comm]; exact h.t1, by rw [trn_swap, trn_swap ax ay bx by_, Int.neg_mul_neg]; exact h.t2⟩
theorem CR_sw {px py qx qy ax ay bx by_ : Int} (h : CR px py qx qy ax ay bx by_) : CR ax ay bx by_ px py qx qy :=
  ⟨h.a, h.b, h.p, h.q, h.x2, h.x1, h.y2, h.y1, h.t2, h.t1⟩

theorem segmentCrosses_plain (x : Int × Int × Int × Int × Int × Int × Int × Int × Unit) : f9 x = some (true, ()) := by
  obtain ⟨px, py, qx, qy, ax, ay, bx, by_, ⟨⟩⟩ := x
  have hw : IntKind.i64.wrap (0 - trn px py qx qy ax ay) = -trn px py qx qy ax ay := by
    have := trn_bd px py qx qy ax ay
    rw [w64 (by omega) (by omega), Int.zero_sub]
  have e1 : f27 qx qy px py ax ay bx by_ = f27 px py qx qy ax ay bx by_ := by rw [Bool.eq_iff_iff, f27_spec, f27_spec]; exact ⟨CR_pq, CR_pq⟩
  have e2 : f27 px py qx qy bx by_ ax ay = f27 px py qx qy ax ay bx by_ := by rw [Bool.eq_iff_iff, f27_spec, f27_spec]; exact ⟨CR_ab, CR_ab⟩
  have e3 : f27 ax ay bx by_ px py qx qy = f27 px py qx qy ax ay bx by_ := by rw [Bool.eq_iff_iff, f27_spec, f27_spec]; exact ⟨CR_sw, CR_sw⟩
  unfold f9
  simp only [f12_spec, Option.bind_some, Bool.not_true, cond_false, f28_spec, f29_spec, f27_30, e1, e2, e3, trn_swap px py qx qy ax ay, trn_turn px py qx qy ax ay, hw, bne_self_eq_false, beq_self_eq_true, cond_true]
end Go.AE
