/-
  Plain laws of the chapter Segment: Gap and Touch.
-/
import Derived.Test.YtpfhpkcjgibokaaSG
namespace Go.AE
open Go.Proofs Go.RowKit
set_option maxRecDepth 100000

/-- How far a number is outside a range. -/
def bes (n lo hi : Int) : Int := max (lo - n) (max 0 (n - hi))
theorem bes_nonneg (n lo hi : Int) : 0 ≤ bes n lo hi := by unfold bes; omega
theorem bes_zero (n lo hi : Int) : bes n lo hi ≤ 0 ↔ lo ≤ n ∧ n ≤ hi := by unfold bes; omega

/-- The squared distance from a point to a rectangle. -/
def gapQ (x y a b c d : Int) : Int := bes x a c * bes x a c + bes y b d * bes y b d

theorem gap_w {x y a b c d : Int} (h1 : nr x ∧ nr y) (h2 : VR a b c d) : IntKind.i64.wrap (IntKind.i64.wrap (bes x a c * bes x a c) + IntKind.i64.wrap (bes y b d * bes y b d)) = gapQ x y a b c d := by
  obtain ⟨a1, b1, c1, d1, e1, e2⟩ := h2
  unfold nr at *
  have p1 := bes_nonneg x a c
  have p2 := bes_nonneg y b d
  have q1 : bes x a c ≤ 4194304 := by unfold bes; omega
  have q2 : bes y b d ≤ 4194304 := by unfold bes; omega
  have m1 := mulb (a := bes x a c) (b := bes x a c) (A := 4194304) (B := 4194304) (by omega) (by omega) (by omega) (by omega)
  have m2 := mulb (a := bes y b d) (b := bes y b d) (A := 4194304) (B := 4194304) (by omega) (by omega) (by omega) (by omega)
  rw [w64 (n := bes x a c * bes x a c) (by omega) (by omega), w64 (n := bes y b d * bes y b d) (by omega) (by omega), w64 (by omega) (by omega)]
  rfl

/-! ### The distance from a segment -/

structure WV (cx cy px py qx qy k : Int) : Prop where
  c : nr cx ∧ nr cy
  p : nr px ∧ nr py
  q : nr qx ∧ nr qy
  x : -1024 ≤ qx - px ∧ qx - px ≤ 1024
  y : -1024 ≤ qy - py ∧ qy - py ≤ 1024
  k : 0 ≤ k ∧ k ≤ 1024

theorem WV.nums {cx cy px py qx qy k : Int} (h : WV cx cy px py qx qy k) :
    IntKind.i64.wrap (cx - px) = cx - px ∧ IntKind.i64.wrap (cy - py) = cy - py ∧ IntKind.i64.wrap (qx - px) = qx - px ∧ IntKind.i64.wrap (qy - py) = qy - py ∧ IntKind.i64.wrap (k * k) = k * k ∧
      IntKind.i64.wrap (cx - qx) = cx - qx ∧ IntKind.i64.wrap (cy - qy) = cy - qy := by
  obtain ⟨h1, h2, h3, h4, h5, h6⟩ := h
  unfold nr at *
  have := mulb (a := k) (b := k) (A := 1024) (B := 1024) (by omega) (by omega) (by omega) (by omega)
  refine ⟨w64 (by omega) (by omega), w64 (by omega) (by omega), w64 (by omega) (by omega), w64 (by omega) (by omega), w64 (by omega) (by omega), w64 (by omega) (by omega), w64 (by omega) (by omega)⟩

theorem sum_w {a b c d A B : Int} (ha1 : -A ≤ a) (ha2 : a ≤ A) (hb1 : -B ≤ b) (hb2 : b ≤ B) (hc1 : -A ≤ c) (hc2 : c ≤ A) (hd1 : -B ≤ d) (hd2 : d ≤ B) (hAB : A * B ≤ 1000000000000000000) :
    IntKind.i64.wrap (IntKind.i64.wrap (a * b) + IntKind.i64.wrap (c * d)) = a * b + c * d ∧ IntKind.i64.wrap (IntKind.i64.wrap (a * b) - IntKind.i64.wrap (c * d)) = a * b - c * d := by
  have m1 := mulb ha1 ha2 hb1 hb2
  have m2 := mulb hc1 hc2 hd1 hd2
  rw [w64 (n := a * b) (by omega) (by omega), w64 (n := c * d) (by omega) (by omega)]
  exact ⟨w64 (by omega) (by omega), w64 (by omega) (by omega)⟩

theorem WV.ln {cx cy px py qx qy k : Int} (h : WV cx cy px py qx qy k) : ln px py qx qy ≤ 2097152 := by
  have l1 := sq_le h.x.1 h.x.2
  have l2 := sq_le h.y.1 h.y.2
  unfold Go.AE.ln; omega

/-! ### The segment and the rectangle -/

/-! ### Touch -/

/-- A corner is near the segment. -/
def Cn (px py qx qy a b c d k : Int) : Prop := Wi a b px py qx qy k ∨ Wi c b px py qx qy k ∨ Wi a d px py qx qy k ∨ Wi c d px py qx qy k

structure TV (px py qx qy a b c d k : Int) : Prop where
  p : nr px ∧ nr py
  q : nr qx ∧ nr qy
  r : VR a b c d
  k : 0 ≤ k ∧ k ≤ 1024
  x : -1024 ≤ qx - px ∧ qx - px ≤ 1024
  y : -1024 ≤ qy - py ∧ qy - py ≤ 1024

def Tch (px py qx qy a b c d k : Int) : Prop := TV px py qx qy a b c d k ∧ (Mt px py qx qy a b c d ∨ gapQ px py a b c d ≤ k * k ∨ gapQ qx qy a b c d ≤ k * k ∨ Cn px py qx qy a b c d k)

theorem TV.wv {px py qx qy a b c d k : Int} (h : TV px py qx qy a b c d k) {cx cy : Int} (hc : (cx = a ∨ cx = c) ∧ (cy = b ∨ cy = d)) : WV cx cy px py qx qy k := by
  obtain ⟨a1, b1, c1, d1, _, _⟩ := h.r
  refine ⟨?_, h.p, h.q, h.x, h.y, h.k⟩
  rcases hc with ⟨rfl | rfl, rfl | rfl⟩ <;> exact ⟨by assumption, by assumption⟩

theorem not_spec {b : Bool} {P : Prop} (h : b = true ↔ P) (hn : ¬ P) : b = false := by
  cases b with
  | false => rfl
  | true => exact (hn (h.1 rfl)).elim

theorem k_w {k : Int} (h : 0 ≤ k ∧ k ≤ 1024) : IntKind.i64.wrap (k * k) = k * k := by
  have := mulb (a := k) (b := k) (A := 1024) (B := 1024) (by omega) (by omega) (by omega) (by omega)
  exact w64 (by omega) (by omega)

/-! ### What the document says -/

theorem sgn_opp {n m : Int} : sgn n * sgn m ≤ 0 ↔ opp n m := by
  unfold sgn opp
  by_cases e1 : n > 0 <;> by_cases e2 : n < 0 <;> by_cases e3 : m > 0 <;> by_cases e4 : m < 0 <;> simp [e1, e2, e3, e4] <;> omega

theorem CR_iff {px py qx qy ax ay bx by_ : Int} (hp : nr px ∧ nr py) (hq : nr qx ∧ nr qy) (ha : nr ax ∧ nr ay) (hb : nr bx ∧ nr by_) : CR px py qx qy ax ay bx by_ ↔ Xs px py qx qy ax ay bx by_ := by
  have t : ∀ {x1 y1 x2 y2 x3 y3 : Int}, nr x1 ∧ nr y1 → nr x2 ∧ nr y2 → nr x3 ∧ nr y3 → trn x1 y1 x2 y2 x3 y3 = sgn (crs x1 y1 x2 y2 x3 y3) := by
    intro x1 y1 x2 y2 x3 y3 h1 h2 h3
    unfold trn
    rw [(f69_sg _ _).2 h1, (f69_sg _ _).2 h2, (f69_sg _ _).2 h3]
    rfl
  constructor
  · intro h
    have h1 := h.t1
    have h2 := h.t2
    rw [t hp hq ha, t hp hq hb, sgn_opp] at h1
    rw [t ha hb hp, t ha hb hq, sgn_opp] at h2
    exact ⟨h.x1, h.x2, h.y1, h.y2, h1, h2⟩
  · intro h
    have h1 := h.t1
    have h2 := h.t2
    rw [← sgn_opp, ← t hp hq ha, ← t hp hq hb] at h1
    rw [← sgn_opp, ← t ha hb hp, ← t ha hb hq] at h2
    exact ⟨hp, hq, ha, hb, h.x1, h.x2, h.y1, h.y2, h1, h2⟩

theorem gap_in {x y a b c d k : Int} (h : a ≤ x ∧ x ≤ c ∧ b ≤ y ∧ y ≤ d) : gapQ x y a b c d ≤ k * k := by
  have e1 : bes x a c = 0 := by have := bes_zero x a c; have := bes_nonneg x a c; omega
  have e2 : bes y b d = 0 := by have := bes_zero y b d; have := bes_nonneg y b d; omega
  have := sq_nonneg k
  unfold gapQ
  rw [e1, e2]
  omega

/-- A side is crossed, or a corner is near. -/
def Doc (px py qx qy a b c d k : Int) : Prop := Sides px py qx qy a b c d ∨ Cn px py qx qy a b c d k

theorem doc_iff {px py qx qy a b c d k : Int} (h : TV px py qx qy a b c d k) : Tch px py qx qy a b c d k ↔
    ((a ≤ px ∧ px ≤ c ∧ b ≤ py ∧ py ≤ d) ∨ gapQ px py a b c d ≤ k * k ∨ gapQ qx qy a b c d ≤ k * k ∨ Doc px py qx qy a b c d k) := by
  have hr := h.r
  constructor
  · rintro ⟨_, m | g | g | g⟩
    · by_cases hin : a ≤ px ∧ px ≤ c ∧ b ≤ py ∧ py ≤ d
      · exact .inl hin
      · exact .inr (.inr (.inr (.inl (sides_out m (by omega)))))
    · exact .inr (.inl g)
    · exact .inr (.inr (.inl g))
    · exact .inr (.inr (.inr (.inr g)))
  · rintro (g | g | g | g | g)
    · exact ⟨h, .inr (.inl (gap_in g))⟩
    · exact ⟨h, .inr (.inl g)⟩
    · exact ⟨h, .inr (.inr (.inl g))⟩
    · refine ⟨h, .inl ?_⟩
      rcases g with g | g | g | g
      · exact mt_of_Xs hr.x hr.y (by simp) (by simp) g
      · exact mt_of_Xs hr.x hr.y (by simp) (by simp) g
      · exact mt_of_Xs hr.x hr.y (by simp) (by simp) g
      · exact mt_of_Xs hr.x hr.y (by simp) (by simp) g
    · exact ⟨h, .inr (.inr (.inr g))⟩

end Go.AE
