/-
  Plain geometry of segments and rectangles: what crosses a side or a diagonal; the distance of a point from a segment.
-/
import Derived.Test.YtpfhpkcjgibokaaSC
namespace Go.AE

/-- Not both above 0, not both below. -/
def opp (x y : Int) : Prop := (x ≤ 0 ∧ 0 ≤ y) ∨ (0 ≤ x ∧ y ≤ 0)
theorem opp.symm {x y : Int} (h : opp x y) : opp y x := by unfold opp at *; omega
theorem opp.neg {x y : Int} (h : opp (-x) (-y)) : opp x y := by unfold opp at *; omega

/-- Two segments meet. -/
structure Xs (px py qx qy ax ay bx by_ : Int) : Prop where
  x1 : min ax bx ≤ max px qx
  x2 : min px qx ≤ max ax bx
  y1 : min ay by_ ≤ max py qy
  y2 : min py qy ≤ max ay by_
  t1 : opp (crs px py qx qy ax ay) (crs px py qx qy bx by_)
  t2 : opp (crs ax ay bx by_ px py) (crs ax ay bx by_ qx qy)

theorem crs_negx (px py qx qy rx ry : Int) : crs (-px) py (-qx) qy (-rx) ry = -crs px py qx qy rx ry := by unfold crs; grind
theorem crs_negy (px py qx qy rx ry : Int) : crs px (-py) qx (-qy) rx (-ry) = -crs px py qx qy rx ry := by unfold crs; grind
theorem crs_xy (px py qx qy rx ry : Int) : crs py px qy qx ry rx = -crs px py qx qy rx ry := by unfold crs; grind
theorem crs_sw (px py qx qy rx ry : Int) : crs qx qy px py rx ry = -crs px py qx qy rx ry := by unfold crs; grind

theorem Xs.negx {px py qx qy ax ay bx by_ : Int} (h : Xs (-px) py (-qx) qy (-ax) ay (-bx) by_) : Xs px py qx qy ax ay bx by_ :=
  ⟨by have := h.x2; omega, by have := h.x1; omega, h.y1, h.y2, by have := h.t1; rw [crs_negx, crs_negx] at this; exact this.neg, by have := h.t2; rw [crs_negx, crs_negx] at this; exact this.neg⟩
theorem Xs.negy {px py qx qy ax ay bx by_ : Int} (h : Xs px (-py) qx (-qy) ax (-ay) bx (-by_)) : Xs px py qx qy ax ay bx by_ :=
  ⟨h.x1, h.x2, by have := h.y2; omega, by have := h.y1; omega, by have := h.t1; rw [crs_negy, crs_negy] at this; exact this.neg, by have := h.t2; rw [crs_negy, crs_negy] at this; exact this.neg⟩
theorem Xs.xy {px py qx qy ax ay bx by_ : Int} (h : Xs py px qy qx ay ax by_ bx) : Xs px py qx qy ax ay bx by_ :=
  ⟨h.y1, h.y2, h.x1, h.x2, by have := h.t1; rw [crs_xy px, crs_xy px] at this; exact this.neg, by have := h.t2; rw [crs_xy ax, crs_xy ax] at this; exact this.neg⟩
theorem Xs.ab {px py qx qy ax ay bx by_ : Int} (h : Xs px py qx qy bx by_ ax ay) : Xs px py qx qy ax ay bx by_ :=
  ⟨by have := h.x1; omega, by have := h.x2; omega, by have := h.y1; omega, by have := h.y2; omega, h.t1.symm, by have := h.t2; rw [crs_sw, crs_sw ax] at this; exact this.neg⟩
theorem Xs.pq {px py qx qy ax ay bx by_ : Int} (h : Xs qx qy px py ax ay bx by_) : Xs px py qx qy ax ay bx by_ :=
  ⟨by have := h.x1; omega, by have := h.x2; omega, by have := h.y1; omega, by have := h.y2; omega, by have := h.t1; rw [crs_sw, crs_sw px] at this; exact this.neg, h.t2.symm⟩

/-- A segment and a rectangle are not separated. -/
structure Mt (px py qx qy X0 Y0 X1 Y1 : Int) : Prop where
  w : X0 ≤ X1
  h : Y0 ≤ Y1
  x1 : X0 ≤ max px qx
  x2 : min px qx ≤ X1
  y1 : Y0 ≤ max py qy
  y2 : min py qy ≤ Y1
  lo : crs px py qx qy X0 Y0 ≤ 0 ∨ crs px py qx qy X1 Y0 ≤ 0 ∨ crs px py qx qy X0 Y1 ≤ 0 ∨ crs px py qx qy X1 Y1 ≤ 0
  hi : 0 ≤ crs px py qx qy X0 Y0 ∨ 0 ≤ crs px py qx qy X1 Y0 ∨ 0 ≤ crs px py qx qy X0 Y1 ∨ 0 ≤ crs px py qx qy X1 Y1

theorem Mt.negx {px py qx qy X0 Y0 X1 Y1 : Int} (h : Mt px py qx qy X0 Y0 X1 Y1) : Mt (-px) py (-qx) qy (-X1) Y0 (-X0) Y1 :=
  ⟨by have := h.w; omega, h.h, by have := h.x2; omega, by have := h.x1; omega, h.y1, h.y2, by have := h.hi; simp only [crs_negx]; omega, by have := h.lo; simp only [crs_negx]; omega⟩
theorem Mt.negy {px py qx qy X0 Y0 X1 Y1 : Int} (h : Mt px py qx qy X0 Y0 X1 Y1) : Mt px (-py) qx (-qy) X0 (-Y1) X1 (-Y0) :=
  ⟨h.w, by have := h.h; omega, h.x1, h.x2, by have := h.y2; omega, by have := h.y1; omega, by have := h.hi; simp only [crs_negy]; omega, by have := h.lo; simp only [crs_negy]; omega⟩
theorem Mt.xy {px py qx qy X0 Y0 X1 Y1 : Int} (h : Mt px py qx qy X0 Y0 X1 Y1) : Mt py px qy qx Y0 X0 Y1 X1 :=
  ⟨h.h, h.w, h.y1, h.y2, h.x1, h.x2, by have := h.hi; simp only [crs_xy px]; omega, by have := h.lo; simp only [crs_xy px]; omega⟩
theorem Mt.pq {px py qx qy X0 Y0 X1 Y1 : Int} (h : Mt px py qx qy X0 Y0 X1 Y1) : Mt qx qy px py X0 Y0 X1 Y1 :=
  ⟨h.w, h.h, by have := h.x1; omega, by have := h.x2; omega, by have := h.y1; omega, by have := h.y2; omega, by have := h.hi; simp only [crs_sw px]; omega, by have := h.lo; simp only [crs_sw px]; omega⟩

/-- One of the sides is crossed. -/
def Sides (px py qx qy X0 Y0 X1 Y1 : Int) : Prop := Xs px py qx qy X0 Y0 X1 Y0 ∨ Xs px py qx qy X1 Y0 X1 Y1 ∨ Xs px py qx qy X1 Y1 X0 Y1 ∨ Xs px py qx qy X0 Y1 X0 Y0
/-- One of the diagonals is crossed. -/
def Diag (px py qx qy X0 Y0 X1 Y1 : Int) : Prop := Xs px py qx qy X0 Y0 X1 Y1 ∨ Xs px py qx qy X0 Y1 X1 Y0

theorem Sides.negx {px py qx qy X0 Y0 X1 Y1 : Int} (h : Sides (-px) py (-qx) qy (-X1) Y0 (-X0) Y1) : Sides px py qx qy X0 Y0 X1 Y1 := by
  rcases h with h | h | h | h
  · exact .inl h.negx.ab
  · exact .inr (.inr (.inr h.negx.ab))
  · exact .inr (.inr (.inl h.negx.ab))
  · exact .inr (.inl h.negx.ab)
theorem Sides.xy {px py qx qy X0 Y0 X1 Y1 : Int} (h : Sides py px qy qx Y0 X0 Y1 X1) : Sides px py qx qy X0 Y0 X1 Y1 := by
  rcases h with h | h | h | h
  · exact .inr (.inr (.inr h.xy.ab))
  · exact .inr (.inr (.inl h.xy.ab))
  · exact .inr (.inl h.xy.ab)
  · exact .inl h.xy.ab
theorem Diag.negx {px py qx qy X0 Y0 X1 Y1 : Int} (h : Diag (-px) py (-qx) qy (-X1) Y0 (-X0) Y1) : Diag px py qx qy X0 Y0 X1 Y1 := by
  rcases h with h | h
  · exact .inr h.negx.ab
  · exact .inl h.negx.ab
theorem Diag.negy {px py qx qy X0 Y0 X1 Y1 : Int} (h : Diag px (-py) qx (-qy) X0 (-Y1) X1 (-Y0)) : Diag px py qx qy X0 Y0 X1 Y1 := by
  rcases h with h | h
  · exact .inr h.negy
  · exact .inl h.negy
theorem Diag.xy {px py qx qy X0 Y0 X1 Y1 : Int} (h : Diag py px qy qx Y0 X0 Y1 X1) : Diag px py qx qy X0 Y0 X1 Y1 := by
  rcases h with h | h
  · exact .inl h.xy
  · exact .inr h.xy.ab

theorem crs_dy (px py qx qy x y y' : Int) : crs px py qx qy x y' - crs px py qx qy x y = (qx - px) * (y' - y) := by unfold crs; grind
theorem crs_dx (px py qx qy x x' y : Int) : crs px py qx qy x' y - crs px py qx qy x y = -((qy - py) * (x' - x)) := by unfold crs; grind

/-- p left of the rectangle. -/
theorem sides_left {px py qx qy X0 Y0 X1 Y1 : Int} (m : Mt px py qx qy X0 Y0 X1 Y1) (hp : px < X0) : Sides px py qx qy X0 Y0 X1 Y1 := by
  have hq : X0 ≤ qx := by have := m.x1; omega
  have hw := m.w
  have hh := m.h
  have e1 := crs_dy px py qx qy X0 Y0 Y1
  have e2 := crs_dy px py qx qy X1 Y0 Y1
  have e3 := crs_dx px py qx qy X0 X1 Y0
  have e4 := crs_dx px py qx qy X0 X1 Y1
  have n1 : 0 ≤ (qx - px) * (Y1 - Y0) := Int.mul_nonneg (by omega) (by omega)
  have hlo := m.lo
  have hhi := m.hi
  by_cases h1 : crs px py qx qy X0 Y0 ≤ 0
  · by_cases h2 : 0 ≤ crs px py qx qy X0 Y1
    · -- the left side
      refine .inr (.inr (.inr ?_))
      have k1 : 0 ≤ (Y1 - Y0) * (X0 - px) := Int.mul_nonneg (by omega) (by omega)
      have k2 : 0 ≤ (Y1 - Y0) * (qx - X0) := Int.mul_nonneg (by omega) (by omega)
      have c1 : crs X0 Y1 X0 Y0 px py = -((Y1 - Y0) * (X0 - px)) := by unfold crs; grind
      have c2 : crs X0 Y1 X0 Y0 qx qy = (Y1 - Y0) * (qx - X0) := by unfold crs; grind
      exact ⟨by omega, by omega, by have := m.y1; omega, by have := m.y2; omega, .inr ⟨h2, h1⟩, .inl ⟨by omega, by omega⟩⟩
    · -- the top: all corners at the left are below 0
      refine .inr (.inr (.inl ?_))
      have hb : 0 ≤ crs px py qx qy X1 Y1 := by omega
      have hy : Y1 ≤ py := by
        by_cases hy : Y1 ≤ py
        · exact hy
        · exfalso
          have u : crs px py qx qy X0 Y1 = (qx - px) * (Y1 - py) - (qy - py) * (X0 - px) := rfl
          have u1 : 0 ≤ (qx - px) * (Y1 - py) := Int.mul_nonneg (by omega) (by omega)
          by_cases hd : qy - py ≤ 0
          · have : (qy - py) * (X0 - px) ≤ 0 := Int.mul_nonpos_of_nonpos_of_nonneg hd (by omega)
            omega
          · have : 0 ≤ (qy - py) * (X1 - X0) := Int.mul_nonneg (by omega) (by omega)
            omega
      have c1 : crs X1 Y1 X0 Y1 px py = -((X1 - X0) * (py - Y1)) := by unfold crs; grind
      have c2 : crs X1 Y1 X0 Y1 qx qy = (X1 - X0) * (Y1 - qy) := by unfold crs; grind
      have k1 : 0 ≤ (X1 - X0) * (py - Y1) := Int.mul_nonneg (by omega) (by omega)
      refine ⟨by omega, by have := m.x2; omega, by omega, by have := m.y2; omega, .inr ⟨hb, by omega⟩, ?_⟩
      by_cases hy2 : py = Y1
      · subst hy2
        have : crs X1 py X0 py px py = 0 := by rw [c1]; simp
        unfold opp; omega
      · have k2 : 0 ≤ (X1 - X0) * (Y1 - qy) := Int.mul_nonneg (by omega) (by have := m.y2; omega)
        exact .inl ⟨by omega, by omega⟩
  · -- the bottom
    refine .inl ?_
    have hb : crs px py qx qy X1 Y0 ≤ 0 := by
      have n2 : 0 ≤ (qx - px) * (Y1 - Y0) := n1
      omega
    have hy : py ≤ Y0 := by
      by_cases hy : py ≤ Y0
      · exact hy
      · exfalso
        have u : crs px py qx qy X0 Y0 = (qx - px) * (Y0 - py) - (qy - py) * (X0 - px) := rfl
        have u1 : (qx - px) * (Y0 - py) ≤ 0 := Int.mul_nonpos_of_nonneg_of_nonpos (by omega) (by omega)
        by_cases hd : 0 ≤ qy - py
        · have : 0 ≤ (qy - py) * (X0 - px) := Int.mul_nonneg hd (by omega)
          omega
        · have : (qy - py) * (X1 - X0) ≤ 0 := Int.mul_nonpos_of_nonpos_of_nonneg (by omega) (by omega)
          omega
    have c1 : crs X0 Y0 X1 Y0 px py = -((X1 - X0) * (Y0 - py)) := by unfold crs; grind
    have c2 : crs X0 Y0 X1 Y0 qx qy = (X1 - X0) * (qy - Y0) := by unfold crs; grind
    have k1 : 0 ≤ (X1 - X0) * (Y0 - py) := Int.mul_nonneg (by omega) (by omega)
    refine ⟨by omega, by have := m.x2; omega, by have := m.y1; omega, by omega, .inr ⟨by omega, hb⟩, ?_⟩
    by_cases hy2 : py = Y0
    · subst hy2
      have : crs X0 py X1 py px py = 0 := by rw [c1]; simp
      unfold opp; omega
    · have k2 : 0 ≤ (X1 - X0) * (qy - Y0) := Int.mul_nonneg (by omega) (by have := m.y1; omega)
      exact .inl ⟨by omega, by omega⟩

/-- p outside of the rectangle: a side is crossed. -/
theorem sides_out {px py qx qy X0 Y0 X1 Y1 : Int} (m : Mt px py qx qy X0 Y0 X1 Y1) (hp : px < X0 ∨ X1 < px ∨ py < Y0 ∨ Y1 < py) : Sides px py qx qy X0 Y0 X1 Y1 := by
  rcases hp with h | h | h | h
  · exact sides_left m h
  · exact (sides_left m.negx (by omega)).negx
  · exact (sides_left m.xy h).xy
  · have := (sides_left m.xy.negx (by omega)).negx
    exact this.xy

/-- What crosses a side, or a diagonal, is not separated. -/
theorem mt_of_Xs {px py qx qy X0 Y0 X1 Y1 ax ay bx by_ : Int} (hw : X0 ≤ X1) (hh : Y0 ≤ Y1) (ha : (ax = X0 ∨ ax = X1) ∧ (ay = Y0 ∨ ay = Y1)) (hb : (bx = X0 ∨ bx = X1) ∧ (by_ = Y0 ∨ by_ = Y1)) (h : Xs px py qx qy ax ay bx by_) : Mt px py qx qy X0 Y0 X1 Y1 := by
  have h1 := h.x1
  have h2 := h.x2
  have h3 := h.y1
  have h4 := h.y2
  have h5 := h.t1
  unfold opp at h5
  refine ⟨hw, hh, by omega, by omega, by omega, by omega, ?_, ?_⟩
  · rcases ha with ⟨rfl | rfl, rfl | rfl⟩ <;> rcases hb with ⟨rfl | rfl, rfl | rfl⟩ <;> omega
  · rcases ha with ⟨rfl | rfl, rfl | rfl⟩ <;> rcases hb with ⟨rfl | rfl, rfl | rfl⟩ <;> omega

/-- p in the rectangle. -/
theorem mt_in {px py qx qy X0 Y0 X1 Y1 : Int} (h1 : X0 ≤ px) (h2 : px ≤ X1) (h3 : Y0 ≤ py) (h4 : py ≤ Y1) : Mt px py qx qy X0 Y0 X1 Y1 := by
  refine ⟨by omega, by omega, by omega, by omega, by omega, by omega, ?_, ?_⟩
  · by_cases hx : 0 ≤ qx - px <;> by_cases hy : 0 ≤ qy - py
    · refine .inr (.inl ?_)
      have a := Int.mul_nonneg hx (by omega : 0 ≤ py - Y0)
      have b := Int.mul_nonneg hy (by omega : 0 ≤ X1 - px)
      have : crs px py qx qy X1 Y0 = -((qx - px) * (py - Y0)) - (qy - py) * (X1 - px) := by unfold crs; grind
      omega
    · refine .inl ?_
      have a := Int.mul_nonneg hx (by omega : 0 ≤ py - Y0)
      have b := Int.mul_nonneg (by omega : 0 ≤ py - qy) (by omega : 0 ≤ px - X0)
      have : crs px py qx qy X0 Y0 = -((qx - px) * (py - Y0)) - (py - qy) * (px - X0) := by unfold crs; grind
      omega
    · refine .inr (.inr (.inr ?_))
      have a := Int.mul_nonneg (by omega : 0 ≤ px - qx) (by omega : 0 ≤ Y1 - py)
      have b := Int.mul_nonneg hy (by omega : 0 ≤ X1 - px)
      have : crs px py qx qy X1 Y1 = -((px - qx) * (Y1 - py)) - (qy - py) * (X1 - px) := by unfold crs; grind
      omega
    · refine .inr (.inr (.inl ?_))
      have a := Int.mul_nonneg (by omega : 0 ≤ px - qx) (by omega : 0 ≤ Y1 - py)
      have b := Int.mul_nonneg (by omega : 0 ≤ py - qy) (by omega : 0 ≤ px - X0)
      have : crs px py qx qy X0 Y1 = -((px - qx) * (Y1 - py)) - (py - qy) * (px - X0) := by unfold crs; grind
      omega
  · by_cases hx : 0 ≤ qx - px <;> by_cases hy : 0 ≤ qy - py
    · refine .inr (.inr (.inl ?_))
      have a := Int.mul_nonneg hx (by omega : 0 ≤ Y1 - py)
      have b := Int.mul_nonneg hy (by omega : 0 ≤ px - X0)
      have : crs px py qx qy X0 Y1 = ((qx - px) * (Y1 - py)) + (qy - py) * (px - X0) := by unfold crs; grind
      omega
    · refine .inr (.inr (.inr ?_))
      have a := Int.mul_nonneg hx (by omega : 0 ≤ Y1 - py)
      have b := Int.mul_nonneg (by omega : 0 ≤ py - qy) (by omega : 0 ≤ X1 - px)
      have : crs px py qx qy X1 Y1 = ((qx - px) * (Y1 - py)) + (py - qy) * (X1 - px) := by unfold crs; grind
      omega
    · refine .inl ?_
      have a := Int.mul_nonneg (by omega : 0 ≤ px - qx) (by omega : 0 ≤ py - Y0)
      have b := Int.mul_nonneg hy (by omega : 0 ≤ px - X0)
      have : crs px py qx qy X0 Y0 = ((px - qx) * (py - Y0)) + (qy - py) * (px - X0) := by unfold crs; grind
      omega
    · refine .inr (.inl ?_)
      have a := Int.mul_nonneg (by omega : 0 ≤ px - qx) (by omega : 0 ≤ py - Y0)
      have b := Int.mul_nonneg (by omega : 0 ≤ py - qy) (by omega : 0 ≤ X1 - px)
      have : crs px py qx qy X1 Y0 = ((px - qx) * (py - Y0)) + (py - qy) * (X1 - px) := by unfold crs; grind
      omega

theorem Diag.pq {px py qx qy X0 Y0 X1 Y1 : Int} (h : Diag qx qy px py X0 Y0 X1 Y1) : Diag px py qx qy X0 Y0 X1 Y1 := by
  rcases h with h | h
  · exact .inl h.pq
  · exact .inr h.pq

/-- p left, q above. -/
theorem diag_la {px py qx qy X0 Y0 X1 Y1 : Int} (m : Mt px py qx qy X0 Y0 X1 Y1) (hp : px < X0) (hq : Y1 < qy) : Diag px py qx qy X0 Y0 X1 Y1 := by
  have hqx : X0 ≤ qx := by have := m.x1; omega
  have hpy : py ≤ Y1 := by have := m.y2; omega
  have hw := m.w
  have hh := m.h
  have e1 := crs_dy px py qx qy X0 Y0 Y1
  have e2 := crs_dy px py qx qy X1 Y0 Y1
  have e3 := crs_dx px py qx qy X0 X1 Y0
  have e4 := crs_dx px py qx qy X0 X1 Y1
  have n1 : 0 ≤ (qx - px) * (Y1 - Y0) := Int.mul_nonneg (by omega) (by omega)
  have n2 : 0 ≤ (qy - py) * (X1 - X0) := Int.mul_nonneg (by omega) (by omega)
  have hlo := m.lo
  have hhi := m.hi
  have c1 : crs X0 Y1 X1 Y0 px py = -((X1 - X0) * (Y1 - py)) - (Y1 - Y0) * (X0 - px) := by unfold crs; grind
  have c2 : crs X0 Y1 X1 Y0 qx qy = (X1 - X0) * (qy - Y1) + (Y1 - Y0) * (qx - X0) := by unfold crs; grind
  have k1 : 0 ≤ (X1 - X0) * (Y1 - py) := Int.mul_nonneg (by omega) (by omega)
  have k2 : 0 ≤ (Y1 - Y0) * (X0 - px) := Int.mul_nonneg (by omega) (by omega)
  have k3 : 0 ≤ (X1 - X0) * (qy - Y1) := Int.mul_nonneg (by omega) (by omega)
  have k4 : 0 ≤ (Y1 - Y0) * (qx - X0) := Int.mul_nonneg (by omega) (by omega)
  exact .inr ⟨by have := m.x1; omega, by have := m.x2; omega, by have := m.y1; omega, by have := m.y2; omega, .inr ⟨by omega, by omega⟩, .inl ⟨by omega, by omega⟩⟩

theorem diag_lb {px py qx qy X0 Y0 X1 Y1 : Int} (m : Mt px py qx qy X0 Y0 X1 Y1) (hp : px < X0) (hq : qy < Y0) : Diag px py qx qy X0 Y0 X1 Y1 :=
  (diag_la m.negy hp (by omega)).negy

theorem diag_left {px py qx qy X0 Y0 X1 Y1 : Int} (m : Mt px py qx qy X0 Y0 X1 Y1) (hp : px < X0) (hq : qx < X0 ∨ X1 < qx ∨ qy < Y0 ∨ Y1 < qy) : Diag px py qx qy X0 Y0 X1 Y1 := by
  have hqx : X0 ≤ qx := by have := m.x1; omega
  by_cases h1 : Y1 < qy
  · exact diag_la m hp h1
  by_cases h2 : qy < Y0
  · exact diag_lb m hp h2
  have hqx2 : X1 < qx := by omega
  by_cases h3 : Y1 < py
  · exact (diag_la m.pq.negx (by omega) h3).negx.pq
  by_cases h4 : py < Y0
  · exact (diag_lb m.pq.negx (by omega) h4).negx.pq
  have hw := m.w
  have hh := m.h
  have u1 : crs px py qx qy X0 Y0 = -((qx - px) * (py - Y0)) - (qy - py) * (X0 - px) := by unfold crs; grind
  have u2 : crs px py qx qy X0 Y0 = -((qx - px) * (qy - Y0)) - (py - qy) * (qx - X0) := by unfold crs; grind
  have v1 : crs px py qx qy X1 Y1 = (qx - px) * (Y1 - py) + (py - qy) * (X1 - px) := by unfold crs; grind
  have v2 : crs px py qx qy X1 Y1 = (qx - px) * (Y1 - qy) + (qy - py) * (qx - X1) := by unfold crs; grind
  have w1 : 0 ≤ (qx - px) * (py - Y0) := Int.mul_nonneg (by omega) (by omega)
  have w2 : 0 ≤ (qx - px) * (qy - Y0) := Int.mul_nonneg (by omega) (by omega)
  have w3 : 0 ≤ (qx - px) * (Y1 - py) := Int.mul_nonneg (by omega) (by omega)
  have w4 : 0 ≤ (qx - px) * (Y1 - qy) := Int.mul_nonneg (by omega) (by omega)
  have a1 : crs px py qx qy X0 Y0 ≤ 0 ∧ 0 ≤ crs px py qx qy X1 Y1 := by
    by_cases hd : 0 ≤ qy - py
    · have s1 : 0 ≤ (qy - py) * (X0 - px) := Int.mul_nonneg hd (by omega)
      have s2 : 0 ≤ (qy - py) * (qx - X1) := Int.mul_nonneg hd (by omega)
      omega
    · have s1 : 0 ≤ (py - qy) * (qx - X0) := Int.mul_nonneg (by omega) (by omega)
      have s2 : 0 ≤ (py - qy) * (X1 - px) := Int.mul_nonneg (by omega) (by omega)
      omega
  have c1 : crs X0 Y0 X1 Y1 px py = (X1 - X0) * (py - Y0) + (Y1 - Y0) * (X0 - px) := by unfold crs; grind
  have c2 : crs X0 Y0 X1 Y1 qx qy = -((X1 - X0) * (Y1 - qy)) - (Y1 - Y0) * (qx - X1) := by unfold crs; grind
  have k1 : 0 ≤ (X1 - X0) * (py - Y0) := Int.mul_nonneg (by omega) (by omega)
  have k2 : 0 ≤ (Y1 - Y0) * (X0 - px) := Int.mul_nonneg (by omega) (by omega)
  have k3 : 0 ≤ (X1 - X0) * (Y1 - qy) := Int.mul_nonneg (by omega) (by omega)
  have k4 : 0 ≤ (Y1 - Y0) * (qx - X1) := Int.mul_nonneg (by omega) (by omega)
  exact .inl ⟨by omega, by omega, by omega, by omega, .inl a1, .inr ⟨by omega, by omega⟩⟩

/-- Both ends outside: a diagonal is crossed. -/
theorem diag_out {px py qx qy X0 Y0 X1 Y1 : Int} (m : Mt px py qx qy X0 Y0 X1 Y1) (hp : px < X0 ∨ X1 < px ∨ py < Y0 ∨ Y1 < py) (hq : qx < X0 ∨ X1 < qx ∨ qy < Y0 ∨ Y1 < qy) : Diag px py qx qy X0 Y0 X1 Y1 := by
  rcases hp with h | h | h | h
  · exact diag_left m h hq
  · exact (diag_left m.negx (by omega) (by omega)).negx
  · exact (diag_left m.xy h (by omega)).xy
  · exact (diag_left m.xy.negx (by omega) (by omega)).negx.xy

/-! ### Near a segment -/

/-- (c - p) . (q - p) -/
def dt (cx cy px py qx qy : Int) : Int := (cx - px) * (qx - px) + (cy - py) * (qy - py)
def ln (px py qx qy : Int) : Int := (qx - px) * (qx - px) + (qy - py) * (qy - py)
def sq (ax ay bx by_ : Int) : Int := (ax - bx) * (ax - bx) + (ay - by_) * (ay - by_)

/-- The distance from c to pq is at most k. -/
def Wi (cx cy px py qx qy k : Int) : Prop :=
  if dt cx cy px py qx qy ≤ 0 then sq cx cy px py ≤ k * k
  else if ln px py qx qy ≤ dt cx cy px py qx qy then sq cx cy qx qy ≤ k * k
  else crs px py qx qy cx cy * crs px py qx qy cx cy ≤ k * k * ln px py qx qy

theorem lagrange (cx cy px py qx qy : Int) : crs px py qx qy cx cy * crs px py qx qy cx cy + dt cx cy px py qx qy * dt cx cy px py qx qy = sq cx cy px py * ln px py qx qy := by
  unfold crs dt sq ln; grind
theorem dt_sw (cx cy px py qx qy : Int) : dt cx cy qx qy px py = ln px py qx qy - dt cx cy px py qx qy := by unfold dt ln; grind
theorem ln_sw (px py qx qy : Int) : ln qx qy px py = ln px py qx qy := by unfold ln; grind
theorem sq_nonneg (x : Int) : 0 ≤ x * x := by
  rcases Int.le_total 0 x with h | h
  · exact Int.mul_nonneg h h
  · exact Int.mul_nonneg_of_nonpos_of_nonpos h h
theorem ln_nonneg (px py qx qy : Int) : 0 ≤ ln px py qx qy := by
  have h1 := sq_nonneg (qx - px)
  have h2 := sq_nonneg (qy - py)
  unfold ln; omega
theorem sq_zero {x : Int} (h : x * x ≤ 0) : x = 0 := by
  have h1 := sq_nonneg x
  have : x * x = 0 := by omega
  rcases Int.mul_eq_zero.1 this with h | h <;> exact h

theorem ln_zero {px py qx qy : Int} (h : ln px py qx qy ≤ 0) : px = qx ∧ py = qy := by
  have h1 := sq_nonneg (qx - px)
  have h2 := sq_nonneg (qy - py)
  unfold ln at h
  have := sq_zero (x := qx - px) (by omega)
  have := sq_zero (x := qy - py) (by omega)
  omega

theorem Wi.sw {cx cy px py qx qy k : Int} (h : Wi cx cy px py qx qy k) : Wi cx cy qx qy px py k := by
  unfold Wi at *
  rw [dt_sw, ln_sw px, crs_sw px]
  have hl := ln_nonneg px py qx qy
  by_cases h1 : dt cx cy px py qx qy ≤ 0
  · rw [if_pos h1] at h
    by_cases h2 : ln px py qx qy - dt cx cy px py qx qy ≤ 0
    · rw [if_pos h2]
      obtain ⟨rfl, rfl⟩ := ln_zero (px := px) (py := py) (qx := qx) (qy := qy) (by omega)
      exact h
    · rw [if_neg h2, if_pos (by omega)]; exact h
  · rw [if_neg h1] at h
    by_cases h2 : ln px py qx qy ≤ dt cx cy px py qx qy
    · rw [if_pos h2] at h
      rw [if_pos (by omega)]; exact h
    · rw [if_neg h2] at h
      rw [if_neg (by omega), if_neg (by omega), Int.neg_mul_neg]; exact h

theorem Wi.mono {cx cy px py qx qy k k' : Int} (hk : 0 ≤ k) (hkk : k ≤ k') (h : Wi cx cy px py qx qy k) : Wi cx cy px py qx qy k' := by
  have h2 : k * k ≤ k' * k' := Int.mul_le_mul hkk hkk hk (by omega)
  have h3 : k * k * ln px py qx qy ≤ k' * k' * ln px py qx qy := Int.mul_le_mul_of_nonneg_right h2 (ln_nonneg _ _ _ _)
  unfold Wi at *
  split
  · rw [if_pos (by assumption)] at h; omega
  · rw [if_neg (by assumption)] at h
    split
    · rw [if_pos (by assumption)] at h; omega
    · rw [if_neg (by assumption)] at h; omega

theorem sq_ge {x n : Int} (hn : 0 ≤ n) (h : n ≤ x ∨ x ≤ -n) : n * n ≤ x * x := by
  rcases h with h | h
  · exact Int.mul_le_mul h h hn (by omega)
  · have := Int.mul_le_mul (a := n) (b := n) (c := -x) (d := -x) (by omega) (by omega) hn (by omega)
    rwa [Int.neg_mul_neg] at this
theorem sq_le {x n : Int} (h1 : -n ≤ x) (h2 : x ≤ n) : x * x ≤ n * n := by
  rcases Int.le_total 0 x with h | h
  · exact Int.mul_le_mul h2 h2 h (by omega)
  · have := Int.mul_le_mul (a := -x) (b := -x) (c := n) (d := n) (by omega) (by omega) (by omega) (by omega)
    rwa [Int.neg_mul_neg] at this

/-- Far away it is not near. -/
theorem Wi.size {cx cy px py qx qy k : Int} (hk : 0 ≤ k) (hk2 : k ≤ 1024) (hx : -1024 ≤ qx - px ∧ qx - px ≤ 1024) (hy : -1024 ≤ qy - py ∧ qy - py ≤ 1024) (h : Wi cx cy px py qx qy k) :
    (-3000 ≤ cx - px ∧ cx - px ≤ 3000) ∧ (-3000 ≤ cy - py ∧ cy - py ≤ 3000) := by
  have hkk : k * k ≤ 1048576 := by have := sq_le (x := k) (n := 1024) (by omega) hk2; omega
  have s1 := sq_nonneg (cx - px)
  have s2 := sq_nonneg (cy - py)
  have s3 := sq_nonneg (cx - qx)
  have s4 := sq_nonneg (cy - qy)
  have l1 := sq_le hx.1 hx.2
  have l2 := sq_le hy.1 hy.2
  have key : sq cx cy px py ≤ 9000000 → (-3000 ≤ cx - px ∧ cx - px ≤ 3000) ∧ (-3000 ≤ cy - py ∧ cy - py ≤ 3000) := by
    intro hs
    unfold sq at hs
    have a1 : ¬ (3001 ≤ cx - px ∨ cx - px ≤ -3001) := fun h => by have := sq_ge (n := 3001) (by omega) h; omega
    have a2 : ¬ (3001 ≤ cy - py ∨ cy - py ≤ -3001) := fun h => by have := sq_ge (n := 3001) (by omega) h; omega
    omega
  have hl : ln px py qx qy ≤ 2097152 := by unfold ln; omega
  have hl0 := ln_nonneg px py qx qy
  unfold Wi at h
  split at h
  · exact key (by omega)
  · rename_i hd
    split at h
    · have hs : sq cx cy qx qy ≤ 1048576 := by omega
      unfold sq at hs
      have a1 : ¬ (1025 ≤ cx - qx ∨ cx - qx ≤ -1025) := fun h => by have := sq_ge (n := 1025) (by omega) h; omega
      have a2 : ¬ (1025 ≤ cy - qy ∨ cy - qy ≤ -1025) := fun h => by have := sq_ge (n := 1025) (by omega) h; omega
      omega
    · rename_i hd2
      have e := lagrange cx cy px py qx qy
      refine key ?_
      have d2 : dt cx cy px py qx qy * dt cx cy px py qx qy ≤ ln px py qx qy * ln px py qx qy := Int.mul_le_mul (by omega) (by omega) (by omega) hl0
      have d3 : k * k * ln px py qx qy ≤ 1048576 * ln px py qx qy := Int.mul_le_mul_of_nonneg_right hkk hl0
      have d4 : ln px py qx qy * ln px py qx qy ≤ 2097152 * ln px py qx qy := Int.mul_le_mul_of_nonneg_right hl hl0
      have d5 : sq cx cy px py * ln px py qx qy ≤ 3145728 * ln px py qx qy := by omega
      have : sq cx cy px py ≤ 3145728 := Int.le_of_mul_le_mul_right d5 (by omega)
      omega

/-- With radius 0 the corner is on the segment. -/
theorem Wi.zero {cx cy px py qx qy X0 Y0 X1 Y1 : Int} (hw : X0 ≤ X1) (hh : Y0 ≤ Y1) (hc : (cx = X0 ∨ cx = X1) ∧ (cy = Y0 ∨ cy = Y1)) (h : Wi cx cy px py qx qy 0) : Mt px py qx qy X0 Y0 X1 Y1 := by
  unfold Wi at h
  have z : ∀ {ax ay bx by_ : Int}, sq ax ay bx by_ ≤ 0 * 0 → ax = bx ∧ ay = by_ := by
    intro ax ay bx by_ h
    have h1 := sq_nonneg (ax - bx)
    have h2 := sq_nonneg (ay - by_)
    unfold sq at h
    have := sq_zero (x := ax - bx) (by omega)
    have := sq_zero (x := ay - by_) (by omega)
    omega
  split at h
  · obtain ⟨rfl, rfl⟩ := z h
    exact mt_in (by omega) (by omega) (by omega) (by omega)
  · rename_i hd
    split at h
    · obtain ⟨rfl, rfl⟩ := z h
      exact (mt_in (px := cx) (py := cy) (qx := px) (qy := py) (by omega) (by omega) (by omega) (by omega)).pq
    · rename_i hd2
      have hn : crs px py qx qy cx cy = 0 := sq_zero (by simpa using h)
      have e1 : (cx - px) * ln px py qx qy = (qx - px) * dt cx cy px py qx qy - (qy - py) * crs px py qx qy cx cy := by unfold ln dt crs; grind
      have e2 : (cy - py) * ln px py qx qy = (qy - py) * dt cx cy px py qx qy + (qx - px) * crs px py qx qy cx cy := by unfold ln dt crs; grind
      rw [hn] at e1 e2
      simp only [Int.mul_zero, Int.sub_zero, Int.add_zero] at e1 e2
      have btw : ∀ {a u : Int}, a * ln px py qx qy = u * dt cx cy px py qx qy → (0 ≤ u → 0 ≤ a ∧ a ≤ u) ∧ (u ≤ 0 → u ≤ a ∧ a ≤ 0) := by
        intro a u e
        have hl : 0 < ln px py qx qy := by omega
        constructor
        · intro hu
          have p1 : 0 ≤ u * dt cx cy px py qx qy := Int.mul_nonneg hu (by omega)
          have p2 : u * dt cx cy px py qx qy ≤ u * ln px py qx qy := Int.mul_le_mul_of_nonneg_left (by omega) hu
          exact ⟨Int.le_of_mul_le_mul_right (a := ln px py qx qy) (by omega) hl, Int.le_of_mul_le_mul_right (a := ln px py qx qy) (by omega) hl⟩
        · intro hu
          have p1 : u * dt cx cy px py qx qy ≤ 0 := Int.mul_nonpos_of_nonpos_of_nonneg hu (by omega)
          have p2 : u * ln px py qx qy ≤ u * dt cx cy px py qx qy := Int.mul_le_mul_of_nonpos_left hu (by omega)
          exact ⟨Int.le_of_mul_le_mul_right (a := ln px py qx qy) (by omega) hl, Int.le_of_mul_le_mul_right (a := ln px py qx qy) (by omega) hl⟩
      have b1 := btw e1
      have b2 := btw e2
      refine ⟨hw, hh, by omega, by omega, by omega, by omega, ?_, ?_⟩
      · rcases hc with ⟨rfl | rfl, rfl | rfl⟩ <;> omega
      · rcases hc with ⟨rfl | rfl, rfl | rfl⟩ <;> omega

end Go.AE
