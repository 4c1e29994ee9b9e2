/-
  Plain laws of the chapter Segment: Gap and Touch.
-/
import Derived.Test.YtnoammkjjbbajaaGreatSG
namespace Go.AE
open Go.Proofs Go.RowKit
set_option maxRecDepth 100000

/-- How far a number is outside a range. -/
def bes (n lo hi : Int) : Int := max (lo - n) (max 0 (n - hi))
theorem bes_nonneg (n lo hi : Int) : 0 ≤ bes n lo hi := by unfold bes; omega
theorem bes_zero (n lo hi : Int) : bes n lo hi ≤ 0 ↔ lo ≤ n ∧ n ≤ hi := by unfold bes; omega

theorem f89_sg {n lo hi : Int} (h1 : -8388608 ≤ n ∧ n ≤ 8388608) (h2 : -8388608 ≤ lo ∧ lo ≤ 8388608) (h3 : -8388608 ≤ hi ∧ hi ≤ 8388608) : f89 n lo hi = bes n lo hi := by
  unfold f89 bes
  rw [w64 (n := n - hi) (by omega) (by omega), w64 (n := lo - n) (by omega) (by omega)]
  simp only [Bool.cond_decide]
  repeat' split
  all_goals omega
/-- The squared distance from a point to a rectangle. -/
def gapQ (x y a b c d : Int) : Int := bes x a c * bes x a c + bes y b d * bes y b d

theorem gap_w {x y a b c d : Int} (h1 : nr x ∧ nr y) (h2 : VR a b c d) : IntKind.i64.wrap (IntKind.i64.wrap (bes x a c * bes x a c) + IntKind.i64.wrap (bes y b d * bes y b d)) = gapQ x y a b c d := by
  obtain ⟨a1, b1, c1, d1, e1, e2⟩ := h2
  unfold nr at *
  have p1 := bes_nonneg x a c
  have p2 := bes_nonneg y b d
  have q1 : bes x a c ≤ 4194304 := by unfold bes; omega
  have q2 : bes y b d ≤ 4194304 := by unfold bes; omega
  have m1 := mulb (a := bes x a c) (b := bes x a c) (A := 4194304) (B := 4194304) (by omega) (by omega) (by omega) (by omega)
  have m2 := mulb (a := bes y b d) (b := bes y b d) (A := 4194304) (B := 4194304) (by omega) (by omega) (by omega) (by omega)
  rw [w64 (n := bes x a c * bes x a c) (by omega) (by omega), w64 (n := bes y b d * bes y b d) (by omega) (by omega), w64 (by omega) (by omega)]
  rfl

theorem f63_sg {x y a b c d : Int} (h1 : nr x ∧ nr y) (h2 : VR a b c d) : f63 x y a b c d = gapQ x y a b c d := by
  have hg := gap_w h1 h2
  unfold f63
  rw [(f87_sg x y).2 h1, (f88_sg a b c d).2 h2]
  obtain ⟨a1, b1, c1, d1, e1, e2⟩ := h2
  unfold nr at *
  simp only [Bool.not_true, cond_false]
  rw [f89_sg (by omega) (by omega) (by omega), f89_sg (by omega) (by omega) (by omega)]
  exact hg
/-! ### The distance from a segment -/

structure WV (cx cy px py qx qy k : Int) : Prop where
  c : nr cx ∧ nr cy
  p : nr px ∧ nr py
  q : nr qx ∧ nr qy
  x : -1024 ≤ qx - px ∧ qx - px ≤ 1024
  y : -1024 ≤ qy - py ∧ qy - py ≤ 1024
  k : 0 ≤ k ∧ k ≤ 1024

theorem WV.nums {cx cy px py qx qy k : Int} (h : WV cx cy px py qx qy k) :
    IntKind.i64.wrap (cx - px) = cx - px ∧ IntKind.i64.wrap (cy - py) = cy - py ∧ IntKind.i64.wrap (qx - px) = qx - px ∧ IntKind.i64.wrap (qy - py) = qy - py ∧ IntKind.i64.wrap (k * k) = k * k ∧
      IntKind.i64.wrap (cx - qx) = cx - qx ∧ IntKind.i64.wrap (cy - qy) = cy - qy := by
  obtain ⟨h1, h2, h3, h4, h5, h6⟩ := h
  unfold nr at *
  have := mulb (a := k) (b := k) (A := 1024) (B := 1024) (by omega) (by omega) (by omega) (by omega)
  refine ⟨w64 (by omega) (by omega), w64 (by omega) (by omega), w64 (by omega) (by omega), w64 (by omega) (by omega), w64 (by omega) (by omega), w64 (by omega) (by omega), w64 (by omega) (by omega)⟩

theorem sum_w {a b c d A B : Int} (ha1 : -A ≤ a) (ha2 : a ≤ A) (hb1 : -B ≤ b) (hb2 : b ≤ B) (hc1 : -A ≤ c) (hc2 : c ≤ A) (hd1 : -B ≤ d) (hd2 : d ≤ B) (hAB : A * B ≤ 1000000000000000000) :
    IntKind.i64.wrap (IntKind.i64.wrap (a * b) + IntKind.i64.wrap (c * d)) = a * b + c * d ∧ IntKind.i64.wrap (IntKind.i64.wrap (a * b) - IntKind.i64.wrap (c * d)) = a * b - c * d := by
  have m1 := mulb ha1 ha2 hb1 hb2
  have m2 := mulb hc1 hc2 hd1 hd2
  rw [w64 (n := a * b) (by omega) (by omega), w64 (n := c * d) (by omega) (by omega)]
  exact ⟨w64 (by omega) (by omega), w64 (by omega) (by omega)⟩

theorem WV.ln {cx cy px py qx qy k : Int} (h : WV cx cy px py qx qy k) : ln px py qx qy ≤ 2097152 := by
  have l1 := sq_le h.x.1 h.x.2
  have l2 := sq_le h.y.1 h.y.2
  unfold Go.AE.ln; omega

theorem f106_sg {cx cy px py qx qy k : Int} (h : WV cx cy px py qx qy k) : f106 cx cy px py qx qy k = true ↔ Wi cx cy px py qx qy k := by
  obtain ⟨n1, n2, n3, n4, n5, n6, n7⟩ := h.nums
  have hl := h.ln
  obtain ⟨h1, h2, h3, h4, h5, h6⟩ := h
  have hc := cross_w h2 h3 h1
  unfold nr at h1 h2 h3
  have s1 := (sum_w (a := cx - px) (b := qx - px) (c := cy - py) (d := qy - py) (A := 4194304) (B := 1024) (by omega) (by omega) (by omega) (by omega) (by omega) (by omega) (by omega) (by omega) (by decide)).1
  have s2 := (sum_w (a := qx - px) (b := qx - px) (c := qy - py) (d := qy - py) (A := 1024) (B := 1024) (by omega) (by omega) (by omega) (by omega) (by omega) (by omega) (by omega) (by omega) (by decide)).1
  have s3 := (sum_w (a := cx - px) (b := cx - px) (c := cy - py) (d := cy - py) (A := 4194304) (B := 4194304) (by omega) (by omega) (by omega) (by omega) (by omega) (by omega) (by omega) (by omega) (by decide)).1
  have s4 := (sum_w (a := cx - qx) (b := cx - qx) (c := cy - qy) (d := cy - qy) (A := 4194304) (B := 4194304) (by omega) (by omega) (by omega) (by omega) (by omega) (by omega) (by omega) (by omega) (by decide)).1
  have q1 : f119 cx cy px py = sq cx cy px py := by unfold f119; rw [n1, n2, s3]; rfl
  have q2 : f119 cx cy qx qy = sq cx cy qx qy := by unfold f119; rw [n6, n7, s4]; rfl
  have hk2 : 0 ≤ k * k ∧ k * k ≤ 1048576 := by have := sq_le (x := k) (n := 1024) (by omega) (by omega); have := sq_nonneg k; omega
  have hl0 := ln_nonneg px py qx qy
  have m3 := mulb (a := k * k) (b := ln px py qx qy) (A := 1048576) (B := 2097152) (by omega) (by omega) (by omega) (by omega)
  unfold f106
  rw [n1, n2, n3, n4, n5, s1, s2, q1, q2, hc]
  have d1 : (cx - px) * (qx - px) + (cy - py) * (qy - py) = dt cx cy px py qx qy := rfl
  have d2 : (qx - px) * (qx - px) + (qy - py) * (qy - py) = ln px py qx qy := rfl
  rw [d1, d2, w64 (n := k * k * ln px py qx qy) (by omega) (by omega)]
  unfold Wi
  by_cases e1 : dt cx cy px py qx qy ≤ 0
  · simp only [e1, decide_true, cond_true, if_true, decide_eq_true_eq]
  · simp only [e1, decide_false, cond_false, if_false]
    by_cases e2 : dt cx cy px py qx qy ≥ ln px py qx qy
    · simp only [e2, decide_true, cond_true, if_true, decide_eq_true_eq]
    · simp only [e2, decide_false, cond_false, if_false]
      generalize crs px py qx qy cx cy = n at *
      by_cases e3 : n < -4194304
      · have := sq_ge (x := n) (n := 4194304) (by omega) (by omega)
        simp only [e3, decide_true, cond_true]
        constructor
        · intro h; cases h
        · intro h; omega
      · by_cases e4 : n > 4194304
        · have := sq_ge (x := n) (n := 4194304) (by omega) (by omega)
          simp only [e3, e4, decide_true, decide_false, cond_true, cond_false]
          constructor
          · intro h; cases h
          · intro h; omega
        · have := mulb (a := n) (b := n) (A := 4194304) (B := 4194304) (by omega) (by omega) (by omega) (by omega)
          simp only [e3, e4, decide_false, cond_false]
          rw [w64 (n := n * n) (by omega) (by omega)]
          exact decide_eq_true_iff

/-! ### The segment and the rectangle -/

theorem f117_sg (n : Int) : f117 n = sgn n := by
  unfold f117 sgn
  by_cases e1 : n > 0
  · simp [e1]
  · by_cases e2 : n < 0 <;> simp [e1, e2]

theorem l104_sg {px py qx qy a b c d : Int} (h1 : nr px ∧ nr py) (h2 : nr qx ∧ nr qy) (h3 : VR a b c d) : ∃ L H, l104_0 (1, -1, a, b, c, b, a, d, c, d, 0, px, py, qx, qy, ()) = some (L, H, ()) ∧
    (L ≤ 0 ↔ (crs px py qx qy a b ≤ 0 ∨ crs px py qx qy c b ≤ 0 ∨ crs px py qx qy a d ≤ 0 ∨ crs px py qx qy c d ≤ 0)) ∧ (0 ≤ H ↔ (0 ≤ crs px py qx qy a b ∨ 0 ≤ crs px py qx qy c b ∨ 0 ≤ crs px py qx qy a d ∨ 0 ≤ crs px py qx qy c d)) := by
  obtain ⟨a1, b1, c1, d1, x1, y1⟩ := h3
  have key : ∀ n : Int, (sgn n ≤ 0 ↔ n ≤ 0) ∧ (0 ≤ sgn n ↔ 0 ≤ n) := by
    intro n
    unfold sgn
    split
    · omega
    · split <;> omega
  have step : ∀ (lo hi : Int) (i : Nat) (p : Pt), i < 4 → [Pt.mk a b, Pt.mk c b, Pt.mk a d, Pt.mk c d][i]? = some p → nr p.X ∧ nr p.Y →
      ∃ L H, r104_0 (lo, hi, a, b, c, b, a, d, c, d, (i : Int), px, py, qx, qy, ()) = some (.inl (L, H, a, b, c, b, a, d, c, d, ((i + 1 : Nat) : Int), px, py, qx, qy, ())) ∧ (L ≤ 0 ↔ (lo ≤ 0 ∨ crs px py qx qy p.X p.Y ≤ 0)) ∧ (0 ≤ H ↔ (0 ≤ hi ∨ 0 ≤ crs px py qx qy p.X p.Y)) := by
    intro lo hi i p hi4 hp hn
    have g1 : ((i : Int) < 4) := by omega
    have g2 : (0 : Int) ≤ (i : Int) := by omega
    have g3 : IntKind.i64.wrap ((i : Int) + 1) = ((i + 1 : Nat) : Int) := by rw [w64 (by omega) (by omega)]; rfl
    have g4 : idxO [Pt.mk a b, Pt.mk c b, Pt.mk a d, Pt.mk c d] (i : Int) = some p := by
      unfold idxO; simp only [g2, decide_true, Int.toNat_natCast]; exact hp
    obtain ⟨k1, k2⟩ := key (crs px py qx qy p.X p.Y)
    refine ⟨min lo (sgn (crs px py qx qy p.X p.Y)), max hi (sgn (crs px py qx qy p.X p.Y)), ?_, by rw [← k1]; omega, by rw [← k2]; omega⟩
    unfold r104_0
    simp only [g1, g2, g3, g4, decide_true, cond_true, Bool.and_self, Option.bind_some, f117_sg, cross_w h1 h2 hn, max_c, min_c]
  obtain ⟨L0, H0, s0, p0, q0⟩ := step 1 (-1) 0 ⟨a, b⟩ (by omega) rfl ⟨a1, b1⟩
  obtain ⟨L1, H1, s1, p1, q1⟩ := step L0 H0 1 ⟨c, b⟩ (by omega) rfl ⟨c1, b1⟩
  obtain ⟨L2, H2, s2, p2, q2⟩ := step L1 H1 2 ⟨a, d⟩ (by omega) rfl ⟨a1, d1⟩
  obtain ⟨L3, H3, s3, p3, q3⟩ := step L2 H2 3 ⟨c, d⟩ (by omega) rfl ⟨c1, d1⟩
  have s4 : ∀ lo hi : Int, r104_0 (lo, hi, a, b, c, b, a, d, c, d, 4, px, py, qx, qy, ()) = some (.inr (lo, hi, ())) := fun lo hi => rfl
  refine ⟨L3, H3, ?_, ?_, ?_⟩
  · unfold l104_0
    rw [iterO_eq, show ((1, -1, a, b, c, b, a, d, c, d, 0, px, py, qx, qy, ()) : Int × Int × Int × Int × Int × Int × Int × Int × Int × Int × Int × Int × Int × Int × Int × Unit) = (1, -1, a, b, c, b, a, d, c, d, ((0 : Nat) : Int), px, py, qx, qy, ()) from rfl, s0]
    simp only
    rw [iterO_eq, s1]
    simp only
    rw [iterO_eq, s2]
    simp only
    rw [iterO_eq, s3]
    simp only
    rw [iterO_eq, show ((((3 : Nat) + 1 : Nat)) : Int) = 4 from rfl, s4]
  · simp only at p0 p1 p2 p3
    rw [p3, p2, p1, p0]
    omega
  · simp only at q0 q1 q2 q3
    rw [q3, q2, q1, q0]
    omega

theorem f104_sg {px py qx qy a b c d : Int} (h1 : nr px ∧ nr py) (h2 : nr qx ∧ nr qy) (h3 : VR a b c d) : ∃ t, f104 (px, py, qx, qy, a, b, c, d, ()) = some (t, ()) ∧ (t = true ↔ Mt px py qx qy a b c d) := by
  obtain ⟨L, H, hl, hL, hH⟩ := l104_sg h1 h2 h3
  have hf : f105 a b c d = (a, b, c, b, a, d, c, d) := rfl
  unfold f104
  simp only [max_c, min_c, hf, hl, Option.bind_some]
  by_cases e1 : max px qx < a
  · exact ⟨false, by simp [e1], by simp; exact fun m => by have := m.x1; omega⟩
  by_cases e2 : min px qx > c
  · exact ⟨false, by simp [e1, e2], by simp; exact fun m => by have := m.x2; omega⟩
  by_cases e3 : max py qy < b
  · exact ⟨false, by simp [e1, e2, e3], by simp; exact fun m => by have := m.y1; omega⟩
  by_cases e4 : min py qy > d
  · exact ⟨false, by simp [e1, e2, e3, e4], by simp; exact fun m => by have := m.y2; omega⟩
  have x1 := h3.x
  have y1 := h3.y
  have iff : Mt px py qx qy a b c d ↔ (L ≤ 0 ∧ 0 ≤ H) := by
    rw [hL, hH]
    exact ⟨fun m => ⟨m.lo, m.hi⟩, fun ⟨m1, m2⟩ => ⟨x1, y1, by omega, by omega, by omega, by omega, m1, m2⟩⟩
  rw [iff]
  simp only [e1, e2, e3, e4, decide_false, cond_false]
  by_cases e5 : L ≤ 0
  · exact ⟨decide (H ≥ 0), by simp only [e5, decide_true, cond_true], by simp [e5]⟩
  · exact ⟨false, by simp only [e5, decide_false, cond_false], by simp [e5]⟩

/-! ### Touch -/

/-- A corner is near the segment. -/
def Cn (px py qx qy a b c d k : Int) : Prop := Wi a b px py qx qy k ∨ Wi c b px py qx qy k ∨ Wi a d px py qx qy k ∨ Wi c d px py qx qy k

structure TV (px py qx qy a b c d k : Int) : Prop where
  p : nr px ∧ nr py
  q : nr qx ∧ nr qy
  r : VR a b c d
  k : 0 ≤ k ∧ k ≤ 1024
  x : -1024 ≤ qx - px ∧ qx - px ≤ 1024
  y : -1024 ≤ qy - py ∧ qy - py ≤ 1024

def Tch (px py qx qy a b c d k : Int) : Prop := TV px py qx qy a b c d k ∧ (Mt px py qx qy a b c d ∨ gapQ px py a b c d ≤ k * k ∨ gapQ qx qy a b c d ≤ k * k ∨ Cn px py qx qy a b c d k)

theorem TV.wv {px py qx qy a b c d k : Int} (h : TV px py qx qy a b c d k) {cx cy : Int} (hc : (cx = a ∨ cx = c) ∧ (cy = b ∨ cy = d)) : WV cx cy px py qx qy k := by
  obtain ⟨a1, b1, c1, d1, _, _⟩ := h.r
  refine ⟨?_, h.p, h.q, h.x, h.y, h.k⟩
  rcases hc with ⟨rfl | rfl, rfl | rfl⟩ <;> exact ⟨by assumption, by assumption⟩

theorem not_spec {b : Bool} {P : Prop} (h : b = true ↔ P) (hn : ¬ P) : b = false := by
  cases b with
  | false => rfl
  | true => exact (hn (h.1 rfl)).elim

theorem k_w {k : Int} (h : 0 ≤ k ∧ k ≤ 1024) : IntKind.i64.wrap (k * k) = k * k := by
  have := mulb (a := k) (b := k) (A := 1024) (B := 1024) (by omega) (by omega) (by omega) (by omega)
  exact w64 (by omega) (by omega)

theorem l91_sg {px py qx qy a b c d k : Int} (h : TV px py qx qy a b c d k) : ∃ y, l91_0 (k, a, b, c, b, a, d, c, d, 0, px, py, qx, qy, ()) = some y ∧ ∃ t, (Sum.elim (fun y30 : Bool × Unit => some (y30.fst, ())) (fun _x : Unit => some (false, ())) y : Option (Bool × Unit)) = some (t, ()) ∧ (t = true ↔ Cn px py qx qy a b c d k) := by
  have go : ∀ (n i : Nat), n + i = 4 → ∃ y, iterO r91_0 (k, a, b, c, b, a, d, c, d, (i : Int), px, py, qx, qy, ()) = some y ∧ ∃ t, (Sum.elim (fun y30 : Bool × Unit => some (y30.fst, ())) (fun _x : Unit => some (false, ())) y : Option (Bool × Unit)) = some (t, ()) ∧
      (t = true ↔ ∃ p ∈ [Pt.mk a b, Pt.mk c b, Pt.mk a d, Pt.mk c d].drop i, Wi p.X p.Y px py qx qy k) := by
    intro n
    induction n with
    | zero =>
      intro i hi
      have : i = 4 := by omega
      subst this
      refine ⟨.inr (), ?_, false, rfl, ?_⟩
      · rw [iterO_eq]
        have : r91_0 (k, a, b, c, b, a, d, c, d, ((4 : Nat) : Int), px, py, qx, qy, ()) = some (.inr (.inr ())) := rfl
        rw [this]
      · simp
    | succ n ih =>
      intro i hi
      have hi4 : i < 4 := by omega
      have hlt : i < [Pt.mk a b, Pt.mk c b, Pt.mk a d, Pt.mk c d].length := hi4
      generalize hp : [Pt.mk a b, Pt.mk c b, Pt.mk a d, Pt.mk c d][i] = p
      have hpc : (p.X = a ∨ p.X = c) ∧ (p.Y = b ∨ p.Y = d) := by
        have : p ∈ [Pt.mk a b, Pt.mk c b, Pt.mk a d, Pt.mk c d] := by rw [← hp]; exact List.getElem_mem _
        simp only [List.mem_cons, List.not_mem_nil, or_false] at this
        rcases this with rfl | rfl | rfl | rfl <;> simp
      have hw := f106_sg (h.wv hpc)
      have g1 : ((i : Int) < 4) := by omega
      have g2 : (0 : Int) ≤ (i : Int) := by omega
      have g3 : IntKind.i64.wrap ((i : Int) + 1) = ((i + 1 : Nat) : Int) := by rw [w64 (by omega) (by omega)]; rfl
      have g4 : idxO [Pt.mk a b, Pt.mk c b, Pt.mk a d, Pt.mk c d] (i : Int) = some p := by
        unfold idxO; simp only [g2, decide_true, Int.toNat_natCast]; rw [List.getElem?_eq_getElem hlt, hp]
      rw [List.drop_eq_getElem_cons hlt, hp]
      cases hb : f106 p.X p.Y px py qx qy k with
      | true =>
        refine ⟨.inl (true, ()), ?_, true, rfl, ?_⟩
        · rw [iterO_eq]
          have : r91_0 (k, a, b, c, b, a, d, c, d, (i : Int), px, py, qx, qy, ()) = some (.inr (.inl (true, ()))) := by
            unfold r91_0
            simp only [g1, g2, g4, decide_true, cond_true, Bool.and_self, Option.bind_some, hb]
          rw [this]
        · simp only [true_iff]
          exact ⟨p, List.mem_cons_self .., hw.1 hb⟩
      | false =>
        obtain ⟨y, h1, t, h2, h3⟩ := ih (i + 1) (by omega)
        refine ⟨y, ?_, t, h2, ?_⟩
        · rw [iterO_eq]
          have : r91_0 (k, a, b, c, b, a, d, c, d, (i : Int), px, py, qx, qy, ()) = some (.inl (k, a, b, c, b, a, d, c, d, ((i + 1 : Nat) : Int), px, py, qx, qy, ())) := by
            unfold r91_0
            simp only [g1, g2, g3, g4, decide_true, cond_true, cond_false, Bool.and_self, Option.bind_some, hb]
          rw [this]
          exact h1
        · rw [h3]
          constructor
          · rintro ⟨q, hq, hq2⟩; exact ⟨q, List.mem_cons_of_mem _ hq, hq2⟩
          · rintro ⟨q, hq, hq2⟩
            rcases List.mem_cons.1 hq with rfl | hq
            · rw [hw.2 hq2] at hb; cases hb
            · exact ⟨q, hq, hq2⟩
  obtain ⟨y, h1, t, h2, h3⟩ := go 4 0 rfl
  refine ⟨y, h1, t, h2, ?_⟩
  rw [h3]
  unfold Cn
  simp

theorem f91_sg (px py qx qy a b c d k : Int) : ∃ t, f91 (px, py, qx, qy, a, b, c, d, k, ()) = some (t, ()) ∧ (t = true ↔ Tch px py qx qy a b c d k) := by
  by_cases hv : TV px py qx qy a b c d k
  · obtain ⟨t1, g1, g2⟩ := f104_sg hv.p hv.q hv.r
    obtain ⟨y, g3, t2, g4, g5⟩ := l91_sg hv
    have hp := hv.p
    have hq := hv.q
    have hx := hv.x
    have hy := hv.y
    have hk := hv.k
    unfold nr at hp hq
    have n1 : ¬ k < 0 := by omega
    have n2 : ¬ k > 1024 := by omega
    have z1 : f89 qx (IntKind.i64.wrap (px - 1024)) (IntKind.i64.wrap (px + 1024)) = bes qx (px - 1024) (px + 1024) := by
      rw [w64 (by omega) (by omega), w64 (by omega) (by omega), f89_sg (by omega) (by omega) (by omega)]
    have z2 : f89 qy (IntKind.i64.wrap (py - 1024)) (IntKind.i64.wrap (py + 1024)) = bes qy (py - 1024) (py + 1024) := by
      rw [w64 (by omega) (by omega), w64 (by omega) (by omega), f89_sg (by omega) (by omega) (by omega)]
    have z3 : ¬ bes qx (px - 1024) (px + 1024) > 0 := by have := bes_zero qx (px - 1024) (px + 1024); omega
    have z4 : ¬ bes qy (py - 1024) (py + 1024) > 0 := by have := bes_zero qy (py - 1024) (py + 1024); omega
    have hf : f105 a b c d = (a, b, c, b, a, d, c, d) := rfl
    unfold f91
    simp only [(f87_sg px py).2 hv.p, (f87_sg qx qy).2 hv.q, (f88_sg a b c d).2 hv.r, Bool.not_true, cond_false, n1, n2, decide_false, z1, z2, z3, z4, g1, Option.bind_some, f63_sg hv.p hv.r, f63_sg hv.q hv.r, k_w hk, hf, g3]
    unfold Tch
    by_cases m : Mt px py qx qy a b c d
    · have : t1 = true := g2.2 m
      subst this
      exact ⟨true, rfl, by simp [hv, m]⟩
    · have : t1 = false := not_spec g2 m
      subst this
      by_cases m2 : gapQ px py a b c d ≤ k * k
      · exact ⟨true, by simp [m2], by simp [hv, m2]⟩
      · by_cases m3 : gapQ qx qy a b c d ≤ k * k
        · exact ⟨true, by simp [m2, m3], by simp [hv, m3]⟩
        · exact ⟨t2, by simp [m2, m3]; exact g4, by simp [hv, m, m2, m3, g5]⟩
  · refine ⟨false, ?_, by simp; exact fun h => hv h.1⟩
    unfold f91
    by_cases hp : nr px ∧ nr py
    · by_cases hq : nr qx ∧ nr qy
      · by_cases hr : VR a b c d
        · by_cases n1 : k < 0
          · simp [(f87_sg px py).2 hp, (f87_sg qx qy).2 hq, (f88_sg a b c d).2 hr, n1]
          · by_cases n2 : k > 1024
            · simp [(f87_sg px py).2 hp, (f87_sg qx qy).2 hq, (f88_sg a b c d).2 hr, n1, n2]
            · have hp' := hp
              have hq' := hq
              unfold nr at hp' hq'
              have z1 : f89 qx (IntKind.i64.wrap (px - 1024)) (IntKind.i64.wrap (px + 1024)) = bes qx (px - 1024) (px + 1024) := by
                rw [w64 (by omega) (by omega), w64 (by omega) (by omega), f89_sg (by omega) (by omega) (by omega)]
              have z2 : f89 qy (IntKind.i64.wrap (py - 1024)) (IntKind.i64.wrap (py + 1024)) = bes qy (py - 1024) (py + 1024) := by
                rw [w64 (by omega) (by omega), w64 (by omega) (by omega), f89_sg (by omega) (by omega) (by omega)]
              have b1 := bes_zero qx (px - 1024) (px + 1024)
              have b2 := bes_zero qy (py - 1024) (py + 1024)
              by_cases hx : -1024 ≤ qx - px ∧ qx - px ≤ 1024
              · have hy : ¬(-1024 ≤ qy - py ∧ qy - py ≤ 1024) := fun hy => hv ⟨hp, hq, hr, ⟨by omega, by omega⟩, hx, hy⟩
                have z3 : ¬ bes qx (px - 1024) (px + 1024) > 0 := by omega
                have z4 : bes qy (py - 1024) (py + 1024) > 0 := by omega
                simp [(f87_sg px py).2 hp, (f87_sg qx qy).2 hq, (f88_sg a b c d).2 hr, n1, n2, z1, z2, z3, z4]
              · have z3 : bes qx (px - 1024) (px + 1024) > 0 := by omega
                simp [(f87_sg px py).2 hp, (f87_sg qx qy).2 hq, (f88_sg a b c d).2 hr, n1, n2, z1, z3]
        · simp [(f87_sg px py).2 hp, (f87_sg qx qy).2 hq, not_spec (f88_sg a b c d) hr]
      · simp [(f87_sg px py).2 hp, not_spec (f87_sg qx qy) hq]
    · simp [not_spec (f87_sg px py) hp]

/-! ### What the document says -/

theorem sgn_opp {n m : Int} : sgn n * sgn m ≤ 0 ↔ opp n m := by
  unfold sgn opp
  by_cases e1 : n > 0 <;> by_cases e2 : n < 0 <;> by_cases e3 : m > 0 <;> by_cases e4 : m < 0 <;> simp [e1, e2, e3, e4] <;> omega

theorem CR_iff {px py qx qy ax ay bx by_ : Int} (hp : nr px ∧ nr py) (hq : nr qx ∧ nr qy) (ha : nr ax ∧ nr ay) (hb : nr bx ∧ nr by_) : CR px py qx qy ax ay bx by_ ↔ Xs px py qx qy ax ay bx by_ := by
  have t : ∀ {x1 y1 x2 y2 x3 y3 : Int}, nr x1 ∧ nr y1 → nr x2 ∧ nr y2 → nr x3 ∧ nr y3 → trn x1 y1 x2 y2 x3 y3 = sgn (crs x1 y1 x2 y2 x3 y3) := by
    intro x1 y1 x2 y2 x3 y3 h1 h2 h3
    unfold trn
    rw [(f87_sg _ _).2 h1, (f87_sg _ _).2 h2, (f87_sg _ _).2 h3]
    rfl
  constructor
  · intro h
    have h1 := h.t1
    have h2 := h.t2
    rw [t hp hq ha, t hp hq hb, sgn_opp] at h1
    rw [t ha hb hp, t ha hb hq, sgn_opp] at h2
    exact ⟨h.x1, h.x2, h.y1, h.y2, h1, h2⟩
  · intro h
    have h1 := h.t1
    have h2 := h.t2
    rw [← sgn_opp, ← t hp hq ha, ← t hp hq hb] at h1
    rw [← sgn_opp, ← t ha hb hp, ← t ha hb hq] at h2
    exact ⟨hp, hq, ha, hb, h.x1, h.x2, h.y1, h.y2, h1, h2⟩

theorem gap_in {x y a b c d k : Int} (h : a ≤ x ∧ x ≤ c ∧ b ≤ y ∧ y ≤ d) : gapQ x y a b c d ≤ k * k := by
  have e1 : bes x a c = 0 := by have := bes_zero x a c; have := bes_nonneg x a c; omega
  have e2 : bes y b d = 0 := by have := bes_zero y b d; have := bes_nonneg y b d; omega
  have := sq_nonneg k
  unfold gapQ
  rw [e1, e2]
  omega

/-- A side is crossed, or a corner is near. -/
def Doc (px py qx qy a b c d k : Int) : Prop := Sides px py qx qy a b c d ∨ Cn px py qx qy a b c d k

theorem doc_iff {px py qx qy a b c d k : Int} (h : TV px py qx qy a b c d k) : Tch px py qx qy a b c d k ↔
    ((a ≤ px ∧ px ≤ c ∧ b ≤ py ∧ py ≤ d) ∨ gapQ px py a b c d ≤ k * k ∨ gapQ qx qy a b c d ≤ k * k ∨ Doc px py qx qy a b c d k) := by
  have hr := h.r
  constructor
  · rintro ⟨_, m | g | g | g⟩
    · by_cases hin : a ≤ px ∧ px ≤ c ∧ b ≤ py ∧ py ≤ d
      · exact .inl hin
      · exact .inr (.inr (.inr (.inl (sides_out m (by omega)))))
    · exact .inr (.inl g)
    · exact .inr (.inr (.inl g))
    · exact .inr (.inr (.inr (.inr g)))
  · rintro (g | g | g | g | g)
    · exact ⟨h, .inr (.inl (gap_in g))⟩
    · exact ⟨h, .inr (.inl g)⟩
    · exact ⟨h, .inr (.inr (.inl g))⟩
    · refine ⟨h, .inl ?_⟩
      rcases g with g | g | g | g
      · exact mt_of_Xs hr.x hr.y (by simp) (by simp) g
      · exact mt_of_Xs hr.x hr.y (by simp) (by simp) g
      · exact mt_of_Xs hr.x hr.y (by simp) (by simp) g
      · exact mt_of_Xs hr.x hr.y (by simp) (by simp) g
    · exact ⟨h, .inr (.inr (.inr g))⟩

end Go.AE
