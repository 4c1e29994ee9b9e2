/-
  awake: the two fixed calls.
-/
import Derived.Test.YtpfhpkcjgibokaaP6
namespace Go.AE
open Go.RowKit
set_option maxRecDepth 100000

/-! ### The direction of mark 0 -/

theorem f43_dir {d : Int} (hd : 1 ≤ d) (hd2 : d ≤ 1000000) : f43 (d, 0, d, ()) = some (1, 0, 1, ()) := by
  have w0 : IntKind.i64.wrap (0 - d) = -d := by rw [w64 (by omega) (by omega)]; omega
  have w00 : IntKind.i64.wrap (0 - 0) = 0 := by decide
  have w1 : IntKind.i64.wrap (0 + 1) = 1 := by decide
  have w2 : IntKind.i64.wrap (1 + 1) = 2 := by decide
  have g1 : (Int.gcd d d : Int) = d := by rw [Int.gcd_self]; omega
  have g2 : (Int.gcd d 0 : Int) = d := by rw [Int.gcd_zero_right]; omega
  have a1 : ∀ z7 z8 z9 : Int, l43_6 (d, 0, d, d, d, d, 0, 0, z7, z8, z9, ()) = some (d, 0, d, d, d, 0, 0, z7, z8, z9, ()) := fun z7 z8 z9 => by
    unfold l43_6
    rw [l43_6_spec d 0 d d 0 0 z7 z8 z9 d d (by omega) (by omega), g1]
  have a2 : ∀ z7 z8 z9 : Int, l43_6 (d, 0, d, d, 0, d, 0, 1, z7, z8, z9, ()) = some (d, 0, d, d, d, 0, 1, z7, z8, z9, ()) := fun z7 z8 z9 => by
    unfold l43_6
    rw [l43_6_spec d 0 d d 0 1 z7 z8 z9 0 d (by omega) (by omega), g2]
  have c1 : ¬ -d > d := by omega
  have c2 : ¬ (0 : Int) > 0 := by omega
  have s0 : r43_0 (d, 0, d, d, d, 0, 0, 0, 0, 0, ()) = some (.inl (d, 0, d, d, d, 0, 1, 0, 0, 0, ())) := by
    unfold r43_0
    have e : idxO [d, 0] (0 : Int) = some d := rfl
    have x1 : (0 : Int) < 2 := by omega
    have x2 : (0 : Int) ≤ 0 := by omega
    simp only [x1, x2, decide_true, cond_true, Bool.and_true, e, Option.bind_some, w0, c1, decide_false, cond_false, a1, w1]
  have s1 : r43_0 (d, 0, d, d, d, 0, 1, 0, 0, 0, ()) = some (.inl (d, 0, d, d, d, 0, 2, 0, 0, 0, ())) := by
    unfold r43_0
    have e : idxO [d, 0] (1 : Int) = some 0 := rfl
    have x1 : (1 : Int) < 2 := by omega
    have x2 : (0 : Int) ≤ 1 := by omega
    simp only [x1, x2, decide_true, cond_true, Bool.and_true, e, Option.bind_some, w00, c2, decide_false, cond_false, a2, w2]
  have s2 : r43_0 (d, 0, d, d, d, 0, 2, 0, 0, 0, ()) = some (.inr (d, 0, d, d, 0, 0, 0, ())) := by
    unfold r43_0
    have x1 : ¬ (2 : Int) < 2 := by omega
    simp only [x1, decide_false, cond_false]
  have s : l43_0 (d, 0, d, d, d, 0, 0, 0, 0, 0, ()) = some (d, 0, d, d, 0, 0, 0, ()) := by
    unfold l43_0
    rw [iterO_eq, s0]
    show iterO r43_0 _ = _
    rw [iterO_eq, s1]
    show iterO r43_0 _ = _
    rw [iterO_eq, s2]
  have q : (d == 0) = false := by rw [beq_eq_false_iff_ne]; omega
  have t1 : d.tdiv d = 1 := Int.tdiv_self (by omega)
  have t2 : (0 : Int).tdiv d = 0 := Int.zero_tdiv d
  have w3 : IntKind.i64.wrap 1 = 1 := by decide
  have w4 : IntKind.i64.wrap 0 = 0 := by decide
  unfold f43
  simp only [s, Option.bind_some, q, cond_false, t1, t2, w3, w4]

theorem f24_zero : f24 (0, ()) = some (1, 0, 1, ()) := by
  have e : f44 0 = 0 := by rw [f44_spec]; decide
  have e1 : (0 : Int).tmod 64 = 0 := by decide
  have e2 : (0 : Int).tdiv 64 = 0 := by decide
  have w1 : IntKind.i64.wrap (0 * 0) = 0 := by decide
  have w2 : IntKind.i64.wrap (4096 - 0) = 4096 := by decide
  have w3 : IntKind.i64.wrap (128 * 0) = 0 := by decide
  have w4 : IntKind.i64.wrap (4096 + 0) = 4096 := by decide
  have w5 : IntKind.i64.wrap 0 = 0 := by decide
  have s : l24_0 (0, 0, 0, 0, 0, 1, 0, 1, ()) = some (0, 0, 0, 1, 0, 1, ()) := by
    unfold l24_0
    have s0 : r24_0 (0, 0, 0, 0, 0, 1, 0, 1, ()) = some (.inr (0, 0, 0, 1, 0, 1, ())) := by
      unfold r24_0
      have x1 : ¬ (0 : Int) < 0 := by omega
      simp only [x1, decide_false, cond_false]
    rw [iterO_eq, s0]
  unfold f24
  simp only [e, e1, e2, w1, w2, w3, w4, w5, f43_dir (d := 4096) (by omega) (by omega), Option.bind_some, s]

theorem f11_zero : f11 (0, 0, ()) = some (1, 0, 1, ()) := by
  have hv : f42 1 0 1 = true := (f70_sg 1 0 1).2 ⟨by omega, by omega, by omega, by omega, by omega, by omega, by omega⟩
  have w1 : IntKind.i64.wrap (1 * 1) = 1 := by decide
  have w2 : IntKind.i64.wrap (0 * 0) = 0 := by decide
  have w3 : IntKind.i64.wrap (1 - 0) = 1 := by decide
  have w4 : IntKind.i64.wrap (1 * 0) = 0 := by decide
  have w5 : IntKind.i64.wrap (0 * 1) = 0 := by decide
  have w6 : IntKind.i64.wrap (0 + 0) = 0 := by decide
  have c : ¬ (1 : Int) > 67108864 := by omega
  unfold f11 f23
  simp only [f24_zero, Option.bind_some, hv, Bool.not_true, cond_false, w1, w2, w3, w4, w5, w6, f43_dir (d := 1) (by omega) (by omega), c, decide_false]

/-! ### The ray from (32, 32) to the right -/

theorem vv1 : VV 1 0 1 := ⟨by omega, by omega, by omega, by omega, by omega, by omega, by omega⟩
theorem ray1 : Ray 32 32 1 0 1 := ⟨by unfold nearP; simp only; omega, vv1⟩

theorem inR1 {c : Pt} {t : Rat} : inR 32 32 1 0 (c.X * 64) (c.Y * 64) (c.X * 64 + 64) (c.Y * 64 + 64) t ↔ ((0 : Int) : Rat) ≤ t ∧ t ≤ ((8388608 : Int) : Rat) ∧ ((c.X * 64 - 32 : Int) : Rat) ≤ t ∧ t ≤ ((c.X * 64 + 32 : Int) : Rat) ∧ c.Y = 0 := by
  have e5 : ((8388608 : Int) : Rat) = 8388608 := Rat.intCast_ofNat
  have e6 : ((0 : Int) : Rat) = 0 := by norm_cast
  rw [e5]
  unfold inR inS
  have e1 : ((32 : Int) : Rat) + t * ((0 : Int) : Rat) = ((32 : Int) : Rat) := by grind
  have e2 : ((32 : Int) : Rat) + t * ((1 : Int) : Rat) = t + ((32 : Int) : Rat) := by grind
  rw [e1, e2, rat_le, rat_le]
  have e3 : ((c.X * 64 - 32 : Int) : Rat) = ((c.X * 64 : Int) : Rat) - ((32 : Int) : Rat) := by rw [Rat.intCast_sub]
  have e4 : ((c.X * 64 + 32 : Int) : Rat) = ((c.X * 64 + 64 : Int) : Rat) - ((32 : Int) : Rat) := by
    rw [← Rat.intCast_sub]
    congr 1
    omega
  rw [e3, e4, e6]
  constructor
  · rintro ⟨h1, h2, ⟨h3, h4⟩, h5, h6⟩
    exact ⟨h1, h2, by grind, by grind, by omega⟩
  · rintro ⟨h1, h2, h3, h4, h5⟩
    exact ⟨h1, h2, ⟨by grind, by grind⟩, by omega, by omega⟩

theorem dist1 {c : Pt} {hi : Int} (h : Met 32 32 1 0 1 0 hi c) : c.Y = 0 ∧ 0 ≤ c.X ∧ dist 32 32 1 0 1 c = ((max 0 (c.X * 64 - 32) : Int) : Rat) := by
  obtain ⟨l, u, e, h1, h2⟩ := h
  obtain ⟨g1, g2, g3⟩ := thru_some (show thruQ 32 32 1 0 1 (c.X * 64) (c.Y * 64) (c.X * 64 + 64) (c.Y * 64 + 64) = some (l, u) from e)
  have hl := inR1.1 ((g3 l).2 ⟨Rat.le_refl, g2⟩)
  obtain ⟨k1, k2, k3, k4, k5⟩ := hl
  have hx : ((0 : Int) : Rat) ≤ ((c.X * 64 + 32 : Int) : Rat) := Rat.le_trans k1 k4
  have hx' : (0 : Int) ≤ c.X * 64 + 32 := rat_le.1 hx
  have hlt : ((c.X * 64 - 32 : Int) : Rat) ≤ ((8388608 : Int) : Rat) := Rat.le_trans k3 k2
  have hlt' := rat_le.1 hlt
  refine ⟨k5, by omega, ?_⟩
  have e2 : dist 32 32 1 0 1 c = l * ((1 : Int) : Rat) := by unfold dist; rw [e]
  have e3 : l * ((1 : Int) : Rat) = l := by grind
  rw [e2, e3]
  have up : l ≤ ((max 0 (c.X * 64 - 32) : Int) : Rat) := ((g3 _).1 (inR1.2 ⟨rat_le.2 (by omega), rat_le.2 (by omega), rat_le.2 (by omega), rat_le.2 (by omega), k5⟩)).1
  have dn : ((max 0 (c.X * 64 - 32) : Int) : Rat) ≤ l := by
    rcases Int.le_total 0 (c.X * 64 - 32) with h | h
    · rw [Int.max_eq_right h]; exact k3
    · rw [Int.max_eq_left h]; exact k1
  exact Rat.le_antisymm up dn

theorem met1 {X hi : Int} (h0 : 0 ≤ X) (h1 : X * 64 - 32 ≤ hi) (h2 : 0 ≤ hi ∧ hi ≤ 2048) : Met 32 32 1 0 1 0 hi ⟨X, 0⟩ := by
  have hok : okR 32 32 1 0 1 (X * 64) (0 * 64) (X * 64 + 64) (0 * 64 + 64) := ray1.okC (c := ⟨X, 0⟩) (by simp only; omega)
  have hin : inR 32 32 1 0 (X * 64) (0 * 64) (X * 64 + 64) (0 * 64 + 64) ((max 0 (X * 64 - 32) : Int) : Rat) := (inR1 (c := ⟨X, 0⟩)).2 ⟨rat_le.2 (by omega), rat_le.2 (by omega), rat_le.2 (by simp only; omega), rat_le.2 (by simp only; omega), rfl⟩
  cases e : thruQ 32 32 1 0 1 (X * 64) (0 * 64) (X * 64 + 64) (0 * 64 + 64) with
  | none => exact (thru_none e hok _ hin).elim
  | some q =>
    obtain ⟨l, u⟩ := q
    obtain ⟨g1, g2, g3⟩ := thru_some e
    obtain ⟨k1, k2⟩ := (g3 _).1 hin
    have z0 : ((0 : Int) : Rat) ≤ u := Rat.le_trans (rat_le.2 (show (0 : Int) ≤ max 0 (X * 64 - 32) by omega)) k2
    refine ⟨l, u, e, ?_, ?_⟩
    · have e3 : u * ((1 : Int) : Rat) = u := by grind
      rw [e3]; exact z0
    · have e3 : l * ((1 : Int) : Rat) = l := by grind
      rw [e3]
      exact Rat.le_trans k1 (rat_le.2 (by omega))

/-- The plan of the fixed calls. -/
def pl1 : Pl := ⟨3, 1, [1, 1, 2]⟩
theorem pl1_ok : pl1.Ok := Pl.vld_ok (by decide) (by decide)
theorem pl1_in : inRp pl1 ⟨32, 32⟩ := by unfold inRp pl1; simp only; omega

theorem pl1_val {X : Int} (h : 0 ≤ X) (hv : pl1.val ⟨X, 0⟩ = 2) : 2 ≤ X := by
  rcases Int.lt_or_le X 2 with h2 | h2
  · have : X = 0 ∨ X = 1 := by omega
    rcases this with rfl | rfl
    · exact absurd hv (by decide)
    · exact absurd hv (by decide)
  · exact h2

theorem awake_z : f9 (3, 1, [1, 1, 2], 32, 32, 0, 0, 1, 0, ()) = some (96, 0, ()) := by
  obtain ⟨z, h1, h2, _, h3⟩ := measure_more (err := 0) (rng := 1) pl1_ok pl1_in f11_zero vv1 (by omega) (by omega) (by omega)
  have h1' : f9 (3, 1, [1, 1, 2], 32, 32, 0, 0, 1, 0, ()) = some (z, 0, ()) := h1
  have hw : pl1.val ⟨2, 0⟩ = 2 := by decide
  rcases h3 with ⟨_, h4⟩ | ⟨q, w, m, e, k1, k2, k3, k4, k5, k6⟩
  · exact (h4 ⟨2, 0⟩ hw (met1 (by omega) (by omega) (by omega))).elim
  · obtain ⟨⟨j1, j2, j3⟩, j4⟩ := fst_some (by omega) k1
    have hm := met1 (X := 2) (hi := 1024) (by omega) (by omega) (by omega)
    have up := j4 ⟨2, 0⟩ hw hm
    rw [(dist1 hm).2.2] at up
    obtain ⟨y1, y2, y3⟩ := dist1 j1
    have hx2 : 2 ≤ w.X := pl1_val y2 (by cases w; simp only at y1; subst y1; exact j2)
    rw [← j3] at y3
    rw [y3] at up k2 k3
    have u1 := rat_le.1 up
    have u2 := rat_le.1 k2
    have u3 := Rat.intCast_lt_intCast.1 k3
    simp only at u1
    rw [h1']
    have : z = 96 := by omega
    rw [this]

theorem awake_list : (trc 32 32 1 0 1 0 97).length = 3 := by
  have hp : (trc 32 32 1 0 1 0 97).Perm [⟨0, 0⟩, ⟨1, 0⟩, ⟨2, 0⟩] := (List.perm_ext_iff_of_nodup (trc_nodup _ _ _ _ _ _ _) (by decide)).2 fun c => by
    rw [trc_mem (by omega)]
    constructor
    · intro h
      obtain ⟨y1, y2, y3⟩ := dist1 h
      have h2 := (met_iff.1 h).2
      rw [y3] at h2
      have h3 := rat_le.1 h2
      cases c with
      | mk X Y =>
        simp only at y1 y2 h3
        subst y1
        have : X = 0 ∨ X = 1 ∨ X = 2 := by omega
        rcases this with rfl | rfl | rfl <;> simp
    · intro h
      simp only [List.mem_cons, List.not_mem_nil, or_false] at h
      rcases h with rfl | rfl | rfl <;> exact met1 (by omega) (by omega) (by omega)
  exact hp.length_eq

theorem f4_spec : f4 () = some (true, ()) := by
  have h := f15_one (px := 32) (py := 32) (hd := 0) (b := ⟨0, 97⟩) (by omega) (by omega) (by simp only; omega) (by simp only; omega) f11_zero vv1
  simp only [awake_list] at h
  unfold f4
  simp only [awake_z, Option.bind_some, h]
  decide
end Go.AE

/-
  WholeRays' own loops and guards.
-/
namespace Go.AE
open Go.RowKit
set_option maxRecDepth 100000

/-! ### Guards -/

theorem l17_0_spec (a1 a2 : Int) (C : List Int) (hl : C.length ≤ 1000) : ∀ (t i : Nat), C.length - i = t → i ≤ C.length → ∃ y, l17_0 ((i : Int), a1, a2, C, ()) = some y ∧ (y = .inl (false, ()) ∨ y = .inr () ∧ ∀ x ∈ C.drop i, x ≤ 2)
  | t, i, ht, hi => by
    unfold l17_0
    rw [iterO_eq]
    by_cases e : i = C.length
    · have c1 : ¬ ((i : Int) < (C.length : Int)) := by omega
      have hd : C.drop i = [] := List.drop_eq_nil_of_le (by omega)
      rw [hd]
      unfold r17_0
      simp only [c1, decide_false, cond_false]
      exact ⟨_, rfl, .inr ⟨rfl, fun x hx => by cases hx⟩⟩
    · have hlt : i < C.length := by omega
      have c1 : ((i : Int) < (C.length : Int)) := by omega
      have hdrop : C.drop i = C[i] :: C.drop (i + 1) := List.drop_eq_getElem_cons hlt
      have hc : C[i]? = some C[i] := List.getElem?_eq_getElem hlt
      have w1 : IntKind.i64.wrap ((i : Int) + 1) = ((i + 1 : Nat) : Int) := by rw [w64 (by omega) (by omega)]; rfl
      match t, ht with
      | 0, ht => omega
      | t + 1, ht =>
        obtain ⟨y, ih1, ih2⟩ := l17_0_spec a1 a2 C hl t (i + 1) (by omega) (by omega)
        by_cases hx : C[i] > 2
        · have hstep : r17_0 ((i : Int), a1, a2, C, ()) = some (.inr (.inl (false, ()))) := by
            unfold r17_0
            simp only [c1, decide_true, cond_true, idxO_nat, hc, Option.bind_some, hx]
          rw [hstep]
          exact ⟨_, rfl, .inl rfl⟩
        · have hstep : r17_0 ((i : Int), a1, a2, C, ()) = some (.inl (((i + 1 : Nat) : Int), a1, a2, C, ())) := by
            unfold r17_0
            simp only [c1, decide_true, cond_true, idxO_nat, hc, Option.bind_some, hx, decide_false, cond_false, w1]
          rw [hstep]
          refine ⟨y, ih1, ?_⟩
          rcases ih2 with h | ⟨h1, h2⟩
          · exact .inl h
          · refine .inr ⟨h1, fun x hx' => ?_⟩
            rw [hdrop] at hx'
            rcases List.mem_cons.1 hx' with h | h
            · omega
            · exact h2 x h

theorem l5_0_spec (a1 a2 : Int) (C : List Int) (hl : C.length ≤ 1000) : ∀ (t i : Nat), C.length - i = t → i ≤ C.length → ∃ y, l5_0 ((i : Int), a1, a2, C, ()) = some y ∧ (y = .inl (false, ()) ∨ y = .inr ())
  | t, i, ht, hi => by
    unfold l5_0
    rw [iterO_eq]
    by_cases e : i = C.length
    · have c1 : ¬ ((i : Int) < (C.length : Int)) := by omega
      unfold r5_0
      simp only [c1, decide_false, cond_false]
      exact ⟨_, rfl, .inr rfl⟩
    · have hlt : i < C.length := by omega
      have c1 : ((i : Int) < (C.length : Int)) := by omega
      have hc : C[i]? = some C[i] := List.getElem?_eq_getElem hlt
      have w1 : IntKind.i64.wrap ((i : Int) + 1) = ((i + 1 : Nat) : Int) := by rw [w64 (by omega) (by omega)]; rfl
      match t, ht with
      | 0, ht => omega
      | t + 1, ht =>
        have ih := l5_0_spec a1 a2 C hl t (i + 1) (by omega) (by omega)
        cases hx : (C[i] == 0) with
        | true =>
          have hstep : r5_0 ((i : Int), a1, a2, C, ()) = some (.inr (.inl (false, ()))) := by
            unfold r5_0
            simp only [c1, decide_true, cond_true, idxO_nat, hc, Option.bind_some, hx]
          rw [hstep]
          exact ⟨_, rfl, .inl rfl⟩
        | false =>
          have hstep : r5_0 ((i : Int), a1, a2, C, ()) = some (.inl (((i + 1 : Nat) : Int), a1, a2, C, ())) := by
            unfold r5_0
            simp only [c1, decide_true, cond_true, idxO_nat, hc, Option.bind_some, hx, cond_false, w1]
          rw [hstep]
          exact ih

/-- base.Building: what it says yes to is a plan. -/
theorem f5_spec (p : Pl) (hl : p.C.length ≤ 1000) : ∃ b, f5 (p.W, p.H, p.C, ()) = some (b, ()) ∧ (b = true → p.vld = true) := by
  have H : ∃ b, f17 (p.W, p.H, p.C, ()) = some (b, ()) ∧ (b = true → p.vld = true) := by
    by_cases e1 : p.W < 1
    · exact ⟨false, by unfold f17; simp [e1], fun h => by cases h⟩
    by_cases e2 : p.W > 64
    · exact ⟨false, by unfold f17; simp [e1, e2], fun h => by cases h⟩
    by_cases e3 : p.H < 1
    · exact ⟨false, by unfold f17; simp [e1, e2, e3], fun h => by cases h⟩
    by_cases e4 : p.H > 64
    · exact ⟨false, by unfold f17; simp [e1, e2, e3, e4], fun h => by cases h⟩
    have hm := mulb (a := p.W) (b := p.H) (A := 64) (B := 64) (by omega) (by omega) (by omega) (by omega)
    have w1 : IntKind.i64.wrap (p.W * p.H) = p.W * p.H := w64 (by omega) (by omega)
    by_cases e5 : (p.C.length : Int) = p.W * p.H
    · have e5' : ((p.C.length : Int) != p.W * p.H) = false := by simp [e5]
      obtain ⟨y, h1, h2⟩ := l17_0_spec p.W p.H p.C hl p.C.length 0 (by omega) (by omega)
      have h1' : l17_0 (0, p.W, p.H, p.C, ()) = some y := h1
      rcases h2 with rfl | ⟨rfl, h2⟩
      · refine ⟨false, ?_, fun h => by cases h⟩
        unfold f17
        simp only [e1, e2, e3, e4, decide_false, cond_false, w1, e5', h1', Option.bind_some, Sum.elim_inl]
      · refine ⟨true, ?_, fun _ => ?_⟩
        · unfold f17
          simp only [e1, e2, e3, e4, decide_false, cond_false, w1, e5', h1', Option.bind_some, Sum.elim_inr]
        · unfold Pl.vld
          simp only [Bool.and_eq_true, decide_eq_true_eq, List.all_eq_true]
          rw [List.drop_zero] at h2
          exact ⟨by omega, by omega, by omega, by omega, e5, h2⟩
    · have e5' : ((p.C.length : Int) != p.W * p.H) = true := by simpa using e5
      refine ⟨false, ?_, fun h => by cases h⟩
      unfold f17
      simp only [e1, e2, e3, e4, decide_false, cond_false, w1, e5', cond_true]
  obtain ⟨b, h1, h2⟩ := H
  cases b with
  | false => exact ⟨false, by unfold f5; simp only [h1, Option.bind_some, Bool.not_false, cond_true], fun h => by cases h⟩
  | true =>
    obtain ⟨y, k1, k2⟩ := l5_0_spec p.W p.H p.C hl p.C.length 0 (by omega) (by omega)
    have k1' : l5_0 (0, p.W, p.H, p.C, ()) = some y := k1
    rcases k2 with rfl | rfl
    · exact ⟨false, by unfold f5; simp only [h1, Option.bind_some, Bool.not_true, cond_false, k1', Sum.elim_inl], fun h => by cases h⟩
    · exact ⟨true, by unfold f5; simp only [h1, Option.bind_some, Bool.not_true, cond_false, k1', Sum.elim_inr], fun _ => h2 rfl⟩

theorem f7_rng (n : Int) : 1 ≤ f7 n 1 32 ∧ f7 n 1 32 ≤ 32 := by
  unfold f7
  by_cases h1 : (32 : Int) < n
  · have h2 : (32 : Int) > 1 := by omega
    simp [h1]
  · by_cases h2 : n > 1
    · simp [h1, h2]; omega
    · simp [h1, h2]

theorem f8_spec (n : Int) : ∃ m, f8 (n, 256, ()) = some (m, ()) ∧ 0 ≤ m ∧ m ≤ 255 := by
  have q : ((256 : Int) == 0) = false := by decide
  have h1 : -256 < n.tmod 256 ∧ n.tmod 256 < 256 := by
    constructor
    · have := Int.lt_tmod_of_pos n (show (0 : Int) < 256 by omega)
      omega
    · exact Int.tmod_lt_of_pos n (by omega)
  by_cases c : n.tmod 256 < 0
  · have w1 : IntKind.i64.wrap (n.tmod 256 + 256) = n.tmod 256 + 256 := w64 (by omega) (by omega)
    refine ⟨n.tmod 256 + 256, ?_, by omega, by omega⟩
    unfold f8
    simp only [q, cond_false, c, decide_true, cond_true, w1, j8_13, Option.bind_some]
  · refine ⟨n.tmod 256, ?_, by omega, by omega⟩
    unfold f8
    simp only [q, cond_false, c, decide_false, j8_13, Option.bind_some]

theorem f6_yes {x y h : Int} (e : f6 x y h = true) : 0 ≤ h ∧ h ≤ 255 := by
  unfold f6 at e
  by_cases c1 : h ≥ 0
  · by_cases c2 : h < 256
    · omega
    · simp [c1, c2] at e
  · simp [c1] at e

/-! ### Loops -/

section
variable {p : Pl} (hp : p.Ok)
include hp

theorem l3_0_spec (a0 a1 a2 : Int) {L : List Pt} (hl : L.length ≤ 1000000) (hno : ∀ c ∈ L, p.val c ≠ 2) (b0 b1 b2 b3 b4 b5 b6 b7 b8 b9 b10 b11 : Int) : ∀ (t i : Nat), L.length - i = t → i ≤ L.length →
    l3_0 (a0, a1, a2, L, (i : Int), p.W, p.H, p.C, b0, b1, b2, b3, b4, b5, b6, b7, b8, b9, b10, b11, ()) = some (.inr (a0, a1, a2, p.W, p.H, p.C, b0, b1, b2, b3, b4, b5, b6, b7, b8, b9, b10, b11, ()))
  | t, i, ht, hi => by
    unfold l3_0
    rw [iterO_eq]
    by_cases e : i = L.length
    · have c1 : ¬ ((i : Int) < (L.length : Int)) := by omega
      unfold r3_0
      simp only [c1, decide_false, cond_false]
    · have hlt : i < L.length := by omega
      have c1 : ((i : Int) < (L.length : Int)) := by omega
      have hc : L[i]? = some L[i] := List.getElem?_eq_getElem hlt
      have w1 : IntKind.i64.wrap ((i : Int) + 1) = ((i + 1 : Nat) : Int) := by rw [w64 (by omega) (by omega)]; rfl
      have hv : (p.val L[i] == 2) = false := by
        have := hno L[i] (List.getElem_mem hlt)
        simpa using this
      match t, ht with
      | 0, ht => omega
      | t + 1, ht =>
        have ih := l3_0_spec a0 a1 a2 hl hno b0 b1 b2 b3 b4 b5 b6 b7 b8 b9 b10 b11 t (i + 1) (by omega) (by omega)
        have hstep : r3_0 (a0, a1, a2, L, (i : Int), p.W, p.H, p.C, b0, b1, b2, b3, b4, b5, b6, b7, b8, b9, b10, b11, ()) = some (.inl (a0, a1, a2, L, ((i + 1 : Nat) : Int), p.W, p.H, p.C, b0, b1, b2, b3, b4, b5, b6, b7, b8, b9, b10, b11, ())) := by
          unfold r3_0
          simp only [c1, decide_true, cond_true, idxO_nat, hc, Option.bind_some, f13_spec hp, hv, cond_false, w1]
        rw [hstep]
        exact ih

theorem l3_6_spec (a0 a1 e0 : Int) {L : List Pt} (hl : L.length ≤ 1000000) (b0 b1 b2 b3 b4 b5 b6 b7 b8 b9 b10 b11 : Int) : ∀ (t i : Nat) (s : Bool), L.length - i = t → i ≤ L.length → (s = true ∨ ∃ c ∈ L.drop i, p.val c = 2) →
    l3_6 (a0, a1, L, e0, s, (i : Int), p.W, p.H, p.C, b0, b1, b2, b3, b4, b5, b6, b7, b8, b9, b10, b11, ()) = some (a0, a1, e0, true, p.W, p.H, p.C, b0, b1, b2, b3, b4, b5, b6, b7, b8, b9, b10, b11, ())
  | t, i, s, ht, hi, hs => by
    unfold l3_6
    rw [iterO_eq]
    by_cases e : i = L.length
    · have c1 : ¬ ((i : Int) < (L.length : Int)) := by omega
      have hd : L.drop i = [] := List.drop_eq_nil_of_le (by omega)
      rw [hd] at hs
      have hs' : s = true := by
        rcases hs with h | ⟨c, h, _⟩
        · exact h
        · cases h
      subst hs'
      unfold r3_6
      simp only [c1, decide_false, cond_false]
    · have hlt : i < L.length := by omega
      have c1 : ((i : Int) < (L.length : Int)) := by omega
      have hc : L[i]? = some L[i] := List.getElem?_eq_getElem hlt
      have hdrop : L.drop i = L[i] :: L.drop (i + 1) := List.drop_eq_getElem_cons hlt
      have w1 : IntKind.i64.wrap ((i : Int) + 1) = ((i + 1 : Nat) : Int) := by rw [w64 (by omega) (by omega)]; rfl
      match t, ht with
      | 0, ht => omega
      | t + 1, ht =>
        cases s with
        | true =>
          have ih := l3_6_spec a0 a1 e0 hl b0 b1 b2 b3 b4 b5 b6 b7 b8 b9 b10 b11 t (i + 1) true (by omega) (by omega) (.inl rfl)
          have hstep : r3_6 (a0, a1, L, e0, true, (i : Int), p.W, p.H, p.C, b0, b1, b2, b3, b4, b5, b6, b7, b8, b9, b10, b11, ()) = some (.inl (a0, a1, L, e0, true, ((i + 1 : Nat) : Int), p.W, p.H, p.C, b0, b1, b2, b3, b4, b5, b6, b7, b8, b9, b10, b11, ())) := by
            unfold r3_6
            simp only [c1, decide_true, cond_true, j3_88, Option.bind_some, w1]
          rw [hstep]
          exact ih
        | false =>
          have ih := l3_6_spec a0 a1 e0 hl b0 b1 b2 b3 b4 b5 b6 b7 b8 b9 b10 b11 t (i + 1) (p.val L[i] == 2) (by omega) (by omega) (by
            rcases hs with h | ⟨c, h1, h2⟩
            · cases h
            · rw [hdrop] at h1
              rcases List.mem_cons.1 h1 with h | h
              · exact .inl (by rw [← h]; simpa using h2)
              · exact .inr ⟨c, h, h2⟩)
          have hstep : r3_6 (a0, a1, L, e0, false, (i : Int), p.W, p.H, p.C, b0, b1, b2, b3, b4, b5, b6, b7, b8, b9, b10, b11, ()) = some (.inl (a0, a1, L, e0, p.val L[i] == 2, ((i + 1 : Nat) : Int), p.W, p.H, p.C, b0, b1, b2, b3, b4, b5, b6, b7, b8, b9, b10, b11, ())) := by
            unfold r3_6
            simp only [c1, decide_true, cond_true, cond_false, idxO_nat, hc, Option.bind_some, f13_spec hp, j3_88, w1]
          rw [hstep]
          exact ih

theorem l3_12_spec {z N D : Int} (hz : 0 ≤ z ∧ z ≤ 1024) (hD : 0 ≤ D ∧ D ≤ 67108864) {M : List En} (hl : M.length ≤ 1000000) (hno : z * D < N → ∀ e ∈ M, e.B > 0 → p.val ⟨e.X, e.Y⟩ ≠ 2) (b0 b1 b2 b3 b4 b5 b6 : Int) : ∀ (t i : Nat), M.length - i = t → i ≤ M.length →
    l3_12 (z, M.length, (i : Int), p.W, p.H, p.C, b0, b1, b2, b3, b4, b5, b6, N, D, M, ()) = some (.inr ())
  | t, i, ht, hi => by
    unfold l3_12
    rw [iterO_eq]
    by_cases e : i = M.length
    · have c1 : ¬ ((i : Int) < (M.length : Int)) := by omega
      unfold r3_12
      simp only [c1, decide_false, cond_false]
    · have hlt : i < M.length := by omega
      have c1 : ((i : Int) < (M.length : Int)) := by omega
      have c0 : ((0 : Int) ≤ (i : Int)) := by omega
      have hc : M[0 + (i : Int).toNat]? = some M[i] := by rw [Int.toNat_natCast, Nat.zero_add]; exact List.getElem?_eq_getElem hlt
      have w1 : IntKind.i64.wrap ((i : Int) + 1) = ((i + 1 : Nat) : Int) := by rw [w64 (by omega) (by omega)]; rfl
      have hm := mulb (a := z) (b := D) (A := 1024) (B := 67108864) (by omega) (by omega) (by omega) (by omega)
      have w2 : IntKind.i64.wrap (z * D) = z * D := w64 (by omega) (by omega)
      match t, ht with
      | 0, ht => omega
      | t + 1, ht =>
        have ih := l3_12_spec hz hD hl hno b0 b1 b2 b3 b4 b5 b6 t (i + 1) (by omega) (by omega)
        have hstep : r3_12 (z, M.length, (i : Int), p.W, p.H, p.C, b0, b1, b2, b3, b4, b5, b6, N, D, M, ()) = some (.inl (z, M.length, ((i + 1 : Nat) : Int), p.W, p.H, p.C, b0, b1, b2, b3, b4, b5, b6, N, D, M, ())) := by
          unfold r3_12
          by_cases h1 : z * D < N
          · by_cases h2 : M[i].B > 0
            · have hv : (p.val ⟨M[i].X, M[i].Y⟩ == 2) = false := by
                have := hno h1 M[i] (List.getElem_mem hlt) h2
                simpa using this
              have hf := f13_spec hp ⟨M[i].X, M[i].Y⟩
              simp only at hf
              simp only [c1, c0, decide_true, cond_true, Bool.and_true, w2, h1, hc, Option.bind_some, h2, hf, hv, cond_false, j3_130, w1]
            · simp only [c1, c0, decide_true, cond_true, Bool.and_true, w2, h1, hc, Option.bind_some, h2, decide_false, cond_false, j3_130, w1]
          · simp only [c1, decide_true, cond_true, w2, h1, decide_false, cond_false, Option.bind_some, j3_130, w1]
        rw [hstep]
        exact ih
end
end Go.AE

/-
  WholeRays: the plain law.
-/
namespace Go.AE
open Go.RowKit
set_option maxRecDepth 100000

theorem den_of_int {q : Rat} {n : Int} (h1 : q.num = n) (h2 : q.den = 1) : q = (n : Rat) := by
  apply Rat.ext
  · rw [h1]; simp
  · rw [h2]; simp

section
variable {p : Pl} {px py x y d : Int}

/-- What an evidence list of a beam is: in strict order, each entry a counted cell. -/
theorem list_ok (hray : Ray px py x y d) {z : Int} (hz : 0 ≤ z ∧ z ≤ 1024) (hpx : (0 ≤ px ∧ px ≤ 4096) ∧ 0 ≤ py ∧ py ≤ 4096) (E : List Pt) :
    ((sortE ((trc px py x y d 0 z).map (enOf E))).Pairwise ltE) ∧ (∀ e ∈ sortE ((trc px py x y d 0 z).map (enOf E)), goodE e ∧ ∃ c, Met px py x y d 0 z c ∧ e = enOf E c) ∧ (sortE ((trc px py x y d 0 z).map (enOf E))).length = (trc px py x y d 0 z).length := by
  have hmem : ∀ e, e ∈ sortE ((trc px py x y d 0 z).map (enOf E)) ↔ ∃ c, Met px py x y d 0 z c ∧ e = enOf E c := fun e => by
    rw [(sortE_perm _).mem_iff, List.mem_map]
    constructor
    · rintro ⟨c, h1, h2⟩
      exact ⟨c, (trc_mem hz.1 c).1 h1, h2.symm⟩
    · rintro ⟨c, h1, h2⟩
      exact ⟨c, (trc_mem hz.1 c).2 h1, h2.symm⟩
  refine ⟨?_, fun e he => ?_, by rw [sortE_len, List.length_map]⟩
  · have h1 := sortE_sorted ((trc px py x y d 0 z).map (enOf E))
    have h0 : ((trc px py x y d 0 z).map (enOf E)).Pairwise fun a b => ¬ sameC a b := by
      rw [List.pairwise_map]
      refine List.Pairwise.imp (fun {a b} h => ?_) (trc_nodup px py x y d 0 z)
      unfold sameC
      rw [(enOf_X E a).1, (enOf_X E a).2, (enOf_X E b).1, (enOf_X E b).2]
      rintro ⟨e1, e2⟩
      exact h (by cases a; cases b; simp only at e1 e2; rw [e1, e2])
    have h2 : (sortE ((trc px py x y d 0 z).map (enOf E))).Pairwise fun a b => ¬ sameC a b := (sortE_perm _).symm.pairwise h0 (fun {a b} h h' => h ⟨h'.1.symm, h'.2.symm⟩)
    refine (h1.and h2).imp fun {a b} h => ?_
    obtain ⟨k1, k2⟩ := h
    unfold ltE
    unfold sameC at k2
    simp [leE] at k1
    omega
  · obtain ⟨c, h1, rfl⟩ := (hmem e).1 he
    refine ⟨?_, c, h1, rfl⟩
    have hv := hray.v
    obtain ⟨_, _, _, b4, b5, _⟩ := box_size (p := px) (lo := 0) (hi := z) ⟨hv.d1, hv.d2⟩ ⟨hv.x1, hv.x2⟩ (by omega) hz.1 (by omega)
    obtain ⟨_, _, _, c4, c5, _⟩ := box_size (p := py) (lo := 0) (hi := z) ⟨hv.d1, hv.d2⟩ ⟨hv.y1, hv.y2⟩ (by omega) hz.1 (by omega)
    obtain ⟨⟨q1, q2⟩, q3, q4⟩ := h1.box hz.1
    unfold goodE enOf
    split <;> simp only <;> omega

/-- Behind the reading. -/
theorem j70_spec (hp : p.Ok) (hin : inRp p ⟨px, py⟩) {hd mark rng : Int} (sb : f11 (hd, mark, ()) = some (x, y, d, ())) (hv : VV x y d) (hh : 0 ≤ hd ∧ hd ≤ 255) (hm : 0 ≤ mark ∧ mark ≤ 255) (hr : 1 ≤ rng ∧ rng ≤ 32) {z m e : Int} {q : Rat} {w : Pt}
    (hf : fst p px py x y d 1024 = some (q, w)) (h1 : (m : Rat) ≤ q) (h2 : q < ((m + 1 : Int) : Rat)) (h3 : 0 ≤ z ∧ z ≤ 1024) (h4 : 1 - rng ≤ e ∧ e ≤ rng) (h5 : z = max 0 (m + e)) (b0 b1 b2 b3 : Int) :
    j3_70 (mark, rng, z, p.W, p.H, p.C, b0, b1, b2, b3, px, py, hd, px, py, x, y, d, ()) = some (true, ()) := by
  have hray : Ray px py x y d := ⟨Ok.in_near hp hin, hv⟩
  obtain ⟨⟨k1, k2, k3⟩, k4⟩ := fst_some (most := 1024) (by omega) hf
  obtain ⟨⟨n1, n2, n3⟩, n4⟩ := dist_num k1
  rw [← k3] at n1 n2 n3 n4
  have hw2 := hp.w2
  have hh2 := hp.h2
  have hin2 := hin
  unfold inRp at hin2
  simp only at hin2
  have q0 : ((0 : Int) : Rat) ≤ q := by
    rw [← le_num]
    omega
  have m0 : 0 ≤ m := by
    have : ((0 : Int) : Rat) < ((m + 1 : Int) : Rat) := by grind
    have := Rat.intCast_lt_intCast.1 this
    omega
  have q1024 : q ≤ ((1024 : Int) : Rat) := num_le.1 n4
  have c0 : (z == -1) = false := by rw [beq_eq_false_iff_ne]; omega
  have w1 : IntKind.i64.wrap (z - rng) = z - rng := w64 (by omega) (by omega)
  have w2 : IntKind.i64.wrap (z + rng) = z + rng := w64 (by omega) (by omega)
  -- the range of the reading
  obtain ⟨lo, hlo⟩ : ∃ lo, (bif decide (z - rng > 0) then z - rng else 0) = lo := ⟨_, rfl⟩
  have lob : 0 ≤ lo ∧ lo ≤ m ∧ lo ≤ z + rng := by
    by_cases c : z - rng > 0
    · have : lo = z - rng := by rw [← hlo]; simp only [c, decide_true, cond_true]
      omega
    · have : lo = 0 := by rw [← hlo]; simp only [c, decide_false, cond_false]
      omega
  have s12 := f12_spec hray (lo := lo) (hi := z + rng) (by omega) (by omega) (by omega)
  have hln := trc_len hray (lo := lo) (hi := z + rng) (by omega) (by omega) (by omega)
  -- the wall is met there
  obtain ⟨l, u, e1, e2, e3⟩ := k1
  have eq : q = l * d := by rw [k3]; unfold dist; rw [e1]
  obtain ⟨g1, g2, V⟩ := thruQ_lo (show thruQ px py x y d (w.X * 64) (w.Y * 64) (w.X * 64 + 64) (w.Y * 64 + 64) = some (l, u) from e1)
  have hd1 := V.d1
  have hd' : (0 : Rat) ≤ d := by exact_mod_cast (by omega : (0 : Int) ≤ d)
  have hlu : q ≤ u * d := by rw [eq]; exact Rat.mul_le_mul_of_nonneg_right g2 hd'
  have hmw : Met px py x y d lo (z + rng) w := by
    refine ⟨l, u, e1, ?_, ?_⟩
    · exact Rat.le_trans (Rat.le_trans (rat_le.2 (by omega)) h1) hlu
    · rw [← eq]
      exact Rat.le_trans (Rat.le_of_lt h2) (rat_le.2 (by omega))
  have s6 := l3_6_spec hp mark z 0 (L := trc px py x y d lo (z + rng)) (by omega) b0 b1 b2 b3 px py hd px py x y d _ 0 false rfl (by omega) (.inr ⟨w, by rw [List.drop_zero]; exact (trc_mem (by omega) w).2 hmw, k2⟩)
  have s6' : l3_6 (mark, z, trc px py x y d lo (z + rng), 0, false, 0, p.W, p.H, p.C, b0, b1, b2, b3, px, py, hd, px, py, x, y, d, ()) = some (mark, z, 0, true, p.W, p.H, p.C, b0, b1, b2, b3, px, py, hd, px, py, x, y, d, ()) := s6
  -- the first wall
  have s14 := f14_spec hp hin hv (most := 2048) (by omega) (by omega)
  have hf2 : ∃ w2, fst p px py x y d 2048 = some (q, w2) ∧ p.val w2 = 2 ∧ (thruC px py x y d w2).isSome = true ∧ q = dist px py x y d w2 := by
    cases hc : fst p px py x y d 2048 with
    | none => exact ((fst_none (most := 2048) (by omega)).1 hc w k2 ⟨l, u, e1, e2, Rat.le_trans e3 (rat_le.2 (by omega))⟩).elim
    | some qw =>
      obtain ⟨q2, w2⟩ := qw
      obtain ⟨⟨i1, i2, i3⟩, i4⟩ := fst_some (most := 2048) (by omega) hc
      have le1 : q2 ≤ q := by
        rw [k3]
        exact i4 w k2 ⟨l, u, e1, e2, Rat.le_trans e3 (rat_le.2 (by omega))⟩
      have le2 : q ≤ q2 := by
        rw [i3]
        refine k4 w2 i2 (met_iff.2 ⟨(met_iff.1 i1).1, ?_⟩)
        rw [← i3]
        exact Rat.le_trans le1 q1024
      have e : q2 = q := Rat.le_antisymm le1 le2
      subst e
      exact ⟨w2, rfl, i2, (met_iff.1 i1).1, i3⟩
  obtain ⟨w2c, f1, f2, f3, f4⟩ := hf2
  rw [f1] at s14
  simp only [encB] at s14
  have c2 : ¬ ((q.den : Int) < 1) := by omega
  -- the evidence
  have s15 := f15_one (px := px) (py := py) (hd := hd) (b := ⟨mark, z⟩) (by omega) hh hm h3 sb hv
  simp only at s15
  obtain ⟨M1, M2, M3⟩ := list_ok hray h3 (by omega) (trc px py x y d z z)
  have hl3 := trc_len hray (lo := 0) (hi := z) (by omega) (by omega) (by omega)
  rw [← M3] at s15 hl3
  have mem_of : ∀ c, Met px py x y d 0 z c → enOf (trc px py x y d z z) c ∈ sortE ((trc px py x y d 0 z).map (enOf (trc px py x y d z z))) := fun c hc => by
    rw [(sortE_perm _).mem_iff]
    exact List.mem_map.2 ⟨c, (trc_mem h3.1 c).2 hc, rfl⟩
  generalize sortE ((trc px py x y d 0 z).map (enOf (trc px py x y d z z))) = M at M1 M2 M3 s15 hl3 mem_of
  have s12' := l3_12_spec hp (z := z) (N := q.num) (D := (q.den : Int)) h3 (by omega) (M := M) (by omega) (fun hzn e he _ hval => by
    obtain ⟨_, c, hc1, hc2⟩ := M2 e he
    have hcx : (⟨e.X, e.Y⟩ : Pt) = c := by rw [hc2, (enOf_X _ c).1, (enOf_X _ c).2]
    rw [hcx] at hval
    have h6 := k4 c hval (met_iff.2 ⟨(met_iff.1 hc1).1, Rat.le_trans (met_iff.1 hc1).2 (rat_le.2 (by omega))⟩)
    have h7 : q ≤ (z : Rat) := Rat.le_trans h6 (met_iff.1 hc1).2
    have h8 := num_le.2 h7
    omega) b0 b1 b2 b3 px py hd _ 0 rfl (by omega)
  have s12'' : l3_12 (z, M.length, 0, p.W, p.H, p.C, b0, b1, b2, b3, px, py, hd, q.num, (q.den : Int), M, ()) = some (.inr ()) := s12'
  have s124 : j3_124 (z, M.length, p.W, p.H, p.C, b0, b1, b2, b3, px, py, hd, q.num, (q.den : Int), M, ()) = some (true, ()) := by
    unfold j3_124
    simp only [s12'', Option.bind_some, Sum.elim_inr]
  have ctk : 0 + M.length ≤ M.length := by omega
  unfold j3_70
  simp only [c0, cond_false, w1, w2, hlo, s12, Option.bind_some, s6', bne_self_eq_false, Bool.not_true, s14, c2, decide_false, s15]
  cases a1 : ((q.den : Int) == 1) with
  | false => simp only [cond_false, s124, Option.bind_some]
  | true =>
    cases a2 : (q.num == z) with
    | false => simp only [cond_false, cond_true, s124, Option.bind_some]
    | true =>
      have hqz : q = (z : Rat) := den_of_int (beq_iff_eq.1 a2) (by have := beq_iff_eq.1 a1; omega)
      have hmz : Met px py x y d 0 z w2c := met_iff.2 ⟨f3, by rw [← f4, hqz]; exact Rat.le_refl⟩
      have hE : w2c ∈ trc px py x y d z z := by
        rw [trc_mem (by omega)]
        obtain ⟨l2, u2, x1, x2, x3⟩ := hmz
        obtain ⟨y1, y2, y3⟩ := thruQ_lo (show thruQ px py x y d (w2c.X * 64) (w2c.Y * 64) (w2c.X * 64 + 64) (w2c.Y * 64 + 64) = some (l2, u2) from x1)
        have hq2 : q = l2 * d := by rw [f4]; unfold dist; rw [x1]
        refine ⟨l2, u2, x1, ?_, x3⟩
        rw [← hqz, hq2]
        exact Rat.mul_le_mul_of_nonneg_right y2 hd'
      have hin3 := mem_of w2c hmz
      obtain ⟨k, hk, hek⟩ := List.getElem_of_mem hin3
      have s16 := f16_spec (by omega) M1 (fun e he => (M2 e he).1) hk
      have hen : enOf (trc px py x y d z z) w2c = ⟨w2c.X, w2c.Y, 1, 0⟩ := by unfold enOf; rw [if_pos hE]
      rw [hek, hen] at s16
      simp only at s16
      simp only [cond_true, ctk, decide_true, List.drop_zero, List.take_length, s16, Option.bind_some, bne_self_eq_false, cond_false, s124]
end
end Go.AE

/-
  WholeRays: the plain law, joined.
-/
namespace Go.AE
open Go.RowKit
set_option maxRecDepth 100000

section
variable {p : Pl} {px py x y d : Int}

/-- Behind the measure. -/
theorem j43_spec (hp : p.Ok) (hin : inRp p ⟨px, py⟩) {hd mark rng err : Int} (sb : f11 (hd, mark, ()) = some (x, y, d, ())) (hv : VV x y d) (hh : 0 ≤ hd ∧ hd ≤ 255) (hm : 0 ≤ mark ∧ mark ≤ 255) (hr : 1 ≤ rng ∧ rng ≤ 32) {z far : Int} (hz : -1 ≤ z ∧ z ≤ 1024)
    (H : (z = -1 ∧ ∀ c, p.val c = 2 → ¬ Met px py x y d 0 (1024 - rng) c) ∨ ∃ (q : Rat) (w : Pt) (m e : Int), fst p px py x y d 1024 = some (q, w) ∧ (m : Rat) ≤ q ∧ q < ((m + 1 : Int) : Rat) ∧ 0 ≤ z ∧ e = min (max err (1 - rng)) rng ∧ z = max 0 (m + e))
    (hfar : (z = -1 ∧ far = 1024 - rng) ∨ z ≠ -1 ∧ far = z - rng - 1) (b0 b1 b2 b3 : Int) :
    j3_43 (mark, rng, z, far, p.W, p.H, p.C, b0, b1, b2, b3, px, py, hd, px, py, x, y, d, ()) = some (true, ()) := by
  have hray : Ray px py x y d := ⟨Ok.in_near hp hin, hv⟩
  have s70 : j3_70 (mark, rng, z, p.W, p.H, p.C, b0, b1, b2, b3, px, py, hd, px, py, x, y, d, ()) = some (true, ()) := by
    rcases H with ⟨rfl, _⟩ | ⟨q, w, m, e, h1, h2, h3, h4, h5, h6⟩
    · unfold j3_70
      rfl
    · exact j70_spec hp hin sb hv hh hm hr h1 h2 h3 ⟨h4, hz.2⟩ (by omega) h6 b0 b1 b2 b3
  by_cases c : far ≥ 0
  · have hf2 : far ≤ 1024 := by omega
    have s12 := f12_spec hray (lo := 0) (hi := far) (by omega) c (by omega)
    have hln := trc_len hray (lo := 0) (hi := far) (by omega) c (by omega)
    have hno : ∀ a ∈ trc px py x y d 0 far, p.val a ≠ 2 := fun a ha hv2 => by
      have hm2 := (trc_mem c a).1 ha
      rcases H with ⟨rfl, h⟩ | ⟨q, w, m, e, h1, h2, h3, h4, h5, h6⟩
      · have e : far = 1024 - rng := by omega
        exact h a hv2 (by rw [← e]; exact hm2)
      · obtain ⟨_, k4⟩ := fst_some (most := 1024) (by omega) h1
        have h7 := k4 a hv2 (met_iff.2 ⟨(met_iff.1 hm2).1, Rat.le_trans (met_iff.1 hm2).2 (rat_le.2 hf2)⟩)
        have h8 : (m : Rat) ≤ (far : Rat) := Rat.le_trans h2 (Rat.le_trans h7 (met_iff.1 hm2).2)
        have := rat_le.1 h8
        omega
    have s0 := l3_0_spec hp mark rng z (L := trc px py x y d 0 far) (by omega) hno b0 b1 b2 b3 px py hd px py x y d _ 0 rfl (by omega)
    have s0' : l3_0 (mark, rng, z, trc px py x y d 0 far, 0, p.W, p.H, p.C, b0, b1, b2, b3, px, py, hd, px, py, x, y, d, ()) = some (.inr (mark, rng, z, p.W, p.H, p.C, b0, b1, b2, b3, px, py, hd, px, py, x, y, d, ())) := s0
    unfold j3_43
    simp only [c, decide_true, cond_true, s12, Option.bind_some, bne_self_eq_false, cond_false, s0', Sum.elim_inr, s70]
  · unfold j3_43
    simp only [c, decide_false, cond_false, s70, Option.bind_some]
end

theorem wholeRays_f3 (p : Pl) (b0 b1 b2 rg X Y hd mk err : Int) : f3 (p.W, p.H, p.C, b0, b1, b2, rg, X, Y, hd, mk, err, ()) = some (true, ()) := by
  unfold f3
  simp only [f4_spec, Option.bind_some, Bool.not_true, cond_false]
  by_cases hl : (p.C.length : Int) > 64
  · simp only [hl, decide_true, cond_true]
  simp only [hl, decide_false, cond_false]
  obtain ⟨b, hb1, hb2⟩ := f5_spec p (by omega)
  cases b with
  | false => simp only [hb1, Option.bind_some, Bool.not_false, cond_true]
  | true =>
    have hp : p.Ok := Pl.vld_ok (hb2 rfl) (by omega)
    have hw1 := hp.w1
    have hw2 := hp.w2
    have hh1 := hp.h1
    have hh2 := hp.h2
    have w1 : IntKind.i64.wrap (p.W * 64) = p.W * 64 := w64 (by omega) (by omega)
    have w2 : IntKind.i64.wrap (p.H * 64) = p.H * 64 := w64 (by omega) (by omega)
    simp only [hb1, Option.bind_some, Bool.not_true, cond_false, w1, w2]
    cases h6 : f6 X Y hd with
    | false => simp only [Bool.not_false, cond_true]
    | true =>
      have hh := f6_yes h6
      simp only [Bool.not_true, cond_false]
      by_cases e1 : X < 0
      · simp only [e1, decide_true, cond_true]
      by_cases e2 : Y < 0
      · simp only [e1, e2, decide_true, decide_false, cond_false, cond_true]
      by_cases e3 : X > p.W * 64
      · simp only [e1, e2, e3, decide_true, decide_false, cond_false, cond_true]
      by_cases e4 : Y > p.H * 64
      · simp only [e1, e2, e3, e4, decide_true, decide_false, cond_false, cond_true]
      simp only [e1, e2, e3, e4, decide_false, cond_false]
      have hin : inRp p ⟨X, Y⟩ := by unfold inRp; simp only; omega
      obtain ⟨m, hm1, hm2⟩ := f8_spec mk
      have hr := f7_rng rg
      generalize f7 rg 1 32 = rng at hr ⊢
      obtain ⟨x, y, d, sb, hv⟩ := f11_spec hd m
      obtain ⟨z, z1, z2, z3, z4⟩ := measure_more (err := err) hp hin sb hv hh hm2 hr
      simp only [hm1, Option.bind_some, z1, bne_self_eq_false, cond_false, z3, Bool.not_true, sb]
      have v1 : IntKind.i64.wrap (1024 - rng) = 1024 - rng := w64 (by omega) (by omega)
      have v2 : IntKind.i64.wrap (z - rng) = z - rng := w64 (by omega) (by omega)
      have v3 : IntKind.i64.wrap (z - rng - 1) = z - rng - 1 := w64 (by omega) (by omega)
      simp only [v1, v2, v3]
      cases hz : (z == -1) with
      | true =>
        have hz' := beq_iff_eq.1 hz
        simp only [cond_true, j43_spec hp hin sb hv hh hm2 hr z2 z4 (.inl ⟨hz', rfl⟩), Option.bind_some]
      | false =>
        have hz' : z ≠ -1 := by simpa using hz
        simp only [cond_false, j43_spec hp hin sb hv hh hm2 hr z2 z4 (.inr ⟨hz', rfl⟩), Option.bind_some]

theorem wholeRays_plain (x : Int × Int × List Int × Int × Int × Int × Int × Int × Int × Int × Int × Int × Unit) : f3 x = some (true, ()) :=
  wholeRays_f3 ⟨x.1, x.2.1, x.2.2.1⟩ x.2.2.2.1 x.2.2.2.2.1 x.2.2.2.2.2.1 x.2.2.2.2.2.2.1 x.2.2.2.2.2.2.2.1 x.2.2.2.2.2.2.2.2.1 x.2.2.2.2.2.2.2.2.2.1 x.2.2.2.2.2.2.2.2.2.2.1 x.2.2.2.2.2.2.2.2.2.2.2.1
end Go.AE
