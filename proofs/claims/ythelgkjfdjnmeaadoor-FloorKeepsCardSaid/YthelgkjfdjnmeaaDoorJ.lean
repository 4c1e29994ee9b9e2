/-
  The chapter Floor, part 7: the sample; FloorFits, FloorShrinks.
-/
import Derived.Test.YthelgkjfdjnmeaaDoorI
import Derived.Test.YthelgkjfdjnmeaaDoorFb
namespace Go.AE
open Go.Proofs Go.RowKit
set_option maxRecDepth 100000

open Classical in
/-- base.Ints. -/
theorem f18_spec {a b : List Int} (hn : a.length ≤ 1000000) : f18 (a, b, ()) = some (decide (a = b), ()) := by
  unfold f18
  by_cases hl : a.length = b.length
  · have q : ((a.length : Int) != (b.length : Int)) = false := by simp [hl]
    have hs := scan (f := r18_0) (fun k => (a, b, k, ())) (fun k => a[k.toNat]? ≠ b[k.toNat]?) () ((a.length : Int) - 1) a.length 0 (by omega) (by omega)
      (fun k k1 k2 hb => by
        have c1 : k < (a.length : Int) := by omega
        obtain ⟨n, rfl⟩ : ∃ n : Nat, k = n := ⟨k.toNat, by omega⟩
        simp only [Int.toNat_natCast] at hb
        obtain ⟨u, hu⟩ : ∃ u, a[n]? = some u := ⟨_, List.getElem?_eq_getElem (by omega)⟩
        obtain ⟨v, hv⟩ : ∃ v, b[n]? = some v := ⟨_, List.getElem?_eq_getElem (by omega)⟩
        rw [hu, hv] at hb
        have hne : (u != v) = true := by simpa using hb
        unfold r18_0
        simp only [c1, decide_true, cond_true, idxO_nat, hu, hv, Option.bind_some, hne])
      (fun k k1 k2 hb => by
        have c1 : k < (a.length : Int) := by omega
        obtain ⟨n, rfl⟩ : ∃ n : Nat, k = n := ⟨k.toNat, by omega⟩
        simp only [Int.toNat_natCast, Classical.not_not] at hb
        obtain ⟨u, hu⟩ : ∃ u, a[n]? = some u := ⟨_, List.getElem?_eq_getElem (by omega)⟩
        have hv := hu
        rw [hb] at hv
        have w0 : IntKind.i64.wrap ((n : Int) + 1) = (n : Int) + 1 := w64 (by omega) (by omega)
        unfold r18_0
        simp only [c1, decide_true, cond_true, idxO_nat, hu, hv, Option.bind_some, bne_self_eq_false, cond_false, w0])
      (by
        have c1 : ¬ ((a.length : Int) - 1 + 1) < (a.length : Int) := by omega
        unfold r18_0
        simp only [c1, decide_false, cond_false])
    simp only [q, cond_false]
    unfold l18_0
    rw [hs]
    by_cases e : a = b
    · rw [if_neg (by rintro ⟨k, _, _, hk⟩; exact hk (by rw [e]))]
      simp [e]
    · rw [if_pos]
      · simp [e]
      · apply Classical.byContradiction
        intro hn
        apply e
        apply List.ext_getElem?
        intro i
        by_cases hi : i < a.length
        · exact Classical.byContradiction fun hne => hn ⟨(i : Int), by omega, by omega, by simpa using hne⟩
        · rw [List.getElem?_eq_none (by omega), List.getElem?_eq_none (by omega)]
  · have q : ((a.length : Int) != (b.length : Int)) = true := by simp; omega
    have e : a ≠ b := fun e => hl (by rw [e])
    simp only [q, cond_true, e, decide_false]

def smp : Pl := ⟨3, 2, [1, 1, 1, 1, 2, 1]⟩
theorem smp_ok : smp.Ok := Pl.vld_ok (by decide) (by decide)

theorem smp_rooms {l : List Int} (h : Pl.IsRooms smp l) : l = [0, 0, 0, 0, -1, 0] := by
  have hl0 : smp.lead 0 := ⟨by decide, fun k hk => absurd hk (Nat.not_lt_zero k)⟩
  have c00 : smp.Conn (smp.cellOf 0) ⟨0, 0⟩ := .refl (by decide)
  have c10 : smp.Conn (smp.cellOf 0) ⟨1, 0⟩ := .step c00 ⟨by decide, by decide, ⟨1, 0⟩, by decide, by decide⟩
  have c20 : smp.Conn (smp.cellOf 0) ⟨2, 0⟩ := .step c10 ⟨by decide, by decide, ⟨1, 0⟩, by decide, by decide⟩
  have c21 : smp.Conn (smp.cellOf 0) ⟨2, 1⟩ := .step c20 ⟨by decide, by decide, ⟨0, 1⟩, by decide, by decide⟩
  have c01 : smp.Conn (smp.cellOf 0) ⟨0, 1⟩ := .step c00 ⟨by decide, by decide, ⟨0, 1⟩, by decide, by decide⟩
  have r00 := h.room 0 hl0 _ c00
  have r10 := h.room 0 hl0 _ c10
  have r20 := h.room 0 hl0 _ c20
  have r21 := h.room 0 hl0 _ c21
  have r01 := h.room 0 hl0 _ c01
  have r11 := h.wall ⟨1, 1⟩ (by decide) (by decide)
  have hlen := h.len
  rw [Pl.rk_zero] at r00 r10 r20 r21 r01
  match l, hlen with
  | [a, b, c, d, e, f], _ =>
    have h0 : a = 0 := r00
    have h1 : b = 0 := r10
    have h2 : c = 0 := r20
    have h3 : d = 0 := r01
    have h4 : e = -1 := r11
    have h5 : f = 0 := r21
    rw [h0, h1, h2, h3, h4, h5]

theorem smp_fit : Fit smp ⟨32, 32⟩ 31 := by
  refine ⟨by decide, by unfold nearP; simp, by omega, fun c hc => ?_⟩
  obtain ⟨h1, h2⟩ := hit_gp (by omega) hc
  unfold gp at h1 h2
  simp only at h1 h2
  have hx : c.X = 0 := by omega
  have hy : c.Y = 0 := by omega
  have e : c = ⟨0, 0⟩ := by cases c; simp only at hx hy; rw [hx, hy]
  have := hc.1
  rw [e] at this
  exact absurd this (by decide)
theorem smp_not : ¬ Fit smp ⟨32, 32⟩ 32 := fun h => h.2.2.2 ⟨-1, 0⟩ ⟨by decide, by decide⟩

open Classical in
/-- awake. -/
theorem f12_spec : f12 () = some (true, ()) := by
  rcases f16_spec (p := smp) (by decide) with ⟨_, _, l, h1, h2⟩ | ⟨hb, _⟩
  · have := smp_rooms h2
    subst this
    have h1' : f16 (3, 2, [1, 1, 1, 1, 2, 1], ()) = some (6, 0, [0, 0, 0, 0, -1, 0], ()) := h1
    have a1 := f14_spec smp (by decide) ⟨32, 32⟩ 31
    have a2 := f14_spec smp (by decide) ⟨32, 32⟩ 32
    rw [decide_eq_true smp_fit] at a1
    rw [decide_eq_false smp_not] at a2
    have a1' : f14 (3, 2, [1, 1, 1, 1, 2, 1], 32, 32, 31, ()) = some (true, ()) := a1
    have a2' : f14 (3, 2, [1, 1, 1, 1, 2, 1], 32, 32, 32, ()) = some (false, ()) := a2
    have q1 : decide (0 + 6 ≤ [(0 : Int), 0, 0, 0, -1, 0].length) = true := rfl
    have q2 : List.take 6 (List.drop 0 [(0 : Int), 0, 0, 0, -1, 0]) = [0, 0, 0, 0, -1, 0] := rfl
    have h18 : f18 ([0, 0, 0, 0, -1, 0], [0, 0, 0, 0, -1, 0], ()) = some (true, ()) := by rw [f18_spec (by decide)]; simp
    unfold f12
    simp only [h1', Option.bind_some, beq_self_eq_true, cond_true, q1, q2, h18, a1', a2', Bool.not_false]
  · exact absurd hb (by decide)

open Classical in
theorem floorFits_plain (x : Int × Int × List Int × Int × Int × Int × Unit) : f3 x = some (true, ()) := by
  obtain ⟨w, h, C, a, b, r, ⟨⟩⟩ := x
  unfold f3
  simp only [f12_spec, Option.bind_some, Bool.not_true, cond_false, f13_few]
  by_cases hl : C.length ≤ 400
  · have h1 := f14_spec ⟨w, h, C⟩ hl ⟨a, b⟩ r
    have h2 := f15_spec ⟨w, h, C⟩ hl ⟨a, b⟩ r
    simp only at h1 h2
    simp only [hl, decide_true, Bool.not_true, cond_false, h1, h2, Option.bind_some, beq_self_eq_true]
  · simp only [hl, decide_false, Bool.not_false, cond_true]

open Classical in
theorem j5_40_spec {p : Pl} (hl : p.C.length ≤ 400) {a : Pt} {r d u v : Int} (h : Fit p a r) (hd : 0 ≤ d ∧ d ≤ r) (hu : -d ≤ u ∧ u ≤ d) (hv : -d ≤ v ∧ v ≤ d) (huv : ∃ s t : Int, (s = u ∨ s = -u) ∧ (t = v ∨ t = -v) ∧ 0 ≤ s ∧ 0 ≤ t ∧ s + t ≤ d) :
    j5_40 (r, d, u, v, p.W, p.H, p.C, a.X, a.Y, ()) = some (true, ()) := by
  have hv2 : p.vld = true ∧ p.known = true := by have := h.1; unfold Pl.bld at this; simpa using this
  have hp := Pl.vld_ok hv2.1 hl
  have hin := h.inR hp
  have hw := hp.w2
  have hh := hp.h2
  have hr := h.2.2.1
  unfold inR at hin
  have f1 := h.less hp hd (u := 0) (v := 0) (by omega) (by omega) ⟨0, 0, by omega, by omega, by omega, by omega, by omega⟩
  have f2 := h.less hp hd hu hv huv
  have e1 := f14_spec p hl ⟨a.X + 0, a.Y + 0⟩ (r - d)
  have e2 := f14_spec p hl ⟨a.X + u, a.Y + v⟩ (r - d)
  rw [decide_eq_true f1] at e1
  rw [decide_eq_true f2] at e2
  simp only [Int.add_zero] at e1 e2
  have w1 : IntKind.i64.wrap (r - d) = r - d := w64 (by omega) (by omega)
  have w2 : IntKind.i64.wrap (a.X + u) = a.X + u := w64 (by omega) (by omega)
  have w3 : IntKind.i64.wrap (a.Y + v) = a.Y + v := w64 (by omega) (by omega)
  unfold j5_40
  simp only [w1, w2, w3, e1, e2, Option.bind_some, cond_true]

open Classical in
theorem floorShrinks_plain (x : Int × Int × List Int × Int × Int × Int × Int × Int × Int × Unit) (h5 : 0 ≤ x.2.2.2.2.2.1 ∧ x.2.2.2.2.2.1 ≤ 65535) (h6 : 0 ≤ x.2.2.2.2.2.2.1 ∧ x.2.2.2.2.2.2.1 ≤ 65535) (h7 : 0 ≤ x.2.2.2.2.2.2.2.1 ∧ x.2.2.2.2.2.2.2.1 ≤ 65535) : f5 x = some (true, ()) := by
  obtain ⟨w, h, C, a, b, b0, b1, b2, b3, ⟨⟩⟩ := x
  simp only at h5 h6 h7
  unfold f5
  simp only [f12_spec, Option.bind_some, Bool.not_true, cond_false, f13_few]
  by_cases hl : C.length ≤ 400
  · have w0 : IntKind.i64.wrap b1 = b1 := w64 (by omega) (by omega)
    have w00 : IntKind.i64.wrap b2 = b2 := w64 (by omega) (by omega)
    have r0 : 0 ≤ b0.tmod 1025 := Int.tmod_nonneg _ h5.1
    have r1 : b0.tmod 1025 < 1025 := Int.tmod_lt_of_pos _ (by omega)
    have w1 : IntKind.i64.wrap (b0.tmod 1025) = b0.tmod 1025 := w64 (by omega) (by omega)
    simp only [hl, decide_true, Bool.not_true, cond_false, w0, w00, w1]
    generalize b0.tmod 1025 = r at *
    have w2 : IntKind.i64.wrap (r + 1) = r + 1 := w64 (by omega) (by omega)
    have d0 : 0 ≤ b1.tmod (r + 1) := Int.tmod_nonneg _ h6.1
    have d1 : b1.tmod (r + 1) < r + 1 := Int.tmod_lt_of_pos _ (by omega)
    have q1 : (r + 1 == 0) = false := by rw [beq_eq_false_iff_ne]; omega
    simp only [w2, q1, cond_false]
    generalize b1.tmod (r + 1) = d at *
    have w3 : IntKind.i64.wrap (d + 1) = d + 1 := w64 (by omega) (by omega)
    have x0 : 0 ≤ b2.tmod (d + 1) := Int.tmod_nonneg _ h7.1
    have x1 : b2.tmod (d + 1) < d + 1 := Int.tmod_lt_of_pos _ (by omega)
    have q2 : (d + 1 == 0) = false := by rw [beq_eq_false_iff_ne]; omega
    simp only [w3, q2, cond_false]
    generalize b2.tmod (d + 1) = dx at *
    have w4 : IntKind.i64.wrap (0 - dx) = -dx := by rw [w64 (by omega) (by omega)]; omega
    have w5 : IntKind.i64.wrap (d - dx) = d - dx := w64 (by omega) (by omega)
    have w6 : IntKind.i64.wrap (0 - (d - dx)) = -(d - dx) := by rw [w64 (by omega) (by omega)]; omega
    have h14 := f14_spec ⟨w, h, C⟩ hl ⟨a, b⟩ r
    simp only at h14
    simp only [h14, Option.bind_some, w4, w5]
    by_cases hf : Fit ⟨w, h, C⟩ ⟨a, b⟩ r
    · have key : ∀ u v : Int, (u = dx ∨ u = -dx) → (v = d - dx ∨ v = -(d - dx)) → j5_40 (r, d, u, v, w, h, C, a, b, ()) = some (true, ()) := fun u v hu hv =>
        j5_40_spec (p := ⟨w, h, C⟩) hl (a := ⟨a, b⟩) hf (by omega) (by omega) (by omega) ⟨dx, d - dx, by omega, by omega, by omega, by omega, by omega⟩
      have key2 : ∀ u : Int, (u = dx ∨ u = -dx) → j5_34 (r, d, u, d - dx, w, h, C, a, b, b0, b1, b2, b3, ()) = some (true, ()) := fun u hu => by
        unfold j5_34
        simp only [w6, key u (d - dx) hu (.inl rfl), key u (-(d - dx)) hu (.inr rfl), Option.bind_some]
        cases (bits BinOp.and IntKind.u16 b3 2 != 0) <;> rfl
      simp only [hf, decide_true, Bool.not_true, cond_false, key2 dx (.inl rfl), key2 (-dx) (.inr rfl), Option.bind_some]
      cases (bits BinOp.and IntKind.u16 b3 1 != 0) <;> rfl
    · simp only [hf, decide_false, Bool.not_false, cond_true]
  · simp only [hl, decide_false, Bool.not_false, cond_true]

end Go.AE
