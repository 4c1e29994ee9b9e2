/-
  The chapter Floor, part 7: the sample; FloorFits, FloorShrinks.
-/
import Derived.Test.YthelgkjfdjnmeaaDoorI
namespace Go.AE
open Go.Proofs Go.RowKit
set_option maxRecDepth 100000

open Classical in
/-- base.Ints. -/
theorem f18_spec {a b : List Int} (hn : a.length ≤ 1000000) : f18 (a, b, ()) = some (decide (a = b), ()) := by
  unfold f18
  by_cases hl : a.length = b.length
  · have q : ((a.length : Int) != (b.length : Int)) = false := by simp [hl]
    have hs := scan (f := r18_0) (fun k => (a, b, k, ())) (fun k => a[k.toNat]? ≠ b[k.toNat]?) () ((a.length : Int) - 1) a.length 0 (by omega) (by omega)
      (fun k k1 k2 hb => by
        have c1 : k < (a.length : Int) := by omega
        obtain ⟨n, rfl⟩ : ∃ n : Nat, k = n := ⟨k.toNat, by omega⟩
        simp only [Int.toNat_natCast] at hb
        obtain ⟨u, hu⟩ : ∃ u, a[n]? = some u := ⟨_, List.getElem?_eq_getElem (by omega)⟩
        obtain ⟨v, hv⟩ : ∃ v, b[n]? = some v := ⟨_, List.getElem?_eq_getElem (by omega)⟩
        rw [hu, hv] at hb
        have hne : (u != v) = true := by simpa using hb
        unfold r18_0
        simp only [c1, decide_true, cond_true, idxO_nat, hu, hv, Option.bind_some, hne])
      (fun k k1 k2 hb => by
        have c1 : k < (a.length : Int) := by omega
        obtain ⟨n, rfl⟩ : ∃ n : Nat, k = n := ⟨k.toNat, by omega⟩
        simp only [Int.toNat_natCast, Classical.not_not] at hb
        obtain ⟨u, hu⟩ : ∃ u, a[n]? = some u := ⟨_, List.getElem?_eq_getElem (by omega)⟩
        have hv := hu
        rw [hb] at hv
        have w0 : IntKind.i64.wrap ((n : Int) + 1) = (n : Int) + 1 := w64 (by omega) (by omega)
        unfold r18_0
        simp only [c1, decide_true, cond_true, idxO_nat, hu, hv, Option.bind_some, bne_self_eq_false, cond_false, w0])
      (by
        have c1 : ¬ ((a.length : Int) - 1 + 1) < (a.length : Int) := by omega
        unfold r18_0
        simp only [c1, decide_false, cond_false])
    simp only [q, cond_false]
    unfold l18_0
    rw [hs]
    by_cases e : a = b
    · rw [if_neg (by rintro ⟨k, _, _, hk⟩; exact hk (by rw [e]))]
      simp [e]
    · rw [if_pos]
      · simp [e]
      · apply Classical.byContradiction
        intro hn
        apply e
        apply List.ext_getElem?
        intro i
        by_cases hi : i < a.length
        · exact Classical.byContradiction fun hne => hn ⟨(i : Int), by omega, by omega, by simpa using hne⟩
        · rw [List.getElem?_eq_none (by omega), List.getElem?_eq_none (by omega)]
  · have q : ((a.length : Int) != (b.length : Int)) = true := by simp; omega
    have e : a ≠ b := fun e => hl (by rw [e])
    simp only [q, cond_true, e, decide_false]

def smp : Pl := ⟨3, 2, [1, 1, 1, 1, 2, 1]⟩
theorem smp_ok : smp.Ok := Pl.vld_ok (by decide) (by decide)

theorem smp_rooms {l : List Int} (h : Pl.IsRooms smp l) : l = [0, 0, 0, 0, -1, 0] := by
  have hl0 : smp.lead 0 := ⟨by decide, fun k hk => absurd hk (Nat.not_lt_zero k)⟩
  have c00 : smp.Conn (smp.cellOf 0) ⟨0, 0⟩ := .refl (by decide)
  have c10 : smp.Conn (smp.cellOf 0) ⟨1, 0⟩ := .step c00 ⟨by decide, by decide, ⟨1, 0⟩, by decide, by decide⟩
  have c20 : smp.Conn (smp.cellOf 0) ⟨2, 0⟩ := .step c10 ⟨by decide, by decide, ⟨1, 0⟩, by decide, by decide⟩
  have c21 : smp.Conn (smp.cellOf 0) ⟨2, 1⟩ := .step c20 ⟨by decide, by decide, ⟨0, 1⟩, by decide, by decide⟩
  have c01 : smp.Conn (smp.cellOf 0) ⟨0, 1⟩ := .step c00 ⟨by decide, by decide, ⟨0, 1⟩, by decide, by decide⟩
  have r00 := h.room 0 hl0 _ c00
  have r10 := h.room 0 hl0 _ c10
  have r20 := h.room 0 hl0 _ c20
  have r21 := h.room 0 hl0 _ c21
  have r01 := h.room 0 hl0 _ c01
  have r11 := h.wall ⟨1, 1⟩ (by decide) (by decide)
  have hlen := h.len
  rw [Pl.rk_zero] at r00 r10 r20 r21 r01
  match l, hlen with
  | [a, b, c, d, e, f], _ =>
    have h0 : a = 0 := r00
    have h1 : b = 0 := r10
    have h2 : c = 0 := r20
    have h3 : d = 0 := r01
    have h4 : e = -1 := r11
    have h5 : f = 0 := r21
    rw [h0, h1, h2, h3, h4, h5]

theorem smp_fit : Fit smp ⟨32, 32⟩ 31 := by
  refine ⟨by decide, by unfold nearP; simp, by omega, fun c hc => ?_⟩
  obtain ⟨h1, h2⟩ := hit_gp (by omega) hc
  unfold gp at h1 h2
  simp only at h1 h2
  have hx : c.X = 0 := by omega
  have hy : c.Y = 0 := by omega
  have e : c = ⟨0, 0⟩ := by cases c; simp only at hx hy; rw [hx, hy]
  have := hc.1
  rw [e] at this
  exact absurd this (by decide)
theorem smp_not : ¬ Fit smp ⟨32, 32⟩ 32 := fun h => h.2.2.2 ⟨-1, 0⟩ ⟨by decide, by decide⟩

open Classical in
/-- awake. -/
theorem f12_spec : f12 () = some (true, ()) := by
  rcases f16_spec (p := smp) (by decide) with ⟨_, _, l, h1, h2⟩ | ⟨hb, _⟩
  · have := smp_rooms h2
    subst this
    have h1' : f16 (3, 2, [1, 1, 1, 1, 2, 1], ()) = some (6, 0, [0, 0, 0, 0, -1, 0], ()) := h1
    have a1 := f14_spec smp (by decide) ⟨32, 32⟩ 31
    have a2 := f14_spec smp (by decide) ⟨32, 32⟩ 32
    rw [decide_eq_true smp_fit] at a1
    rw [decide_eq_false smp_not] at a2
    have a1' : f14 (3, 2, [1, 1, 1, 1, 2, 1], 32, 32, 31, ()) = some (true, ()) := a1
    have a2' : f14 (3, 2, [1, 1, 1, 1, 2, 1], 32, 32, 32, ()) = some (false, ()) := a2
    have q1 : decide (0 + 6 ≤ [(0 : Int), 0, 0, 0, -1, 0].length) = true := rfl
    have q2 : List.take 6 (List.drop 0 [(0 : Int), 0, 0, 0, -1, 0]) = [0, 0, 0, 0, -1, 0] := rfl
    have h18 : f18 ([0, 0, 0, 0, -1, 0], [0, 0, 0, 0, -1, 0], ()) = some (true, ()) := by rw [f18_spec (by decide)]; simp
    unfold f12
    simp only [h1', Option.bind_some, beq_self_eq_true, cond_true, q1, q2, h18, a1', a2', Bool.not_false]
  · exact absurd hb (by decide)

end Go.AE
