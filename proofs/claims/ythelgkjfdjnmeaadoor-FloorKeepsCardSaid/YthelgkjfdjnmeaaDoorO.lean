/-
  The chapter Floor, part 12: discs and rooms after a quarter turn; FloorKeeps.
-/
import Derived.Test.YthelgkjfdjnmeaaDoorN
namespace Go.AE
open Go.Proofs Go.RowKit
set_option maxRecDepth 100000

theorem f30_spec (n : Int) : f30 n (-5000) 5000 = max (-5000) (min n 5000) := by
  unfold f30
  by_cases h : (5000 : Int) < n
  · have : min n 5000 = 5000 := by omega
    rw [this]
    simp only [h, decide_true, cond_true]
    rfl
  · have e : min n 5000 = n := by omega
    rw [e]
    by_cases h2 : n > -5000
    · have : max (-5000) n = n := by omega
      rw [this]
      simp [h, h2]
    · have : max (-5000) n = -5000 := by omega
      rw [this]
      simp [h, h2]

namespace Pl
variable {p : Pl} {a b c : Pt}

theorem known_val (hp : p.Ok) : p.known = true ↔ ∀ c, p.inP c → p.val c ≠ 0 := by
  rw [known_iff]
  constructor
  · intro h c hc e
    unfold val at e
    rw [if_pos hc] at e
    have hlt := ix_lt hp hc
    rw [List.getD_eq_getElem?_getD, List.getElem?_eq_getElem hlt] at e
    exact h (by rw [← e]; exact List.getElem_mem hlt)
  · intro h hm
    obtain ⟨i, hi, e⟩ := List.getElem_of_mem hm
    apply h _ (cellOf_in hp hi)
    unfold val
    rw [if_pos (cellOf_in hp hi), ix_cellOf hp, List.getD_eq_getElem?_getD, List.getElem?_eq_getElem hi]
    exact e

def unrot (p : Pl) (c : Pt) : Pt := ⟨c.Y, p.H - 1 - c.X⟩
theorem rot_unrot (c : Pt) : p.rot (p.unrot c) = c := by
  cases c
  simp only [rot, unrot, Pt.mk.injEq, and_true]
  omega

theorem turn_bld (hp : p.Ok) : p.turn.bld = p.bld := by
  have hT := turn_ok hp
  unfold bld
  rw [hp.vld, hT.vld, Bool.true_and, Bool.true_and, Bool.eq_iff_iff, known_val hp, known_val hT]
  constructor
  · intro h c hc
    rw [← turn_val hp]
    exact h _ (turn_in.2 hc)
  · intro h c hc
    rw [← rot_unrot (p := p) c] at hc ⊢
    rw [turn_val hp]
    exact h _ (turn_in.1 hc)

theorem turn_free (hp : p.Ok) : p.turn.free (p.rot c) ↔ p.free c := by
  rw [← val_free, ← val_free, turn_val hp]

theorem turn_nb (hp : p.Ok) (h : p.nb a b) : p.turn.nb (p.rot a) (p.rot b) := by
  obtain ⟨h1, h2, d, hd, rfl⟩ := h
  refine ⟨(turn_free hp).2 h1, (turn_free hp).2 h2, ⟨-d.Y, d.X⟩, ?_, ?_⟩
  · simp only [four, List.mem_cons, List.not_mem_nil, or_false] at hd ⊢
    rcases hd with rfl | rfl | rfl | rfl <;> simp
  · simp only [rot, add, Pt.mk.injEq, and_true]
    omega
theorem turn_conn (hp : p.Ok) (h : p.Conn a b) : p.turn.Conn (p.rot a) (p.rot b) := by
  induction h with
  | refl h => exact .refl ((turn_free hp).2 h)
  | step _ k ih => exact .step ih (turn_nb hp k)
theorem turn_conn_iff (hp : p.Ok) : p.turn.Conn (p.rot a) (p.rot b) ↔ p.Conn a b := by
  refine ⟨fun h => ?_, turn_conn hp⟩
  have h1 := turn_ok hp
  have h2 := turn_ok h1
  have h3 := turn_ok h2
  have k := turn_conn h3 (turn_conn h2 (turn_conn h1 h))
  have e4 : p.turn.turn.turn.turn = p := turns_four hp
  have er : ∀ c : Pt, p.turn.turn.turn.rot (p.turn.turn.rot (p.turn.rot (p.rot c))) = c := fun c => by
    unfold rot turn
    cases c
    simp only [Pt.mk.injEq]
    omega
  rwa [e4, er, er] at k
end Pl

theorem turn_gap (p : Pl) (a c : Pt) : gap2 ⟨p.H * 64 - a.Y, a.X⟩ (p.rot c) = gap2 a c := by
  have e : gp (p.H * 64 - a.Y) (p.H - 1 - c.Y) = gp a.Y c.Y := by unfold gp; omega
  unfold gap2
  simp only [Pl.rot, e]
  exact Int.add_comm _ _

theorem turn_fit {p : Pl} (hp : p.Ok) {a : Pt} (ha : nearP a) (ha2 : nearP ⟨p.H * 64 - a.Y, a.X⟩) (r : Int) : Fit p.turn ⟨p.H * 64 - a.Y, a.X⟩ r ↔ Fit p a r := by
  unfold Fit
  rw [Pl.turn_bld hp]
  have key : (∀ c, ¬ hit p.turn ⟨p.H * 64 - a.Y, a.X⟩ r c) ↔ ∀ c, ¬ hit p a r c := by
    constructor
    · intro h c hc
      refine h (p.rot c) ⟨?_, ?_⟩
      · rw [Pl.turn_val hp]; exact hc.1
      · rw [turn_gap]; exact hc.2
    · intro h c hc
      rw [← Pl.rot_unrot (p := p) c] at hc
      refine h (p.unrot c) ⟨?_, ?_⟩
      · rw [← Pl.turn_val hp]; exact hc.1
      · rw [← turn_gap p]; exact hc.2
  simp only [ha, ha2, true_and, key]

open Classical in
theorem floorKeeps_plain (x : Int × Int × List Int × Int × Int × Int × Int × Int × Int × Unit) : f9 x = some (true, ()) := by
  obtain ⟨w, h, C, ax, ay, x0, y0, x1, y1, ⟨⟩⟩ := x
  unfold f9
  simp only [f12_spec, Option.bind_some, Bool.not_true, cond_false, f13_few]
  by_cases hl : C.length ≤ 400
  · have h26 := f26_spec ⟨w, h, C⟩ hl 1
    have h29 := f29_spec (p := ⟨w, h, C⟩) (show C.length ≤ 1000000 by omega)
    simp only at h26 h29
    simp only [hl, decide_true, Bool.not_true, cond_false, h26, h29, Option.bind_some]
    cases hv : (⟨w, h, C⟩ : Pl).vld with
    | false => simp
    | true =>
      have hp := Pl.vld_ok hv hl
      have ew : w = (⟨w, h, C⟩ : Pl).W := rfl
      have eh : h = (⟨w, h, C⟩ : Pl).H := rfl
      have ec : C = (⟨w, h, C⟩ : Pl).C := rfl
      generalize hq : (⟨w, h, C⟩ : Pl) = p at *
      subst ew eh ec
      have hT := Pl.turn_ok hp
      have t1 : Pl.turns ((1 : Int) % 4).toNat p = p.turn := rfl
      have hw1 := hp.w1
      have hw2 := hp.w2
      have hh1 := hp.h1
      have hh2 := hp.h2
      simp only [if_true, t1, bne_self_eq_false, cond_false, Bool.not_true, f28_mod _ (show (0 : Int) < 200 by omega) (by omega), f28_mod _ (show 0 < p.W by omega) (by omega), f28_mod _ (show 0 < p.H by omega) (by omega), Option.bind_some, f30_spec]
      have r0 : 0 ≤ ax % 200 := Int.emod_nonneg _ (by omega)
      have r1 : ax % 200 < 200 := Int.emod_lt_of_pos _ (by omega)
      generalize ax % 200 = r at *
      have u0 : -5000 ≤ max (-5000) (min ax 5000) ∧ max (-5000) (min ax 5000) ≤ 5000 := by omega
      have v0 : -5000 ≤ max (-5000) (min ay 5000) ∧ max (-5000) (min ay 5000) ≤ 5000 := by omega
      generalize max (-5000) (min ax 5000) = u at *
      generalize max (-5000) (min ay 5000) = v at *
      have w1 : IntKind.i64.wrap (p.H * 64) = p.H * 64 := w64 (by omega) (by omega)
      have w2 : IntKind.i64.wrap (p.H * 64 - v) = p.H * 64 - v := w64 (by omega) (by omega)
      have w3 : IntKind.i64.wrap (p.H - 1) = p.H - 1 := w64 (by omega) (by omega)
      have m0 : 0 ≤ y0 % p.H := Int.emod_nonneg _ (by omega)
      have m1 : y0 % p.H < p.H := Int.emod_lt_of_pos _ (by omega)
      have n0 : 0 ≤ y1 % p.H := Int.emod_nonneg _ (by omega)
      have n1 : y1 % p.H < p.H := Int.emod_lt_of_pos _ (by omega)
      have w4 : IntKind.i64.wrap (p.H - 1 - y0 % p.H) = p.H - 1 - y0 % p.H := w64 (by omega) (by omega)
      have w5 : IntKind.i64.wrap (p.H - 1 - y1 % p.H) = p.H - 1 - y1 % p.H := w64 (by omega) (by omega)
      have na : nearP ⟨u, v⟩ := by unfold nearP; simp only; omega
      have nb : nearP ⟨p.H * 64 - v, u⟩ := by unfold nearP; simp only; omega
      have g1 := f14_spec p hp.few ⟨u, v⟩ r
      have g2 := f14_spec p.turn hT.few ⟨p.H * 64 - v, u⟩ r
      have gi := turn_fit hp (a := ⟨u, v⟩) na nb r
      have g3 := f24_spec p hp.few ⟨x0 % p.W, y0 % p.H⟩ ⟨x1 % p.W, y1 % p.H⟩
      have g4 := f24_spec p.turn hT.few (p.rot ⟨x0 % p.W, y0 % p.H⟩) (p.rot ⟨x1 % p.W, y1 % p.H⟩)
      rw [Pl.turn_bld hp, Pl.turn_conn_iff hp] at g4
      simp only [gi] at g2
      simp only [Pl.rot] at g1 g3 g4
      simp only [w1, w2, w3, w4, w5, g1, g2, g3, g4, Option.bind_some, beq_self_eq_true, cond_true]
  · simp only [hl, decide_false, Bool.not_false, cond_true]

end Go.AE
