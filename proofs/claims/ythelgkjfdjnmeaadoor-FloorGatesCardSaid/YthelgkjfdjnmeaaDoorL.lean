/-
  The chapter Floor, part 9: Joined and Solid; FloorChecks.
-/
import Derived.Test.YthelgkjfdjnmeaaDoorJ
namespace Go.AE
open Go.Proofs Go.RowKit
set_option maxRecDepth 100000

namespace Pl
variable {p : Pl}
theorem rk_mono : ∀ {i j : Nat}, i ≤ j → p.rk i ≤ p.rk j := by
  intro i j h
  induction j with
  | zero => rw [Nat.le_zero.1 h]; exact Nat.le_refl _
  | succ j ih =>
    by_cases e : i = j + 1
    · rw [e]; exact Nat.le_refl _
    · have := ih (by omega)
      by_cases hl : p.lead j
      · rw [rk_yes hl]; omega
      · rw [rk_no hl]; exact this
theorem rk_inj {i j : Nat} (hi : p.lead i) (hj : p.lead j) (h : p.rk i = p.rk j) : i = j := by
  have h1 := rk_yes hi
  have h2 := rk_yes hj
  rcases Nat.lt_trichotomy i j with e | e | e
  · have := rk_mono (p := p) (i := i + 1) (j := j) e; omega
  · exact e
  · have := rk_mono (p := p) (i := j + 1) (j := i) e; omega

theorem IsRooms.same (hp : p.Ok) {l : List Int} (h : IsRooms p l) {a b : Pt} (ha : p.free a) (hb : p.free b) : p.g l a = p.g l b ↔ p.Conn a b := by
  have ea := cell_ix hp ha.1
  have eb := cell_ix hp hb.1
  obtain ⟨i, _, i2, i3⟩ := lead_of (p.ix a) (c := a) (by rw [ea]; exact .refl ha)
  obtain ⟨j, _, j2, j3⟩ := lead_of (p.ix b) (c := b) (by rw [eb]; exact .refl hb)
  rw [h.room i i2 a i3, h.room j j2 b j3]
  constructor
  · intro e
    have : i = j := rk_inj i2 j2 (by omega)
    subst this
    exact i3.symm.trans j3
  · intro hc
    rcases Nat.lt_trichotomy i j with e | e | e
    · exact (j2.2 i e ((i3.trans hc).trans j3.symm)).elim
    · rw [e]
    · exact (i2.2 j e ((j3.trans hc.symm).trans i3.symm)).elim
end Pl

open Classical in
/-- floor.Joined. -/
theorem f24_spec (p : Pl) (hl : p.C.length ≤ 4096) (a b : Pt) : f24 (p.W, p.H, p.C, a.X, a.Y, b.X, b.Y, ()) = some (decide (p.bld = true ∧ p.Conn a b), ()) := by
  unfold f24
  rcases f16_spec (p := p) hl with ⟨b1, hp, l, e1, r1⟩ | ⟨b1, e1⟩
  · simp only [e1, Option.bind_some, bne_self_eq_false, cond_false, f36_spec hp]
    by_cases ha : p.free a
    · have va : (p.val a != 1) = false := by simp [val_free.2 ha]
      by_cases hb : p.free b
      · have vb : (p.val b != 1) = false := by simp [val_free.2 hb]
        obtain ⟨a1, a2⟩ := ix_in hp rfl ha.1
        obtain ⟨c1, c2⟩ := ix_in hp rfl hb.1
        have hs := r1.same hp ha hb
        simp only [va, vb, cond_false, ix_w hp ha.1, ix_w hp hb.1, a1, a2, c1, c2, decide_true, Bool.and_self, cond_true, Nat.zero_add, Int.toNat_natCast, g_get hp r1.len ha.1, g_get hp r1.len hb.1, Option.bind_some, b1, true_and]
        by_cases e : p.Conn a b
        · simp [e, hs.2 e]
        · have : p.g l a ≠ p.g l b := fun h => e (hs.1 h)
          simp [e, this]
      · have vb : (p.val b != 1) = true := by simpa using fun h => hb (val_free.1 h)
        have hn : ¬ p.Conn a b := fun h => hb h.free2.2
        simp only [va, vb, cond_false, cond_true, hn, and_false, decide_false]
    · have va : (p.val a != 1) = true := by simpa using fun h => ha (val_free.1 h)
      have hn : ¬ p.Conn a b := fun h => ha h.free2.1
      simp only [va, cond_true, hn, and_false, decide_false]
  · have q : ((if p.vld = true then (3 : Int) else 1) != 0) = true := by cases p.vld <;> rfl
    simp only [e1, Option.bind_some, q, cond_true, b1, Bool.false_eq_true, false_and, decide_false]

/-! ### Solid -/

def edge (p : Pl) (c : Pt) : Prop := c.X = 0 ∨ c.Y = 0 ∨ c.X = p.W - 1 ∨ c.Y = p.H - 1
def Solid (p : Pl) : Prop := p.bld = true ∧ ∀ c, p.inP c → edge p c → p.val c = 2

end Go.AE
