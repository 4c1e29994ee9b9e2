/-
  The chapter Floor, part 1: loops that look for something; buildings; discs.
-/
import Derived.Test.YtadnppefidjhfaaGreatFA
namespace Go.AE
open Go.Proofs Go.RowKit
set_option maxRecDepth 100000

open Classical in
/-- A loop over numbers that ends with false at the first bad one. -/
theorem scan {S Y : Type} {f : S → Option (S ⊕ (Bool × Unit ⊕ Y))} (st : Int → S) (bad : Int → Prop) (out : Y) (b : Int) : ∀ (t : Nat) (a : Int), (b + 1 - a).toNat = t → a ≤ b + 1 →
    (∀ k, a ≤ k → k ≤ b → bad k → f (st k) = some (.inr (.inl (false, ())))) → (∀ k, a ≤ k → k ≤ b → ¬ bad k → f (st k) = some (.inl (st (k + 1)))) → f (st (b + 1)) = some (.inr (.inr out)) →
    iterO f (st a) = some (if ∃ k, a ≤ k ∧ k ≤ b ∧ bad k then .inl (false, ()) else .inr out) := by
  intro t
  induction t with
  | zero =>
    intro a ht ha h1 h2 h3
    have : a = b + 1 := by omega
    subst this
    rw [iterO_eq, h3, if_neg (by rintro ⟨k, k1, k2, _⟩; omega)]
  | succ t ih =>
    intro a ht ha h1 h2 h3
    by_cases hb : bad a
    · rw [iterO_eq, h1 a (by omega) (by omega) hb, if_pos ⟨a, by omega, by omega, hb⟩]
    · rw [iterO_eq, h2 a (by omega) (by omega) hb]
      show iterO f (st (a + 1)) = _
      rw [ih (a + 1) (by omega) (by omega) (fun k k1 k2 => h1 k (by omega) k2) (fun k k1 k2 => h2 k (by omega) k2) h3]
      have : (∃ k, a + 1 ≤ k ∧ k ≤ b ∧ bad k) ↔ ∃ k, a ≤ k ∧ k ≤ b ∧ bad k := by
        constructor
        · rintro ⟨k, k1, k2, k3⟩; exact ⟨k, by omega, k2, k3⟩
        · rintro ⟨k, k1, k2, k3⟩
          by_cases e : k = a
          · exact (hb (e ▸ k3)).elim
          · exact ⟨k, by omega, k2, k3⟩
      simp only [this]

/-! ### Buildings -/

/-- No cell is unknown. -/
def Pl.known (p : Pl) : Bool := p.C.all fun x => !(x == 0)
def Pl.bld (p : Pl) : Bool := p.vld && p.known

theorem known_iff {p : Pl} : p.known = true ↔ (0 : Int) ∉ p.C := by
  unfold Pl.known
  rw [List.all_eq_true]
  constructor
  · intro h hm
    have := h 0 hm
    simp at this
  · intro h x hx
    simp only [Bool.not_eq_true', beq_eq_false_iff_ne]
    exact fun e => h (e ▸ hx)

end Go.AE
