/-
  The chapter Floor, part 1: loops that look for something; buildings; discs.
-/
import Derived.Test.YthelgkjfdjnmeaaDoorA
namespace Go.AE
open Go.Proofs Go.RowKit
set_option maxRecDepth 100000

open Classical in
/-- A loop over numbers that ends with false at the first bad one. -/
theorem scan {S Y : Type} {f : S → Option (S ⊕ (Bool × Unit ⊕ Y))} (st : Int → S) (bad : Int → Prop) (out : Y) (b : Int) : ∀ (t : Nat) (a : Int), (b + 1 - a).toNat = t → a ≤ b + 1 →
    (∀ k, a ≤ k → k ≤ b → bad k → f (st k) = some (.inr (.inl (false, ())))) → (∀ k, a ≤ k → k ≤ b → ¬ bad k → f (st k) = some (.inl (st (k + 1)))) → f (st (b + 1)) = some (.inr (.inr out)) →
    iterO f (st a) = some (if ∃ k, a ≤ k ∧ k ≤ b ∧ bad k then .inl (false, ()) else .inr out) := by
  intro t
  induction t with
  | zero =>
    intro a ht ha h1 h2 h3
    have : a = b + 1 := by omega
    subst this
    rw [iterO_eq, h3, if_neg (by rintro ⟨k, k1, k2, _⟩; omega)]
  | succ t ih =>
    intro a ht ha h1 h2 h3
    by_cases hb : bad a
    · rw [iterO_eq, h1 a (by omega) (by omega) hb, if_pos ⟨a, by omega, by omega, hb⟩]
    · rw [iterO_eq, h2 a (by omega) (by omega) hb]
      show iterO f (st (a + 1)) = _
      rw [ih (a + 1) (by omega) (by omega) (fun k k1 k2 => h1 k (by omega) k2) (fun k k1 k2 => h2 k (by omega) k2) h3]
      have : (∃ k, a + 1 ≤ k ∧ k ≤ b ∧ bad k) ↔ ∃ k, a ≤ k ∧ k ≤ b ∧ bad k := by
        constructor
        · rintro ⟨k, k1, k2, k3⟩; exact ⟨k, by omega, k2, k3⟩
        · rintro ⟨k, k1, k2, k3⟩
          by_cases e : k = a
          · exact (hb (e ▸ k3)).elim
          · exact ⟨k, by omega, k2, k3⟩
      simp only [this]

/-! ### Buildings -/

/-- No cell is unknown. -/
def Pl.known (p : Pl) : Bool := p.C.all fun x => !(x == 0)
def Pl.bld (p : Pl) : Bool := p.vld && p.known

theorem known_iff {p : Pl} : p.known = true ↔ (0 : Int) ∉ p.C := by
  unfold Pl.known
  rw [List.all_eq_true]
  constructor
  · intro h hm
    have := h 0 hm
    simp at this
  · intro h x hx
    simp only [Bool.not_eq_true', beq_eq_false_iff_ne]
    exact fun e => h (e ▸ hx)

theorem f44_spec (l : List Int) : f44 (l, 0, ()) = some (ixByte l 0, ()) := rfl

theorem f20_spec {p : Pl} (hl : p.C.length ≤ 1000000) : f20 (p.W, p.H, p.C, ()) = some (if p.vld then (if p.known then 0 else 3) else 1, ()) := by
  unfold f20
  simp only [f43_spec hl, Option.bind_some, f44_spec]
  cases hv : p.vld with
  | false => rfl
  | true =>
    simp only [Bool.not_true, cond_false, if_true]
    by_cases h : p.known = true
    · have : ¬ ixByte p.C 0 ≥ 0 := fun hge => known_iff.1 h ((ixByte_mem 0 p.C).1 hge)
      simp only [this, decide_false, cond_false, h, if_true]
    · have : ixByte p.C 0 ≥ 0 := (ixByte_mem 0 p.C).2 (Classical.byContradiction fun hn => h (known_iff.2 hn))
      simp only [this, decide_true, cond_true, h, if_false, Bool.false_eq_true]

open Classical in
theorem f32_spec {p : Pl} (hl : p.C.length ≤ 1000000) : f32 (p.W, p.H, p.C, ()) = some (p.bld, ()) := by
  unfold f32
  simp only [f29_spec hl, Option.bind_some]
  unfold Pl.bld
  cases hv : p.vld with
  | false => rfl
  | true =>
    have hs := scan (f := r32_0) (fun k => (k, p.W, p.H, p.C, ())) (fun k => p.C[k.toNat]? = some 0) () ((p.C.length : Int) - 1) p.C.length 0 (by omega) (by omega)
      (fun k k1 k2 hb => by
        have c1 : k < (p.C.length : Int) := by omega
        have e : idxO p.C k = some 0 := by
          have : k = ((k.toNat : Nat) : Int) := by omega
          rw [this, idxO_nat]; simpa using hb
        unfold r32_0
        simp only [c1, decide_true, cond_true, e, Option.bind_some, beq_self_eq_true])
      (fun k k1 k2 hb => by
        have c1 : k < (p.C.length : Int) := by omega
        obtain ⟨v, hv⟩ : ∃ v, p.C[k.toNat]? = some v := ⟨_, List.getElem?_eq_getElem (by omega)⟩
        have e : idxO p.C k = some v := by
          have : k = ((k.toNat : Nat) : Int) := by omega
          rw [this, idxO_nat]; simpa using hv
        have hne : (v == 0) = false := by
          rw [beq_eq_false_iff_ne]
          intro h0
          exact hb (by rw [hv, h0])
        have w0 : IntKind.i64.wrap (k + 1) = k + 1 := w64 (by omega) (by omega)
        unfold r32_0
        simp only [c1, decide_true, cond_true, e, Option.bind_some, hne, cond_false, w0])
      (by
        have c1 : ¬ ((p.C.length : Int) - 1 + 1) < (p.C.length : Int) := by omega
        unfold r32_0
        simp only [c1, decide_false, cond_false])
    simp only [Bool.not_true, cond_false, Bool.true_and]
    unfold l32_0
    rw [hs]
    by_cases h : p.known = true
    · have hn : ¬ ∃ k : Int, 0 ≤ k ∧ k ≤ (p.C.length : Int) - 1 ∧ p.C[k.toNat]? = some 0 := by
        rintro ⟨k, _, _, hk⟩
        exact known_iff.1 h (List.mem_of_getElem? hk)
      rw [if_neg hn, h]
      rfl
    · have hp : ∃ k : Int, 0 ≤ k ∧ k ≤ (p.C.length : Int) - 1 ∧ p.C[k.toNat]? = some 0 := by
        have hm : (0 : Int) ∈ p.C := Classical.byContradiction fun hn => h (known_iff.2 hn)
        obtain ⟨i, hi⟩ := List.getElem?_of_mem hm
        have := (List.getElem?_eq_some_iff.1 hi).1
        exact ⟨i, by omega, by omega, by simpa using hi⟩
      have hf : p.known = false := by simpa using h
      rw [if_pos hp, hf]
      rfl

theorem f21_spec {p : Pl} (hl : p.C.length ≤ 1000000) : f21 (p.W, p.H, p.C, ()) = some (if p.vld then (if p.known then 0 else 3) else 1, ()) := by
  unfold f21
  simp only [f29_spec hl, f32_spec hl, Option.bind_some, Pl.bld]
  cases p.vld <;> cases p.known <;> rfl

theorem f36_spec {p : Pl} (hp : p.Ok) (c : Pt) : f36 (p.W, p.H, p.C, c.X, c.Y, ()) = some (p.val c, ()) := by
  unfold f36 Pl.val
  by_cases h : p.inP c
  · have h1 : ¬ c.X < 0 := by unfold Pl.inP at h; omega
    have h2 : ¬ c.X ≥ p.W := by unfold Pl.inP at h; omega
    have h3 : ¬ c.Y < 0 := by unfold Pl.inP at h; omega
    have h4 : ¬ c.Y ≥ p.H := by unfold Pl.inP at h; omega
    simp only [h1, h2, h3, h4, decide_false, cond_false, ix_w hp h, idxO_nat, cell_get hp h, Option.bind_some, h, if_true]
  · rw [if_neg h]
    by_cases h1 : c.X < 0
    · simp only [h1, decide_true, cond_true]
    · by_cases h2 : c.X ≥ p.W
      · simp only [h1, h2, decide_true, decide_false, cond_true, cond_false]
      · by_cases h3 : c.Y < 0
        · simp only [h1, h2, h3, decide_true, decide_false, cond_true, cond_false]
        · have h4 : c.Y ≥ p.H := by unfold Pl.inP at h; omega
          simp only [h1, h2, h3, h4, decide_true, decide_false, cond_true, cond_false]

theorem f13_few (a b : Int) (l : List Int) : f13 a b l = decide (l.length ≤ 400) := by
  unfold f13
  by_cases h : l.length ≤ 400
  · have : (l.length : Int) ≤ 400 := by omega
    simp [h, this]
  · have : ¬ (l.length : Int) ≤ 400 := by omega
    simp [h, this]

end Go.AE
