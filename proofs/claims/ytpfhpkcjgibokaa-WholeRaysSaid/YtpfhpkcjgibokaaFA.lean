/-
  Plain laws of the chapter Path, part 1: plans, cells, steps.
-/
import Derived.Test.YtpfhpkcjgibokaaFS
namespace Go.AE
open Go.Proofs Go.RowKit
set_option maxRecDepth 100000

theorem u64w {n : Int} (h1 : 0 ≤ n) (h2 : n ≤ 18446744073709551615) : IntKind.u64.wrap n = n := by
  rw [IntKind.wrap_u64]; omega
theorem idxO_nat {α : Type} (l : List α) (i : Nat) : idxO l (i : Int) = l[i]? := by
  unfold idxO; simp
theorem roomy_ok {n b : Nat} (h : n * b ≤ 1000000000) : roomy n b = true := by
  unfold roomy; simp; omega

/-! ### Plans -/

theorem f51_spec (n : Int) : f51 n = (decide (1 ≤ n) && decide (n ≤ 64)) := by
  unfold f51
  by_cases h : n ≥ 1
  · have h' : 1 ≤ n := h
    simp [h']
  · have h' : ¬ 1 ≤ n := h
    simp [h']

theorem l52_spec (l : List Int) (hl : l.length ≤ 1000000) : ∀ (k i : Nat) (m : Int), l.length - i = k → i ≤ l.length → ∃ y, l52_0 (l, m, (i : Int), ()) = some (y, ()) ∧ (y ≤ 2 ↔ m ≤ 2 ∧ ∀ x ∈ l.drop i, x ≤ 2) := by
  intro k
  induction k with
  | zero =>
    intro i m hk hi
    have : i = l.length := by omega
    subst this
    refine ⟨m, ?_, by simp⟩
    unfold l52_0
    rw [iterO_eq]
    have : r52_0 (l, m, (l.length : Int), ()) = some (.inr (m, ())) := by unfold r52_0; simp
    rw [this]
  | succ k ih =>
    intro i m hk hi
    have hlt : i < l.length := by omega
    have h1 : (i : Int) < (l.length : Int) := by omega
    have h2 : IntKind.i64.wrap ((i : Int) + 1) = ((i + 1 : Nat) : Int) := by rw [w64 (by omega) (by omega)]; rfl
    obtain ⟨y, h3, h4⟩ := ih (i + 1) (bif decide (l[i] > m) then l[i] else m) (by omega) (by omega)
    refine ⟨y, ?_, ?_⟩
    · unfold l52_0
      rw [iterO_eq]
      have : r52_0 (l, m, (i : Int), ()) = some (.inl (l, bif decide (l[i] > m) then l[i] else m, ((i + 1 : Nat) : Int), ())) := by
        unfold r52_0
        simp only [h1, h2, decide_true, cond_true, idxO_nat, List.getElem?_eq_getElem hlt, Option.bind_some]
      rw [this]
      exact h3
    · rw [h4, List.drop_eq_getElem_cons hlt]
      simp only [List.mem_cons, forall_eq_or_imp]
      rw [← and_assoc]
      refine and_congr_left fun _ => ?_
      by_cases h : l[i] > m
      · simp only [h, decide_true, cond_true]; omega
      · simp only [h, decide_false, cond_false]; omega

theorem all_le {l : List Int} : l.all (fun x => decide (x ≤ 2)) = true ↔ ∀ x ∈ l, x ≤ 2 := by
  simp [List.all_eq_true]

theorem f28_spec {p : Pl} (hl : p.C.length ≤ 1000000) : f28 (p.W, p.H, p.C, ()) = some (p.vld, ()) := by
  unfold f28 Pl.vld
  simp only [f51_spec]
  by_cases h1 : 1 ≤ p.W
  · by_cases h2 : p.W ≤ 64
    · by_cases h3 : 1 ≤ p.H
      · by_cases h4 : p.H ≤ 64
        · have hm := mulb (a := p.W) (b := p.H) (A := 64) (B := 64) (by omega) (by omega) (by omega) (by omega)
          rw [w64 (n := p.W * p.H) (by omega) (by omega)]
          simp only [h1, h2, h3, h4, decide_true, Bool.and_self, Bool.not_true, cond_false, Bool.true_and]
          by_cases h5 : (p.C.length : Int) = p.W * p.H
          · have e5 : ((p.C.length : Int) != p.W * p.H) = false := by simp [h5]
            have hpos : 0 < p.W * p.H := Int.mul_pos (by omega) (by omega)
            have e6 : ((p.C.length : Int) == 0) = false := by rw [beq_eq_false_iff_ne]; omega
            have hlt : 0 < p.C.length := by omega
            obtain ⟨y, g1, g2⟩ := l52_spec p.C hl (p.C.length - 1) 1 p.C[0] (by omega) (by omega)
            have e7 : ¬ ((p.C.length : Int) < 1) := by omega
            have hf : f52 (p.C, ()) = some (y, ()) := by
              unfold f52
              have hi : idxO p.C 0 = some p.C[0] := by rw [show (0 : Int) = ((0 : Nat) : Int) from rfl, idxO_nat, List.getElem?_eq_getElem hlt]
              have g1' : l52_0 (p.C, p.C[0], 1, ()) = some (y, ()) := g1
              simp only [e7, decide_false, cond_false, hi, Option.bind_some, g1']
            have e8 : decide ((p.C.length : Int) = p.W * p.H) = true := by simp [h5]
            simp only [e5, cond_false, e6, hf, Option.bind_some, e8, Bool.true_and]
            congr 2
            rw [Bool.eq_iff_iff, decide_eq_true_iff, g2, all_le]
            have : p.C = p.C[0] :: p.C.drop 1 := by rw [← List.drop_eq_getElem_cons hlt, List.drop_zero]
            conv => rhs; rw [this]
            simp
          · have e5 : ((p.C.length : Int) != p.W * p.H) = true := by simp [h5]
            simp [e5, h5]
        · simp [h1, h2, h3, h4]
      · simp [h1, h2, h3]
    · simp [h1, h2]
  · simp [h1]

/-! ### Cells -/

theorem ix_w {p : Pl} (hp : p.Ok) {c : Pt} (hc : p.inP c) : IntKind.i64.wrap (IntKind.i64.wrap (c.Y * p.W) + c.X) = ((p.ix c : Nat) : Int) := by
  have h1 := Pl.ix_val hc
  have h2 := hp.w1
  have h3 := hp.w2
  have h4 := hp.h2
  have hc2 := hc
  unfold Pl.inP at hc2
  have hm := mulb (a := c.Y) (b := p.W) (A := 64) (B := 64) (by omega) (by omega) (by omega) (by omega)
  rw [w64 (n := c.Y * p.W) (by omega) (by omega), h1, w64 (by omega) (by omega)]

theorem cell_get {p : Pl} (hp : p.Ok) {c : Pt} (hc : p.inP c) : p.C[p.ix c]? = some (p.C.getD (p.ix c) 0) := by
  have := Pl.ix_lt hp hc
  rw [List.getD_eq_getElem?_getD, List.getElem?_eq_getElem this]; rfl

/-- The value of a cell. -/
def Pl.val (p : Pl) (c : Pt) : Int := if p.inP c then p.C.getD (p.ix c) 0 else 2

theorem val_free {p : Pl} {c : Pt} : p.val c = 1 ↔ p.free c := by
  unfold Pl.val Pl.free
  by_cases hc : p.inP c <;> simp [hc]


end Go.AE
