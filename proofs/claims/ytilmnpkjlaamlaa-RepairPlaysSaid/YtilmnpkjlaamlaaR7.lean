/-
  The chapter Repair, part 7: the sample.
-/
import Derived.Test.YtilmnpkjlaamlaaR6
namespace Go.AE
open Go.Proofs Go.RowKit
set_option maxRecDepth 100000

theorem chk_rp {p : Pl} {goal : Pt} {l m : List Int} (h : Rp p goal l) (hg : p.free goal) (hk : p.chk goal m = true) : l = m := Pl.IsDist.unique h.ok (h.dist hg) (Pl.chk_dist h.ok hk)

theorem f25_any {p : Pl} (hl : p.C.length ≤ 400) (s t : Pt) : ∃ n k e ob, f25 (p.W, p.H, p.C, s.X, s.Y, t.X, t.Y, ()) = some (n, k, e, ob, ()) ∧ n ≤ ob.length ∧ n ≤ 39601 := by
  obtain ⟨r, h1, h2⟩ := f25_ans hl s t
  cases h2 with
  | bad _ => exact ⟨_, _, _, _, h1, by simp, by omega⟩
  | none _ _ => exact ⟨_, _, _, _, h1, by simp, by omega⟩
  | far _ _ _ _ _ => exact ⟨_, _, _, _, h1, by simp, by omega⟩
  | path _ _ _ _ _ a b _ => exact ⟨_, _, _, _, h1, a, b⟩

/-- awake. -/
theorem f9_spec : f9 () = some (true, ()) := by
  have h10 := f10_spec (p := ⟨3, 2, [1, 1, 1, 1, 1, 1]⟩) (by decide) ⟨2, 1⟩
  rcases h10 with ⟨h, _⟩ | ⟨_, h, _⟩ | ⟨_, _, l, h1, h2⟩
  · cases h
  · exact (h (by decide)).elim
  · have e1 : l = [169, 99, 70, 140, 70, 0] := chk_rp h1 (by decide) (by decide)
    subst e1
    have h2' : f10 (3, 2, [1, 1, 1, 1, 1, 1], 2, 1, ()) = some (.inr (.inr (3, 2, 6, 2, 1, 6, [1, 1, 1, 1, 1, 1], [169, 99, 70, 140, 70, 0], ()))) := h2
    have c1 : f14 (3, 2, [1, 1, 1, 1, 1, 1], 2, 1, [169, 99, 70, 140, 70, 0], 0, 1, ()) = some (140, ()) := f14_spec h1 ⟨0, 1⟩
    obtain ⟨r, s1, s2⟩ := f16_spec h1 ⟨1, 1⟩ false
    have s1' : f16 (1, 1, false, [1, 1, 1, 1, 1, 1], [169, 99, 70, 140, 70, 0], 3, 2, 6, 2, 1, 6, ()) = some r := s1
    have hu : (⟨3, 2, [1, 1, 1, 1, 1, 1]⟩ : Pl).upd ⟨1, 1⟩ false = smp := rfl
    have hi : (if (⟨3, 2, [1, 1, 1, 1, 1, 1]⟩ : Pl).inP ⟨1, 1⟩ then (0 : Int) else 7) = 0 := rfl
    rw [hu, hi] at s2
    have d2 : Pl.IsDist smp ⟨2, 1⟩ [210, 140, 70, 280, -1, 0] := Pl.chk_dist smp_ok (by decide)
    have h0 : smp.g [210, 140, 70, 280, -1, 0] ⟨0, 1⟩ = 280 := by decide
    obtain ⟨n, ob, t1, t2, t3, t4⟩ := f25_spec smp_ok d2 (start := ⟨0, 1⟩) (by decide) (by decide) (by omega)
    have hw : smp.walk [210, 140, 70, 280, -1, 0] ⟨2, 1⟩ 39600 ⟨0, 1⟩ = [⟨0, 0⟩, ⟨1, 0⟩, ⟨2, 0⟩, ⟨2, 1⟩] := rfl
    have hn : n = 5 := by
      have := congrArg List.length t4
      rw [take_len0 t2] at this
      rw [this]
      unfold Pl.path
      rw [hw]; rfl
    subst hn
    rw [h0] at t1
    have t1' : ∀ l, f15 (3, 2, [1, 1, 1, 1, 2, 1], 2, 1, l, 0, 1, ()) = some (5, 280, 0, ob, ()) := fun l => (f15_spec (p := smp) (goal := ⟨2, 1⟩) ⟨0, 1⟩ l).trans t1
    have q1 : decide (0 + 6 ≤ [(1 : Int), 1, 1, 1, 1, 1].length) = true := rfl
    have q2 : decide (0 + 6 ≤ [(169 : Int), 99, 70, 140, 70, 0].length) = true := rfl
    have q3 : List.take 6 (List.drop 0 [(1 : Int), 1, 1, 1, 1, 1]) = [1, 1, 1, 1, 1, 1] := rfl
    have q4 : List.take 6 (List.drop 0 [(169 : Int), 99, 70, 140, 70, 0]) = [169, 99, 70, 140, 70, 0] := rfl
    have q5 : decide (0 + 6 ≤ [(1 : Int), 1, 1, 1, 2, 1].length) = true := rfl
    have q6 : List.take 6 (List.drop 0 [(1 : Int), 1, 1, 1, 2, 1]) = [1, 1, 1, 1, 2, 1] := rfl
    have q7 : decide (0 + 6 ≤ [(210 : Int), 140, 70, 280, -1, 0].length) = true := rfl
    have q8 : List.take 6 (List.drop 0 [(210 : Int), 140, 70, 280, -1, 0]) = [210, 140, 70, 280, -1, 0] := rfl
    have q9 : ((5 : Nat) : Int) == 5 := rfl
    cases s2 with
    | @old l3 h3 =>
      have e3 : l3 = [210, 140, 70, 280, -1, 0] := chk_rp h3 (by decide) (by decide)
      subst e3
      have c2 : f14 (3, 2, [1, 1, 1, 1, 2, 1], 2, 1, [210, 140, 70, 280, -1, 0], 0, 1, ()) = some (280, ()) := f14_spec h3 ⟨0, 1⟩
      have s1'' : f16 (1, 1, false, [1, 1, 1, 1, 1, 1], [169, 99, 70, 140, 70, 0], 3, 2, 6, 2, 1, 6, ()) = some (.inl (0, [1, 1, 1, 1, 2, 1], [210, 140, 70, 280, -1, 0], 3, 2, 6, 2, 1, 6, ())) := s1
      unfold f9
      simp only [h2', Option.bind_some, Sum.elim_inr, Sum.elim_inl, q1, q2, q3, q4, q5, q6, q7, q8, q9, cond_true, c1, s1'', c2, t1', beq_self_eq_true]
    | @new l3 h3 =>
      have e3 : l3 = [210, 140, 70, 280, -1, 0] := chk_rp h3 (by decide) (by decide)
      subst e3
      have c2 : f14 (3, 2, [1, 1, 1, 1, 2, 1], 2, 1, [210, 140, 70, 280, -1, 0], 0, 1, ()) = some (280, ()) := f14_spec h3 ⟨0, 1⟩
      have s1'' : f16 (1, 1, false, [1, 1, 1, 1, 1, 1], [169, 99, 70, 140, 70, 0], 3, 2, 6, 2, 1, 6, ()) = some (.inr (0, 3, 2, 6, 2, 1, 6, [1, 1, 1, 1, 2, 1], [210, 140, 70, 280, -1, 0], ())) := s1
      unfold f9
      simp only [h2', Option.bind_some, Sum.elim_inr, q1, q2, q3, q4, q5, q6, q7, q8, q9, cond_true, c1, s1'', c2, t1', beq_self_eq_true]

theorem f20_spec (a b : Int) (l : List Int) (m : List Ac) : f20 a b l m = decide (l.length ≤ 100 ∧ m.length ≤ 20) := by
  unfold f20
  by_cases h1 : l.length ≤ 100
  · have e1 : (l.length : Int) ≤ 100 := by omega
    by_cases h2 : m.length ≤ 20
    · have e2 : (m.length : Int) ≤ 20 := by omega
      simp [h1, h2, e1, e2]
    · have e2 : ¬ (m.length : Int) ≤ 20 := by omega
      simp [h1, h2, e1, e2]
  · have e1 : ¬ (l.length : Int) ≤ 100 := by omega
    simp [h1, e1]

theorem idxO_zero {α : Type} (l : List α) : idxO l 0 = l[0]? := rfl

end Go.AE
