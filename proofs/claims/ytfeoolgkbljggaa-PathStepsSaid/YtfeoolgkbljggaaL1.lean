/-
  Plain laws of the chapter Path: costs, paths, checks.
-/
import Derived.Test.YtfeoolgkbljggaaP6
namespace Go.AE
open Go.Proofs Go.RowKit
set_option maxRecDepth 100000

theorem f15_spec (a b : Int) (l : List Int) : f15 a b l = decide (l.length ≤ 400) := by
  unfold f15
  by_cases h : l.length ≤ 400
  · have : (l.length : Int) ≤ 400 := by omega
    simp [h, this]
  · have : ¬ (l.length : Int) ≤ 400 := by omega
    simp [h, this]

theorem take_self {α : Type} (l : List α) : List.take l.length (List.drop 0 l) = l := by simp
theorem zl {α : Type} (l : List α) : (0 + l.length ≤ l.length) = True := by simp

theorem pathCosts_plain (x : Int × Int × List Int × Int × Int × Unit) : f3 x = some (true, ()) := by
  obtain ⟨w, h, l, a, b, ⟨⟩⟩ := x
  unfold f3
  simp only [f14_spec, Option.bind_some, Bool.not_true, cond_false, f15_spec]
  by_cases hl : l.length ≤ 400
  · obtain ⟨e, m, h1, h2, h3⟩ := costs_same (p := ⟨w, h, l⟩) hl ⟨a, b⟩
    have hm : m.length ≤ 1000000 := by
      rcases h3 with ⟨_, _, _, d⟩ | ⟨_, _, _, rfl⟩ | ⟨_, _, rfl⟩
      · have := d.len; simp only at this; omega
      · simp
      · simp
    simp only at h1 h2
    simp only [hl, decide_true, Bool.not_true, cond_false, cond_true, f16_spec w h (l := l) (by omega), Option.bind_some, take_self, zl, h1, h2, beq_self_eq_true, f19_spec hm, f20_self]
  · simp only [hl, decide_false, Bool.not_false, cond_true]

theorem pathFinds_plain (x : Int × Int × List Int × Int × Int × Int × Int × Unit) : f4 x = some (true, ()) := by
  obtain ⟨w, h, l, a, b, c, d, ⟨⟩⟩ := x
  unfold f4
  simp only [f14_spec, Option.bind_some, Bool.not_true, cond_false, f15_spec]
  by_cases hl : l.length ≤ 400
  · obtain ⟨r1, h1, a1⟩ := f21_ans (p := ⟨w, h, l⟩) hl ⟨a, b⟩ ⟨c, d⟩
    obtain ⟨r2, h2, a2⟩ := f22_ans (p := ⟨w, h, l⟩) hl ⟨a, b⟩ ⟨c, d⟩
    simp only at h1 h2
    simp only [hl, decide_true, Bool.not_true, cond_false, h1, h2, Option.bind_some]
    have e0 : f23 ([], [], ()) = some (true, ()) := by rw [f23_spec (by simp)]; rfl
    have e1 : ∀ (α : Type), (0 + 0 ≤ ([] : List α).length) = True := fun α => by simp
    have e2 : ∀ (α : Type), List.take 0 (List.drop 0 ([] : List α)) = [] := fun α => by simp
    cases a1 with
    | bad v =>
      cases a2 with
      | bad _ => simp only [beq_self_eq_true, cond_true, e1, e2, decide_true, e0, Option.bind_some]
      | none p _ => rw [p.vld] at v; cases v
      | far p => rw [p.vld] at v; cases v
      | path p => rw [p.vld] at v; cases v
    | none p q =>
      cases a2 with
      | bad v => rw [p.vld] at v; cases v
      | none _ _ => simp only [beq_self_eq_true, cond_true, e1, e2, decide_true, e0, Option.bind_some]
      | far _ s t => exact (q ⟨s, t⟩).elim
      | path _ s t => exact (q ⟨s, t⟩).elim
    | far p s t k m =>
      cases a2 with
      | bad v => rw [p.vld] at v; cases v
      | none _ q => exact (q ⟨s, t⟩).elim
      | far _ _ _ _ _ => simp only [beq_self_eq_true, cond_true, e1, e2, decide_true, e0, Option.bind_some]
      | path _ _ _ k' m' => rw [Pl.IsDist.unique p k' k] at m'; omega
    | @path l1 n1 ob1 p s t k m q1 q2 q3 =>
      cases a2 with
      | bad v => rw [p.vld] at v; cases v
      | none _ q => exact (q ⟨s, t⟩).elim
      | far _ _ _ k' m' => rw [Pl.IsDist.unique p k' k] at m'; omega
      | @path l2 n2 ob2 _ _ _ k' m' u1 u2 u3 =>
        have := Pl.IsDist.unique p k' k
        subst this
        have z1 : (0 + n1 ≤ ob1.length) = True := by simp; omega
        have z2 : (0 + n2 ≤ ob2.length) = True := by simp; omega
        have hlen := congrArg List.length q3
        rw [take_len0 q1] at hlen
        simp only [beq_self_eq_true, cond_true, z1, z2, decide_true, List.drop_zero, q3, u3, f23_spec (a := Pl.path _ _ _ _) (b := Pl.path _ _ _ _) (by rw [← hlen]; omega), Option.bind_some]
  · simp only [hl, decide_false, Bool.not_false, cond_true]

/-- Both ways to a check. -/
theorem check_same {p : Pl} (hl : p.C.length ≤ 400) (g : Pt) {m : List Int} (hm : m.length ≤ 1000000) : ∃ e l, f17 (p.W, p.H, p.C, g.X, g.Y, ()) = some (l.length, e, l, ()) ∧ l.length ≤ 400 ∧
    f28 (p.W, p.H, p.C, g.X, g.Y, m, ()) = some (if e ≠ 0 then e else if m.length ≠ l.length then 3 else if m = l then 0 else 9, ()) ∧ f29 (p.W, p.H, p.C, g.X, g.Y, m, ()) = some (if e ≠ 0 then e else if m.length ≠ l.length then 3 else if m = l then 0 else 9, ()) := by
  obtain ⟨e, l, h1, h2, h3⟩ := costs_same hl g
  have hll : l.length ≤ 400 := by
    rcases h3 with ⟨_, _, _, d⟩ | ⟨_, _, _, rfl⟩ | ⟨_, _, rfl⟩
    · have := d.len; omega
    · simp
    · simp
  refine ⟨e, l, h1, hll, ?_, ?_⟩
  · unfold f28
    simp only [h1, Option.bind_some]
    by_cases he : e = 0
    · subst he
      by_cases hq : m.length = l.length
      · have q1 : ((m.length : Int) != (l.length : Int)) = false := by simp [hq]
        simp only [bne_self_eq_false, cond_false, q1, zl, decide_true, cond_true, take_self, f43_spec hm, Option.bind_some]
        by_cases q : m = l <;> simp [q, hq]
      · have q1 : ((m.length : Int) != (l.length : Int)) = true := by simp; omega
        simp [q1, hq]
    · have q0 : (e != 0) = true := by simpa using he
      simp [q0, he]
  · unfold f29
    simp only [h2, Option.bind_some]
    by_cases he : e = 0
    · subst he
      by_cases hq : m.length = l.length
      · have q1 : ((m.length : Int) != (l.length : Int)) = false := by simp [hq]
        simp only [bne_self_eq_false, cond_false, q1, zl, decide_true, cond_true, take_self, f19_spec hm, Option.bind_some]
        by_cases q : m = l <;> simp [q, hq]
      · have q1 : ((m.length : Int) != (l.length : Int)) = true := by simp; omega
        simp [q1, hq]
    · have q0 : (e != 0) = true := by simpa using he
      simp [q0, he]

theorem pathChecks_plain (x : Int × Int × List Int × Int × Int × List Int × Unit) : f8 x = some (true, ()) := by
  obtain ⟨w, h, l, a, b, m, ⟨⟩⟩ := x
  unfold f8
  simp only [f14_spec, Option.bind_some, Bool.not_true, cond_false, f15_spec]
  by_cases hl : l.length ≤ 400
  · by_cases hm : (m.length : Int) > 500
    · simp only [hl, hm, decide_true, Bool.not_true, cond_false, cond_true]
    · obtain ⟨e, k, h1, h0, h2, h3⟩ := check_same (p := ⟨w, h, l⟩) hl ⟨a, b⟩ (m := m) (by omega)
      obtain ⟨e', k', h1', _, h2', _⟩ := check_same (p := ⟨w, h, l⟩) hl ⟨a, b⟩ (m := k) (by omega)
      rw [h1] at h1'
      simp only [Option.some.injEq, Prod.mk.injEq, and_true] at h1'
      obtain ⟨_, rfl, rfl⟩ := h1'
      simp only at h1 h2 h3 h2'
      simp only [hl, hm, decide_true, decide_false, Bool.not_true, cond_false, cond_true, h1, h2, h3, beq_self_eq_true, zl, take_self, h2', Option.bind_some]
      by_cases he : e = 0 <;> simp [he]
  · simp only [hl, decide_false, Bool.not_false, cond_true]

theorem f30_spec {k : Int} {n : Nat} (hn : 0 < n) (hn2 : n ≤ 400) : ∃ i : Nat, f30 (k, (n : Int), ()) = some ((i : Int), ()) ∧ i < n := by
  have h0 : ((n : Int) == 0) = false := by simp; omega
  unfold f30
  simp only [h0, cond_false]
  have hb := Int.tmod_lt_of_pos k (b := (n : Int)) (by omega)
  have hb2 : -(n : Int) < k.tmod n := by
    by_cases hk : 0 ≤ k
    · have := Int.tmod_nonneg (n : Int) hk; omega
    · have := Int.tmod_lt_of_pos (-k) (b := (n : Int)) (by omega)
      rw [Int.neg_tmod] at this; omega
  by_cases q : k.tmod n < 0
  · refine ⟨(k.tmod n + n).toNat, ?_, by omega⟩
    have w : IntKind.i64.wrap (k.tmod n + n) = k.tmod n + n := w64 (by omega) (by omega)
    simp only [q, decide_true, cond_true, w, j30_13, Option.bind_some]
    have : (((k.tmod n + n).toNat : Nat) : Int) = k.tmod n + n := by omega
    rw [this]
  · refine ⟨(k.tmod n).toNat, ?_, by omega⟩
    simp only [q, decide_false, cond_false, j30_13, Option.bind_some]
    have : (((k.tmod n).toNat : Nat) : Int) = k.tmod n := by omega
    rw [this]

theorem pathTampered_plain (x : Int × Int × List Int × Int × Int × Int × Int × Unit) : f9 x = some (true, ()) := by
  obtain ⟨w, h, l, a, b, i, v, ⟨⟩⟩ := x
  unfold f9
  simp only [f14_spec, Option.bind_some, Bool.not_true, cond_false, f15_spec]
  by_cases hl : l.length ≤ 400
  · obtain ⟨e, k, h1, h2, h3⟩ := costs_same (p := ⟨w, h, l⟩) hl ⟨a, b⟩
    simp only at h1
    simp only [hl, decide_true, Bool.not_true, cond_false, h1, Option.bind_some]
    rcases h3 with ⟨p, hg, rfl, d⟩ | ⟨_, _, rfl, rfl⟩ | ⟨_, rfl, rfl⟩
    · have hkl : k.length = l.length := d.len
      have hk0 : 0 < k.length := by
        have := Pl.ix_lt p hg.1
        have hkl' := d.len
        omega
      have z0 : ((k.length : Int) == 0) = false := by rw [beq_eq_false_iff_ne]; omega
      obtain ⟨j, j1, j2⟩ := f30_spec (k := i) hk0 (by omega)
      have c1 : (0 : Int) ≤ (j : Int) := by omega
      have c2 : (j : Int) < (k.length : Int) := by omega
      obtain ⟨e', k', u1, _, u2, _⟩ := check_same (p := ⟨w, h, l⟩) hl ⟨a, b⟩ (m := k.set j v) (by rw [List.length_set]; omega)
      simp only at u1 u2
      rw [h1] at u1
      simp only [Option.some.injEq, Prod.mk.injEq, and_true] at u1
      obtain ⟨_, rfl, rfl⟩ := u1
      have zz : (0 + k.length ≤ (k.set j v).length) = True := by simp
      have tt : List.take k.length (List.drop 0 (k.set j v)) = k.set j v := by rw [List.drop_zero, List.take_of_length_le (by simp)]
      simp only [bne_self_eq_false, cond_false, z0, j1, Option.bind_some, c1, c2, decide_true, Bool.and_self, cond_true, Int.toNat_natCast, Nat.zero_add, List.getElem?_eq_getElem j2]
      simp only [Nat.zero_add] at zz
      simp only [zz, decide_true, cond_true, tt, u2, Option.bind_some]
      have hs : (k.set j v).length = k.length := List.length_set
      by_cases q : k[j] = v
      · have : k.set j v = k := by rw [← q]; exact List.set_getElem_self j2
        simp [this, q]
      · have : ¬ k.set j v = k := fun hh => q (by
          have h9 : (k.set j v)[j]'(by rw [hs]; exact j2) = k[j] := by simp only [hh]
          rw [List.getElem_set_self] at h9
          exact h9.symm)
        simp [this, hs]
    · rfl
    · rfl
  · simp only [hl, decide_false, Bool.not_false, cond_true]

end Go.AE
