/-
  Plain laws of the chapter Path, part 7: steps, lengths of walks, what is reached.
-/
import Derived.Test.YtmhbjgelllhnbaaQP6
namespace Go.AE
open Go.Proofs Go.RowKit
set_option maxRecDepth 100000

theorem stp_unfree {p : Pl} {a b : Pt} (h : ¬ (p.free a ∧ p.free b)) : p.stp a b = none := by
  cases hs : p.stp a b with
  | none => rfl
  | some w => exact (h (stp_free hs)).elim

/-! ### Walks -/

namespace Pl
variable {p : Pl}

theorem stp_symm {a b : Pt} {w : Int} (h : p.stp a b = some w) : p.stp b a = some w := by
  unfold stp at *
  split at h
  · rename_i hd
    have e : (⟨a.X - b.X, a.Y - b.Y⟩ : Pt) = neg ⟨b.X - a.X, b.Y - a.Y⟩ := by simp only [neg, Pt.mk.injEq]; omega
    have h2 := st_symm h
    rw [add_sub] at h2
    rw [if_pos (by rw [e]; exact neg_dirs hd), e]
    exact h2
  · cases h
theorem stp_pos {a b : Pt} {w : Int} (h : p.stp a b = some w) : 70 ≤ w ∧ w ≤ 99 := by
  unfold stp at h
  split at h
  · exact st_pos h
  · cases h
theorem stp_st {a b : Pt} {w : Int} (h : p.stp a b = some w) : ∃ d, d ∈ dirs ∧ p.st a d = some w ∧ add a d = b := by
  unfold stp at h
  split at h
  · rename_i hd
    exact ⟨_, hd, h, add_sub a b⟩
  · cases h

/-- The length of the walk from a cell through the cells of a list. -/
def len2 (p : Pl) : Pt → List Pt → Option Int
  | _, [] => some 0
  | a, b :: l => (p.stp a b).bind fun w => (len2 p b l).map (w + ·)

/-- What a walk reaches, and at which cost. -/
inductive R (p : Pl) : Pt → Pt → Int → Prop
  | nil {a : Pt} : R p a a 0
  | cons {a b c : Pt} {w n : Int} : p.stp a b = some w → R p b c n → R p a c (w + n)

theorem R.snoc {a b c : Pt} {w n : Int} (h : R p a b n) (hs : p.stp b c = some w) : R p a c (n + w) := by
  induction h with
  | nil =>
    have := R.cons hs (.nil (p := p))
    rw [Int.add_comm] at this ⊢
    rw [Int.add_comm]; exact this
  | cons h1 _ ih =>
    have := R.cons h1 (ih hs)
    rw [← Int.add_assoc] at this
    exact this
theorem R.symm {a b : Pt} {n : Int} (h : R p a b n) : R p b a n := by
  induction h with
  | nil => exact .nil
  | cons h1 _ ih =>
    have := ih.snoc (stp_symm h1)
    rw [Int.add_comm] at this
    exact this

theorem IsDist.step_le {goal : Pt} {l : List Int} (h : IsDist p goal l) {a b : Pt} {w : Int} (hs : p.stp a b = some w) (h0 : 0 ≤ p.g l b) : 0 ≤ p.g l a ∧ p.g l a ≤ p.g l b + w := by
  obtain ⟨d, d1, d2, d3⟩ := stp_st (stp_symm hs)
  have := h.edge b d w d1 d2 h0
  rw [d3] at this
  exact this

theorem IsDist.least {goal : Pt} {l : List Int} (h : IsDist p goal l) {a b : Pt} {n : Int} (hr : R p a b n) (hb : b = goal) : 0 ≤ p.g l a ∧ p.g l a ≤ n := by
  induction hr with
  | nil => subst hb; rw [h.zero]; omega
  | cons h1 _ ih =>
    obtain ⟨k1, k2⟩ := ih hb
    have := h.step_le h1 k1
    omega

theorem walk_fuel {goal : Pt} {l : List Int} (h : IsDist p goal l) : ∀ (n m : Nat) (c : Pt), p.inP c → 0 ≤ p.g l c → p.g l c ≤ n → p.g l c ≤ m → p.walk l goal n c = p.walk l goal m c := by
  intro n
  induction n with
  | zero =>
    intro m c hc h0 h1 h2
    have hg : c = goal := Classical.byContradiction fun hg => by
      obtain ⟨d, w, e1, e2, e3, e4, e5⟩ := nxt_some h hc hg h0
      have := st_pos e3
      omega
    cases m with
    | zero => rfl
    | succ m => simp only [walk, hg, if_true]
  | succ n ih =>
    intro m c hc h0 h1 h2
    by_cases hg : c = goal
    · cases m with
      | zero => simp only [walk, hg, if_true]
      | succ m => simp only [walk, hg, if_true]
    · obtain ⟨d, w, e1, e2, e3, e4, e5⟩ := nxt_some h hc hg h0
      have := st_pos e3
      cases m with
      | zero => omega
      | succ m =>
        simp only [walk, hg, if_false, e1]
        rw [ih m (add c d) (st_free e3).2.1 e5 (by omega) (by omega)]

theorem walk_one {goal c d : Pt} {l : List Int} {n : Nat} (hg : c ≠ goal) (e1 : p.nxt l c = some d) : p.walk l goal (n + 1) c = add c d :: p.walk l goal n (add c d) := by
  simp only [walk, hg, if_false, e1]
theorem walk_end {goal : Pt} {l : List Int} {n : Nat} : p.walk l goal (n + 1) goal = [] := by
  simp only [walk, if_true]

/-- The path behind its first cell is the path from there. -/
theorem path_next (hp : p.Ok) {goal : Pt} {l : List Int} (h : IsDist p goal l) {c : Pt} (hc : p.inP c) (h0 : 0 ≤ p.g l c) :
    (c = goal ∧ p.path l c goal = [c]) ∨ (c ≠ goal ∧ ∃ d w, d ∈ dirs ∧ p.st c d = some w ∧ p.g l (add c d) + w = p.g l c ∧ 0 ≤ p.g l (add c d) ∧ p.path l c goal = c :: p.path l (add c d) goal) := by
  have top := h.top hp hc
  by_cases hg : c = goal
  · left
    refine ⟨hg, ?_⟩
    unfold path
    rw [hg]
    congr 1
    exact walk_end (n := 39599)
  · right
    obtain ⟨d, w, e1, e2, e3, e4, e5⟩ := nxt_some h hc hg h0
    have hw := st_pos e3
    refine ⟨hg, d, w, e2, e3, e4, e5, ?_⟩
    unfold path
    congr 1
    rw [walk_fuel h 39600 (39600 + 1) c hc h0 (by omega) (by omega)]
    exact walk_one hg e1

theorem path_facts (hp : p.Ok) {goal : Pt} (hgf : p.free goal) {l : List Int} (h : IsDist p goal l) : ∀ (n : Nat) (c : Pt), p.inP c → 0 ≤ p.g l c → p.g l c ≤ n →
    (∀ i x, (p.path l c goal)[i]? = some x → p.free x ∧ 0 ≤ p.g l x ∧ (p.path l c goal).drop i = p.path l x goal) ∧ p.len2 c (p.walk l goal 39600 c) = some (p.g l c) ∧ (p.path l c goal).getLast? = some goal ∧ R p c goal (p.g l c) := by
  intro n
  induction n with
  | zero =>
    intro c hc h0 hn
    rcases path_next hp h hc h0 with ⟨rfl, e⟩ | ⟨_, d, w, _, e2, e3, e4, _⟩
    · refine ⟨?_, ?_, by rw [e]; rfl, ?_⟩
      · intro i x hx
        rw [e] at hx
        cases i with
        | zero => cases hx; exact ⟨hgf, h0, rfl⟩
        | succ i => cases hx
      · have : p.walk l c 39600 c = [] := by
          have := e; unfold path at this; injection this
        rw [this, h.zero]; rfl
      · rw [h.zero]; exact .nil
    · have := st_pos e2; omega
  | succ n ih =>
    intro c hc h0 hn
    rcases path_next hp h hc h0 with ⟨rfl, e⟩ | ⟨hg, d, w, e1, e2, e3, e4, e5⟩
    · refine ⟨?_, ?_, by rw [e]; rfl, ?_⟩
      · intro i x hx
        rw [e] at hx
        cases i with
        | zero => cases hx; exact ⟨hgf, h0, rfl⟩
        | succ i => cases hx
      · have : p.walk l c 39600 c = [] := by
          have := e; unfold path at this; injection this
        rw [this, h.zero]; rfl
      · rw [h.zero]; exact .nil
    · have hw := st_pos e2
      have hfr := st_free e2
      obtain ⟨k1, k2, k3, k4⟩ := ih (add c d) hfr.2.1 e4 (by omega)
      have hst : p.stp c (add c d) = some w := by rw [stp_add e1]; exact e2
      refine ⟨?_, ?_, ?_, ?_⟩
      · intro i x hx
        rw [e5] at hx ⊢
        cases i with
        | zero =>
          cases hx
          exact ⟨hfr.1, h0, by rw [List.drop_zero, e5]⟩
        | succ i =>
          rw [List.getElem?_cons_succ] at hx
          rw [List.drop_succ_cons]
          exact k1 i x hx
      · have : p.walk l goal 39600 c = p.path l (add c d) goal := by
          have := e5; unfold path at this ⊢; injection this
        rw [this]
        unfold path
        simp only [len2, hst, Option.bind_some, k2, Option.map_some]
        congr 1; omega
      · rw [e5, List.getLast?_cons, k3]; rfl
      · have := R.cons hst k4
        rw [show w + p.g l (add c d) = p.g l c by omega] at this
        exact this

theorem reach_free {a b : Pt} {n : Int} (h : R p a b n) (hb : p.free b) : p.free a := by
  cases h with
  | nil => exact hb
  | cons h1 _ => exact (stp_free h1).1

/-- The costs are the same both ways. -/
theorem dist_symm (hp : p.Ok) {a b : Pt} {l m : List Int} (ha : p.free a) (hb : p.free b) (h : IsDist p b l) (k : IsDist p a m) : (0 ≤ p.g l a ↔ 0 ≤ p.g m b) ∧ (0 ≤ p.g l a → p.g l a = p.g m b) := by
  have q1 : 0 ≤ p.g l a → 0 ≤ p.g m b ∧ p.g m b ≤ p.g l a := fun h0 =>
    k.least (path_facts hp hb h _ a ha.1 h0 (Int.self_le_toNat _)).2.2.2.symm rfl
  have q2 : 0 ≤ p.g m b → 0 ≤ p.g l a ∧ p.g l a ≤ p.g m b := fun h0 =>
    h.least (path_facts hp ha k _ b hb.1 h0 (Int.self_le_toNat _)).2.2.2.symm rfl
  refine ⟨⟨fun h0 => (q1 h0).1, fun h0 => (q2 h0).1⟩, fun h0 => ?_⟩
  have a1 := q1 h0
  have a2 := q2 a1.1
  omega

end Pl
end Go.AE
