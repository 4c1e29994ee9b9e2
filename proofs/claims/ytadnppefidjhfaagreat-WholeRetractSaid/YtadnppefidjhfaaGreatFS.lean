/-
  Shortest paths over the cells of a plan, in plain Lean: what a list of costs is; that it is the only one; walks along it.
-/
import Derived.Test.YtadnppefidjhfaaGreatSC
namespace Go.AE

structure Pl where
  W : Int
  H : Int
  C : List Int

namespace Pl

/-- A plan's form. -/
def vld (p : Pl) : Bool := decide (1 ≤ p.W) && (decide (p.W ≤ 64) && (decide (1 ≤ p.H) && (decide (p.H ≤ 64) && (decide ((p.C.length : Int) = p.W * p.H) && p.C.all (fun x => decide (x ≤ 2))))))

structure Ok (p : Pl) : Prop where
  w1 : 1 ≤ p.W
  w2 : p.W ≤ 64
  h1 : 1 ≤ p.H
  h2 : p.H ≤ 64
  len : (p.C.length : Int) = p.W * p.H
  few : p.C.length ≤ 4096
  cells : ∀ x ∈ p.C, x ≤ 2

theorem Ok.vld {p : Pl} (h : p.Ok) : p.vld = true := by
  unfold Pl.vld
  simp only [h.w1, h.w2, h.h1, h.h2, h.len, decide_true, Bool.true_and]
  exact List.all_eq_true.2 fun x hx => by simpa using h.cells x hx
theorem vld_ok {p : Pl} (h : p.vld = true) (hf : p.C.length ≤ 4096) : p.Ok := by
  unfold Pl.vld at h
  simp only [Bool.and_eq_true, decide_eq_true_eq, List.all_eq_true] at h
  obtain ⟨h1, h2, h3, h4, h5, h6⟩ := h
  exact ⟨h1, h2, h3, h4, h5, hf, h6⟩

def inP (p : Pl) (c : Pt) : Prop := 0 ≤ c.X ∧ c.X < p.W ∧ 0 ≤ c.Y ∧ c.Y < p.H
instance (p : Pl) (c : Pt) : Decidable (p.inP c) := by unfold inP; infer_instance
def ix (p : Pl) (c : Pt) : Nat := (c.Y * p.W + c.X).toNat
def free (p : Pl) (c : Pt) : Prop := p.inP c ∧ p.C.getD (p.ix c) 0 = 1
instance (p : Pl) (c : Pt) : Decidable (p.free c) := by unfold free; infer_instance

variable {p : Pl} {c d : Pt} {i : Nat}

theorem ix_val (h : p.inP c) : ((p.ix c : Nat) : Int) = c.Y * p.W + c.X := by
  unfold ix inP at *
  have : 0 ≤ c.Y * p.W := Int.mul_nonneg h.2.2.1 (by omega)
  omega

theorem ix_lt (hp : p.Ok) (h : p.inP c) : p.ix c < p.C.length := by
  have h1 := ix_val h
  have h2 : (c.Y + 1) * p.W ≤ p.H * p.W := Int.mul_le_mul_of_nonneg_right (by unfold inP at h; omega) (by have := hp.w1; omega)
  have h3 := hp.len
  rw [Int.mul_comm p.H] at h2
  rw [Int.add_mul] at h2
  unfold inP at h
  omega

theorem ix_inj (h1 : p.inP c) (h2 : p.inP d) (h : p.ix c = p.ix d) : c = d := by
  have e1 := ix_val h1
  have e2 := ix_val h2
  rw [h, e2] at e1
  unfold inP at h1 h2
  have hW : 0 < p.W := by omega
  have y : c.Y = d.Y := by
    have a1 : (c.Y * p.W + c.X) / p.W = c.Y := by rw [Int.add_comm, Int.add_mul_ediv_right _ _ (by omega), Int.ediv_eq_zero_of_lt h1.1 h1.2.1]; omega
    have a2 : (d.Y * p.W + d.X) / p.W = d.Y := by rw [Int.add_comm, Int.add_mul_ediv_right _ _ (by omega), Int.ediv_eq_zero_of_lt h2.1 h2.2.1]; omega
    rw [← e1] at a1
    omega
  have x : c.X = d.X := by rw [y] at e1; omega
  cases c; cases d; simp_all

/-- The cell of an index. -/
def cellOf (p : Pl) (i : Nat) : Pt := ⟨(i : Int) % p.W, (i : Int) / p.W⟩
theorem cellOf_in (hp : p.Ok) (h : i < p.C.length) : p.inP (p.cellOf i) := by
  have hW := hp.w1
  have := hp.len
  unfold inP cellOf
  refine ⟨Int.emod_nonneg _ (by omega), Int.emod_lt_of_pos _ (by omega), Int.ediv_nonneg (by omega) (by omega), ?_⟩
  apply Int.ediv_lt_of_lt_mul (by omega)
  rw [Int.mul_comm]; omega
theorem ix_cellOf (hp : p.Ok) : p.ix (p.cellOf i) = i := by
  have hW := hp.w1
  unfold ix cellOf
  have : (i : Int) / p.W * p.W + (i : Int) % p.W = i := by rw [Int.mul_comm]; exact Int.mul_ediv_add_emod _ _
  simp only [this]
  omega

/-! ### Steps -/

def dirs : List Pt := [⟨1, 0⟩, ⟨1, 1⟩, ⟨0, 1⟩, ⟨-1, 1⟩, ⟨-1, 0⟩, ⟨-1, -1⟩, ⟨0, -1⟩, ⟨1, -1⟩]
def add (c d : Pt) : Pt := ⟨c.X + d.X, c.Y + d.Y⟩
def neg (d : Pt) : Pt := ⟨-d.X, -d.Y⟩

/-- The cost of a step. -/
def st (p : Pl) (c d : Pt) : Option Int :=
  if p.free c ∧ p.free (add c d) then
    if d.X = 0 ∨ d.Y = 0 then some 70
    else if p.free ⟨c.X + d.X, c.Y⟩ ∧ p.free ⟨c.X, c.Y + d.Y⟩ then some 99 else none
  else none

theorem st_pos {w : Int} (h : p.st c d = some w) : 70 ≤ w ∧ w ≤ 99 := by
  unfold st at h
  split at h
  · split at h
    · cases h; omega
    · split at h
      · cases h; omega
      · cases h
  · cases h
theorem st_free {w : Int} (h : p.st c d = some w) : p.free c ∧ p.free (add c d) := by
  unfold st at h
  split at h
  · assumption
  · cases h
theorem add_neg (c d : Pt) : add (add c d) (neg d) = c := by
  cases c; cases d; simp only [add, neg, Pt.mk.injEq]; omega
theorem neg_dirs (h : d ∈ dirs) : neg d ∈ dirs := by
  simp only [dirs, List.mem_cons, List.not_mem_nil, or_false] at h
  rcases h with rfl | rfl | rfl | rfl | rfl | rfl | rfl | rfl <;> decide
theorem st_symm {w : Int} (h : p.st c d = some w) : p.st (add c d) (neg d) = some w := by
  have hf := st_free h
  unfold st at *
  rw [if_pos hf] at h
  rw [if_pos ⟨hf.2, by rw [add_neg]; exact hf.1⟩]
  have e1 : ((add c d).X + (neg d).X) = c.X := by simp only [add, neg]; omega
  have e2 : ((add c d).Y + (neg d).Y) = c.Y := by simp only [add, neg]; omega
  rw [e1, e2]
  by_cases h0 : d.X = 0 ∨ d.Y = 0
  · rw [if_pos h0] at h
    rw [if_pos (by simp only [neg]; omega)]; exact h
  · rw [if_neg h0] at h
    rw [if_neg (by simp only [neg]; omega)]
    split at h
    · rename_i hh
      rw [if_pos ⟨hh.2, hh.1⟩]; exact h
    · cases h
theorem dirs_ne (h : d ∈ dirs) : add c d ≠ c := by
  intro he
  simp only [dirs, List.mem_cons, List.not_mem_nil, or_false] at h
  have := congrArg Pt.X he
  have := congrArg Pt.Y he
  simp only [add] at *
  rcases h with rfl | rfl | rfl | rfl | rfl | rfl | rfl | rfl <;> simp only at * <;> omega

/-! ### Costs -/

/-- What a list says of a cell. -/
def g (p : Pl) (l : List Int) (c : Pt) : Int := l.getD (p.ix c) (-1)

theorem g_set (hp : p.Ok) {l : List Int} (hl : l.length = p.C.length) (hc : p.inP c) (hd : p.inP d) (v : Int) : p.g (l.set (p.ix c) v) d = if d = c then v else p.g l d := by
  have h1 := ix_lt hp hc
  unfold g
  simp only [List.getD_eq_getElem?_getD]
  split
  · rename_i h
    subst h
    rw [List.getElem?_set_self (by omega)]; rfl
  · rename_i h
    rw [List.getElem?_set_ne (fun e => h (ix_inj hd hc e.symm))]

structure IsDist (p : Pl) (goal : Pt) (l : List Int) : Prop where
  len : l.length = p.C.length
  zero : p.g l goal = 0
  rng : ∀ c, p.inP c → -1 ≤ p.g l c
  edge : ∀ c d w, d ∈ dirs → p.st c d = some w → 0 ≤ p.g l c → 0 ≤ p.g l (add c d) ∧ p.g l (add c d) ≤ p.g l c + w
  pred : ∀ c, p.inP c → c ≠ goal → 0 ≤ p.g l c → ∃ u d w, d ∈ dirs ∧ p.st u d = some w ∧ add u d = c ∧ 0 ≤ p.g l u ∧ p.g l c = p.g l u + w

theorem IsDist.le {goal : Pt} {l m : List Int} (h : IsDist p goal l) (k : IsDist p goal m) : ∀ (n : Nat) (c : Pt), p.inP c → p.g l c = (n : Int) → 0 ≤ p.g m c ∧ p.g m c ≤ n := by
  intro n
  induction n using Nat.strongRecOn with
  | _ n ih =>
    intro c hc hn
    by_cases hg : c = goal
    · subst hg
      rw [k.zero]; omega
    · obtain ⟨u, d, w, h1, h2, h3, h4, h5⟩ := h.pred c hc hg (by omega)
      have hw := st_pos h2
      obtain ⟨q1, q2⟩ := ih (p.g l u).toNat (by omega) u (st_free h2).1.1 (by omega)
      have := k.edge u d w h1 h2 q1
      rw [h3] at this
      omega

/-- There is but one. -/
theorem IsDist.unique (hp : p.Ok) {goal : Pt} {l m : List Int} (h : IsDist p goal l) (k : IsDist p goal m) : l = m := by
  apply List.ext_getElem (h.len.trans k.len.symm)
  intro i h1 h2
  have hi : i < p.C.length := by rw [← h.len]; exact h1
  have hc := cellOf_in hp hi
  have e1 : p.g l (p.cellOf i) = l[i] := by unfold g; rw [ix_cellOf hp, List.getD_eq_getElem?_getD, List.getElem?_eq_getElem h1]; rfl
  have e2 : p.g m (p.cellOf i) = m[i] := by unfold g; rw [ix_cellOf hp, List.getD_eq_getElem?_getD, List.getElem?_eq_getElem h2]; rfl
  rw [← e1, ← e2]
  have r1 := h.rng _ hc
  have r2 := k.rng _ hc
  by_cases q : 0 ≤ p.g l (p.cellOf i)
  · obtain ⟨a1, a2⟩ := h.le k (p.g l (p.cellOf i)).toNat _ hc (by omega)
    obtain ⟨b1, b2⟩ := k.le h (p.g m (p.cellOf i)).toNat _ hc (by omega)
    omega
  · by_cases q2 : 0 ≤ p.g m (p.cellOf i)
    · obtain ⟨b1, b2⟩ := k.le h (p.g m (p.cellOf i)).toNat _ hc (by omega)
      omega
    · omega

theorem IsDist.next {goal : Pt} {l : List Int} (h : IsDist p goal l) {c : Pt} (hc : p.inP c) (hg : c ≠ goal) (h0 : 0 ≤ p.g l c) : ∃ d w, d ∈ dirs ∧ p.st c d = some w ∧ 0 ≤ p.g l (add c d) ∧ p.g l c = p.g l (add c d) + w := by
  obtain ⟨u, d, w, h1, h2, h3, h4, h5⟩ := h.pred c hc hg h0
  subst h3
  exact ⟨neg d, w, neg_dirs h1, st_symm h2, by rw [add_neg]; exact h4, by rw [add_neg]; exact h5⟩

/-- What has a cost is free. -/
theorem IsDist.free {goal : Pt} {l : List Int} (h : IsDist p goal l) (hgf : p.free goal) {c : Pt} (hc : p.inP c) (h0 : 0 ≤ p.g l c) : p.free c := by
  by_cases hg : c = goal
  · rw [hg]; exact hgf
  · obtain ⟨d, w, _, h2, _⟩ := h.next hc hg h0
    exact (st_free h2).1

/-! ### The walk along falling costs -/

/-- The first step along which the costs fall by its cost. -/
def nxt (p : Pl) (l : List Int) (c : Pt) : Option Pt := dirs.find? fun d => match p.st c d with
  | some w => decide (p.g l (add c d) + w = p.g l c)
  | none => false

/-- The cells of the walk behind c. -/
def walk (p : Pl) (l : List Int) (goal : Pt) : Nat → Pt → List Pt
  | 0, _ => []
  | n + 1, c => if c = goal then [] else match p.nxt l c with
    | some d => add c d :: walk p l goal n (add c d)
    | none => []

theorem nxt_some {goal : Pt} {l : List Int} (h : IsDist p goal l) {c : Pt} (hc : p.inP c) (hg : c ≠ goal) (h0 : 0 ≤ p.g l c) :
    ∃ d w, p.nxt l c = some d ∧ d ∈ dirs ∧ p.st c d = some w ∧ p.g l (add c d) + w = p.g l c ∧ 0 ≤ p.g l (add c d) := by
  obtain ⟨d0, w0, a1, a2, a3, a4⟩ := h.next hc hg h0
  cases hn : p.nxt l c with
  | none =>
    have := List.find?_eq_none.1 hn d0 a1
    simp only [a2] at this
    simp at this
    omega
  | some d =>
    have h1 := List.find?_some hn
    have h2 := List.mem_of_find?_eq_some hn
    split at h1
    · rename_i w hw
      refine ⟨d, w, rfl, h2, hw, by simpa using h1, ?_⟩
      exact (h.edge c d w h2 hw h0).1
    · cases h1

end Pl
end Go.AE
