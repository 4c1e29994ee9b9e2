/-
  Plain laws of the chapter Path, part 6: the reference's path; the sample that says the chapter is awake.
-/
import Derived.Test.YtmhbjgelllhnbaaQP5
namespace Go.AE
open Go.Proofs Go.RowKit
set_option maxRecDepth 100000

/-- What either way to the path answers. -/
inductive Pl.Ans (p : Pl) (s t : Pt) : Nat × Int × Int × List Pt × Unit → Prop
  | bad : p.vld = false → Ans p s t (0, 0, 1, [], ())
  | none : p.Ok → ¬ (p.free s ∧ p.free t) → Ans p s t (0, 0, 7, [], ())
  | far {l : List Int} : p.Ok → p.free s → p.free t → Pl.IsDist p t l → p.g l s < 0 → Ans p s t (0, 0, 14, [], ())
  | path {l : List Int} {n : Nat} {ob : List Pt} : p.Ok → p.free s → p.free t → Pl.IsDist p t l → 0 ≤ p.g l s → n ≤ ob.length → n ≤ 39601 → ob.take n = p.path l s t → Ans p s t (n, p.g l s, 0, ob, ())

theorem f25_ans {p : Pl} (hl : p.C.length ≤ 400) (s t : Pt) : ∃ r, f9 (p.W, p.H, p.C, s.X, s.Y, t.X, t.Y, ()) = some r ∧ Pl.Ans p s t r := by
  cases hv : p.vld with
  | false => exact ⟨_, f25_bad (by omega) hv _ _ _ _, .bad hv⟩
  | true =>
    have hp := Pl.vld_ok hv hl
    by_cases h : p.free s ∧ p.free t
    · obtain ⟨l, a1, a2⟩ := f25_spec hp h.2
      by_cases h0 : p.g l s < 0
      · exact ⟨_, f25_far hp a2 h.1 h.2 h0, .far hp h.1 h.2 a2 h0⟩
      · obtain ⟨n, ob, s1, s2, s3, s4⟩ := f9_spec hp a2 h.1 h.2 (by omega)
        exact ⟨_, s1, .path hp h.1 h.2 a2 (by omega) s2 s3 s4⟩
    · exact ⟨_, f25_none hp h, .none hp h⟩
/-! ### The sample -/

/-- A check that a list is the list of costs. -/
def Pl.chk (p : Pl) (goal : Pt) (l : List Int) : Bool :=
  decide (l.length = p.C.length) && decide (p.g l goal = 0) && (List.range p.C.length).all fun i =>
    decide (-1 ≤ p.g l (p.cellOf i)) &&
    (Pl.dirs.all fun d => match p.st (p.cellOf i) d with
      | some w => !decide (0 ≤ p.g l (p.cellOf i)) || (decide (0 ≤ p.g l (Pl.add (p.cellOf i) d)) && decide (p.g l (Pl.add (p.cellOf i) d) ≤ p.g l (p.cellOf i) + w))
      | none => true) &&
    (decide (p.cellOf i = goal) || !decide (0 ≤ p.g l (p.cellOf i)) || Pl.dirs.any fun d => match p.st (p.cellOf i) d with
      | some w => decide (0 ≤ p.g l (Pl.add (p.cellOf i) d)) && decide (p.g l (p.cellOf i) = p.g l (Pl.add (p.cellOf i) d) + w)
      | none => false)

theorem Pl.chk_dist {p : Pl} (hp : p.Ok) {goal : Pt} {l : List Int} (h : p.chk goal l = true) : Pl.IsDist p goal l := by
  unfold Pl.chk at h
  simp only [Bool.and_eq_true, decide_eq_true_eq, List.all_eq_true, List.mem_range] at h
  obtain ⟨⟨h1, h2⟩, h3⟩ := h
  have cell : ∀ c, p.inP c → p.ix c < p.C.length ∧ p.cellOf (p.ix c) = c := fun c hc =>
    ⟨Pl.ix_lt hp hc, Pl.ix_inj (Pl.cellOf_in hp (Pl.ix_lt hp hc)) hc (Pl.ix_cellOf hp)⟩
  refine ⟨h1, h2, ?_, ?_, ?_⟩
  · intro c hc
    obtain ⟨k1, k2⟩ := cell c hc
    have := (h3 _ k1).1.1
    rw [k2] at this
    exact this
  · intro c d w hd hs h0
    obtain ⟨k1, k2⟩ := cell c (Pl.st_free hs).1.1
    have := (h3 _ k1).1.2 d hd
    rw [k2, hs] at this
    simp only [h0, decide_true, Bool.not_true, Bool.false_or, Bool.and_eq_true, decide_eq_true_eq] at this
    exact this
  · intro c hc hg h0
    obtain ⟨k1, k2⟩ := cell c hc
    have := (h3 _ k1).2
    rw [k2] at this
    simp only [hg, h0, decide_true, decide_false, Bool.not_true, Bool.false_or, List.any_eq_true] at this
    obtain ⟨d, e1, e2⟩ := this
    cases hs : p.st c d with
    | none => rw [hs] at e2; cases e2
    | some w =>
      rw [hs] at e2
      simp only [Bool.and_eq_true, decide_eq_true_eq] at e2
      exact ⟨Pl.add c d, Pl.neg d, w, Pl.neg_dirs e1, Pl.st_symm hs, Pl.add_neg c d, e2.1, e2.2⟩

def smp : Pl := ⟨3, 2, [1, 1, 1, 1, 2, 1]⟩
theorem smp_ok : smp.Ok := Pl.vld_ok (by decide) (by decide)

end Go.AE
