/-
  Plain laws of the chapter Path, part 6: the reference's path; the sample that says the chapter is awake.
-/
import Derived.Test.YtilmnpkjlaamlaaP5
namespace Go.AE
open Go.Proofs Go.RowKit
set_option maxRecDepth 100000

theorem l46_6_spec {p : Pl} (hp : p.Ok) {goal c d' : Pt} {l : List Int} (h : Pl.IsDist p goal l) (hc : p.inP c) {v : Int} {n : Nat} {ob : List Pt} :
    ∀ (t k : Nat), 8 - k = t → k ≤ 8 → (Pl.dirs.drop k).find? (p.hit l c) = some d' →
      l46_6 (l.length, v, 8, n, (k : Int), p.W, p.H, p.C, goal.X, goal.Y, l, Pl.dirs, ob, c.X, c.Y, ()) = some (l.length, v, 8, n, p.W, p.H, p.C, goal.X, goal.Y, l, Pl.dirs, ob, (Pl.add c d').X, (Pl.add c d').Y, ()) := by
  intro t
  induction t with
  | zero =>
    intro k ht hk hf
    have : k = 8 := by omega
    subst this
    cases hf
  | succ t ih =>
    intro k ht hk hfd
    have hk8 : k < 8 := by omega
    obtain ⟨d, e1, e2, e3⟩ := dirs_get hk8
    rw [e3] at hfd
    obtain ⟨⟨x1, x2⟩, y1, y2⟩ := inP_near hp hc
    obtain ⟨⟨d1, d2⟩, ⟨d3, d4⟩, _⟩ := dirs_small e2
    have c1 : (k : Int) < 8 := by omega
    have c2 : (0 : Int) ≤ (k : Int) := by omega
    have c3 : (k : Int) < ((8 : Nat) : Int) := by omega
    have w0 : IntKind.i64.wrap ((k : Int) + 1) = ((k + 1 : Nat) : Int) := by rw [w64 (by omega) (by omega)]; rfl
    have w1 : IntKind.i64.wrap (c.X + d.X) = c.X + d.X := w64 (by omega) (by omega)
    have w2 : IntKind.i64.wrap (c.Y + d.Y) = c.Y + d.Y := w64 (by omega) (by omega)
    have hf : f56 (p.W, p.H, p.C, c.X, c.Y, c.X + d.X, c.Y + d.Y, ()) = some (num (p.st c d), ()) := by
      rw [← stp_add e2]; exact f56_spec hp c (Pl.add c d)
    unfold l46_6
    rw [iterO_eq]
    by_cases q : p.hit l c d = true
    · rw [List.find?_cons_of_pos q, Option.some.injEq] at hfd
      rw [← hfd]
      unfold Pl.hit at q
      cases hs : p.st c d with
      | none => rw [hs] at q; cases q
      | some w =>
        rw [hs] at hf q
        have q' : p.g l (Pl.add c d) + w = p.g l c := by simpa using q
        have hw := Pl.st_pos hs
        have hfr := Pl.st_free hs
        have hnum : num (some w) = w := rfl
        have n1 : w ≥ 0 := by omega
        have i1 := ix_w hp hc
        have i2 : IntKind.i64.wrap (IntKind.i64.wrap ((c.Y + d.Y) * p.W) + (c.X + d.X)) = ((p.ix (Pl.add c d) : Nat) : Int) := ix_w hp (c := Pl.add c d) hfr.2.1
        have g1 := g_get hp h.len hc
        have g2 := g_get hp h.len hfr.2.1
        obtain ⟨b1, b2⟩ := ix_in hp h.len hc
        obtain ⟨b3, b4⟩ := ix_in hp h.len hfr.2.1
        have t1 := h.top hp hc
        have t3 := h.rng _ hc
        have w3 : IntKind.i64.wrap (p.g l (Pl.add c d) + w) = p.g l c := by rw [q']; exact w64 (by omega) (by omega)
        have : r46_6 (l.length, v, 8, n, (k : Int), p.W, p.H, p.C, goal.X, goal.Y, l, Pl.dirs, ob, c.X, c.Y, ()) = some (.inr (l.length, v, 8, n, p.W, p.H, p.C, goal.X, goal.Y, l, Pl.dirs, ob, (Pl.add c d).X, (Pl.add c d).Y, ())) := by
          unfold r46_6
          simp only [c1, c2, c3, decide_true, Bool.and_self, cond_true, e1, Option.bind_some, w1, w2, hf, hnum, n1, i1, i2, b1, b2, b3, b4, Nat.zero_add, Int.toNat_natCast, g1, g2, w3, beq_self_eq_true]
          rfl
        rw [this]
    · rw [List.find?_cons_of_neg q] at hfd
      have ih' := ih (k + 1) (by omega) (by omega) hfd
      have hr : r46_6 (l.length, v, 8, n, (k : Int), p.W, p.H, p.C, goal.X, goal.Y, l, Pl.dirs, ob, c.X, c.Y, ()) = some (.inl (l.length, v, 8, n, ((k + 1 : Nat) : Int), p.W, p.H, p.C, goal.X, goal.Y, l, Pl.dirs, ob, c.X, c.Y, ())) := by
        unfold Pl.hit at q
        cases hs : p.st c d with
        | none =>
          rw [hs] at hf
          have hnn : num none = -1 := rfl
          have n1 : ¬ (-1 : Int) ≥ 0 := by omega
          unfold r46_6
          simp only [c1, c2, c3, decide_true, Bool.and_self, cond_true, Nat.zero_add, Int.toNat_natCast, e1, Option.bind_some, w1, w2, hf, hnn, n1, decide_false, cond_false, j46_46, w0]
        | some w =>
          rw [hs] at hf q
          have q' : ¬ p.g l (Pl.add c d) + w = p.g l c := by simpa using q
          have hw := Pl.st_pos hs
          have hfr := Pl.st_free hs
          have hnum : num (some w) = w := rfl
          have n1 : w ≥ 0 := by omega
          have i1 := ix_w hp hc
          have i2 : IntKind.i64.wrap (IntKind.i64.wrap ((c.Y + d.Y) * p.W) + (c.X + d.X)) = ((p.ix (Pl.add c d) : Nat) : Int) := ix_w hp (c := Pl.add c d) hfr.2.1
          have g1 := g_get hp h.len hc
          have g2 := g_get hp h.len hfr.2.1
          obtain ⟨b1, b2⟩ := ix_in hp h.len hc
          obtain ⟨b3, b4⟩ := ix_in hp h.len hfr.2.1
          have t2 := h.top hp hfr.2.1
          have t4 := h.rng _ hfr.2.1
          have w3 : IntKind.i64.wrap (p.g l (Pl.add c d) + w) = p.g l (Pl.add c d) + w := w64 (by omega) (by omega)
          have q2 : (p.g l (Pl.add c d) + w == p.g l c) = false := by simpa using q'
          unfold r46_6
          simp only [c1, c2, c3, decide_true, Bool.and_self, cond_true, cond_false, e1, Option.bind_some, w1, w2, hf, hnum, n1, i1, i2, b1, b2, b3, b4, Nat.zero_add, Int.toNat_natCast, g1, g2, w3, q2, j46_46, w0]
      rw [hr]
      exact ih'

theorem l46_0_spec {p : Pl} (hp : p.Ok) {goal : Pt} {l : List Int} (h : Pl.IsDist p goal l) {v : Int} : ∀ (t : Nat) (c : Pt) (n : Nat) (ob : List Pt), p.inP c → 0 ≤ p.g l c → p.g l c ≤ t → n ≤ ob.length → n + t ≤ 1000000 →
    ∃ n' ob', l46_0 (l.length, v, 8, n, p.W, p.H, p.C, goal.X, goal.Y, l, Pl.dirs, ob, c.X, c.Y, ()) = some (v, n', ob', ()) ∧ n' ≤ ob'.length ∧ n' ≤ n + t ∧ ob'.take n' = ob.take n ++ p.walk l goal t c := by
  intro t
  induction t with
  | zero =>
    intro c n ob hc h0 ht hob hn
    by_cases hg : c = goal
    · subst hg
      refine ⟨n, ob, ?_, hob, by omega, by simp [Pl.walk]⟩
      have : r46_0 (l.length, v, 8, n, p.W, p.H, p.C, c.X, c.Y, l, Pl.dirs, ob, c.X, c.Y, ()) = some (.inr (v, n, ob, ())) := by
        unfold r46_0
        simp only [beq_self_eq_true, cond_true, Bool.not_true, cond_false]
      unfold l46_0
      rw [iterO_eq, this]
    · obtain ⟨d, w, e1, e2, e3, e4, e5⟩ := Pl.nxt_some h hc hg h0
      have := Pl.st_pos e3
      omega
  | succ t ih =>
    intro c n ob hc h0 ht hob hn
    by_cases hg : c = goal
    · subst hg
      refine ⟨n, ob, ?_, hob, by omega, by simp [Pl.walk]⟩
      have : r46_0 (l.length, v, 8, n, p.W, p.H, p.C, c.X, c.Y, l, Pl.dirs, ob, c.X, c.Y, ()) = some (.inr (v, n, ob, ())) := by
        unfold r46_0
        simp only [beq_self_eq_true, cond_true, Bool.not_true, cond_false]
      unfold l46_0
      rw [iterO_eq, this]
    · obtain ⟨d, w, e1, e2, e3, e4, e5⟩ := Pl.nxt_some h hc hg h0
      have hw := Pl.st_pos e3
      have hfr := Pl.st_free e3
      have s1 : l46_6 (l.length, v, 8, n, 0, p.W, p.H, p.C, goal.X, goal.Y, l, Pl.dirs, ob, c.X, c.Y, ()) = _ := l46_6_spec hp h hc (v := v) (n := n) (ob := ob) 8 0 rfl (by omega) (d' := d) e1
      have hlen : (ob.take n ++ [Pl.add c d]).length = n + 1 := by rw [List.length_append, take_len0 hob]; rfl
      obtain ⟨n', ob', f1, f2, f3, f4⟩ := ih (Pl.add c d) (n + 1) (ob.take n ++ [Pl.add c d]) hfr.2.1 e5 (by omega) (by omega) (by omega)
      refine ⟨n', ob', ?_, f2, by omega, ?_⟩
      · have r1 : roomy (n + 1) 16 = true := roomy_ok (by omega)
        have : r46_0 (l.length, v, 8, n, p.W, p.H, p.C, goal.X, goal.Y, l, Pl.dirs, ob, c.X, c.Y, ()) = some (.inl (l.length, v, 8, n + 1, p.W, p.H, p.C, goal.X, goal.Y, l, Pl.dirs, ob.take n ++ [Pl.add c d], (Pl.add c d).X, (Pl.add c d).Y, ())) := by
          unfold r46_0
          simp only [pt_eqb, hg, decide_false, Bool.not_false, cond_true, s1, Option.bind_some, Nat.zero_add, hob, decide_true, r1, List.drop_zero]
        unfold l46_0
        rw [iterO_eq, this]
        exact f1
      · rw [f4, List.take_of_length_le (by omega)]
        simp only [Pl.walk, hg, if_false, e1, List.append_assoc, List.singleton_append]

theorem f46_spec {p : Pl} (hp : p.Ok) {start goal : Pt} {l : List Int} (h : Pl.IsDist p goal l) (hs : p.free start) (hg : p.free goal) (h0 : 0 ≤ p.g l start) :
    ∃ n ob, f46 (p.W, p.H, p.C, start.X, start.Y, goal.X, goal.Y, ()) = some (n, p.g l start, 0, ob, ()) ∧ n ≤ ob.length ∧ n ≤ 39601 ∧ ob.take n = p.path l start goal := by
  obtain ⟨l', a1, a2⟩ := f45_spec hp hg
  have := Pl.IsDist.unique hp a2 h
  subst this
  have hfew := hp.few
  have top := h.top hp hs.1
  obtain ⟨n, ob, s1, s2, s3, s4⟩ := l46_0_spec hp h (v := p.g l' start) 39600 start 1 [start] hs.1 h0 (by omega) (by simp) (by omega)
  refine ⟨n, ob, ?_, s2, by omega, by rw [s4]; rfl⟩
  have i1 := ix_w hp hs.1
  have g1 := g_get hp h.len hs.1
  obtain ⟨b1, b2⟩ := ix_in hp h.len hs.1
  have n1 : ¬ p.g l' start < 0 := by omega
  have hfd : f55 = (8, Pl.dirs) := rfl
  have s1' : l46_0 (l'.length, p.g l' start, 8, 1, p.W, p.H, p.C, goal.X, goal.Y, l', Pl.dirs, [⟨start.X, start.Y⟩], start.X, start.Y, ()) = some (p.g l' start, n, ob, ()) := s1
  unfold f46
  simp only [f11_spec (p := p) (by omega), hp.vld, Option.bind_some, Bool.not_true, cond_false, f54_spec hp, hs, hg, decide_true, a1, i1, b1, b2, Bool.and_self, cond_true, Nat.zero_add, Int.toNat_natCast, g1, n1, decide_false, hfd, s1']
theorem f46_far {p : Pl} (hp : p.Ok) {start goal : Pt} {l : List Int} (h : Pl.IsDist p goal l) (hs : p.free start) (hg : p.free goal) (h0 : p.g l start < 0) :
    f46 (p.W, p.H, p.C, start.X, start.Y, goal.X, goal.Y, ()) = some (0, 0, 14, [], ()) := by
  obtain ⟨l', a1, a2⟩ := f45_spec hp hg
  have := Pl.IsDist.unique hp a2 h
  subst this
  have hfew := hp.few
  have i1 := ix_w hp hs.1
  have g1 := g_get hp h.len hs.1
  obtain ⟨b1, b2⟩ := ix_in hp h.len hs.1
  unfold f46
  simp only [f11_spec (p := p) (by omega), hp.vld, Option.bind_some, Bool.not_true, cond_false, f54_spec hp, hs, hg, decide_true, a1, i1, b1, b2, Bool.and_self, cond_true, Nat.zero_add, Int.toNat_natCast, g1, h0]
theorem f46_none {p : Pl} (hp : p.Ok) {start goal : Pt} (h : ¬ (p.free start ∧ p.free goal)) :
    f46 (p.W, p.H, p.C, start.X, start.Y, goal.X, goal.Y, ()) = some (0, 0, 7, [], ()) := by
  have hfew := hp.few
  unfold f46
  simp only [f11_spec (p := p) (by omega), hp.vld, Option.bind_some, Bool.not_true, cond_false, f54_spec hp]
  by_cases hs : p.free start
  · have hg : ¬ p.free goal := fun hg => h ⟨hs, hg⟩
    simp only [hs, hg, decide_true, decide_false, Bool.not_true, Bool.not_false, cond_true, cond_false]
  · simp only [hs, decide_false, Bool.not_false, cond_true]
theorem f46_bad {p : Pl} (hl : p.C.length ≤ 1000000) (hv : p.vld = false) (a b x y : Int) : f46 (p.W, p.H, p.C, a, b, x, y, ()) = some (0, 0, 1, [], ()) := by
  unfold f46
  simp only [f11_spec hl, hv, Option.bind_some, Bool.not_false, cond_true]

/-- What either way to the path answers. -/
inductive Pl.Ans (p : Pl) (s t : Pt) : Nat × Int × Int × List Pt × Unit → Prop
  | bad : p.vld = false → Ans p s t (0, 0, 1, [], ())
  | none : p.Ok → ¬ (p.free s ∧ p.free t) → Ans p s t (0, 0, 7, [], ())
  | far {l : List Int} : p.Ok → p.free s → p.free t → Pl.IsDist p t l → p.g l s < 0 → Ans p s t (0, 0, 14, [], ())
  | path {l : List Int} {n : Nat} {ob : List Pt} : p.Ok → p.free s → p.free t → Pl.IsDist p t l → 0 ≤ p.g l s → n ≤ ob.length → n ≤ 39601 → ob.take n = p.path l s t → Ans p s t (n, p.g l s, 0, ob, ())

theorem f25_ans {p : Pl} (hl : p.C.length ≤ 400) (s t : Pt) : ∃ r, f25 (p.W, p.H, p.C, s.X, s.Y, t.X, t.Y, ()) = some r ∧ Pl.Ans p s t r := by
  cases hv : p.vld with
  | false => exact ⟨_, f25_bad (by omega) hv _ _ _ _, .bad hv⟩
  | true =>
    have hp := Pl.vld_ok hv hl
    by_cases h : p.free s ∧ p.free t
    · obtain ⟨l, a1, a2⟩ := f41_spec hp h.2
      by_cases h0 : p.g l s < 0
      · exact ⟨_, f25_far hp a2 h.1 h.2 h0, .far hp h.1 h.2 a2 h0⟩
      · obtain ⟨n, ob, s1, s2, s3, s4⟩ := f25_spec hp a2 h.1 h.2 (by omega)
        exact ⟨_, s1, .path hp h.1 h.2 a2 (by omega) s2 s3 s4⟩
    · exact ⟨_, f25_none hp h, .none hp h⟩
theorem f46_ans {p : Pl} (hl : p.C.length ≤ 400) (s t : Pt) : ∃ r, f46 (p.W, p.H, p.C, s.X, s.Y, t.X, t.Y, ()) = some r ∧ Pl.Ans p s t r := by
  cases hv : p.vld with
  | false => exact ⟨_, f46_bad (by omega) hv _ _ _ _, .bad hv⟩
  | true =>
    have hp := Pl.vld_ok hv hl
    by_cases h : p.free s ∧ p.free t
    · obtain ⟨l, a1, a2⟩ := f41_spec hp h.2
      by_cases h0 : p.g l s < 0
      · exact ⟨_, f46_far hp a2 h.1 h.2 h0, .far hp h.1 h.2 a2 h0⟩
      · obtain ⟨n, ob, s1, s2, s3, s4⟩ := f46_spec hp a2 h.1 h.2 (by omega)
        exact ⟨_, s1, .path hp h.1 h.2 a2 (by omega) s2 s3 s4⟩
    · exact ⟨_, f46_none hp h, .none hp h⟩

/-! ### The sample -/

/-- A check that a list is the list of costs. -/
def Pl.chk (p : Pl) (goal : Pt) (l : List Int) : Bool :=
  decide (l.length = p.C.length) && decide (p.g l goal = 0) && (List.range p.C.length).all fun i =>
    decide (-1 ≤ p.g l (p.cellOf i)) &&
    (Pl.dirs.all fun d => match p.st (p.cellOf i) d with
      | some w => !decide (0 ≤ p.g l (p.cellOf i)) || (decide (0 ≤ p.g l (Pl.add (p.cellOf i) d)) && decide (p.g l (Pl.add (p.cellOf i) d) ≤ p.g l (p.cellOf i) + w))
      | none => true) &&
    (decide (p.cellOf i = goal) || !decide (0 ≤ p.g l (p.cellOf i)) || Pl.dirs.any fun d => match p.st (p.cellOf i) d with
      | some w => decide (0 ≤ p.g l (Pl.add (p.cellOf i) d)) && decide (p.g l (p.cellOf i) = p.g l (Pl.add (p.cellOf i) d) + w)
      | none => false)

theorem Pl.chk_dist {p : Pl} (hp : p.Ok) {goal : Pt} {l : List Int} (h : p.chk goal l = true) : Pl.IsDist p goal l := by
  unfold Pl.chk at h
  simp only [Bool.and_eq_true, decide_eq_true_eq, List.all_eq_true, List.mem_range] at h
  obtain ⟨⟨h1, h2⟩, h3⟩ := h
  have cell : ∀ c, p.inP c → p.ix c < p.C.length ∧ p.cellOf (p.ix c) = c := fun c hc =>
    ⟨Pl.ix_lt hp hc, Pl.ix_inj (Pl.cellOf_in hp (Pl.ix_lt hp hc)) hc (Pl.ix_cellOf hp)⟩
  refine ⟨h1, h2, ?_, ?_, ?_⟩
  · intro c hc
    obtain ⟨k1, k2⟩ := cell c hc
    have := (h3 _ k1).1.1
    rw [k2] at this
    exact this
  · intro c d w hd hs h0
    obtain ⟨k1, k2⟩ := cell c (Pl.st_free hs).1.1
    have := (h3 _ k1).1.2 d hd
    rw [k2, hs] at this
    simp only [h0, decide_true, Bool.not_true, Bool.false_or, Bool.and_eq_true, decide_eq_true_eq] at this
    exact this
  · intro c hc hg h0
    obtain ⟨k1, k2⟩ := cell c hc
    have := (h3 _ k1).2
    rw [k2] at this
    simp only [hg, h0, decide_true, decide_false, Bool.not_true, Bool.false_or, List.any_eq_true] at this
    obtain ⟨d, e1, e2⟩ := this
    cases hs : p.st c d with
    | none => rw [hs] at e2; cases e2
    | some w =>
      rw [hs] at e2
      simp only [Bool.and_eq_true, decide_eq_true_eq] at e2
      exact ⟨Pl.add c d, Pl.neg d, w, Pl.neg_dirs e1, Pl.st_symm hs, Pl.add_neg c d, e2.1, e2.2⟩

def smp : Pl := ⟨3, 2, [1, 1, 1, 1, 2, 1]⟩
theorem smp_ok : smp.Ok := Pl.vld_ok (by decide) (by decide)

end Go.AE
