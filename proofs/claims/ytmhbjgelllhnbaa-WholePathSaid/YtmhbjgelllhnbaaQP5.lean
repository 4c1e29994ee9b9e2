/-
  Plain laws of the chapter Path, part 5: lists that are equal; both ways to the path take the same walk.
-/
import Derived.Test.YtmhbjgelllhnbaaQP4
namespace Go.AE
open Go.Proofs Go.RowKit
set_option maxRecDepth 100000

/-! ### Equal lists -/

theorem drop_cons {α : Type} {l : List α} {i : Nat} (h : i < l.length) : l.drop i = l[i] :: l.drop (i + 1) := List.drop_eq_getElem_cons h

theorem pt_eqb (a b : Pt) : (bif a.X == b.X then bif a.Y == b.Y then true else false else false) = decide (a = b) := by
  cases a; cases b
  simp only [Pt.mk.injEq]
  rename_i a1 a2 b1 b2
  by_cases h : a1 = b1 <;> by_cases h2 : a2 = b2 <;> simp [h, h2]

theorem l20_spec {a b : List Pt} (hl : a.length = b.length) (hn : a.length ≤ 1000000) : ∀ (t i : Nat), a.length - i = t → i ≤ a.length →
    l20_0 (a, b, (i : Int), ()) = some (if a.drop i = b.drop i then .inr () else .inl (false, ())) := by
  intro t
  induction t with
  | zero =>
    intro i ht hi
    have : i = a.length := by omega
    subst this
    unfold l20_0
    rw [iterO_eq]
    have c1 : ¬ ((a.length : Nat) : Int) < (a.length : Int) := by omega
    have : r20_0 (a, b, (a.length : Int), ()) = some (.inr (.inr ())) := by
      unfold r20_0
      simp only [c1, decide_false, cond_false]
    rw [this, List.drop_length, hl, List.drop_length]
    rfl
  | succ t ih =>
    intro i ht hi
    have h1 : i < a.length := by omega
    have h2 : i < b.length := by omega
    have c1 : (i : Int) < (a.length : Int) := by omega
    have w : IntKind.i64.wrap ((i : Int) + 1) = ((i + 1 : Nat) : Int) := by rw [w64 (by omega) (by omega)]; rfl
    unfold l20_0
    rw [iterO_eq, drop_cons h1, drop_cons h2]
    by_cases q : a[i] = b[i]
    · have : r20_0 (a, b, (i : Int), ()) = some (.inl (a, b, ((i + 1 : Nat) : Int), ())) := by
        unfold r20_0
        simp only [c1, decide_true, cond_true, idxO_nat, List.getElem?_eq_getElem h1, List.getElem?_eq_getElem h2, Option.bind_some, pt_eqb, q, Bool.not_true, cond_false, w]
      rw [this]
      have := ih (i + 1) (by omega) (by omega)
      unfold l20_0 at this
      simp only [this, q, List.cons.injEq, true_and]
    · have : r20_0 (a, b, (i : Int), ()) = some (.inr (.inl (false, ()))) := by
        unfold r20_0
        simp only [c1, decide_true, cond_true, idxO_nat, List.getElem?_eq_getElem h1, List.getElem?_eq_getElem h2, Option.bind_some, pt_eqb, q, decide_false, Bool.not_false]
      rw [this]
      simp only [List.cons.injEq, q, false_and, if_false]

theorem f20_spec {a b : List Pt} (hn : a.length ≤ 1000000) : f20 (a, b, ()) = some (decide (a = b), ()) := by
  unfold f20
  by_cases hl : a.length = b.length
  · have h := l20_spec hl hn _ 0 rfl (by omega)
    have h' : l20_0 (a, b, 0, ()) = some (if a.drop 0 = b.drop 0 then .inr () else .inl (false, ())) := h
    simp only [List.drop_zero] at h'
    have e : ((a.length : Int) != (b.length : Int)) = false := by simp [hl]
    simp only [e, cond_false, h', Option.bind_some]
    by_cases q : a = b <;> simp [q]
  · have e : ((a.length : Int) != (b.length : Int)) = true := by simp; omega
    have q : ¬ a = b := fun h => hl (by rw [h])
    simp [e, q]

theorem f18_self (a b : Int) (l : List Int) : f18 a b l a b l = true := by simp [f18]
/-! ### A bound for costs -/

theorem countP_lt : ∀ (l : List Int) {m n : Int}, m ∈ l → 0 ≤ m → m < n → l.countP (fun x => decide (0 ≤ x ∧ x < m)) + 1 ≤ l.countP (fun x => decide (0 ≤ x ∧ x < n)) := by
  intro l
  induction l with
  | nil => intro m n h; cases h
  | cons x l ih =>
    intro m n h h0 hmn
    rw [List.countP_cons, List.countP_cons]
    rcases List.mem_cons.1 h with rfl | h
    · have e1 : decide (0 ≤ m ∧ m < m) = false := by simp
      have e2 : decide (0 ≤ m ∧ m < n) = true := by simp; omega
      rw [e1, e2]
      have : l.countP (fun x => decide (0 ≤ x ∧ x < m)) ≤ l.countP (fun x => decide (0 ≤ x ∧ x < n)) :=
        List.countP_mono_left (fun x _ hx => by simp only [decide_eq_true_eq] at hx ⊢; omega)
      simp only [Bool.false_eq_true, if_false, if_true]
      omega
    · have := ih h h0 hmn
      by_cases q : (0 ≤ x ∧ x < m)
      · have q2 : (0 ≤ x ∧ x < n) := by omega
        simp only [q, q2, and_self, decide_true, if_true]; omega
      · simp only [q, decide_false, Bool.false_eq_true, if_false]; split <;> omega

theorem Pl.IsDist.top {p : Pl} (hp : p.Ok) {goal : Pt} {l : List Int} (h : Pl.IsDist p goal l) {c : Pt} (hc : p.inP c) : p.g l c ≤ 39600 := by
  have key : ∀ (n : Nat) (c : Pt), p.inP c → p.g l c = (n : Int) → n ≤ 99 * l.countP (fun x => decide (0 ≤ x ∧ x < (n : Int))) := by
    intro n
    induction n using Nat.strongRecOn with
    | _ n ih =>
      intro c hc hn
      by_cases hg : c = goal
      · subst hg
        have := h.zero
        omega
      · obtain ⟨d, w, h1, h2, h3, h4⟩ := h.next hc hg (by omega)
        have hw := Pl.st_pos h2
        have hf := (Pl.st_free h2).2.1
        have k := ih (p.g l (Pl.add c d)).toNat (by omega) _ hf (by omega)
        have hm : p.g l (Pl.add c d) ∈ l := List.mem_of_getElem? (g_get hp h.len hf)
        have := countP_lt l (n := (n : Int)) hm h3 (by omega)
        have e : (((p.g l (Pl.add c d)).toNat : Nat) : Int) = p.g l (Pl.add c d) := by omega
        rw [e] at k
        omega
  by_cases q : 0 ≤ p.g l c
  · have k := key (p.g l c).toNat c hc (by omega)
    have h1 := List.countP_le_length (p := fun x : Int => decide (0 ≤ x ∧ x < (((p.g l c).toNat : Nat) : Int))) (l := l)
    have h2 := hp.few
    rw [h.len] at h1
    omega
  · omega

/-! ### The walk -/

/-- What the walk looks for. -/
def Pl.hit (p : Pl) (l : List Int) (c d : Pt) : Bool := match p.st c d with
  | some w => decide (p.g l (Pl.add c d) + w = p.g l c)
  | none => false
theorem nxt_hit {p : Pl} {l : List Int} {c : Pt} : p.nxt l c = Pl.dirs.find? (p.hit l c) := rfl

theorem l9_9_spec {p : Pl} (hp : p.Ok) {goal c d' : Pt} {l : List Int} (h : Pl.IsDist p goal l) (hc : p.inP c) {v : Int} {n : Nat} {ob : List Pt} (hob : n ≤ ob.length) (hn : n ≤ 1000000) :
    ∀ (t k : Nat), 8 - k = t → k ≤ 8 → (Pl.dirs.drop k).find? (p.hit l c) = some d' →
      l9_9 (l.length, v, n, (k : Int), p.W, p.H, p.C, goal.X, goal.Y, l, ob, c.X, c.Y, ()) = some (l.length, v, n + 1, p.W, p.H, p.C, goal.X, goal.Y, l, ob.take n ++ [Pl.add c d'], c.X, c.Y, ()) := by
  intro t
  induction t with
  | zero =>
    intro k ht hk hf
    have : k = 8 := by omega
    subst this
    cases hf
  | succ t ih =>
    intro k ht hk hfd
    have hk8 : k < 8 := by omega
    obtain ⟨d, e1, e2, e3⟩ := dirs_get hk8
    rw [e3] at hfd
    obtain ⟨⟨x1, x2⟩, y1, y2⟩ := inP_near hp hc
    obtain ⟨⟨d1, d2⟩, ⟨d3, d4⟩, _⟩ := dirs_small e2
    have c1 : (k : Int) < 8 := by omega
    have c2 : (0 : Int) ≤ (k : Int) := by omega
    have w0 : IntKind.i64.wrap ((k : Int) + 1) = ((k + 1 : Nat) : Int) := by rw [w64 (by omega) (by omega)]; rfl
    have hf := f27_spec hp (c := c) (d := d) (by unfold near; omega) (by unfold near; omega) e2
    unfold l9_9
    rw [iterO_eq]
    by_cases q : p.hit l c d = true
    · rw [List.find?_cons_of_pos q, Option.some.injEq] at hfd
      rw [← hfd]
      unfold Pl.hit at q
      cases hs : p.st c d with
      | none => rw [hs] at q; cases q
      | some w =>
        rw [hs] at hf q
        have q' : p.g l (Pl.add c d) + w = p.g l c := by simpa using q
        have hw := Pl.st_pos hs
        have hfr := Pl.st_free hs
        have i1 := ix_w hp hc
        have i2 : IntKind.i64.wrap (IntKind.i64.wrap ((c.Y + d.Y) * p.W) + (c.X + d.X)) = ((p.ix (Pl.add c d) : Nat) : Int) := ix_w hp (c := Pl.add c d) hfr.2.1
        have g1 := g_get hp h.len hc
        have g2 := g_get hp h.len hfr.2.1
        obtain ⟨b1, b2⟩ := ix_in hp h.len hc
        obtain ⟨b3, b4⟩ := ix_in hp h.len hfr.2.1
        have t1 := h.top hp hc
        have t2 := h.top hp hfr.2.1
        have t3 := h.rng _ hc
        have t4 := h.rng _ hfr.2.1
        have w3 : IntKind.i64.wrap (p.g l (Pl.add c d) + w) = p.g l c := by rw [q']; exact w64 (by omega) (by omega)
        have r1 : roomy (n + 1) 16 = true := roomy_ok (by omega)
        have : r9_9 (l.length, v, n, (k : Int), p.W, p.H, p.C, goal.X, goal.Y, l, ob, c.X, c.Y, ()) = some (.inr (l.length, v, n + 1, p.W, p.H, p.C, goal.X, goal.Y, l, ob.take n ++ [Pl.add c d], c.X, c.Y, ())) := by
          unfold r9_9
          simp only [c1, c2, decide_true, Bool.and_self, cond_true, dirs_lit, idxO_nat, e1, Option.bind_some, hf, i1, i2, b1, b2, b3, b4, Nat.zero_add, Int.toNat_natCast, g1, g2, w3, beq_self_eq_true, hob, r1, List.drop_zero]
          rfl
        rw [this]
    · rw [List.find?_cons_of_neg q] at hfd
      have ih' := ih (k + 1) (by omega) (by omega) hfd
      have hr : r9_9 (l.length, v, n, (k : Int), p.W, p.H, p.C, goal.X, goal.Y, l, ob, c.X, c.Y, ()) = some (.inl (l.length, v, n, ((k + 1 : Nat) : Int), p.W, p.H, p.C, goal.X, goal.Y, l, ob, c.X, c.Y, ())) := by
        unfold Pl.hit at q
        cases hs : p.st c d with
        | none =>
          rw [hs] at hf
          unfold r9_9
          simp only [c1, c2, decide_true, Bool.and_self, cond_true, dirs_lit, idxO_nat, e1, Option.bind_some, hf, cond_false, j9_58, w0]
        | some w =>
          rw [hs] at hf q
          have q' : ¬ p.g l (Pl.add c d) + w = p.g l c := by simpa using q
          have hw := Pl.st_pos hs
          have hfr := Pl.st_free hs
          have i1 := ix_w hp hc
          have i2 : IntKind.i64.wrap (IntKind.i64.wrap ((c.Y + d.Y) * p.W) + (c.X + d.X)) = ((p.ix (Pl.add c d) : Nat) : Int) := ix_w hp (c := Pl.add c d) hfr.2.1
          have g1 := g_get hp h.len hc
          have g2 := g_get hp h.len hfr.2.1
          obtain ⟨b1, b2⟩ := ix_in hp h.len hc
          obtain ⟨b3, b4⟩ := ix_in hp h.len hfr.2.1
          have t2 := h.top hp hfr.2.1
          have t4 := h.rng _ hfr.2.1
          have w3 : IntKind.i64.wrap (p.g l (Pl.add c d) + w) = p.g l (Pl.add c d) + w := w64 (by omega) (by omega)
          have q2 : (p.g l (Pl.add c d) + w == p.g l c) = false := by simpa using q'
          unfold r9_9
          simp only [c1, c2, decide_true, Bool.and_self, cond_true, cond_false, dirs_lit, idxO_nat, e1, Option.bind_some, hf, i1, i2, b1, b2, b3, b4, Nat.zero_add, Int.toNat_natCast, g1, g2, w3, q2, j9_58, w0]
      rw [hr]
      exact ih'

theorem l9_3_spec {p : Pl} (hp : p.Ok) {goal : Pt} {l : List Int} (h : Pl.IsDist p goal l) {v : Int} : ∀ (t : Nat) (c : Pt) (n : Nat) (ob : List Pt), p.inP c → 0 ≤ p.g l c → p.g l c ≤ t → n ≤ ob.length → n + t ≤ 1000000 →
    ∃ n' ob', l9_3 (l.length, v, n, p.W, p.H, p.C, goal.X, goal.Y, l, ob, c.X, c.Y, ()) = some (v, n', ob', ()) ∧ n' ≤ ob'.length ∧ n' ≤ n + t ∧ ob'.take n' = ob.take n ++ p.walk l goal t c := by
  intro t
  induction t with
  | zero =>
    intro c n ob hc h0 ht hob hn
    by_cases hg : c = goal
    · subst hg
      refine ⟨n, ob, ?_, hob, by omega, by simp [Pl.walk]⟩
      have : r9_3 (l.length, v, n, p.W, p.H, p.C, c.X, c.Y, l, ob, c.X, c.Y, ()) = some (.inr (v, n, ob, ())) := by
        unfold r9_3
        simp only [beq_self_eq_true, cond_true, Bool.not_true, cond_false]
      unfold l9_3
      rw [iterO_eq, this]
    · obtain ⟨d, w, e1, e2, e3, e4, e5⟩ := Pl.nxt_some h hc hg h0
      have := Pl.st_pos e3
      omega
  | succ t ih =>
    intro c n ob hc h0 ht hob hn
    by_cases hg : c = goal
    · subst hg
      refine ⟨n, ob, ?_, hob, by omega, by simp [Pl.walk]⟩
      have : r9_3 (l.length, v, n, p.W, p.H, p.C, c.X, c.Y, l, ob, c.X, c.Y, ()) = some (.inr (v, n, ob, ())) := by
        unfold r9_3
        simp only [beq_self_eq_true, cond_true, Bool.not_true, cond_false]
      unfold l9_3
      rw [iterO_eq, this]
    · obtain ⟨d, w, e1, e2, e3, e4, e5⟩ := Pl.nxt_some h hc hg h0
      have hw := Pl.st_pos e3
      have hfr := Pl.st_free e3
      have s1 : l9_9 (l.length, v, n, 0, p.W, p.H, p.C, goal.X, goal.Y, l, ob, c.X, c.Y, ()) = _ := l9_9_spec hp h hc (v := v) hob (by omega) 8 0 rfl (by omega) (d' := d) e1
      have hlen : (ob.take n ++ [Pl.add c d]).length = n + 1 := by rw [List.length_append, take_len0 hob]; rfl
      obtain ⟨n', ob', f1, f2, f3, f4⟩ := ih (Pl.add c d) (n + 1) (ob.take n ++ [Pl.add c d]) hfr.2.1 e5 (by omega) (by omega) (by omega)
      refine ⟨n', ob', ?_, f2, by omega, ?_⟩
      · have w1 : IntKind.i64.wrap (((n + 1 : Nat) : Int) - 1) = (n : Int) := by rw [w64 (by omega) (by omega)]; omega
        have c1 : (0 : Int) ≤ (n : Int) := by omega
        have c2 : (n : Int) < ((n + 1 : Nat) : Int) := by omega
        have g1 : (ob.take n ++ [Pl.add c d])[n]? = some (Pl.add c d) := by
          rw [List.getElem?_append_right (by rw [take_len0 hob]; omega), take_len0 hob, Nat.sub_self]; rfl
        have : r9_3 (l.length, v, n, p.W, p.H, p.C, goal.X, goal.Y, l, ob, c.X, c.Y, ()) = some (.inl (l.length, v, n + 1, p.W, p.H, p.C, goal.X, goal.Y, l, ob.take n ++ [Pl.add c d], (Pl.add c d).X, (Pl.add c d).Y, ())) := by
          unfold r9_3
          simp only [pt_eqb, hg, decide_false, Bool.not_false, cond_true, s1, Option.bind_some, w1, c1, c2, decide_true, Bool.and_self, Nat.zero_add, Int.toNat_natCast, g1]
        unfold l9_3
        rw [iterO_eq, this]
        exact f1
      · rw [f4, List.take_of_length_le (by omega)]
        simp only [Pl.walk, hg, if_false, e1, List.append_assoc, List.singleton_append]

/-- The path that is found. -/
def Pl.path (p : Pl) (l : List Int) (start goal : Pt) : List Pt := start :: p.walk l goal 39600 start

theorem f9_spec {p : Pl} (hp : p.Ok) {start goal : Pt} {l : List Int} (h : Pl.IsDist p goal l) (hs : p.free start) (hg : p.free goal) (h0 : 0 ≤ p.g l start) :
    ∃ n ob, f9 (p.W, p.H, p.C, start.X, start.Y, goal.X, goal.Y, ()) = some (n, p.g l start, 0, ob, ()) ∧ n ≤ ob.length ∧ n ≤ 39601 ∧ ob.take n = p.path l start goal := by
  obtain ⟨l', a1, a2⟩ := f25_spec hp hg
  have := Pl.IsDist.unique hp a2 h
  subst this
  have hfew := hp.few
  have top := h.top hp hs.1
  obtain ⟨n, ob, s1, s2, s3, s4⟩ := l9_3_spec hp h (v := p.g l' start) 39600 start 1 [start] hs.1 h0 (by omega) (by simp) (by omega)
  refine ⟨n, ob, ?_, s2, by omega, by rw [s4]; rfl⟩
  have i1 := ix_w hp hs.1
  have g1 := g_get hp h.len hs.1
  obtain ⟨b1, b2⟩ := ix_in hp h.len hs.1
  have n1 : ¬ p.g l' start < 0 := by omega
  have s1' : l9_3 (l'.length, p.g l' start, 1, p.W, p.H, p.C, goal.X, goal.Y, l', [⟨start.X, start.Y⟩], start.X, start.Y, ()) = some (p.g l' start, n, ob, ()) := s1
  unfold f9
  simp only [f22_spec (p := p) (by omega), hp.vld, Option.bind_some, Bool.not_true, cond_false, f24_spec hp, hs, hg, decide_true, a1, i1, b1, b2, Bool.and_self, cond_true, Nat.zero_add, Int.toNat_natCast, g1, n1, decide_false, s1']
theorem f25_far {p : Pl} (hp : p.Ok) {start goal : Pt} {l : List Int} (h : Pl.IsDist p goal l) (hs : p.free start) (hg : p.free goal) (h0 : p.g l start < 0) :
    f9 (p.W, p.H, p.C, start.X, start.Y, goal.X, goal.Y, ()) = some (0, 0, 14, [], ()) := by
  obtain ⟨l', a1, a2⟩ := f25_spec hp hg
  have := Pl.IsDist.unique hp a2 h
  subst this
  have hfew := hp.few
  have i1 := ix_w hp hs.1
  have g1 := g_get hp h.len hs.1
  obtain ⟨b1, b2⟩ := ix_in hp h.len hs.1
  unfold f9
  simp only [f22_spec (p := p) (by omega), hp.vld, Option.bind_some, Bool.not_true, cond_false, f24_spec hp, hs, hg, decide_true, a1, i1, b1, b2, Bool.and_self, cond_true, Nat.zero_add, Int.toNat_natCast, g1, h0]
theorem f25_none {p : Pl} (hp : p.Ok) {start goal : Pt} (h : ¬ (p.free start ∧ p.free goal)) :
    f9 (p.W, p.H, p.C, start.X, start.Y, goal.X, goal.Y, ()) = some (0, 0, 7, [], ()) := by
  have hfew := hp.few
  unfold f9
  simp only [f22_spec (p := p) (by omega), hp.vld, Option.bind_some, Bool.not_true, cond_false, f24_spec hp]
  by_cases hs : p.free start
  · have hg : ¬ p.free goal := fun hg => h ⟨hs, hg⟩
    simp only [hs, hg, decide_true, decide_false, Bool.not_true, Bool.not_false, cond_true, cond_false]
  · simp only [hs, decide_false, Bool.not_false, cond_true]
theorem f25_bad {p : Pl} (hl : p.C.length ≤ 1000000) (hv : p.vld = false) (a b x y : Int) : f9 (p.W, p.H, p.C, a, b, x, y, ()) = some (0, 0, 1, [], ()) := by
  unfold f9
  simp only [f22_spec hl, hv, Option.bind_some, Bool.not_false, cond_true]

end Go.AE
