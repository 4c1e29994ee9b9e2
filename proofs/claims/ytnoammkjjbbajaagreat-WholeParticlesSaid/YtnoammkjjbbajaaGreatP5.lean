/-
  The robot: ray.Sweep, robot.Do, robot.New, robot.Run.
-/
import Derived.Test.YtnoammkjjbbajaaGreatP4
namespace Go.AE
open Go.Proofs Go.RowKit
set_option maxRecDepth 100000

/-- slices.IndexFunc's loop. -/
theorem ixfn {A : Type} {r : List A × Int × Int × Unit → Option ((List A × Int × Int × Unit) ⊕ ((Int × Unit) ⊕ Unit))} {P : A → Bool} {l : List A} (hl : l.length ≤ 1000000)
    (hr : ∀ (i : Nat) (a : A), l[i]? = some a → r (l, (l.length : Int), (i : Int), ()) = some (bif P a then .inr (.inl ((i : Int), ())) else .inl (l, (l.length : Int), ((i + 1 : Nat) : Int), ()))) (he : r (l, (l.length : Int), (l.length : Int), ()) = some (.inr (.inr ()))) :
    ∀ (t i : Nat), l.length - i = t → i ≤ l.length → ((l.drop i).any P = true ∧ ∃ k : Int, 0 ≤ k ∧ iterO r (l, (l.length : Int), (i : Int), ()) = some (.inl (k, ()))) ∨ ((l.drop i).any P = false ∧ iterO r (l, (l.length : Int), (i : Int), ()) = some (.inr ()))
  | t, i, ht, hi => by
    rw [iterO_eq]
    by_cases e : i = l.length
    · subst e
      rw [he, List.drop_eq_nil_of_le (Nat.le_refl _)]
      exact .inr ⟨rfl, rfl⟩
    · have hlt : i < l.length := by omega
      obtain ⟨a, ha⟩ : ∃ a, l[i]? = some a := ⟨_, List.getElem?_eq_getElem hlt⟩
      have hdrop : l.drop i = a :: l.drop (i + 1) := by
        rw [List.drop_eq_getElem_cons hlt]
        rw [List.getElem?_eq_getElem hlt] at ha
        rw [Option.some.inj ha]
      rw [hr i a ha, hdrop, List.any_cons]
      cases hP : P a with
      | true => exact .inl ⟨rfl, (i : Int), by omega, rfl⟩
      | false =>
        match t, ht with
        | 0, ht => omega
        | t + 1, ht => exact ixfn hl hr he t (i + 1) (by omega) (by omega)

/-- Of a mark: not one. -/
def badM (m : Int) : Bool := f31 m
theorem badM_iff (m : Int) : badM m = false ↔ 0 ≤ m ∧ m ≤ 255 := by
  unfold badM f31
  by_cases h1 : m < 0
  · simp only [h1, decide_true, cond_true]
    constructor
    · intro h; cases h
    · intro h; omega
  · simp only [h1, decide_false, cond_false, decide_eq_false_iff_not]
    omega

theorem f30_spec {l : List Int} (hl : l.length ≤ 1000000) : f30 (l, ()) = some (l.any badM, ()) := by
  have key := ixfn (r := r65_0) (P := badM) hl (fun i a ha => by
    have hlt := (List.getElem?_eq_some_iff.1 ha).1
    have c1 : (i : Int) < (l.length : Int) := by omega
    have w1 : IntKind.i64.wrap ((i : Int) + 1) = ((i + 1 : Nat) : Int) := by rw [w64 (by omega) (by omega)]; rfl
    unfold r65_0 badM
    simp only [c1, decide_true, cond_true, idxO_nat, ha, Option.bind_some, w1]
    cases f31 a <;> rfl) (by
    have c1 : ¬ (l.length : Int) < (l.length : Int) := by omega
    unfold r65_0
    simp only [c1, decide_false, cond_false]) l.length 0 rfl (by omega)
  rw [List.drop_zero] at key
  unfold f30 f65 l65_0
  rcases key with ⟨h1, k, h2, h3⟩ | ⟨h1, h3⟩
  · have h3' : iterO r65_0 (l, (l.length : Int), 0, ()) = _ := h3
    have c2 : k ≥ 0 := h2
    simp only [h3', Option.bind_some, Sum.elim_inl, c2, decide_true, h1]
  · have h3' : iterO r65_0 (l, (l.length : Int), 0, ()) = _ := h3
    simp only [h3', Option.bind_some, Sum.elim_inr, h1]
    rfl

/-- A beam of a scan at a pose: a reading, and plausible. -/
def goodB (p : Pl) (R x y h : Int) (b : Bm) : Prop := (0 ≤ b.M ∧ b.M ≤ 255) ∧ (-1 ≤ b.R ∧ b.R ≤ 1024) ∧ f25 (p.W, p.H, p.C, x, y, h, b.M, b.R, R, ()) = some (true, ())

section
variable {p : Pl} {px py h R : Int}

theorem j34_31_spec (hp : p.Ok) (hin : inRp p ⟨px, py⟩) (hh : 0 ≤ h ∧ h ≤ 255) (hR : 1 ≤ R ∧ R ≤ 32) {m err : Int} (hm : 0 ≤ m ∧ m ≤ 255) {n : Nat} {ob : List Bm} (hn : n ≤ ob.length) (hn2 : n ≤ 100000) (errs marks : List Int) (a i : Int) :
    ∃ z, goodB p R px py h ⟨m, z⟩ ∧ j34_31 (R, errs, n, m, err, marks, a, i, p.W, p.H, p.C, px, py, h, ob, ()) = some (.inr (R, errs, n + 1, marks, a, i, p.W, p.H, p.C, px, py, h, ob.take n ++ [⟨m, z⟩], ())) := by
  obtain ⟨z, z1, z2, z3⟩ := measure_plausible hp hin hh hm hR (err := err)
  have ro : roomy (n + 1) 16 = true := roomy_ok (by omega)
  refine ⟨z, ⟨hm, z2, z3⟩, ?_⟩
  unfold j34_31
  simp only [z1, Option.bind_some, bne_self_eq_false, cond_false, Nat.zero_add, hn, decide_true, cond_true, ro, List.drop_zero]

theorem l34_0_spec (hp : p.Ok) (hin : inRp p ⟨px, py⟩) (hh : 0 ≤ h ∧ h ≤ 255) (hR : 1 ≤ R ∧ R ≤ 32) {marks errs : List Int} (hm : ∀ m ∈ marks, 0 ≤ m ∧ m ≤ 255) (hml : marks.length ≤ 1000) (hel : errs.length ≤ 1000) : ∀ (t i n : Nat) (ob : List Bm), marks.length - i = t → i ≤ marks.length → n ≤ ob.length → n ≤ i → (∀ b ∈ ob.take n, goodB p R px py h b) →
    ∃ (n' : Nat) (ob' : List Bm), l34_0 (R, errs, n, marks, (marks.length : Int), (i : Int), p.W, p.H, p.C, px, py, h, ob, ()) = some (.inr (n', ob', ())) ∧ n' ≤ ob'.length ∧ n' ≤ marks.length ∧ ∀ b ∈ ob'.take n', goodB p R px py h b
  | t, i, n, ob, ht, hi, hn, hni, hg => by
    unfold l34_0
    rw [iterO_eq]
    by_cases e : i = marks.length
    · have c1 : ¬ (i : Int) < (marks.length : Int) := by omega
      have hd : r34_0 (R, errs, n, marks, (marks.length : Int), (i : Int), p.W, p.H, p.C, px, py, h, ob, ()) = some (.inr (.inr (n, ob, ()))) := by
        unfold r34_0
        simp only [c1, decide_false, cond_false]
      rw [hd]
      exact ⟨n, ob, rfl, hn, by omega, hg⟩
    · have hlt : i < marks.length := by omega
      have c1 : (i : Int) < (marks.length : Int) := by omega
      obtain ⟨m, hmi⟩ : ∃ m, marks[i]? = some m := ⟨_, List.getElem?_eq_getElem hlt⟩
      have hmm := hm m (List.mem_of_getElem? hmi)
      have w1 : IntKind.i64.wrap ((i : Int) + 1) = ((i + 1 : Nat) : Int) := by rw [w64 (by omega) (by omega)]; rfl
      have step : ∃ z, goodB p R px py h ⟨m, z⟩ ∧ r34_0 (R, errs, n, marks, (marks.length : Int), (i : Int), p.W, p.H, p.C, px, py, h, ob, ()) = some (.inl (R, errs, n + 1, marks, (marks.length : Int), ((i + 1 : Nat) : Int), p.W, p.H, p.C, px, py, h, ob.take n ++ [⟨m, z⟩], ())) := by
        by_cases he : i < errs.length
        · obtain ⟨er, her⟩ : ∃ er, errs[i]? = some er := ⟨_, List.getElem?_eq_getElem he⟩
          have c2 : (i : Int) < (errs.length : Int) := by omega
          obtain ⟨z, z1, z2⟩ := j34_31_spec hp hin hh hR hmm hn (by omega) errs marks (marks.length : Int) (i : Int) (err := er)
          refine ⟨z, z1, ?_⟩
          unfold r34_0
          simp only [c1, c2, decide_true, cond_true, idxO_nat, hmi, her, Option.bind_some, z2, Sum.elim_inr, j34_43, w1]
        · have c2 : ¬ (i : Int) < (errs.length : Int) := by omega
          obtain ⟨z, z1, z2⟩ := j34_31_spec hp hin hh hR hmm hn (by omega) errs marks (marks.length : Int) (i : Int) (err := 0)
          refine ⟨z, z1, ?_⟩
          unfold r34_0
          simp only [c1, c2, decide_true, decide_false, cond_true, cond_false, idxO_nat, hmi, Option.bind_some, z2, Sum.elim_inr, j34_43, w1]
      obtain ⟨z, z1, z2⟩ := step
      rw [z2]
      have hl : (ob.take n).length = n := by rw [List.length_take]; omega
      match t, ht with
      | 0, ht => omega
      | t + 1, ht =>
        refine l34_0_spec hp hin hh hR hm hml hel t (i + 1) (n + 1) (ob.take n ++ [⟨m, z⟩]) (by omega) (by omega) (by simp [hl]) (by omega) (fun b hb => ?_)
        rw [List.take_of_length_le (by simp [hl])] at hb
        rcases List.mem_append.1 hb with hb | hb
        · exact hg b hb
        · rw [List.mem_singleton.1 hb]
          exact z1

/-- ray.Sweep. -/
theorem f34_spec (hp : p.Ok) (hin : inRp p ⟨px, py⟩) (hh : 0 ≤ h ∧ h ≤ 255) (hR : 1 ≤ R ∧ R ≤ 32) {marks errs : List Int} (hm : ∀ m ∈ marks, 0 ≤ m ∧ m ≤ 255) (hml : marks.length ≤ 32) (hel : errs.length ≤ 1000) :
    ∃ (n : Nat) (ob : List Bm), f34 (p.W, p.H, p.C, px, py, h, marks, R, errs, ()) = some (n, 0, ob, ()) ∧ n ≤ ob.length ∧ n ≤ marks.length ∧ ∀ b ∈ ob.take n, goodB p R px py h b := by
  obtain ⟨n, ob, q1, q2, q3, q4⟩ := l34_0_spec hp hin hh hR hm (by omega) hel marks.length 0 0 [] rfl (by omega) (by simp) (by omega) (fun b hb => by simp at hb) (errs := errs)
  have q1' : l34_0 (R, errs, 0, marks, (marks.length : Int), 0, p.W, p.H, p.C, px, py, h, [], ()) = _ := q1
  have c1 : ¬ ((marks.length : Int) > 32) := by omega
  refine ⟨n, ob, ?_, q2, q3, q4⟩
  unfold f34
  simp only [c1, decide_false, cond_false, q1', Option.bind_some, Sum.elim_inr]

/-- A tick. -/
structure StepOK (p : Pl) (R : Int) (a : Po) (e : Ev) (q : Po) : Prop where
  cmd : okCmd e.U e.F
  mv : e.B = true ∨ f21 (a.X, a.Y, a.H, e.U, e.F, 0, 0, 0, 0, ()) = some (q.X, q.Y, q.H, 0, ())
  cl : Clear p ⟨q.X, q.Y⟩
  h : 0 ≤ q.H ∧ q.H ≤ 255
  sl : e.S.length ≤ 4
  s : ∀ b ∈ e.S, goodB p R q.X q.Y q.H b

theorem f66_zero (n : Int) : f66 n 0 = 0 := by
  have w : IntKind.i64.wrap (0 - 0) = 0 := by rw [w64 (by omega) (by omega)]; omega
  unfold f66
  rw [w]
  by_cases h : 0 < n
  · have c : ¬ (0 : Int) > 0 := by omega
    simp only [h, decide_true, cond_true, c, decide_false, cond_false]
  · simp only [h, decide_false, cond_false]

theorem f18_ok (hR : 1 ≤ R ∧ R ≤ 32) : f18 0 0 0 R = true := by
  unfold f18
  simp only [f39_spec]
  simp
  omega

theorem f32_zero (hR : 1 ≤ R ∧ R ≤ 32) (a b c d : Int) : f32 0 0 0 R a b c d = (0, 0, 0, 0, 0) := by
  unfold f32
  simp only [f18_ok hR, Bool.not_true, cond_false, f66_zero]

/-- robot.Do, by a robot that moves exactly. -/
theorem f14_spec (hb : p.bld = true) (hp : p.Ok) (hcl : Clear p ⟨px, py⟩) (hh : 0 ≤ h ∧ h ≤ 255) (hR : 1 ≤ R ∧ R ≤ 32) {U F T L X Y : Int} {M E : List Int} (hM : M.length ≤ 4) (hE : E.length ≤ 1000) {tk bp : Int} (ht : 0 ≤ tk ∧ tk ≤ 1000) (hbp : 0 ≤ bp ∧ bp ≤ tk) :
    (f14 (U, F, T, L, X, Y, M, E, p.C, p.W, p.H, p.C.length, 0, 0, 0, R, px, py, h, tk, bp, ()) = some (0, 0, 0, false, [], 1, p.C, p.W, p.H, p.C.length, 0, 0, 0, R, px, py, h, tk, bp, ())) ∨
      ∃ (e : Ev) (q : Po) (bp' : Int), f14 (U, F, T, L, X, Y, M, E, p.C, p.W, p.H, p.C.length, 0, 0, 0, R, px, py, h, tk, bp, ()) = some (e.T, e.U, e.F, e.B, e.S, 0, p.C, p.W, p.H, p.C.length, 0, 0, 0, R, q.X, q.Y, q.H, tk + 1, bp', ()) ∧
        StepOK p R ⟨px, py, h⟩ e q ∧ 0 ≤ bp' ∧ bp' ≤ tk + 1 := by
  have hcm := f17_spec U F
  have h30 := f30_spec (l := M) (by omega)
  have c1 : ¬ ((M.length : Int) > 32) := by omega
  by_cases hc : okCmd U F
  rotate_left
  · left
    rw [decide_eq_false hc] at hcm
    unfold f14
    simp only [hcm, Bool.not_false, cond_true]
  rw [decide_eq_true hc] at hcm
  cases hany : M.any badM with
  | true =>
    left
    rw [hany] at h30
    unfold f14
    simp only [hcm, Bool.not_true, cond_false, c1, decide_false, h30, Option.bind_some, cond_true]
  | false =>
    right
    rw [hany] at h30
    have hm : ∀ m ∈ M, 0 ≤ m ∧ m ≤ 255 := fun m hm => (badM_iff m).1 (by
      have := List.any_eq_false.1 hany m hm
      simpa using this)
    obtain ⟨x', y', h', bump, s1, k1, k2, k3⟩ := f33_spec hb hp hcl hh hc
    have hin' := k2.inRp hp
    obtain ⟨n, ob, s2, q2, q3, q4⟩ := f34_spec hp hin' k3 hR hm (by omega) (errs := E) (by omega)
    have w1 : IntKind.i64.wrap (tk + 1) = tk + 1 := w64 (by omega) (by omega)
    have w2 : IntKind.i64.wrap (bp + 1) = bp + 1 := w64 (by omega) (by omega)
    have f32' := f32_zero hR T L X Y
    cases bump with
    | true =>
      refine ⟨⟨tk + 1, U, F, true, ob.take n⟩, ⟨x', y', h'⟩, bp + 1, ?_, ⟨hc, .inl rfl, k2, k3, by rw [List.length_take]; omega, q4⟩, by omega, by omega⟩
      unfold f14 j14_28
      simp only [hcm, Bool.not_true, cond_false, c1, decide_false, h30, Option.bind_some, Nat.zero_add, Nat.le_refl, decide_true, cond_true, List.drop_zero, List.take_length, f32', s1, w1, w2, s2, q2]
    | false =>
      refine ⟨⟨tk + 1, U, F, false, ob.take n⟩, ⟨x', y', h'⟩, bp, ?_, ⟨hc, ?_, k2, k3, by rw [List.length_take]; omega, q4⟩, by omega, by omega⟩
      · unfold f14 j14_28
        simp only [hcm, Bool.not_true, cond_false, c1, decide_false, h30, Option.bind_some, Nat.zero_add, Nat.le_refl, decide_true, cond_true, List.drop_zero, List.take_length, f32', s1, w1, s2, q2]
      · rcases k1 with ⟨k, _⟩ | ⟨_, k⟩
        · cases k
        · exact .inr k
end

/-! ### A run -/

/-- The ticks so far: from pose to pose. -/
structure RunOK (p : Pl) (R : Int) (at0 : Po) (evs : List Ev) (ps : List Po) : Prop where
  len : evs.length = ps.length
  step : ∀ (i : Nat) (e : Ev), evs[i]? = some e → ∃ a q, (at0 :: ps)[i]? = some a ∧ ps[i]? = some q ∧ StepOK p R a e q

theorem RunOK.snoc {p : Pl} {R : Int} {at0 : Po} {evs : List Ev} {ps : List Po} (h : RunOK p R at0 evs ps) {a : Po} (ha : (at0 :: ps)[ps.length]? = some a) {e : Ev} {q : Po} (hs : StepOK p R a e q) : RunOK p R at0 (evs ++ [e]) (ps ++ [q]) := by
  refine ⟨by simp [h.len], fun i e' he => ?_⟩
  by_cases hi : i < evs.length
  · rw [List.getElem?_append_left hi] at he
    obtain ⟨a', q', h1, h2, h3⟩ := h.step i e' he
    refine ⟨a', q', ?_, ?_, h3⟩
    · rw [← List.cons_append, List.getElem?_append_left (by simp; have := h.len; omega)]
      exact h1
    · rw [List.getElem?_append_left (by have := h.len; omega)]
      exact h2
  · have hi2 : i = evs.length := by
      have := (List.getElem?_eq_some_iff.1 he).1
      simp at this
      omega
    subst hi2
    rw [List.getElem?_append_right (Nat.le_refl _), Nat.sub_self] at he
    cases he
    refine ⟨a, q, ?_, ?_, hs⟩
    · rw [← List.cons_append, List.getElem?_append_left (by simp; have := h.len; omega), h.len]
      exact ha
    · rw [h.len, List.getElem?_append_right (Nat.le_refl _), Nat.sub_self]
      rfl

theorem last_snoc (at0 : Po) (ps : List Po) (q : Po) : (at0 :: (ps ++ [q]))[(ps ++ [q]).length]? = some q := by
  rw [← List.cons_append, List.getElem?_append_right (by simp)]
  simp

section
variable {p : Pl} {R : Int}

theorem l7_0_spec (hb : p.bld = true) (hp : p.Ok) (hR : 1 ≤ R ∧ R ≤ 32) {acts : List Ax} (ha : ∀ a ∈ acts, a.M.length ≤ 4 ∧ a.E.length ≤ 40) (hal : acts.length ≤ 10) (at0 : Po) : ∀ (t i ne np : Nat) (cur : Po) (tk bp : Int) (evs : List Ev) (ps : List Po), acts.length - i = t → i ≤ acts.length → ne ≤ evs.length → np ≤ ps.length → ne = i →
    RunOK p R at0 (evs.take ne) (ps.take np) → (at0 :: ps.take np)[(ps.take np).length]? = some cur → Clear p ⟨cur.X, cur.Y⟩ → (0 ≤ cur.H ∧ cur.H ≤ 255) → (0 ≤ tk ∧ tk ≤ i) → (0 ≤ bp ∧ bp ≤ tk) →
    (∃ e : Int, e ≠ 0 ∧ l7_0 (ne, np, acts, (acts.length : Int), (i : Int), p.W, p.H, p.C.length, 0, 0, 0, R, cur.X, cur.Y, cur.H, tk, bp, evs, ps, p.C, ()) = some (.inl (e, ()))) ∨
      ∃ (ne' np' : Nat) (evs' : List Ev) (ps' : List Po), l7_0 (ne, np, acts, (acts.length : Int), (i : Int), p.W, p.H, p.C.length, 0, 0, 0, R, cur.X, cur.Y, cur.H, tk, bp, evs, ps, p.C, ()) = some (.inr (ne', np', evs', ps', ())) ∧ ne' ≤ evs'.length ∧ np' ≤ ps'.length ∧ ne' ≤ 10 ∧ RunOK p R at0 (evs'.take ne') (ps'.take np')
  | t, i, ne, np, cur, tk, bp, evs, ps, ht, hi, hne, hnp, hnei, hrun, hcur, hcl, hh, htk, hbp => by
    unfold l7_0
    rw [iterO_eq]
    by_cases e : i = acts.length
    · have c1 : ¬ (i : Int) < (acts.length : Int) := by omega
      have hd : r7_0 (ne, np, acts, (acts.length : Int), (i : Int), p.W, p.H, p.C.length, 0, 0, 0, R, cur.X, cur.Y, cur.H, tk, bp, evs, ps, p.C, ()) = some (.inr (.inr (ne, np, evs, ps, ()))) := by
        unfold r7_0
        simp only [c1, decide_false, cond_false]
      rw [hd]
      exact .inr ⟨ne, np, evs, ps, rfl, hne, hnp, by omega, hrun⟩
    · have hlt : i < acts.length := by omega
      have c1 : (i : Int) < (acts.length : Int) := by omega
      obtain ⟨a, hai⟩ : ∃ a, acts[i]? = some a := ⟨_, List.getElem?_eq_getElem hlt⟩
      obtain ⟨hM, hE⟩ := ha a (List.mem_of_getElem? hai)
      have w1 : IntKind.i64.wrap ((i : Int) + 1) = ((i + 1 : Nat) : Int) := by rw [w64 (by omega) (by omega)]; rfl
      have ro : roomy (ne + 1) 56 = true := roomy_ok (by omega)
      have hlenr := hrun.len
      have hl1 : (evs.take ne).length = ne := by rw [List.length_take]; omega
      have hl2 : (ps.take np).length = np := by rw [List.length_take]; omega
      have ro2 : roomy (np + 1) 24 = true := roomy_ok (by omega)
      rcases f14_spec hb hp hcl hh hR (U := a.U) (F := a.F) (T := a.T) (L := a.L) (X := a.X) (Y := a.Y) hM (E := a.E) (by omega) (tk := tk) (bp := bp) (by omega) hbp with s1 | ⟨ev, q, bp', s1, s2, s3⟩
      · left
        have hd : r7_0 (ne, np, acts, (acts.length : Int), (i : Int), p.W, p.H, p.C.length, 0, 0, 0, R, cur.X, cur.Y, cur.H, tk, bp, evs, ps, p.C, ()) = some (.inr (.inl (1, ()))) := by
          have q1 : ((1 : Int) != 0) = true := rfl
          unfold r7_0
          simp only [c1, decide_true, cond_true, idxO_nat, hai, Option.bind_some, Nat.zero_add, Nat.le_refl, List.drop_zero, List.take_length, s1, q1]
        rw [hd]
        exact ⟨1, by omega, rfl⟩
      · have hd : r7_0 (ne, np, acts, (acts.length : Int), (i : Int), p.W, p.H, p.C.length, 0, 0, 0, R, cur.X, cur.Y, cur.H, tk, bp, evs, ps, p.C, ()) =
            some (.inl (ne + 1, np + 1, acts, (acts.length : Int), ((i + 1 : Nat) : Int), p.W, p.H, p.C.length, 0, 0, 0, R, q.X, q.Y, q.H, tk + 1, bp', evs.take ne ++ [ev], ps.take np ++ [q], p.C, ())) := by
          unfold r7_0
          simp only [c1, decide_true, cond_true, idxO_nat, hai, Option.bind_some, Nat.zero_add, Nat.le_refl, List.drop_zero, List.take_length, s1, bne_self_eq_false, cond_false, hne, hnp, ro, ro2, w1, f15]
        rw [hd]
        match t, ht with
        | 0, ht => omega
        | t + 1, ht =>
          have hsn := hrun.snoc (a := ⟨cur.X, cur.Y, cur.H⟩) hcur s2
          have e1 : (evs.take ne ++ [ev]).take (ne + 1) = evs.take ne ++ [ev] := List.take_of_length_le (by simp [hl1])
          have e2 : (ps.take np ++ [q]).take (np + 1) = ps.take np ++ [q] := List.take_of_length_le (by simp [hl2])
          exact l7_0_spec hb hp hR ha hal at0 t (i + 1) (ne + 1) (np + 1) q (tk + 1) bp' (evs.take ne ++ [ev]) (ps.take np ++ [q]) (by omega) (by omega) (by simp [hl1]) (by simp [hl2]) (by omega) (by rw [e1, e2]; exact hsn) (by rw [e2]; exact last_snoc at0 (ps.take np) q) s2.cl s2.h (by omega) (by omega)

open Classical in
/-- robot.Run, of a robot that moves exactly. -/
theorem f7_spec (p : Pl) (hl : p.C.length ≤ 64) (hR : 1 ≤ R ∧ R ≤ 32) {acts : List Ax} (ha : ∀ a ∈ acts, a.M.length ≤ 4 ∧ a.E.length ≤ 40) (hal : acts.length ≤ 10) (at0 : Po) :
    ∃ (evs : List Ev) (ps : List Po) (e : Int), f7 (p.W, p.H, p.C, 0, 0, 0, R, at0.X, at0.Y, at0.H, acts, ()) = some (evs, ps, e, ()) ∧ (e ≠ 0 → evs = []) ∧
      (e = 0 → p.bld = true ∧ p.Ok ∧ Clear p ⟨at0.X, at0.Y⟩ ∧ (0 ≤ at0.H ∧ at0.H ≤ 255) ∧ evs.length ≤ 10 ∧ RunOK p R at0 evs ps) := by
  have s26 := f26_spec (p := p) (by omega)
  have s28 := f28_spec p (by omega) ⟨at0.X, at0.Y⟩ 20
  simp only at s28
  by_cases hv : p.vld = true
  rotate_left
  · have hv' : p.vld = false := by simpa using hv
    rw [hv'] at s26
    refine ⟨[], [], 1, ?_, fun _ => rfl, fun h => by omega⟩
    unfold f7 f13
    simp only [s26, Bool.false_eq_true, if_false, Option.bind_some, Sum.elim_inl]
  rw [hv] at s26
  by_cases hk : p.known = true
  rotate_left
  · have hk' : p.known = false := by simpa using hk
    rw [hk'] at s26
    refine ⟨[], [], 3, ?_, fun _ => rfl, fun h => by omega⟩
    unfold f7 f13
    simp only [s26, Bool.false_eq_true, if_false, if_true, Option.bind_some, Sum.elim_inl, Sum.elim_inr]
  rw [hk] at s26
  simp only [if_true] at s26
  have hp := Pl.vld_ok hv (by omega)
  have hb : p.bld = true := by unfold Pl.bld; rw [hv, hk]; rfl
  have ro : roomy p.C.length 1 = true := roomy_ok (by omega)
  have s29 : f29 (p.C, ()) = some (p.C.length, p.C, ()) := by
    unfold f29 j29_4
    simp only [Nat.zero_add, ro, cond_true, Option.bind_some]
  by_cases c1 : f27 at0.X = true
  rotate_left
  · have c1' : f27 at0.X = false := by simpa using c1
    refine ⟨[], [], 1, ?_, fun _ => rfl, fun h => by omega⟩
    unfold f7 f13
    simp only [s26, Option.bind_some, Sum.elim_inr, f18_ok hR, Bool.not_true, cond_false, c1', Bool.not_false, cond_true, Sum.elim_inl]
  by_cases c2 : f27 at0.Y = true
  rotate_left
  · have c2' : f27 at0.Y = false := by simpa using c2
    refine ⟨[], [], 1, ?_, fun _ => rfl, fun h => by omega⟩
    unfold f7 f13
    simp only [s26, Option.bind_some, Sum.elim_inr, f18_ok hR, Bool.not_true, cond_false, c1, c2', Bool.not_false, cond_true, Sum.elim_inl]
  by_cases c3 : at0.H < 0
  · refine ⟨[], [], 1, ?_, fun _ => rfl, fun h => by omega⟩
    unfold f7 f13
    simp only [s26, Option.bind_some, Sum.elim_inr, f18_ok hR, Bool.not_true, cond_false, c1, c2, c3, decide_true, cond_true, Sum.elim_inl]
  by_cases c4 : at0.H ≥ 256
  · refine ⟨[], [], 1, ?_, fun _ => rfl, fun h => by omega⟩
    unfold f7 f13
    simp only [s26, Option.bind_some, Sum.elim_inr, f18_ok hR, Bool.not_true, cond_false, c1, c2, c3, c4, decide_true, decide_false, cond_true, Sum.elim_inl]
  by_cases c5 : Fit p ⟨at0.X, at0.Y⟩ 20
  rotate_left
  · rw [decide_eq_false c5] at s28
    refine ⟨[], [], 9, ?_, fun _ => rfl, fun h => by omega⟩
    unfold f7 f13
    simp only [s26, Option.bind_some, Sum.elim_inr, f18_ok hR, Bool.not_true, cond_false, c1, c2, c3, c4, decide_false, s28, Bool.not_false, cond_true, Sum.elim_inl]
  rw [decide_eq_true c5] at s28
  have key := l7_0_spec hb hp hR ha hal at0 acts.length 0 0 0 at0 0 0 [] [] rfl (by omega) (by simp) (by simp) rfl ⟨rfl, fun i e he => by simp at he⟩ rfl c5.clear (by omega) (by omega) (by omega)
  rcases key with ⟨e, he, h1⟩ | ⟨ne, np, evs, ps, h1, h2, h3, h4, h5⟩
  · have h1' : l7_0 (0, 0, acts, (acts.length : Int), 0, p.W, p.H, p.C.length, 0, 0, 0, R, at0.X, at0.Y, at0.H, 0, 0, [], [], p.C, ()) = _ := h1
    refine ⟨[], [], e, ?_, fun _ => rfl, fun h => (he h).elim⟩
    unfold f7 f13
    simp only [s26, Option.bind_some, Sum.elim_inr, f18_ok hR, Bool.not_true, cond_false, c1, c2, c3, c4, decide_false, s28, s29, h1', Sum.elim_inl]
  · have h1' : l7_0 (0, 0, acts, (acts.length : Int), 0, p.W, p.H, p.C.length, 0, 0, 0, R, at0.X, at0.Y, at0.H, 0, 0, [], [], p.C, ()) = _ := h1
    refine ⟨evs.take ne, ps.take np, 0, ?_, fun h => (h rfl).elim, fun _ => ⟨hb, hp, c5.clear, by omega, by rw [List.length_take]; omega, h5⟩⟩
    unfold f7 f13
    simp only [s26, Option.bind_some, Sum.elim_inr, f18_ok hR, Bool.not_true, cond_false, c1, c2, c3, c4, decide_false, s28, s29, h1', Nat.zero_add, h2, h3, decide_true, cond_true, List.drop_zero]
end
end Go.AE
