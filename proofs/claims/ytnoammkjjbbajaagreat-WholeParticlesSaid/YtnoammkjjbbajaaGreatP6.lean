/-
  Particles: valid, Move, blocked, Weigh.
-/
import Derived.Test.YtnoammkjjbbajaaGreatP5
import Derived.Test.YtnoammkjjbbajaaGreatFc
namespace Go.AE
open Go.Proofs Go.RowKit
set_option maxRecDepth 100000

/-- A loop that looks for an element. -/
theorem ixg {A S I O : Type} {r : S → Option (S ⊕ (I ⊕ O))} (st : Nat → S) (P : A → Bool) (vi : Nat → I) (o : O) {l : List A}
    (hr : ∀ (i : Nat) (a : A), l[i]? = some a → r (st i) = some (bif P a then .inr (.inl (vi i)) else .inl (st (i + 1)))) (he : r (st l.length) = some (.inr (.inr o))) :
    ∀ (t i : Nat), l.length - i = t → i ≤ l.length → ((l.drop i).any P = true ∧ ∃ k, iterO r (st i) = some (.inl (vi k))) ∨ ((l.drop i).any P = false ∧ iterO r (st i) = some (.inr o))
  | t, i, ht, hi => by
    rw [iterO_eq]
    by_cases e : i = l.length
    · subst e
      rw [he, List.drop_eq_nil_of_le (Nat.le_refl _)]
      exact .inr ⟨rfl, rfl⟩
    · have hlt : i < l.length := by omega
      obtain ⟨a, ha⟩ : ∃ a, l[i]? = some a := ⟨_, List.getElem?_eq_getElem hlt⟩
      have hdrop : l.drop i = a :: l.drop (i + 1) := by
        rw [List.drop_eq_getElem_cons hlt]
        rw [List.getElem?_eq_getElem hlt] at ha
        rw [Option.some.inj ha]
      rw [hr i a ha, hdrop, List.any_cons]
      cases hP : P a with
      | true => exact .inl ⟨rfl, i, rfl⟩
      | false =>
        match t, ht with
        | 0, ht => omega
        | t + 1, ht => exact ixg st P vi o hr he t (i + 1) (by omega) (by omega)

/-! ### Validity -/

def okP (a : Pa) : Prop := posed a.X a.Y a.H ∧ 0 ≤ a.W ∧ a.W ≤ 1048576
instance (a : Pa) : Decidable (okP a) := by unfold okP; infer_instance

theorem f36_spec (x y h : Int) : f36 x y h = decide (posed x y h) := by
  have g : ∀ n, f70 n = !decide (-1048576 ≤ n ∧ n ≤ 1048576) := fun n => by
    unfold f70
    by_cases c1 : n < -1048576
    · have : ¬ (-1048576 ≤ n ∧ n ≤ 1048576) := by omega
      simp only [c1, decide_true, cond_true, this, decide_false, Bool.not_false]
    · by_cases c2 : n > 1048576
      · have : ¬ (-1048576 ≤ n ∧ n ≤ 1048576) := by omega
        simp only [c1, c2, decide_true, decide_false, cond_false, this, Bool.not_false]
      · have : -1048576 ≤ n ∧ n ≤ 1048576 := by omega
        simp only [c1, c2, decide_false, cond_false, this, and_self, decide_true, Bool.not_true]
  unfold f36
  simp only [g, Bool.not_not]
  unfold posed nearP
  by_cases c1 : -1048576 ≤ x ∧ x ≤ 1048576
  · by_cases c2 : -1048576 ≤ y ∧ y ≤ 1048576
    · by_cases c3 : h ≥ 0
      · simp only [c1, c2, c3, and_self, decide_true, cond_true, true_and]
        rw [decide_eq_decide]
        omega
      · simp only [c1, c2, c3, and_self, decide_true, decide_false, cond_true, cond_false, true_and, false_and]
    · simp only [c1, c2, and_self, decide_true, decide_false, cond_true, cond_false, true_and, false_and]
  · simp only [c1, decide_false, cond_false, false_and]

theorem f35_spec (a : Pa) : f35 a.X a.Y a.H a.W = !decide (okP a) := by
  unfold f35 okP
  rw [f36_spec]
  by_cases c1 : posed a.X a.Y a.H
  · by_cases c2 : a.W < 0
    · have : ¬ (0 ≤ a.W ∧ a.W ≤ 1048576) := by omega
      simp only [c1, c2, this, decide_true, Bool.not_true, cond_false, cond_true, and_false, decide_false, Bool.not_false]
    · by_cases c3 : a.W > 1048576
      · have : ¬ (0 ≤ a.W ∧ a.W ≤ 1048576) := by omega
        simp only [c1, c2, c3, this, decide_true, Bool.not_true, cond_false, and_false, decide_false, Bool.not_false]
      · have : 0 ≤ a.W ∧ a.W ≤ 1048576 := by omega
        simp only [c1, c2, c3, this, decide_true, Bool.not_true, cond_false, and_self, decide_false]
  · simp only [c1, decide_false, Bool.not_false, cond_true, false_and]

theorem any_bad {A : Type} {P : A → Prop} [DecidablePred P] {l : List A} : l.any (fun a => !decide (P a)) = false ↔ ∀ a ∈ l, P a := by
  rw [List.any_eq_false]
  constructor
  · intro h a ha
    have := h a ha
    simpa using this
  · intro h a ha
    simp [h a ha]

/-- A flock is valid. -/
def okF (l : List Pa) : Prop := l.length ≤ 1024 ∧ ∀ a ∈ l, okP a
theorem f16_spec {l : List Pa} (hl : l.length ≤ 1024) : ∃ t : Bool, f16 (l, ()) = some (t, ()) ∧ (t = true ↔ okF l) := by
  have key := ixg (r := r71_0) (fun i => (l, (l.length : Int), (i : Int), ())) (fun a => !decide (okP a)) (fun i => ((i : Int), ())) () (l := l) (fun i a ha => by
    have hlt := (List.getElem?_eq_some_iff.1 ha).1
    have c1 : (i : Int) < (l.length : Int) := by omega
    have w1 : IntKind.i64.wrap ((i : Int) + 1) = ((i + 1 : Nat) : Int) := by rw [w64 (by omega) (by omega)]; rfl
    unfold r71_0
    simp only [c1, decide_true, cond_true, idxO_nat, ha, Option.bind_some, w1, f35_spec]
    cases decide (okP a) <;> rfl) (by
    have c1 : ¬ (l.length : Int) < (l.length : Int) := by omega
    unfold r71_0
    simp only [c1, decide_false, cond_false]) l.length 0 rfl (by omega)
  rw [List.drop_zero] at key
  have c0 : (l.length : Int) ≤ 1024 := by omega
  unfold f16 f37 f71 l71_0
  rcases key with ⟨h1, k, h3⟩ | ⟨h1, h3⟩
  · have h3' : iterO r71_0 (l, (l.length : Int), 0, ()) = _ := h3
    have c2 : (k : Int) ≥ 0 := by omega
    refine ⟨false, ?_, ?_⟩
    · simp only [c0, decide_true, cond_true, h3', Option.bind_some, Sum.elim_inl, c2, Bool.not_true]
    · constructor
      · intro h; cases h
      · intro h
        rw [any_bad.2 h.2] at h1
        cases h1
  · have h3' : iterO r71_0 (l, (l.length : Int), 0, ()) = _ := h3
    have c2 : ¬ ((-1 : Int) ≥ 0) := by omega
    refine ⟨true, ?_, ?_⟩
    · simp only [c0, decide_true, cond_true, h3', Option.bind_some, Sum.elim_inr, c2, decide_false, Bool.not_false]
    · exact ⟨fun _ => ⟨hl, any_bad.1 h1⟩, fun _ => rfl⟩

theorem f16_ok {l : List Pa} (h : okF l) : f16 (l, ()) = some (true, ()) := by
  obtain ⟨t, h1, h2⟩ := f16_spec h.1
  rw [h1, h2.2 h]

theorem f19_spec {l : List Pa} (hl : l.length ≤ 1024) : f19 (l, ()) = some (l.length, l, ()) := by
  have ro : roomy l.length 32 = true := roomy_ok (by omega)
  unfold f19 j19_4
  simp only [Nat.zero_add, ro, cond_true, Option.bind_some]

/-! ### A list that is changed place by place -/

structure MapInv {A : Type} (g : A → A) (l : List A) (i : Nat) (ob : List A) : Prop where
  len : ob.length = l.length
  old : ∀ j, j < i → ob[j]? = (l.map g)[j]?
  new : ∀ j, i ≤ j → ob[j]? = l[j]?
theorem MapInv.zero {A : Type} (g : A → A) (l : List A) : MapInv g l 0 l := ⟨rfl, fun j h => absurd h (Nat.not_lt_zero j), fun _ _ => rfl⟩
theorem MapInv.step {A : Type} {g : A → A} {l : List A} {i : Nat} {ob : List A} (h : MapInv g l i ob) {a : A} (ha : l[i]? = some a) : MapInv g l (i + 1) (ob.set i (g a)) := by
  have hlt := (List.getElem?_eq_some_iff.1 ha).1
  refine ⟨by rw [List.length_set]; exact h.len, fun j hj => ?_, fun j hj => ?_⟩
  · by_cases e : i = j
    · subst e
      rw [List.getElem?_set_self (by rw [h.len]; exact hlt), List.getElem?_map, ha]
      rfl
    · rw [List.getElem?_set_ne e]
      exact h.old j (by omega)
  · rw [List.getElem?_set_ne (by omega)]
    exact h.new j (by omega)
theorem MapInv.same {A : Type} {g : A → A} {l : List A} {i : Nat} {ob : List A} (h : MapInv g l i ob) {a : A} (ha : l[i]? = some a) (hg : g a = a) : MapInv g l (i + 1) ob := by
  refine ⟨h.len, fun j hj => ?_, fun j hj => h.new j (by omega)⟩
  by_cases e : j = i
  · subst e
    rw [h.new j (Nat.le_refl _), List.getElem?_map, ha]
    simp [hg]
  · exact h.old j (by omega)
theorem MapInv.done {A : Type} {g : A → A} {l : List A} {ob : List A} (h : MapInv g l l.length ob) : ob = l.map g := by
  apply List.ext_getElem?
  intro j
  by_cases hj : j < l.length
  · exact h.old j hj
  · rw [List.getElem?_eq_none (by rw [h.len]; omega), List.getElem?_eq_none (by simp; omega)]

/-! ### Move -/

/-- A particle moves without errors, where it can. -/
noncomputable def mvP (t f : Int) (a : Pa) : Pa := match f21 (a.X, a.Y, a.H, t, f, 0, 0, 0, 0, ()) with
  | some (x, y, h, e, _) => if e = 0 then ⟨x, y, h, a.W⟩ else a
  | none => a

theorem f20_zero (s : Int) : f20 (0, s, ()) = some (0, f92 s, ()) := by
  have w0 : IntKind.i64.wrap (IntKind.i64.wrap (2 * 0) + 1) = 1 := by rw [w64 (n := 2 * 0) (by omega) (by omega), w64 (by omega) (by omega)]; omega
  have w1 : IntKind.u64.wrap 1 = 1 := u64w (by omega) (by omega)
  have c1 : ¬ (1 : Int) < 1 := by omega
  have c2 : ¬ (1 : Int) > 2147483648 := by omega
  have q : ((1 : Int) == 0) = false := rfl
  have e : ((f92 s).fdiv 8589934592).tmod 1 = 0 := Int.tmod_one _
  have w2 : IntKind.i64.wrap 0 = 0 := w64 (by omega) (by omega)
  have w3 : IntKind.i64.wrap (0 - 0) = 0 := by rw [w64 (by omega) (by omega)]; omega
  unfold f20 f40 f72
  simp only [w0, c1, c2, decide_false, cond_false, w1, q, e, w2, Option.bind_some, w3]

theorem mvP_ok {t f : Int} {a : Pa} (h : okP a) : okP (mvP t f a) ∧ (mvP t f a).W = a.W := by
  obtain ⟨x', y', h', err, s1, k1, _⟩ := f21_spec a.X a.Y a.H t f 0 0 0 0
  unfold mvP
  rw [s1]
  simp only
  by_cases e : err = 0
  · rw [if_pos e]
    exact ⟨⟨k1 e, h.2⟩, rfl⟩
  · rw [if_neg e]
    exact ⟨h, rfl⟩

section
variable {t f R : Int} {l : List Pa}

theorem l8_0_spec (hl : l.length ≤ 1024) : ∀ (k i : Nat) (s : Int) (ob : List Pa), l.length - i = k → i ≤ l.length → MapInv (mvP t f) l i ob →
    ∃ s', l8_0 (l.length, l.length, (l.length : Int), (i : Int), t, f, 0, 0, 0, R, s, ob, ()) = some (l.length, s', l.map (mvP t f), ())
  | k, i, s, ob, hk, hi, hI => by
    unfold l8_0
    rw [iterO_eq]
    by_cases e : i = l.length
    · have c1 : ¬ (i : Int) < (l.length : Int) := by omega
      have hd : r8_0 (l.length, l.length, (l.length : Int), (i : Int), t, f, 0, 0, 0, R, s, ob, ()) = some (.inr (l.length, s, ob, ())) := by
        unfold r8_0
        simp only [c1, decide_false, cond_false]
      rw [hd]
      subst e
      exact ⟨s, by rw [hI.done]⟩
    · have hlt : i < l.length := by omega
      have c1 : (i : Int) < (l.length : Int) := by omega
      have c2 : (0 : Int) ≤ (i : Int) := by omega
      obtain ⟨a, ha⟩ : ∃ a, l[i]? = some a := ⟨_, List.getElem?_eq_getElem hlt⟩
      have hob : ob[i]? = some a := by rw [hI.new i (Nat.le_refl _), ha]
      have w1 : IntKind.i64.wrap ((i : Int) + 1) = ((i + 1 : Nat) : Int) := by rw [w64 (by omega) (by omega)]; rfl
      obtain ⟨x', y', h', err, s1, _, _⟩ := f21_spec a.X a.Y a.H t f 0 0 0 0
      match k, hk with
      | 0, hk => omega
      | k + 1, hk =>
        by_cases he : err = 0
        · have q : (err == 0) = true := by simpa using he
          have hg : mvP t f a = ⟨x', y', h', a.W⟩ := by unfold mvP; rw [s1]; simp only [he, if_true]
          have hd : r8_0 (l.length, l.length, (l.length : Int), (i : Int), t, f, 0, 0, 0, R, s, ob, ()) = some (.inl (l.length, l.length, (l.length : Int), ((i + 1 : Nat) : Int), t, f, 0, 0, 0, R, f92 (f92 (f92 (f92 s))), ob.set i ⟨x', y', h', a.W⟩, ())) := by
            unfold r8_0
            simp only [c1, c2, decide_true, Bool.and_self, cond_true, Nat.zero_add, Int.toNat_natCast, hob, Option.bind_some, f20_zero, s1, q, j8_49, w1]
          rw [hd, ← hg]
          exact l8_0_spec hl k (i + 1) _ _ (by omega) (by omega) (hI.step ha)
        · have q : (err == 0) = false := by simpa using he
          have hg : mvP t f a = a := by unfold mvP; rw [s1]; simp only [he, if_false]
          have hd : r8_0 (l.length, l.length, (l.length : Int), (i : Int), t, f, 0, 0, 0, R, s, ob, ()) = some (.inl (l.length, l.length, (l.length : Int), ((i + 1 : Nat) : Int), t, f, 0, 0, 0, R, f92 (f92 (f92 (f92 s))), ob, ())) := by
            unfold r8_0
            simp only [c1, c2, decide_true, Bool.and_self, cond_true, Nat.zero_add, Int.toNat_natCast, hob, Option.bind_some, f20_zero, s1, q, cond_false, j8_49, w1]
          rw [hd]
          exact l8_0_spec hl k (i + 1) _ _ (by omega) (by omega) (hI.same ha hg)

/-- particle.Move, without errors. -/
theorem f8_spec (hc : okCmd t f) (hR : 1 ≤ R ∧ R ≤ 32) (hl : l.length ≤ 1024) (s : Int) :
    (okF l ∧ ∃ s', f8 (l, t, f, 0, 0, 0, R, s, ()) = some (l.length, s', 0, l.map (mvP t f), ())) ∨ (¬ okF l ∧ f8 (l, t, f, 0, 0, 0, R, s, ()) = some (0, 0, 1, [], ())) := by
  obtain ⟨v, h1, h2⟩ := f16_spec hl
  by_cases hv : okF l
  · left
    refine ⟨hv, ?_⟩
    obtain ⟨s', h3⟩ := l8_0_spec (t := t) (f := f) (R := R) hl l.length 0 s l rfl (by omega) (MapInv.zero _ _)
    have h3' : l8_0 (l.length, l.length, (l.length : Int), 0, t, f, 0, 0, 0, R, s, l, ()) = _ := h3
    have hvt : v = true := h2.2 hv
    subst hvt
    refine ⟨s', ?_⟩
    unfold f8
    simp only [h1, Option.bind_some, Bool.not_true, cond_false, f17_spec, hc, decide_true, f18_ok hR, f19_spec hl, h3']
  · right
    refine ⟨hv, ?_⟩
    have hvf : v = false := by cases v with | false => rfl | true => exact (hv (h2.1 rfl)).elim
    subst hvf
    unfold f8
    simp only [h1, Option.bind_some, Bool.not_false, cond_true]
end

/-! ### blocked -/

theorem f96_gen {a b : Int} (ha : -3000000 ≤ a ∧ a ≤ 3000000) (hb : -3000000 ≤ b ∧ b ≤ 3000000) : f96 (a, b, ()) = some (-((-a) / 64) - 1, b / 64, ()) := by
  have w1 : IntKind.i64.wrap (0 - a) = -a := by rw [w64 (by omega) (by omega)]; omega
  have s1 := f84_gen (n := -a) (d := 64) (by omega) (by omega) (by omega)
  have s2 := f84_gen (n := b) (d := 64) (by omega) (by omega) (by omega)
  have w2 : IntKind.i64.wrap (0 - (-a) / 64) = -((-a) / 64) := by rw [w64 (by omega) (by omega)]; omega
  have w3 : IntKind.i64.wrap (-((-a) / 64) - 1) = -((-a) / 64) - 1 := w64 (by omega) (by omega)
  unfold f96
  simp only [w1, s1, s2, Option.bind_some, w2, w3]

section
variable {x0 x1 y1 : Int}

theorem l77_6_spec (hx1 : x1 ≤ 100000) {cy : Int} : ∀ (k : Nat) (cx : Int) (n : Nat) (ob : List Pt), x1 + 1 - cx = k → -100000 ≤ cx → n ≤ ob.length → n + k ≤ 1000 →
    ∃ (n' : Nat) (ob' : List Pt), l77_6 (x0, x1, y1, n, cy, cx, ob, ()) = some (x0, x1, y1, n', cy, ob', ()) ∧ n' ≤ ob'.length ∧ n' ≤ n + k ∧ ob'.take n' = ob.take n ++ rowL (fun _ => True) cy cx k
  | k, cx, n, ob, hk, hcx, hn, hnk => by
    unfold l77_6
    rw [iterO_eq]
    cases k with
    | zero =>
      have c1 : ¬ cx ≤ x1 := by omega
      have hd : r77_6 (x0, x1, y1, n, cy, cx, ob, ()) = some (.inr (x0, x1, y1, n, cy, ob, ())) := by
        unfold r77_6
        simp only [c1, decide_false, cond_false]
      rw [hd]
      exact ⟨n, ob, rfl, hn, by omega, by simp [rowL]⟩
    | succ k =>
      have c1 : cx ≤ x1 := by omega
      have w1 : IntKind.i64.wrap (cx + 1) = cx + 1 := w64 (by omega) (by omega)
      have ro : roomy (n + 1) 16 = true := roomy_ok (by omega)
      have hd : r77_6 (x0, x1, y1, n, cy, cx, ob, ()) = some (.inl (x0, x1, y1, n + 1, cy, cx + 1, ob.take n ++ [Pt.mk cx cy], ())) := by
        unfold r77_6
        simp only [c1, decide_true, cond_true, Nat.zero_add, hn, ro, w1, List.drop_zero]
      have hl : (ob.take n).length = n := by rw [List.length_take]; omega
      obtain ⟨n', ob', q1, q2, q4, q3⟩ := l77_6_spec hx1 (cy := cy) k (cx + 1) (n + 1) (ob.take n ++ [Pt.mk cx cy]) (by omega) (by omega) (by simp [hl]) (by omega)
      rw [hd]
      refine ⟨n', ob', q1, q2, by omega, ?_⟩
      rw [q3, List.take_of_length_le (by simp [hl])]
      have e : rowL (fun _ => True) cy cx (k + 1) = [⟨cx, cy⟩] ++ rowL (fun _ => True) cy (cx + 1) k := by
        rw [rowL, if_pos trivial]
      rw [e, List.append_assoc]

theorem l77_0_spec (hx0 : -100000 ≤ x0) (hx1 : x1 ≤ 100000) (hy1 : y1 ≤ 100000) {w : Nat} (hw : x1 + 1 - x0 = w) (hw2 : w ≤ 4) : ∀ (k : Nat) (cy : Int) (n : Nat) (ob : List Pt), y1 + 1 - cy = k → -100000 ≤ cy → n ≤ ob.length → n + k * 4 ≤ 900 →
    ∃ (n' : Nat) (ob' : List Pt), l77_0 (x0, x1, y1, n, cy, ob, ()) = some (n', ob', ()) ∧ n' ≤ ob'.length ∧ ob'.take n' = ob.take n ++ gridL (fun _ => True) x0 w cy k
  | k, cy, n, ob, hk, hcy, hn, hnk => by
    unfold l77_0
    rw [iterO_eq]
    cases k with
    | zero =>
      have c1 : ¬ cy ≤ y1 := by omega
      have hd : r77_0 (x0, x1, y1, n, cy, ob, ()) = some (.inr (n, ob, ())) := by
        unfold r77_0
        simp only [c1, decide_false, cond_false]
      rw [hd]
      exact ⟨n, ob, rfl, hn, by simp [gridL]⟩
    | succ k =>
      have c1 : cy ≤ y1 := by omega
      have w1 : IntKind.i64.wrap (cy + 1) = cy + 1 := w64 (by omega) (by omega)
      obtain ⟨n1, ob1, r1, r2, r4, r3⟩ := l77_6_spec (x0 := x0) (y1 := y1) hx1 (cy := cy) w x0 n ob hw hx0 hn (by omega)
      have hd : r77_0 (x0, x1, y1, n, cy, ob, ()) = some (.inl (x0, x1, y1, n1, cy + 1, ob1, ())) := by
        unfold r77_0
        simp only [c1, decide_true, cond_true, r1, Option.bind_some, w1]
      obtain ⟨n', ob', q1, q2, q3⟩ := l77_0_spec hx0 hx1 hy1 hw hw2 k (cy + 1) n1 ob1 (by omega) (by omega) r2 (by omega)
      rw [hd]
      refine ⟨n', ob', q1, q2, ?_⟩
      rw [q3, r3, List.append_assoc]
      rfl
end

/-- plan.Around. -/
theorem f51_spec {a : Pt} (ha : nearP a) : ∃ L, f51 (a.X, a.Y, ()) = some (L, ()) ∧ L.length ≤ 100 ∧ ∀ c, c ∈ L ↔ inC a c := by
  have hn := ha
  unfold nearP at hn
  have s1 := f96_gen (a := a.X) (b := a.X) (by omega) (by omega)
  have s2 := f96_gen (a := a.Y) (b := a.Y) (by omega) (by omega)
  obtain ⟨x0, hx0⟩ : ∃ x0, -((-a.X) / 64) - 1 = x0 := ⟨_, rfl⟩
  obtain ⟨x1, hx1⟩ : ∃ x1, a.X / 64 = x1 := ⟨_, rfl⟩
  obtain ⟨y0, hy0⟩ : ∃ y0, -((-a.Y) / 64) - 1 = y0 := ⟨_, rfl⟩
  obtain ⟨y1, hy1⟩ : ∃ y1, a.Y / 64 = y1 := ⟨_, rfl⟩
  rw [hx0, hx1] at s1
  rw [hy0, hy1] at s2
  have bx : 1 ≤ x1 - x0 + 1 ∧ x1 - x0 + 1 ≤ 2 := by omega
  have by' : 1 ≤ y1 - y0 + 1 ∧ y1 - y0 + 1 ≤ 2 := by omega
  have w1 : IntKind.i64.wrap (x1 - x0) = x1 - x0 := w64 (by omega) (by omega)
  have w2 : IntKind.i64.wrap (y1 - y0) = y1 - y0 := w64 (by omega) (by omega)
  have w3 : IntKind.i64.wrap (x1 - x0 + 1) = x1 - x0 + 1 := w64 (by omega) (by omega)
  have w4 : IntKind.i64.wrap (y1 - y0 + 1) = y1 - y0 + 1 := w64 (by omega) (by omega)
  have mb := mulb (a := x1 - x0 + 1) (b := y1 - y0 + 1) (A := 2) (B := 2) (by omega) (by omega) (by omega) (by omega)
  have w5 : IntKind.i64.wrap ((x1 - x0 + 1) * (y1 - y0 + 1)) = (x1 - x0 + 1) * (y1 - y0 + 1) := w64 (by omega) (by omega)
  have c1 : ¬ ((x1 - x0 + 1) * (y1 - y0 + 1) > 8192) := by omega
  obtain ⟨n, ob, q1, q2, q3⟩ := l77_0_spec (x0 := x0) (x1 := x1) (y1 := y1) (by omega) (by omega) (by omega) (w := (x1 + 1 - x0).toNat) (by omega) (by omega) (y1 + 1 - y0).toNat y0 0 [] (by omega) (by omega) (by simp) (by omega)
  have s83 : f83 a.X a.Y = true := (f83_spec a).2 ha
  have s95 : f95 a.X a.Y a.X a.Y = true := by
    unfold f95
    simp only [Int.le_refl, decide_true, cond_true, s83]
  rw [List.take_nil, List.nil_append] at q3
  refine ⟨gridL (fun _ => True) x0 (x1 + 1 - x0).toNat y0 (y1 + 1 - y0).toNat, ?_, ?_, fun c => ?_⟩
  · unfold f51 f77
    simp only [s95, Bool.not_true, cond_false, s1, s2, Option.bind_some, w1, w2, w3, w4, w5, c1, decide_false, q1, Nat.zero_add, q2, decide_true, cond_true, List.drop_zero, q3]
  · have := gridL_len (fun _ => True) x0 (x1 + 1 - x0).toNat (y1 + 1 - y0).toNat y0
    have h2 := Nat.mul_le_mul (show (y1 + 1 - y0).toNat ≤ 2 by omega) (show (x1 + 1 - x0).toNat ≤ 2 by omega)
    omega
  · rw [gridL_mem]
    unfold inC
    constructor
    · rintro ⟨h1, h2, h3, _⟩
      omega
    · intro h
      exact ⟨by omega, by omega, by omega, trivial⟩

section
variable {p : Pl}

/-- particle.blocked. -/
theorem f24_spec (hp : p.Ok) {a : Pt} (ha : nearP a) : ∃ t : Bool, f24 (p.W, p.H, p.C, a.X, a.Y, ()) = some (t, ()) ∧ (t = false ↔ Clear p a) := by
  have hw := hp.w2
  have hh := hp.h2
  have hw1 := hp.w1
  have hh1 := hp.h1
  have w1 : IntKind.i64.wrap (p.W * 64) = p.W * 64 := w64 (by omega) (by omega)
  have w2 : IntKind.i64.wrap (p.H * 64) = p.H * 64 := w64 (by omega) (by omega)
  by_cases hin : inRp p a
  · have hin2 := hin
    unfold inRp at hin2
    have c1 : ¬ a.X < 0 := by omega
    have c2 : ¬ a.Y < 0 := by omega
    have c3 : ¬ a.X > p.W * 64 := by omega
    have c4 : ¬ a.Y > p.H * 64 := by omega
    obtain ⟨L, s1, s3, s2⟩ := f51_spec ha
    have key := ixg (r := r76_0) (fun i => (L, (L.length : Int), (i : Int), p.W, p.H, p.C, ())) (fun c => p.val c == 2) (fun i => ((i : Int), p.W, p.H, p.C, ())) (p.W, p.H, p.C, ()) (l := L) (fun i c hc => by
      have hlt := (List.getElem?_eq_some_iff.1 hc).1
      have c1 : (i : Int) < (L.length : Int) := by omega
      have w1 : IntKind.i64.wrap ((i : Int) + 1) = ((i + 1 : Nat) : Int) := by rw [w64 (by omega) (by omega)]; rfl
      unfold r76_0 f52
      simp only [c1, decide_true, cond_true, idxO_nat, hc, Option.bind_some, w1, f53_spec hp]
      cases (p.val c == 2) <;> rfl) (by
      have c1 : ¬ (L.length : Int) < (L.length : Int) := by omega
      unfold r76_0
      simp only [c1, decide_false, cond_false]) L.length 0 rfl (by omega)
    rw [List.drop_zero] at key
    rcases key with ⟨h1, k, h3⟩ | ⟨h1, h3⟩
    · have h3' : iterO r76_0 (L, (L.length : Int), 0, p.W, p.H, p.C, ()) = _ := h3
      have c5 : (k : Int) ≥ 0 := by omega
      refine ⟨true, ?_, ?_⟩
      · unfold f24 f50 f76 l76_0
        simp only [c1, c2, w1, w2, c3, c4, decide_false, cond_false, s1, Option.bind_some, h3', Sum.elim_inl, c5, decide_true]
      · constructor
        · intro h; cases h
        · intro hcl
          obtain ⟨c, hc, hv⟩ := List.any_eq_true.1 h1
          exact (hcl c ((s2 c).1 hc) (by simpa using hv)).elim
    · have h3' : iterO r76_0 (L, (L.length : Int), 0, p.W, p.H, p.C, ()) = _ := h3
      have c5 : ¬ ((-1 : Int) ≥ 0) := by omega
      refine ⟨false, ?_, ?_⟩
      · unfold f24 f50 f76 l76_0
        simp only [c1, c2, w1, w2, c3, c4, decide_false, cond_false, s1, Option.bind_some, h3', Sum.elim_inr, c5]
      · refine ⟨fun _ c hc hv => ?_, fun _ => rfl⟩
        have := List.any_eq_false.1 h1 c ((s2 c).2 hc)
        simp [hv] at this
  · refine ⟨true, ?_, ⟨fun h => (by cases h), fun h => (hin (h.inRp hp)).elim⟩⟩
    unfold inRp at hin
    unfold f24
    by_cases c1 : a.X < 0
    · simp only [c1, decide_true, cond_true]
    · by_cases c2 : a.Y < 0
      · simp only [c1, c2, decide_true, decide_false, cond_true, cond_false]
      · by_cases c3 : a.X > p.W * 64
        · simp only [c1, c2, w1, c3, decide_true, decide_false, cond_true, cond_false]
        · have c4 : a.Y > p.H * 64 := by omega
          simp only [c1, c2, w1, w2, c3, c4, decide_true, decide_false, cond_true, cond_false]

/-- ray.Plausible answers. -/
theorem f25_total (hp : p.Ok) {px py h R : Int} (hin : inRp p ⟨px, py⟩) (hh : 0 ≤ h ∧ h ≤ 255) (hR : 1 ≤ R ∧ R ≤ 32) {b : Bm} (hm : 0 ≤ b.M ∧ b.M ≤ 255) (hr : -1 ≤ b.R ∧ b.R ≤ 1024) : ∃ t : Bool, f25 (p.W, p.H, p.C, px, py, h, b.M, b.R, R, ()) = some (t, ()) := by
  obtain ⟨x, y, d, sb, hv⟩ := f81_spec h b.M
  have st : f54 (p.W, p.H, p.C, px, py, h, ()) = some (true, ()) := by rw [f54_spec hp, decide_eq_true ⟨hin, hh⟩]
  have e1 : f56 R 1 32 = true := by rw [f56_spec]; exact decide_eq_true hR
  have e3 : f55 b.M b.R = true := by
    unfold f55
    rw [f56_spec, f56_spec, decide_eq_true hm, decide_eq_true hr]
    rfl
  have w0 : IntKind.i64.wrap (1024 - R) = 1024 - R := w64 (by omega) (by omega)
  have w4 : IntKind.i64.wrap (b.R + R) = b.R + R := w64 (by omega) (by omega)
  by_cases hz : b.R = -1
  · have q : (b.R == -1) = true := by simpa using hz
    have l0 := f57_spec hp hin sb hv (most := 1024 - R) (by omega) (by omega)
    refine ⟨!(encB (fst p px py x y d (1024 - R))).1, ?_⟩
    unfold f25
    simp only [st, Option.bind_some, Bool.not_true, cond_false, e3, e1, q, cond_true, w0, l0]
  · have q : (b.R == -1) = false := by simpa using hz
    have l0 := f57_spec hp hin sb hv (most := b.R + R) (by omega) (by omega)
    cases hf : (encB (fst p px py x y d (b.R + R))).1 with
    | true =>
      refine ⟨decide ((encB (fst p px py x y d (b.R + R))).2.1 ≥ IntKind.i64.wrap (IntKind.i64.wrap (b.R - R) * (encB (fst p px py x y d (b.R + R))).2.2.1)), ?_⟩
      unfold f25
      simp only [st, Option.bind_some, Bool.not_true, cond_false, e3, e1, q, w4, l0, hf, cond_true]
    | false =>
      refine ⟨false, ?_⟩
      unfold f25
      simp only [st, Option.bind_some, Bool.not_true, cond_false, e3, e1, q, w4, l0, hf]
end
end Go.AE
