/-
  Lists of evidence as functions of cells; a list in order without what counts nothing is known by its function. Tallies.
-/
import Derived.Test.YtadnppefidjhfaaGreatP6
namespace Go.AE
open Go.RowKit
set_option maxRecDepth 100000

/-- The cell of an entry; an entry of a cell. -/
def cel (e : En) : Pt := ⟨e.X, e.Y⟩
/-- What a list counts at a cell. -/
def valA (l : List En) (c : Pt) : Int := match l.find? (fun e => decide (cel e = c)) with
  | some e => e.A
  | none => 0
def valB (l : List En) (c : Pt) : Int := match l.find? (fun e => decide (cel e = c)) with
  | some e => e.B
  | none => 0

structure Nrm (l : List En) : Prop where
  s : l.Pairwise ltE
  nz : ∀ e ∈ l, nzE e = true

theorem nzE_iff {e : En} : nzE e = true ↔ ¬ (e.A = 0 ∧ e.B = 0) := by
  unfold nzE f65
  by_cases h1 : e.A = 0 <;> by_cases h2 : e.B = 0 <;> simp [h1, h2]

theorem ltE_cel {a b : En} (h : ltE a b) : cel a ≠ cel b := fun e => by
  have e1 : a.X = b.X := congrArg Pt.X e
  have e2 : a.Y = b.Y := congrArg Pt.Y e
  unfold ltE at h
  omega

/-- In a list in order there is one entry a cell. -/
theorem one_cel {l : List En} (h : l.Pairwise ltE) {a b : En} (ha : a ∈ l) (hb : b ∈ l) (he : cel a = cel b) : a = b := by
  obtain ⟨i, hi, rfl⟩ := List.getElem_of_mem ha
  obtain ⟨j, hj, rfl⟩ := List.getElem_of_mem hb
  rcases Nat.lt_trichotomy i j with h1 | h1 | h1
  · exact (ltE_cel (List.pairwise_iff_getElem.1 h i j hi hj h1) he).elim
  · subst h1; rfl
  · exact (ltE_cel (List.pairwise_iff_getElem.1 h j i hj hi h1) he.symm).elim

theorem find_mem {l : List En} (h : l.Pairwise ltE) {e : En} (he : e ∈ l) : l.find? (fun x => decide (cel x = cel e)) = some e := by
  cases hf : l.find? (fun x => decide (cel x = cel e)) with
  | none =>
    have := List.find?_eq_none.1 hf e he
    simp at this
  | some x =>
    have h1 := List.mem_of_find?_eq_some hf
    have h2 := List.find?_some hf
    rw [one_cel h h1 he (by simpa using h2)]

theorem val_mem {l : List En} (h : l.Pairwise ltE) {e : En} (he : e ∈ l) : valA l (cel e) = e.A ∧ valB l (cel e) = e.B := by
  unfold valA valB
  rw [find_mem h he]
  exact ⟨rfl, rfl⟩
theorem val_none {l : List En} {c : Pt} (h : ∀ e ∈ l, cel e ≠ c) : valA l c = 0 ∧ valB l c = 0 := by
  have : l.find? (fun x => decide (cel x = c)) = none := List.find?_eq_none.2 (fun e he => by simpa using h e he)
  unfold valA valB
  rw [this]
  exact ⟨rfl, rfl⟩
theorem val_cases (l : List En) (h : l.Pairwise ltE) (c : Pt) : (∃ e ∈ l, cel e = c ∧ valA l c = e.A ∧ valB l c = e.B) ∨ (∀ e ∈ l, cel e ≠ c) ∧ valA l c = 0 ∧ valB l c = 0 := by
  by_cases hx : ∃ e ∈ l, cel e = c
  · obtain ⟨e, he, rfl⟩ := hx
    exact .inl ⟨e, he, rfl, val_mem h he⟩
  · have hn : ∀ e ∈ l, cel e ≠ c := fun e he h => hx ⟨e, he, h⟩
    exact .inr ⟨hn, val_none hn⟩

theorem Nrm.mem_iff {l : List En} (h : Nrm l) (e : En) : e ∈ l ↔ nzE e = true ∧ valA l (cel e) = e.A ∧ valB l (cel e) = e.B := by
  constructor
  · intro he
    exact ⟨h.nz e he, val_mem h.s he⟩
  · rintro ⟨h1, h2, h3⟩
    rcases val_cases l h.s (cel e) with ⟨x, hx, e1, e2, e3⟩ | ⟨_, e2, e3⟩
    · have : x = e := by
        have a1 : x.X = e.X := congrArg Pt.X e1
        have a2 : x.Y = e.Y := congrArg Pt.Y e1
        cases x
        cases e
        simp only at *
        rw [a1, a2, ← e2, ← e3, h2, h3]
      rw [← this]
      exact hx
    · exact (nzE_iff.1 h1 ⟨by rw [← h2, e2], by rw [← h3, e3]⟩).elim

theorem Nrm.ext {l m : List En} (h : Nrm l) (k : Nrm m) (hv : ∀ c, valA l c = valA m c ∧ valB l c = valB m c) : l = m := by
  have nd : ∀ {l : List En}, Nrm l → l.Nodup := fun {l} h => List.Pairwise.imp (R := ltE) (fun {a b} hab (e : a = b) => ltE_cel hab (by rw [e])) h.s
  have hp : l.Perm m := (List.perm_ext_iff_of_nodup (nd h) (nd k)).2 fun e => by
    rw [h.mem_iff, k.mem_iff, (hv (cel e)).1, (hv (cel e)).2]
  exact List.Perm.eq_of_pairwise (le := ltE) (fun a b _ _ h1 h2 => by unfold ltE at h1 h2; omega) h.s k.s hp

/-! ### Tallies -/

theorem K51_iff (a b : Pt) : K51 a b = decide (a = b) := by
  rw [key51]
  cases a with
  | mk x y => cases b with
    | mk u v =>
      by_cases h1 : x = u
      · by_cases h2 : y = v <;> simp [h1, h2]
      · simp [h1]

noncomputable def tvA (t : List (Pt × En)) (c : Pt) : Int := match mget K51 t c with
  | some e => e.A
  | none => 0
noncomputable def tvB (t : List (Pt × En)) (c : Pt) : Int := match mget K51 t c with
  | some e => e.B
  | none => 0

structure Tal (n : Nat) (t : List (Pt × En)) : Prop where
  nd : t.Pairwise fun p q => p.1 ≠ q.1
  cl : ∀ p ∈ t, cel p.2 = p.1 ∧ (-16384 ≤ p.1.X ∧ p.1.X ≤ 16384) ∧ -16384 ≤ p.1.Y ∧ p.1.Y ≤ 16384
  len : t.length ≤ n

theorem mget_put {t : List (Pt × En)} {k c : Pt} {v : En} : mget K51 (mput K51 t k v) c = if c = k then some v else mget K51 t c := by
  induction t with
  | nil =>
    unfold mput mget mget
    rw [K51_iff]
    by_cases h : c = k <;> simp [h]
  | cons p t ih =>
    unfold mput
    rw [K51_iff]
    by_cases h : k = p.1
    · subst h
      simp only [decide_true, cond_true]
      unfold mget
      rw [K51_iff]
      by_cases h2 : c = p.1 <;> simp [h2]
    · simp only [h, decide_false, cond_false]
      unfold mget
      rw [K51_iff, ih]
      by_cases h2 : c = p.1
      · have h3 : c ≠ k := fun e => h (by rw [← e, h2])
        simp [h2, Ne.symm h]
      · simp [h2]

theorem mput_mem {t : List (Pt × En)} {k : Pt} {v : En} (hn : t.Pairwise fun p q => p.1 ≠ q.1) {p : Pt × En} (h : p ∈ mput K51 t k v) : p = (k, v) ∨ p ∈ t ∧ p.1 ≠ k := by
  induction t with
  | nil =>
    unfold mput at h
    exact .inl (List.mem_singleton.1 h)
  | cons q t ih =>
    obtain ⟨h1, h2⟩ := List.pairwise_cons.1 hn
    unfold mput at h
    rw [K51_iff] at h
    by_cases hk : k = q.1
    · subst hk
      simp only [decide_true, cond_true] at h
      rcases List.mem_cons.1 h with h | h
      · exact .inl h
      · exact .inr ⟨List.mem_cons_of_mem _ h, fun e => h1 p h e.symm⟩
    · simp only [hk, decide_false, cond_false] at h
      rcases List.mem_cons.1 h with h | h
      · subst h
        exact .inr ⟨List.mem_cons_self, fun e => hk e.symm⟩
      · rcases ih h2 h with h | ⟨h, h'⟩
        · exact .inl h
        · exact .inr ⟨List.mem_cons_of_mem _ h, h'⟩

theorem mput_len (t : List (Pt × En)) (k : Pt) (v : En) : (mput K51 t k v).length ≤ t.length + 1 := by
  induction t with
  | nil => unfold mput; simp
  | cons q t ih =>
    unfold mput
    cases K51 k q.1
    · simp only [cond_false, List.length_cons]; omega
    · simp only [cond_true, List.length_cons]; omega

theorem mput_nd {t : List (Pt × En)} {k : Pt} {v : En} (hn : t.Pairwise fun p q => p.1 ≠ q.1) : (mput K51 t k v).Pairwise fun p q => p.1 ≠ q.1 := by
  induction t with
  | nil => unfold mput; simp
  | cons q t ih =>
    obtain ⟨h1, h2⟩ := List.pairwise_cons.1 hn
    unfold mput
    rw [K51_iff]
    by_cases hk : k = q.1
    · subst hk
      simp only [decide_true, cond_true]
      exact List.pairwise_cons.2 ⟨h1, h2⟩
    · simp only [hk, decide_false, cond_false]
      refine List.pairwise_cons.2 ⟨fun p hp => ?_, ih h2⟩
      rcases mput_mem h2 hp with h | ⟨h, _⟩
      · rw [h]; exact fun e => hk e.symm
      · exact h1 p h

theorem mget_mem {t : List (Pt × En)} {c : Pt} {e : En} (h : mget K51 t c = some e) : (c, e) ∈ t := by
  induction t with
  | nil => unfold mget at h; cases h
  | cons q t ih =>
    unfold mget at h
    rw [K51_iff] at h
    by_cases hk : c = q.1
    · subst hk
      simp only [decide_true, cond_true] at h
      cases h
      exact List.mem_cons_self
    · simp only [hk, decide_false, cond_false] at h
      exact List.mem_cons_of_mem _ (ih h)
theorem mget_of_mem {t : List (Pt × En)} (hn : t.Pairwise fun p q => p.1 ≠ q.1) {p : Pt × En} (h : p ∈ t) : mget K51 t p.1 = some p.2 := by
  induction t with
  | nil => cases h
  | cons q t ih =>
    obtain ⟨h1, h2⟩ := List.pairwise_cons.1 hn
    unfold mget
    rw [K51_iff]
    rcases List.mem_cons.1 h with h | h
    · rw [h]; simp
    · have : p.1 ≠ q.1 := fun e => h1 p h e.symm
      simp only [this, decide_false, cond_false]
      exact ih h2 h

/-- tally.add. -/
theorem add_spec {t : List (Pt × En)} {n : Nat} (h : Tal n t) {c : Pt} (hc : (-16384 ≤ c.X ∧ c.X ≤ 16384) ∧ -16384 ≤ c.Y ∧ c.Y ≤ 16384) {a b : Int} (ha : -4000000000000 ≤ tvA t c + a ∧ tvA t c + a ≤ 4000000000000) (hb : -4000000000000 ≤ tvB t c + b ∧ tvB t c + b ≤ 4000000000000) :
    Tal (n + 1) (f35 c.X c.Y a b t) ∧ ∀ x, tvA (f35 c.X c.Y a b t) x = (if x = c then tvA t c + a else tvA t x) ∧ tvB (f35 c.X c.Y a b t) x = (if x = c then tvB t c + b else tvB t x) := by
  have e : (Pt.mk c.X c.Y) = c := rfl
  have g1 : ((mget K51 t c).getD ⟨0, 0, 0, 0⟩).A = tvA t c := by unfold tvA; cases mget K51 t c <;> rfl
  have g2 : ((mget K51 t c).getD ⟨0, 0, 0, 0⟩).B = tvB t c := by unfold tvB; cases mget K51 t c <;> rfl
  have hf : f35 c.X c.Y a b t = mput K51 t c ⟨c.X, c.Y, tvA t c + a, tvB t c + b⟩ := by
    rw [f35_eq, e, g1, g2, w64 (by omega) (by omega), w64 (by omega) (by omega)]
  rw [hf]
  refine ⟨⟨mput_nd h.nd, fun p hp => ?_, Nat.le_trans (mput_len _ _ _) (by have := h.len; omega)⟩, fun x => ?_⟩
  · rcases mput_mem h.nd hp with h1 | ⟨h1, _⟩
    · rw [h1]; exact ⟨rfl, hc⟩
    · exact h.cl p h1
  · unfold tvA tvB
    rw [mget_put]
    by_cases hx : x = c
    · subst hx
      simp
    · simp [hx]

/-- (tally).list. -/
theorem list_spec {t : List (Pt × En)} {n : Nat} (h : Tal n t) (hn : n ≤ 1000000) : okTl t = true ∧ Nrm (listE t) ∧ (∀ c, valA (listE t) c = tvA t c ∧ valB (listE t) c = tvB t c) ∧ (listE t).length ≤ t.length ∧
    ∀ e ∈ listE t, ((-16384 ≤ e.X ∧ e.X ≤ 16384) ∧ -16384 ≤ e.Y ∧ e.Y ≤ 16384) := by
  have hap : (t.map (·.2)).Pairwise fun a b => ¬ (a.X = b.X ∧ a.Y = b.Y) := by
    rw [List.pairwise_map]
    have := h.nd
    rw [List.pairwise_iff_getElem] at this ⊢
    intro i j hi hj hij hx
    refine this i j hi hj hij ?_
    rw [← (h.cl _ (List.getElem_mem hi)).1, ← (h.cl _ (List.getElem_mem hj)).1]
    unfold cel
    rw [hx.1, hx.2]
  have hmem : ∀ e, e ∈ listE t ↔ (∃ p ∈ t, p.2 = e) ∧ nzE e = true := fun e => by
    unfold listE
    rw [(sortE_perm _).mem_iff, List.mem_filter, List.mem_map]
  have hs : (listE t).Pairwise ltE := by
    have h1 := sortE_sorted ((t.map (·.2)).filter nzE)
    have h0 : ((t.map (·.2)).filter nzE).Pairwise fun a b => ¬ sameC a b := (hap.sublist List.filter_sublist)
    have h2 : (listE t).Pairwise fun a b => ¬ sameC a b := (sortE_perm _).symm.pairwise h0 (fun {a b} h h' => h ⟨h'.1.symm, h'.2.symm⟩)
    refine (h1.and h2).imp fun {a b} h => ?_
    obtain ⟨k1, k2⟩ := h
    unfold ltE
    unfold sameC at k2
    simp [leE] at k1
    omega
  have hN : Nrm (listE t) := ⟨hs, fun e he => ((hmem e).1 he).2⟩
  refine ⟨?_, hN, fun c => ?_, ?_, fun e he => ?_⟩
  · unfold okTl apartE
    simp only [Bool.and_eq_true, decide_eq_true_eq]
    exact ⟨by have := h.len; omega, hap⟩
  · cases hg : mget K51 t c with
    | none =>
      have hno : ∀ e ∈ listE t, cel e ≠ c := fun e he hc => by
        obtain ⟨⟨p, hp, rfl⟩, _⟩ := (hmem e).1 he
        rw [(h.cl p hp).1] at hc
        have := mget_of_mem h.nd hp
        rw [hc, hg] at this
        cases this
      obtain ⟨e1, e2⟩ := val_none hno
      rw [e1, e2]
      unfold tvA tvB
      rw [hg]
      exact ⟨rfl, rfl⟩
    | some e =>
      have hp := mget_mem hg
      have hce : cel e = c := (h.cl _ hp).1
      have t1 : tvA t c = e.A := by unfold tvA; rw [hg]
      have t2 : tvB t c = e.B := by unfold tvB; rw [hg]
      rw [t1, t2]
      cases hz : nzE e with
      | true =>
        have := val_mem hs ((hmem e).2 ⟨⟨_, hp, rfl⟩, hz⟩)
        rw [hce] at this
        exact this
      | false =>
        have hz2 : e.A = 0 ∧ e.B = 0 := Classical.byContradiction fun hx => by rw [nzE_iff.2 hx] at hz; cases hz
        have hno : ∀ e' ∈ listE t, cel e' ≠ c := fun e' he hc => by
          obtain ⟨⟨p, hp', rfl⟩, hnz⟩ := (hmem e').1 he
          rw [(h.cl p hp').1] at hc
          have := mget_of_mem h.nd hp'
          rw [hc, hg] at this
          cases this
          rw [hz] at hnz
          cases hnz
        obtain ⟨e1, e2⟩ := val_none hno
        rw [e1, e2, hz2.1, hz2.2]
        exact ⟨rfl, rfl⟩
  · unfold listE
    rw [sortE_len]
    exact Nat.le_trans (List.length_filter_le _ _) (by rw [List.length_map]; exact Nat.le_refl _)
  · obtain ⟨⟨p, hp, rfl⟩, _⟩ := (hmem e).1 he
    have := h.cl p hp
    rw [← this.1] at this
    exact this.2
end Go.AE

/-
  evidence.combine: the list of the sums.
-/
namespace Go.AE
open Go.RowKit
set_option maxRecDepth 100000

/-- A good list: in order, nothing that counts nothing, its counters at most N, its cells not far, at most L entries. -/
structure Good (N L : Nat) (l : List En) : Prop where
  n : Nrm l
  A : ∀ e ∈ l, -(N : Int) ≤ e.A ∧ e.A ≤ N
  B : ∀ e ∈ l, -(N : Int) ≤ e.B ∧ e.B ≤ N
  c : ∀ e ∈ l, (-16384 ≤ e.X ∧ e.X ≤ 16384) ∧ -16384 ≤ e.Y ∧ e.Y ≤ 16384
  len : l.length ≤ L

theorem Good.mono {N L N' L' : Nat} {l : List En} (h : Good N L l) (h1 : N ≤ N') (h2 : L ≤ L') : Good N' L' l :=
  ⟨h.n, fun e he => by have := h.A e he; omega, fun e he => by have := h.B e he; omega, h.c, Nat.le_trans h.len h2⟩
theorem good_nil : Good 0 0 [] := ⟨⟨List.Pairwise.nil, fun e h => (by cases h)⟩, fun e h => (by cases h), fun e h => (by cases h), fun e h => (by cases h), Nat.le_refl _⟩

theorem Good.val {N L : Nat} {l : List En} (h : Good N L l) (c : Pt) : (-(N : Int) ≤ valA l c ∧ valA l c ≤ N) ∧ -(N : Int) ≤ valB l c ∧ valB l c ≤ N := by
  rcases val_cases l h.n.s c with ⟨e, he, _, e2, e3⟩ | ⟨_, e2, e3⟩
  · rw [e2, e3]; exact ⟨h.A e he, h.B e he⟩
  · rw [e2, e3]; omega

theorem Good.take {N L : Nat} {l : List En} (h : Good N L l) (i : Nat) : Good N L (l.take i) :=
  ⟨⟨h.n.s.sublist (List.take_sublist i l), fun e he => h.n.nz e (List.mem_of_mem_take he)⟩, fun e he => h.A e (List.mem_of_mem_take he), fun e he => h.B e (List.mem_of_mem_take he), fun e he => h.c e (List.mem_of_mem_take he), by rw [List.length_take]; have := h.len; omega⟩

/-- evidence.Valid. -/
theorem Good.valid {N L : Nat} {l : List En} (h : Good N L l) (hN : N ≤ 1000000000000) (hL : L ≤ 1000000) : f28 (l, ()) = some (true, ()) :=
  f28_spec (by have := h.len; omega) h.n.s (fun e he => ⟨by have := h.A e he; omega, by have := h.B e he; omega, by
    have := nzE_iff.1 (h.n.nz e he)
    omega, (h.c e he).1, (h.c e he).2⟩)

/-- One more entry of a list in order. -/
theorem val_take {l : List En} (hs : l.Pairwise ltE) {i : Nat} (hi : i < l.length) (c : Pt) : valA (l.take (i + 1)) c = (if c = cel l[i] then l[i].A else valA (l.take i) c) ∧ valB (l.take (i + 1)) c = (if c = cel l[i] then l[i].B else valB (l.take i) c) ∧ valA (l.take i) (cel l[i]) = 0 ∧ valB (l.take i) (cel l[i]) = 0 := by
  have htk : l.take (i + 1) = l.take i ++ [l[i]] := by rw [List.take_add_one, List.getElem?_eq_getElem hi]; rfl
  have hno : ∀ e ∈ l.take i, cel e ≠ cel l[i] := fun e he => by
    obtain ⟨j, hj, rfl⟩ := List.getElem_of_mem he
    rw [List.length_take] at hj
    rw [List.getElem_take]
    exact ltE_cel (List.pairwise_iff_getElem.1 hs j i (by omega) hi (by omega))
  have h0 := val_none hno
  refine ⟨?_, ?_, h0.1, h0.2⟩
  · rw [htk]
    unfold valA
    rw [List.find?_append]
    by_cases h : c = cel l[i]
    · subst h
      rw [List.find?_eq_none.2 (fun e he => by simpa using hno e he)]
      simp
    · cases hf : (l.take i).find? (fun e => decide (cel e = c)) with
      | some e => simp [h]
      | none => simp [h, Ne.symm h]
  · rw [htk]
    unfold valB
    rw [List.find?_append]
    by_cases h : c = cel l[i]
    · subst h
      rw [List.find?_eq_none.2 (fun e he => by simpa using hno e he)]
      simp
    · cases hf : (l.take i).find? (fun e => decide (cel e = c)) with
      | some e => simp [h]
      | none => simp [h, Ne.symm h]

/-- The first list goes into the tally. -/
theorem l24_0_spec {N L : Nat} {a : List En} (ha : Good N L a) (hN : N ≤ 1000000000000) (hL : L ≤ 1000000) (b : List En) (k : Int) : ∀ (s i : Nat) (t : List (Pt × En)), a.length - i = s → i ≤ a.length → Tal i t → (∀ c, tvA t c = valA (a.take i) c ∧ tvB t c = valB (a.take i) c) →
    ∃ t', l24_0 (b, k, a, (a.length : Int), (i : Int), t, ()) = some (b, k, t', ()) ∧ Tal a.length t' ∧ ∀ c, tvA t' c = valA a c ∧ tvB t' c = valB a c
  | s, i, t, hs, hi, ht, hv => by
    unfold l24_0
    rw [iterO_eq]
    by_cases e : i = a.length
    · have c1 : ¬ ((i : Int) < (a.length : Int)) := by omega
      have hr : r24_0 (b, k, a, (a.length : Int), (i : Int), t, ()) = some (.inr (b, k, t, ())) := by
        unfold r24_0
        simp only [c1, decide_false, cond_false]
      rw [hr]
      subst e
      rw [List.take_length] at hv
      exact ⟨t, rfl, ht, hv⟩
    · have hlt : i < a.length := by omega
      have hla := ha.len
      have c1 : ((i : Int) < (a.length : Int)) := by omega
      have hc : a[i]? = some a[i] := List.getElem?_eq_getElem hlt
      have w1 : IntKind.i64.wrap ((i : Int) + 1) = ((i + 1 : Nat) : Int) := by rw [w64 (by omega) (by omega)]; rfl
      have hr : r24_0 (b, k, a, (a.length : Int), (i : Int), t, ()) = some (.inl (b, k, a, (a.length : Int), ((i + 1 : Nat) : Int), f35 a[i].X a[i].Y a[i].A a[i].B t, ())) := by
        unfold r24_0
        simp only [c1, decide_true, cond_true, idxO_nat, hc, Option.bind_some, w1]
      rw [hr]
      have hm := List.getElem_mem hlt
      have hA := ha.A _ hm
      have hB := ha.B _ hm
      have v0 := (val_take ha.n.s hlt (cel a[i])).2.2
      have hv0 := hv (cel a[i])
      obtain ⟨q1, q2⟩ := add_spec ht (c := cel a[i]) (ha.c _ hm) (a := a[i].A) (b := a[i].B) (by omega) (by omega)
      match s, hs with
      | 0, hs => omega
      | s + 1, hs =>
        refine l24_0_spec ha hN hL b k s (i + 1) _ (by omega) (by omega) q1 (fun c => ?_)
        obtain ⟨x1, x2, _, _⟩ := val_take ha.n.s hlt c
        have y := q2 c
        have hvc := hv c
        have e1 : f35 (cel a[i]).X (cel a[i]).Y a[i].A a[i].B t = f35 a[i].X a[i].Y a[i].A a[i].B t := rfl
        rw [e1] at y
        rw [x1, x2, y.1, y.2]
        by_cases h : c = cel a[i]
        · simp only [h, if_true]
          omega
        · simp only [h, if_false]
          exact hvc

/-- The second list, times a factor. -/
theorem l24_6_spec {N L Na : Nat} {b : List En} (hb : Good N L b) (hN : N ≤ 1000000000000) (hNa : Na ≤ 1000000000000) (hL : L ≤ 1000000) {k : Int} (hk : k = 1 ∨ k = -1) {a : List En} (ha : ∀ c, (-(Na : Int) ≤ valA a c ∧ valA a c ≤ Na) ∧ -(Na : Int) ≤ valB a c ∧ valB a c ≤ Na) {m : Nat} : ∀ (s i : Nat) (t : List (Pt × En)), b.length - i = s → i ≤ b.length → Tal (m + i) t →
    (∀ c, tvA t c = valA a c + k * valA (b.take i) c ∧ tvB t c = valB a c + k * valB (b.take i) c) →
    ∃ t', l24_6 (k, b, (b.length : Int), (i : Int), t, ()) = some (t', ()) ∧ Tal (m + b.length) t' ∧ ∀ c, tvA t' c = valA a c + k * valA b c ∧ tvB t' c = valB a c + k * valB b c
  | s, i, t, hs, hi, ht, hv => by
    unfold l24_6
    rw [iterO_eq]
    by_cases e : i = b.length
    · have c1 : ¬ ((i : Int) < (b.length : Int)) := by omega
      have hr : r24_6 (k, b, (b.length : Int), (i : Int), t, ()) = some (.inr (t, ())) := by
        unfold r24_6
        simp only [c1, decide_false, cond_false]
      rw [hr]
      subst e
      rw [List.take_length] at hv
      exact ⟨t, rfl, ht, hv⟩
    · have hlt : i < b.length := by omega
      have hlb := hb.len
      have c1 : ((i : Int) < (b.length : Int)) := by omega
      have hc : b[i]? = some b[i] := List.getElem?_eq_getElem hlt
      have w1 : IntKind.i64.wrap ((i : Int) + 1) = ((i + 1 : Nat) : Int) := by rw [w64 (by omega) (by omega)]; rfl
      have hm := List.getElem_mem hlt
      have hA := hb.A _ hm
      have hB := hb.B _ hm
      have kA : -(N : Int) ≤ k * b[i].A ∧ k * b[i].A ≤ N := by rcases hk with rfl | rfl <;> omega
      have kB : -(N : Int) ≤ k * b[i].B ∧ k * b[i].B ≤ N := by rcases hk with rfl | rfl <;> omega
      have w2 : IntKind.i64.wrap (k * b[i].A) = k * b[i].A := w64 (by omega) (by omega)
      have w3 : IntKind.i64.wrap (k * b[i].B) = k * b[i].B := w64 (by omega) (by omega)
      have hr : r24_6 (k, b, (b.length : Int), (i : Int), t, ()) = some (.inl (k, b, (b.length : Int), ((i + 1 : Nat) : Int), f35 b[i].X b[i].Y (k * b[i].A) (k * b[i].B) t, ())) := by
        unfold r24_6
        simp only [c1, decide_true, cond_true, idxO_nat, hc, Option.bind_some, w1, w2, w3]
      rw [hr]
      have v0 := (val_take hb.n.s hlt (cel b[i])).2.2
      have hv0 := hv (cel b[i])
      rw [v0.1, v0.2, Int.mul_zero, Int.add_zero, Int.add_zero] at hv0
      have ha0 := ha (cel b[i])
      obtain ⟨q1, q2⟩ := add_spec ht (c := cel b[i]) (hb.c _ hm) (a := k * b[i].A) (b := k * b[i].B) (by omega) (by omega)
      match s, hs with
      | 0, hs => omega
      | s + 1, hs =>
        refine l24_6_spec hb hN hNa hL hk ha s (i + 1) _ (by omega) (by omega) q1 (fun c => ?_)
        obtain ⟨x1, x2, _, _⟩ := val_take hb.n.s hlt c
        have y := q2 c
        have hvc := hv c
        have e1 : f35 (cel b[i]).X (cel b[i]).Y (k * b[i].A) (k * b[i].B) t = f35 b[i].X b[i].Y (k * b[i].A) (k * b[i].B) t := rfl
        rw [e1] at y
        rw [x1, x2, y.1, y.2]
        by_cases h : c = cel b[i]
        · subst h
          simp only [if_true]
          rw [hv0.1, hv0.2]
          exact ⟨rfl, rfl⟩
        · simp only [h, if_false]
          exact hvc

/-- No counter is beyond the limit. -/
theorem f41_spec {M : List En} (hl : M.length ≤ 1000000) (hg : ∀ e ∈ M, (-1099511627776 ≤ e.A ∧ e.A ≤ 1099511627776) ∧ -1099511627776 ≤ e.B ∧ e.B ≤ 1099511627776) : f41 (M, ()) = some (false, ()) := by
  have key : ∀ (s i : Nat), M.length - i = s → i ≤ M.length → l969_0 (M, (M.length : Int), (i : Int), ()) = some (.inr ()) := by
    intro s
    induction s with
    | zero =>
      intro i hs hi
      have e : i = M.length := by omega
      subst e
      have c1 : ¬ ((M.length : Int) < (M.length : Int)) := by omega
      unfold l969_0
      have hr : r969_0 (M, (M.length : Int), (M.length : Int), ()) = some (.inr (.inr ())) := by
        unfold r969_0
        simp only [c1, decide_false, cond_false]
      rw [iterO_eq, hr]
    | succ s ih =>
      intro i hs hi
      have hlt : i < M.length := by omega
      have c1 : ((i : Int) < (M.length : Int)) := by omega
      have hc : M[i]? = some M[i] := List.getElem?_eq_getElem hlt
      have w1 : IntKind.i64.wrap ((i : Int) + 1) = ((i + 1 : Nat) : Int) := by rw [w64 (by omega) (by omega)]; rfl
      have hgi := hg _ (List.getElem_mem hlt)
      have hf : f42 M[i].X M[i].Y M[i].A M[i].B = false := by
        unfold f42 f43
        rw [f30_ok (by omega) hgi.1, f30_ok (by omega) hgi.2]
        rfl
      unfold l969_0
      have hr : r969_0 (M, (M.length : Int), (i : Int), ()) = some (.inl (M, (M.length : Int), ((i + 1 : Nat) : Int), ())) := by
        unfold r969_0
        simp only [c1, decide_true, cond_true, idxO_nat, hc, Option.bind_some, hf, cond_false, w1]
      rw [iterO_eq, hr]
      exact ih (i + 1) (by omega) (by omega)
  have h := key M.length 0 (by omega) (by omega)
  have h' : l969_0 (M, (M.length : Int), 0, ()) = some (.inr ()) := h
  have c2 : ¬ ((-1 : Int) ≥ 0) := by omega
  unfold f41 f969
  simp only [h', Option.bind_some, Sum.elim_inr, c2, decide_false]

/-- evidence.combine. -/
theorem f24_spec {Na La Nb Lb : Nat} {a b : List En} (ha : Good Na La a) (hb : Good Nb Lb b) (hN : Na + Nb ≤ 1000000000000) (hL : La + Lb ≤ 1000000) {k : Int} (hk : k = 1 ∨ k = -1) :
    ∃ (n : Nat) (ob : List En), f24 (a, b, k, ()) = some (n, 0, ob, ()) ∧ n ≤ ob.length ∧ Good (Na + Nb) (La + Lb) (ob.take n) ∧ ∀ c, valA (ob.take n) c = valA a c + k * valA b c ∧ valB (ob.take n) c = valB a c + k * valB b c := by
  have va := ha.valid (by omega) (by omega)
  have vb := hb.valid (by omega) (by omega)
  have hla := ha.len
  have hlb := hb.len
  obtain ⟨t1, s1, s2, s3⟩ := l24_0_spec ha (by omega) (by omega) b k _ 0 [] rfl (by omega) ⟨List.Pairwise.nil, fun p h => (by cases h), by simp⟩ (fun c => ⟨rfl, rfl⟩)
  have s1' : l24_0 (b, k, a, (a.length : Int), 0, [], ()) = some (b, k, t1, ()) := s1
  obtain ⟨t2, u1, u2, u3⟩ := l24_6_spec hb (by omega) (Na := Na) (by omega) (by omega) hk (a := a) (fun c => ha.val c) (m := a.length) _ 0 t1 rfl (by omega) s2 (fun c => by
    have := s3 c
    have e1 : valA (b.take 0) c = 0 := rfl
    have e2 : valB (b.take 0) c = 0 := rfl
    rw [e1, e2, Int.mul_zero, Int.add_zero, Int.add_zero]
    exact this)
  have u1' : l24_6 (k, b, (b.length : Int), 0, t2.drop t2.length ++ t1, ()) = some (t2, ()) := by
    rw [List.drop_length]; exact u1
  rw [List.drop_length, List.nil_append] at u1'
  obtain ⟨q1, q2, q3, q4, q5⟩ := list_spec u2 (by omega)
  have htl := u2.len
  have hvA : ∀ c, valA (listE t2) c = valA a c + k * valA b c ∧ valB (listE t2) c = valB a c + k * valB b c := fun c => by rw [(q3 c).1, (q3 c).2]; exact u3 c
  have hbd : ∀ e ∈ listE t2, (-((Na + Nb : Nat) : Int) ≤ e.A ∧ e.A ≤ ((Na + Nb : Nat) : Int)) ∧ -((Na + Nb : Nat) : Int) ≤ e.B ∧ e.B ≤ ((Na + Nb : Nat) : Int) := fun e he => by
    have h1 := val_mem q2.s he
    have h2 := hvA (cel e)
    have h3 := ha.val (cel e)
    have h4 := hb.val (cel e)
    rw [h1.1, h1.2] at h2
    rcases hk with rfl | rfl <;> omega
  have htake : List.take (listE t2).length (listE t2 ++ List.replicate (t2.length - (listE t2).length) (En.mk 0 0 0 0)) = listE t2 := List.take_left
  refine ⟨(listE t2).length, listE t2 ++ List.replicate (t2.length - (listE t2).length) (En.mk 0 0 0 0), ?_, by rw [List.length_append]; omega, by
    rw [htake]
    exact ⟨q2, fun e he => (hbd e he).1, fun e he => (hbd e he).2, q5, by omega⟩, fun c => by rw [htake]; exact hvA c⟩
  have hf36 : f36 (t2, ()) = some ((listE t2).length, t2, listE t2 ++ List.replicate (t2.length - (listE t2).length) (En.mk 0 0 0 0), ()) := by
    unfold f36
    rw [q1, cond_true]
  have hf41 := f41_spec (M := listE t2) (by omega) (fun e he => by have := hbd e he; omega)
  have c1 : (0 : Nat) + (listE t2).length ≤ (listE t2 ++ List.replicate (t2.length - (listE t2).length) (En.mk 0 0 0 0)).length := by rw [List.length_append]; omega
  have c2 : ¬ (((listE t2).length : Int) > 1048576) := by omega
  unfold f24
  simp only [va, vb, Option.bind_some, Bool.not_true, cond_false, s1', u1', hf36, c1, decide_true, cond_true, List.drop_zero, htake, hf41, c2, decide_false]
end Go.AE

/-
  evidence.Of: of a valid pose and a valid short scan it is a good list.
-/
namespace Go.AE
open Go.RowKit
set_option maxRecDepth 100000

/-- slices.IndexFunc's loop. -/
theorem ixfn {A : Type} {r : List A × Int × Int × Unit → Option ((List A × Int × Int × Unit) ⊕ ((Int × Unit) ⊕ Unit))} {P : A → Bool} {l : List A} (hl : l.length ≤ 1000000)
    (hr : ∀ (i : Nat) (a : A), l[i]? = some a → r (l, (l.length : Int), (i : Int), ()) = some (bif P a then .inr (.inl ((i : Int), ())) else .inl (l, (l.length : Int), ((i + 1 : Nat) : Int), ()))) (he : r (l, (l.length : Int), (l.length : Int), ()) = some (.inr (.inr ()))) :
    ∀ (t i : Nat), l.length - i = t → i ≤ l.length → ((l.drop i).any P = true ∧ ∃ k : Int, 0 ≤ k ∧ iterO r (l, (l.length : Int), (i : Int), ()) = some (.inl (k, ()))) ∨ ((l.drop i).any P = false ∧ iterO r (l, (l.length : Int), (i : Int), ()) = some (.inr ()))
  | t, i, ht, hi => by
    rw [iterO_eq]
    by_cases e : i = l.length
    · subst e
      rw [he, List.drop_eq_nil_of_le (Nat.le_refl _)]
      exact .inr ⟨rfl, rfl⟩
    · have hlt : i < l.length := by omega
      obtain ⟨a, ha⟩ : ∃ a, l[i]? = some a := ⟨_, List.getElem?_eq_getElem hlt⟩
      have hdrop : l.drop i = a :: l.drop (i + 1) := by
        rw [List.drop_eq_getElem_cons hlt]
        rw [List.getElem?_eq_getElem hlt] at ha
        rw [Option.some.inj ha]
      rw [hr i a ha, hdrop, List.any_cons]
      cases hP : P a with
      | true => exact .inl ⟨rfl, (i : Int), by omega, rfl⟩
      | false =>
        match t, ht with
        | 0, ht => omega
        | t + 1, ht => exact ixfn hl hr he t (i + 1) (by omega) (by omega)

/-- A valid beam. -/
def okB (b : Bm) : Prop := (0 ≤ b.M ∧ b.M ≤ 255) ∧ -1 ≤ b.R ∧ b.R ≤ 1024
def badB (b : Bm) : Bool := f55 b.M b.R
theorem badB_iff (b : Bm) : badB b = false ↔ okB b := by
  unfold badB f55 okB
  by_cases c1 : b.M < 0
  · simp only [c1, decide_true, cond_true]
    constructor
    · intro h; cases h
    · intro h; omega
  by_cases c2 : b.M ≥ 256
  · simp only [c1, c2, decide_true, decide_false, cond_true, cond_false]
    constructor
    · intro h; cases h
    · intro h; omega
  by_cases c3 : b.R < -1
  · simp only [c1, c2, c3, decide_true, decide_false, cond_true, cond_false]
    constructor
    · intro h; cases h
    · intro h; omega
  · simp only [c1, c2, c3, decide_false, cond_false, decide_eq_false_iff_not]
    omega
theorem any_okB {S : List Bm} : S.any badB = false ↔ ∀ b ∈ S, okB b := by
  rw [List.any_eq_false]
  constructor
  · intro h b hb
    rw [← badB_iff]
    have := h b hb
    simpa using this
  · intro h b hb
    rw [(badB_iff b).2 (h b hb)]
    simp

theorem f31_spec {S : List Bm} (hl : S.length ≤ 32) (h : ∀ b ∈ S, okB b) : f31 (S, ()) = some (true, ()) := by
  have hr : ∀ (i : Nat) (a : Bm), S[i]? = some a → r70_0 (S, (S.length : Int), (i : Int), ()) = some (bif badB a then .inr (.inl ((i : Int), ())) else .inl (S, (S.length : Int), ((i + 1 : Nat) : Int), ())) := fun i a ha => by
    have hlt := (List.getElem?_eq_some_iff.1 ha).1
    have c1 : ((i : Int) < (S.length : Int)) := by omega
    have w1 : IntKind.i64.wrap ((i : Int) + 1) = ((i + 1 : Nat) : Int) := by rw [w64 (by omega) (by omega)]; rfl
    unfold r70_0 badB
    simp only [c1, decide_true, cond_true, idxO_nat, ha, Option.bind_some, w1]
    cases f55 a.M a.R <;> rfl
  have he : r70_0 (S, (S.length : Int), (S.length : Int), ()) = some (.inr (.inr ())) := by
    have c1 : ¬ ((S.length : Int) < (S.length : Int)) := by omega
    unfold r70_0
    simp only [c1, decide_false, cond_false]
  have c : (S.length : Int) ≤ 32 := by omega
  rcases ixfn (by omega) hr he _ 0 rfl (by omega) with ⟨h1, _⟩ | ⟨_, h2⟩
  · rw [List.drop_zero, any_okB.2 h] at h1
    cases h1
  · have h2' : l70_0 (S, (S.length : Int), 0, ()) = some (.inr ()) := h2
    have c2 : ¬ ((-1 : Int) ≥ 0) := by omega
    unfold f31 f44 f70
    simp only [c, decide_true, cond_true, h2', Option.bind_some, Sum.elim_inr, c2, decide_false, Bool.not_false]

/-- atlas.validScan. -/
theorem f25_spec {S : List Bm} (hl : S.length ≤ 32) : ∃ b, f25 (S, ()) = some (b, ()) ∧ (b = true → ∀ x ∈ S, okB x) := by
  have hr : ∀ (i : Nat) (a : Bm), S[i]? = some a → r970_0 (S, (S.length : Int), (i : Int), ()) = some (bif badB a then .inr (.inl ((i : Int), ())) else .inl (S, (S.length : Int), ((i + 1 : Nat) : Int), ())) := fun i a ha => by
    have hlt := (List.getElem?_eq_some_iff.1 ha).1
    have c1 : ((i : Int) < (S.length : Int)) := by omega
    have w1 : IntKind.i64.wrap ((i : Int) + 1) = ((i + 1 : Nat) : Int) := by rw [w64 (by omega) (by omega)]; rfl
    have e : f45 a.M a.R = badB a := rfl
    unfold r970_0
    simp only [c1, decide_true, cond_true, idxO_nat, ha, Option.bind_some, w1, e]
    cases badB a <;> rfl
  have he : r970_0 (S, (S.length : Int), (S.length : Int), ()) = some (.inr (.inr ())) := by
    have c1 : ¬ ((S.length : Int) < (S.length : Int)) := by omega
    unfold r970_0
    simp only [c1, decide_false, cond_false]
  have c : (S.length : Int) ≤ 32 := by omega
  rcases ixfn (by omega) hr he _ 0 rfl (by omega) with ⟨_, k, h0, h2⟩ | ⟨h1, h2⟩
  · have h2' : l970_0 (S, (S.length : Int), 0, ()) = some (.inl (k, ())) := h2
    have c2 : k ≥ 0 := h0
    refine ⟨false, ?_, fun h => by cases h⟩
    unfold f25 f944 f970
    simp only [c, decide_true, cond_true, h2', Option.bind_some, Sum.elim_inl, c2, Bool.not_true]
  · rw [List.drop_zero] at h1
    have h2' : l970_0 (S, (S.length : Int), 0, ()) = some (.inr ()) := h2
    have c2 : ¬ ((-1 : Int) ≥ 0) := by omega
    refine ⟨true, ?_, fun _ => any_okB.1 h1⟩
    unfold f25 f944 f970
    simp only [c, decide_true, cond_true, h2', Option.bind_some, Sum.elim_inr, c2, decide_false, Bool.not_false]

/-- A tally after n additions of ones. -/
structure TB (n : Nat) (t : List (Pt × En)) : Prop where
  tl : Tal n t
  b : ∀ c, (0 ≤ tvA t c ∧ tvA t c ≤ n) ∧ 0 ≤ tvB t c ∧ tvB t c ≤ n

theorem TB.add {n : Nat} {t : List (Pt × En)} (h : TB n t) (hn : n ≤ 1000000) {c : Pt} (hc : (-16384 ≤ c.X ∧ c.X ≤ 16384) ∧ -16384 ≤ c.Y ∧ c.Y ≤ 16384) {a b : Int} (ha : 0 ≤ a ∧ a ≤ 1) (hb : 0 ≤ b ∧ b ≤ 1) : TB (n + 1) (f35 c.X c.Y a b t) := by
  have h0 := h.b c
  obtain ⟨q1, q2⟩ := add_spec h.tl hc (a := a) (b := b) (by omega) (by omega)
  refine ⟨q1, fun x => ?_⟩
  have hx := h.b x
  rw [(q2 x).1, (q2 x).2]
  by_cases e : x = c
  · simp only [e, if_true]
    omega
  · simp only [e, if_false]
    omega

theorem l19_6_tot {n m : Nat} {oe om : List Pt} (h1 : n ≤ oe.length) (h3 : m ≤ om.length) (hn : n ≤ 100000) (hm : m ≤ 100000) (hc : ∀ c ∈ om.take m, (-16384 ≤ c.X ∧ c.X ≤ 16384) ∧ -16384 ≤ c.Y ∧ c.Y ≤ 16384) (bs : List Bm) (a2 a3 a7 a8 a9 a11 a12 : Int) {q : Nat} (hq : q ≤ 100000) : ∀ (s i : Nat) (t : List (Pt × En)), m - i = s → i ≤ m → TB (q + i) t →
    ∃ t', l19_6 (n, bs, a2, a3, m, (m : Int), (i : Int), a7, a8, a9, t, a11, a12, oe, om, ()) = some (bs, a2, a3, a7, a8, a9, t', a11, a12, ()) ∧ TB (q + m) t'
  | s, i, t, hs, hi, ht => by
    unfold l19_6
    rw [iterO_eq]
    by_cases e : i = m
    · have c1 : ¬ ((i : Int) < (m : Int)) := by omega
      have hr : r19_6 (n, bs, a2, a3, m, (m : Int), (i : Int), a7, a8, a9, t, a11, a12, oe, om, ()) = some (.inr (bs, a2, a3, a7, a8, a9, t, a11, a12, ())) := by
        unfold r19_6
        simp only [c1, decide_false, cond_false]
      rw [hr]
      subst e
      exact ⟨t, rfl, ht⟩
    · have hlt : i < m := by omega
      have hlo : i < om.length := by omega
      have c1 : ((i : Int) < (m : Int)) := by omega
      have c0 : (0 : Int) ≤ (i : Int) := by omega
      have hget : om[0 + (i : Int).toNat]? = some om[i] := by rw [Int.toNat_natCast, Nat.zero_add]; exact List.getElem?_eq_getElem hlo
      have w1 : IntKind.i64.wrap ((i : Int) + 1) = ((i + 1 : Nat) : Int) := by rw [w64 (by omega) (by omega)]; rfl
      have hz : 0 + n ≤ oe.length := by omega
      have hmem : om[i] ∈ om.take m := by
        rw [List.mem_iff_getElem]
        exact ⟨i, by rw [List.length_take]; omega, by rw [List.getElem_take]⟩
      have hf := f34_spec (oe.take n) (by rw [List.length_take]; omega) om[i]
      have hcc := hc _ hmem
      match s, hs with
      | 0, hs => omega
      | s + 1, hs =>
        cases hd : decide (om[i] ∈ oe.take n) with
        | true =>
          rw [hd] at hf
          have hr : r19_6 (n, bs, a2, a3, m, (m : Int), (i : Int), a7, a8, a9, t, a11, a12, oe, om, ()) = some (.inl (n, bs, a2, a3, m, (m : Int), ((i + 1 : Nat) : Int), a7, a8, a9, f35 om[i].X om[i].Y 1 0 t, a11, a12, oe, om, ())) := by
            unfold r19_6
            simp only [c1, c0, decide_true, cond_true, Bool.and_true, hget, Option.bind_some, hz, List.drop_zero, hf, j19_64, w1]
          rw [hr]
          exact l19_6_tot h1 h3 hn hm hc bs a2 a3 a7 a8 a9 a11 a12 hq s (i + 1) _ (by omega) (by omega) (ht.add (by omega) hcc (by omega) (by omega))
        | false =>
          rw [hd] at hf
          have hr : r19_6 (n, bs, a2, a3, m, (m : Int), (i : Int), a7, a8, a9, t, a11, a12, oe, om, ()) = some (.inl (n, bs, a2, a3, m, (m : Int), ((i + 1 : Nat) : Int), a7, a8, a9, f35 om[i].X om[i].Y 0 1 t, a11, a12, oe, om, ())) := by
            unfold r19_6
            simp only [c1, c0, decide_true, cond_true, cond_false, Bool.and_true, hget, Option.bind_some, hz, List.drop_zero, hf, j19_64, w1]
          rw [hr]
          exact l19_6_tot h1 h3 hn hm hc bs a2 a3 a7 a8 a9 a11 a12 hq s (i + 1) _ (by omega) (by omega) (ht.add (by omega) hcc (by omega) (by omega))

/-- A valid pose. -/
def okP (X Y H : Int) : Prop := (-262144 ≤ X ∧ X ≤ 262144) ∧ (-262144 ≤ Y ∧ Y ≤ 262144) ∧ 0 ≤ H ∧ H ≤ 255

theorem traced {px py x y d lo hi : Int} (hp : (-262144 ≤ px ∧ px ≤ 262144) ∧ -262144 ≤ py ∧ py ≤ 262144) (hv : VV x y d) (hlo : 0 ≤ lo) (hlh : lo ≤ hi) (hhi : hi ≤ 2048) : ∃ (n : Nat) (ob : List Pt), f33 (px, py, x, y, d, lo, hi, ()) = some (n, 0, ob, ()) ∧ n ≤ ob.length ∧ n ≤ 5041 ∧ ∀ c ∈ ob.take n, (-16384 ≤ c.X ∧ c.X ≤ 16384) ∧ -16384 ≤ c.Y ∧ c.Y ≤ 16384 := by
  have hray : Ray px py x y d := ⟨by unfold nearP; simp only; omega, hv⟩
  obtain ⟨n, ob, h1, h2, h3⟩ := f33_spec hray hlo hlh hhi
  have hl := trc_len hray hlo hlh hhi
  refine ⟨n, ob, h1, h2, ?_, fun c hc => ?_⟩
  · rw [← h3, List.length_take] at hl
    omega
  · rw [h3, trc_mem hlh] at hc
    obtain ⟨_, _, _, b4, b5, _⟩ := box_size (p := px) (lo := lo) (hi := hi) ⟨hv.d1, hv.d2⟩ ⟨hv.x1, hv.x2⟩ hlo hlh hhi
    obtain ⟨_, _, _, c4, c5, _⟩ := box_size (p := py) (lo := lo) (hi := hi) ⟨hv.d1, hv.d2⟩ ⟨hv.y1, hv.y2⟩ hlo hlh hhi
    obtain ⟨⟨q1, q2⟩, q3, q4⟩ := hc.box hlh
    omega

/-- A beam's cells go into the tally. -/
theorem j43_tot {px py x y d reach : Int} (hp : (-262144 ≤ px ∧ px ≤ 262144) ∧ -262144 ≤ py ∧ py ≤ 262144) (hv : VV x y d) (hr : 0 ≤ reach ∧ reach ≤ 1024) {n : Nat} {oe : List Pt} (h1 : n ≤ oe.length) (hn : n ≤ 100000) (bs : List Bm) (a1 a2 a3 a4 a5 : Int) {q : Nat} (hq : q ≤ 50000) {t : List (Pt × En)} (ht : TB q t) :
    ∃ t', j19_43 (reach, n, bs, a1, a2, a3, a4, a5, t, px, py, x, y, d, oe, ()) = some (bs, a1, a2, a3, a4, a5, t', px, py, ()) ∧ TB (q + 5041) t' := by
  obtain ⟨m, om, s1, s2, s3, s4⟩ := traced hp hv (lo := 0) (hi := reach) (by omega) hr.1 (by omega)
  obtain ⟨t', u1, u2⟩ := l19_6_tot h1 s2 hn (by omega) s4 bs a1 a2 a3 a4 a5 px py (q := q) (by omega) m 0 t (by omega) (by omega) ht
  have u1' : l19_6 (n, bs, a1, a2, m, (m : Int), 0, a3, a4, a5, t, px, py, oe, om, ()) = some (bs, a1, a2, a3, a4, a5, t', px, py, ()) := u1
  refine ⟨t', ?_, ⟨⟨u2.tl.nd, u2.tl.cl, by have := u2.tl.len; omega⟩, fun c => by have := u2.b c; omega⟩⟩
  unfold j19_43
  simp only [s1, Option.bind_some, u1']

theorem l19_0_tot {X Y H : Int} (hP : okP X Y H) {S : List Bm} (hS : ∀ b ∈ S, okB b) (hl : S.length ≤ 8) : ∀ (s i : Nat) (t : List (Pt × En)), S.length - i = s → i ≤ S.length → TB (i * 5041) t →
    ∃ t', l19_0 (S, (S.length : Int), (i : Int), X, Y, H, t, X, Y, ()) = some (t', ()) ∧ TB (S.length * 5041) t'
  | s, i, t, hs, hi, ht => by
    unfold l19_0
    rw [iterO_eq]
    by_cases e : i = S.length
    · have c1 : ¬ ((i : Int) < (S.length : Int)) := by omega
      have hr : r19_0 (S, (S.length : Int), (i : Int), X, Y, H, t, X, Y, ()) = some (.inr (t, ())) := by
        unfold r19_0
        simp only [c1, decide_false, cond_false]
      rw [hr]
      subst e
      exact ⟨t, rfl, ht⟩
    · have hlt : i < S.length := by omega
      have c1 : ((i : Int) < (S.length : Int)) := by omega
      have hc : S[i]? = some S[i] := List.getElem?_eq_getElem hlt
      have w1 : IntKind.i64.wrap ((i : Int) + 1) = ((i + 1 : Nat) : Int) := by rw [w64 (by omega) (by omega)]; rfl
      have hb := hS _ (List.getElem_mem hlt)
      have hp : (-262144 ≤ X ∧ X ≤ 262144) ∧ -262144 ≤ Y ∧ Y ≤ 262144 := ⟨hP.1, hP.2.1⟩
      obtain ⟨x, y, d, sb, hv⟩ := f32_spec H S[i].M
      have step : ∃ t', r19_0 (S, (S.length : Int), (i : Int), X, Y, H, t, X, Y, ()) = some (.inl (S, (S.length : Int), ((i + 1 : Nat) : Int), X, Y, H, t', X, Y, ())) ∧ TB (i * 5041 + 5041) t' := by
        by_cases c2 : S[i].R < 0
        · obtain ⟨t', u1, u2⟩ := j43_tot hp hv (reach := 1024) (by omega) (n := 0) (oe := []) (Nat.le_refl _) (by omega) S (S.length : Int) (i : Int) X Y H (q := i * 5041) (by omega) ht
          refine ⟨t', ?_, u2⟩
          unfold r19_0
          simp only [c1, decide_true, cond_true, idxO_nat, hc, Option.bind_some, sb, c2, u1, j19_67, w1]
        · obtain ⟨n, oe, v1, v2, v3, _⟩ := traced hp hv (lo := S[i].R) (hi := S[i].R) (by omega) (by omega) (by have := hb.2; omega)
          obtain ⟨t', u1, u2⟩ := j43_tot hp hv (reach := S[i].R) (by have := hb.2; omega) (n := n) (oe := oe) v2 (by omega) S (S.length : Int) (i : Int) X Y H (q := i * 5041) (by omega) ht
          refine ⟨t', ?_, u2⟩
          unfold r19_0
          simp only [c1, decide_true, cond_true, idxO_nat, hc, Option.bind_some, sb, c2, decide_false, cond_false, v1, u1, j19_67, w1]
      obtain ⟨t', hr, ht'⟩ := step
      rw [hr]
      match s, hs with
      | 0, hs => omega
      | s + 1, hs => exact l19_0_tot hP hS hl s (i + 1) t' (by omega) (by omega) (by rw [Nat.add_mul, Nat.one_mul]; exact ht')

/-- evidence.Of. -/
theorem f19_spec {X Y H : Int} (hP : okP X Y H) {S : List Bm} (hS : ∀ b ∈ S, okB b) (hl : S.length ≤ 3) : ∃ (n : Nat) (ob : List En), f19 (X, Y, H, S, ()) = some (n, 0, ob, ()) ∧ n ≤ ob.length ∧ Good 15123 15123 (ob.take n) := by
  obtain ⟨t, s1, s2⟩ := l19_0_tot hP hS (by omega) _ 0 [] rfl (by omega) ⟨⟨List.Pairwise.nil, fun p h => (by cases h), by simp⟩, fun c => ⟨⟨Int.le_refl _, Int.le_refl _⟩, Int.le_refl _, Int.le_refl _⟩⟩
  have s1' : l19_0 (S, (S.length : Int), 0, X, Y, H, [], X, Y, ()) = some (t, ()) := s1
  obtain ⟨q1, q2, q3, q4, q5⟩ := list_spec s2.tl (by omega)
  have htl := s2.tl.len
  have htake : List.take (listE t).length (listE t ++ List.replicate (t.length - (listE t).length) (En.mk 0 0 0 0)) = listE t := List.take_left
  have hbd : ∀ e ∈ listE t, (0 ≤ e.A ∧ e.A ≤ 15123) ∧ 0 ≤ e.B ∧ e.B ≤ 15123 := fun e he => by
    have h1 := val_mem q2.s he
    have h2 := q3 (cel e)
    have h3 := s2.b (cel e)
    rw [h1.1, h1.2] at h2
    omega
  refine ⟨(listE t).length, listE t ++ List.replicate (t.length - (listE t).length) (En.mk 0 0 0 0), ?_, by rw [List.length_append]; omega, by
    rw [htake]
    exact ⟨q2, fun e he => by have := hbd e he; omega, fun e he => by have := hbd e he; omega, q5, by omega⟩⟩
  have hf36 : f36 (t, ()) = some ((listE t).length, t, listE t ++ List.replicate (t.length - (listE t).length) (En.mk 0 0 0 0), ()) := by
    unfold f36
    rw [q1, cond_true]
  have c1 : ¬ H < 0 := by have := hP.2.2; omega
  have c2 : ¬ H ≥ 256 := by have := hP.2.2; omega
  unfold f19
  simp only [f30_ok (n := X) (m := 262144) (by omega) hP.1, f30_ok (n := Y) (m := 262144) (by omega) hP.2.1, Bool.not_true, cond_false, c1, c2, decide_false, f31_spec (by omega) hS, Option.bind_some, s1', hf36]
end Go.AE

/-
  The atlas: its two maps; Put, Place, Scan, Where, Part.
-/
namespace Go.AE
open Go.RowKit
set_option maxRecDepth 100000

noncomputable def K3 : Int → Int → Bool := keyB tC 3
theorem key3 (a b : Int) : K3 a b = (bif a == b then true else false) := by kernel_rfl
theorem K3_iff (a b : Int) : K3 a b = decide (a = b) := by
  rw [key3]
  by_cases h : a = b <;> simp [h]

theorem gget_put {ν : Type} {t : List (Int × ν)} {k c : Int} {v : ν} : mget K3 (mput K3 t k v) c = if c = k then some v else mget K3 t c := by
  induction t with
  | nil =>
    unfold mput mget mget
    rw [K3_iff]
    by_cases h : c = k <;> simp [h]
  | cons p t ih =>
    unfold mput
    rw [K3_iff]
    by_cases h : k = p.1
    · subst h
      simp only [decide_true, cond_true]
      unfold mget
      rw [K3_iff]
      by_cases h2 : c = p.1 <;> simp [h2]
    · simp only [h, decide_false, cond_false]
      unfold mget
      rw [K3_iff, ih]
      by_cases h2 : c = p.1
      · simp [h2, Ne.symm h]
      · simp [h2]

/-- A valid placement. -/
def okPm (p : Pm) : Prop := f21 p.V p.G p.X p.Y p.H = true
theorem okPm_pose {p : Pm} (h : okPm p) (hg : p.G = false) : okP p.X p.Y p.H := by
  unfold okPm f21 f37 at h
  rw [hg] at h
  unfold okP
  by_cases c1 : p.V < 1
  · simp [c1] at h
  by_cases c2 : p.V > 1073741824
  · simp [c1, c2] at h
  by_cases c3 : p.X ≥ -262144
  · by_cases c4 : p.X ≤ 262144
    · by_cases c5 : p.Y ≥ -262144
      · by_cases c6 : p.Y ≤ 262144
        · by_cases c7 : p.H ≥ 0
          · by_cases c8 : p.H < 256
            · omega
            · simp [c1, c2, c3, c4, c5, c6, c7, c8] at h
          · simp [c1, c2, c3, c4, c5, c6, c7] at h
        · simp [c1, c2, c3, c4, c5, c6] at h
      · simp [c1, c2, c3, c4, c5] at h
    · simp [c1, c2, c3, c4] at h
  · simp [c1, c2, c3] at h

/-- What an atlas holds. -/
structure Atl (sc : List (Int × List Bm)) (pl : List (Int × Pm)) : Prop where
  sc : ∀ i S, mget K3 sc i = some S → (0 ≤ i ∧ i < 64) ∧ S.length ≤ 3 ∧ ∀ b ∈ S, okB b
  pl : ∀ i p, mget K3 pl i = some p → (0 ≤ i ∧ i < 64) ∧ okPm p

theorem f22_iff {i : Int} : f22 i = true ↔ 0 ≤ i ∧ i < 64 := by
  unfold f22
  by_cases h1 : i ≥ 0
  · have h2 : 0 ≤ i := h1
    simp [h2]
  · have h2 : ¬ 0 ≤ i := h1
    simp [h2]

theorem f27_spec {S : List Bm} (hl : S.length ≤ 1000) : f27 (S, ()) = some (S, ()) := by
  have hr : roomy S.length 16 = true := roomy_ok (by omega)
  unfold f27 j27_4
  simp only [hr, cond_true, Option.bind_some, Nat.zero_add, Nat.le_refl, decide_true, List.drop_zero, List.take_length]

/-- cmp.Or. -/
theorem f38_tot (l : List Int) (hl : l.length ≤ 1000) : ∃ r, f38 (l, ()) = some (r, ()) ∧ ∀ a m, l = a :: m → a ≠ 0 → r = a := by
  have key : ∀ (s i : Nat), l.length - i = s → i ≤ l.length → ∃ y, l38_0 (0, l, (l.length : Int), (i : Int), ()) = some y ∧ ∀ a m, l.drop i = a :: m → a ≠ 0 → y = .inl (a, ()) := by
    intro s
    induction s with
    | zero =>
      intro i hs hi
      have e : i = l.length := by omega
      subst e
      have c1 : ¬ ((l.length : Int) < (l.length : Int)) := by omega
      unfold l38_0
      have hr : r38_0 (0, l, (l.length : Int), (l.length : Int), ()) = some (.inr (.inr (0, ()))) := by
        unfold r38_0
        simp only [c1, decide_false, cond_false]
      rw [iterO_eq, hr]
      refine ⟨_, rfl, fun a m h => ?_⟩
      rw [List.drop_eq_nil_of_le (Nat.le_refl _)] at h
      cases h
    | succ s ih =>
      intro i hs hi
      have hlt : i < l.length := by omega
      have c1 : ((i : Int) < (l.length : Int)) := by omega
      have hc : l[i]? = some l[i] := List.getElem?_eq_getElem hlt
      have w1 : IntKind.i64.wrap ((i : Int) + 1) = ((i + 1 : Nat) : Int) := by rw [w64 (by omega) (by omega)]; rfl
      unfold l38_0
      cases hz : (l[i] != 0) with
      | true =>
        have hr : r38_0 (0, l, (l.length : Int), (i : Int), ()) = some (.inr (.inl (l[i], ()))) := by
          unfold r38_0
          simp only [c1, decide_true, cond_true, idxO_nat, hc, Option.bind_some, hz]
        rw [iterO_eq, hr]
        refine ⟨_, rfl, fun a m h _ => ?_⟩
        rw [List.drop_eq_getElem_cons hlt] at h
        cases h
        rfl
      | false =>
        have hr : r38_0 (0, l, (l.length : Int), (i : Int), ()) = some (.inl (0, l, (l.length : Int), ((i + 1 : Nat) : Int), ())) := by
          unfold r38_0
          simp only [c1, decide_true, cond_true, idxO_nat, hc, Option.bind_some, hz, cond_false, w1]
        obtain ⟨y, h1, _⟩ := ih (i + 1) (by omega) (by omega)
        rw [iterO_eq, hr]
        refine ⟨y, h1, fun a m h ha => ?_⟩
        rw [List.drop_eq_getElem_cons hlt] at h
        cases h
        have : l[i] = 0 := by simpa using hz
        exact (ha this).elim
  obtain ⟨y, h1, h2⟩ := key l.length 0 (by omega) (by omega)
  have h1' : l38_0 (0, l, (l.length : Int), 0, ()) = some y := h1
  rw [List.drop_zero] at h2
  cases y with
  | inl y =>
    refine ⟨y.1, ?_, fun a m e ha => ?_⟩
    · unfold f38
      simp only [h1', Option.bind_some, Sum.elim_inl]
    · have := h2 a m e ha
      cases this
      rfl
  | inr y =>
    refine ⟨y.1, ?_, fun a m e ha => ?_⟩
    · unfold f38
      simp only [h1', Option.bind_some, Sum.elim_inr]
    · have := h2 a m e ha
      cases this

theorem f47_tot (a b c d : Int) : ∃ r, f47 (a, b, c, d, ()) = some (r, ()) := by
  obtain ⟨r, h, _⟩ := f38_tot [f39 a c, f39 b d] (by simp)
  refine ⟨r, ?_⟩
  unfold f47
  simp only [h, Option.bind_some]

/-- atlas.compareScans. -/
theorem f26_tot {a b : List Bm} (ha : a.length ≤ 1000) : ∃ r, f26 (a, b, ()) = some (r, ()) := by
  have key : ∀ (s i : Nat), a.length - i = s → i ≤ a.length → ∃ y, l46_0 (a, b, a, (a.length : Int), (i : Int), ()) = some y := by
    intro s
    induction s with
    | zero =>
      intro i hs hi
      have e : i = a.length := by omega
      subst e
      have c1 : ¬ ((a.length : Int) < (a.length : Int)) := by omega
      unfold l46_0
      have hr : r46_0 (a, b, a, (a.length : Int), (a.length : Int), ()) = some (.inr (.inr (a, b, ()))) := by
        unfold r46_0
        simp only [c1, decide_false, cond_false]
      rw [iterO_eq, hr]
      exact ⟨_, rfl⟩
    | succ s ih =>
      intro i hs hi
      have hlt : i < a.length := by omega
      have c1 : ((i : Int) < (a.length : Int)) := by omega
      have hc : a[i]? = some a[i] := List.getElem?_eq_getElem hlt
      have w1 : IntKind.i64.wrap ((i : Int) + 1) = ((i + 1 : Nat) : Int) := by rw [w64 (by omega) (by omega)]; rfl
      obtain ⟨y, hy⟩ := ih (i + 1) (by omega) (by omega)
      unfold l46_0 at hy ⊢
      rw [iterO_eq]
      by_cases c2 : (i : Int) ≥ (b.length : Int)
      · have hr : r46_0 (a, b, a, (a.length : Int), (i : Int), ()) = some (.inr (.inl (1, ()))) := by
          unfold r46_0
          simp only [c1, decide_true, cond_true, idxO_nat, hc, Option.bind_some, c2]
        rw [hr]
        exact ⟨_, rfl⟩
      · have hlb : i < b.length := by omega
        have hb : b[i]? = some b[i] := List.getElem?_eq_getElem hlb
        obtain ⟨r, h7⟩ := f47_tot a[i].M a[i].R b[i].M b[i].R
        cases hz : (r != 0) with
        | true =>
          have hr : r46_0 (a, b, a, (a.length : Int), (i : Int), ()) = some (.inr (.inl (r, ()))) := by
            unfold r46_0
            simp only [c1, decide_true, cond_true, idxO_nat, hc, hb, Option.bind_some, c2, decide_false, cond_false, h7, hz]
          rw [hr]
          exact ⟨_, rfl⟩
        | false =>
          have hr : r46_0 (a, b, a, (a.length : Int), (i : Int), ()) = some (.inl (a, b, a, (a.length : Int), ((i + 1 : Nat) : Int), ())) := by
            unfold r46_0
            simp only [c1, decide_true, cond_true, idxO_nat, hc, hb, Option.bind_some, c2, decide_false, cond_false, h7, hz, w1]
          rw [hr]
          exact ⟨y, hy⟩
  unfold f26
  cases hz : (f39 (a.length : Int) (b.length : Int) != 0) with
  | true => exact ⟨f39 (a.length : Int) (b.length : Int), by simp only [cond_true]⟩
  | false =>
    obtain ⟨y, hy⟩ := key a.length 0 (by omega) (by omega)
    have hy' : l46_0 (a, b, a, (a.length : Int), 0, ()) = some y := hy
    unfold f46
    simp only [cond_false, hy', Option.bind_some]
    cases y with
    | inl y => exact ⟨y.1, by simp only [Sum.elim_inl, Option.bind_some]⟩
    | inr y =>
      simp only [Sum.elim_inr]
      by_cases c : (y.1.length : Int) < (y.2.1.length : Int)
      · exact ⟨-1, by simp only [c, decide_true, cond_true, Option.bind_some]⟩
      · exact ⟨0, by simp only [c, decide_false, cond_false, Option.bind_some]⟩

theorem Atl.put {sc : List (Int × List Bm)} {pl : List (Int × Pm)} (h : Atl sc pl) {i : Int} (hi : 0 ≤ i ∧ i < 64) {S : List Bm} (hl : S.length ≤ 3) (hS : ∀ b ∈ S, okB b) : Atl (mput K3 sc i S) pl := by
  refine ⟨fun j T hj => ?_, h.pl⟩
  rw [gget_put] at hj
  by_cases e : j = i
  · rw [if_pos e] at hj
    cases hj
    rw [e]
    exact ⟨hi, hl, hS⟩
  · rw [if_neg e] at hj
    exact h.sc j T hj
theorem Atl.place {sc : List (Int × List Bm)} {pl : List (Int × Pm)} (h : Atl sc pl) {i : Int} (hi : 0 ≤ i ∧ i < 64) {p : Pm} (hp : okPm p) : Atl sc (mput K3 pl i p) := by
  refine ⟨h.sc, fun j q hj => ?_⟩
  rw [gget_put] at hj
  by_cases e : j = i
  · rw [if_pos e] at hj
    cases hj
    rw [e]
    exact ⟨hi, hp⟩
  · rw [if_neg e] at hj
    exact h.pl j q hj

/-- (Atlas).Put. -/
theorem f16_spec {sc : List (Int × List Bm)} {pl : List (Int × Pm)} (h : Atl sc pl) (i : Int) {S : List Bm} (hl : S.length ≤ 3) : ∃ e sc', f16 (i, S, sc, pl, ()) = some (e, sc', pl, ()) ∧ Atl sc' pl := by
  obtain ⟨b, h1, h2⟩ := f25_spec (S := S) (by omega)
  have hK : (keyB tC (3 : TypeId) : Int → Int → Bool) = K3 := rfl
  have hcl := f27_spec (S := S) (by omega)
  cases b with
  | false => exact ⟨1, sc, by unfold f16; simp only [h1, Option.bind_some, Bool.not_false, cond_true], h⟩
  | true =>
    cases hv : f22 i with
    | false => exact ⟨2, sc, by unfold f16; simp only [h1, Option.bind_some, Bool.not_true, cond_false, hv, Bool.not_false, cond_true], h⟩
    | true =>
      have hp := h.put (f22_iff.1 hv) hl (h2 rfl)
      cases hg : (mget K3 sc i).isSome with
      | false =>
        refine ⟨0, mput K3 sc i S, ?_, hp⟩
        unfold f16
        have hg' : (mget (keyB tC (3 : TypeId)) sc i).isSome = false := hg
        simp only [h1, Option.bind_some, Bool.not_true, cond_false, hv, hg', Bool.not_false, cond_true, hcl, j16_25]
        rfl
      | true =>
        obtain ⟨r, hr⟩ := f26_tot (a := S) (b := (mget K3 sc i).getD []) (by omega)
        have hg' : (mget (keyB tC (3 : TypeId)) sc i).isSome = true := hg
        have hr' : f26 (S, (mget (keyB tC (3 : TypeId)) sc i).getD [], ()) = some (r, ()) := hr
        by_cases c : r > 0
        · refine ⟨0, mput K3 sc i S, ?_, hp⟩
          unfold f16
          simp only [h1, Option.bind_some, Bool.not_true, cond_false, hv, hg', hr', c, decide_true, cond_true, hcl, j16_25]
          rfl
        · refine ⟨0, sc, ?_, h⟩
          unfold f16
          simp only [h1, Option.bind_some, Bool.not_true, cond_false, hv, hg', hr', c, decide_false, j16_25]

theorem f23_tot (v : Int) (g : Bool) (x y h v' : Int) (g' : Bool) (x' y' h' : Int) : ∃ r, f23 (v, g, x, y, h, v', g', x', y', h', ()) = some (r, ()) ∧ (v < v' → r = -1) := by
  obtain ⟨r, h1, h2⟩ := f38_tot [f39 v v', f39 (f40 g) (f40 g'), f39 x x', f39 y y', f39 h h'] (by simp)
  refine ⟨r, ?_, fun hv => ?_⟩
  · unfold f23
    simp only [h1, Option.bind_some]
  · have e : f39 v v' = -1 := by rw [f39_spec]; unfold ord1; rw [if_pos hv]
    have := h2 (f39 v v') _ rfl (by rw [e]; decide)
    rw [this, e]

/-- (Atlas).Place. -/
theorem f12_spec {sc : List (Int × List Bm)} {pl : List (Int × Pm)} (h : Atl sc pl) (i : Int) (p : Pm) : ∃ e pl', f12 (i, p.V, p.G, p.X, p.Y, p.H, sc, pl, ()) = some (e, sc, pl', ()) ∧ Atl sc pl' ∧
    ((e ≠ 0 ∧ pl' = pl) ∨ e = 0 ∧ ((pl' = mput K3 pl i p ∧ ∀ q, mget K3 pl i = some q → ¬ p.V < q.V) ∨ pl' = pl ∧ ∃ q, mget K3 pl i = some q)) := by
  cases h1 : f21 p.V p.G p.X p.Y p.H with
  | false => exact ⟨1, pl, by unfold f12; simp only [h1, Bool.not_false, cond_true], h, .inl ⟨by decide, rfl⟩⟩
  | true =>
    cases hv : f22 i with
    | false => exact ⟨2, pl, by unfold f12; simp only [h1, Bool.not_true, cond_false, hv, Bool.not_false, cond_true], h, .inl ⟨by decide, rfl⟩⟩
    | true =>
      have hp := h.place (f22_iff.1 hv) (p := p) h1
      cases hg : mget K3 pl i with
      | none =>
        have hg' : (mget (keyB tC (3 : TypeId)) pl i).isSome = false := by show (mget K3 pl i).isSome = false; rw [hg]; rfl
        refine ⟨0, mput K3 pl i p, ?_, hp, .inr ⟨rfl, .inl ⟨rfl, fun q hq => by cases hq⟩⟩⟩
        unfold f12
        simp only [h1, Bool.not_true, cond_false, hv, hg', Bool.not_false, cond_true, j12_25, Option.bind_some]
        rfl
      | some q =>
        have hg' : (mget (keyB tC (3 : TypeId)) pl i).isSome = true := by show (mget K3 pl i).isSome = true; rw [hg]; rfl
        have hq : (mget (keyB tC (3 : TypeId)) pl i).getD (Pm.mk 0 false 0 0 0) = q := by show (mget K3 pl i).getD _ = q; rw [hg]; rfl
        obtain ⟨r, hr, hr2⟩ := f23_tot p.V p.G p.X p.Y p.H q.V q.G q.X q.Y q.H
        by_cases c : r > 0
        · refine ⟨0, mput K3 pl i p, ?_, hp, .inr ⟨rfl, .inl ⟨rfl, fun q' hq' hlt => ?_⟩⟩⟩
          · unfold f12
            simp only [h1, Bool.not_true, cond_false, hv, hg', hq, hr, Option.bind_some, c, decide_true, cond_true, j12_25]
            rfl
          · cases hq'
            have := hr2 hlt
            omega
        · refine ⟨0, pl, ?_, h, .inr ⟨rfl, .inr ⟨rfl, q, rfl⟩⟩⟩
          unfold f12
          simp only [h1, Bool.not_true, cond_false, hv, hg', hq, hr, Option.bind_some, c, decide_false, j12_25]

/-- tell. -/
theorem f7_spec {sc : List (Int × List Bm)} {pl : List (Int × Pm)} (h : Atl sc pl) {n : Nt} (hn : n.S.length ≤ 3) : ∃ e sc' pl', f7 (n.P, n.I, n.S, n.V, n.G, n.X, n.Y, n.H, sc, pl, ()) = some (e, sc', pl', ()) ∧ Atl sc' pl' := by
  cases hp : n.P with
  | true =>
    obtain ⟨e, sc', h1, h2⟩ := f16_spec h n.I hn
    exact ⟨e, sc', pl, by unfold f7; simp only [cond_true, h1, Option.bind_some], h2⟩
  | false =>
    obtain ⟨e, pl', h1, h2, _⟩ := f12_spec h n.I ⟨n.V, n.G, n.X, n.Y, n.H⟩
    simp only at h1
    exact ⟨e, sc, pl', by unfold f7; simp only [cond_false, h1, Option.bind_some], h2⟩

/-! ### Part -/

noncomputable def ofL (X Y H : Int) (S : List Bm) : List En := match f19 (X, Y, H, S, ()) with
  | some (n, _, ob, _) => ob.take n
  | none => []
noncomputable def part (sc : List (Int × List Bm)) (pl : List (Int × Pm)) (i : Int) : List En := match mget K3 sc i, mget K3 pl i with
  | some S, some p => bif p.G then [] else ofL p.X p.Y p.H S
  | _, _ => []

theorem f11_get {pl : List (Int × Pm)} {i : Int} {p : Pm} (sc : List (Int × List Bm)) (h : mget K3 pl i = some p) : f11 i sc pl = (p.V, p.G, p.X, p.Y, p.H, true, sc, pl) := by
  have h' : mget (keyB tC (3 : TypeId)) pl i = some p := h
  unfold f11
  rw [h']
  rfl
theorem f11_none {pl : List (Int × Pm)} {i : Int} (sc : List (Int × List Bm)) (h : mget K3 pl i = none) : f11 i sc pl = (0, false, 0, 0, 0, false, sc, pl) := by
  have h' : mget (keyB tC (3 : TypeId)) pl i = none := h
  unfold f11
  rw [h']
  rfl

theorem f9_spec {sc : List (Int × List Bm)} {pl : List (Int × Pm)} (h : Atl sc pl) (i : Int) : ∃ (n : Nat) (ob : List En), f9 (i, sc, pl, ()) = some (n, sc, pl, ob, ()) ∧ n ≤ ob.length ∧ ob.take n = part sc pl i ∧ Good 15123 15123 (part sc pl i) := by
  have g0 : Good 15123 15123 [] := good_nil.mono (by omega) (by omega)
  cases hs : mget K3 sc i with
  | none =>
    have hs' : mget (keyB tC (3 : TypeId)) sc i = none := hs
    have s18 : f18 (i, sc, pl, ()) = some ([], false, sc, pl, ()) := by
      unfold f18
      rw [hs']
      simp only [Option.getD_none, f27_spec (S := []) (by simp), Option.bind_some, Option.isSome_none]
    have hp : part sc pl i = [] := by unfold part; rw [hs]
    cases hp2 : mget K3 pl i with
    | none => exact ⟨0, [], by unfold f9; simp only [s18, f11_none sc hp2, Option.bind_some, Bool.not_false, cond_true], Nat.le_refl _, by rw [hp]; rfl, by rw [hp]; exact g0⟩
    | some p => exact ⟨0, [], by unfold f9; simp only [s18, f11_get sc hp2, Option.bind_some, Bool.not_false, cond_true], Nat.le_refl _, by rw [hp]; rfl, by rw [hp]; exact g0⟩
  | some S =>
    have hs' : mget (keyB tC (3 : TypeId)) sc i = some S := hs
    obtain ⟨_, hS1, hS2⟩ := h.sc i S hs
    have s18 : f18 (i, sc, pl, ()) = some (S, true, sc, pl, ()) := by
      unfold f18
      rw [hs']
      simp only [Option.getD_some, f27_spec (S := S) (by omega), Option.bind_some, Option.isSome_some]
    cases hp2 : mget K3 pl i with
    | none =>
      have hp : part sc pl i = [] := by unfold part; rw [hs, hp2]
      exact ⟨0, [], by unfold f9; simp only [s18, f11_none sc hp2, Option.bind_some, Bool.not_true, cond_false, Bool.not_false, cond_true], Nat.le_refl _, by rw [hp]; rfl, by rw [hp]; exact g0⟩
    | some p =>
      cases hg : p.G with
      | true =>
        have hp : part sc pl i = [] := by unfold part; rw [hs, hp2]; simp only [hg, cond_true]
        exact ⟨0, [], by unfold f9; simp only [s18, f11_get sc hp2, Option.bind_some, Bool.not_true, cond_false, hg, cond_true], Nat.le_refl _, by rw [hp]; rfl, by rw [hp]; exact g0⟩
      | false =>
        obtain ⟨n, ob, u1, u2, u3⟩ := f19_spec (okPm_pose (h.pl i p hp2).2 hg) hS2 hS1
        have hp : part sc pl i = ob.take n := by unfold part; rw [hs, hp2]; simp only [hg, cond_false]; unfold ofL; rw [u1]
        refine ⟨n, ob, ?_, u2, hp.symm, by rw [hp]; exact u3⟩
        unfold f9
        simp only [s18, f11_get sc hp2, Option.bind_some, Bool.not_true, cond_false, hg, u1]
end Go.AE

/-
  The atlas: Ids, Map: the sum of the parts.
-/
namespace Go.AE
open Go.RowKit
set_option maxRecDepth 100000

section
variable {sc : List (Int × List Bm)} {pl : List (Int × Pm)}

/-- An id has a scan or a placement. -/
noncomputable def hasI (sc : List (Int × List Bm)) (pl : List (Int × Pm)) (i : Nat) : Bool := (mget (keyB tC (3 : TypeId)) sc (i : Int)).isSome || (mget (keyB tC (3 : TypeId)) pl (i : Int)).isSome
noncomputable def idsN (sc : List (Int × List Bm)) (pl : List (Int × Pm)) (n : Nat) : List Nat := (List.range n).filter (hasI sc pl)
noncomputable def idsL (sc : List (Int × List Bm)) (pl : List (Int × Pm)) (n : Nat) : List Int := (idsN sc pl n).map fun i : Nat => (i : Int)

theorem idsL_len (n : Nat) : (idsL sc pl n).length ≤ n := by
  unfold idsL idsN
  rw [List.length_map]
  exact Nat.le_trans (List.length_filter_le _ _) (by rw [List.length_range]; exact Nat.le_refl _)
theorem idsL_succ (n : Nat) : idsL sc pl (n + 1) = if hasI sc pl n = true then idsL sc pl n ++ [(n : Int)] else idsL sc pl n := by
  unfold idsL idsN
  rw [List.range_succ, List.filter_append, List.map_append]
  by_cases h : hasI sc pl n = true <;> simp [h]

/-- (Atlas).Ids. -/
theorem l20_0_spec : ∀ (s i n : Nat) (ob : List Int), 64 - i = s → i ≤ 64 → n ≤ ob.length → n ≤ i → ob.take n = idsL sc pl i →
    ∃ (n' : Nat) (ob' : List Int), l20_0 (n, (i : Int), sc, pl, ob, ()) = some (n', sc, pl, ob', ()) ∧ n' ≤ ob'.length ∧ n' ≤ 64 ∧ ob'.take n' = idsL sc pl 64
  | s, i, n, ob, hs, hi, hn, hni, ht => by
    unfold l20_0
    rw [iterO_eq]
    by_cases e : i = 64
    · have c1 : ¬ ((i : Int) < 64) := by omega
      have hr : r20_0 (n, (i : Int), sc, pl, ob, ()) = some (.inr (n, sc, pl, ob, ())) := by
        unfold r20_0
        simp only [c1, decide_false, cond_false]
      rw [hr]
      subst e
      exact ⟨n, ob, rfl, hn, hni, ht⟩
    · have c1 : ((i : Int) < 64) := by omega
      have w1 : IntKind.i64.wrap ((i : Int) + 1) = ((i + 1 : Nat) : Int) := by rw [w64 (by omega) (by omega)]; rfl
      have hz : 0 + n ≤ ob.length := by omega
      have hro : roomy (n + 1) 8 = true := roomy_ok (by omega)
      have hlen : (List.take n ob ++ [(i : Int)]).length = n + 1 := by rw [List.length_append, List.length_take]; simp; omega
      have grow : hasI sc pl i = true → List.take (n + 1) (List.take n ob ++ [(i : Int)]) = idsL sc pl (i + 1) := fun h => by
        rw [← hlen, List.take_length, ht, idsL_succ, if_pos h]
      match s, hs with
      | 0, hs => omega
      | s + 1, hs =>
        cases h1 : (mget (keyB tC (3 : TypeId)) sc (i : Int)).isSome with
        | true =>
          have hh : hasI sc pl i = true := by unfold hasI; rw [h1]; rfl
          have hr : r20_0 (n, (i : Int), sc, pl, ob, ()) = some (.inl (n + 1, ((i + 1 : Nat) : Int), sc, pl, List.take n ob ++ [(i : Int)], ())) := by
            unfold r20_0
            simp only [c1, decide_true, cond_true, h1, hz, hro, List.drop_zero, j20_34, Option.bind_some, w1]
          rw [hr]
          exact l20_0_spec s (i + 1) (n + 1) _ (by omega) (by omega) (by omega) (by omega) (grow hh)
        | false =>
          cases h2 : (mget (keyB tC (3 : TypeId)) pl (i : Int)).isSome with
          | true =>
            have hh : hasI sc pl i = true := by unfold hasI; rw [h1, h2]; rfl
            have hr : r20_0 (n, (i : Int), sc, pl, ob, ()) = some (.inl (n + 1, ((i + 1 : Nat) : Int), sc, pl, List.take n ob ++ [(i : Int)], ())) := by
              unfold r20_0
              simp only [c1, decide_true, cond_true, cond_false, h1, h2, hz, hro, List.drop_zero, j20_34, Option.bind_some, w1]
            rw [hr]
            exact l20_0_spec s (i + 1) (n + 1) _ (by omega) (by omega) (by omega) (by omega) (grow hh)
          | false =>
            have hh : ¬ hasI sc pl i = true := by unfold hasI; rw [h1, h2]; decide
            have hr : r20_0 (n, (i : Int), sc, pl, ob, ()) = some (.inl (n, ((i + 1 : Nat) : Int), sc, pl, ob, ())) := by
              unfold r20_0
              simp only [c1, decide_true, cond_true, cond_false, h1, h2, j20_34, Option.bind_some, w1]
            rw [hr]
            exact l20_0_spec s (i + 1) n ob (by omega) (by omega) hn (by omega) (by rw [ht, idsL_succ, if_neg hh])

theorem f20_spec : ∃ (n : Nat) (ob : List Int), f20 (sc, pl, ()) = some (n, sc, pl, ob, ()) ∧ n ≤ ob.length ∧ n ≤ 64 ∧ ob.take n = idsL sc pl 64 := by
  obtain ⟨n, ob, h1, h2, h3, h4⟩ := l20_0_spec (sc := sc) (pl := pl) 64 0 0 [] rfl (by omega) (Nat.le_refl _) (Nat.le_refl _) rfl
  have h1' : l20_0 (0, 0, sc, pl, [], ()) = some (n, sc, pl, ob, ()) := h1
  refine ⟨n, ob, ?_, h2, h3, h4⟩
  unfold f20
  simp only [h1', Option.bind_some]

/-! ### Sums -/

/-- The sum over ids of what the parts count at a cell. -/
noncomputable def sumA (sc : List (Int × List Bm)) (pl : List (Int × Pm)) (l : List Int) (c : Pt) : Int := (l.map fun i => valA (part sc pl i) c).sum
noncomputable def sumB (sc : List (Int × List Bm)) (pl : List (Int × Pm)) (l : List Int) (c : Pt) : Int := (l.map fun i => valB (part sc pl i) c).sum

theorem l10_0_spec (h : Atl sc pl) {m : Nat} {ids : List Int} (hm : m ≤ ids.length) (hm2 : m ≤ 64) : ∀ (s i n : Nat) (ob : List En), m - i = s → i ≤ m → n ≤ ob.length → Good (15123 * i) (15123 * i) (ob.take n) →
    (∀ c, valA (ob.take n) c = sumA sc pl (ids.take i) c ∧ valB (ob.take n) c = sumB sc pl (ids.take i) c) →
    ∃ (n' : Nat) (ob' : List En), l10_0 (n, m, (m : Int), (i : Int), sc, pl, ob, ids, ()) = some (n', sc, pl, ob', ()) ∧ n' ≤ ob'.length ∧ Good (15123 * m) (15123 * m) (ob'.take n') ∧ ∀ c, valA (ob'.take n') c = sumA sc pl (ids.take m) c ∧ valB (ob'.take n') c = sumB sc pl (ids.take m) c
  | s, i, n, ob, hs, hi, hn, hg, hv => by
    unfold l10_0
    rw [iterO_eq]
    by_cases e : i = m
    · have c1 : ¬ ((i : Int) < (m : Int)) := by omega
      have hr : r10_0 (n, m, (m : Int), (i : Int), sc, pl, ob, ids, ()) = some (.inr (n, sc, pl, ob, ())) := by
        unfold r10_0
        simp only [c1, decide_false, cond_false]
      rw [hr]
      subst e
      exact ⟨n, ob, rfl, hn, hg, hv⟩
    · have hlt : i < ids.length := by omega
      have c1 : ((i : Int) < (m : Int)) := by omega
      have c0 : (0 : Int) ≤ (i : Int) := by omega
      have hget : ids[0 + (i : Int).toNat]? = some ids[i] := by rw [Int.toNat_natCast, Nat.zero_add]; exact List.getElem?_eq_getElem hlt
      have w1 : IntKind.i64.wrap ((i : Int) + 1) = ((i + 1 : Nat) : Int) := by rw [w64 (by omega) (by omega)]; rfl
      obtain ⟨n1, ob1, p1, p2, p3, p4⟩ := f9_spec h ids[i]
      obtain ⟨n2, ob2, q1, q2, q3, q4⟩ := f24_spec hg p4 (by omega) (by omega) (k := 1) (.inl rfl)
      have hz : 0 + n ≤ ob.length := by omega
      have hz1 : 0 + n1 ≤ ob1.length := by omega
      have h15 : f15 (List.take n ob, List.take n1 ob1, ()) = some (n2, 0, ob2, ()) := by
        unfold f15
        rw [p3]
        simp only [q1, Option.bind_some]
      have hr : r10_0 (n, m, (m : Int), (i : Int), sc, pl, ob, ids, ()) = some (.inl (n2, m, (m : Int), ((i + 1 : Nat) : Int), sc, pl, ob2, ids, ())) := by
        unfold r10_0
        simp only [c1, c0, decide_true, cond_true, Bool.and_true, hget, Option.bind_some, p1, hz, hz1, List.drop_zero, h15, w1]
      rw [hr]
      match s, hs with
      | 0, hs => omega
      | s + 1, hs =>
        refine l10_0_spec h hm hm2 s (i + 1) n2 ob2 (by omega) (by omega) q2 (by rw [Nat.mul_add, Nat.mul_one]; exact q3) (fun c => ?_)
        have htk : ids.take (i + 1) = ids.take i ++ [ids[i]] := by rw [List.take_add_one, List.getElem?_eq_getElem hlt]; rfl
        have := q4 c
        have hvc := hv c
        unfold sumA sumB at hvc ⊢
        rw [htk, List.map_append, List.map_append, List.sum_append, List.sum_append]
        simp only [List.map_cons, List.map_nil, List.sum_cons, List.sum_nil]
        omega

/-- (Atlas).Map. -/
theorem f10_spec (h : Atl sc pl) : ∃ (n : Nat) (ob : List En), f10 (sc, pl, ()) = some (n, sc, pl, ob, ()) ∧ n ≤ ob.length ∧ Good 967872 967872 (ob.take n) ∧ ∀ c, valA (ob.take n) c = sumA sc pl (idsL sc pl 64) c ∧ valB (ob.take n) c = sumB sc pl (idsL sc pl 64) c := by
  obtain ⟨m, ids, h1, h2, h3, h4⟩ := f20_spec (sc := sc) (pl := pl)
  obtain ⟨n, ob, k1, k2, k3, k4⟩ := l10_0_spec h h2 h3 m 0 0 [] (by omega) (by omega) (Nat.le_refl _) (good_nil) (fun c => ⟨rfl, rfl⟩)
  have k1' : l10_0 (0, m, (m : Int), 0, sc, pl, [], ids, ()) = some (n, sc, pl, ob, ()) := k1
  refine ⟨n, ob, ?_, k2, k3.mono (by omega) (by omega), fun c => by rw [← h4]; exact k4 c⟩
  unfold f10
  simp only [h1, Option.bind_some, k1']
end

/-- All ids. -/
def allI : List Int := (List.range 64).map fun i : Nat => (i : Int)

theorem part_none {sc : List (Int × List Bm)} {pl : List (Int × Pm)} {i : Nat} (h : ¬ hasI sc pl i = true) : part sc pl (i : Int) = [] := by
  unfold hasI at h
  have h1 : mget K3 sc (i : Int) = none := by
    cases hg : mget K3 sc (i : Int) with
    | none => rfl
    | some S =>
      have : (mget (keyB tC (3 : TypeId)) sc (i : Int)).isSome = true := by show (mget K3 sc (i : Int)).isSome = true; rw [hg]; rfl
      rw [this] at h
      exact (h rfl).elim
  unfold part
  rw [h1]

theorem sum_ids (sc : List (Int × List Bm)) (pl : List (Int × Pm)) (f : List En → Int) (hf : f [] = 0) : ∀ l : List Nat, (((l.filter (hasI sc pl)).map fun i : Nat => (i : Int)).map fun i => f (part sc pl i)).sum = ((l.map fun i : Nat => (i : Int)).map fun i => f (part sc pl i)).sum
  | [] => rfl
  | i :: l => by
    have ih := sum_ids sc pl f hf l
    by_cases h : hasI sc pl i = true
    · rw [List.filter_cons_of_pos h]
      simp only [List.map_cons, List.sum_cons]
      rw [ih]
    · rw [List.filter_cons_of_neg h]
      simp only [List.map_cons, List.sum_cons]
      rw [ih, part_none h, hf, Int.zero_add]

theorem sumA_all (sc : List (Int × List Bm)) (pl : List (Int × Pm)) (c : Pt) : sumA sc pl (idsL sc pl 64) c = sumA sc pl allI c := sum_ids sc pl (fun l => valA l c) rfl (List.range 64)
theorem sumB_all (sc : List (Int × List Bm)) (pl : List (Int × Pm)) (c : Pt) : sumB sc pl (idsL sc pl 64) c = sumB sc pl allI c := sum_ids sc pl (fun l => valB l c) rfl (List.range 64)

/-- One part changes. -/
theorem sum_change {f g : Int → Int} {j : Int} : ∀ (l : List Int), l.Nodup → (∀ i ∈ l, i ≠ j → f i = g i) → (l.map f).sum = (l.map g).sum + (if j ∈ l then f j - g j else 0)
  | [], _, _ => by simp
  | i :: l, hn, h => by
    obtain ⟨h1, h2⟩ := List.nodup_cons.1 hn
    have ih := sum_change (j := j) l h2 (fun k hk => h k (List.mem_cons_of_mem _ hk))
    simp only [List.map_cons, List.sum_cons]
    rw [ih]
    by_cases e : i = j
    · subst e
      rw [if_neg h1, if_pos List.mem_cons_self]
      omega
    · rw [h i List.mem_cons_self e]
      by_cases hm : j ∈ l
      · rw [if_pos hm, if_pos (List.mem_cons_of_mem _ hm)]
        omega
      · rw [if_neg hm, if_neg (fun hx => by
          rcases List.mem_cons.1 hx with h | h
          · exact e h.symm
          · exact hm h)]
        omega

theorem allI_nodup : allI.Nodup := by decide
theorem allI_mem {i : Int} (h : 0 ≤ i ∧ i < 64) : i ∈ allI := by
  unfold allI
  rw [List.mem_map]
  exact ⟨i.toNat, by rw [List.mem_range]; omega, by omega⟩

/-! ### base.Entries, few, base.Mod -/

theorem f13_refl {l : List En} (hl : l.length ≤ 2000000) : f13 (l, l, ()) = some (true, ()) := by
  have key : ∀ (s i : Nat), l.length - i = s → i ≤ l.length → l13_0 (l, l, (i : Int), ()) = some (.inr ()) := by
    intro s
    induction s with
    | zero =>
      intro i hs hi
      have e : i = l.length := by omega
      subst e
      have c1 : ¬ ((l.length : Int) < (l.length : Int)) := by omega
      unfold l13_0
      have hr : r13_0 (l, l, (l.length : Int), ()) = some (.inr (.inr ())) := by
        unfold r13_0
        simp only [c1, decide_false, cond_false]
      rw [iterO_eq, hr]
    | succ s ih =>
      intro i hs hi
      have hlt : i < l.length := by omega
      have c1 : ((i : Int) < (l.length : Int)) := by omega
      have hc : l[i]? = some l[i] := List.getElem?_eq_getElem hlt
      have w1 : IntKind.i64.wrap ((i : Int) + 1) = ((i + 1 : Nat) : Int) := by rw [w64 (by omega) (by omega)]; rfl
      unfold l13_0
      have hr : r13_0 (l, l, (i : Int), ()) = some (.inl (l, l, ((i + 1 : Nat) : Int), ())) := by
        unfold r13_0
        simp only [c1, decide_true, cond_true, idxO_nat, hc, Option.bind_some, beq_self_eq_true, Bool.not_true, cond_false, w1]
      rw [iterO_eq, hr]
      exact ih (i + 1) (by omega) (by omega)
  have h := key l.length 0 (by omega) (by omega)
  have h' : l13_0 (l, l, 0, ()) = some (.inr ()) := h
  unfold f13
  simp only [bne_self_eq_false, cond_false, h', Option.bind_some, Sum.elim_inr]

theorem f5_spec (l : List Nt) : ∃ b, f5 (l, ()) = some (b, ()) ∧ (b = true → l.length ≤ 10 ∧ ∀ n ∈ l, n.S.length ≤ 3) := by
  by_cases hl : (l.length : Int) > 10
  · exact ⟨false, by unfold f5; simp only [hl, decide_true, cond_true], fun h => by cases h⟩
  have key : ∀ (s i : Nat), l.length - i = s → i ≤ l.length → ∃ y, l5_0 (l, (i : Int), ()) = some y ∧ (y = .inl (false, ()) ∨ y = .inr () ∧ ∀ n ∈ l.drop i, n.S.length ≤ 3) := by
    intro s
    induction s with
    | zero =>
      intro i hs hi
      have e : i = l.length := by omega
      subst e
      have c1 : ¬ ((l.length : Int) < (l.length : Int)) := by omega
      unfold l5_0
      have hr : r5_0 (l, (l.length : Int), ()) = some (.inr (.inr ())) := by
        unfold r5_0
        simp only [c1, decide_false, cond_false]
      rw [iterO_eq, hr]
      refine ⟨_, rfl, .inr ⟨rfl, fun n hn => ?_⟩⟩
      rw [List.drop_eq_nil_of_le (Nat.le_refl _)] at hn
      cases hn
    | succ s ih =>
      intro i hs hi
      have hlt : i < l.length := by omega
      have c1 : ((i : Int) < (l.length : Int)) := by omega
      have hc : l[i]? = some l[i] := List.getElem?_eq_getElem hlt
      have w1 : IntKind.i64.wrap ((i : Int) + 1) = ((i + 1 : Nat) : Int) := by rw [w64 (by omega) (by omega)]; rfl
      unfold l5_0
      by_cases c2 : (l[i].S.length : Int) > 3
      · have hr : r5_0 (l, (i : Int), ()) = some (.inr (.inl (false, ()))) := by
          unfold r5_0
          simp only [c1, decide_true, cond_true, idxO_nat, hc, Option.bind_some, c2]
        rw [iterO_eq, hr]
        exact ⟨_, rfl, .inl rfl⟩
      · have hr : r5_0 (l, (i : Int), ()) = some (.inl (l, ((i + 1 : Nat) : Int), ())) := by
          unfold r5_0
          simp only [c1, decide_true, cond_true, idxO_nat, hc, Option.bind_some, c2, decide_false, cond_false, w1]
        obtain ⟨y, h1, h2⟩ := ih (i + 1) (by omega) (by omega)
        rw [iterO_eq, hr]
        refine ⟨y, h1, ?_⟩
        rcases h2 with h | ⟨h, h'⟩
        · exact .inl h
        · refine .inr ⟨h, fun n hn => ?_⟩
          rw [List.drop_eq_getElem_cons hlt] at hn
          rcases List.mem_cons.1 hn with h | h
          · rw [h]; omega
          · exact h' n h
  obtain ⟨y, h1, h2⟩ := key l.length 0 (by omega) (by omega)
  have h1' : l5_0 (l, 0, ()) = some y := h1
  rcases h2 with rfl | ⟨rfl, h2⟩
  · exact ⟨false, by unfold f5; simp only [hl, decide_false, cond_false, h1', Option.bind_some, Sum.elim_inl], fun h => by cases h⟩
  · exact ⟨true, by unfold f5; simp only [hl, decide_false, cond_false, h1', Option.bind_some, Sum.elim_inr], fun _ => ⟨by omega, by rw [List.drop_zero] at h2; exact h2⟩⟩

theorem f8_spec (n : Int) : ∃ m, f8 (n, 64, ()) = some (m, ()) ∧ 0 ≤ m ∧ m < 64 := by
  have q : ((64 : Int) == 0) = false := by decide
  have h1 : -64 < n.tmod 64 ∧ n.tmod 64 < 64 := by
    constructor
    · have := Int.lt_tmod_of_pos n (show (0 : Int) < 64 by omega)
      omega
    · exact Int.tmod_lt_of_pos n (by omega)
  by_cases c : n.tmod 64 < 0
  · have w1 : IntKind.i64.wrap (n.tmod 64 + 64) = n.tmod 64 + 64 := w64 (by omega) (by omega)
    refine ⟨n.tmod 64 + 64, ?_, by omega, by omega⟩
    unfold f8
    simp only [q, cond_false, c, decide_true, cond_true, w1, j8_13, Option.bind_some]
  · refine ⟨n.tmod 64, ?_, by omega, by omega⟩
    unfold f8
    simp only [q, cond_false, c, decide_false, j8_13, Option.bind_some]
end Go.AE
