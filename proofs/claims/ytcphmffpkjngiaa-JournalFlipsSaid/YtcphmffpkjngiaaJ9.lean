/-
  Plain laws of the chapter Journal, part 13: Queries.
-/
import Derived.Test.YtcphmffpkjngiaaJ8
namespace Go.AE
open Go.Proofs Go.RowKit
set_option maxRecDepth 100000

/-! ### The place of a tick -/

theorem l79_spec {l : List Ev} (hl : l.length ≤ 1000000) (hs : l.Pairwise fun a b => a.T < b.T) (t n : Int) : ∀ (k i j : Nat), j - i ≤ k → i ≤ j → j ≤ l.length →
    (∀ q (h : q < l.length), q < i → l[q].T < t) → (∀ q (h : q < l.length), j ≤ q → t ≤ l[q].T) →
    ∃ p : Nat, p ≤ l.length ∧ l79_0 (l, t, n, (i : Int), (j : Int), ()) = some (l, t, n, (p : Int), ()) ∧ (∀ q (h : q < l.length), q < p → l[q].T < t) ∧ (∀ q (h : q < l.length), p ≤ q → t ≤ l[q].T) := by
  have key : ∀ (i j : Nat), ¬ i < j → i ≤ j → j ≤ l.length → (∀ q (h : q < l.length), q < i → l[q].T < t) → (∀ q (h : q < l.length), j ≤ q → t ≤ l[q].T) →
    ∃ p : Nat, p ≤ l.length ∧ l79_0 (l, t, n, (i : Int), (j : Int), ()) = some (l, t, n, (p : Int), ()) ∧ (∀ q (h : q < l.length), q < p → l[q].T < t) ∧ (∀ q (h : q < l.length), p ≤ q → t ≤ l[q].T) := by
    intro i j hij h0 hj h1 h2
    have c1 : ¬ (i : Int) < (j : Int) := by omega
    have : i = j := by omega
    subst this
    refine ⟨i, hj, ?_, h1, h2⟩
    have hr : r79_0 (l, t, n, (i : Int), (i : Int), ()) = some (.inr (l, t, n, (i : Int), ())) := by
      unfold r79_0
      simp only [c1, decide_false, cond_false]
    unfold l79_0
    rw [iterO_eq, hr]
  intro k
  induction k with
  | zero =>
    intro i j hk h0 hj h1 h2
    exact key i j (by omega) h0 hj h1 h2
  | succ k ih =>
    intro i j hk h0 hj h1 h2
    by_cases hij : i < j
    · have c1 : (i : Int) < (j : Int) := by omega
      have w1 : IntKind.i64.wrap ((i : Int) + (j : Int)) = ((i + j : Nat) : Int) := by rw [i64w (by omega) (by omega)]; omega
      have w2 : IntKind.u64.wrap ((i + j : Nat) : Int) = ((i + j : Nat) : Int) := u64w (by omega) (by omega)
      have w3 : ((i + j : Nat) : Int).fdiv 2 = (((i + j) / 2 : Nat) : Int) := by rw [Int.fdiv_eq_ediv_of_nonneg _ (by omega)]; omega
      have hm : (i + j) / 2 < j := by omega
      have hm2 : i ≤ (i + j) / 2 := by omega
      generalize (i + j) / 2 = m at *
      have w4 : IntKind.i64.wrap (m : Int) = (m : Int) := i64w (by omega) (by omega)
      have w5 : IntKind.i64.wrap ((m : Int) + 1) = ((m + 1 : Nat) : Int) := by rw [i64w (by omega) (by omega)]; rfl
      have hlt : m < l.length := by omega
      have hget := List.getElem?_eq_getElem hlt
      have mono : ∀ a b (ha : a < l.length) (hb : b < l.length), a < b → l[a].T < l[b].T := fun a b ha hb hab => List.pairwise_iff_getElem.1 hs a b ha hb hab
      by_cases hc : l[m].T < t
      · have hf : f80 l[m].T l[m].U l[m].F l[m].B l[m].S t = -1 := by
          unfold f80
          simp only [hc, decide_true, cond_true]
        have hr : r79_0 (l, t, n, (i : Int), (j : Int), ()) = some (.inl (l, t, n, ((m + 1 : Nat) : Int), (j : Int), ())) := by
          unfold r79_0
          simp only [c1, decide_true, cond_true, w1, w2, w3, w4, idxO_nat, hget, Option.bind_some, hf, w5]
          rfl
        obtain ⟨p, p1, p2, p3, p4⟩ := ih (m + 1) j (by omega) (by omega) hj (fun q h hq => by
          by_cases hqm : q = m
          · subst hqm; exact hc
          · have := mono q m h hlt (by omega)
            omega) h2
        refine ⟨p, p1, ?_, p3, p4⟩
        unfold l79_0 at p2 ⊢
        rw [iterO_eq, hr]
        exact p2
      · have hf : ¬ f80 l[m].T l[m].U l[m].F l[m].B l[m].S t < 0 := by
          unfold f80
          simp only [hc, decide_false, cond_false]
          by_cases hd : l[m].T > t
          · simp only [hd, decide_true, cond_true]; omega
          · simp only [hd, decide_false, cond_false]; omega
        have hr : r79_0 (l, t, n, (i : Int), (j : Int), ()) = some (.inl (l, t, n, (i : Int), (m : Int), ())) := by
          unfold r79_0
          simp only [c1, decide_true, cond_true, w1, w2, w3, w4, idxO_nat, hget, Option.bind_some, hf, decide_false, cond_false]
        obtain ⟨p, p1, p2, p3, p4⟩ := ih i m (by omega) hm2 (by omega) h1 (fun q h hq => by
          by_cases hqm : q = m
          · subst hqm; omega
          · have := mono m q hlt h (by omega)
            omega)
        refine ⟨p, p1, ?_, p3, p4⟩
        unfold l79_0 at p2 ⊢
        rw [iterO_eq, hr]
        exact p2
    · exact key i j hij h0 hj h1 h2

theorem f59_spec {l : List Ev} (A : List Int) (hl : l.length ≤ 1000000) (hs : l.Pairwise fun a b => a.T < b.T) (t : Int) :
    ∃ p : Nat, p ≤ l.length ∧ f59 (A, l, t, ()) = some ((p : Int), ()) ∧ (∀ q (h : q < l.length), q < p → l[q].T < t) ∧ (∀ q (h : q < l.length), p ≤ q → t ≤ l[q].T) := by
  obtain ⟨p, p1, p2, p3, p4⟩ := l79_spec hl hs t (l.length : Int) l.length 0 l.length (by omega) (by omega) (Nat.le_refl _) (fun q _ h => by omega) (fun q h h' => by omega)
  refine ⟨p, p1, ?_, p3, p4⟩
  have p2' : l79_0 (l, t, (l.length : Int), 0, (l.length : Int), ()) = _ := p2
  unfold f59 f79
  simp only [p2', Option.bind_some]
  by_cases h : p < l.length
  · have c1 : (p : Int) < (l.length : Int) := by omega
    simp only [c1, decide_true, cond_true, idxO_nat, List.getElem?_eq_getElem h, Option.bind_some]
  · have c1 : ¬ (p : Int) < (l.length : Int) := by omega
    simp only [c1, decide_false, cond_false, Option.bind_some]

/-! ### The events between two ticks -/

def btw (a b : Int) (l : List Ev) : List Ev := l.filter fun e => decide (a ≤ e.T) && decide (e.T ≤ b)

theorem filter_sorted (b : Int) : ∀ {l : List Ev}, (l.Pairwise fun x y => x.T < y.T) → l.filter (fun e => decide (e.T ≤ b)) = l.takeWhile (fun e => decide (e.T ≤ b))
  | [], _ => rfl
  | e :: l, h => by
    obtain ⟨h1, h2⟩ := List.pairwise_cons.1 h
    by_cases hc : e.T ≤ b
    · simp only [List.filter_cons, List.takeWhile_cons, hc, decide_true, if_true, filter_sorted b h2]
    · simp only [List.filter_cons, List.takeWhile_cons, hc, decide_false, Bool.false_eq_true, if_false]
      refine List.filter_eq_nil_iff.2 fun x hx => ?_
      have := h1 x hx
      simp only [decide_eq_true_eq]
      omega

theorem btw_drop {l : List Ev} (hs : l.Pairwise fun x y => x.T < y.T) (a b : Int) {p : Nat} (h1 : ∀ q (h : q < l.length), q < p → l[q].T < a) (h2 : ∀ q (h : q < l.length), p ≤ q → a ≤ l[q].T) :
    btw a b l = (l.drop p).takeWhile (fun e => decide (e.T ≤ b)) := by
  rw [← filter_sorted b (hs.sublist (List.drop_sublist p l))]
  unfold btw
  conv => lhs; rw [← List.take_append_drop p l]
  rw [List.filter_append]
  have e1 : (l.take p).filter (fun e => decide (a ≤ e.T) && decide (e.T ≤ b)) = [] := by
    refine List.filter_eq_nil_iff.2 fun x hx => ?_
    obtain ⟨j, hj, rfl⟩ := List.getElem_of_mem hx
    have hj2 := hj
    rw [List.length_take] at hj2
    have := h1 j (by omega) (by omega)
    rw [List.getElem_take]
    simp only [Bool.and_eq_true, decide_eq_true_eq]
    omega
  rw [e1, List.nil_append]
  refine List.filter_congr fun x hx => ?_
  obtain ⟨j, hj, rfl⟩ := List.getElem_of_mem hx
  have hj2 := hj
  rw [List.length_drop] at hj2
  have := h2 (p + j) (by omega) (by omega)
  rw [List.getElem_drop]
  simp only [this, decide_true, Bool.true_and]

theorem btw_len (a b : Int) (l : List Ev) : (btw a b l).length ≤ l.length := List.length_filter_le _ _
theorem btw_mem {a b : Int} {l : List Ev} {e : Ev} (h : e ∈ btw a b l) : e ∈ l := (List.mem_filter.1 h).1

theorem l32_spec {l : List Ev} (hl : l.length ≤ 1000000) (hs : ∀ e ∈ l, e.S.length ≤ 1000000) (b : Int) : ∀ (k i : Nat) (acc : List Ev), l.length - i = k → i ≤ l.length → acc.length ≤ i →
    l32_0 (b, acc.length, l, (l.length : Int), (i : Int), acc, ()) = some ((acc ++ (l.drop i).takeWhile (fun e => decide (e.T ≤ b))).length, acc ++ (l.drop i).takeWhile (fun e => decide (e.T ≤ b)), ()) := by
  intro k
  induction k with
  | zero =>
    intro i acc hk hi _
    have : i = l.length := by omega
    subst this
    have c1 : ¬ (l.length : Int) < (l.length : Int) := by omega
    unfold l32_0
    rw [iterO_eq]
    have : r32_0 (b, acc.length, l, (l.length : Int), (l.length : Int), acc, ()) = some (.inr (acc.length, acc, ())) := by
      unfold r32_0
      simp only [c1, decide_false, cond_false]
    rw [this]
    simp
  | succ k ih =>
    intro i acc hk hi ha
    have hlt : i < l.length := by omega
    have c1 : (i : Int) < (l.length : Int) := by omega
    have w0 : IntKind.i64.wrap ((i : Int) + 1) = ((i + 1 : Nat) : Int) := by rw [i64w (by omega) (by omega)]; rfl
    have hget := List.getElem?_eq_getElem hlt
    have hd : l.drop i = l[i] :: l.drop (i + 1) := List.drop_eq_getElem_cons hlt
    have hsi := hs _ (List.getElem_mem hlt)
    rw [hd]
    generalize l[i] = e at *
    have rr : roomy (acc.length + 1) 56 = true := room56 (by omega)
    by_cases hc : e.T ≤ b
    · have c2 : ¬ e.T > b := by omega
      have hr : r32_0 (b, acc.length, l, (l.length : Int), (i : Int), acc, ()) = some (.inl (b, (acc ++ [e]).length, l, (l.length : Int), ((i + 1 : Nat) : Int), acc ++ [e], ())) := by
        unfold r32_0
        simp only [c1, c2, decide_true, cond_true, decide_false, cond_false, idxO_nat, hget, Option.bind_some, f54_spec hsi, Nat.zero_add, Nat.le_refl, rr, takeL, w0, List.length_append, List.length_singleton]
      have := ih (i + 1) (acc ++ [e]) (by omega) (by omega) (by rw [List.length_append, List.length_singleton]; omega)
      unfold l32_0 at this ⊢
      rw [iterO_eq, hr]
      simp only
      rw [this]
      simp only [List.takeWhile_cons, hc, decide_true, if_true, List.append_assoc, List.cons_append, List.nil_append]
    · have c2 : e.T > b := by omega
      have hr : r32_0 (b, acc.length, l, (l.length : Int), (i : Int), acc, ()) = some (.inr (acc.length, acc, ())) := by
        unfold r32_0
        simp only [c1, c2, decide_true, cond_true, idxO_nat, hget, Option.bind_some]
      unfold l32_0
      rw [iterO_eq, hr]
      simp only [List.takeWhile_cons, hc, decide_false, Bool.false_eq_true, if_false, List.append_nil]

theorem f32_spec {l : List Ev} (h : Good l) (A : List Int) (a b : Int) : f32 (A, l, a, b, ()) = some (btw a b l, ()) := by
  have hfew := h.few
  obtain ⟨p, p1, p2, p3, p4⟩ := f59_spec A (show l.length ≤ 1000000 by omega) h.inc a
  have c1 : (0 : Int) ≤ (p : Int) := by omega
  have c2 : (p : Int) ≤ (l.length : Int) := by omega
  have hl := l32_spec (l := l.drop p) (by rw [List.length_drop]; omega) (fun e he => h.scan e (List.mem_of_mem_drop he)) b (l.drop p).length 0 [] rfl (by omega) (Nat.le_refl _)
  rw [List.drop_zero, List.nil_append, ← btw_drop h.inc a b p3 p4] at hl
  have hl' : l32_0 (b, 0, l.drop p, ((l.drop p).length : Int), 0, [], ()) = _ := hl
  unfold f32
  simp only [p2, Option.bind_some, c1, c2, decide_true, Int.le_refl, Bool.and_self, cond_true, Int.toNat_natCast, List.take_length, hl', Nat.zero_add, Nat.le_refl, takeL]

theorem l33_spec {l : List Ev} (hl : l.length ≤ 1000000) (a b : Int) : ∀ (k i : Nat) (acc : List Ev), l.length - i = k → i ≤ l.length → acc.length ≤ i →
    l33_0 (l, a, b, acc.length, (i : Int), acc, ()) = some ((acc ++ btw a b (l.drop i)).length, acc ++ btw a b (l.drop i), ()) := by
  intro k
  induction k with
  | zero =>
    intro i acc hk hi _
    have : i = l.length := by omega
    subst this
    have c1 : ¬ (l.length : Int) < (l.length : Int) := by omega
    unfold l33_0
    rw [iterO_eq]
    have : r33_0 (l, a, b, acc.length, (l.length : Int), acc, ()) = some (.inr (acc.length, acc, ())) := by
      unfold r33_0 f36
      simp only [c1, decide_false, cond_false]
    rw [this]
    simp [btw]
  | succ k ih =>
    intro i acc hk hi ha
    have hlt : i < l.length := by omega
    have c1 : (i : Int) < (l.length : Int) := by omega
    have w0 : IntKind.i64.wrap ((i : Int) + 1) = ((i + 1 : Nat) : Int) := by rw [i64w (by omega) (by omega)]; rfl
    have hget := List.getElem?_eq_getElem hlt
    have hd : l.drop i = l[i] :: l.drop (i + 1) := List.drop_eq_getElem_cons hlt
    rw [hd]
    generalize l[i] = e at *
    have rr : roomy (acc.length + 1) 56 = true := room56 (by omega)
    have hb : btw a b (e :: l.drop (i + 1)) = (if decide (a ≤ e.T) && decide (e.T ≤ b) then e :: btw a b (l.drop (i + 1)) else btw a b (l.drop (i + 1))) := by
      unfold btw
      rw [List.filter_cons]
    rw [hb]
    by_cases h1 : a ≤ e.T
    · have d1 : e.T ≥ a := h1
      by_cases h2 : e.T ≤ b
      · have hr : r33_0 (l, a, b, acc.length, (i : Int), acc, ()) = some (.inl (l, a, b, (acc ++ [e]).length, ((i + 1 : Nat) : Int), acc ++ [e], ())) := by
          unfold r33_0 f36
          simp only [c1, d1, h2, decide_true, cond_true, idxO_nat, hget, Option.bind_some, Nat.zero_add, Nat.le_refl, rr, takeL, j33_13, w0, List.length_append, List.length_singleton]
        have := ih (i + 1) (acc ++ [e]) (by omega) (by omega) (by rw [List.length_append, List.length_singleton]; omega)
        unfold l33_0 at this ⊢
        rw [iterO_eq, hr]
        simp only
        rw [this]
        simp only [h1, h2, decide_true, Bool.and_self, if_true, List.append_assoc, List.cons_append, List.nil_append]
      · have hr : r33_0 (l, a, b, acc.length, (i : Int), acc, ()) = some (.inl (l, a, b, acc.length, ((i + 1 : Nat) : Int), acc, ())) := by
          unfold r33_0 f36
          simp only [c1, d1, h2, decide_true, cond_true, decide_false, cond_false, idxO_nat, hget, Option.bind_some, j33_13, w0]
        have := ih (i + 1) acc (by omega) (by omega) (by omega)
        unfold l33_0 at this ⊢
        rw [iterO_eq, hr]
        simp only
        rw [this]
        simp only [h2, decide_false, Bool.and_false, Bool.false_eq_true, if_false]
    · have d1 : ¬ e.T ≥ a := h1
      have hr : r33_0 (l, a, b, acc.length, (i : Int), acc, ()) = some (.inl (l, a, b, acc.length, ((i + 1 : Nat) : Int), acc, ())) := by
        unfold r33_0 f36
        simp only [c1, d1, decide_true, cond_true, decide_false, cond_false, idxO_nat, hget, Option.bind_some, j33_13, w0]
      have := ih (i + 1) acc (by omega) (by omega) (by omega)
      unfold l33_0 at this ⊢
      rw [iterO_eq, hr]
      simp only
      rw [this]
      simp only [h1, decide_false, Bool.false_and, Bool.false_eq_true, if_false]

theorem f33_spec {l : List Ev} (hl : l.length ≤ 1000000) (a b : Int) : f33 (l, a, b, ()) = some (btw a b l, ()) := by
  have h := l33_spec hl a b l.length 0 [] rfl (by omega) (Nat.le_refl _)
  rw [List.drop_zero, List.nil_append] at h
  have h' : l33_0 (l, a, b, 0, 0, [], ()) = _ := h
  unfold f33
  simp only [h', Option.bind_some, Nat.zero_add, Nat.le_refl, decide_true, cond_true, takeL]

/-! ### The event at a tick -/

def atR (o : Option Ev) : Option (Int × Int × Int × Bool × List Bm × Bool × Unit) := match o with
  | some e => some (e.T, e.U, e.F, e.B, e.S, true, ())
  | none => some (0, 0, 0, false, [], false, ())

theorem f30_spec {l : List Ev} (hl : l.length ≤ 1000000) (t : Int) : f30 (l, t, ()) = atR (btw t t l).head? := by
  unfold f30
  simp only [f33_spec hl, Option.bind_some]
  cases h : btw t t l with
  | nil => rfl
  | cons e r =>
    have q : (((e :: r).length : Int) == 0) = false := by rw [beq_eq_false_iff_ne]; simp only [List.length_cons]; omega
    have i0 : idxO (e :: r) 0 = some e := rfl
    simp only [q, cond_false, i0, Option.bind_some, List.head?_cons, atR]

theorem f29_spec {l : List Ev} (h : Good l) (A : List Int) (t : Int) : f29 (A, l, t, ()) = atR (btw t t l).head? := by
  have hfew := h.few
  obtain ⟨p, p1, p2, p3, p4⟩ := f59_spec A (show l.length ≤ 1000000 by omega) h.inc t
  rw [btw_drop h.inc t t p3 p4]
  unfold f29
  simp only [p2, Option.bind_some]
  by_cases hp : p = l.length
  · subst hp
    simp [atR]
  · have hlt : p < l.length := by omega
    have q : ((p : Int) == (l.length : Int)) = false := by rw [beq_eq_false_iff_ne]; omega
    have hget := List.getElem?_eq_getElem hlt
    have hd : l.drop p = l[p] :: l.drop (p + 1) := List.drop_eq_getElem_cons hlt
    have hsi := h.scan _ (List.getElem_mem hlt)
    have h4 := p4 p hlt (Nat.le_refl _)
    rw [hd]
    generalize l[p] = e at *
    simp only [q, cond_false, idxO_nat, hget, Option.bind_some]
    by_cases ht : e.T = t
    · have q2 : (e.T != t) = false := by simp [ht]
      have q3 : e.T ≤ t := by omega
      simp only [q2, cond_false, f54_spec hsi, Option.bind_some, List.takeWhile_cons, q3, decide_true, if_true, List.head?_cons, atR]
    · have q2 : (e.T != t) = true := by simpa using ht
      have q3 : ¬ e.T ≤ t := by omega
      simp only [q2, cond_true, List.takeWhile_cons, q3, decide_false, Bool.false_eq_true, if_false, List.head?_nil, atR]

/-! ### Queries -/

theorem l6_spec {x : List Ev} (hx : x.length ≤ 1000000) (hs : ∀ e ∈ x, e.S.length ≤ 1000000) (a c : Int) : ∀ (k i : Nat) (l : List Ev), x.length - i = k → i ≤ x.length → Good l →
    l6_0 (x, a, c, (i : Int), (bytesJ l).length, l.length, l.length, bytesJ l, l, l, ()) = some (a, c, (bytesJ ((x.drop i).foldl nxt l)).length, ((x.drop i).foldl nxt l).length, ((x.drop i).foldl nxt l).length, bytesJ ((x.drop i).foldl nxt l), (x.drop i).foldl nxt l, (x.drop i).foldl nxt l, ()) := by
  intro k
  induction k with
  | zero =>
    intro i l hk hi h
    have : i = x.length := by omega
    subst this
    have c1 : ¬ (x.length : Int) < (x.length : Int) := by omega
    unfold l6_0
    rw [iterO_eq]
    have : r6_0 (x, a, c, (x.length : Int), (bytesJ l).length, l.length, l.length, bytesJ l, l, l, ()) = some (.inr (a, c, (bytesJ l).length, l.length, l.length, bytesJ l, l, l, ())) := by
      unfold r6_0
      simp only [c1, decide_false, cond_false]
    rw [this]
    simp
  | succ k ih =>
    intro i l hk hi h
    have hlt : i < x.length := by omega
    have c1 : (i : Int) < (x.length : Int) := by omega
    have w0 : IntKind.i64.wrap ((i : Int) + 1) = ((i + 1 : Nat) : Int) := by rw [i64w (by omega) (by omega)]; rfl
    have hget := List.getElem?_eq_getElem hlt
    have hd : x.drop i = x[i] :: x.drop (i + 1) := List.drop_eq_getElem_cons hlt
    have hsi := hs _ (List.getElem_mem hlt)
    rw [hd]
    generalize x[i] = e at *
    have h22 := f22_spec h e hsi
    have h23 := f23_spec h e
    have hr : r6_0 (x, a, c, (i : Int), (bytesJ l).length, l.length, l.length, bytesJ l, l, l, ()) = some (.inl (x, a, c, ((i + 1 : Nat) : Int), (bytesJ (nxt l e)).length, (nxt l e).length, (nxt l e).length, bytesJ (nxt l e), nxt l e, nxt l e, ())) := by
      unfold r6_0
      simp only [c1, decide_true, cond_true, idxO_nat, hget, Option.bind_some, Nat.zero_add, Nat.le_refl, takeL, h22, j6_28, h23, j6_22]
      unfold nxt
      by_cases ha : app l e = 0
      · simp only [if_pos ha, Sum.elim_inr, Option.bind_some, w0]
      · simp only [if_neg ha, Sum.elim_inl, Option.bind_some, w0]
    have := ih (i + 1) (nxt l e) (by omega) (by omega) (h.nxt e)
    unfold l6_0 at this ⊢
    rw [iterO_eq, hr]
    exact this

theorem journalQueries_plain (R : List Ev) (a c : Int) : f6 (R, a, c, ()) = some (true, ()) := by
  obtain ⟨w, hw, hw2⟩ := f18_spec' R
  unfold f6
  simp only [f11_spec, Option.bind_some, Bool.not_true, cond_false, hw]
  cases w with
  | false => simp only [Bool.not_false, cond_true]
  | true =>
    obtain ⟨q1, q2⟩ := hw2 rfl
    have hlp := l6_spec (show R.length ≤ 1000000 by omega) q2 a c R.length 0 [] rfl (by omega) good_nil
    rw [List.drop_zero] at hlp
    have hlp' : l6_0 (R, a, c, 0, f19.fst, f19.snd.fst, f20.fst, f19.snd.snd.fst, f19.snd.snd.snd, f20.snd, ()) = some (a, c, (bytesJ (run R)).length, (run R).length, (run R).length, bytesJ (run R), run R, run R, ()) := hlp
    simp only [Bool.not_true, cond_false, hlp', Option.bind_some]
    have hg := good_run R
    generalize run R = L at *
    have hfew := hg.few
    have hbl := btw_len a c L
    have h31 := f31_spec (a := btw a c L) (b := btw a c L) (by omega) (fun e he => hg.scan e (btw_mem he))
    rw [decide_eq_true rfl] at h31
    simp only [Nat.zero_add, Nat.le_refl, decide_true, cond_true, takeL, f29_spec hg, f30_spec (show L.length ≤ 1000000 by omega), f32_spec hg, f33_spec (show L.length ≤ 1000000 by omega)]
    cases ho : (btw a a L).head? with
    | none =>
      have h16 := f16_spec (a := ⟨0, 0, 0, false, []⟩) (b := ⟨0, 0, 0, false, []⟩) (by decide)
      rw [decide_eq_true rfl] at h16
      have h16' : f16 (0, 0, 0, false, [], 0, 0, 0, false, [], ()) = some (true, ()) := h16
      simp only [atR, Option.bind_some, h16', cond_true, beq_self_eq_true, h31]
    | some e =>
      have he : e ∈ L := btw_mem (List.mem_of_mem_head? ho)
      have h16 := f16_spec (a := e) (b := e) (hg.scan e he)
      rw [decide_eq_true rfl] at h16
      simp only [atR, Option.bind_some, h16, cond_true, beq_self_eq_true, h31]

end Go.AE
