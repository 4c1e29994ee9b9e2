/-
  Plain laws of the chapter Path, part 2: the heap of visits; the list that is repeated.
-/
import Derived.Test.YtmhbjgelllhnbaaQP1
namespace Go.AE
open Go.Proofs Go.RowKit
set_option maxRecDepth 100000

/-! ### Two elements exchanged -/

theorem swap_get {l : List Vs} {i j : Nat} {a b : Vs} (hi : l[i]? = some a) (hj : l[j]? = some b) (k : Nat) : ((l.set i b).set j a)[k]? = if k = j then some a else if k = i then some b else l[k]? := by
  have h1 := lt_of_getElem? hi
  have h2 := lt_of_getElem? hj
  by_cases e : k = j
  · subst e
    rw [if_pos rfl, List.getElem?_set_self (by rw [List.length_set]; exact h2)]
  · rw [if_neg e, List.getElem?_set_ne (fun h => e h.symm)]
    by_cases e2 : k = i
    · subst e2
      rw [if_pos rfl, List.getElem?_set_self h1]
    · rw [if_neg e2, List.getElem?_set_ne (fun h => e2 h.symm)]

/-- Among the first k. -/
def Mem (l : List Vs) (k : Nat) (x : Vs) : Prop := ∃ i, i < k ∧ l[i]? = some x

theorem swap_mem {l : List Vs} {i j k : Nat} {a b : Vs} (hi : l[i]? = some a) (hj : l[j]? = some b) (hik : i < k) (hjk : j < k) (x : Vs) : Mem ((l.set i b).set j a) k x ↔ Mem l k x := by
  constructor
  · rintro ⟨n, hn, hx⟩
    rw [swap_get hi hj] at hx
    split at hx
    · cases hx; exact ⟨i, hik, hi⟩
    · split at hx
      · cases hx; exact ⟨j, hjk, hj⟩
      · exact ⟨n, hn, hx⟩
  · rintro ⟨n, hn, hx⟩
    by_cases e1 : n = i
    · subst e1
      rw [hi] at hx; cases hx
      exact ⟨j, hjk, by rw [swap_get hi hj, if_pos rfl]⟩
    · by_cases e2 : n = j
      · subst e2
        rw [hj] at hx; cases hx
        exact ⟨i, hik, by rw [swap_get hi hj, if_neg (fun h => e1 h.symm), if_pos rfl]⟩
      · exact ⟨n, hn, by rw [swap_get hi hj, if_neg e2, if_neg e1]; exact hx⟩

/-- Of the first k, no one is less than its parent. -/
def HP (l : List Vs) (k : Nat) : Prop := ∀ j a b, 0 < j → j < k → l[(j - 1) / 2]? = some a → l[j]? = some b → a.N ≤ b.N

theorem HP.min {l : List Vs} {k : Nat} (h : HP l k) (hk : k ≤ l.length) : ∀ (j : Nat) (a b : Vs), j < k → l[0]? = some a → l[j]? = some b → a.N ≤ b.N := by
  intro j
  induction j using Nat.strongRecOn with
  | _ j ih =>
    intro a b hj ha hb
    by_cases e : j = 0
    · subst e; rw [ha] at hb; cases hb; exact Int.le_refl _
    · have hp : (j - 1) / 2 < j := by omega
      have hlt : (j - 1) / 2 < l.length := by omega
      have h1 := ih ((j - 1) / 2) hp a l[(j - 1) / 2] (by omega) ha (List.getElem?_eq_getElem hlt)
      have h2 := h j l[(j - 1) / 2] b (by omega) hj (List.getElem?_eq_getElem hlt) hb
      omega

/-! ### Up -/

structure UpI (l : List Vs) (i : Nat) : Prop where
  lt : i < l.length
  a : ∀ j a b, j ≠ i → 0 < j → j < l.length → l[(j - 1) / 2]? = some a → l[j]? = some b → a.N ≤ b.N
  b : ∀ j a b, 0 < i → 0 < j → j < l.length → (j - 1) / 2 = i → l[(i - 1) / 2]? = some a → l[j]? = some b → a.N ≤ b.N

theorem UpI.done0 {l : List Vs} (h : UpI l 0) : HP l l.length := fun j a b h0 hj ha hb => h.a j a b (by omega) h0 hj ha hb
theorem UpI.done {l : List Vs} {i : Nat} (h : UpI l i) (hle : ∀ a b, l[(i - 1) / 2]? = some a → l[i]? = some b → a.N ≤ b.N) : HP l l.length := fun j a b h0 hj ha hb => by
  by_cases e : j = i
  · subst e; exact hle a b ha hb
  · exact h.a j a b e h0 hj ha hb

theorem UpI.step {l : List Vs} {i : Nat} {a b : Vs} (h : UpI l i) (h0 : 0 < i) (ha : l[(i - 1) / 2]? = some a) (hb : l[i]? = some b) (hgt : a.N > b.N) : UpI ((l.set i a).set ((i - 1) / 2) b) ((i - 1) / 2) := by
  have hq : (i - 1) / 2 < i := by omega
  have hlt := h.lt
  have G := swap_get (i := i) (j := (i - 1) / 2) hb ha
  have hlen : ((l.set i a).set ((i - 1) / 2) b).length = l.length := by simp
  refine ⟨by rw [hlen]; omega, fun j x y hj1 hj0 hj hx hy => ?_, fun j x y hi0 hj0 hj hjp hx hy => ?_⟩
  · rw [hlen] at hj
    rw [G] at hx hy
    rw [if_neg hj1] at hy
    by_cases e : j = i
    · subst e
      rw [if_pos rfl] at hx hy
      cases hx; cases hy
      omega
    · rw [if_neg e] at hy
      by_cases e2 : (j - 1) / 2 = (i - 1) / 2
      · rw [if_pos e2] at hx
        cases hx
        have := h.a j a y e hj0 hj (by rw [e2]; exact ha) hy
        omega
      · rw [if_neg e2] at hx
        by_cases e3 : (j - 1) / 2 = i
        · rw [if_pos e3] at hx
          cases hx
          exact h.b j a y h0 hj0 hj e3 ha hy
        · rw [if_neg e3] at hx
          exact h.a j x y e hj0 hj hx hy
  · rw [hlen] at hj
    rw [G] at hx hy
    rw [if_neg (by omega), if_neg (by omega)] at hx
    rw [if_neg (by omega)] at hy
    have hxa := h.a ((i - 1) / 2) x a (by omega) hi0 (by omega) hx ha
    by_cases e : j = i
    · rw [if_pos e] at hy; cases hy; exact hxa
    · rw [if_neg e] at hy
      have := h.a j a y e hj0 hj (by rw [hjp]; exact ha) hy
      omega

theorem l46_spec (k0 : Nat) : ∀ (n i : Nat) (l : List Vs), i = n → l.length ≤ 100000 → UpI l i →
    ∃ l', l46_0 (l.length, (i : Int), k0, l, ()) = some (l.length, k0, l', ()) ∧ l'.length = l.length ∧ HP l' l'.length ∧ ∀ x, Mem l' l.length x ↔ Mem l l.length x := by
  intro n
  induction n using Nat.strongRecOn with
  | _ n ih =>
    intro i l hin hl h
    subst hin
    have hlt := h.lt
    unfold l46_0
    rw [iterO_eq]
    by_cases h0 : 0 < i
    · have g0 : (i : Int) > 0 := by omega
      have w1 : IntKind.i64.wrap ((i : Int) - 1) = ((i - 1 : Nat) : Int) := by rw [w64 (by omega) (by omega)]; omega
      have w2 : (((i - 1 : Nat)) : Int).tdiv 2 = (((i - 1) / 2 : Nat) : Int) := by rw [Int.tdiv_eq_ediv_of_nonneg (by omega)]; omega
      have w3 : IntKind.i64.wrap ((((i - 1) / 2 : Nat)) : Int) = (((i - 1) / 2 : Nat) : Int) := w64 (by omega) (by omega)
      have hq : (i - 1) / 2 < l.length := by omega
      have c1 : (0 : Int) ≤ (((i - 1) / 2 : Nat) : Int) := by omega
      have c2 : (((i - 1) / 2 : Nat) : Int) < (l.length : Int) := by omega
      have c3 : (0 : Int) ≤ (i : Int) := by omega
      have c4 : (i : Int) < (l.length : Int) := by omega
      have e1 : l[(i - 1) / 2]? = some l[(i - 1) / 2] := List.getElem?_eq_getElem hq
      have e2 : l[i]? = some l[i] := List.getElem?_eq_getElem hlt
      generalize l[(i - 1) / 2] = a at e1
      generalize l[i] = b at e2
      by_cases hgt : a.N > b.N
      · have e3 : (l.set i a)[(i - 1) / 2]? = some a := by rw [List.getElem?_set_ne (by omega)]; exact e1
        have hr : r46_0 (l.length, (i : Int), k0, l, ()) = some (.inl (l.length, (((i - 1) / 2 : Nat) : Int), k0, (l.set i a).set ((i - 1) / 2) b, ())) := by
          unfold r46_0
          simp only [g0, w1, w2, w3, c1, c2, c3, c4, decide_true, Bool.and_self, cond_true, Nat.zero_add, Int.toNat_natCast, e1, e2, Option.bind_some, hgt, e3]
        rw [hr]
        have hs := h.step h0 e1 e2 hgt
        have hlen : ((l.set i a).set ((i - 1) / 2) b).length = l.length := by simp
        obtain ⟨l', f1, f2, f3, f4⟩ := ih ((i - 1) / 2) (by omega) ((i - 1) / 2) _ rfl (by omega) hs
        rw [hlen] at f1 f2 f4
        refine ⟨l', f1, f2, f3, fun x => ?_⟩
        rw [f4, swap_mem e2 e1 hlt hq]
      · have hr : r46_0 (l.length, (i : Int), k0, l, ()) = some (.inr (l.length, k0, l, ())) := by
          unfold r46_0
          simp only [g0, w1, w2, w3, c1, c2, c3, c4, decide_true, decide_false, Bool.and_self, cond_true, cond_false, Nat.zero_add, Int.toNat_natCast, e1, e2, Option.bind_some, hgt]
        rw [hr]
        refine ⟨l, rfl, rfl, h.done (fun x y hx hy => ?_), fun x => Iff.rfl⟩
        rw [e1] at hx; rw [e2] at hy
        cases hx; cases hy
        omega
    · have g0 : ¬ (i : Int) > 0 := by omega
      have hr : r46_0 (l.length, (i : Int), k0, l, ()) = some (.inr (l.length, k0, l, ())) := by
        unfold r46_0
        simp only [g0, decide_false, cond_false]
      rw [hr]
      have : i = 0 := by omega
      subst this
      exact ⟨l, rfl, rfl, h.done0, fun x => Iff.rfl⟩

theorem mem_iff (l : List Vs) (x : Vs) : Mem l l.length x ↔ x ∈ l := by
  unfold Mem
  constructor
  · rintro ⟨i, _, h⟩; exact List.mem_of_getElem? h
  · intro h
    obtain ⟨i, hi⟩ := List.getElem?_of_mem h
    exact ⟨i, lt_of_getElem? hi, hi⟩

/-- push -/
theorem f46_spec {h : List Vs} {v : Vs} (hl : h.length ≤ 90000) (hp : HP h h.length) : ∃ h', f46 (v.X, v.Y, v.N, h, h.length, ()) = some (h'.length, h', ()) ∧ h'.length = h.length + 1 ∧ HP h' h'.length ∧ ∀ x, x ∈ h' ↔ x = v ∨ x ∈ h := by
  have hlen : (h ++ [v]).length = h.length + 1 := by simp
  have hu : UpI (h ++ [v]) h.length := by
    refine ⟨by omega, fun j a b hj1 hj0 hj ha hb => ?_, fun j a b hi0 hj0 hj hjp ha hb => ?_⟩
    · rw [hlen] at hj
      rw [List.getElem?_append_left (by omega)] at ha hb
      exact hp j a b hj0 (by omega) ha hb
    · omega
  obtain ⟨l', f1, f2, f3, f4⟩ := l46_spec h.length h.length h.length (h ++ [v]) rfl (by omega) hu
  rw [hlen] at f1 f2 f4
  have w1 : IntKind.i64.wrap (((h.length + 1 : Nat) : Int) - 1) = (h.length : Int) := by rw [w64 (by omega) (by omega)]; omega
  have r1 : roomy (h.length + 1) 24 = true := roomy_ok (by omega)
  refine ⟨l', ?_, f2, f3, fun x => ?_⟩
  · unfold f46
    simp only [Nat.zero_add, Nat.le_refl, decide_true, cond_true, r1, w1, List.drop_zero, List.take_length]
    rw [f1, Option.bind_some, f2]
  · have := f4 x
    rw [← f2, mem_iff] at this
    rw [this, f2, ← hlen, mem_iff]
    simp [or_comm]

/-! ### Down -/

structure DnI (l : List Vs) (k i : Nat) : Prop where
  a : ∀ j a b, 0 < j → j < k → (j - 1) / 2 ≠ i → l[(j - 1) / 2]? = some a → l[j]? = some b → a.N ≤ b.N
  b : ∀ j a b, 0 < i → 0 < j → j < k → (j - 1) / 2 = i → l[(i - 1) / 2]? = some a → l[j]? = some b → a.N ≤ b.N

theorem DnI.done {l : List Vs} {k i : Nat} (h : DnI l k i) (hle : ∀ j a b, 0 < j → j < k → (j - 1) / 2 = i → l[i]? = some a → l[j]? = some b → a.N ≤ b.N) : HP l k := fun j a b h0 hj ha hb => by
  by_cases e : (j - 1) / 2 = i
  · rw [e] at ha; exact hle j a b h0 hj e ha hb
  · exact h.a j a b h0 hj e ha hb

theorem DnI.step {l : List Vs} {k i c : Nat} {a b : Vs} (h : DnI l k i) (hc0 : 0 < c) (hck : c < k) (hcp : (c - 1) / 2 = i) (ha : l[i]? = some a) (hb : l[c]? = some b) (hlt : b.N < a.N)
    (hmin : ∀ j x, 0 < j → j < k → (j - 1) / 2 = i → l[j]? = some x → b.N ≤ x.N) : DnI ((l.set i b).set c a) k c := by
  have hic : i < c := by omega
  have G := swap_get (i := i) (j := c) ha hb
  refine ⟨fun j x y hj0 hj hjp hx hy => ?_, fun j x y _ hj0 hj hjp hx hy => ?_⟩
  · rw [G] at hx hy
    rw [if_neg hjp] at hx
    by_cases e1 : (j - 1) / 2 = i
    · rw [if_pos e1] at hx
      cases hx
      by_cases e2 : j = c
      · rw [if_pos e2] at hy; cases hy; omega
      · rw [if_neg e2, if_neg (by omega)] at hy
        exact hmin j y hj0 hj e1 hy
    · rw [if_neg e1] at hx
      by_cases e2 : j = c
      · rw [e2] at e1; exact (e1 hcp).elim
      · rw [if_neg e2] at hy
        by_cases e3 : j = i
        · rw [if_pos e3] at hy
          cases hy
          rw [e3] at hx hj0
          exact h.b c x b hj0 hc0 hck hcp hx hb
        · rw [if_neg e3] at hy
          exact h.a j x y hj0 hj e1 hx hy
  · rw [G] at hx hy
    rw [hcp, if_neg (by omega), if_pos rfl] at hx
    cases hx
    rw [if_neg (by omega), if_neg (by omega)] at hy
    exact h.a j b y hj0 hj (by omega) (by rw [hjp]; exact hb) hy

/-- The least of i and its children. -/
theorem l45_6_spec {l : List Vs} {k i : Nat} (hk : k ≤ l.length) (hi : i < k ∨ k = 0) (q : Nat × Int × Int × Int × Int × Int × Int × Unit) :
    ∃ c : Nat, l45_6 (k, (i : Int), (i : Int), ((2 * i + 1 : Nat) : Int), ((2 * i + 2 : Nat) : Int), 0, l, q) = some (k, (i : Int), (c : Int), l, q) ∧
      (c = i ∨ ((c = 2 * i + 1 ∨ c = 2 * i + 2) ∧ c < k ∧ ∃ a b, l[i]? = some a ∧ l[c]? = some b ∧ b.N < a.N)) ∧ (∀ j x y, (j = 2 * i + 1 ∨ j = 2 * i + 2) → j < k → l[c]? = some x → l[j]? = some y → x.N ≤ y.N) := by
  have step : ∀ (t : Nat) (c : Nat) (j : Nat), t < 2 → j = 2 * i + 1 + t → c < k ∨ k = 0 → ∃ c' : Nat, r45_6 (k, (i : Int), (c : Int), ((2 * i + 1 : Nat) : Int), ((2 * i + 2 : Nat) : Int), (t : Int), l, q) = some (.inl (k, (i : Int), (c' : Int), ((2 * i + 1 : Nat) : Int), ((2 * i + 2 : Nat) : Int), ((t + 1 : Nat) : Int), l, q)) ∧
      ((c' = j ∧ j < k ∧ ∃ a b, l[c]? = some a ∧ l[j]? = some b ∧ b.N < a.N) ∨ (c' = c ∧ (j < k → ∀ a b, l[c]? = some a → l[j]? = some b → a.N ≤ b.N))) := by
    intro t c j ht hj hc
    have g1 : (t : Int) < 2 := by omega
    have g2 : (0 : Int) ≤ (t : Int) := by omega
    have g3 : idxO [((2 * i + 1 : Nat) : Int), ((2 * i + 2 : Nat) : Int)] (t : Int) = some (j : Int) := by
      rw [idxO_nat]
      have : t = 0 ∨ t = 1 := by omega
      rcases this with rfl | rfl
      · subst hj; rfl
      · subst hj; rfl
    have g4 : IntKind.i64.wrap ((t : Int) + 1) = ((t + 1 : Nat) : Int) := by rw [w64 (by omega) (by omega)]; rfl
    by_cases hjk : j < k
    · have c1 : (j : Int) < (k : Int) := by omega
      have c2 : (0 : Int) ≤ (j : Int) := by omega
      have hck : c < k := by omega
      have c3 : (0 : Int) ≤ (c : Int) := by omega
      have c4 : (c : Int) < (k : Int) := by omega
      have e1 : l[j]? = some l[j] := List.getElem?_eq_getElem (by omega)
      have e2 : l[c]? = some l[c] := List.getElem?_eq_getElem (by omega)
      generalize l[j] = b at e1
      generalize l[c] = a at e2
      by_cases hlt : b.N < a.N
      · refine ⟨j, ?_, .inl ⟨rfl, hjk, a, b, e2, e1, hlt⟩⟩
        unfold r45_6
        simp only [g1, g2, g3, g4, c1, c2, c3, c4, decide_true, Bool.and_self, cond_true, Option.bind_some, Nat.zero_add, Int.toNat_natCast, e1, e2, hlt, j45_37]
      · refine ⟨c, ?_, .inr ⟨rfl, fun _ x y hx hy => ?_⟩⟩
        · unfold r45_6
          simp only [g1, g2, g3, g4, c1, c2, c3, c4, decide_true, decide_false, Bool.and_self, cond_true, cond_false, Option.bind_some, Nat.zero_add, Int.toNat_natCast, e1, e2, hlt, j45_37]
        · rw [e2] at hx; rw [e1] at hy; cases hx; cases hy; omega
    · have c1 : ¬ (j : Int) < (k : Int) := by omega
      refine ⟨c, ?_, .inr ⟨rfl, fun h => (hjk h).elim⟩⟩
      unfold r45_6
      simp only [g1, g2, g3, g4, c1, decide_true, decide_false, Bool.and_self, cond_true, cond_false, Option.bind_some, j45_37]
  obtain ⟨c1, s1, p1⟩ := step 0 i (2 * i + 1) (by omega) rfl hi
  obtain ⟨c2, s2, p2⟩ := step 1 c1 (2 * i + 2) (by omega) rfl (p1.elim (fun h => by rw [h.1]; exact .inl h.2.1) (fun h => by rw [h.1]; exact hi))
  have s3 : r45_6 (k, (i : Int), (c2 : Int), ((2 * i + 1 : Nat) : Int), ((2 * i + 2 : Nat) : Int), 2, l, q) = some (.inr (k, (i : Int), (c2 : Int), l, q)) := rfl
  refine ⟨c2, ?_, ?_, ?_⟩
  · unfold l45_6
    rw [iterO_eq, show ((k, (i : Int), (i : Int), ((2 * i + 1 : Nat) : Int), ((2 * i + 2 : Nat) : Int), (0 : Int), l, q) : Nat × Int × Int × Int × Int × Int × List Vs × Nat × Int × Int × Int × Int × Int × Int × Unit) = (k, (i : Int), (i : Int), ((2 * i + 1 : Nat) : Int), ((2 * i + 2 : Nat) : Int), ((0 : Nat) : Int), l, q) from rfl, s1]
    simp only
    rw [iterO_eq, s2]
    simp only
    rw [iterO_eq, show (((1 + 1 : Nat)) : Int) = 2 from rfl, s3]
  · rcases p2 with ⟨rfl, h1, a, b, h2, h3, h4⟩ | ⟨rfl, _⟩
    · right
      refine ⟨.inr rfl, h1, ?_⟩
      rcases p1 with ⟨rfl, _, a', b', q2, q3, q4⟩ | ⟨rfl, _⟩
      · rw [q3] at h2; cases h2
        exact ⟨a', b, q2, h3, by omega⟩
      · exact ⟨a, b, h2, h3, h4⟩
    · rcases p1 with ⟨rfl, h1, a, b, q2, q3, q4⟩ | ⟨rfl, _⟩
      · exact .inr ⟨.inl rfl, h1, a, b, q2, q3, q4⟩
      · exact .inl rfl
  · intro j x y hj hjk hx hy
    rcases p2 with ⟨rfl, h1, a, b, h2, h3, h4⟩ | ⟨rfl, h2⟩
    · rw [h3] at hx; cases hx
      rcases hj with rfl | rfl
      · rcases p1 with ⟨rfl, _, a', b', q2, q3, q4⟩ | ⟨rfl, q1⟩
        · rw [q3] at h2; cases h2
          rw [q3] at hy; cases hy
          omega
        · have := q1 hjk a y h2 hy
          omega
      · rw [h3] at hy; cases hy; exact Int.le_refl _
    · rcases hj with rfl | rfl
      · rcases p1 with ⟨rfl, _, a', b', q2, q3, q4⟩ | ⟨rfl, q1⟩
        · rw [hx] at hy; cases hy; exact Int.le_refl _
        · exact q1 hjk x y hx hy
      · exact h2 hjk x y hx hy

theorem l45_0_spec (q : Nat × Int × Int × Int × Int × Int × Int × Unit) : ∀ (n i k : Nat) (l : List Vs), k - i = n → k ≤ l.length → l.length ≤ 100000 → (i < k ∨ (i = 0 ∧ k = 0)) → DnI l k i →
    ∃ l', l45_0 (k, (i : Int), l, q) = some (k, l', q) ∧ l'.length = l.length ∧ HP l' k ∧ ∀ x, Mem l' k x ↔ Mem l k x := by
  intro n
  induction n using Nat.strongRecOn with
  | _ n ih =>
    intro i k l hn hk hl hi h
    obtain ⟨c, s1, s2, s3⟩ := l45_6_spec (i := i) hk (by omega) q
    have w1 : IntKind.i64.wrap (IntKind.i64.wrap (2 * (i : Int)) + 1) = ((2 * i + 1 : Nat) : Int) := by
      rw [w64 (n := 2 * (i : Int)) (by omega) (by omega), w64 (by omega) (by omega)]; omega
    have w2 : IntKind.i64.wrap (IntKind.i64.wrap (2 * (i : Int)) + 2) = ((2 * i + 2 : Nat) : Int) := by
      rw [w64 (n := 2 * (i : Int)) (by omega) (by omega), w64 (by omega) (by omega)]; omega
    unfold l45_0
    rw [iterO_eq]
    by_cases hci : c = i
    · subst hci
      have hr : r45_0 (k, (c : Int), l, q) = some (.inr (k, l, q)) := by
        unfold r45_0
        simp only [w1, w2]
        rw [show ((k, (c : Int), (c : Int), ((2 * c + 1 : Nat) : Int), ((2 * c + 2 : Nat) : Int), (0 : Int), l, q.1, q.2.1, q.2.2.1, q.2.2.2.1, q.2.2.2.2.1, q.2.2.2.2.2.1, q.2.2.2.2.2.2.1, ()) : Nat × Int × Int × Int × Int × Int × List Vs × Nat × Int × Int × Int × Int × Int × Int × Unit) = (k, (c : Int), (c : Int), ((2 * c + 1 : Nat) : Int), ((2 * c + 2 : Nat) : Int), (0 : Int), l, q) from rfl, s1]
        simp only [Option.bind_some, beq_self_eq_true, cond_true]
      rw [hr]
      refine ⟨l, rfl, rfl, h.done (fun j a b hj0 hjk hjp ha hb => s3 j a b (by omega) hjk ha hb), fun x => Iff.rfl⟩
    · rcases s2 with s2 | ⟨hc, hck, a, b, ha, hb, hlt⟩
      · exact (hci s2).elim
      · have hne : ((c : Int) == (i : Int)) = false := by rw [beq_eq_false_iff_ne]; omega
        have c1 : (0 : Int) ≤ (c : Int) := by omega
        have c2 : (c : Int) < (k : Int) := by omega
        have hik : i < k := by omega
        have c3 : (0 : Int) ≤ (i : Int) := by omega
        have c4 : (i : Int) < (k : Int) := by omega
        have e3 : (l.set i b)[c]? = some b := by rw [List.getElem?_set_ne (by omega)]; exact hb
        have hr : r45_0 (k, (i : Int), l, q) = some (.inl (k, (c : Int), (l.set i b).set c a, q)) := by
          unfold r45_0
          simp only [w1, w2]
          rw [show ((k, (i : Int), (i : Int), ((2 * i + 1 : Nat) : Int), ((2 * i + 2 : Nat) : Int), (0 : Int), l, q.1, q.2.1, q.2.2.1, q.2.2.2.1, q.2.2.2.2.1, q.2.2.2.2.2.1, q.2.2.2.2.2.2.1, ()) : Nat × Int × Int × Int × Int × Int × List Vs × Nat × Int × Int × Int × Int × Int × Int × Unit) = (k, (i : Int), (i : Int), ((2 * i + 1 : Nat) : Int), ((2 * i + 2 : Nat) : Int), (0 : Int), l, q) from rfl, s1]
          simp only [Option.bind_some, hne, cond_false, c1, c2, c3, c4, decide_true, Bool.and_self, cond_true, Nat.zero_add, Int.toNat_natCast, ha, hb, e3]
        rw [hr]
        have hs := h.step (by omega) hck (by omega) ha hb hlt (fun j x hj0 hjk hjp hx => s3 j b x (by omega) hjk hb hx)
        have hlen : ((l.set i b).set c a).length = l.length := by simp
        obtain ⟨l', f1, f2, f3, f4⟩ := ih (k - c) (by omega) c k _ rfl (by omega) (by omega) (.inl hck) hs
        refine ⟨l', f1, by omega, f3, fun x => ?_⟩
        rw [f4, swap_mem ha hb hik hck]

/-- pop -/
theorem f45_spec {h : List Vs} (hne : 0 < h.length) (hl : h.length ≤ 90000) (hp : HP h h.length) : ∃ v o k, f45 (h, h.length, ()) = some (v.X, v.Y, v.N, o, k, ()) ∧ k + 1 = h.length ∧ o.length = h.length ∧ HP (o.take k) (o.take k).length ∧
    (∀ x, x ∈ h ↔ x = v ∨ x ∈ o.take k) ∧ (∀ x, x ∈ h → v.N ≤ x.N) := by
  have e0 : h[0]? = some h[0] := List.getElem?_eq_getElem hne
  have hlast : h.length - 1 < h.length := by omega
  have e1 : h[h.length - 1]? = some h[h.length - 1] := List.getElem?_eq_getElem hlast
  have c1 : (0 : Int) < (h.length : Int) := by omega
  have w1 : IntKind.i64.wrap ((h.length : Int) - 1) = ((h.length - 1 : Nat) : Int) := by rw [w64 (by omega) (by omega)]; omega
  have c2 : (0 : Int) ≤ ((h.length - 1 : Nat) : Int) := by omega
  have c3 : ((h.length - 1 : Nat) : Int) < (h.length : Int) := by omega
  have c4 : ((h.length - 1 : Nat) : Int) ≤ (h.length : Int) := by omega
  generalize hv : h[0] = v at e0
  generalize hz : h[h.length - 1] = z at e1
  have hd : DnI (h.set 0 z) (h.length - 1) 0 := by
    refine ⟨fun j a b hj0 hj hjp ha hb => ?_, fun j a b h0 => by omega⟩
    rw [List.getElem?_set_ne (by omega)] at ha hb
    exact hp j a b hj0 (by omega) ha hb
  have hlen : (h.set 0 z).length = h.length := by simp
  obtain ⟨l', f1, f2, f3, f4⟩ := l45_0_spec (h.length, 0, 0, 0, v.X, v.Y, v.N, ()) (h.length - 1) 0 (h.length - 1) (h.set 0 z) (by omega) (by omega) (by omega) (by omega) hd
  have htl : (l'.take (h.length - 1)).length = h.length - 1 := by rw [List.length_take]; omega
  have tmem : ∀ x, x ∈ l'.take (h.length - 1) ↔ Mem l' (h.length - 1) x := by
    intro x
    constructor
    · intro hx
      obtain ⟨i, hi⟩ := List.getElem?_of_mem hx
      rw [List.getElem?_take] at hi
      split at hi
      · exact ⟨i, by assumption, hi⟩
      · cases hi
    · rintro ⟨i, hi, hx⟩
      exact List.mem_of_getElem? (i := i) (by rw [List.getElem?_take, if_pos hi]; exact hx)
  refine ⟨v, l', h.length - 1, ?_, by omega, by omega, ?_, fun x => ?_, fun x hx => ?_⟩
  · unfold f45
    simp only [c1, c2, c3, c4, w1, Int.le_refl, decide_true, Bool.and_self, cond_true, e0, e1, Option.bind_some, Nat.zero_add, Int.toNat_natCast, Nat.sub_zero]
    rw [show ((h.length - 1, (0 : Int), h.set 0 z, h.length, (0 : Int), (0 : Int), (0 : Int), v.X, v.Y, v.N, ()) : Nat × Int × List Vs × Nat × Int × Int × Int × Int × Int × Int × Unit) = (h.length - 1, ((0 : Nat) : Int), h.set 0 z, (h.length, 0, 0, 0, v.X, v.Y, v.N, ())) from rfl, f1]
    rfl
  · rw [htl]
    intro j a b hj0 hj ha hb
    rw [List.getElem?_take, if_pos (by omega)] at ha hb
    exact f3 j a b hj0 hj ha hb
  · rw [tmem, f4]
    constructor
    · intro hx
      obtain ⟨i, hi⟩ := List.getElem?_of_mem hx
      have hil := lt_of_getElem? hi
      by_cases i0 : i = 0
      · subst i0; rw [e0] at hi; cases hi; exact .inl rfl
      · by_cases il : i = h.length - 1
        · subst il
          rw [e1] at hi; cases hi
          exact .inr ⟨0, by omega, List.getElem?_set_self hne⟩
        · exact .inr ⟨i, by omega, by rw [List.getElem?_set_ne (by omega)]; exact hi⟩
    · rintro (rfl | ⟨i, hi, hx⟩)
      · exact List.mem_of_getElem? e0
      · by_cases i0 : i = 0
        · subst i0
          rw [List.getElem?_set_self hne] at hx
          cases hx
          exact List.mem_of_getElem? e1
        · rw [List.getElem?_set_ne (by omega)] at hx
          exact List.mem_of_getElem? hx
  · obtain ⟨i, hi⟩ := List.getElem?_of_mem hx
    exact hp.min (Nat.le_refl _) i v x (lt_of_getElem? hi) e0 hi

/-! ### The list that is repeated -/

theorem and64_low {n : Int} (h1 : 0 ≤ n) (h2 : n < 4294967296) : bits .and .u64 n 4294967295 = n := by
  obtain ⟨a, rfl⟩ := Int.eq_ofNat_of_zero_le h1
  show IntKind.u64.wrap ((BitVec.ofInt 64 (a : Int) &&& BitVec.ofInt 64 4294967295).toNat : Int) = _
  rw [BitVec.toNat_and]
  have e1 : (BitVec.ofInt 64 (a : Int)).toNat = a := by
    rw [BitVec.toNat_ofInt]; omega
  have e2 : (BitVec.ofInt 64 4294967295).toNat = 2 ^ 32 - 1 := by decide
  rw [e1, e2, Nat.and_two_pow_sub_one_eq_mod, Nat.mod_eq_of_lt (by omega), u64w (by omega) (by omega)]

theorem f53_spec {n : Int} (h1 : 0 ≤ n) (h2 : n ≤ 1000000) : f53 1 n = (0, n) := by
  have e1 : bits .and .u64 1 4294967295 = 1 := and64_low (by omega) (by omega)
  have e2 : bits .and .u64 n 4294967295 = n := and64_low h1 (by omega)
  have e3 : n.fdiv 4294967296 = 0 := by rw [Int.fdiv_eq_ediv_of_nonneg _ (by omega)]; omega
  have e4 : Int.fdiv 1 4294967296 = 0 := by decide
  have e5 : IntKind.u64.wrap n = n := u64w h1 (by omega)
  have e6 : bits .and .u64 0 4294967295 = 0 := and64_low (by omega) (by omega)
  have e7 : IntKind.u64.wrap 0 = 0 := by decide
  have e8 : Int.fdiv 0 4294967296 = 0 := by decide
  unfold f53 f67
  simp only [e1, e2, e3, e4, Int.zero_mul, Int.mul_zero, Int.one_mul, e5, e6, e7, e8, Int.add_zero]

theorem l44_spec (n : Nat) (hn : n ≤ 1000000) : ∀ (t k : Nat) (l : List Int), n - k = t → 1 ≤ k → k ≤ n → l.length = n → l.take k = List.replicate k (-1) → l44_0 (n, (k : Int), l, ()) = some (n, List.replicate n (-1), ()) := by
  intro t
  induction t using Nat.strongRecOn with
  | _ t ih =>
    intro k l ht h1 hk hl htk
    unfold l44_0
    rw [iterO_eq]
    by_cases hkn : k = n
    · subst hkn
      have hr : r44_0 (k, (k : Int), l, ()) = some (.inr (k, l, ())) := by unfold r44_0; simp
      rw [hr]
      rw [← hl, List.take_length, hl] at htk
      rw [htk]
    · have g1 : (k : Int) < (n : Int) := by omega
      have g2 : (0 : Int) ≤ (k : Int) := by omega
      have g3 : (k : Int) ≤ (n : Int) := by omega
      have g4 : k + (n - k) ≤ l.length := by omega
      have g5 : k ≤ l.length := by omega
      have hm : (List.take k l).length = k := by rw [List.length_take]; omega
      have hmin : min k (n - k) ≤ n := by omega
      have w1 : IntKind.i64.wrap ((k : Int) + ((min k (n - k) : Nat) : Int)) = ((k + min k (n - k) : Nat) : Int) := by rw [w64 (by omega) (by omega)]; omega
      have hr : r44_0 (n, (k : Int), l, ()) = some (.inl (n, ((k + min k (n - k) : Nat) : Int), l.take k ++ ((l.take k).take (min k (n - k)) ++ l.drop (k + min k (n - k))), ())) := by
        unfold r44_0
        simp only [g1, g2, g3, Int.le_refl, decide_true, Bool.and_self, cond_true, Nat.zero_add, Int.toNat_natCast, Nat.sub_zero, List.drop_zero, g4, g5, hm, w1]
      rw [hr]
      refine ih (n - (k + min k (n - k))) (by omega) _ _ rfl (by omega) (by omega) ?_ ?_
      · simp only [List.length_append, List.length_take, List.length_drop]; omega
      · rw [← List.append_assoc, List.take_left' (by simp only [List.length_append, List.length_take]; omega), htk, List.take_replicate, List.replicate_append_replicate]
        congr 1; omega

theorem f44_spec {n : Nat} (h1 : 1 ≤ n) (h2 : n ≤ 1000000) : f44 ([-1], (n : Int), ()) = some (n, List.replicate n (-1), ()) := by
  have g0 : ¬ (n : Int) < 0 := by omega
  have w1 : IntKind.u64.wrap (([-1] : List Int).length : Int) = 1 := by decide
  have w2 : IntKind.u64.wrap (n : Int) = (n : Int) := u64w (by omega) (by omega)
  have w3 := f53_spec (n := (n : Int)) (by omega) (by omega)
  have w4 : IntKind.i64.wrap (n : Int) = (n : Int) := w64 (by omega) (by omega)
  have g1 : ¬ (0 : Int) > 0 := by omega
  have g2 : ¬ (n : Int) > 9223372036854775807 := by omega
  have g3 : (0 : Int) ≤ (n : Int) := by omega
  have g4 : (n : Int) * 8 ≤ 140737488355328 := by omega
  have g5 : (n : Int) ≤ 140737488355328 := by omega
  have hm : min (([-1] : List Int).length) n = 1 := by simp; omega
  have hl := l44_spec n h2 (n - 1) 1 (List.take 1 [-1] ++ List.drop 1 (List.replicate n 0)) (by omega) (by omega) h1 (by simp; omega) rfl
  unfold f44
  simp only [g0, w1, w2, w3, w4, g1, g2, g3, g4, g5, Int.le_refl, decide_true, decide_false, Bool.and_self, cond_true, cond_false, Nat.zero_add, Int.toNat_natCast, List.length_replicate, Nat.le_refl, hm, List.nil_append]
  rw [show ((1 : Nat) : Int) = 1 from rfl] at hl
  have hl' : l44_0 (n, ((1 : Nat) : Int), List.take 1 [-1] ++ List.drop 1 (List.replicate n 0), ()) = some (n, List.replicate n (-1), ()) := hl
  rw [hl']
  rfl

end Go.AE
