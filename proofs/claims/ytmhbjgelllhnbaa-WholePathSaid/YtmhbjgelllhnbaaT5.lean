/-
  WholePath, part 5: the levels; the widest path.
-/
import Derived.Test.YtmhbjgelllhnbaaT4
namespace Go.AE
open Go.Proofs Go.RowKit
set_option maxRecDepth 100000

/-! ### Sorted, compacted -/

theorem sortL_mem {l : List Int} {x : Int} : x ∈ sortL l ↔ x ∈ l := by unfold sortL; exact List.mem_mergeSort
theorem sortL_sorted (l : List Int) : (sortL l).Pairwise (· ≤ ·) := by
  have h := List.pairwise_mergeSort (le := fun x y : Int => decide (x ≤ y)) (fun a b c h1 h2 => by simp only [decide_eq_true_eq] at *; omega) (fun a b => by simp only [Bool.or_eq_true, decide_eq_true_eq]; omega) l
  exact h.imp (fun h => by simpa using h)

theorem cU_spec {l : List Int} (hs : l.Pairwise (· ≤ ·)) : ∀ m, m ≤ l.length → (Lib.compactUpTo l.toArray m).Pairwise (· < ·) ∧ ∀ x, x ∈ Lib.compactUpTo l.toArray m ↔ ∃ j, ∃ h : j < l.length, j < m ∧ l[j] = x
  | 0, _ => by
    have e : Lib.compactUpTo l.toArray 0 = [] := rfl
    rw [e]
    refine ⟨.nil, fun x => ⟨fun h => by simp at h, fun ⟨j, _, h, _⟩ => absurd h (Nat.not_lt_zero _)⟩⟩
  | m + 1, hm => by
    obtain ⟨h1, h2⟩ := cU_spec hs m (by omega)
    have hd : ∀ j (h : j < l.length), l.toArray[j]! = l[j] := fun j h => by
      rw [getElem!_pos _ j (by simpa using h)]
      exact List.getElem_toArray _
    have mono : ∀ i j (hi : i < l.length) (hj : j < l.length), i ≤ j → l[i] ≤ l[j] := fun i j hi hj h => by
      rcases Nat.lt_or_ge i j with h3 | h3
      · exact List.pairwise_iff_getElem.1 hs i j hi hj h3
      · have : i = j := by omega
        subst this
        exact Int.le_refl _
    rw [Lib.compactUpTo_succ]
    by_cases hk : m = 0 ∨ l.toArray[m]! ≠ l.toArray[m - 1]!
    · have hkeep : Lib.keeps l.toArray m = true := by unfold Lib.keeps; exact decide_eq_true hk
      rw [hkeep, if_pos rfl, hd m (by omega)]
      refine ⟨List.pairwise_append.2 ⟨h1, List.pairwise_singleton _ _, fun a ha b hb => ?_⟩, fun x => ?_⟩
      · rw [List.mem_singleton.1 hb]
        obtain ⟨j, hj, hjm, rfl⟩ := (h2 a).1 ha
        rcases hk with hk | hk
        · omega
        · rw [hd m (by omega), hd (m - 1) (by omega)] at hk
          have a1 := mono j (m - 1) hj (by omega) (by omega)
          have a2 := mono (m - 1) m (by omega) (by omega) (by omega)
          omega
      · rw [List.mem_append, h2 x, List.mem_singleton]
        constructor
        · rintro (⟨j, hj, hjm, rfl⟩ | rfl)
          · exact ⟨j, hj, by omega, rfl⟩
          · exact ⟨m, by omega, by omega, rfl⟩
        · rintro ⟨j, hj, hjm, rfl⟩
          by_cases e : j = m
          · subst e; exact .inr rfl
          · exact .inl ⟨j, hj, by omega, rfl⟩
    · have hkeep : Lib.keeps l.toArray m = false := by unfold Lib.keeps; exact decide_eq_false hk
      rw [hkeep]
      simp only [Bool.false_eq_true, if_false, List.append_nil]
      refine ⟨h1, fun x => ?_⟩
      rw [h2 x]
      have hm0 : m ≠ 0 := fun h => hk (.inl h)
      have he : l.toArray[m]! = l.toArray[m - 1]! := Classical.byContradiction fun h => hk (.inr h)
      rw [hd m (by omega), hd (m - 1) (by omega)] at he
      constructor
      · rintro ⟨j, hj, hjm, rfl⟩
        exact ⟨j, hj, by omega, rfl⟩
      · rintro ⟨j, hj, hjm, rfl⟩
        by_cases e : j = m
        · subst e; exact ⟨j - 1, by omega, by omega, he.symm⟩
        · exact ⟨j, hj, by omega, rfl⟩

/-- The levels. -/
def lvs (S : List Int) : List Int := compactL (sortL S)
theorem lvs_asc (S : List Int) : (lvs S).Pairwise (· < ·) := by
  have := (cU_spec (sortL_sorted S) (sortL S).length (Nat.le_refl _)).1
  exact this
theorem lvs_mem {S : List Int} {x : Int} : x ∈ lvs S ↔ x ∈ S := by
  have := (cU_spec (sortL_sorted S) (sortL S).length (Nat.le_refl _)).2 x
  have e : x ∈ lvs S ↔ ∃ j, ∃ h : j < (sortL S).length, j < (sortL S).length ∧ (sortL S)[j] = x := this
  rw [e, ← sortL_mem, List.mem_iff_getElem]
  exact ⟨fun ⟨j, h, _, h2⟩ => ⟨j, h, h2⟩, fun ⟨j, h, h2⟩ => ⟨j, h, h, h2⟩⟩
theorem lvs_len (S : List Int) : (lvs S).length ≤ S.length := by
  unfold lvs compactL Lib.compact Lib.compactUpTo
  rw [List.length_map]
  have := List.length_filter_le (Lib.keeps (sortL S).toArray) (List.range (sortL S).length)
  rw [List.length_range] at this
  have h2 := sortL_len S
  omega

/-! ### The search -/

open Classical in
theorem l10_0_spec {p : Pl} (hp : p.Ok) {S : List Int} (hl : S.length = p.C.length) {a : Pt} (ha : p.inP a) (b : Pt) {st cnt : Nat} {arr L : List Int} (hL : L.length = cnt) (hc : cnt ≤ 1000) (hA : ∀ i, i < cnt → arr[st + i]? = L[i]?) : ∀ (k i j : Nat), j - i ≤ k → i < j → j ≤ cnt →
    (∀ h : i < L.length, (p.lev S L[i]).Conn a b) → (∀ h : j < L.length, ¬ (p.lev S L[j]).Conn a b) →
    ∃ g : Nat, g < cnt ∧ l10_0 (p.C.length, st, cnt, (i : Int), (j : Int), p.W, p.H, p.C, a.X, a.Y, b.X, b.Y, S, arr, ()) = some (st, cnt, (g : Int), arr, ()) ∧ (∀ h : g < L.length, (p.lev S L[g]).Conn a b) ∧ ∀ h : g + 1 < L.length, ¬ (p.lev S L[g + 1]).Conn a b := by
  intro k
  induction k with
  | zero => intro i j h1 h2; omega
  | succ k ih =>
    intro i j h1 h2 h3 h4 h5
    have w0 : IntKind.i64.wrap ((j : Int) - (i : Int)) = ((j - i : Nat) : Int) := by rw [w64 (by omega) (by omega)]; omega
    by_cases hd : 1 < j - i
    · have c1 : ((j - i : Nat) : Int) > 1 := by omega
      have w1 : IntKind.i64.wrap ((i : Int) + (j : Int)) = ((i + j : Nat) : Int) := by rw [w64 (by omega) (by omega)]; omega
      have w2 : ((i + j : Nat) : Int).tdiv 2 = (((i + j) / 2 : Nat) : Int) := by rw [Int.tdiv_eq_ediv_of_nonneg (by omega)]; omega
      have hm1 : i < (i + j) / 2 := by omega
      have hm2 : (i + j) / 2 < j := by omega
      generalize (i + j) / 2 = m at *
      have w3 : IntKind.i64.wrap (m : Int) = (m : Int) := w64 (by omega) (by omega)
      have c2 : (0 : Int) ≤ (m : Int) := by omega
      have c3 : (m : Int) < (cnt : Int) := by omega
      have hlt : m < L.length := by omega
      have hget : arr[st + m]? = some L[m] := by rw [hA m (by omega), List.getElem?_eq_getElem hlt]
      have htk : List.take p.C.length S = S := List.take_of_length_le (by omega)
      have hle : p.C.length ≤ S.length := by omega
      by_cases hj : (p.lev S L[m]).Conn a b
      · have hr : r10_0 (p.C.length, st, cnt, (i : Int), (j : Int), p.W, p.H, p.C, a.X, a.Y, b.X, b.Y, S, arr, ()) = some (.inl (p.C.length, st, cnt, (m : Int), (j : Int), p.W, p.H, p.C, a.X, a.Y, b.X, b.Y, S, arr, ())) := by
          unfold r10_0
          simp only [w0, c1, decide_true, cond_true, w1, w2, w3, c2, c3, Bool.and_self, Int.toNat_natCast, hget, Option.bind_some, Nat.zero_add, hle, List.drop_zero, htk, f32_spec hp hl _ ha, hj]
        obtain ⟨g, g1, g2, g3⟩ := ih m j (by omega) hm2 h3 (fun _ => hj) h5
        refine ⟨g, g1, ?_, g3⟩
        unfold l10_0 at g2 ⊢
        rw [iterO_eq, hr]
        exact g2
      · have hr : r10_0 (p.C.length, st, cnt, (i : Int), (j : Int), p.W, p.H, p.C, a.X, a.Y, b.X, b.Y, S, arr, ()) = some (.inl (p.C.length, st, cnt, (i : Int), (m : Int), p.W, p.H, p.C, a.X, a.Y, b.X, b.Y, S, arr, ())) := by
          unfold r10_0
          simp only [w0, c1, decide_true, cond_true, w1, w2, w3, c2, c3, Bool.and_self, Int.toNat_natCast, hget, Option.bind_some, Nat.zero_add, hle, List.drop_zero, htk, f32_spec hp hl _ ha, hj, decide_false, cond_false]
        obtain ⟨g, g1, g2, g3⟩ := ih i m (by omega) hm1 (by omega) h4 (fun _ => hj)
        refine ⟨g, g1, ?_, g3⟩
        unfold l10_0 at g2 ⊢
        rw [iterO_eq, hr]
        exact g2
    · have hij : j = i + 1 := by omega
      subst hij
      have c1 : ¬ ((i + 1 - i : Nat) : Int) > 1 := by omega
      refine ⟨i, by omega, ?_, h4, h5⟩
      have hr : r10_0 (p.C.length, st, cnt, (i : Int), ((i + 1 : Nat) : Int), p.W, p.H, p.C, a.X, a.Y, b.X, b.Y, S, arr, ()) = some (.inr (st, cnt, (i : Int), arr, ())) := by
        unfold r10_0
        simp only [w0, c1, decide_false, cond_false]
      unfold l10_0
      rw [iterO_eq, hr]

open Classical in
theorem j10_34_spec {p : Pl} (hp : p.Ok) {S : List Int} (hl : S.length = p.C.length) {a : Pt} (ha : p.inP a) (b : Pt) {st cnt : Nat} {arr L : List Int} (hL : L.length = cnt) (hc : cnt ≤ 1000) (h0 : 0 < cnt) (hA : ∀ i, i < cnt → arr[st + i]? = L[i]?) (hs : L.Pairwise (· < ·)) :
    (j10_34 (p.C.length, st, cnt, p.W, p.H, p.C, a.X, a.Y, b.X, b.Y, S, arr, ()) = some (0, 14, ()) ∧ ∀ h : 0 < L.length, ¬ (p.lev S L[0]).Conn a b) ∨
      ∃ v, j10_34 (p.C.length, st, cnt, p.W, p.H, p.C, a.X, a.Y, b.X, b.Y, S, arr, ()) = some (v, 0, ()) ∧ v ∈ L ∧ (p.lev S v).Conn a b ∧ ∀ x ∈ L, v < x → ¬ (p.lev S x).Conn a b := by
  have hlt : 0 < L.length := by omega
  have hget : arr[st + 0]? = some L[0] := by rw [hA 0 h0, List.getElem?_eq_getElem hlt]
  have htk : List.take p.C.length S = S := List.take_of_length_le (by omega)
  have hle : p.C.length ≤ S.length := by omega
  have c1 : (0 : Int) < (cnt : Int) := by omega
  by_cases hj : (p.lev S L[0]).Conn a b
  · right
    obtain ⟨g, g1, g2, g3, g4⟩ := l10_0_spec hp hl ha b hL hc hA cnt 0 cnt (by omega) h0 (Nat.le_refl _) (fun _ => hj) (fun h => by omega)
    have g2' : l10_0 (p.C.length, st, cnt, 0, (cnt : Int), p.W, p.H, p.C, a.X, a.Y, b.X, b.Y, S, arr, ()) = _ := g2
    have hgl : g < L.length := by omega
    have hget2 : arr[st + g]? = some L[g] := by rw [hA g g1, List.getElem?_eq_getElem hgl]
    have c2 : (0 : Int) ≤ (g : Int) := by omega
    have c3 : (g : Int) < (cnt : Int) := by omega
    refine ⟨L[g], ?_, List.getElem_mem hgl, g3 hgl, fun x hx hv hcx => ?_⟩
    · unfold j10_34
      simp only [c1, decide_true, Bool.and_self, cond_true, hget, Option.bind_some, Nat.zero_add, hle, List.drop_zero, htk, f32_spec hp hl _ ha, hj, Bool.not_true, cond_false, g2', c2, c3, Int.toNat_natCast, hget2]
    · obtain ⟨i, hi, rfl⟩ := List.getElem_of_mem hx
      have hgi : g < i := by
        rcases Nat.lt_trichotomy g i with h | h | h
        · exact h
        · subst h; omega
        · have := List.pairwise_iff_getElem.1 hs i g hi hgl h
          omega
      have h1 : L[g + 1]'(by omega) ≤ L[i] := by
        rcases Nat.lt_or_ge (g + 1) i with h | h
        · exact Int.le_of_lt (List.pairwise_iff_getElem.1 hs (g + 1) i (by omega) hi h)
        · have : i = g + 1 := by omega
          subst this
          exact Int.le_refl _
      exact g4 (by omega) (Pl.lev_conn_mono hp hl h1 hcx)
  · left
    refine ⟨?_, fun _ => hj⟩
    unfold j10_34
    simp only [c1, decide_true, Bool.and_self, cond_true, hget, Option.bind_some, Nat.zero_add, hle, List.drop_zero, htk, f32_spec hp hl _ ha, hj, decide_false, Bool.not_false]

/-! ### Widest -/

/-- Of a list that ascends: the first that is at least s. -/
theorem first_ge {L : List Int} (hs : L.Pairwise (· < ·)) (s : Int) : (∃ y ∈ L, s ≤ y) → ∃ y ∈ L, s ≤ y ∧ ∀ z ∈ L, s ≤ z → y ≤ z := by
  induction L with
  | nil => rintro ⟨y, hy, _⟩; cases hy
  | cons x l ih =>
    obtain ⟨h1, h2⟩ := List.pairwise_cons.1 hs
    rintro ⟨y, hy, hsy⟩
    by_cases hx : s ≤ x
    · refine ⟨x, List.mem_cons_self .., hx, fun z hz _ => ?_⟩
      rcases List.mem_cons.1 hz with rfl | hz
      · exact Int.le_refl _
      · exact Int.le_of_lt (h1 z hz)
    · have hyl : y ∈ l := (List.mem_cons.1 hy).elim (fun h => (hx (h ▸ hsy)).elim) id
      obtain ⟨v, v1, v2, v3⟩ := ih h2 ⟨y, hyl, hsy⟩
      refine ⟨v, List.mem_cons_of_mem _ v1, v2, fun z hz hsz => ?_⟩
      rcases List.mem_cons.1 hz with rfl | hz
      · exact (hx hsz).elim
      · exact v3 z hz hsz

theorem g_mem {p : Pl} (hp : p.Ok) {S : List Int} (hl : S.length = p.C.length) {c : Pt} (hc : p.inP c) : p.g S c ∈ S := List.mem_of_getElem? (g_get hp hl hc)

/-- What the search's outcome says of a clearance. -/
theorem widest_law {p : Pl} (hp : p.Ok) {S L : List Int} (hl : S.length = p.C.length) (hs : L.Pairwise (· < ·)) (hm : ∀ x, x ∈ L ↔ x ∈ S ∧ 0 < x) {a b : Pt} {e w : Int}
    (h : (e = 14 ∧ ∀ h : 0 < L.length, ¬ (p.lev S L[0]).Conn a b) ∨ (e = 0 ∧ w ∈ L ∧ (p.lev S w).Conn a b ∧ ∀ x ∈ L, w < x → ¬ (p.lev S x).Conn a b)) {r : Int} (hr : 0 ≤ r) :
    (e = 0 ∧ w > r) ↔ (p.lev S (r + 1)).Conn a b := by
  -- a way at r + 1 is one at the least level that is not below it
  have key : (p.lev S (r + 1)).Conn a b → ∃ y ∈ L, r + 1 ≤ y ∧ (p.lev S y).Conn a b := fun hc => by
    have ha := (Pl.lev_free hp hl).1 hc.free1
    have hmem := g_mem hp hl ha.1
    obtain ⟨y, y1, y2, y3⟩ := first_ge hs (r + 1) ⟨p.g S a, (hm _).2 ⟨hmem, by omega⟩, ha.2⟩
    refine ⟨y, y1, y2, hc.mono fun c hf => ?_⟩
    rw [Pl.lev_free hp hl] at hf ⊢
    exact ⟨hf.1, y3 _ ((hm _).2 ⟨g_mem hp hl hf.1, by omega⟩) hf.2⟩
  constructor
  · rintro ⟨rfl, hw⟩
    rcases h with ⟨h1, _⟩ | ⟨_, h2, h3, _⟩
    · omega
    · exact Pl.lev_conn_mono hp hl (by omega) h3
  · intro hc
    obtain ⟨y, y1, y2, y3⟩ := key hc
    rcases h with ⟨h1, h2⟩ | ⟨h1, h2, h3, h4⟩
    · obtain ⟨i, hi, rfl⟩ := List.getElem_of_mem y1
      have h5 : L[0]'(by omega) ≤ L[i] := by
        rcases Nat.eq_zero_or_pos i with h | h
        · subst h; exact Int.le_refl _
        · exact Int.le_of_lt (List.pairwise_iff_getElem.1 hs 0 i (by omega) hi h)
      exact (h2 (by omega) (Pl.lev_conn_mono hp hl h5 y3)).elim
    · refine ⟨h1, ?_⟩
      refine Classical.byContradiction fun hn => ?_
      exact h4 y y1 (by omega) y3

theorem f10_none {p : Pl} (hp : p.Ok) {a b : Pt} (h : ¬ (p.free a ∧ p.free b)) : f10 (p.W, p.H, p.C, a.X, a.Y, b.X, b.Y, ()) = some (0, 7, ()) := by
  have hfew := hp.few
  unfold f10
  simp only [f22_spec (p := p) (by omega), hp.vld, Option.bind_some, Bool.not_true, cond_false, f28_spec hp]
  by_cases ha : p.free a
  · have hb : ¬ p.free b := fun hb => h ⟨ha, hb⟩
    simp only [ha, hb, decide_true, decide_false, Bool.not_true, Bool.not_false, cond_false, cond_true]
  · simp only [ha, decide_false, Bool.not_false, cond_true]

theorem f10_spec {p : Pl} (hp : p.Ok) {S : List Int} (hS : f23 (p.W, p.H, p.C, ()) = some (p.C.length, S, ())) (hl : S.length = p.C.length) (hq : ∀ x ∈ S, 0 ≤ x) {a b : Pt} (ha : p.free a) (hb : p.free b) (hpos : 0 < p.g S a) :
    ∃ w e, f10 (p.W, p.H, p.C, a.X, a.Y, b.X, b.Y, ()) = some (w, e, ()) ∧ ∀ r : Int, 0 ≤ r → ((e = 0 ∧ w > r) ↔ (p.lev S (r + 1)).Conn a b) := by
  have hfew := hp.few
  have hlv := lvs_len S
  have hla := lvs_asc S
  have hmem : p.g S a ∈ lvs S := lvs_mem.2 (g_mem hp hl ha.1)
  have h29 : f29 (S, ()) = some (p.C.length, S, ()) := by rw [f29_spec (by omega), hl]
  have htk : List.take p.C.length S = S := List.take_of_length_le (by omega)
  have hdk : List.drop p.C.length S = [] := List.drop_of_length_le (by omega)
  have hts : List.take p.C.length (sortL S) = sortL S := List.take_of_length_le (by rw [sortL_len]; omega)
  have hds : List.drop p.C.length (sortL S) = [] := List.drop_of_length_le (by rw [sortL_len]; omega)
  have h30 : f30 (p.C.length, S, ()) = some (sortL S, ()) := by
    unfold f30
    simp only [show p.C.length ≤ S.length by omega, show p.C.length ≤ 1000000 by omega, decide_true, Bool.and_self, cond_true, htk, hdk, List.append_nil]
  have h31 : f31 (p.C.length, sortL S, ()) = some ((lvs S).length, lvs S ++ List.replicate (p.C.length - (lvs S).length) 0, ()) := by
    unfold f31
    have e : compactL (sortL S) = lvs S := rfl
    simp only [show p.C.length ≤ (sortL S).length by rw [sortL_len]; omega, show p.C.length ≤ 1000000 by omega, hts, hds, e, show (lvs S).length ≤ p.C.length by omega, decide_true, Bool.and_self, cond_true, List.append_nil]
  have hle : p.C.length ≤ S.length := by omega
  have hA : ∀ i, i < (lvs S).length → (lvs S ++ List.replicate (p.C.length - (lvs S).length) (0 : Int))[i]? = (lvs S)[i]? := fun i hi => List.getElem?_append_left hi
  cases hL : lvs S with
  | nil => rw [hL] at hmem; cases hmem
  | cons x0 L' =>
    rw [hL] at hlv hla hmem h31 hA
    have hasc := List.pairwise_cons.1 hla
    have hget0 : (x0 :: L' ++ List.replicate (p.C.length - (x0 :: L').length) (0 : Int))[0]? = some x0 := rfl
    have c0 : (0 : Int) < ((x0 :: L').length : Int) := by rw [List.length_cons]; omega
    have hx0 : 0 ≤ x0 := hq x0 (lvs_mem.1 (by rw [hL]; exact List.mem_cons_self ..))
    by_cases hz : x0 = 0
    · have qz : (x0 == 0) = true := by simpa using hz
      have hL' : 0 < L'.length := by
        rcases List.mem_cons.1 hmem with h | h
        · omega
        · exact List.length_pos_of_mem h
      have c1 : (1 : Int) ≤ ((x0 :: L').length : Int) := by rw [List.length_cons]; omega
      have hA' : ∀ i, i < L'.length → (x0 :: L' ++ List.replicate (p.C.length - (x0 :: L').length) (0 : Int))[1 + i]? = L'[i]? := fun i hi => by
        rw [hA (1 + i) (by rw [List.length_cons]; omega), Nat.add_comm, List.getElem?_cons_succ]
      have hcl : (x0 :: L').length - 1 = L'.length := by rw [List.length_cons]; omega
      have hmm : ∀ x, x ∈ L' ↔ x ∈ S ∧ 0 < x := fun x => by
        rw [← lvs_mem (S := S), hL]
        constructor
        · intro h
          exact ⟨List.mem_cons_of_mem _ h, by have := hasc.1 x h; omega⟩
        · rintro ⟨h1, h2⟩
          exact (List.mem_cons.1 h1).elim (fun h => by omega) id
      have hj := j10_34_spec hp hl ha.1 b (st := 1) (cnt := L'.length) (arr := x0 :: L' ++ List.replicate (p.C.length - (x0 :: L').length) (0 : Int)) rfl (by rw [List.length_cons] at hlv; omega) hL' hA' hasc.2
      have step : ∀ w e, j10_34 (p.C.length, 1, L'.length, p.W, p.H, p.C, a.X, a.Y, b.X, b.Y, S, x0 :: L' ++ List.replicate (p.C.length - (x0 :: L').length) (0 : Int), ()) = some (w, e, ()) →
          f10 (p.W, p.H, p.C, a.X, a.Y, b.X, b.Y, ()) = some (w, e, ()) := fun w e h => by
        unfold f10
        simp only [f22_spec (p := p) (by omega), hp.vld, Option.bind_some, Bool.not_true, cond_false, f28_spec hp, ha, hb, decide_true, hS, Nat.zero_add, hle, cond_true, List.drop_zero, htk, h29, h30, h31, c0, Bool.and_self, hget0, qz, c1, Int.le_refl, Int.toNat_natCast, hcl, h]
      rcases hj with ⟨j1, j2⟩ | ⟨v, j1, j2, j3, j4⟩
      · exact ⟨0, 14, step _ _ j1, fun r hr => widest_law hp hl hasc.2 hmm (.inl ⟨rfl, j2⟩) hr⟩
      · exact ⟨v, 0, step _ _ j1, fun r hr => widest_law hp hl hasc.2 hmm (.inr ⟨rfl, j2, j3, j4⟩) hr⟩
    · have qz : (x0 == 0) = false := by simpa using hz
      have hA' : ∀ i, i < (x0 :: L').length → (x0 :: L' ++ List.replicate (p.C.length - (x0 :: L').length) (0 : Int))[0 + i]? = (x0 :: L')[i]? := fun i hi => by
        rw [Nat.zero_add]; exact hA i hi
      have hmm : ∀ x, x ∈ x0 :: L' ↔ x ∈ S ∧ 0 < x := fun x => by
        rw [← lvs_mem (S := S), hL]
        constructor
        · intro h
          refine ⟨h, ?_⟩
          rcases List.mem_cons.1 h with rfl | h
          · omega
          · have := hasc.1 x h; omega
        · exact fun h => h.1
      have hj := j10_34_spec hp hl ha.1 b (st := 0) (cnt := (x0 :: L').length) (arr := x0 :: L' ++ List.replicate (p.C.length - (x0 :: L').length) (0 : Int)) rfl (by omega) (by rw [List.length_cons]; omega) hA' hla
      have step : ∀ w e, j10_34 (p.C.length, 0, (x0 :: L').length, p.W, p.H, p.C, a.X, a.Y, b.X, b.Y, S, x0 :: L' ++ List.replicate (p.C.length - (x0 :: L').length) (0 : Int), ()) = some (w, e, ()) →
          f10 (p.W, p.H, p.C, a.X, a.Y, b.X, b.Y, ()) = some (w, e, ()) := fun w e h => by
        unfold f10
        simp only [f22_spec (p := p) (by omega), hp.vld, Option.bind_some, Bool.not_true, cond_false, f28_spec hp, ha, hb, decide_true, hS, Nat.zero_add, hle, cond_true, List.drop_zero, htk, h29, h30, h31, c0, Bool.and_self, hget0, qz, h]
      rcases hj with ⟨j1, j2⟩ | ⟨v, j1, j2, j3, j4⟩
      · exact ⟨0, 14, step _ _ j1, fun r hr => widest_law hp hl hla hmm (.inl ⟨rfl, j2⟩) hr⟩
      · exact ⟨v, 0, step _ _ j1, fun r hr => widest_law hp hl hla hmm (.inr ⟨rfl, j2, j3, j4⟩) hr⟩

end Go.AE
