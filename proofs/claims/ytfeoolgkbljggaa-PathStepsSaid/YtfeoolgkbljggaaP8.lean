/-
  Plain laws of the chapter Path, part 8: lengths of given walks; what is seen from a cell.
-/
import Derived.Test.YtfeoolgkbljggaaP7
namespace Go.AE
open Go.Proofs Go.RowKit
set_option maxRecDepth 100000

/-! ### The length of a walk -/

theorem l57_spec {p : Pl} (hp : p.Ok) {l : List Pt} (hn : l.length ≤ 1000000) : ∀ (t i : Nat), l.length - i = t → i ≤ l.length →
    ((∀ x ∈ l.drop i, p.free x) ∧ l57_0 (l, (l.length : Int), (i : Int), p.W, p.H, p.C, ()) = some (.inr (p.W, p.H, p.C, ()))) ∨ ((¬ ∀ x ∈ l.drop i, p.free x) ∧ ∃ j : Nat, l57_0 (l, (l.length : Int), (i : Int), p.W, p.H, p.C, ()) = some (.inl ((j : Int), p.W, p.H, p.C, ()))) := by
  intro t
  induction t with
  | zero =>
    intro i ht hi
    have : i = l.length := by omega
    subst this
    left
    refine ⟨by simp, ?_⟩
    have c1 : ¬ ((l.length : Nat) : Int) < (l.length : Int) := by omega
    have : r57_0 (l, (l.length : Int), (l.length : Int), p.W, p.H, p.C, ()) = some (.inr (.inr (p.W, p.H, p.C, ()))) := by
      unfold r57_0
      simp only [c1, decide_false, cond_false]
    unfold l57_0
    rw [iterO_eq, this]
  | succ t ih =>
    intro i ht hi
    have h1 : i < l.length := by omega
    have c1 : (i : Int) < (l.length : Int) := by omega
    have w : IntKind.i64.wrap ((i : Int) + 1) = ((i + 1 : Nat) : Int) := by rw [w64 (by omega) (by omega)]; rfl
    unfold l57_0
    rw [iterO_eq, drop_cons h1]
    by_cases e : p.free l[i]
    · have : r57_0 (l, (l.length : Int), (i : Int), p.W, p.H, p.C, ()) = some (.inl (l, (l.length : Int), ((i + 1 : Nat) : Int), p.W, p.H, p.C, ())) := by
        unfold r57_0
        simp only [c1, decide_true, cond_true, idxO_nat, List.getElem?_eq_getElem h1, Option.bind_some, f48, f38_spec hp, e, Bool.not_true, cond_false, w]
      rw [this]
      have := ih (i + 1) (by omega) (by omega)
      unfold l57_0 at this
      simp only [List.forall_mem_cons, e, true_and]
      exact this
    · right
      refine ⟨fun h => e (h _ (List.mem_cons_self ..)), i, ?_⟩
      have : r57_0 (l, (l.length : Int), (i : Int), p.W, p.H, p.C, ()) = some (.inr (.inl ((i : Int), p.W, p.H, p.C, ()))) := by
        unfold r57_0
        simp only [c1, decide_true, cond_true, idxO_nat, List.getElem?_eq_getElem h1, Option.bind_some, f48, f38_spec hp, e, decide_false, Bool.not_false]
      rw [this]

theorem f47_spec {p : Pl} (hp : p.Ok) {l : List Pt} (hn : l.length ≤ 1000000) : ∃ t, f47 (l, p.W, p.H, p.C, ()) = some (t, p.W, p.H, p.C, ()) ∧ (t = false ↔ ∀ x ∈ l, p.free x) := by
  have h := l57_spec hp hn _ 0 rfl (by omega)
  rw [List.drop_zero] at h
  unfold f47 f57
  rcases h with ⟨h1, h2⟩ | ⟨h1, j, h2⟩
  · have h2' : l57_0 (l, (l.length : Int), 0, p.W, p.H, p.C, ()) = some (.inr (p.W, p.H, p.C, ())) := h2
    refine ⟨false, ?_, by simpa using h1⟩
    have : ¬ (-1 : Int) ≥ 0 := by omega
    simp only [h2', Option.bind_some, Sum.elim_inr, this, decide_false]
  · have h2' : l57_0 (l, (l.length : Int), 0, p.W, p.H, p.C, ()) = some (.inl ((j : Int), p.W, p.H, p.C, ())) := h2
    refine ⟨true, ?_, by simpa using h1⟩
    have : (j : Int) ≥ 0 := by omega
    simp only [h2', Option.bind_some, Sum.elim_inl, this, decide_true]

theorem l36_0_spec {p : Pl} (hp : p.Ok) {l : List Pt} (hn : l.length ≤ 1000000) : ∀ (t i : Nat), l.length - i = t → i ≤ l.length →
    l36_0 (l, (i : Int), p.W, p.H, p.C, ()) = some (if ∀ x ∈ l.drop i, p.free x then .inr (l, p.W, p.H, p.C, ()) else .inl (0, 7, ())) := by
  intro t
  induction t with
  | zero =>
    intro i ht hi
    have : i = l.length := by omega
    subst this
    have c1 : ¬ ((l.length : Nat) : Int) < (l.length : Int) := by omega
    have : r36_0 (l, (l.length : Int), p.W, p.H, p.C, ()) = some (.inr (.inr (l, p.W, p.H, p.C, ()))) := by
      unfold r36_0
      simp only [c1, decide_false, cond_false]
    unfold l36_0
    rw [iterO_eq, this, List.drop_length]
    simp
  | succ t ih =>
    intro i ht hi
    have h1 : i < l.length := by omega
    have c1 : (i : Int) < (l.length : Int) := by omega
    have w : IntKind.i64.wrap ((i : Int) + 1) = ((i + 1 : Nat) : Int) := by rw [w64 (by omega) (by omega)]; rfl
    unfold l36_0
    rw [iterO_eq, drop_cons h1]
    by_cases e : p.free l[i]
    · have : r36_0 (l, (i : Int), p.W, p.H, p.C, ()) = some (.inl (l, ((i + 1 : Nat) : Int), p.W, p.H, p.C, ())) := by
        unfold r36_0
        simp only [c1, decide_true, cond_true, idxO_nat, List.getElem?_eq_getElem h1, Option.bind_some, f40_spec hp, e, Bool.not_true, cond_false, w]
      rw [this]
      have := ih (i + 1) (by omega) (by omega)
      unfold l36_0 at this
      simp only [List.forall_mem_cons, e, true_and]
      exact this
    · have : r36_0 (l, (i : Int), p.W, p.H, p.C, ()) = some (.inr (.inl (0, 7, ()))) := by
        unfold r36_0
        simp only [c1, decide_true, cond_true, idxO_nat, List.getElem?_eq_getElem h1, Option.bind_some, f40_spec hp, e, decide_false, Bool.not_false]
      rw [this]
      simp only [List.forall_mem_cons, e, false_and, if_false]

theorem l36_6_spec {p : Pl} (hp : p.Ok) {l : List Pt} (hn : l.length ≤ 1000000) : ∀ (t i : Nat) (n : Int) (a : Pt), l.length - i = t → 1 ≤ i → i ≤ l.length → l[i - 1]? = some a → 0 ≤ n → n ≤ 99 * i →
    l36_6 (l, n, (i : Int), p.W, p.H, p.C, ()) = some (match p.len2 a (l.drop i) with
      | some k => .inr (n + k, ())
      | none => .inl (0, 9, ())) := by
  intro t
  induction t with
  | zero =>
    intro i n a ht h1 hi ha n0 n1
    have : i = l.length := by omega
    subst this
    have c1 : ¬ ((l.length : Nat) : Int) < (l.length : Int) := by omega
    have : r36_6 (l, n, (l.length : Int), p.W, p.H, p.C, ()) = some (.inr (.inr (n, ()))) := by
      unfold r36_6
      simp only [c1, decide_false, cond_false]
    unfold l36_6
    rw [iterO_eq, this, List.drop_length]
    simp [Pl.len2]
  | succ t ih =>
    intro i n a ht h1 hi ha n0 n1
    have h2 : i < l.length := by omega
    have c1 : (i : Int) < (l.length : Int) := by omega
    have w : IntKind.i64.wrap ((i : Int) + 1) = ((i + 1 : Nat) : Int) := by rw [w64 (by omega) (by omega)]; rfl
    have w1 : IntKind.i64.wrap ((i : Int) - 1) = ((i - 1 : Nat) : Int) := by rw [w64 (by omega) (by omega)]; omega
    unfold l36_6
    rw [iterO_eq, drop_cons h2]
    cases hs : p.stp a l[i] with
    | none =>
      have n2 : num none < 0 := by unfold num; decide
      have : r36_6 (l, n, (i : Int), p.W, p.H, p.C, ()) = some (.inr (.inl (0, 9, ()))) := by
        unfold r36_6
        simp only [c1, decide_true, cond_true, w1, idxO_nat, ha, List.getElem?_eq_getElem h2, Option.bind_some, f33_spec hp, hs, n2]
      rw [this]
      simp only [Pl.len2, hs, Option.bind_none]
    | some k =>
      have hk := Pl.stp_pos hs
      have n2 : ¬ num (some k) < 0 := by have : num (some k) = k := rfl; omega
      have w2 : IntKind.i64.wrap (n + num (some k)) = n + k := by have : num (some k) = k := rfl; rw [this]; exact w64 (by omega) (by omega)
      have : r36_6 (l, n, (i : Int), p.W, p.H, p.C, ()) = some (.inl (l, n + k, ((i + 1 : Nat) : Int), p.W, p.H, p.C, ())) := by
        unfold r36_6
        simp only [c1, decide_true, cond_true, w1, idxO_nat, ha, List.getElem?_eq_getElem h2, Option.bind_some, f33_spec hp, hs, n2, decide_false, cond_false, w, w2]
      rw [this]
      have := ih (i + 1) (n + k) l[i] (by omega) (by omega) (by omega) (by rw [Nat.add_sub_cancel]; exact List.getElem?_eq_getElem h2) (by omega) (by omega)
      unfold l36_6 at this
      simp only [this, Pl.len2, hs, Option.bind_some]
      cases p.len2 l[i] (l.drop (i + 1)) with
      | none => rfl
      | some m => simp only [Option.map_some]; rw [Int.add_assoc]

theorem l35_spec {p : Pl} (hp : p.Ok) {l : List Pt} (hn : l.length ≤ 1000000) (h0 : 1 ≤ l.length) : ∀ (t i : Nat) (n : Int) (a : Pt), l.length - i = t → 1 ≤ i → i ≤ l.length → l[i - 1]? = some a → 0 ≤ n → n ≤ 99 * i →
    l35_0 (l, n, l.drop 1, ((l.drop 1).length : Int), ((i - 1 : Nat) : Int), p.W, p.H, p.C, ()) = some (match p.len2 a (l.drop i) with
      | some k => .inr (n + k, ())
      | none => .inl (0, 9, ())) := by
  have hd : (l.drop 1).length = l.length - 1 := List.length_drop
  intro t
  induction t with
  | zero =>
    intro i n a ht h1 hi ha n0 n1
    have : i = l.length := by omega
    subst this
    have c1 : ¬ ((l.length - 1 : Nat) : Int) < ((l.length - 1 : Nat) : Int) := by omega
    have : r35_0 (l, n, l.drop 1, ((l.length - 1 : Nat) : Int), ((l.length - 1 : Nat) : Int), p.W, p.H, p.C, ()) = some (.inr (.inr (n, ()))) := by
      unfold r35_0
      simp only [c1, decide_false, cond_false]
    rw [hd]
    unfold l35_0
    rw [iterO_eq, this, List.drop_length]
    simp [Pl.len2]
  | succ t ih =>
    intro i n a ht h1 hi ha n0 n1
    have h2 : i < l.length := by omega
    have c1 : ((i - 1 : Nat) : Int) < ((l.length - 1 : Nat) : Int) := by omega
    have w : IntKind.i64.wrap (((i - 1 : Nat) : Int) + 1) = ((i + 1 - 1 : Nat) : Int) := by rw [w64 (by omega) (by omega)]; omega
    have e1 : (l.drop 1)[i - 1]? = some l[i] := by rw [List.getElem?_drop, show 1 + (i - 1) = i by omega]; exact List.getElem?_eq_getElem h2
    rw [hd]
    unfold l35_0
    rw [iterO_eq, drop_cons h2]
    cases hs : p.stp a l[i] with
    | none =>
      have : r35_0 (l, n, l.drop 1, ((l.length - 1 : Nat) : Int), ((i - 1 : Nat) : Int), p.W, p.H, p.C, ()) = some (.inr (.inl (0, 9, ()))) := by
        unfold r35_0
        simp only [c1, decide_true, cond_true, idxO_nat, ha, e1, Option.bind_some, f32_spec hp, hs, Option.isSome_none, Bool.not_false]
      rw [this]
      simp only [Pl.len2, hs, Option.bind_none]
    | some k =>
      have hk := Pl.stp_pos hs
      have w2 : IntKind.i64.wrap (n + k) = n + k := w64 (by omega) (by omega)
      have : r35_0 (l, n, l.drop 1, ((l.length - 1 : Nat) : Int), ((i - 1 : Nat) : Int), p.W, p.H, p.C, ()) = some (.inl (l, n + k, l.drop 1, ((l.length - 1 : Nat) : Int), ((i + 1 - 1 : Nat) : Int), p.W, p.H, p.C, ())) := by
        unfold r35_0
        simp only [c1, decide_true, cond_true, idxO_nat, ha, e1, Option.bind_some, f32_spec hp, hs, Option.isSome_some, Option.getD_some, Bool.not_true, cond_false, w, w2]
      rw [this]
      have := ih (i + 1) (n + k) l[i] (by omega) (by omega) (by omega) (by rw [Nat.add_sub_cancel]; exact List.getElem?_eq_getElem h2) (by omega) (by omega)
      rw [hd] at this
      unfold l35_0 at this
      simp only [this, Pl.len2, hs, Option.bind_some]
      cases p.len2 l[i] (l.drop (i + 1)) with
      | none => rfl
      | some m => simp only [Option.map_some]; rw [Int.add_assoc]

/-- What the length of a walk is said to be. -/
def Pl.leng (p : Pl) : List Pt → Int × Int
  | [] => (0, 7)
  | a :: l => if ∀ x ∈ a :: l, p.free x then (match p.len2 a l with
    | some k => (k, 0)
    | none => (0, 9)) else (0, 7)

theorem f35_spec {p : Pl} (hp : p.Ok) {l : List Pt} (hn : l.length ≤ 1000000) : f35 (p.W, p.H, p.C, l, ()) = some ((p.leng l).1, (p.leng l).2, ()) := by
  have hfew := hp.few
  unfold f35
  simp only [f37_spec (p := p) (by omega), hp.vld, Option.bind_some, Bool.not_true, cond_false]
  cases l with
  | nil => rfl
  | cons a l =>
    obtain ⟨t, h1, h2⟩ := f47_spec hp hn
    have h3 := l35_spec hp hn (by simp) _ 1 0 a rfl (by omega) (by simp) rfl (by omega) (by omega)
    rw [show ((1 - 1 : Nat) : Int) = 0 from rfl, show (a :: l).drop 1 = l from rfl] at h3
    have z0 : (((a :: l).length : Int) == 0) = false := by rw [beq_eq_false_iff_ne, List.length_cons]; omega
    simp only [z0, cond_false, h1, Option.bind_some]
    cases t with
    | true =>
      have : ¬ ∀ x ∈ a :: l, p.free x := fun h => by have := h2.2 h; cases this
      simp only [cond_true, Pl.leng, this, if_false]
    | false =>
      have hf := h2.1 rfl
      have c1 : (1 : Int) ≤ ((a :: l).length : Int) := by rw [List.length_cons]; omega
      have tt : List.drop 1 (List.take ((a :: l).length : Int).toNat (a :: l)) = l := by rw [Int.toNat_natCast, List.take_length]; rfl
      simp only [cond_false, c1, Int.le_refl, decide_true, Bool.and_self, cond_true, tt, h3, Option.bind_some, Pl.leng, if_pos hf]
      cases p.len2 a l with
      | none => rfl
      | some k => simp only [Sum.elim_inr, Int.zero_add]

theorem f36_spec {p : Pl} (hp : p.Ok) {l : List Pt} (hn : l.length ≤ 1000000) : f36 (p.W, p.H, p.C, l, ()) = some ((p.leng l).1, (p.leng l).2, ()) := by
  have hfew := hp.few
  unfold f36
  simp only [f24_spec (p := p) (by omega), hp.vld, Option.bind_some, Bool.not_true, cond_false]
  cases l with
  | nil => rfl
  | cons a l =>
    have h1 := l36_0_spec hp hn _ 0 rfl (by omega)
    have h1' : l36_0 (a :: l, 0, p.W, p.H, p.C, ()) = some (if ∀ x ∈ a :: l, p.free x then .inr (a :: l, p.W, p.H, p.C, ()) else .inl (0, 7, ())) := h1
    have h3 := l36_6_spec hp hn _ 1 0 a rfl (by omega) (by simp) rfl (by omega) (by omega)
    have h3' : l36_6 (a :: l, 0, 1, p.W, p.H, p.C, ()) = some (match p.len2 a l with
      | some k => .inr (0 + k, ())
      | none => .inl (0, 9, ())) := h3
    have z0 : (((a :: l).length : Int) == 0) = false := by rw [beq_eq_false_iff_ne, List.length_cons]; omega
    simp only [z0, cond_false, h1', Option.bind_some]
    by_cases hf : ∀ x ∈ a :: l, p.free x
    · simp only [if_pos hf, Sum.elim_inr, h3', Option.bind_some, Pl.leng]
      cases p.len2 a l with
      | none => rfl
      | some k => simp only [Sum.elim_inr, Int.zero_add]
    · simp only [if_neg hf, Sum.elim_inl, Pl.leng]

theorem f35_bad {p : Pl} (hl : p.C.length ≤ 1000000) (hv : p.vld = false) (l : List Pt) : f35 (p.W, p.H, p.C, l, ()) = some (0, 1, ()) := by
  unfold f35
  simp only [f37_spec hl, hv, Option.bind_some, Bool.not_false, cond_true]
theorem f36_bad {p : Pl} (hl : p.C.length ≤ 1000000) (hv : p.vld = false) (l : List Pt) : f36 (p.W, p.H, p.C, l, ()) = some (0, 1, ()) := by
  unfold f36
  simp only [f24_spec hl, hv, Option.bind_some, Bool.not_false, cond_true]

end Go.AE
