/-
  AE, part 7: a call, as a whole.
-/
import Derived.Test.YtadnppefidjhfaaGreatAeC
namespace Go.AE
open Go.RowKit

section
variable {C : Cfg} {c : Ctx} {w : World}

def keptB (src : List (Nat × Bool)) (j : Nat) : Bool := match src[j]? with
  | some (_, true) => true
  | _ => false

theorem outMap_len : ∀ (src : List (Nat × Bool)) (n nid : Nat), (outMap src n nid).length = n
  | src, 0, nid => by cases src <;> rfl
  | [], n + 1, nid => by simp [outMap, outMap_len [] n]
  | (id, true) :: src, n + 1, nid => by simp [outMap, outMap_len src n]
  | (_, false) :: src, n + 1, nid => by simp [outMap, outMap_len src n]

theorem outMap_kept : ∀ (src : List (Nat × Bool)) (n nid j id : Nat), j < n → src[j]? = some (id, true) → (outMap src n nid)[j]? = some id
  | src, 0, nid, j, id, h, _ => absurd h (Nat.not_lt_zero _)
  | [], n + 1, nid, j, id, h, e => by simp at e
  | (i, true) :: src, n + 1, nid, 0, id, h, e => by simp at e; subst e; simp [outMap]
  | (i, true) :: src, n + 1, nid, j + 1, id, h, e => by simp only [outMap, List.getElem?_cons_succ] at e ⊢; exact outMap_kept src n nid j id (by omega) e
  | (i, false) :: src, n + 1, nid, 0, id, h, e => by simp at e
  | (i, false) :: src, n + 1, nid, j + 1, id, h, e => by simp only [outMap, List.getElem?_cons_succ] at e ⊢; exact outMap_kept src n (nid + 1) j id (by omega) e

theorem outMap_new : ∀ (src : List (Nat × Bool)) (n nid j : Nat), j < n → keptB src j = false → ∃ i, (outMap src n nid)[j]? = some i ∧ nid ≤ i ∧ i < nid + n
  | src, 0, nid, j, h, _ => absurd h (Nat.not_lt_zero _)
  | [], n + 1, nid, 0, h, e => ⟨nid, by simp [outMap], Nat.le_refl _, by omega⟩
  | [], n + 1, nid, j + 1, h, e => by
    obtain ⟨i, h1, h2, h3⟩ := outMap_new [] n (nid + 1) j (by omega) (by simp [keptB])
    exact ⟨i, by simpa [outMap] using h1, by omega, by omega⟩
  | (i, true) :: src, n + 1, nid, 0, h, e => by simp [keptB] at e
  | (i, true) :: src, n + 1, nid, j + 1, h, e => by
    obtain ⟨i, h1, h2, h3⟩ := outMap_new src n nid j (by omega) (by simpa [keptB] using e)
    exact ⟨i, by simpa [outMap] using h1, by omega, by omega⟩
  | (i, false) :: src, n + 1, nid, 0, h, e => ⟨nid, by simp [outMap], Nat.le_refl _, by omega⟩
  | (i, false) :: src, n + 1, nid, j + 1, h, e => by
    obtain ⟨i, h1, h2, h3⟩ := outMap_new src n (nid + 1) j (by omega) (by simpa [keptB] using e)
    exact ⟨i, by simpa [outMap] using h1, by omega, by omega⟩

theorem outMap_lt : ∀ (src : List (Nat × Bool)) (n nid j k x y : Nat), j < k → keptB src j = false → keptB src k = false → (outMap src n nid)[j]? = some x → (outMap src n nid)[k]? = some y → x < y
  | src, 0, nid, j, k, x, y, h, _, _, e, _ => by cases src <;> simp [outMap] at e
  | [], n + 1, nid, j, 0, x, y, h, _, _, _, _ => absurd h (Nat.not_lt_zero _)
  | [], n + 1, nid, 0, k + 1, x, y, h, a, b, e1, e2 => by
    simp [outMap] at e1 e2
    have hk : k < n := by have := lt_of_getElem? e2; rw [outMap_len] at this; exact this
    obtain ⟨i, h1, h2, h3⟩ := outMap_new [] n (nid + 1) k hk (by simp [keptB])
    rw [h1] at e2; cases e2; omega
  | [], n + 1, nid, j + 1, k + 1, x, y, h, a, b, e1, e2 => by
    simp only [outMap, List.getElem?_cons_succ] at e1 e2
    exact outMap_lt [] n (nid + 1) j k x y (by omega) (by simp [keptB]) (by simp [keptB]) e1 e2
  | (i, true) :: src, n + 1, nid, j, 0, x, y, h, _, _, _, _ => absurd h (Nat.not_lt_zero _)
  | (i, true) :: src, n + 1, nid, 0, k + 1, x, y, h, a, b, e1, e2 => by simp [keptB] at a
  | (i, true) :: src, n + 1, nid, j + 1, k + 1, x, y, h, a, b, e1, e2 => by
    simp only [outMap, List.getElem?_cons_succ] at e1 e2
    exact outMap_lt src n nid j k x y (by omega) (by simpa [keptB] using a) (by simpa [keptB] using b) e1 e2
  | (i, false) :: src, n + 1, nid, j, 0, x, y, h, _, _, _, _ => absurd h (Nat.not_lt_zero _)
  | (i, false) :: src, n + 1, nid, 0, k + 1, x, y, h, a, b, e1, e2 => by
    simp [outMap] at e1 e2
    have hk : k < n := by have := lt_of_getElem? e2; rw [outMap_len] at this; exact this
    obtain ⟨i, h1, h2, h3⟩ := outMap_new src n (nid + 1) k hk (by simpa [keptB] using b)
    rw [h1] at e2; cases e2; omega
  | (i, false) :: src, n + 1, nid, j + 1, k + 1, x, y, h, a, b, e1, e2 => by
    simp only [outMap, List.getElem?_cons_succ] at e1 e2
    exact outMap_lt src n (nid + 1) j k x y (by omega) (by simpa [keptB] using a) (by simpa [keptB] using b) e1 e2

theorem keptB_true {src : List (Nat × Bool)} {j : Nat} (h : keptB src j = true) : ∃ id, src[j]? = some (id, true) := by
  unfold keptB at h
  split at h
  · exact ⟨_, by assumption⟩
  · cases h

/-! ### Writes -/

/-- Each number in range, or next. -/
def Wf : Nat → List Nat → Prop
  | _, [] => True
  | n, i :: r => (i < n ∧ Wf n r) ∨ (i = n ∧ Wf (n + 1) r)

theorem wrH_app {E : Nat → Type} : ∀ (a b : List (Nat × Option (Ob E))) (h : Heap E), wrH h (a ++ b) = wrH (wrH h a) b
  | [], b, h => by simp [wrH]
  | (i, o) :: a, b, h => by
    simp only [List.cons_append, wrH]
    split <;> exact wrH_app a b _

theorem wrH_len {E : Nat → Type} : ∀ (ws : List (Nat × Option (Ob E))) (h : Heap E), h.length ≤ (wrH h ws).length
  | [], h => Nat.le_refl _
  | (i, o) :: ws, h => by
    simp only [wrH]
    split
    · have := wrH_len ws (h.set i o); simpa using this
    · have := wrH_len ws (h ++ [o]); simp at this; omega

theorem wrH_zip {E : Nat → Type} : ∀ (m : List Nat) (os : List (Option (Ob E))) (h : Heap E), Wf h.length m → m.Nodup → m.length = os.length →
    (∀ (j i : Nat), m[j]? = some i → (wrH h (m.zip os))[i]? = os[j]?) ∧ (∀ i, i ∉ m → (wrH h (m.zip os))[i]? = h[i]?)
  | [], [], h, _, _, _ => ⟨fun j i hj => by simp at hj, fun i _ => rfl⟩
  | [], _ :: _, h, _, _, hl => by simp at hl
  | _ :: _, [], h, _, _, hl => by simp at hl
  | i :: m, o :: os, h, hw, hn, hl => by
    simp only [List.zip_cons_cons, wrH]
    have hn2 := (List.nodup_cons.1 hn)
    rcases hw with ⟨h1, h2⟩ | ⟨h1, h2⟩
    · rw [show Nat.blt i h.length = true by simpa [Nat.blt_eq] using h1]
      obtain ⟨a, b⟩ := wrH_zip m os (h.set i o) (by simpa using h2) hn2.2 (by simpa using hl)
      refine ⟨fun j k hj => ?_, fun k hk => ?_⟩
      · cases j with
        | zero => simp at hj; subst hj; rw [b _ hn2.1, List.getElem?_set_self h1]; rfl
        | succ j => exact a j k (by simpa using hj)
      · simp only [List.mem_cons, not_or] at hk
        rw [b k hk.2, List.getElem?_set_ne (fun e => hk.1 e.symm)]
    · rw [show Nat.blt i h.length = false by subst h1; simp [← Bool.not_eq_true, Nat.blt_eq]]
      obtain ⟨a, b⟩ := wrH_zip m os (h ++ [o]) (by simpa using h2) hn2.2 (by simpa using hl)
      refine ⟨fun j k hj => ?_, fun k hk => ?_⟩
      · cases j with
        | zero => simp at hj; subst hj; rw [b _ hn2.1, h1]; simp
        | succ j => exact a j k (by simpa using hj)
      · simp only [List.mem_cons, not_or] at hk
        rw [b k hk.2]
        rcases Nat.lt_trichotomy k h.length with h3 | h3 | h3
        · rw [List.getElem?_append_left h3]
        · exact (hk.1 (h3.trans h1.symm)).elim
        · rw [List.getElem?_eq_none (by simp; omega), List.getElem?_eq_none (by omega)]

theorem wrH_none {E : Nat → Type} : ∀ (l : List Nat) (h : Heap E), (∀ i ∈ l, i < h.length) → (wrH h (l.map fun i => (i, none))).length = h.length ∧
    (∀ i, i ∈ l → (wrH h (l.map fun i => (i, none)))[i]? = some none) ∧ ∀ i, i ∉ l → (wrH h (l.map fun i => (i, none)))[i]? = h[i]?
  | [], h, _ => ⟨rfl, fun i hi => (by cases hi), fun i _ => rfl⟩
  | i :: l, h, hl => by
    have h1 := hl i (List.mem_cons_self ..)
    simp only [List.map_cons, wrH]
    rw [show Nat.blt i h.length = true by simpa [Nat.blt_eq] using h1]
    obtain ⟨a, b, d⟩ := wrH_none l (h.set i none) (fun k hk => by simpa using hl k (List.mem_cons_of_mem _ hk))
    refine ⟨by simpa using a, fun k hk => ?_, fun k hk => ?_⟩
    · by_cases hm : k ∈ l
      · exact b k hm
      · have : k = i := by simpa [hm] using hk
        subst this
        simp only []
        rw [d _ hm, List.getElem?_set_self h1]
    · simp only [List.mem_cons, not_or] at hk
      simp only []
      rw [d k hk.2, List.getElem?_set_ne (fun e => hk.1 e.symm)]

theorem nodupB_spec : ∀ (l : List Nat), nodupB l = true → l.Nodup
  | [], _ => List.nodup_nil
  | x :: l, h => by
    simp only [nodupB, Bool.and_eq_true, Bool.not_eq_true'] at h
    refine List.nodup_cons.2 ⟨fun hm => ?_, nodupB_spec l h.2⟩
    have := h.1
    rw [List.contains_iff_mem.2 hm] at this
    cases this

/-! ### Other numbers -/

structure Ren (C : Cfg) (cl : Ctx) (c' : Ctx) (φ : Nat → Option Nat) : Prop where
  σ : ∀ (j i : Nat) (loc : Loc), φ j = some i → cl.σ j = some loc → c'.σ i = some loc
  n : ∀ (j i : Nat), φ j = some i → i < c'.n
  I : ∀ k, cl.I k → c'.I k
  H : ∀ k, cl.H k → c'.H k
  free : ∀ e (y : C.E e), (C.enc e y).all AV.free = true

theorem R_renC {cl c' : Ctx} {φ : Nat → Option Nat} (hm : Ren C cl c' φ) {x : AV C.E} {v : Value} (h : R C cl w x v) : R C c' w (renC φ x) v := by
  cases h with
  | bot v => exact .bot v
  | undef => exact .undef
  | int h => exact .int h
  | bool b => exact .bool b
  | str h hm => exact .str h hm
  | nilp => exact .nilp
  | ptr hs hn =>
    simp only [renC]
    split
    · rename_i i hi
      exact .ptr (hm.σ _ _ _ hi hs) (hm.n _ _ hi)
    · exact .bot _
  | ro f h1 h2 _ => exact .bot _
  | nils => exact .nils
  | imm0 hm ha => exact .imm0 hm ha
  | imm f h1 hl h2 hc hr => exact R_free (.imm f h1 hl h2 hc hr) rfl hm.I hm.H hm.free
  | him0 hm ha => exact .him0 hm ha
  | him f h1 h1' hl h2 hc hr => exact R_free (.him f h1 h1' hl h2 hc hr) rfl hm.I hm.H hm.free
  | sl0 hn =>
    simp only [renC]
    split
    · rename_i i hi
      exact .sl0 (hm.n _ _ hi)
    · exact .bot _
  | sl hs hn hl h2 hb hsz =>
    simp only [renC]
    split
    · rename_i i hi
      exact .sl (hm.σ _ _ _ hi hs) (hm.n _ _ hi) hl h2 hb hsz
    · exact .bot _
  | agg hl _ => exact .bot _
  | tup hl _ => exact .bot _
  | fn hl _ => exact .bot _
  | mp hs hn =>
    simp only [renC]
    split
    · rename_i i hi
      exact .mp (hm.σ _ _ _ hi hs) (hm.n _ _ hi)
    · exact .bot _

theorem R_renA {cl c' : Ctx} {φ : Nat → Option Nat} (hm : Ren C cl c' φ) {x : AV C.E} {v : Value} (h : R C cl w x v) : R C c' w (renA φ x) v := by
  by_cases hag : ∃ cs, x = .agg cs
  · obtain ⟨cs, rfl⟩ := hag
    cases h with
    | agg hl hr => exact .agg (by simpa using hl) (fun j hj => by
        simp only [List.getElem_map]
        exact R_renC hm (hr j (by simpa using hj)))
  · by_cases hfn : ∃ f cs, x = .fn f cs
    · obtain ⟨f, cs, rfl⟩ := hfn
      cases h with
      | fn hl hr => exact .fn (by simpa using hl) (fun j hj => by
          simp only [List.getElem_map]
          exact R_renC hm (hr j (by simpa using hj)))
    · by_cases hro : ∃ cs, x = .ro cs
      · obtain ⟨cs, rfl⟩ := hro
        cases h with
        | ro f hI hc hr => exact .ro f (hm.I _ hI) (fun j hj => hc j (by simpa using hj)) (fun j hj => by
            simp only [List.getElem_map]
            exact R_renC hm (hr j (by simpa using hj)))
      · have : renA φ x = renC φ x := by cases x <;> first | rfl | exact (hag ⟨_, rfl⟩).elim | exact (hfn ⟨_, _, rfl⟩).elim | exact (hro ⟨_, rfl⟩).elim
        rw [this]; exact R_renC hm h

theorem R_renV {cl c' : Ctx} {φ : Nat → Option Nat} (hm : Ren C cl c' φ) {x : AV C.E} {v : Value} (h : R C cl w x v) : R C c' w (renV φ x) v := by
  by_cases hag : ∃ cs, x = .tup cs
  · obtain ⟨cs, rfl⟩ := hag
    cases h with
    | tup hl hr => exact .tup (by simpa using hl) (fun j hj => by
        simp only [List.getElem_map]
        exact R_renA hm (hr j (by simpa using hj)))
  · have : renV φ x = renA φ x := by cases x <;> first | rfl | exact (hag ⟨_, rfl⟩).elim
    rw [this]; exact R_renA hm h

theorem ObR_ren {cl c' : Ctx} {φ : Nat → Option Nat} (hm : Ren C cl c' φ) {j i : Nat} (hj : φ j = some i) (h0 : cl.σ j = none → c'.σ i = none) {o o' : Ob C.E} (h : ObR C cl w j o) (ho : renO φ (some o) = some o') : ObR C c' w i o' := by
  cases h with
  | box hs f hc hr =>
    simp only [renO, Option.some.injEq] at ho
    subst ho
    exact .box (by simpa using hm.σ _ _ _ hj hs) f (by simpa using hc) (fun k hk => by
      simp only [List.getElem_map]
      exact R_renC hm (hr k (by simpa using hk)))
  | nowhere hs =>
    simp only [renO, Option.some.injEq] at ho
    subst ho
    exact .nowhere (h0 hs)
  | arr hs f hc hr =>
    simp only [renO, Option.some.injEq] at ho
    subst ho
    exact .arr (hm.σ _ _ _ hj hs) f hc (fun i hi j hj => R_free (hr i hi j hj) (all_get (hm.free _ _) j hj) hm.I hm.H hm.free)
  | mapv hs hk es hb hl hborn hkey hval hkd => cases ho
  | map hs hk he es hb hl hborn hkey hval hkd =>
    simp only [renO, Option.some.injEq] at ho
    subst ho
    exact .map (hm.σ _ _ _ hj hs) hk he es hb hl hborn (fun i hi m h1 => R_mkV (hkey i hi m h1) (hm.free _ _) hm.I hm.H hm.free) (fun i hi m h1 => R_mkV (hval i hi m h1) (hm.free _ _) hm.I hm.H hm.free) hkd

/-! ### Values in which nothing is only read -/

structure Ren0 (C : Cfg) (cl : Ctx) (c' : Ctx) (φ : Nat → Option Nat) : Prop where
  σ : ∀ (j i : Nat) (loc : Loc), φ j = some i → cl.σ j = some loc → c'.σ i = some loc
  n : ∀ (j i : Nat), φ j = some i → i < c'.n
  H : ∀ k, cl.H k → c'.I k ∧ c'.H k
  tight : ∀ e (y : C.E e), (C.enc e y).all AV.tight = true

theorem R_tight {cl c' : Ctx} (hH : ∀ k, cl.H k → c'.I k ∧ c'.H k) (hE : ∀ e (y : C.E e), (C.enc e y).all AV.tight = true) {x : AV C.E} {v : Value} (h : R C cl w x v) (hx : x.tight = true) : R C c' w x v := by
  induction h with
  | int h => exact .int h
  | bool b => exact .bool b
  | str h hm => exact .str h hm
  | nilp => exact .nilp
  | nils => exact .nils
  | him0 hm ha => exact .him0 hm ha
  | him f h1 h1' hl hm hc _ ih => exact .him f (hH _ h1').1 (hH _ h1').2 hl hm hc (fun i hi j hj => ih i hi j hj (all_get (hE _ _) j hj))
  | _ => cases hx

theorem R_mkV_tight {cl c' : Ctx} (hH : ∀ k, cl.H k → c'.I k ∧ c'.H k) (hE : ∀ e (y : C.E e), (C.enc e y).all AV.tight = true) {td : TD} {cs : List (AV C.E)} {v : Value} (h : R C cl w (mkV td cs) v) (hx : cs.all AV.tight = true) : R C c' w (mkV td cs) v := by
  unfold mkV at h ⊢
  cases hd : td.isAgg with
  | true =>
    rw [hd] at h
    cases h with
    | agg hl hr => exact .agg hl (fun j hj => R_tight hH hE (hr j hj) (all_get hx j hj))
  | false =>
    rw [hd] at h
    match cs, hx, h with
    | [x], hx, h => exact R_tight hH hE h (by simpa using hx)
    | [], _, _ => exact .bot _
    | _ :: _ :: _, _, _ => exact .bot _

theorem R_loosC {cl c' : Ctx} {φ : Nat → Option Nat} (hm : Ren0 C cl c' φ) {x : AV C.E} {v : Value} (h : R C cl w x v) (hx : x.loos = true) : R C c' w (renC φ x) v := by
  cases h with
  | bot v => exact .bot v
  | undef => exact .undef
  | int h => exact .int h
  | bool b => exact .bool b
  | str h hm => exact .str h hm
  | nilp => exact .nilp
  | ptr hs hn =>
    simp only [renC]
    split
    · rename_i i hi
      exact .ptr (hm.σ _ _ _ hi hs) (hm.n _ _ hi)
    · exact .bot _
  | nils => exact .nils
  | sl0 hn =>
    simp only [renC]
    split
    · rename_i i hi
      exact .sl0 (hm.n _ _ hi)
    · exact .bot _
  | sl hs hn hl h2 hb hsz =>
    simp only [renC]
    split
    · rename_i i hi
      exact .sl (hm.σ _ _ _ hi hs) (hm.n _ _ hi) hl h2 hb hsz
    · exact .bot _
  | ro f h1 h2 _ => cases hx
  | imm0 hm ha => cases hx
  | imm f h1 hl h2 hc hr => cases hx
  | him0 hm ha => exact .him0 hm ha
  | him f h1 h1' hl h2 hc hr => exact R_tight hm.H hm.tight (.him f h1 h1' hl h2 hc hr) rfl
  | agg hl _ => cases hx
  | tup hl _ => cases hx
  | fn hl _ => cases hx
  | mp hs hn =>
    simp only [renC]
    split
    · rename_i i hi
      exact .mp (hm.σ _ _ _ hi hs) (hm.n _ _ hi)
    · exact .bot _

theorem R_loosA {cl c' : Ctx} {φ : Nat → Option Nat} (hm : Ren0 C cl c' φ) {x : AV C.E} {v : Value} (h : R C cl w x v) (hx : loosA x = true) : R C c' w (renA φ x) v := by
  by_cases hag : ∃ cs, x = .agg cs
  · obtain ⟨cs, rfl⟩ := hag
    cases h with
    | agg hl hr => exact .agg (by simpa using hl) (fun j hj => by
        have hj' : j < cs.length := by simpa using hj
        simp only [List.getElem_map]
        exact R_loosC hm (hr j hj') (all_get hx j hj'))
  · have hp : x.loos = true := by cases x <;> first | exact hx | exact (hag ⟨_, rfl⟩).elim
    have : renA φ x = renC φ x := by cases x <;> first | rfl | cases hp
    rw [this]; exact R_loosC hm h hp

theorem R_loosV {cl c' : Ctx} {φ : Nat → Option Nat} (hm : Ren0 C cl c' φ) {x : AV C.E} {v : Value} (h : R C cl w x v) (hx : loosV x = true) : R C c' w (renV φ x) v := by
  by_cases hag : ∃ cs, x = .tup cs
  · obtain ⟨cs, rfl⟩ := hag
    cases h with
    | tup hl hr => exact .tup (by simpa using hl) (fun j hj => by
        have hj' : j < cs.length := by simpa using hj
        simp only [List.getElem_map]
        exact R_loosA hm (hr j hj') (all_get hx j hj'))
  · have h1 : renV φ x = renA φ x := by cases x <;> first | rfl | exact (hag ⟨_, rfl⟩).elim
    have h2 : loosA x = true := by cases x <;> first | exact hx | exact (hag ⟨_, rfl⟩).elim
    rw [h1]; exact R_loosA hm h h2

theorem ObR_loos {cl c' : Ctx} {φ : Nat → Option Nat} (hm : Ren0 C cl c' φ) {j i : Nat} (hj : φ j = some i) (h0 : cl.σ j = none → c'.σ i = none) {o o' : Ob C.E} (h : ObR C cl w j o) (hx : loosO C (some o) = true) (ho : renO φ (some o) = some o') : ObR C c' w i o' := by
  cases h with
  | box hs f hc hr =>
    simp only [renO, Option.some.injEq] at ho
    subst ho
    exact .box (by simpa using hm.σ _ _ _ hj hs) f (by simpa using hc) (fun k hk => by
      have hk' := hk
      simp only [List.length_map] at hk'
      simp only [List.getElem_map]
      exact R_loosC hm (hr k hk') (all_get hx k hk'))
  | nowhere hs =>
    simp only [renO, Option.some.injEq] at ho
    subst ho
    exact .nowhere (h0 hs)
  | arr hs f hc hr =>
    simp only [renO, Option.some.injEq] at ho
    subst ho
    exact .arr (hm.σ _ _ _ hj hs) f hc (fun i hi j hj => R_tight hm.H hm.tight (hr i hi j hj) (all_get (hm.tight _ _) j hj))
  | mapv hs hk es hb hl hborn hkey hval hkd => cases hx
  | map hs hk he es hb hl hborn hkey hval hkd =>
    simp only [renO, Option.some.injEq] at ho
    subst ho
    exact .map (hm.σ _ _ _ hj hs) hk he es hb hl hborn (fun i hi m h1 => R_mkV_tight hm.H hm.tight (hkey i hi m h1) (hm.tight _ _)) (fun i hi m h1 => R_mkV_tight hm.H hm.tight (hval i hi m h1) (hm.tight _ _)) hkd

theorem softO_ren {E : Nat → Type} {w : World} {b : Nat} {φ : Nat → Option Nat} {o o' : Ob E} (h : SoftO w b o) (ho : renO φ (some o) = some o') : SoftO w b o' := by
  cases o <;> first | (cases ho; done) | (simp only [renO, Option.some.injEq] at ho; subst ho; exact h)

/-! ### Coming back -/

open Classical in
noncomputable def backCtx {E : Nat → Type} (c c2 : Ctx) (h' : Heap E) (m : List Nat) (lent : List Nat) : Ctx :=
  { n := h'.length, σ := fun id => if hx : ∃ j, m[j]? = some id then c2.σ hx.choose else c.σ id, I := fun k => c.I k ∨ (lent = [] ∧ c2.I k) ∨ c2.H k, H := c2.H }

theorem back_in {E : Nat → Type} {c c2 : Ctx} {h' : Heap E} {m lent : List Nat} (hn : m.Nodup) {j i : Nat} (hj : m[j]? = some i) : (backCtx c c2 h' m lent).σ i = c2.σ j := by
  have hx : ∃ j, m[j]? = some i := ⟨j, hj⟩
  have h1 := hx.choose_spec
  have : hx.choose = j := by
    have h2 := lt_of_getElem? h1
    exact (List.getElem?_inj h2 hn).1 (h1.trans hj.symm)
  simp only [backCtx, hx, dite_true, this]

theorem back_out {E : Nat → Type} {c c2 : Ctx} {h' : Heap E} {m lent : List Nat} {i : Nat} (hi : i ∉ m) : (backCtx c c2 h' m lent).σ i = c.σ i := by
  have hx : ¬ ∃ j, m[j]? = some i := fun ⟨j, hj⟩ => hi (List.mem_of_getElem? hj)
  simp only [backCtx, hx, dite_false]

theorem hand_own {h : Heap C.E} {a : Hand C.E} {los : List (Option Loc)} (H : HandOK C c w h a los) {k : Nat} (ho : Own (handC c h a los) a.obs k) : ∃ (j : Nat) (p : Nat × Bool) (o : Ob C.E) (loc : Loc), a.src[j]? = some p ∧ h[p.1]? = some (some o) ∧ c.σ p.1 = some loc ∧ loc.blk = k := by
  obtain ⟨j, o, loc, h1, h2, rfl⟩ := ho
  have hj := lt_of_getElem? h1
  have hlo : los[j]? = some (some loc) := by
    have h3 : (los[j]?).getD none = some loc := h2
    cases hl : los[j]? with
    | none => rw [hl] at h3; cases h3
    | some x => rw [hl] at h3; exact congrArg some h3
  have hsj : a.src[j]? = some (a.src[j]'(by rw [H.l2]; exact hj)) := List.getElem?_eq_getElem _
  obtain ⟨o', ho'⟩ := H.live j _ hsj
  obtain ⟨loc', h4, h5⟩ := H.blk j _ loc hsj hlo
  exact ⟨j, _, o', loc', hsj, ho', h4, h5⟩

theorem hand_HR {h : Heap C.E} (hh : HR C c w h) {a : Hand C.E} {los : List (Option Loc)} (H : HandOK C c w h a los) (hn : (a.src.map (·.1)).Nodup) (hl : ∀ i ∈ a.lent, i ∉ a.src.map (·.1)) : HR C (handC c h a los) w a.obs where
  gl := hh.gl.to (fun _ hk => .inl hk) (fun _ _ => rfl)
  len := rfl
  sn id hid := by
    have : a.obs.length ≤ id := hid
    show (los[id]?).getD none = none
    rw [List.getElem?_eq_none (by have := H.l1; omega)]; rfl
  bnd k hk := by
    rcases hk with hk | ⟨id, _, o, loc, h1, h2, rfl⟩
    · exact hh.bnd k hk
    · exact (hh.soft _ _ _ h1 h2).1.lt
  hI k hk := .inl (hh.hI k hk)
  ob := H.ob
  soft j o loc h1 h2 := by
    obtain ⟨j', p, o', loc', h3, h4, h5, h6⟩ := hand_own H ⟨j, o, loc, h1, h2, rfl⟩
    have := hh.soft _ _ _ h4 h5
    rw [h6] at this
    have hlo : los[j]? = some (some loc) := by
      have h3 : (los[j]?).getD none = some loc := h2
      cases hl : los[j]? with
      | none => rw [hl] at h3; cases h3
      | some x => rw [hl] at h3; exact congrArg some h3
    refine ⟨H.sf j o loc h1 hlo, ?_⟩
    rintro (hk | ⟨id, hm, o2, loc2, k1, k2, k3⟩)
    · exact this.2 hk
    · have hid := hh.inj _ _ _ _ _ _ k1 h4 k2 h5 (k3.trans h6.symm)
      exact hl id hm (List.mem_map.2 ⟨p, List.mem_of_getElem? h3, hid.symm⟩)
  inj i j oi oj li lj h1 h2 h3 h4 h5 := by
    have key : ∀ (i : Nat) (oi : Ob C.E) (li : Loc), a.obs[i]? = some (some oi) → (handC c h a los).σ i = some li → ∃ (p : Nat × Bool) (o : Ob C.E) (loc : Loc), a.src[i]? = some p ∧ h[p.1]? = some (some o) ∧ c.σ p.1 = some loc ∧ loc.blk = li.blk := by
      intro i oi li h1 h2
      have hj := lt_of_getElem? h1
      have hlo : los[i]? = some (some li) := by
        have h3 : (los[i]?).getD none = some li := h2
        cases hl : los[i]? with
        | none => rw [hl] at h3; cases h3
        | some x => rw [hl] at h3; exact congrArg some h3
      have hsj : a.src[i]? = some (a.src[i]'(by rw [H.l2]; exact hj)) := List.getElem?_eq_getElem _
      obtain ⟨o', ho'⟩ := H.live i _ hsj
      obtain ⟨loc', h4, h5⟩ := H.blk i _ li hsj hlo
      exact ⟨_, o', loc', hsj, ho', h4, h5⟩
    obtain ⟨p, o, loc, e1, e2, e3, e4⟩ := key i oi li h1 h3
    obtain ⟨q, o', loc', f1, f2, f3, f4⟩ := key j oj lj h2 h4
    have hpq := hh.inj _ _ _ _ _ _ e2 f2 e3 f3 (e4.trans (h5.trans f4.symm))
    have g1 : (a.src.map (·.1))[i]? = some p.1 := by rw [List.getElem?_map, e1]; rfl
    have g2 : (a.src.map (·.1))[j]? = some p.1 := by rw [List.getElem?_map, f1, hpq]; rfl
    exact (List.getElem?_inj (lt_of_getElem? g1) hn).1 (g1.trans g2.symm)

theorem outMap_wf : ∀ (src : List (Nat × Bool)) (n nid : Nat), (∀ p ∈ src, p.1 < nid) → Wf nid (outMap src n nid)
  | src, 0, nid, _ => by cases src <;> exact trivial
  | [], n + 1, nid, h => .inr ⟨rfl, outMap_wf [] n (nid + 1) (fun p hp => by cases hp)⟩
  | (id, true) :: src, n + 1, nid, h => .inl ⟨h _ (List.mem_cons_self ..), outMap_wf src n nid (fun p hp => h p (List.mem_cons_of_mem _ hp))⟩
  | (id, false) :: src, n + 1, nid, h => .inr ⟨rfl, outMap_wf src n (nid + 1) (fun p hp => Nat.lt_succ_of_lt (h p (List.mem_cons_of_mem _ hp)))⟩

theorem Wf_lt {n : Nat} : ∀ (l : List Nat), (∀ i ∈ l, i < n) → Wf n l
  | [], _ => trivial
  | i :: l, h => .inl ⟨h i (List.mem_cons_self ..), Wf_lt l (fun k hk => h k (List.mem_cons_of_mem _ hk))⟩

theorem R_plainA {c' : Ctx} {w' : World} {φ : Nat → Option Nat} {x : AV C.E} {v : Value} (h : R C c w x v) (hx : plainA x = true) : R C c' w' (renA φ x) v := by
  by_cases hag : ∃ cs, x = .agg cs
  · obtain ⟨cs, rfl⟩ := hag
    cases h with
    | agg hl hr =>
      refine .agg (by simpa using hl) (fun j hj => ?_)
      have hj' : j < cs.length := by simpa using hj
      have hp := all_get hx j hj'
      have : (cs.map (renC φ))[j] = cs[j] := by
        simp only [List.getElem_map]
        cases hc : cs[j] <;> rw [hc] at hp <;> first | rfl | cases hp
      rw [this]
      exact R_plain (hr j hj') hp
  · have hp : x.plain = true := by cases x <;> first | exact hx | exact (hag ⟨_, rfl⟩).elim
    have : renA φ x = x := by cases x <;> first | rfl | cases hp
    rw [this]; exact R_plain h hp

theorem R_plainV {c' : Ctx} {w' : World} {φ : Nat → Option Nat} {x : AV C.E} {v : Value} (h : R C c w x v) (hx : plainV x = true) : R C c' w' (renV φ x) v := by
  by_cases hag : ∃ cs, x = .tup cs
  · obtain ⟨cs, rfl⟩ := hag
    cases h with
    | tup hl hr => exact .tup (by simpa using hl) (fun j hj => by
        have hj' : j < cs.length := by simpa using hj
        simp only [List.getElem_map]
        exact R_plainA (hr j hj') (all_get hx j hj'))
  · have h1 : renV φ x = renA φ x := by cases x <;> first | rfl | exact (hag ⟨_, rfl⟩).elim
    have h2 : plainA x = true := by cases x <;> first | exact hx | exact (hag ⟨_, rfl⟩).elim
    rw [h1]; exact R_plainA h h2

theorem back_ok (hC : CfgOK C) {h : Heap C.E} (hh : HR C c w h) {a : Hand C.E} {los : List (Option Loc)} (H : HandOK C c w h a los) (hn : (a.src.map (·.1)).Nodup)
    {nid : Nat} (hf : Fresh c h nid) {c2 : Ctx} {w2 : World} {obs2 : Heap C.E} {r : AV C.E} {v : Value} (hr : R C c2 w2 r v) (hh2 : HR C c2 w2 obs2) (hle : Le (handC c h a los) a.obs w c2 obs2 w2) (h4 : obs2.length ≤ 8)
    (hpl : a.lent = [] ∨ (loosV r = true ∧ ∀ o ∈ obs2, loosO C o = true)) (rd : List Nat) :
    ∃ c', After C c w h c' w2 ⟨renV (fun j => (outMap a.src obs2.length nid)[j]?) r, a.src.map (fun p => (p.1, none)) ++ (outMap a.src obs2.length nid).zip (obs2.map (renO fun j => (outMap a.src obs2.length nid)[j]?)), rd⟩ v := by
  generalize hm : outMap a.src obs2.length nid = m
  have hml : m.length = obs2.length := by rw [← hm]; exact outMap_len _ _ _
  have hsrc : ∀ p ∈ a.src, ∃ o, h[p.1]? = some (some o) := by
    intro p hp
    obtain ⟨j, hj⟩ := List.getElem?_of_mem hp
    exact H.live j p hj
  have hids : ∀ i ∈ a.src.map (·.1), ∃ o, h[i]? = some (some o) := by
    intro i hi
    obtain ⟨p, hp, rfl⟩ := List.mem_map.1 hi
    exact hsrc p hp
  -- each number of m
  have hmi : ∀ (j i : Nat), m[j]? = some i → (∃ o, a.src[j]? = some (i, true) ∧ h[i]? = some (some o)) ∨ (keptB a.src j = false ∧ nid ≤ i ∧ i < nid + 8 ∧ c.σ i = none ∧ ∀ o, h[i]? ≠ some (some o)) := by
    intro j i hj
    have hjl : j < obs2.length := by rw [← hml]; exact lt_of_getElem? hj
    cases hk : keptB a.src j with
    | true =>
      obtain ⟨id, hid⟩ := keptB_true hk
      have := outMap_kept a.src obs2.length nid j id hjl hid
      rw [hm, hj] at this
      cases this
      obtain ⟨o, ho⟩ := H.live j _ hid
      exact .inl ⟨o, hid, ho⟩
    | false =>
      obtain ⟨i', h1, h2, h3⟩ := outMap_new a.src obs2.length nid j hjl hk
      rw [hm, hj] at h1
      cases h1
      refine .inr ⟨rfl, h2, by omega, ?_⟩
      cases hf with
      | push e =>
        refine ⟨hh.sn i (by rw [← hh.len, ← e]; exact h2), fun o ho => ?_⟩
        have := lt_of_getElem? ho
        omega
      | hole e =>
        obtain ⟨e1, e2⟩ := e (i - nid) (by omega)
        rw [Nat.add_sub_of_le h2] at e1 e2
        exact ⟨e2, fun o ho => by rw [e1] at ho; cases ho⟩
  have hmn : m.Nodup := by
    rw [List.nodup_iff_pairwise_ne, List.pairwise_iff_getElem]
    intro i j hi hj hij heq
    have gi : m[i]? = some m[i] := List.getElem?_eq_getElem _
    have gj : m[j]? = some m[i] := by rw [heq]; exact List.getElem?_eq_getElem _
    rcases hmi i _ gi with ⟨o, a1, a2⟩ | ⟨a1, a2, a3, a4, a5⟩ <;> rcases hmi j _ gj with ⟨o', b1, b2⟩ | ⟨b1, b2, b3, b4, b5⟩
    · have e1 : (a.src.map (·.1))[i]? = some m[i] := by rw [List.getElem?_map, a1]; rfl
      have e2 : (a.src.map (·.1))[j]? = some m[i] := by rw [List.getElem?_map, b1]; rfl
      have := (List.getElem?_inj (lt_of_getElem? e1) hn).1 (e1.trans e2.symm)
      omega
    · exact b5 _ a2
    · exact a5 _ b2
    · have := outMap_lt a.src obs2.length nid i j _ _ hij a1 b1 (by rw [hm]; exact gi) (by rw [hm]; exact gj)
      omega
  obtain ⟨n1, n2, n3⟩ := wrH_none (a.src.map (·.1)) h (fun i hi => by obtain ⟨o, ho⟩ := hids i hi; exact lt_of_getElem? ho)
  have hmm : a.src.map (fun p => (p.1, (none : Option (Ob C.E)))) = (a.src.map (·.1)).map fun i => (i, none) := by rw [List.map_map]; rfl
  have hwf : Wf h.length m := by
    cases hf with
    | push e => rw [← hm, ← e]; exact outMap_wf _ _ _ (fun p hp => by obtain ⟨o, ho⟩ := hsrc p hp; rw [e]; exact lt_of_getElem? ho)
    | hole e => exact Wf_lt _ (fun i hi => by
        obtain ⟨j, hj⟩ := List.getElem?_of_mem hi
        rcases hmi j i hj with ⟨o, _, ho⟩ | ⟨_, a2, a3, _, _⟩
        · exact lt_of_getElem? ho
        · obtain ⟨e1, _⟩ := e (i - nid) (by omega)
          rw [Nat.add_sub_of_le a2] at e1
          exact lt_of_getElem? e1)
  generalize hws : a.src.map (fun p => (p.1, (none : Option (Ob C.E)))) ++ m.zip (obs2.map (renO fun j => m[j]?)) = ws
  have hh' : wrH h ws = wrH (wrH h ((a.src.map (·.1)).map fun i => (i, none))) (m.zip (obs2.map (renO fun j => m[j]?))) := by rw [← hws, wrH_app, hmm]
  obtain ⟨g1, g2⟩ := wrH_zip m (obs2.map (renO fun j => m[j]?)) (wrH h ((a.src.map (·.1)).map fun i => (i, none))) (by rw [n1]; exact hwf) hmn (by rw [hml, List.length_map])
  rw [← hh'] at g1 g2
  have cls : ∀ (i : Nat) (o : Ob C.E), (wrH h ws)[i]? = some (some o) → (∃ (j : Nat) (o2 : Ob C.E), m[j]? = some i ∧ obs2[j]? = some (some o2) ∧ (renO fun j => m[j]?) (some o2) = some o) ∨ (i ∉ m ∧ i ∉ a.src.map (·.1) ∧ h[i]? = some (some o)) := by
    intro i o hi
    by_cases him : i ∈ m
    · obtain ⟨j, hj⟩ := List.getElem?_of_mem him
      rw [g1 j i hj, List.getElem?_map] at hi
      cases ho : obs2[j]? with
      | none => rw [ho] at hi; cases hi
      | some x =>
        rw [ho] at hi
        simp only [Option.map_some, Option.some.injEq] at hi
        cases x with
        | none => simp [renO] at hi
        | some o2 => exact .inl ⟨j, o2, hj, ho, hi⟩
    · rw [g2 i him] at hi
      by_cases his : i ∈ a.src.map (·.1)
      · rw [n2 i his] at hi; cases hi
      · rw [n3 i his] at hi
        exact .inr ⟨him, his, hi⟩
  have sep : ∀ (i : Nat) (o : Ob C.E) (loc : Loc), i ∉ a.src.map (·.1) → h[i]? = some (some o) → c.σ i = some loc → ¬ Own (handC c h a los) a.obs loc.blk := by
    intro i o loc his ho hs hown
    obtain ⟨j, p, o', loc', e1, e2, e3, e4⟩ := hand_own H hown
    have := hh.inj _ _ _ _ _ _ ho e2 hs e3 e4.symm
    subst this
    exact his (List.mem_map.2 ⟨p, List.mem_of_getElem? e1, rfl⟩)
  have nI : ∀ k, c.I k → ¬ Own (handC c h a los) a.obs k := by
    intro k hk hown
    obtain ⟨j, p, o', loc', e1, e2, e3, e4⟩ := hand_own H hown
    have := (hh.soft _ _ _ e2 e3).2
    rw [e4] at this
    exact this hk
  have hlen : c.n ≤ (wrH h ws).length := by rw [← hh.len]; exact wrH_len _ _
  have hσ : ∀ id loc, c.σ id = some loc → (backCtx c c2 (wrH h ws) m a.lent).σ id = some loc := by
    intro id loc hs
    by_cases him : id ∈ m
    · obtain ⟨j, hj⟩ := List.getElem?_of_mem him
      rw [back_in hmn hj]
      rcases hmi j id hj with ⟨o, e1, _⟩ | ⟨_, _, _, e4, _⟩
      · have hk := H.kept j id e1
        rw [hs] at hk
        have h5 : j < a.obs.length := by rw [← H.l2]; exact lt_of_getElem? e1
        exact hle.σ j loc h5 (by show (los[j]?).getD none = some loc; rw [hk]; rfl)
      · rw [hs] at e4; cases e4
    · rw [back_out him]; exact hs
  have hkp : Keeps c w (backCtx c c2 (wrH h ws) m a.lent) w2 :=
    ⟨hlen, fun id loc _ hs => hσ id loc hs, fun k hk => .inl hk, fun k hk => hle.H k hk, fun k hk => hle.frame k (hh.bnd k hk) (nI k hk), hle.shape⟩
  have hmb : ∀ (j i : Nat), m[j]? = some i → i < (wrH h ws).length := by
    intro j i hj
    have h5 := g1 j i hj
    have h6 : j < obs2.length := by rw [← hml]; exact lt_of_getElem? hj
    have h7 : (obs2.map (renO fun j => m[j]?))[j]? = some ((obs2.map (renO fun j => m[j]?))[j]'(by simpa using h6)) := List.getElem?_eq_getElem _
    exact lt_of_getElem? (h5.trans h7)
  have hren : a.lent = [] → Ren C c2 (backCtx c c2 (wrH h ws) m a.lent) (fun j => m[j]?) := fun h0 =>
    ⟨fun j i loc hj hs => by rw [back_in hmn hj]; exact hs, hmb, fun k hk => .inr (.inl ⟨h0, hk⟩), fun k hk => hk, hC.free⟩
  have hlI : a.lent = [] → ∀ k, (handC c h a los).I k → c.I k := by
    rintro h0 k (hk | ⟨id, hid, _⟩)
    · exact hk
    · rw [h0] at hid; cases hid
  have hownh : ∀ k, Own (handC c h a los) a.obs k → Own c h k := by
    intro k ho
    obtain ⟨j, p, o', loc', e1, e2, e3, e4⟩ := hand_own H ho
    exact ⟨_, _, _, e2, e3, e4⟩
  -- a block of an object that was not handed over
  have away : ∀ (i : Nat) (o : Ob C.E) (loc : Loc), i ∉ a.src.map (·.1) → h[i]? = some (some o) → c.σ i = some loc → w2.heap[loc.blk]? = w.heap[loc.blk]? := by
    intro i o loc his ho hs
    exact hle.frame _ (hh.soft _ _ _ ho hs).1.lt (sep i o loc his ho hs)
  have hren0 : Ren0 C c2 (backCtx c c2 (wrH h ws) m a.lent) (fun j => m[j]?) := ⟨fun j i loc hj hs => by rw [back_in hmn hj]; exact hs, hmb, fun k hk => ⟨.inr (.inr hk), hk⟩, hC.tight⟩
  refine ⟨backCtx c c2 (wrH h ws) m a.lent, ?_, ?_, ?_, ?_⟩
  · rcases hpl with h0 | ⟨h0, _⟩
    · exact R_renV (hren h0) hr
    · exact R_loosV hren0 hr h0
  · refine ⟨hh.gl.keep hkp, rfl, ?_, ?_, fun k hk => .inr (.inr hk), ?_, ?_, ?_⟩
    · intro id hid
      have hid' : (wrH h ws).length ≤ id := hid
      have him : id ∉ m := fun hx => by
        obtain ⟨j, hj⟩ := List.getElem?_of_mem hx
        have := hmb j id hj
        omega
      rw [back_out him]
      exact hh.sn id (Nat.le_trans hlen hid')
    · rintro k (hk | ⟨_, hk⟩ | hk)
      · exact Nat.lt_of_lt_of_le (hh.bnd k hk) hle.size
      · exact hh2.bnd k hk
      · exact hh2.bnd k (hh2.hI k hk)
    · intro id o ho
      rcases cls id o ho with ⟨j, o2, e1, e2, e3⟩ | ⟨e1, e2, e3⟩
      · rcases hpl with h0 | ⟨_, h0⟩
        · exact ObR_ren (hren h0) e1 (fun h0 => by rw [back_in hmn e1]; exact h0) (hh2.ob j o2 e2) e3
        · exact ObR_loos hren0 e1 (fun h0 => by rw [back_in hmn e1]; exact h0) (hh2.ob j o2 e2) (h0 _ (List.mem_of_getElem? e2)) e3
      · exact ObR_keep hkp (hh.ob _ _ e3) (by rw [← hh.len]; exact lt_of_getElem? e3) (fun h0 => by rw [back_out e1]; exact h0)
          (fun loc hs => away id o loc e2 e3 hs)
    · intro id o loc ho hs
      rcases cls id o ho with ⟨j, o2, e1, e2, e3⟩ | ⟨e1, e2, e3⟩
      · rw [back_in hmn e1] at hs
        obtain ⟨s1, s2⟩ := hh2.soft _ _ _ e2 hs
        refine ⟨softO_ren s1 e3, ?_⟩
        rintro (hk | ⟨_, hk⟩ | hk)
        · exact s2 (hle.I _ (.inl hk))
        · exact s2 hk
        · exact s2 (hh2.hI _ hk)
      · rw [back_out e1] at hs
        obtain ⟨s1, s3⟩ := hh.soft _ _ _ e3 hs
        have hb := away id o loc e2 e3 hs
        refine ⟨s1.same hb, ?_⟩
        rintro (hk | ⟨h0, hk⟩ | hk)
        · exact s3 hk
        · rcases hle.old _ s1.lt hk with h5 | h5
          · exact s3 (hlI h0 _ h5)
          · exact sep id o loc e2 e3 hs h5
        · rcases hle.oldH _ s1.lt hk with h5 | h5
          · exact s3 (hh.hI _ h5)
          · exact sep id o loc e2 e3 hs h5
    · intro i j oi oj li lj h1 h2 h3 h5 h6
      have mixed : ∀ (i j : Nat) (oi oj : Ob C.E) (li lj : Loc), (∃ (j' : Nat) (o2 : Ob C.E), m[j']? = some i ∧ obs2[j']? = some (some o2) ∧ (renO fun j => m[j]?) (some o2) = some oi) → (j ∉ m ∧ j ∉ a.src.map (·.1) ∧ h[j]? = some (some oj)) →
          (backCtx c c2 (wrH h ws) m a.lent).σ i = some li → (backCtx c c2 (wrH h ws) m a.lent).σ j = some lj → li.blk = lj.blk → False := by
        rintro i j oi oj li lj ⟨k, o2, e1, e2, e3⟩ ⟨f1, f2, f3⟩ s1 s2 s3
        rw [back_in hmn e1] at s1
        rw [back_out f1] at s2
        have := hle.own lj.blk (hh.soft _ _ _ f3 s2).1.lt ⟨_, _, _, e2, s1, s3⟩
        exact sep j oj lj f2 f3 s2 this
      rcases cls i oi h1 with A | A <;> rcases cls j oj h2 with B | B
      · obtain ⟨k, o2, e1, e2, e3⟩ := A
        obtain ⟨k', o2', f1, f2, f3⟩ := B
        rw [back_in hmn e1] at h3
        rw [back_in hmn f1] at h5
        have := hh2.inj _ _ _ _ _ _ e2 f2 h3 h5 h6
        subst this
        rw [e1] at f1; exact Option.some.inj f1
      · exact (mixed i j oi oj li lj A B h3 h5 h6).elim
      · exact (mixed j i oj oi lj li B A h5 h3 h6.symm).elim
      · rw [back_out A.1] at h3
        rw [back_out B.1] at h5
        exact hh.inj _ _ _ _ _ _ A.2.2 B.2.2 h3 h5 h6
  · refine ⟨hlen, fun id loc _ hs => hσ id loc hs, fun k hk => .inl hk, fun k hk => hle.H k hk, ?_, ?_, ?_, hle.size, hle.os, hle.tape, hle.output, ?_, hle.shape⟩
    · rintro k hk (h0 | ⟨h0, h1⟩ | h1)
      · exact .inl h0
      · rcases hle.old k hk h1 with h5 | h5
        · exact .inl (hlI h0 _ h5)
        · exact .inr (hownh k h5)
      · rcases hle.oldH k hk h1 with h5 | h5
        · exact .inl (hh.hI _ h5)
        · exact .inr (hownh k h5)
    · intro k hk h1
      rcases hle.oldH k hk h1 with h5 | h5
      · exact .inl h5
      · exact .inr (hownh k h5)
    · rintro k hk ⟨id, o, loc, ho, hs, rfl⟩
      rcases cls id o ho with ⟨j, o2, e1, e2, e3⟩ | ⟨e1, e2, e3⟩
      · rw [back_in hmn e1] at hs
        exact hownh _ (hle.own _ hk ⟨_, _, _, e2, hs, rfl⟩)
      · rw [back_out e1] at hs
        exact ⟨_, _, _, e3, hs, rfl⟩
    · intro k hk hno
      exact hle.frame k hk (fun ho => hno (hownh k ho))
  · intro id hid
    by_cases him : id ∈ m
    · obtain ⟨j, hj⟩ := List.getElem?_of_mem him
      have h6 : j < obs2.length := by rw [← hml]; exact lt_of_getElem? hj
      simp only []
      rw [← hws, List.map_append]
      refine List.mem_append_right _ ?_
      rw [List.map_fst_zip (by rw [hml, List.length_map]; exact Nat.le_refl _)]
      exact him
    · exact (hid (back_out him)).elim

theorem call_ok {Γ : FuncId → Option (CF C)} (hS : Sys C Γ) {f : FuncId} {g : CF C} (hg : CFOK C f g) {Z : Type} {h : Heap C.E} {args : List (AV C.E)} {vs : Array Value} {nid : Nat} {K : Eff C.E → Option Z} {z : Z}
    (hk : callK C g args (lookH h) nid K = some z) (hh : HR C c w h) (hf : Fresh c h nid) (hl : args.length = vs.size) (hr : ∀ j (_ : j < args.length), R C c w args[j] (vs.getD j undef)) :
    Does C f vs w fun e w' => ∃ v eff c', e = .returned v ∧ K eff = some z ∧ After C c w h c' w' eff v := by
  unfold callK at hk
  have H0 : HandOK C c w h ⟨[], [], []⟩ [] := ⟨rfl, rfl, fun j p hj => by simp at hj, fun j p loc hj => by simp at hj, fun j id hj => by simp at hj, fun j o hj => by simp at hj, fun j x hj => by simp at hj, fun j o loc hj => by simp at hj⟩
  obtain ⟨hd, los, loc, h1, h2, _, h4, h5⟩ := handArgs_ok hh hS.cfg g.modes args H0 (fun j => vs.getD j undef) hr hk
  split at h1
  · rename_i hb
    obtain ⟨hb1, hb2⟩ := and_split hb
    have hnd := nodupB_spec _ hb1
    have hle : ∀ i ∈ hd.lent, i ∉ hd.src.map (·.1) := by
      intro i hi hm
      have := List.all_eq_true.1 hb2 i hi
      rw [List.contains_iff_mem.2 hm] at this
      cases this
    refine Does.mono (hg.run _ w hd.obs loc vs _ z h1 (hand_HR hh h2 hnd hle) (h4.trans hl) h5) ?_
    rintro e w' ⟨v, r, h', c', rfl, k1, k2, k3, k4⟩
    split at k1
    · rename_i hb3
      obtain ⟨hb3, hb4⟩ := and_split hb3
      have hpl : hd.lent = [] ∨ (loosV r = true ∧ ∀ o ∈ h', loosO C o = true) := by
        simp only [Bool.or_eq_true, Bool.and_eq_true, List.isEmpty_iff, List.all_eq_true] at hb4
        exact hb4
      obtain ⟨c3, hA⟩ := back_ok hS.cfg hh h2 hnd hf k2 k3 k4 (Nat.le_of_ble_eq_true hb3) hpl (hd.lent ++ hd.src.map (·.1))
      exact ⟨v, _, c3, rfl, k1, hA⟩
    · cases k1
  · cases h1

/-- An operation of the code: every way. -/
theorem op_ok {Γ : FuncId → Option (CF C)} (hS : Sys C Γ) {Z : Type} {K : Eff C.E → Option Z} {z : Z} {o : Oper} {ρ : Operand → AV C.E} {a : Act} {h : Heap C.E} {nid : Nat}
    (hk : opK C Γ o.op ρ (lookH h) nid K = some z) (hh : HR C c w h) (hf : Fresh c h nid) (hρ : ∀ x, R C c w (ρ x) (a.eval x)) {next : Act → World → Prop} {Q : Exit → Act → World → Prop}
    (hnext : ∀ v e c' w', K e = some z → After C c w h c' w' e v → next (a.put o.dst v) w') : o.wp C.P a w next Q := by
  by_cases hc : ∃ x args tys, o.op = .call ⟨.value x, args, tys⟩
  · obtain ⟨x, args, tys, ho⟩ := hc
    rw [ho] at hk
    simp only [opK] at hk
    split at hk
    · rename_i f caps hx
      split at hk
      · rename_i g hg
        have hgo := hS.gam f g hg
        have hxr := hρ x
        rw [hx] at hxr
        generalize hvx : a.eval x = vx at hxr
        cases hxr with
        | fn hcl hcr =>
          rename_i cvs
          have hl : (args.toList.map ρ ++ caps).length = (args.map a.eval ++ cvs).size := by simp [hcl]
          have hr : ∀ j (_ : j < (args.toList.map ρ ++ caps).length), R C c w (args.toList.map ρ ++ caps)[j] ((args.map a.eval ++ cvs).getD j undef) := by
            intro j hj
            by_cases hja : j < args.size
            · rw [List.getElem_append_left (by simpa using hja)]
              simp only [List.getElem_map, Array.getElem_toList]
              have : (args.map a.eval ++ cvs).getD j undef = a.eval args[j] := by
                rw [Array.getD_eq_getD_getElem?, Array.getElem?_append_left (by simpa using hja)]
                simp [hja]
              rw [this]; exact hρ _
            · have hj2 : j - args.size < caps.length := by simp at hj; omega
              rw [List.getElem_append_right (by simp; omega)]
              have : (args.map a.eval ++ cvs).getD j undef = cvs.getD (j - args.size) undef := by
                rw [Array.getD_eq_getD_getElem?, Array.getElem?_append_right (by simp; omega), Array.getD_eq_getD_getElem?]
                simp
              rw [this]
              have := hcr (j - args.size) hj2
              simpa using this
          have hcall := call_ok hS hgo hk hh hf hl hr
          unfold Oper.wp
          rcases hcall with ⟨fn, f1, f2, f3, hcall⟩ | ⟨v, w', hx1, v', eff, c', hx2, k1, k2⟩
          rotate_left
          · cases hx2
            have hrun : (execOp a.eval o).run C.P w = .ok (.value v) w' := by
              simpa [execOp, ho, resolve, invoke, hvx, Deferred.ofValue] using hx1
            rw [hrun, Oper.upon_value]
            exact hnext _ _ _ _ k1 k2
          have hrun : (execOp a.eval o).run C.P w = .ok (.enter f (args.map a.eval ++ cvs)) w := by
            have f2' : ¬ fn.name = "runtime.NumGoroutine" := by simpa using f2
            have f3' : ¬ fn.body = none := fun hb => by rw [hb] at f3; cases f3
            simp [execOp, ho, resolve, invoke, callFunc, hvx, Deferred.ofValue, f1, f2', f3']
          rw [hrun, Oper.upon_enter]
          refine Calls.mono hcall ?_
          rintro e w' ⟨v, eff, c', rfl, k1, k2⟩
          exact hnext _ _ _ _ k1 k2
      · cases hk
    · cases hk
  · obtain ⟨nx, v, e, c', w', h1, h2, h3, h4⟩ := opV_ok hS hk (fun x ca hca hcal => hc ⟨x, ca.args, ca.argTypes, by rw [hca, ← hcal]⟩) hh hf hρ
    unfold Oper.wp
    rw [h1]
    rcases h2 with rfl | ⟨rfl, rfl⟩
    · rw [Oper.upon_value]; exact hnext _ _ _ _ h3 h4
    · rw [Oper.upon_skip]; exact hnext _ _ _ _ h3 h4

end
end Go.AE
