/-
  AE, part 8: codes whose regions keep the order of the text.
-/
import Derived.Test.YtadnppefidjhfaaGreatAeK
namespace Go.AE
open Go.RowKit

section
variable {C : Cfg} {c : Ctx} {w : World}

theorem getD_set {α : Type} (l : List α) (d i : Nat) (x y : α) : (l.set d x).getD i y = if d = i ∧ i < l.length then x else l.getD i y := by
  simp only [List.getD_eq_getElem?_getD, List.getElem?_set]
  by_cases h : d = i
  · subst h
    by_cases h2 : d < l.length
    · simp [h2]
    · simp [h2]
  · simp [h]

theorem set_same {E : Nat → Type} {l : List (AV E)} {d : Nat} {b : Bool} (h : l.getD d .undef = .bool b) : l.set d (.bool b) = l := by
  have hlt : d < l.length := by
    rcases Nat.lt_or_ge d l.length with h1 | h1
    · exact h1
    · rw [List.getD_eq_getElem?_getD, List.getElem?_eq_none h1] at h; cases h
  apply List.ext_getElem?
  intro i
  rw [List.getElem?_set]
  by_cases h1 : d = i
  · subst h1
    rw [List.getD_eq_getElem?_getD, List.getElem?_eq_getElem hlt] at h
    simp only [Option.getD_some] at h
    simp [hlt, h]
  · simp [h1]

/-- The outcome of a guard. -/
def guardV {E : Nat → Type} (all : List Oper) (o : Oper) (st : St E) : Option Bool :=
  match o.guard with
  | none => some true
  | some (j, want) => match all[j]? with
    | some { dst := some d, .. } => match st.t.getD d .undef with
      | .bool b => some (b == want)
      | .undef => some false
      | _ => none
    | _ => none

theorem guardK_some {Z : Type} {E : Nat → Type} {all : List Oper} {o : Oper} {st : St E} {yes no : St E → Option Z} {z : Z} (h : guardK all o st yes no = some z) :
    (guardV all o st = some true ∧ yes st = some z) ∨ (guardV all o st = some false ∧ no st = some z) := by
  unfold guardK at h
  unfold guardV
  split at h
  · rename_i hg
    exact .inl ⟨by simp only [hg], h⟩
  · rename_i j want hg
    split at h
    · rename_i d op ty pos aft gd ha
      split at h
      · rename_i b hb
        have hst : ∀ t, t = b → ({ st with t := st.t.set d (.bool t) } : St E) = st := fun t ht => by subst ht; rw [set_same hb]
        cases want <;> cases b <;> simp only [cond_true, cond_false] at h
        · rw [hst _ rfl] at h; exact .inl ⟨by simp only [hg, ha, hb]; rfl, h⟩
        · rw [hst _ rfl] at h; exact .inr ⟨by simp only [hg, ha, hb]; rfl, h⟩
        · rw [hst _ rfl] at h; exact .inr ⟨by simp only [hg, ha, hb]; rfl, h⟩
        · rw [hst _ rfl] at h; exact .inl ⟨by simp only [hg, ha, hb]; rfl, h⟩
      · rename_i hb
        exact .inr ⟨by simp only [hg, ha, hb], h⟩
      · cases h
    · cases h

theorem guardK_eq {Z : Type} {E : Nat → Type} {all : List Oper} {o : Oper} {st : St E} {yes no : St E → Option Z} {t : Bool} (h : guardV all o st = some t) : guardK all o st yes no = cond t (yes st) (no st) := by
  unfold guardV at h
  unfold guardK
  split at h
  · rename_i hg
    cases h; simp only [hg, cond_true]
  · rename_i j want hg
    split at h
    · rename_i d op ty pos aft gd ha
      split at h
      · rename_i b hb
        have hst : ∀ t, t = b → ({ st with t := st.t.set d (.bool t) } : St E) = st := fun t ht => by subst ht; rw [set_same hb]
        cases h
        cases want <;> cases b <;> simp only [hg, ha, hb] <;> simp [hst]
      · rename_i hb
        cases h
        simp only [hg, ha, hb, cond_false]
      · cases h
    · cases h

theorem wanted_of {ops : Array Oper} {o : Oper} {st : St C.E} {a : Act} {t : Bool} (hr : Rep C c w st a) (h : guardV ops.toList o st = some t) : Region.wanted o (yielded ops a.tmps) = t := by
  unfold guardV at h
  unfold Region.wanted
  split at h
  · rename_i hg; cases h; simp [hg]
  · rename_i j want hg
    simp only [hg]
    split at h
    · rename_i d op ty pos aft gd ha
      have ha' : ops[j]? = some ⟨some d, op, ty, pos, aft, gd⟩ := by rw [← Array.getElem?_toList]; exact ha
      have hs := hr.slot d
      unfold yielded
      simp only [ha', Option.bind_some]
      split at h
      · rename_i b hb
        rw [hb] at hs
        generalize hv : a.tmps.getD d undef = v at hs
        cases hs
        have : a.tmps[d]? = some (.bool b) := by
          rw [Array.getD_eq_getD_getElem?] at hv
          cases hx : a.tmps[d]? with
          | none => rw [hx] at hv; cases hv
          | some x => rw [hx] at hv; exact congrArg some hv
        rw [this]
        cases h
        cases b <;> cases want <;> rfl
      · rename_i hb
        rw [hb] at hs
        generalize hv : a.tmps.getD d undef = v at hs
        cases hs
        cases h
        cases hx : a.tmps[d]? with
        | none => rfl
        | some x =>
          rw [Array.getD_eq_getD_getElem?, hx] at hv
          simp only [Option.getD_some] at hv
          subst hv
          rfl
      · cases h
    · cases h

theorem Rep.put {st : St C.E} {a : Act} (hr : Rep C c w st a) (dst : Option Tmp) {c' : Ctx} {w' : World} {h' : Heap C.E} {x : AV C.E} {v : Value} (hk : Keeps c w c' w') (hh : HR C c' w' h') (hx : R C c' w' x v) :
    Rep C c' w' { t := (st.put dst x).t, h := h' } (a.put dst v) := by
  cases dst with
  | none => exact ⟨hr.defers, hr.size, fun i => (hr.slot i).keep hk, hh⟩
  | some d =>
    refine ⟨hr.defers, ?_, fun i => ?_, hh⟩
    · simp only [Act.put, St.put, Array.size_setIfInBounds, List.length_set]; exact hr.size
    · simp only [Act.put, St.put]
      rw [getD_set]
      have e1 : (a.tmps.setIfInBounds d v).getD i undef = if d = i ∧ i < a.tmps.size then v else a.tmps.getD i undef := by
        rw [Array.getD_eq_getD_getElem?, Array.getD_eq_getD_getElem?, Array.getElem?_setIfInBounds]
        by_cases h1 : d = i
        · subst h1
          by_cases h2 : d < a.tmps.size
          · simp [h2]
          · simp [h2]
        · simp [h1]
      rw [e1, hr.size]
      split
      · exact hx
      · exact (hr.slot i).keep hk

theorem put_h {E : Nat → Type} (st : St E) (dst : Option Tmp) (x : AV E) : (st.put dst x).h = st.h := by cases dst <;> rfl

theorem Rep.pass {st : St C.E} {a : Act} (hr : Rep C c w st a) (dst : Option Tmp) : Rep C c w (st.put dst .undef) (a.put dst undef) := by
  have := hr.put dst ((Le.refl c st.h w).keeps hr.heap) hr.heap (x := .undef) (v := undef) .undef
  have e : st.put dst .undef = { t := (st.put dst .undef).t, h := st.h } := by cases dst <;> rfl
  rw [e]; exact this

/-- A world goes over into another, as a caller sees it that has handed over k objects. -/
structure LeK {E : Nat → Type} (k : Nat) (c : Ctx) (h : Heap E) (w : World) (c' : Ctx) (h' : Heap E) (w' : World) : Prop where
  n : k ≤ c'.n
  σ : ∀ id loc, id < k → c.σ id = some loc → c'.σ id = some loc
  I : ∀ k, c.I k → c'.I k
  H : ∀ k, c.H k → c'.H k
  old : ∀ k, k < w.heap.size → c'.I k → c.I k ∨ Own c h k
  oldH : ∀ k, k < w.heap.size → c'.H k → c.H k ∨ Own c h k
  own : ∀ k, k < w.heap.size → Own c' h' k → Own c h k
  size : w.heap.size ≤ w'.heap.size
  os : w'.os = w.os
  tape : w'.tape = w.tape
  output : w'.output = w.output
  frame : ∀ k, k < w.heap.size → ¬ Own c h k → w'.heap[k]? = w.heap[k]?
  shape : ∀ (k : Nat) (cs : Array Value) (e : TypeId) (fr : Nat × Nat), w.heap[k]? = some (Obj.cells cs e fr) → ∃ cs' fr', w'.heap[k]? = some (Obj.cells cs' e fr') ∧ cs'.size = cs.size

theorem Le.toK {E : Nat → Type} {k : Nat} {c c' : Ctx} {h h' : Heap E} {w w' : World} (l : Le c h w c' h' w') (hk : k ≤ c.n) : LeK k c h w c' h' w' :=
  ⟨Nat.le_trans hk l.n, fun id loc hid hs => l.σ id loc (Nat.lt_of_lt_of_le hid hk) hs, l.I, l.H, l.old, l.oldH, l.own, l.size, l.os, l.tape, l.output, l.frame, l.shape⟩

theorem LeK.trans {E : Nat → Type} {k : Nat} {c c1 c2 : Ctx} {h h1 h2 : Heap E} {w w1 w2 : World} (a : LeK k c h w c1 h1 w1) (b : LeK k c1 h1 w1 c2 h2 w2) : LeK k c h w c2 h2 w2 where
  n := b.n
  σ id loc hn hs := b.σ id loc hn (a.σ id loc hn hs)
  I k hk := b.I k (a.I k hk)
  H k hk := b.H k (a.H k hk)
  old k hk hI := by
    rcases b.old k (Nat.lt_of_lt_of_le hk a.size) hI with h | h
    · exact a.old k hk h
    · exact .inr (a.own k hk h)
  oldH k hk hI := by
    rcases b.oldH k (Nat.lt_of_lt_of_le hk a.size) hI with h | h
    · exact a.oldH k hk h
    · exact .inr (a.own k hk h)
  own k hk ho := a.own k hk (b.own k (Nat.lt_of_lt_of_le hk a.size) ho)
  size := Nat.le_trans a.size b.size
  os := b.os.trans a.os
  tape := b.tape.trans a.tape
  output := b.output.trans a.output
  frame k hk ho := (b.frame k (Nat.lt_of_lt_of_le hk a.size) (fun h => ho (a.own k hk h))).trans (a.frame k hk ho)
  shape k cs e fr hk := by
    obtain ⟨cs1, fr1, h1, e1⟩ := a.shape k cs e fr hk
    obtain ⟨cs2, fr2, h2, e2⟩ := b.shape k cs1 e fr1 h1
    exact ⟨cs2, fr2, h2, e2.trans e1⟩

/-- What a code leaves, in a function that was handed k objects. -/
def Snd (C : Cfg) (k : Nat) (code : Code) (F : {Z : Type} → St C.E → (Exit → St C.E → Option Z) → Option Z) : Prop :=
  ∀ {Z : Type} (K : Exit → St C.E → Option Z) (z : Z) (st : St C.E) (a : Act) (c : Ctx) (w : World), F st K = some z → Rep C c w st a → k ≤ c.n →
    ∀ Q : Exit → Act → World → Prop, (∀ e st' a' c' w', K e st' = some z → Rep C c' w' st' a' → LeK k c st.h w c' st'.h w' → Q e a' w') → code.wp C.P Q a w

theorem opsK_ok {Γ : FuncId → Option (CF C)} (hS : Sys C Γ) (ops : Array Oper) : ∀ (rest : List Oper) (i : Nat), ops.toList.drop i = rest →
    ∀ {Z : Type} (K : St C.E → Option Z) (z : Z) (st : St C.E) (a : Act) (c : Ctx) (w : World), opsK C Γ ops.toList rest st K = some z → Rep C c w st a →
    ∀ Q : Exit → Act → World → Prop, (∀ st' a' c' w', K st' = some z → Rep C c' w' st' a' → Le c st.h w c' st'.h w' → Q .normal a' w') →
      wpOps C.P ops Q (List.range' i rest.length) a w
  | [], i, _, Z, K, z, st, a, c, w, hk, hr, Q, hq => by
    simp only [opsK] at hk
    simp only [List.length_nil, List.range'_zero, wpOps]
    exact hq _ _ _ _ hk hr (Le.refl _ _ _)
  | o :: rest, i, hd, Z, K, z, st, a, c, w, hk, hr, Q, hq => by
    have ho : ops[i]? = some o := by
      rw [← Array.getElem?_toList]
      have := congrArg (fun l => l[0]?) hd
      simpa using this
    have hd2 : ops.toList.drop (i + 1) = rest := by
      rw [← List.drop_drop, hd]; rfl
    simp only [opsK] at hk
    simp only [List.length_cons, List.range'_succ, wpOps, ho]
    rcases guardK_some hk with ⟨hg, hk⟩ | ⟨hg, hk⟩
    · rw [wanted_of hr hg, if_pos rfl]
      refine .inl (op_ok hS hk hr.heap (.push rfl) (fun x => hr.eval x) ?_)
      intro v e c' w' hk2 hA
      have hkp := hA.le.keeps hr.heap
      exact opsK_ok hS ops rest (i + 1) hd2 K z _ _ c' w' hk2 (hr.put o.dst hkp hA.heap hA.val) Q (fun st' a' c2 w2 h1 h2 h3 => hq _ _ _ _ h1 h2 (hA.le.trans h3))
    · rw [wanted_of hr hg]
      exact opsK_ok hS ops rest (i + 1) hd2 K z _ _ c w hk (hr.pass o.dst) Q (fun st' a' c2 w2 h1 h2 h3 => hq _ _ _ _ h1 h2 (by rw [put_h] at h3; exact h3))

end
end Go.AE
