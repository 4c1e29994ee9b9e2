/-
  AE, part 4: the operations that make and write memory are sound.
-/
import Derived.Test.YtadnppefidjhfaaGreatAeP
import Derived.Laws.BytesArg
import Derived.Great.BuildSlice
namespace Go.AE
open Go.RowKit

section
variable {C : Cfg} {c : Ctx} {w : World}

/-- What an operation leaves. -/
structure After (C : Cfg) (c : Ctx) (w : World) (h : Heap C.E) (c' : Ctx) (w' : World) (e : Eff C.E) (v : Value) : Prop where
  val : R C c' w' e.v v
  heap : HR C c' w' (wrH h e.wr)
  le : Le c h w c' (wrH h e.wr) w'
  sig : ∀ id, c'.σ id ≠ c.σ id → id ∈ e.wr.map (·.1)

theorem After.quiet {h : Heap C.E} (hh : HR C c w h) {e : Eff C.E} {v : Value} (hr : R C c w e.v v) (hw : e.wr = []) : After C c w h c w e v := by
  refine ⟨hr, ?_, ?_, fun _ h => (h rfl).elim⟩ <;> rw [hw] <;> simp only [wrH]
  · exact hh
  · exact Le.refl _ _ _

theorem R_oneCell {x : AV C.E} {v : Value} (h : R C c w x v) (hx : x.isCell = true) : v.oneCell' = true := by
  cases h <;> first | rfl | (simp [AV.isCell] at hx)

theorem R_cells_len {x : AV C.E} {v : Value} (h : R C c w x v) (hb : x ≠ .bot) (hu : x ≠ .undef) (ht : ∀ l, x ≠ .tup l) : x.cells.length = v.cells.size := by
  cases h with
  | bot => exact (hb rfl).elim
  | undef => exact (hu rfl).elim
  | agg hl hr => exact hl
  | tup hl hr => exact (ht _ rfl).elim
  | _ => rfl

theorem R_cells_get {x : AV C.E} {v : Value} (h : R C c w x v) (hb : x ≠ .bot) (hu : x ≠ .undef) (ht : ∀ l, x ≠ .tup l) (j : Nat) (hj : j < x.cells.length) : R C c w x.cells[j] (v.cells.getD j undef) := by
  cases h with
  | bot => exact (hb rfl).elim
  | undef => exact (hu rfl).elim
  | agg hl hr => exact hr j hj
  | tup hl hr => exact (ht _ rfl).elim
  | int h' => obtain rfl : j = 0 := by simp [AV.cells] at hj; exact hj
              exact .int h'
  | bool b => obtain rfl : j = 0 := by simp [AV.cells] at hj; exact hj
              exact .bool b
  | str h1 h2 => obtain rfl : j = 0 := by simp [AV.cells] at hj; exact hj
                 exact .str h1 h2
  | nilp => obtain rfl : j = 0 := by simp [AV.cells] at hj; exact hj
            exact .nilp
  | ptr h1 h2 => obtain rfl : j = 0 := by simp [AV.cells] at hj; exact hj
                 exact .ptr h1 h2
  | ro f h1 h2 h3 => obtain rfl : j = 0 := by simp [AV.cells] at hj; exact hj
                     exact .ro f h1 h2 h3
  | nils => obtain rfl : j = 0 := by simp [AV.cells] at hj; exact hj
            exact .nils
  | imm0 h1 h2 => obtain rfl : j = 0 := by simp [AV.cells] at hj; exact hj
                  exact .imm0 h1 h2
  | imm f h1 h2 h3 h4 h5 => obtain rfl : j = 0 := by simp [AV.cells] at hj; exact hj
                            exact .imm f h1 h2 h3 h4 h5
  | him0 h1 h2 => obtain rfl : j = 0 := by simp [AV.cells] at hj; exact hj
                  exact .him0 h1 h2
  | him f h1 h1' h2 h3 h4 h5 => obtain rfl : j = 0 := by simp [AV.cells] at hj; exact hj
                                exact .him f h1 h1' h2 h3 h4 h5
  | sl0 h1 => obtain rfl : j = 0 := by simp [AV.cells] at hj; exact hj
              exact .sl0 h1
  | sl h1 h2 h3 h4 h5 h6 => obtain rfl : j = 0 := by simp [AV.cells] at hj; exact hj
                            exact .sl h1 h2 h3 h4 h5 h6
  | fn h1 h2 => obtain rfl : j = 0 := by simp [AV.cells] at hj; exact hj
                exact .fn h1 h2
  | mp h1 h2 => obtain rfl : j = 0 := by simp [AV.cells] at hj; exact hj
                exact .mp h1 h2

/-! ### Giving an object up -/

def dropC (c : Ctx) (b : Nat) : Ctx := { c with I := fun k => c.I k ∨ k = b, H := fun k => c.H k ∨ k = b }

theorem keeps_drop (b : Nat) : Keeps c w (dropC c b) w :=
  ⟨Nat.le_refl _, fun _ _ _ h => h, fun _ h => .inl h, fun _ h => .inl h, fun _ _ => rfl, fun _ cs _ fr h => ⟨cs, fr, h, rfl⟩⟩

theorem ObR_keepM {c' : Ctx} {w' : World} {id : Nat} {o : Ob C.E} (hk : Keeps c w c' w') (h : ObR C c w id o) (hn : id < c.n) (hs0 : c.σ id = none → c'.σ id = none)
    (hb : ∀ loc, c.σ id = some loc → ∀ off, w'.cell? ⟨loc.blk, off, none⟩ = w.cell? ⟨loc.blk, off, none⟩) (hm : ∀ loc es n, c.σ id = some loc → w.heap[loc.blk]? = some (.map es n) → w'.heap[loc.blk]? = some (.map es n)) : ObR C c' w' id o := by
  cases h with
  | box hs f hc hr => exact .box (hk.σ _ _ hn hs) f (fun j hj => (hb _ hs j).trans (hc j hj)) (fun j hj => (hr j hj).keep hk)
  | nowhere hs => exact .nowhere (hs0 hs)
  | arr hs f hc hr => exact .arr (hk.σ _ _ hn hs) f (fun i j hi hj => (hb _ hs _).trans (hc i j hi hj)) (fun i hi j hj => (hr i hi j hj).keep hk)
  | map hs hk1 he es hmp hl hborn hkey hval hkd => exact .map (hk.σ _ _ hn hs) hk1 he es (hm _ _ _ hs hmp) hl hborn (fun i hi m hm => (hkey i hi m hm).keep hk) (fun i hi m hm => (hval i hi m hm).keep hk) hkd
  | mapv hs hk1 es hmp hl hborn hkey hval hkd => exact .mapv (hk.σ _ _ hn hs) hk1 es (hm _ _ _ hs hmp) hl hborn (fun i hi m hm => (hkey i hi m hm).keep hk) (fun i hi m hm => (hval i hi m hm).keep hk) hkd
theorem ObR_keep {c' : Ctx} {w' : World} {id : Nat} {o : Ob C.E} (hk : Keeps c w c' w') (h : ObR C c w id o) (hn : id < c.n) (hs0 : c.σ id = none → c'.σ id = none)
    (hb : ∀ loc, c.σ id = some loc → w'.heap[loc.blk]? = w.heap[loc.blk]?) : ObR C c' w' id o :=
  ObR_keepM hk h hn hs0 (fun loc hs _ => World.cell?_of_block (hb loc hs)) (fun loc _ _ hs hm => (hb loc hs).trans hm)

theorem softO_soft {w : World} {b : Nat} {o : Ob C.E} {cs : Array Value} {e : TypeId} {fr : Nat × Nat} (h : SoftO w b o) (hg : w.heap[b]? = some (.cells cs e fr)) : Soft w b := by
  cases o with
  | map k e xs =>
    obtain ⟨es, n, h⟩ := h
    rw [hg] at h
    cases h
  | mapv k e xs =>
    obtain ⟨es, n, h⟩ := h
    rw [hg] at h
    cases h
  | box cs => exact h
  | arr e xs => exact h
theorem softO_of {w : World} {id : Nat} {loc : Loc} {o : Ob C.E} (ho : ObR C c w id o) (hs : c.σ id = some loc) (h : Soft w loc.blk) : SoftO w loc.blk o := by
  cases ho with
  | map hs' hk1 he es hmp hl hborn hkey hval hkd =>
    rw [hs'] at hs
    cases hs
    exact ⟨_, _, hmp⟩
  | mapv hs' hk1 es hmp hl hborn hkey hval hkd =>
    rw [hs'] at hs
    cases hs
    exact ⟨_, _, hmp⟩
  | box hs' f hc hr => exact h
  | nowhere hs' => exact h
  | arr hs' f hc hr => exact h

theorem lt_of_getElem? {α : Type} {l : List α} {i : Nat} {x : α} (h : l[i]? = some x) : i < l.length := (List.getElem?_eq_some_iff.1 h).1

theorem drop_obj {h : Heap C.E} (hh : HR C c w h) {id : Nat} {o : Ob C.E} {loc : Loc} (ho : h[id]? = some (some o)) (hs : c.σ id = some loc) :
    HR C (dropC c loc.blk) w (h.set id none) ∧ Le c h w (dropC c loc.blk) (h.set id none) w := by
  have hother : ∀ (i : Nat) (oi : Ob C.E), (h.set id none)[i]? = some (some oi) → h[i]? = some (some oi) ∧ i ≠ id := by
    intro i oi hi
    by_cases he : i = id
    · subst he
      rw [List.getElem?_set_self (lt_of_getElem? ho)] at hi
      cases hi
    · rw [List.getElem?_set_ne (fun e => he e.symm)] at hi
      exact ⟨hi, he⟩
  refine ⟨⟨hh.gl.keep (keeps_drop _), by simp [hh.len, dropC], hh.sn, ?_, fun k hk => hk.imp (hh.hI k) (fun h => h), ?_, ?_, ?_⟩, ?_⟩
  · rintro k (hk | rfl)
    · exact hh.bnd k hk
    · exact (hh.soft id o loc ho hs).1.lt
  · intro i oi hi
    obtain ⟨hi', _⟩ := hother i oi hi
    exact ObR_keep (keeps_drop _) (hh.ob i oi hi') (by have := lt_of_getElem? hi'; have := hh.len; omega) (fun h => h) (fun _ _ => rfl)
  · intro i oi li hi hsi
    obtain ⟨hi', hne⟩ := hother i oi hi
    obtain ⟨h1, h2⟩ := hh.soft i oi li hi' hsi
    refine ⟨h1, ?_⟩
    rintro (h3 | h3)
    · exact h2 h3
    · exact hne (hh.inj i id oi o li loc hi' ho hsi hs h3)
  · intro i j oi oj li lj hi hj hsi hsj hb
    exact hh.inj i j oi oj li lj (hother i oi hi).1 (hother j oj hj).1 hsi hsj hb
  · refine ⟨Nat.le_refl _, fun _ _ _ h => h, fun _ h => .inl h, fun _ h => .inl h, ?_, ?_, ?_, Nat.le_refl _, rfl, rfl, rfl, fun _ _ _ => rfl, fun _ cs _ fr h => ⟨cs, fr, h, rfl⟩⟩
    · rintro k _ (hk | rfl)
      · exact .inl hk
      · exact .inr ⟨id, o, loc, ho, hs, rfl⟩
    · rintro k _ (hk | rfl)
      · exact .inl hk
      · exact .inr ⟨id, o, loc, ho, hs, rfl⟩
    · rintro k _ ⟨i, oi, li, hi, hsi, rfl⟩
      exact ⟨i, oi, li, (hother i oi hi).1, hsi, rfl⟩

/-- The same where the object lies nowhere. -/
theorem drop_none {h : Heap C.E} (hh : HR C c w h) {id : Nat} (hs : c.σ id = none) : HR C c w (h.set id none) ∧ Le c h w c (h.set id none) w := by
  have hother : ∀ (i : Nat) (oi : Ob C.E), (h.set id none)[i]? = some (some oi) → h[i]? = some (some oi) := by
    intro i oi hi
    by_cases he : i = id
    · subst he
      rw [List.getElem?_set] at hi
      split at hi
      · split at hi <;> cases hi
      · exact hi
    · rw [List.getElem?_set_ne (fun e => he e.symm)] at hi
      exact hi
  refine ⟨⟨hh.gl, by simp [hh.len], hh.sn, hh.bnd, hh.hI, fun i oi hi => hh.ob i oi (hother i oi hi), fun i oi li hi => hh.soft i oi li (hother i oi hi), fun i j oi oj li lj hi hj => hh.inj i j oi oj li lj (hother i oi hi) (hother j oj hj)⟩, ?_⟩
  refine ⟨Nat.le_refl _, fun _ _ _ h => h, fun _ h => h, fun _ h => h, fun _ _ h => .inl h, fun _ _ h => .inl h, ?_, Nat.le_refl _, rfl, rfl, rfl, fun _ _ _ => rfl, fun _ cs _ fr h => ⟨cs, fr, h, rfl⟩⟩
  rintro k _ ⟨i, oi, li, hi, hsi, rfl⟩
  exact ⟨i, oi, li, hother i oi hi, hsi, rfl⟩

/-! ### A new object -/

inductive Fresh {E : Nat → Type} (c : Ctx) (h : Heap E) (nid : Nat) : Prop
  | push (e : nid = h.length) : Fresh c h nid
  | hole (e : ∀ j, j < 8 → h[nid + j]? = some none ∧ c.σ (nid + j) = none) : Fresh c h nid

def newC (c : Ctx) (nid : Nat) (l : Option Loc) : Ctx := { n := max c.n (nid + 1), σ := fun i => if i = nid then l else c.σ i, I := c.I, H := c.H }

theorem new_sig {nid : Nat} {l : Option Loc} {id : Nat} (h : (newC c nid l).σ id ≠ c.σ id) : id = nid := by
  by_cases he : id = nid
  · exact he
  · exact (h (if_neg he)).elim

/-- A world with more blocks; what was there is as it was. -/
structure More (w w' : World) : Prop where
  size : w.heap.size ≤ w'.heap.size
  os : w'.os = w.os
  tape : w'.tape = w.tape
  output : w'.output = w.output
  frame : ∀ k, k < w.heap.size → w'.heap[k]? = w.heap[k]?

theorem More.refl (w : World) : More w w := ⟨Nat.le_refl _, rfl, rfl, rfl, fun _ _ => rfl⟩
theorem More.trans {a b c : World} (h : More a b) (k : More b c) : More a c :=
  ⟨Nat.le_trans h.size k.size, k.os.trans h.os, k.tape.trans h.tape, k.output.trans h.output, fun i hi => (k.frame i (Nat.lt_of_lt_of_le hi h.size)).trans (h.frame i hi)⟩
theorem More.alloc (w : World) (o : Obj) : More w (w.alloc o) := ⟨by simp, rfl, rfl, rfl, fun k hk => Below.heap_alloc w o k hk⟩
theorem More.drew (w : World) : More w w.drew := ⟨Nat.le_refl _, rfl, rfl, rfl, fun _ _ => rfl⟩

theorem More.cell {w w' : World} (h : More w w') {b : Nat} (hb : b < w.heap.size) (off : Nat) : w'.cell? ⟨b, off, none⟩ = w.cell? ⟨b, off, none⟩ := World.cell?_of_block (h.frame b hb)
theorem More.frozen {w w' : World} (h : More w w') {b : Nat} (hb : b < w.heap.size) (off : Nat) : w'.frozen? ⟨b, off, none⟩ = w.frozen? ⟨b, off, none⟩ := World.frozen?_of_block (h.frame b hb)
theorem More.soft {w w' : World} (h : More w w') {b : Nat} (hs : Soft w b) : Soft w' b := by
  obtain ⟨cs, e, fr, h1, h2⟩ := hs
  have hb := lt_of_cells h1
  exact ⟨cs, e, fr, (h.frame b hb).trans h1, h2⟩

theorem fresh_none {h : Heap C.E} (hh : HR C c w h) {nid : Nat} (hf : Fresh c h nid) : c.σ nid = none := by
  cases hf with
  | push e => exact hh.sn _ (by have := hh.len; omega)
  | hole e => exact (e 0 (by omega)).2

theorem fresh_dead {h : Heap C.E} {nid : Nat} (hf : Fresh c h nid) : ∀ o, h[nid]? ≠ some (some o) := by
  intro o ho
  cases hf with
  | push e => subst e; have := lt_of_getElem? ho; omega
  | hole e =>
    have h0 := (e 0 (by omega)).1
    simp only [Nat.add_zero] at h0
    rw [h0] at ho; cases ho

theorem keeps_new {h : Heap C.E} {w' : World} (hh : HR C c w h) {nid : Nat} (hf : Fresh c h nid) (l : Option Loc) (hm : More w w') : Keeps c w (newC c nid l) w' := by
  refine ⟨Nat.le_max_left _ _, fun id loc hn hs => ?_, fun _ h => h, fun _ h => h, fun k hk => hm.frame k (hh.bnd k hk), fun k cs e fr hk => ⟨cs, fr, (hm.frame k (lt_of_cells hk)).trans hk, rfl⟩⟩
  show (if id = nid then l else c.σ id) = some loc
  rw [if_neg]
  · exact hs
  · rintro rfl
    rw [fresh_none hh hf] at hs
    cases hs

theorem wrH_one {h : Heap C.E} {nid : Nat} {o : Option (Ob C.E)} (hf : Fresh c h nid) : (wrH h [(nid, o)]).length = max h.length (nid + 1) ∧ (wrH h [(nid, o)])[nid]? = some o ∧ ∀ i, i ≠ nid → (wrH h [(nid, o)])[i]? = h[i]? := by
  cases hf with
  | push e =>
    subst e
    have hb : Nat.blt h.length h.length = false := by
      cases hc : Nat.blt h.length h.length with
      | false => rfl
      | true => have := Nat.le_of_ble_eq_true hc; omega
    simp only [wrH, hb]
    refine ⟨by simp, by simp, fun i hi => ?_⟩
    rcases Nat.lt_or_ge i h.length with h1 | h1
    · rw [List.getElem?_append_left h1]
    · rw [List.getElem?_eq_none (by simp; omega), List.getElem?_eq_none h1]
  | hole e =>
    have hlt := lt_of_getElem? (e 0 (by omega)).1
    simp only [Nat.add_zero] at hlt
    have hb : Nat.blt nid h.length = true := Nat.ble_eq_true_of_le hlt
    simp only [wrH, hb]
    refine ⟨by simp; omega, by rw [List.getElem?_set_self hlt], fun i hi => by rw [List.getElem?_set_ne (fun e => hi e.symm)]⟩

theorem new_obj {h : Heap C.E} {w' : World} (hh : HR C c w h) {nid : Nat} (hf : Fresh c h nid) {o : Ob C.E} (l : Option Loc) (hm : More w w')
    (hl : ∀ loc, l = some loc → w.heap.size ≤ loc.blk ∧ SoftO w' loc.blk o) (ho : ObR C (newC c nid l) w' nid o) :
    HR C (newC c nid l) w' (wrH h [(nid, some o)]) ∧ Le c h w (newC c nid l) (wrH h [(nid, some o)]) w' := by
  obtain ⟨hlen, hnew, hold⟩ := wrH_one (o := some o) hf
  have hk := keeps_new hh hf l hm
  have hsp : ∀ i, i ≠ nid → (newC c nid l).σ i = c.σ i := fun i hi => if_neg hi
  have hblk : ∀ i oi li, h[i]? = some (some oi) → c.σ i = some li → li.blk < w.heap.size := by
    intro i oi li hi hs
    exact (hh.soft i oi li hi hs).1.lt
  refine ⟨⟨hh.gl.keep hk, ?_, ?_, ?_, hh.hI, ?_, ?_, ?_⟩, ?_⟩
  · rw [hlen]; show _ = max c.n (nid + 1); rw [hh.len]
  · intro id hid
    have hne : id ≠ nid := by rintro rfl; simp [newC] at hid; omega
    rw [hsp id hne]
    exact hh.sn id (by simp [newC] at hid; omega)
  · exact fun k hk => Nat.lt_of_lt_of_le (hh.bnd k hk) hm.size
  · intro i oi hi
    by_cases he : i = nid
    · subst he
      rw [hnew] at hi
      cases hi
      exact ho
    · rw [hold i he] at hi
      exact ObR_keep hk (hh.ob i oi hi) (by have := lt_of_getElem? hi; have := hh.len; omega) (fun h => (hsp i he).trans h) (fun loc hs => hm.frame _ (hblk i oi loc hi hs))
  · intro i oi li hi hs
    by_cases he : i = nid
    · subst he
      have hs' : l = some li := by simpa [newC] using hs
      rw [hnew] at hi
      cases hi
      obtain ⟨h1, h2⟩ := hl li hs'
      exact ⟨h2, fun h3 => by have := hh.bnd _ h3; omega⟩
    · rw [hold i he] at hi
      rw [hsp i he] at hs
      obtain ⟨h1, h2⟩ := hh.soft i oi li hi hs
      exact ⟨h1.same (hm.frame _ h1.lt), h2⟩
  · intro i j oi oj li lj hi hj hsi hsj hb
    by_cases he : i = nid
    · by_cases he2 : j = nid
      · rw [he, he2]
      · subst he
        rw [hold j he2] at hj
        rw [hsp j he2] at hsj
        have h1 := hblk j oj lj hj hsj
        have hs' : l = some li := by simpa [newC] using hsi
        have := (hl li hs').1
        omega
    · by_cases he2 : j = nid
      · subst he2
        rw [hold i he] at hi
        rw [hsp i he] at hsi
        have h1 := hblk i oi li hi hsi
        have hs' : l = some lj := by simpa [newC] using hsj
        have := (hl lj hs').1
        omega
      · rw [hold i he] at hi
        rw [hold j he2] at hj
        rw [hsp i he] at hsi
        rw [hsp j he2] at hsj
        exact hh.inj i j oi oj li lj hi hj hsi hsj hb
  · refine ⟨hk.n, hk.σ, hk.I, hk.H, fun k _ h => .inl h, fun k _ h => .inl h, ?_, hm.size, hm.os, hm.tape, hm.output, fun k hk _ => hm.frame k hk, hk.shape⟩
    rintro k hkk ⟨i, oi, li, hi, hs, rfl⟩
    by_cases he : i = nid
    · subst he
      have hs' : l = some li := by simpa [newC] using hs
      have := (hl li hs').1
      omega
    · rw [hold i he] at hi
      rw [hsp i he] at hs
      exact ⟨i, oi, li, hi, hs, rfl⟩

/-- A fresh row of cells. -/
theorem soft_alloc (w : World) (cs : Array Value) (e : TypeId) : Soft (w.alloc (.cells cs e)) w.heap.size :=
  ⟨cs, e, (0, 0), heap_alloc_new w _, .inl rfl⟩

theorem cell_alloc (w : World) (cs : Array Value) (e : TypeId) (j : Nat) : (w.alloc (.cells cs e)).cell? ⟨w.heap.size, j, none⟩ = cs[j]? := World.cell?_alloc_new w cs e j

/-- A new variable. -/
theorem new_box {h : Heap C.E} (hh : HR C c w h) {nid : Nat} (hf : Fresh c h nid) {cells : List (AV C.E)} {vs : Array Value} (hlen : cells.length = vs.size) (hr : ∀ j (h : j < cells.length), R C c w cells[j] (vs.getD j undef)) (t : TypeId) :
    ∃ c', After C c w h c' (w.alloc (.cells vs t)) ⟨.ptr nid 0 0, [(nid, some (.box cells))], []⟩ (.pointer (some ⟨w.heap.size, 0, none⟩)) := by
  have hm := More.alloc w (.cells vs t)
  have hk := keeps_new hh hf (some ⟨w.heap.size, 0, cells.length⟩) hm
  have hsn : (newC c nid (some ⟨w.heap.size, 0, cells.length⟩)).σ nid = some ⟨w.heap.size, 0, cells.length⟩ := if_pos rfl
  have := new_obj hh hf (o := .box cells) (some ⟨w.heap.size, 0, cells.length⟩) hm (fun loc hl => by cases hl; exact ⟨Nat.le_refl _, soft_alloc w vs t⟩)
    (.box hsn (fun j => vs.getD j undef) (fun j hj => by
      rw [cell_alloc]
      have : j < vs.size := by omega
      simp [Array.getD, this]) (fun j hj => (hr j hj).keep hk))
  exact ⟨_, ⟨by
    have := R.ptr (C := C) (w := w.alloc (.cells vs t)) (row := 0) (fo := 0) hsn (show nid < max c.n (nid + 1) by omega)
    simpa using this, this.1, this.2, fun id hi => by obtain rfl := new_sig hi; exact List.mem_singleton.2 rfl⟩⟩

/-! ### Writing into an object -/

/-- Cells written one behind the other into a soft block: the block is as it was but for them. -/
theorem run_storeCells (P : Program) (g : Nat) (e : TypeId) (fr : Nat × Nat) : ∀ (vs : List Value) (o : Nat) (i : Nat) (cur : Array Value) (w : World), w.heap[g]? = some (.cells cur e fr) → (∀ j, j < cur.size → w.frozen? ⟨g, j, none⟩ = false) →
    o + i + vs.length ≤ cur.size → (∀ v ∈ vs, v.oneCell' = true) →
    ∃ cur', (storeCells ⟨g, o, none⟩ vs i).run P w = .ok () (w.setRow g cur') ∧ cur'.size = cur.size ∧
      ∀ j, j < cur.size → cur'[j]? = if o + i ≤ j ∧ j < o + i + vs.length then vs[j - (o + i)]? else cur[j]?
  | [], o, i, cur, w, hg, _, _, _ => ⟨cur, by simp [storeCells, setRow_self w g cur e fr hg], rfl, fun j hj => by rw [if_neg (by simp only [List.length_nil]; omega)]⟩
  | v :: rest, o, i, cur, w, hg, hfz, hl, h1 => by
    have hi : o + i < cur.size := by simp at hl; omega
    have hcell : w.cell? ⟨g, o + i, none⟩ = some cur[o + i] := by simp [World.cell?, hg, hi]
    have hst : (store ((⟨g, o, none⟩ : Addr).add i) v).run P w = .ok () (w.setRow g (cur.setIfInBounds (o + i) v)) := by
      rw [add_none, run_store P w _ v _ (h1 v (by simp)), hcell]
      simp [hfz _ hi, setCell_eq_setRow w g (o + i) cur e fr v hg]
    have hg' := setRow_heap w g cur (cur.setIfInBounds (o + i) v) e fr hg
    obtain ⟨cur', h2, h3, h4⟩ := run_storeCells P g e fr rest o (i + 1) (cur.setIfInBounds (o + i) v) (w.setRow g (cur.setIfInBounds (o + i) v)) hg' (fun j hj => by
      have := hfz j (by simpa using hj)
      simp only [World.frozen?, hg', hg] at *
      exact this) (by simp at hl ⊢; omega) (fun x hx => h1 x (by simp [hx]))
    refine ⟨cur', ?_, by simpa using h3, fun j hj => ?_⟩
    · simp only [storeCells, Sem.run_bind, hst, Result.andThen_ok, h2, setRow_setRow]
    · rw [h4 j (by simpa using hj)]
      simp only [List.length_cons]
      by_cases hji : j = o + i
      · subst hji
        rw [if_neg (by omega), if_pos (by omega)]
        simp [hi]
      · by_cases hr : o + (i + 1) ≤ j ∧ j < o + (i + 1) + rest.length
        · rw [if_pos hr, if_pos (by omega)]
          rw [show j - (o + i) = (j - (o + (i + 1))) + 1 by omega, List.getElem?_cons_succ]
        · rw [if_neg hr, if_neg (by omega)]
          rw [Array.getElem?_setIfInBounds_ne (fun e => hji e.symm)]

theorem splice_spec {α : Type} : ∀ (l : List α) (n : Nat) (vs r : List α), splice l n vs = some r → (vs ≠ [] → n + vs.length ≤ l.length) ∧ r.length = l.length ∧ ∀ j, j < l.length → r[j]? = if n ≤ j ∧ j < n + vs.length then vs[j - n]? else l[j]?
  | l, n, [], r, h => by
    have : r = l := by cases l <;> cases n <;> simp_all [splice]
    subst this
    exact ⟨fun h => (h rfl).elim, rfl, fun j hj => by rw [if_neg (by simp only [List.length_nil]; omega)]⟩
  | [], n, v :: vs, r, h => by cases n <;> simp [splice] at h
  | x :: l, 0, v :: vs, r, h => by
    simp only [splice] at h
    cases hs : splice l 0 vs with
    | none => rw [hs] at h; cases h
    | some q =>
      rw [hs] at h
      simp only [Option.some.injEq] at h
      subst h
      obtain ⟨h1, h2, h3⟩ := splice_spec l 0 vs q hs
      refine ⟨fun _ => ?_, by simp [h2], fun j hj => ?_⟩
      · by_cases hv : vs = []
        · subst hv; simp
        · have := h1 hv; simp; omega
      · cases j with
        | zero => simp
        | succ j =>
          have := h3 j (by simpa using hj)
          simp only [Nat.zero_le, true_and, Nat.zero_add, Nat.sub_zero, List.length_cons, List.getElem?_cons_succ, Nat.add_lt_add_iff_right] at this ⊢
          exact this
  | x :: l, n + 1, v :: vs, r, h => by
    simp only [splice] at h
    cases hs : splice l n (v :: vs) with
    | none => rw [hs] at h; cases h
    | some q =>
      rw [hs] at h
      simp only [Option.some.injEq] at h
      subst h
      obtain ⟨h1, h2, h3⟩ := splice_spec l n (v :: vs) q hs
      refine ⟨fun hv => ?_, by simp [h2], fun j hj => ?_⟩
      · have := h1 hv; simp at this ⊢; omega
      · cases j with
        | zero => simp
        | succ j =>
          have := h3 j (by simpa using hj)
          simp only [List.getElem?_cons_succ]
          rw [this]
          by_cases hc : n ≤ j ∧ j < n + (v :: vs).length
          · rw [if_pos hc, if_pos (by omega)]
            congr 1
            omega
          · rw [if_neg hc, if_neg (by omega)]

/-- One block's cells have changed. -/
theorem put_obj {h : Heap C.E} (hh : HR C c w h) {id : Nat} {o o' : Ob C.E} {loc : Loc} (ho : h[id]? = some (some o)) (hs : c.σ id = some loc) {cur cur' : Array Value} {e : TypeId} {fr : Nat × Nat}
    (hg : w.heap[loc.blk]? = some (.cells cur e fr)) (hsz : cur'.size = cur.size) (_hfz : ∀ j, j < cur.size → w.frozen? ⟨loc.blk, j, none⟩ = false)
    (ho' : ObR C c (w.setRow loc.blk cur') id o') :
    HR C c (w.setRow loc.blk cur') (h.set id (some o')) ∧ Le c h w c (h.set id (some o')) (w.setRow loc.blk cur') := by
  have hg' := setRow_heap w loc.blk cur cur' e fr hg
  have hoth : ∀ k, k ≠ loc.blk → (w.setRow loc.blk cur').heap[k]? = w.heap[k]? := fun k hk => setRow_other w loc.blk k cur' hk
  have hnI := (hh.soft id o loc ho hs).2
  have hshape : ∀ (k : Nat) (cs : Array Value) (e : TypeId) (fr : Nat × Nat), w.heap[k]? = some (.cells cs e fr) → ∃ cs' fr', (w.setRow loc.blk cur').heap[k]? = some (.cells cs' e fr') ∧ cs'.size = cs.size := by
    intro k cs e2 fr2 hk
    by_cases hkb : k = loc.blk
    · subst hkb
      rw [hg] at hk
      cases hk
      exact ⟨cur', fr, hg', hsz⟩
    · exact ⟨cs, fr2, (hoth k hkb).trans hk, rfl⟩
  have hkeep : Keeps c w c (w.setRow loc.blk cur') := ⟨Nat.le_refl _, fun _ _ _ h => h, fun _ h => h, fun _ h => h, fun k hk => hoth k (fun e => hnI (e ▸ hk)), hshape⟩
  have hlt := lt_of_getElem? ho
  have hget : ∀ (i : Nat) (oi : Ob C.E), (h.set id (some o'))[i]? = some (some oi) → (i = id ∧ oi = o') ∨ (i ≠ id ∧ h[i]? = some (some oi)) := by
    intro i oi hi
    by_cases he : i = id
    · subst he
      rw [List.getElem?_set_self hlt] at hi
      cases hi
      exact .inl ⟨rfl, rfl⟩
    · rw [List.getElem?_set_ne (fun e => he e.symm)] at hi
      exact .inr ⟨he, hi⟩
  have hlive : ∀ (i : Nat) (oi : Ob C.E), (h.set id (some o'))[i]? = some (some oi) → ∃ oi' : Ob C.E, h[i]? = some (some oi') := by
    intro i oi hi
    rcases hget i oi hi with ⟨rfl, _⟩ | ⟨_, h2⟩
    · exact ⟨o, ho⟩
    · exact ⟨oi, h2⟩
  refine ⟨⟨hh.gl.keep hkeep, by simp [hh.len], hh.sn, fun k hk => by simpa using hh.bnd k hk, hh.hI, ?_, ?_, ?_⟩, ?_⟩
  · intro i oi hi
    rcases hget i oi hi with ⟨rfl, rfl⟩ | ⟨hne, h2⟩
    · exact ho'
    · refine ObR_keep hkeep (hh.ob i oi h2) (by have := lt_of_getElem? h2; have := hh.len; omega) (fun h => h) (fun li hli => hoth _ fun e => ?_)
      exact hne (hh.inj i id oi o li loc h2 ho hli hs e)
  · intro i oi li hi hsi
    obtain ⟨oi', h2⟩ := hlive i oi hi
    obtain ⟨h3, h5⟩ := hh.soft i oi' li h2 hsi
    refine ⟨?_, h5⟩
    rcases hget i oi hi with ⟨rfl, rfl⟩ | ⟨hne, h2'⟩
    · rw [hs] at hsi
      cases hsi
      obtain ⟨cs, e2, fr2, h3', h4⟩ := softO_soft h3 hg
      rw [hg] at h3'
      cases h3'
      exact softO_of ho' hs ⟨cur', e, fr, hg', by rw [hsz]; exact h4⟩
    · have hb : li.blk ≠ loc.blk := fun hb => hne (hh.inj i id oi o li loc h2' ho hsi hs hb)
      exact (hh.soft i oi li h2' hsi).1.same (hoth _ hb)
  · intro i j oi oj li lj hi hj hsi hsj hb
    obtain ⟨oi', h2⟩ := hlive i oi hi
    obtain ⟨oj', h3⟩ := hlive j oj hj
    exact hh.inj i j oi' oj' li lj h2 h3 hsi hsj hb
  · refine ⟨Nat.le_refl _, fun _ _ _ h => h, fun _ h => h, fun _ h => h, fun _ _ h => .inl h, fun _ _ h => .inl h, ?_, by simp, rfl, rfl, rfl, fun k _ hk => hoth k (fun e => hk ⟨id, o, loc, ho, hs, e.symm⟩), hshape⟩
    rintro k _ ⟨i, oi, li, hi, hsi, rfl⟩
    obtain ⟨oi', h2⟩ := hlive i oi hi
    exact ⟨i, oi', li, h2, hsi, rfl⟩

theorem wrH_set {h : Heap C.E} {id : Nat} {o : Option (Ob C.E)} {x : Option (Ob C.E)} (hi : h[id]? = some x) (r : List (Nat × Option (Ob C.E))) : wrH h ((id, o) :: r) = wrH (h.set id o) r := by
  have hb : Nat.blt id h.length = true := Nat.ble_eq_true_of_le (lt_of_getElem? hi)
  simp only [wrH, hb]

theorem all_get {α : Type} {p : α → Bool} {l : List α} (h : l.all p = true) (j : Nat) (hj : j < l.length) : p l[j] = true := List.all_eq_true.1 h _ (List.getElem_mem hj)

theorem cell_lt {g off : Nat} {cur : Array Value} {e : TypeId} {fr : Nat × Nat} (hg : w.heap[g]? = some (.cells cur e fr)) {v : Value} (h : w.cell? ⟨g, off, none⟩ = some v) : off < cur.size ∧ cur[off]? = some v := by
  simp only [World.cell?, hg] at h
  have h' : cur[off]? = some v := by simpa using h
  exact ⟨(Array.getElem?_eq_some_iff.1 h').1, h'⟩

theorem setRow_cell {g : Nat} {cur cur' : Array Value} {e : TypeId} {fr : Nat × Nat} (hg : w.heap[g]? = some (.cells cur e fr)) (j : Nat) : (w.setRow g cur').cell? ⟨g, j, none⟩ = cur'[j]? := by
  have := setRow_heap w g cur cur' e fr hg
  simp [World.cell?, this]

/-- Cells laid over others in a soft block. -/
theorem write_cells {b base fo : Nat} {cur : Array Value} {e : TypeId} {fr : Nat × Nat} (hg : w.heap[b]? = some (.cells cur e fr)) (hfz : ∀ j, j < cur.size → w.frozen? ⟨b, j, none⟩ = false)
    {cells xs cs : List (AV C.E)} {vs : Array Value} (f : Nat → Value) (hc : ∀ j, j < cells.length → w.cell? ⟨b, base + j, none⟩ = some (f j)) (hr : ∀ j (h : j < cells.length), R C c w cells[j] (f j))
    (hs : splice cells fo xs = some cs) (hne : xs ≠ []) (hvl : xs.length = vs.size) (hcell : xs.all AV.isCell = true) (hvr : ∀ j (h : j < xs.length), R C c w xs[j] (vs.getD j undef)) :
    ∃ cur', (storeCells ⟨b, base + fo, none⟩ vs.toList).run C.P w = .ok () (w.setRow b cur') ∧ cur'.size = cur.size ∧ cs.length = cells.length ∧
      (∀ j, (j < base ∨ base + cells.length ≤ j) → cur'[j]? = cur[j]?) ∧ ∃ f' : Nat → Value, (∀ j, j < cs.length → cur'[base + j]? = some (f' j)) ∧ ∀ j (h : j < cs.length), R C c w cs[j] (f' j) := by
  obtain ⟨h1, h2, h3⟩ := splice_spec _ _ _ _ hs
  have hfit := h1 hne
  have hpos : 0 < xs.length := List.length_pos_iff.2 hne
  have hcurlen : ∀ j, j < cells.length → base + j < cur.size ∧ cur[base + j]? = some (f j) := fun j hj => cell_lt hg (hc j hj)
  have hcl := (hcurlen (cells.length - 1) (by omega)).1
  have hone : ∀ v ∈ vs.toList, v.oneCell' = true := by
    intro v hv
    obtain ⟨j, hj, rfl⟩ := List.getElem_of_mem hv
    have hj' : j < xs.length := by simpa [hvl] using hj
    have := R_oneCell (hvr j hj') (all_get hcell j hj')
    rw [show vs.getD j undef = vs.toList[j] by simp [Array.getD, show j < vs.size by omega]] at this
    exact this
  obtain ⟨cur', e1, e2, e3⟩ := run_storeCells C.P b e fr vs.toList (base + fo) 0 cur w hg hfz (by simp only [Array.length_toList]; omega) hone
  simp only [Array.length_toList, Nat.add_zero] at e3
  refine ⟨cur', e1, e2, h2, fun j hj => ?_, fun j => if fo ≤ j ∧ j < fo + xs.length then vs.getD (j - fo) undef else f j, fun j hj => ?_, fun j hj => ?_⟩
  · by_cases hjs : j < cur.size
    · rw [e3 j hjs, if_neg (by omega)]
    · rw [Array.getElem?_eq_none (by omega), Array.getElem?_eq_none (by omega)]
  · have hj' : j < cells.length := by omega
    rw [e3 _ (hcurlen j hj').1]
    by_cases hjr : fo ≤ j ∧ j < fo + xs.length
    · simp only [if_pos hjr]
      rw [if_pos (by omega)]
      have : base + j - (base + fo) = j - fo := by omega
      rw [this]
      have hlt : j - fo < vs.size := by omega
      simp [Array.getD, hlt]
    · simp only [if_neg hjr]
      rw [if_neg (by omega)]
      exact (hcurlen j hj').2
  · have hj' : j < cells.length := by omega
    have hg3 := h3 j hj'
    rw [List.getElem?_eq_getElem hj] at hg3
    by_cases hjr : fo ≤ j ∧ j < fo + xs.length
    · simp only [if_pos hjr] at hg3 ⊢
      have hlt : j - fo < xs.length := by omega
      rw [List.getElem?_eq_getElem hlt] at hg3
      have : cs[j] = xs[j - fo] := by simpa using hg3
      rw [this]
      exact hvr _ hlt
    · simp only [if_neg hjr] at hg3 ⊢
      rw [List.getElem?_eq_getElem hj'] at hg3
      have : cs[j] = cells[j] := by simpa using hg3
      rw [this]
      exact hr j hj'

theorem run_storeAt {t : TypeId} {i : TypeInfo} {n : Nat} (hi : C.P.info? t = some i) (hs : i.size = n) {b off : Nat} {v : Value} (hv : v.cells.size = n) {w' : World}
    (h : (storeCells ⟨b, off, none⟩ v.cells.toList).run C.P w = .ok () w') : (Instr.storeAt t (.pointer (some ⟨b, off, none⟩)) v).run C.P w = .ok () w' := by
  simp [Instr.storeAt, Instr.sureAddr, storeVar, run_sizeOf' hi, hs, hv, h]

theorem keeps_setRow {h : Heap C.E} (hh : HR C c w h) {id : Nat} {o : Ob C.E} {loc : Loc} (ho : h[id]? = some (some o)) (hs : c.σ id = some loc) {cur cur' : Array Value} {e : TypeId} {fr : Nat × Nat}
    (hg : w.heap[loc.blk]? = some (.cells cur e fr)) (hsz : cur'.size = cur.size) : Keeps c w c (w.setRow loc.blk cur') := by
  have hg' := setRow_heap w loc.blk cur cur' e fr hg
  have hnI := (hh.soft id o loc ho hs).2
  refine ⟨Nat.le_refl _, fun _ _ _ h => h, fun _ h => h, fun _ h => h, fun k hk => setRow_other w loc.blk k cur' (fun e => hnI (e ▸ hk)), fun k cs e2 fr2 hk => ?_⟩
  by_cases hkb : k = loc.blk
  · subst hkb
    rw [hg] at hk
    cases hk
    exact ⟨cur', fr, hg', hsz⟩
  · exact ⟨cs, fr2, (setRow_other w loc.blk k cur' hkb).trans hk, rfl⟩

theorem known_of {x : AV C.E} (h : x.cells.all AV.isCell = true) : x ≠ .bot ∧ x ≠ .undef ∧ ∀ l, x ≠ .tup l := by
  refine ⟨?_, ?_, ?_⟩
  · rintro rfl; simp [AV.cells, AV.isCell] at h
  · rintro rfl; simp [AV.cells, AV.isCell] at h
  · rintro l rfl; simp [AV.cells, AV.isCell] at h

theorem storeK_ok (hC : CfgOK C) {Z : Type} {h : Heap C.E} {t : TypeId} {p x : AV C.E} {vp vx : Value} {K : Eff C.E → Option Z} {z : Z} (hk : storeK C (lookH h) t p x K = some z) (hh : HR C c w h)
    (hp : R C c w p vp) (hx : R C c w x vx) : ∃ e c' w', (Instr.storeAt t vp vx).run C.P w = .ok () w' ∧ K e = some z ∧ After C c w h c' w' e undef := by
  unfold storeK at hk
  split at hk
  · rename_i ti id row fo hT
    obtain ⟨i, hi, hsz⟩ := size_info hC hT
    have hpos := (hC.T _ _ hT).pos
    cases hp with
    | ptr hs hn =>
      rename_i loc
      split at hk
      · rename_i cells hc1 hl
        obtain ⟨hc1, hc2⟩ := and_split hc1
        have hlen : x.cells.length = ti.size := Nat.eq_of_beq_eq_true hc1
        split at hk
        · rename_i cs hcs
          have ho := lookH_some hl
          cases hh.ob _ _ ho with
          | box hs' f hcell hr =>
            rename_i b
            rw [hs'] at hs
            cases hs
            obtain ⟨⟨cur, e, fr, hg, hfz⟩, _⟩ := hh.soft _ _ _ ho hs'
            have hfz := soft_free hg hfz
            obtain ⟨hnb, hnu, hnt⟩ := known_of hc2
            have hvl := R_cells_len hx hnb hnu hnt
            have hvg := R_cells_get hx hnb hnu hnt
            have hne : x.cells ≠ [] := by intro h0; rw [h0] at hlen; simp at hlen; omega
            obtain ⟨cur', e1, e2, e3, e4, f', e5, e6⟩ := write_cells (c := c) (base := 0) hg hfz f (fun j hj => by rw [Nat.zero_add]; exact hcell j hj) hr hcs hne hvl hc2 hvg
            simp only [Nat.zero_add] at e1 e5
            have hkp := keeps_setRow hh ho hs' hg e2
            have hput := put_obj hh ho hs' hg e2 hfz (o' := .box cs) (.box (by rw [e3]; exact hs') f' (fun j hj => (setRow_cell hg j).trans (e5 j hj)) (fun j hj => (e6 j hj).keep hkp))
            refine ⟨_, c, w.setRow b cur', ?_, hk, ⟨.undef, ?_, ?_, fun _ h => (h rfl).elim⟩⟩
            · have := run_storeAt hi hsz (hvl.symm.trans hlen) e1
              simpa using this
            · rw [wrH_set ho]; exact hput.1
            · rw [wrH_set ho]; exact hput.2
        · cases hk
      · rename_i e xs hc1 hl
        obtain ⟨hc1, hc2⟩ := and_split hc1
        have hlen : x.cells.length = ti.size := Nat.eq_of_beq_eq_true hc1
        obtain ⟨hi2, hk⟩ := rowK_some hk
        split at hk
        · rename_i cs hcs
          cases hd : C.dec e cs with
          | none => rw [hd] at hk; cases hk
          | some y =>
            rw [hd] at hk
            have hency := hC.dec _ _ _ hd
            have ho := lookH_some hl
            cases hh.ob _ _ ho with
            | nowhere hs' => exact absurd hi2 (Nat.not_lt_zero _)
            | arr hs' f hcell hr =>
              rename_i b base
              rw [hs'] at hs
              cases hs
              obtain ⟨⟨cur, e', fr, hg, hfz⟩, _⟩ := hh.soft _ _ _ ho hs'
              have hfz := soft_free hg hfz
              obtain ⟨hnb, hnu, hnt⟩ := known_of hc2
              have hvl := R_cells_len hx hnb hnu hnt
              have hvg := R_cells_get hx hnb hnu hnt
              have hne : x.cells ≠ [] := by intro h0; rw [h0] at hlen; simp at hlen; omega
              have hel : (C.enc e xs[row]).length = sizeT C e := hC.enc _ _
              obtain ⟨cur', e1, e2, e3, e4, f', e5, e6⟩ := write_cells (c := c) (base := base + row * sizeT C e) hg hfz (f row) (fun j hj => hcell row j hi2 (by omega)) (fun j hj => hr row hi2 j hj) hcs hne hvl hc2 hvg
              have hkp := keeps_setRow hh ho hs' hg e2
              have hput := put_obj hh ho hs' hg e2 hfz (o' := .arr e (xs.set row y)) (.arr hs' (fun i j => if i = row then f' j else f i j) (fun i j hi hj => by
                have hi : i < xs.length := by rw [List.length_set] at hi; exact hi
                rw [setRow_cell hg]
                by_cases hir : i = row
                · subst hir
                  simp only [if_pos]
                  exact e5 j (by omega)
                · simp only [if_neg hir]
                  have h1 : cur'[base + i * sizeT C e + j]? = cur[base + i * sizeT C e + j]? := e4 _ (by
                    rw [hel]
                    rcases Nat.lt_or_gt_of_ne hir with h | h
                    · left
                      have : (i + 1) * sizeT C e ≤ row * sizeT C e := Nat.mul_le_mul_right _ h
                      rw [Nat.add_mul, Nat.one_mul] at this
                      omega
                    · right
                      have : (row + 1) * sizeT C e ≤ i * sizeT C e := Nat.mul_le_mul_right _ h
                      rw [Nat.add_mul, Nat.one_mul] at this
                      omega)
                  rw [h1]
                  exact (cell_lt hg (hcell i j hi hj)).2) (fun i hi0 j hj => by
                have hi : i < xs.length := by rw [List.length_set] at hi0; exact hi0
                by_cases hir : i = row
                · subst hir
                  simp only [if_pos]
                  have hgy : (xs.set i y)[i]'(by rw [List.length_set]; exact hi) = y := by simp
                  have hj' : j < cs.length := by
                    rw [hgy, hency] at hj; exact hj
                  have := (e6 j hj').keep hkp
                  simp only [hgy, hency]
                  exact this
                · simp only [if_neg hir]
                  have hgy : (xs.set row y)[i]'(by rw [List.length_set]; exact hi) = xs[i] := by
                    rw [List.getElem_set_ne (fun e => hir e.symm)]
                  have := (hr i hi j (by rw [hgy] at hj; exact hj)).keep hkp
                  simp only [hgy]
                  exact this))
              refine ⟨_, c, w.setRow b cur', ?_, hk, ⟨.undef, ?_, ?_, fun _ h => (h rfl).elim⟩⟩
              · exact run_storeAt hi hsz (hvl.symm.trans hlen) e1
              · rw [wrH_set ho]; exact hput.1
              · rw [wrH_set ho]; exact hput.2
        · cases hk
      · cases hk
  · cases hk

/-! ### New rows -/

/-- Rows of cells that stand for elements. -/
def RowsR (C : Cfg) (c : Ctx) (w : World) (e : TypeId) (xs : List (C.E e)) (f : Nat → Nat → Value) : Prop :=
  ∀ i (h : i < xs.length) j (h' : j < (C.enc e xs[i]).length), R C c w (C.enc e xs[i])[j] (f i j)

theorem new_arr {h : Heap C.E} (hh : HR C c w h) {nid : Nat} (hf : Fresh c h nid) {w' : World} (hm : More w w') {b : Nat} {vs : Array Value} {et : TypeId} (hb : w'.heap[b]? = some (.cells vs et (0, 0))) (hnew : w.heap.size ≤ b)
    {e : TypeId} {xs : List (C.E e)} (f : Nat → Nat → Value) (hc : ∀ i j, i < xs.length → j < sizeT C e → vs[i * sizeT C e + j]? = some (f i j)) (hr : RowsR C c w e xs f)
    {cap : Nat} (hl : xs.length ≤ cap) (hcm : cap ≤ maxLen) (hsz : cap * sizeT C e ≤ vs.size) (rd : List Nat) :
    ∃ c', After C c w h c' w' ⟨.sl nid 0 xs.length, [(nid, some (.arr e xs))], rd⟩ (.slice (some ⟨b, 0, none⟩) xs.length cap) := by
  have hk := keeps_new hh hf (some ⟨b, 0, sizeT C e⟩) hm
  have hsn : (newC c nid (some ⟨b, 0, sizeT C e⟩)).σ nid = some ⟨b, 0, sizeT C e⟩ := if_pos rfl
  have hcell : ∀ j, w'.cell? ⟨b, j, none⟩ = vs[j]? := fun j => by simp [World.cell?, hb]
  have := new_obj hh hf (o := .arr e xs) (some ⟨b, 0, sizeT C e⟩) hm (fun loc hl => by
      cases hl
      exact ⟨hnew, vs, et, (0, 0), hb, .inl rfl⟩)
    (.arr hsn f (fun i j hi hj => by rw [hcell, Nat.zero_add]; exact hc i j hi hj) (fun i hi j hj => (hr i hi j hj).keep hk))
  refine ⟨_, ⟨?_, this.1, this.2, fun id hi => by obtain rfl := new_sig hi; exact List.mem_singleton.2 rfl⟩⟩
  have hs := R.sl (C := C) (w := w') (c := newC c nid (some ⟨b, 0, sizeT C e⟩)) (start := 0) (len := xs.length) (cap := cap) hsn (show nid < max c.n (nid + 1) by omega) hl hcm hb (by simpa using hsz)
  simpa using hs

/-- An empty slice of nowhere. -/
theorem new_nowhere {h : Heap C.E} (hh : HR C c w h) {nid : Nat} (hf : Fresh c h nid) (e : TypeId) (a : Option Addr) (rd : List Nat) :
    ∃ c', After C c w h c' w ⟨.sl nid 0 0, [(nid, some (.arr e []))], rd⟩ (.slice a 0 0) := by
  have hsn : (newC c nid none).σ nid = none := if_pos rfl
  have := new_obj hh hf (o := .arr e []) none (More.refl w) (fun loc hl => by cases hl) (.nowhere hsn)
  exact ⟨_, ⟨.sl0 (show nid < max c.n (nid + 1) by omega), this.1, this.2, fun id hi => by obtain rfl := new_sig hi; exact List.mem_singleton.2 rfl⟩⟩

/-! ### Composites -/

/-- Two lists of parts that stand for one another. -/
inductive PartsR (C : Cfg) (c : Ctx) (w : World) : List (Nat × AV C.E) → List (Nat × Value) → Prop
  | nil : PartsR C c w [] []
  | cons {i : Nat} {x : AV C.E} {v : Value} {r : List (Nat × AV C.E)} {s : List (Nat × Value)} (h : R C c w x v) (t : PartsR C c w r s) : PartsR C c w ((i, x) :: r) ((i, v) :: s)

theorem fill_ok {plK pl : Nat → Option (Nat × Nat)} (hpl : ∀ i p, plK i = some p → pl i = some p) : ∀ (ps : List (Nat × AV C.E)) (vs : List (Nat × Value)) (zs cs : List (AV C.E)) (us : Array Value),
    PartsR C c w ps vs → zs.length = us.size → (∀ j (h : j < zs.length), R C c w zs[j] (us.getD j undef)) → fillK zs ps (fun x => x) plK = some cs →
    ∃ us', Instr.fill pl us vs = some us' ∧ cs.length = us'.size ∧ us'.size = us.size ∧ ∀ j (h : j < cs.length), R C c w cs[j] (us'.getD j undef)
  | [], vs, zs, cs, us, hp, hl, hr, hf => by
    cases hp
    simp only [fillK, Option.some.injEq] at hf
    subst hf
    exact ⟨us, rfl, hl, rfl, hr⟩
  | (i, x) :: ps, vs, zs, cs, us, hp, hl, hr, hf => by
    cases hp with
    | cons hx ht =>
      rename_i v s
      simp only [fillK] at hf
      split at hf
      · rename_i off size hp
        split at hf
        · rename_i zs' h1 h2
          obtain ⟨h1, h1c⟩ := and_split h1
          obtain ⟨h1p, h1c⟩ := and_split h1c
          have hsz : x.cells.length = size := Nat.eq_of_beq_eq_true h1
          have hpos : 0 < size := Nat.le_of_ble_eq_true h1p
          obtain ⟨hnb, hnu, hnt⟩ := known_of h1c
          have hvl := R_cells_len hx hnb hnu hnt
          have hvg := R_cells_get hx hnb hnu hnt
          obtain ⟨s1, s2, s3⟩ := splice_spec _ _ _ _ h2
          obtain ⟨g1, g2⟩ := Great.foldl_set off v.cells.toList 0 us
          have hne : x.cells ≠ [] := by
            intro h0
            rw [h0] at hsz
            simp at hsz
            omega
          have hfit := s1 hne
          obtain ⟨us', e1, e2, e3, e4⟩ := fill_ok hpl ps s zs' cs ((v.cells.toList.zipIdx 0).foldl (fun cs (x : Value × Nat) => cs.setIfInBounds (off + x.2) x.1) us) ht (by rw [g1, s2]; exact hl) (fun j hj => by
            have hj' : j < zs.length := by omega
            rw [Array.getD_eq_getD_getElem?, g2 j]
            have := s3 j hj'
            rw [List.getElem?_eq_getElem hj] at this
            by_cases hc : off ≤ j ∧ j < off + x.cells.length
            · rw [if_pos hc, List.getElem?_eq_getElem (show j - off < x.cells.length by omega)] at this
              rw [if_pos ⟨by omega, by rw [Array.length_toList]; omega, by omega⟩]
              have hv := hvg (j - off) (by omega)
              have hjs : j - off < v.cells.size := by omega
              simp only [Option.some.injEq] at this
              rw [this]
              simp only [Array.getD, hjs, dif_pos] at hv
              simpa [hjs] using hv
            · rw [if_neg hc, List.getElem?_eq_getElem hj'] at this
              simp only [Option.some.injEq] at this
              rw [if_neg (by rw [Array.length_toList]; omega), this, ← Array.getD_eq_getD_getElem?]
              exact hr j hj') hf
          refine ⟨us', ?_, e2, by rw [e3, g1], e4⟩
          unfold Instr.fill
          simp only [hpl _ _ hp]
          rw [if_neg (by simp; omega), ← e1]
          congr 1
          rw [← Array.foldl_toList, Array.toList_zipIdx]
        · cases hf
      · cases hf

theorem places_ok {P : Program} : ∀ (fs : List Field), (∀ f ∈ fs, (P.info? f.type).isSome = true) → ∃ places, fs.mapM (fun (f : Field) => (P.info? f.type).map fun i => (f.offset, i.size)) = some places ∧
    ∀ (j : Nat) (f : Field) (i : TypeInfo), fs[j]? = some f → P.info? f.type = some i → places[j]? = some (f.offset, i.size)
  | [], _ => ⟨[], by simp, fun j f i h => by simp at h⟩
  | f :: fs, h => by
    obtain ⟨ps, h1, h2⟩ := places_ok fs (fun g hg => h g (List.mem_cons_of_mem _ hg))
    obtain ⟨i, hi⟩ := Option.isSome_iff_exists.1 (h f List.mem_cons_self)
    refine ⟨(f.offset, i.size) :: ps, by simp [List.mapM_cons, hi, h1], fun j g k hg hk => ?_⟩
    cases j with
    | zero =>
      simp only [List.getElem?_cons_zero, Option.some.injEq] at hg
      subst hg
      rw [hi] at hk
      cases hk
      rfl
    | succ j => simpa using h2 j g k (by simpa using hg) hk

theorem buildK_ok (hC : CfgOK C) {Z : Type} {t : TypeId} {ps : List (Nat × AV C.E)} {vs : Array (Nat × Value)} {K : Eff C.E → Option Z} {z : Z} (hk : buildK C t ps K = some z) (hp : PartsR C c w ps vs.toList) :
    ∃ v r, (Instr.build t vs).run C.P w = .ok v w ∧ K ⟨r, [], []⟩ = some z ∧ R C c w r v := by
  unfold buildK at hk
  split at hk
  · rename_i ti hT
    obtain ⟨i, d, zz, hi, hu, hs, hby, htd, hz, hzl, hzs, hzr, _⟩ := (hC.T _ _ hT).ex
    split at hk
    · rename_i cs hcs
      split at hcs
      · rename_i fs hd
        rw [hd] at htd
        obtain ⟨F, rfl, hF⟩ := htd
        obtain ⟨places, hpl, hpl2⟩ := places_ok F.toList ((hC.T _ _ hT).fld F hu)
        obtain ⟨us', e1, e2, e3, e4⟩ := fill_ok (c := c) (w := w) (pl := (places.toArray[·]?)) (fun i p hp => by
          split at hp
          · rename_i ft off hf
            split at hp
            rotate_left
            · cases hp
            rename_i tf htf
            simp only [Option.some.injEq] at hp
            subst hp
            obtain ⟨f, hf1, hf2, hf3⟩ := hF _ _ _ hf
            have hin : f ∈ F.toList := by simpa using Array.mem_of_getElem? hf1
            obtain ⟨inf, hinf⟩ := Option.isSome_iff_exists.1 ((hC.T _ _ hT).fld F hu f hin)
            have h5 := hpl2 i f inf (by simpa using hf1) hinf
            have h6 : inf.size = tf.size := by
              subst hf2
              obtain ⟨i2, h7, h8⟩ := size_info hC htf
              rw [hinf] at h7
              cases h7
              exact h8
            rw [hf3, h6] at h5
            simpa using h5
          · cases hp) ps vs.toList ti.zero cs zz.cells hp hzl (fun j h => hzr c w j h) hcs
        refine ⟨_, _, run_build w t vs us' ?_, hk, .agg e2 e4⟩
        simp only [Program.built, hi, hu, hz, hpl]
        exact e1
      · rename_i n e hd
        rw [hd] at htd
        simp only [TDOK] at htd
        subst htd
        obtain ⟨ie, hie, hse, _⟩ := elem_info hC hT (.inr ⟨n, hd⟩)
        obtain ⟨us', e1, e2, e3, e4⟩ := fill_ok (c := c) (w := w) (pl := fun i => some (i * sizeT C e, sizeT C e)) (fun i p hp => hp) ps vs.toList ti.zero cs zz.cells hp hzl (fun j h => hzr c w j h) hcs
        refine ⟨_, _, run_build w t vs us' ?_, hk, .agg e2 e4⟩
        simp only [Program.built, hi, hu, hz, hie, hse]
        exact e1
      · cases hcs
    · cases hk
  · cases hk

theorem PartsR.keep {c' : Ctx} {w' : World} (hk : Keeps c w c' w') {ps : List (Nat × AV C.E)} {vs : List (Nat × Value)} (h : PartsR C c w ps vs) : PartsR C c' w' ps vs := by
  induction h with
  | nil => exact .nil
  | cons h _ ih => exact .cons (h.keep hk) ih

theorem parts_of {ρ : Operand → AV C.E} {ev : Operand → Value} (h : ∀ x, R C c w (ρ x) (ev x)) : ∀ (l : List (Nat × Operand)), PartsR C c w (l.map fun p => (p.1, ρ p.2)) (l.map fun p => (p.1, ev p.2))
  | [] => .nil
  | _ :: l => .cons (h _) (parts_of h l)

theorem replicate_flatten_get {α : Type} (z : List α) (hz : 0 < z.length) : ∀ (n k : Nat), k < n * z.length → (List.replicate n z).flatten[k]? = z[k % z.length]?
  | 0, k, h => by simp at h
  | n + 1, k, h => by
    rw [List.replicate_succ, List.flatten_cons]
    by_cases hk : k < z.length
    · rw [List.getElem?_append_left hk, Nat.mod_eq_of_lt hk]
    · rw [List.getElem?_append_right (by omega), replicate_flatten_get z hz n (k - z.length) (by rw [Nat.add_mul, Nat.one_mul] at h; omega)]
      congr 1
      rw [← Nat.mod_eq_sub_mod (by omega)]

theorem flatten_len {α : Type} (z : List α) : ∀ n, (List.replicate n z).flatten.length = n * z.length
  | 0 => by simp
  | n + 1 => by rw [List.replicate_succ, List.flatten_cons, List.length_append, flatten_len z n, Nat.add_mul, Nat.one_mul, Nat.add_comm]

/-- Decoded chunks of cells that stand for a row of the model's. -/
theorem rows_of (hC : CfgOK C) {e : TypeId} {n : Nat} {cs : List (AV C.E)} {rows : List (List (AV C.E))} {xs : List (C.E e)} {us : Array Value} (h1 : chunks (sizeT C e) n cs = some rows) (h2 : decAll C e rows = some xs)
    (hl : cs.length = us.size) (hr : ∀ j (h : j < cs.length), R C c w cs[j] (us.getD j undef)) :
    xs.length = n ∧ (∀ i j, i < xs.length → j < sizeT C e → us[i * sizeT C e + j]? = some (us.getD (i * sizeT C e + j) undef)) ∧ RowsR C c w e xs (fun i j => us.getD (i * sizeT C e + j) undef) := by
  obtain ⟨a1, a2, a3⟩ := chunks_spec _ _ _ _ h1
  obtain ⟨b1, b2⟩ := decAll_spec hC _ _ h2
  refine ⟨by omega, fun i j hi hj => ?_, fun i hi j hj => ?_⟩
  · obtain ⟨_, _, h5⟩ := a3 i j (by omega) hj
    have h6 : i * sizeT C e + j < us.size := by
      have := (List.getElem?_eq_some_iff.1 h5).1
      omega
    simp [Array.getD, h6]
  · have hj' : j < sizeT C e := by rw [← hC.enc e xs[i]]; exact hj
    obtain ⟨h3, h4, h5⟩ := a3 i j (by omega) hj'
    obtain ⟨h6, h7⟩ := List.getElem?_eq_some_iff.1 h5
    have he := b2 i h3 hi
    have : (C.enc e xs[i])[j] = cs[i * sizeT C e + j] := by
      rw [h7]
      simp only [he]
    rw [this]
    exact hr _ h6

theorem sizeT_eq {e : Nat} {te : TI C.E} (h : C.T e = some te) : sizeT C e = te.size := by unfold sizeT; rw [h]

theorem buildSliceK_ok (hC : CfgOK C) {Z : Type} {h : Heap C.E} {t : TypeId} {len : Nat} {ps : List (Nat × AV C.E)} {vs : Array (Nat × Value)} {nid : Nat} {K : Eff C.E → Option Z} {z : Z} (hk : buildSliceK C t len ps nid K = some z)
    (hh : HR C c w h) (hf : Fresh c h nid) (hp : PartsR C c w ps vs.toList) :
    ∃ v e c' w', (Instr.buildSlice t len vs).run C.P w = .ok v w' ∧ K e = some z ∧ After C c w h c' w' e v := by
  unfold buildSliceK at hk
  split at hk
  · rename_i e eq sz by_ zr hT
    split at hk
    · rename_i te hte
      split at hk
      · rename_i cs h1 h2
        split at hk
        · rename_i rows h3
          cases h4 : decAll C e rows with
          | none => rw [h4] at hk; cases hk
          | some xs =>
            rw [h4] at hk
            obtain ⟨ie, _, zz, hie, _, hse, _, _, hz, hzl, hzs, hzr, _⟩ := (hC.T _ _ hte).ex
            have hu := under_slice hC hT rfl
            have hpos := (hC.T _ _ hte).pos
            have hste := sizeT_eq hte
            rw [← hste] at h3
            have hsm : ¬ len * ie.size > 2 ^ 24 := by
              have := Nat.le_of_ble_eq_true h1
              rw [hse]; omega
            by_cases hlen : len = 0
            · subst hlen
              -- an empty literal: a row without cells
              have hps : ps = [] ∧ cs = [] := by
                cases ps with
                | nil => simp only [fillK, List.replicate_zero, List.flatten_nil, Option.some.injEq] at h2; exact ⟨rfl, h2.symm⟩
                | cons p r =>
                  obtain ⟨i, x⟩ := p
                  simp only [fillK, List.replicate_zero, List.flatten_nil] at h2
                  split at h2
                  · rename_i zs' h5 h6
                    obtain ⟨h5, h7⟩ := and_split h5
                    obtain ⟨h7, h8⟩ := and_split h7
                    have hsz0 := Nat.eq_of_beq_eq_true h5
                    have hps0 := Nat.le_of_ble_eq_true h7
                    have hne : x.cells ≠ [] := by
                      intro h0; rw [h0] at hsz0
                      simp at hsz0; omega
                    have h9 := (splice_spec _ _ _ _ h6).1 hne
                    have hl := List.length_pos_iff.2 hne
                    simp only [List.length_nil] at h9
                    omega
                  · cases h2
              obtain ⟨rfl, rfl⟩ := hps
              cases hp' : vs.toList with
              | cons p r => rw [hp'] at hp; cases hp
              | nil =>
                have hrun : (Instr.buildSlice t 0 vs).run C.P w = .ok (.slice (some ⟨w.heap.size, 0, none⟩) 0 0) (w.alloc (.cells #[] e)) := by
                  simp [Instr.buildSlice, run_underlying hu, run_sizeOf' hie, hp', Instr.fill, newRow, Array.range_zero']
                obtain ⟨hxl, hx1, hx2⟩ := rows_of (c := c) (w := w) hC (us := #[]) h3 h4 rfl (fun j h => absurd h (Nat.not_lt_zero _))
                obtain ⟨c', hA⟩ := new_arr (xs := xs) hh hf (More.alloc w (.cells #[] e)) (heap_alloc_new w _) (Nat.le_refl _) _ hx1 hx2 (cap := 0) (by omega) (by unfold maxLen; omega) (by simp) []
                rw [hxl] at hA
                exact ⟨_, _, c', _, hrun, hk, hA⟩
            · have hpos' : ¬ len * ie.size = 0 := by
                rw [hse]
                intro h0
                rcases Nat.mul_eq_zero.1 h0 with h | h <;> omega
              have hmod : ∀ k, k < len * te.size → ((Array.range (len * ie.size)).map (zz.cells[· % zz.cells.size]!))[k]? = zz.cells[k % zz.cells.size]? := by
                intro k hk
                rw [Array.getElem?_map, Array.getElem?_range, if_pos (by rw [hse]; exact hk)]
                have : k % zz.cells.size < zz.cells.size := Nat.mod_lt _ (by omega)
                simp [this]
              obtain ⟨us', e1, e2, e3, e4⟩ := fill_ok (c := c) (w := w) (pl := fun i => some (i * ie.size, ie.size)) (fun i p hp => by rw [hse]; exact hp) ps vs.toList (List.replicate len te.zero).flatten cs
                ((Array.range (len * ie.size)).map (zz.cells[· % zz.cells.size]!)) hp (by rw [flatten_len]; simp [hse, hzl, hzs]) (fun j hj => by
                  rw [flatten_len, hzl, hzs] at hj
                  have h5 := replicate_flatten_get te.zero (by omega) len j (by rw [hzl, hzs]; exact hj)
                  have h6 : j % te.zero.length < te.zero.length := Nat.mod_lt _ (by omega)
                  rw [List.getElem?_eq_getElem h6] at h5
                  obtain ⟨_, h8⟩ := List.getElem?_eq_some_iff.1 h5
                  rw [h8, Array.getD_eq_getD_getElem?, hmod j hj, ← Array.getD_eq_getD_getElem?, ← hzl]
                  exact hzr c w _ h6) h2
              have hrun := run_buildSlice (P := C.P) w t e len vs us' ie zz hu hie hz hsm hpos' e1
              have husz : us'.size = len * sizeT C e := by rw [e3, hste, ← hse]; simp
              obtain ⟨hxl, hx1, hx2⟩ := rows_of (c := c) (w := w) hC h3 h4 e2 e4
              obtain ⟨c', hA⟩ := new_arr (xs := xs) hh hf (More.alloc w (.cells us' e)) (heap_alloc_new w _) (Nat.le_refl _) _ hx1 hx2 (cap := len) (by omega) (by
                have := Nat.le_of_ble_eq_true h1
                have : len ≤ len * te.size := Nat.le_mul_of_pos_right _ hpos
                unfold maxLen; omega) (by omega) []
              rw [hxl] at hA
              exact ⟨_, _, c', _, hrun, hk, hA⟩
        · cases hk
      · cases hk
    · cases hk
  · cases hk

theorem makeK_ok (hC : CfgOK C) {Z : Type} {h : Heap C.E} {t : TypeId} {l cp : AV C.E} {vl vc : Value} {nid : Nat} {K : Eff C.E → Option Z} {z : Z} (hk : makeK C t l cp nid K = some z)
    (hh : HR C c w h) (hf : Fresh c h nid) (hl : R C c w l vl) (hcp : R C c w cp vc) :
    ∃ v e c' w', (Instr.makeSlice t vl vc).run C.P w = .ok v w' ∧ K e = some z ∧ After C c w h c' w' e v := by
  unfold makeK at hk
  split at hk
  · rename_i e eq sz by_ zr k1 n k2 m hT
    split at hk
    · rename_i te hte
      cases h4 : C.dec e te.zero with
      | none => rw [h4] at hk; cases hk
      | some zx =>
        rw [h4] at hk
        obtain ⟨hb, hk⟩ := cond_some hk
        obtain ⟨hb, hb4⟩ := and_split hb
        obtain ⟨hb, hb3⟩ := and_split hb
        obtain ⟨hb1, hb2⟩ := and_split hb
        have h0 : 0 ≤ n := by simpa using hb1
        have h1 : n ≤ m := by simpa using hb2
        have h2 : m * te.bytes ≤ 140737488355328 := by simpa using hb3
        have h3 : m ≤ 140737488355328 := by simpa using hb4
        obtain ⟨ie, _, zz, hie, _, hse, hby, _, hz, hzl, hzs, hzr, _⟩ := (hC.T _ _ hte).ex
        have hu := under_slice hC hT rfl
        have hpos := (hC.T _ _ hte).pos
        have hste := sizeT_eq hte
        cases hl
        cases hcp
        have hrun := run_make (P := C.P) w t e ie zz hu hie hz k1 k2 n m h0 h1 (by rw [hby, Int.mul_comm]; omega) (by omega)
        have hmod : ∀ k, k < m.toNat * ie.size → (madeCells zz.cells (m.toNat * ie.size))[k]? = zz.cells[k % zz.cells.size]? := by
          intro k hk
          unfold madeCells
          rw [Array.getElem?_map, Array.getElem?_range, if_pos hk]
          have : k % zz.cells.size < zz.cells.size := Nat.mod_lt _ (by omega)
          simp [this]
        have henc := hC.dec _ _ _ h4
        have hxl : (List.replicate n.toNat zx).length = n.toNat := by simp
        have hidx : ∀ i j, i < n.toNat → j < sizeT C e → i * sizeT C e + j < m.toNat * ie.size ∧ (i * sizeT C e + j) % zz.cells.size = j := by
          intro i j hi hj
          refine ⟨?_, ?_⟩
          · have : (i + 1) * sizeT C e ≤ m.toNat * sizeT C e := Nat.mul_le_mul_right _ (by omega)
            rw [Nat.add_mul, Nat.one_mul] at this
            rw [hse, ← hste]; omega
          · rw [hzs, ← hste, Nat.mul_comm, Nat.mul_add_mod]
            exact Nat.mod_eq_of_lt hj
        obtain ⟨c', hA⟩ := new_arr (xs := List.replicate n.toNat zx) hh hf (More.alloc w (.cells (madeCells zz.cells (m.toNat * ie.size)) e)) (heap_alloc_new w _) (Nat.le_refl _) (fun _ j => zz.cells.getD j undef)
          (fun i j hi hj => by
            rw [hxl] at hi
            obtain ⟨a1, a2⟩ := hidx i j hi hj
            rw [hmod _ a1, a2]
            have : j < zz.cells.size := by omega
            simp [Array.getD, this])
          (fun i hi j hj => by
            have hg : (List.replicate n.toNat zx)[i] = zx := by simp
            have hj2 : j < te.zero.length := by
              have h9 := hj
              rw [hg, henc] at h9
              exact h9
            have := hzr c w j hj2
            simp only [hg, henc]
            exact this) (cap := m.toNat) (by omega) (by unfold maxLen; omega) (by rw [size_madeCells, hse, hste]; exact Nat.le_refl _) []
        rw [hxl] at hA
        exact ⟨_, _, c', _, hrun, hk, hA⟩
    · cases hk
  · cases hk

/-! ### Slice expressions -/

theorem bnd_run {lo : Option (AV C.E)} {vlo : Option Value} {d i : Int} (h : bnd lo d = some i) (h1 : ∀ y, lo = some y → ∃ u, vlo = some u ∧ R C c w y u) (h2 : lo = none → vlo = none) : (vlo = none ∧ i = d) ∨ ∃ k, vlo = some (.int k i) :=
  bnd_ok h h1 h2

theorem sliceAt_slice {t e : TypeId} (hu : C.P.underlying t = some (.slice e)) {ie : TypeInfo} {n : Nat} (hie : C.P.info? e = some ie) (hs : ie.size = n) {a : Option Addr} {len cap : Nat} {lo hi mx : Option Value} {l h m : Nat}
    (hb : (Instr.sliceBounds true len cap lo hi mx).run C.P w = .ok (l, h, m) w) :
    (Instr.sliceAt t (.slice a len cap) lo hi mx).run C.P w = .ok (.slice (if m = l then a else a.map (·.add (l * n))) (h - l) (m - l)) w := by
  simp [Instr.sliceAt, Instr.slice, run_underlying hu, hb, run_sizeOf' hie, hs]

theorem sliceK_ok (hC : CfgOK C) {Z : Type} {h : Heap C.E} {t : TypeId} {x : AV C.E} {lo hi mx : Option (AV C.E)} {vx : Value} {vlo vhi vmx : Option Value} {K : Eff C.E → Option Z} {z : Z}
    (hk : sliceK C t x lo hi mx (lookH h) K = some z) (hh : HR C c w h) (hx : R C c w x vx) (hb : Bounds C c w lo hi mx vlo vhi vmx) :
    ∃ v e c', (Instr.sliceAt t vx vlo vhi vmx).run C.P w = .ok v w ∧ K e = some z ∧ After C c w h c' w e v := by
  unfold sliceK at hk
  split at hk
  · cases hk
  · rename_i hm0
    have hnn : vhi = none → vmx = none := by
      intro h0
      cases hi with
      | some y => obtain ⟨u, h1, _⟩ := hb.b y rfl; rw [h1] at h0; cases h0
      | none =>
        cases mx with
        | none => exact hb.mn rfl
        | some m => simp at hm0
    split at hk
    · rename_i e' eq sz by_ zr e xs hT
      split at hk
      · rename_i l h1 m heq hl hh1 hm
        obtain rfl := Nat.eq_of_beq_eq_true heq
        obtain ⟨hc, hk⟩ := cond_some hk
        obtain ⟨hc, c4⟩ := and_split hc
        obtain ⟨hc, c3⟩ := and_split hc
        obtain ⟨c1, c2⟩ := and_split hc
        have c1 : 0 ≤ l := by simpa using c1
        have c2 : l ≤ h1 := by simpa using c2
        have c3 : h1 ≤ m := by simpa using c3
        have c4 : m ≤ (xs.length : Int) := by simpa using c4
        have hu := under_slice hC hT rfl
        obtain ⟨ie, hie, hse, _⟩ := elem_info hC hT (.inl rfl)
        have key : ∀ (a : Option Addr) (cap : Nat), R C c w (.imm e' xs) (.slice a xs.length cap) → xs.length ≤ cap → vx = .slice a xs.length cap → ∃ v e c', (Instr.sliceAt t vx vlo vhi vmx).run C.P w = .ok v w ∧ K e = some z ∧ After C c w h c' w e v := by
          intro a cap hr hcap hv
          subst hv
          obtain ⟨M, e1, e2, e3, _⟩ := run_bounds (C := C) (w := w) (len := xs.length) (cap := cap) (bnd_run hl hb.a hb.an) (bnd_run hh1 hb.b hb.bn) (bnd_run hm hb.m hb.mn) hnn c1 c2 c3 c4 hcap true
          exact ⟨_, _, c, sliceAt_slice hu hie hse e1, hk, After.quiet hh (R_imm_cut hr (by omega) (by omega) e2 e3) rfl⟩
        have hx' := hx
        cases hx with
        | imm0 hm2 ha => exact key _ _ hx' (Nat.zero_le _) rfl
        | imm f hI hl2 hm2 hc2 hr2 => exact key _ _ hx' hl2 rfl
      · cases hk
    · rename_i e' eq sz by_ zr id start len hT
      split at hk
      · rename_i e xs l h1 m hob hl hh1 hm
        split at hk
        · rename_i heq
          obtain rfl := Nat.eq_of_beq_eq_true heq
          obtain ⟨hc, hk2⟩ := cond_some hk
          clear hk
          obtain ⟨hc, c4⟩ := and_split hc
          obtain ⟨hc, c3⟩ := and_split hc
          obtain ⟨c1, c2⟩ := and_split hc
          have c1 : 0 ≤ l := by simpa using c1
          have c2 : l ≤ h1 := by simpa using c2
          have c3 : h1 ≤ m := by simpa using c3
          have c4 : m ≤ (len : Int) := by simpa using c4
          have hu := under_slice hC hT rfl
          obtain ⟨ie, hie, hse, _⟩ := elem_info hC hT (.inl rfl)
          cases hx with
          | sl0 hn =>
            obtain ⟨M, e1, e2, e3, _⟩ := run_bounds (C := C) (w := w) (len := 0) (cap := 0) (bnd_run hl hb.a hb.an) (bnd_run hh1 hb.b hb.bn) (bnd_run hm hb.m hb.mn) hnn c1 c2 c3 c4 (Nat.le_refl _) true
            have hl0 : l.toNat = 0 := by omega
            have hh0 : h1.toNat = 0 := by omega
            have hM0 : M = 0 := by omega
            refine ⟨_, _, c, sliceAt_slice hu hie hse e1, hk2, After.quiet hh ?_ rfl⟩
            rw [hl0, hh0, hM0]
            exact .sl0 hn
          | sl hs hn hl1 hm2 hb2 hsz =>
            rename_i cap loc cs0 e0 fr0
            have hwd : loc.wd = sizeT C e' := by
              cases hh.ob _ _ (lookH_some hob) with
              | nowhere hs' => rw [hs'] at hs; cases hs
              | arr hs' f hc hr => rw [hs'] at hs; cases hs; rfl
            obtain ⟨M, e1, e2, e3, _⟩ := run_bounds (C := C) (w := w) (len := len) (cap := cap) (bnd_run hl hb.a hb.an) (bnd_run hh1 hb.b hb.bn) (bnd_run hm hb.m hb.mn) hnn c1 c2 c3 c4 hl1 true
            refine ⟨_, _, c, sliceAt_slice hu hie hse e1, hk2, After.quiet hh ?_ rfl⟩
            by_cases hM : M = l.toNat
            · have : h1.toNat - l.toNat = 0 := by omega
              rw [if_pos hM, this, hM, Nat.sub_self]
              exact .sl0 hn
            · rw [if_neg hM]
              have := R.sl (C := C) (w := w) (start := start + l.toNat) (len := h1.toNat - l.toNat) (cap := M - l.toNat) hs hn (by omega) (by omega) hb2 (by
                have h9 : (start + l.toNat + (M - l.toNat)) * loc.wd ≤ (start + cap) * loc.wd := Nat.mul_le_mul_right _ (by omega)
                omega)
              simpa [add_none, hwd, Nat.add_mul, Nat.add_assoc] using this
        · cases hk
      · cases hk
    · rename_i n e eq sz by_ zr id hT
      split at hk
      · rename_i cells te hob hte
        split at hk
        · rename_i rows hbl hch
          cases h4 : decAll C e rows with
          | none => rw [h4] at hk; cases hk
          | some xs =>
            rw [h4] at hk
            have hu := under_array hC hT rfl
            obtain ⟨ie, hie, hse, _⟩ := elem_info hC hT (.inr ⟨n, rfl⟩)
            have ho := lookH_some hob
            have hste := sizeT_eq hte
            rw [← hste] at hch
            cases hx with
            | ptr hs hn =>
              cases hh.ob _ _ ho with
              | box hs' f hcell hr =>
                rename_i b
                rw [hs'] at hs
                cases hs
                obtain ⟨h5, h6⟩ := drop_obj hh ho hs'
                obtain ⟨a1, a2, a3⟩ := chunks_spec _ _ _ _ hch
                obtain ⟨b1, b2⟩ := decAll_spec hC _ _ h4
                obtain ⟨⟨cur, et, fr, hg, _⟩, _⟩ := hh.soft _ _ _ ho hs'
                have hnm : n ≤ maxLen := by have := Nat.le_of_ble_eq_true hbl; unfold maxLen; omega
                have hvl : vlo = none := hb.an rfl
                have hvh : vhi = none := hb.bn rfl
                have hvm : vmx = none := hb.mn rfl
                subst hvl hvh hvm
                have hrun : (Instr.sliceAt t (.pointer (some ⟨b, 0 + 0 * cells.length + 0, none⟩)) none none none).run C.P w = .ok (.slice (some ⟨b, 0, none⟩) n n) w := by
                  have e1 : (Instr.sliceBounds false n n none none none).run C.P w = .ok (0, n, n) w := by simp [Instr.sliceBounds]
                  simp [Instr.sliceAt, run_underlying hu, Instr.sureAddr, e1, run_sizeOf' hie, Addr.add_zero']
                refine ⟨_, _, dropC c b, hrun, hk, ?_, ?_, ?_, fun _ h => (h rfl).elim⟩
                · have hxl : xs.length = n := by omega
                  have hcd : ∀ i j, i < xs.length → j < sizeT C e → i * sizeT C e + j < cells.length := by
                    intro i j hi hj
                    obtain ⟨_, _, h7⟩ := a3 i j (by omega) hj
                    exact (List.getElem?_eq_some_iff.1 h7).1
                  have := R.imm (C := C) (c := dropC c b) (w := w) (e := e) (xs := xs) (b := b) (off := 0) (cap := n) (fun i j => f (i * sizeT C e + j)) (.inr rfl) (by omega) hnm
                    (fun i j hi hj => by rw [Nat.zero_add]; exact hcell _ (hcd i j hi hj))
                    (fun i hi j hj => by
                      have hj' : j < sizeT C e := by rw [← hC.enc e xs[i]]; exact hj
                      obtain ⟨h7, h8, h9⟩ := a3 i j (by omega) hj'
                      obtain ⟨h10, h11⟩ := List.getElem?_eq_some_iff.1 h9
                      have he := b2 i h7 hi
                      have h12 : (C.enc e xs[i])[j] = cells[i * sizeT C e + j] := by rw [h11]; simp only [he]
                      rw [h12]
                      exact (hr _ h10).keep (keeps_drop _))
                  rw [hxl] at this
                  exact this
                · rw [wrH_set ho]; exact h5
                · rw [wrH_set ho]; exact h6
        · cases hk
      · cases hk
    · cases hk

/-! ### append -/

/-- What a slice holds: its cells, one behind the other. -/
def Holds (C : Cfg) (c : Ctx) (w : World) (e : TypeId) (vx : Value) (ys : List (C.E e)) : Prop :=
  ∃ a cap, vx = .slice a ys.length cap ∧ ys.length ≤ cap ∧ cap ≤ maxLen ∧ (0 < ys.length → ∃ (b off : Nat) (f : Nat → Nat → Value), a = some ⟨b, off, none⟩ ∧ b < w.heap.size ∧
      (∀ i j, i < ys.length → j < sizeT C e → w.cell? ⟨b, off + i * sizeT C e + j, none⟩ = some (f i j)) ∧ RowsR C c w e ys f)

theorem RowsR_cut {e : TypeId} {xs : List (C.E e)} {f : Nat → Nat → Value} (hr : RowsR C c w e xs f) (start len : Nat) : RowsR C c w e ((xs.drop start).take len) (fun i => f (start + i)) := by
  intro i hi j hj
  have hi' : start + i < xs.length := by rw [List.length_take, List.length_drop] at hi; omega
  have hg : ((xs.drop start).take len)[i] = xs[start + i] := by simp
  have := hr (start + i) hi' j (by rw [← hg]; exact hj)
  simp only [hg]
  exact this

theorem readSl_ok {h : Heap C.E} (hh : HR C c w h) {e : TypeId} {x : AV C.E} {vx : Value} {Z : Type} {K : List (C.E e) → List Nat → Option Z} {z : Z} (hk : readSl C (lookH h) e x K = some z) (hx : R C c w x vx) :
    ∃ ys rd, K ys rd = some z ∧ Holds C c w e vx ys ∧ (∀ id start len, x = .sl id start len → ∃ xs, h[id]? = some (some (.arr e xs)) ∧ start + len ≤ xs.length ∧ ys = (xs.drop start).take len ∧ rd = [id]) := by
  unfold readSl at hk
  split at hk
  · cases hx
    exact ⟨_, _, hk, ⟨none, 0, rfl, Nat.le_refl _, by unfold maxLen; omega, fun h => absurd h (Nat.not_lt_zero _)⟩, fun _ _ _ h => (by cases h)⟩
  · rename_i e' xs
    split at hk
    · rename_i heq _
      subst heq
      refine ⟨_, _, hk, ?_, fun _ _ _ h => (by cases h)⟩
      cases hx with
      | imm0 hm ha => exact ⟨_, _, rfl, Nat.zero_le _, hm, fun h => absurd h (Nat.not_lt_zero _)⟩
      | imm f hI hl hm hc hr => exact ⟨_, _, rfl, hl, hm, fun _ => ⟨_, _, f, rfl, hh.bnd _ hI, hc, hr⟩⟩
    · cases hk
  · rename_i e' xs
    split at hk
    · rename_i heq _
      subst heq
      refine ⟨_, _, hk, ?_, fun _ _ _ h => (by cases h)⟩
      cases hx with
      | him0 hm ha => exact ⟨_, _, rfl, Nat.zero_le _, hm, fun h => absurd h (Nat.not_lt_zero _)⟩
      | him f hI _ hl hm hc hr => exact ⟨_, _, rfl, hl, hm, fun _ => ⟨_, _, f, rfl, hh.bnd _ hI, hc, hr⟩⟩
    · cases hk
  · rename_i id start len
    split at hk
    · rename_i e' xs hob
      split at hk
      · rename_i heq _
        subst heq
        obtain ⟨hle, hk⟩ := cond_some hk
        have hle : start + len ≤ xs.length := by simpa using hle
        have ho := lookH_some hob
        have hlen : ((xs.drop start).take len).length = len := by rw [List.length_take, List.length_drop]; omega
        refine ⟨_, _, hk, ?_, fun _ _ _ h => (by cases h; exact ⟨xs, ho, hle, rfl, rfl⟩)⟩
        cases hx with
        | sl0 hn =>
          rw [List.take_zero]
          exact ⟨_, _, rfl, Nat.zero_le _, by unfold maxLen; omega, fun h => absurd h (Nat.not_lt_zero _)⟩
        | sl hs hn hl hm hb hsz =>
          rename_i cap loc cs0 e0 fr0
          cases hh.ob _ _ ho with
          | nowhere hs' => rw [hs'] at hs; cases hs
          | arr hs' f hc hr =>
            rename_i b base
            rw [hs'] at hs
            cases hs
            refine ⟨_, cap, by rw [hlen], (by show ((xs.drop start).take len).length ≤ cap; omega), hm, fun _ => ⟨b, base + start * sizeT C e', fun i => f (start + i), rfl, lt_of_cells hb, fun i j hi hj => ?_, RowsR_cut hr start len⟩⟩
            rw [hlen] at hi
            have := hc (start + i) j (by omega) hj
            rw [Nat.add_mul, ← Nat.add_assoc] at this
            exact this
      · cases hk
    · cases hk
  · cases hk

/-! ### Slices of no place; bytes -/

theorem sliceZero {t e : TypeId} (hu : C.P.underlying t = some (.slice e)) {ie : TypeInfo} (hie : C.P.info? e = some ie) {a : Option Addr} {len cap : Nat} {k1 k2 : IntKind} :
    (Instr.sliceAt t (.slice a len cap) none (some (.int k1 0)) (some (.int k2 0))).run C.P w = .ok (.slice a 0 0) w := by
  have hb : (Instr.sliceBounds true len cap none (some (.int k1 0)) (some (.int k2 0))).run C.P w = .ok (0, 0, 0) w := by
    simp [Instr.sliceBounds, Instr.sliceBound, asIntOf]
  have := sliceAt_slice (C := C) (w := w) hu hie rfl (a := a) (len := len) (cap := cap) hb
  simpa using this

theorem zeroK_ok (hC : CfgOK C) {Z : Type} {h : Heap C.E} {t : TypeId} {x : AV C.E} {hi mx : Option (AV C.E)} {vx : Value} {vhi vmx : Option Value} {nid : Nat} {K : Eff C.E → Option Z} {z : Z}
    (hk : zeroK C t x hi mx nid K = some z) (hh : HR C c w h) (hf : Fresh c h nid) (hx : R C c w x vx) (hb : Bounds C c w none hi mx none vhi vmx) :
    ∃ v e c', (Instr.sliceAt t vx none vhi vmx).run C.P w = .ok v w ∧ K e = some z ∧ After C c w h c' w e v := by
  unfold zeroK at hk
  split at hk
  · rename_i k1 a k2 b
    obtain ⟨u1, e1, r1⟩ := hb.b _ rfl
    obtain ⟨u2, e2, r2⟩ := hb.m _ rfl
    cases r1
    cases r2
    subst e1; subst e2
    have go : ∀ {e : TypeId} {eq : Bool} {sz by_ : Nat} {zr : List (AV C.E)}, (decide (a = 0) && decide (b = 0)) = true → C.T t = some ⟨.slice e, eq, sz, by_, zr⟩ → K ⟨.sl nid 0 0, [(nid, some (.arr e []))], []⟩ = some z → (∃ ad len cap, vx = .slice ad len cap) →
        ∃ v e c', (Instr.sliceAt t vx none (some (.int k1 a)) (some (.int k2 b))).run C.P w = .ok v w ∧ K e = some z ∧ After C c w h c' w e v := by
      rintro e eq sz by_ zr hz hT hq ⟨ad, len, cap, rfl⟩
      obtain ⟨h1, h2⟩ := and_split hz
      have h1 := of_decide_eq_true h1
      have h2 := of_decide_eq_true h2
      subst h1; subst h2
      obtain ⟨ie, hie, _⟩ := elem_info hC hT (.inl rfl)
      obtain ⟨c', hA⟩ := new_nowhere hh hf e ad []
      exact ⟨_, _, c', sliceZero (under_slice hC hT rfl) hie, hq, hA⟩
    split at hk
    · rename_i hz hT
      refine go hz hT hk ?_
      cases hx with
      | imm0 _ _ => exact ⟨_, _, _, rfl⟩
      | imm _ _ _ _ _ _ => exact ⟨_, _, _, rfl⟩
    · rename_i hz hT
      refine go hz hT hk ?_
      cases hx with
      | sl0 _ => exact ⟨_, _, _, rfl⟩
      | sl _ _ _ _ _ _ => exact ⟨_, _, _, rfl⟩
    · rename_i hz hT
      refine go hz hT hk ?_
      cases hx with
      | nils => exact ⟨_, _, _, rfl⟩
    · cases hk
  · cases hk

theorem byteT_ok (hC : CfgOK C) {e : TypeId} (h : byteT C e = true) : C.P.underlying e = some (.int .u8) ∧ sizeT C e = 1 := by
  unfold byteT at h
  split at h
  · rename_i k eq sz by_ zr hT
    have hk := of_decide_eq_true h
    subst hk
    have hOK := hC.T _ _ hT
    obtain ⟨_, d, _, _, hu, _, _, htd, _⟩ := hOK.ex
    simp only [TDOK] at htd
    subst htd
    exact ⟨hu, by rw [sizeT, hT]; exact hOK.one rfl⟩
  · cases h

/-- An object that is marked, and given up. -/
theorem drop_marked {h : Heap C.E} {w' : World} (hh : HR C c w h) {id : Nat} {o : Ob C.E} {loc : Loc} (ho : h[id]? = some (some o)) (hs : c.σ id = some loc) (hos : w'.os = w.os) (htp : w'.tape = w.tape) (hou : w'.output = w.output) (hsz : w'.heap.size = w.heap.size)
    (hne : ∀ k, k ≠ loc.blk → w'.heap[k]? = w.heap[k]?) (hmk : ∀ cs e fr, w.heap[loc.blk]? = some (Obj.cells cs e fr) → ∃ fr', w'.heap[loc.blk]? = some (Obj.cells cs e fr')) :
    HR C (dropC c loc.blk) w' (h.set id none) ∧ Le c h w (dropC c loc.blk) (h.set id none) w' := by
  have hother : ∀ (i : Nat) (oi : Ob C.E), (h.set id none)[i]? = some (some oi) → h[i]? = some (some oi) ∧ i ≠ id := by
    intro i oi hi
    by_cases he : i = id
    · subst he
      rw [List.getElem?_set_self (lt_of_getElem? ho)] at hi
      cases hi
    · rw [List.getElem?_set_ne (fun e => he e.symm)] at hi
      exact ⟨hi, he⟩
  have hI : ∀ k, c.I k → k ≠ loc.blk := fun k hk he => (hh.soft id o loc ho hs).2 (he ▸ hk)
  have hdiff : ∀ (i : Nat) (oi : Ob C.E) (li : Loc), h[i]? = some (some oi) → i ≠ id → c.σ i = some li → li.blk ≠ loc.blk := fun i oi li hi hne hsi hb => hne (hh.inj i id oi o li loc hi ho hsi hs hb)
  have hshape : ∀ (k : Nat) (cs : Array Value) (e : TypeId) (fr : Nat × Nat), w.heap[k]? = some (Obj.cells cs e fr) → ∃ cs' fr', w'.heap[k]? = some (Obj.cells cs' e fr') ∧ cs'.size = cs.size := by
    intro k cs e fr hk
    by_cases hkb : k = loc.blk
    · subst hkb
      obtain ⟨fr', h1⟩ := hmk cs e fr hk
      exact ⟨cs, fr', h1, rfl⟩
    · exact ⟨cs, fr, (hne k hkb).trans hk, rfl⟩
  have hkp : Keeps c w (dropC c loc.blk) w' := ⟨Nat.le_refl _, fun _ _ _ h => h, fun _ h => .inl h, fun _ h => .inl h, fun k hk => hne k (hI k hk), hshape⟩
  refine ⟨⟨hh.gl.keep hkp, by simp [hh.len, dropC], hh.sn, ?_, fun k hk => hk.imp (hh.hI k) (fun h => h), ?_, ?_, ?_⟩, ?_⟩
  · rintro k (hk | rfl)
    · rw [hsz]; exact hh.bnd k hk
    · rw [hsz]; exact (hh.soft id o loc ho hs).1.lt
  · intro i oi hi
    obtain ⟨hi', hne'⟩ := hother i oi hi
    exact ObR_keep hkp (hh.ob i oi hi') (by have := lt_of_getElem? hi'; have := hh.len; omega) (fun h => h) (fun li hl => hne _ (hdiff i oi li hi' hne' hl))
  · intro i oi li hi hsi
    obtain ⟨hi', hne'⟩ := hother i oi hi
    obtain ⟨h1, h2⟩ := hh.soft i oi li hi' hsi
    have hb := hne _ (hdiff i oi li hi' hne' hsi)
    refine ⟨h1.same hb, ?_⟩
    rintro (h3 | h3)
    · exact h2 h3
    · exact hdiff i oi li hi' hne' hsi h3
  · intro i j oi oj li lj hi hj hsi hsj hb
    exact hh.inj i j oi oj li lj (hother i oi hi).1 (hother j oj hj).1 hsi hsj hb
  · refine ⟨Nat.le_refl _, fun _ _ _ h => h, fun _ h => .inl h, fun _ h => .inl h, ?_, ?_, ?_, by rw [hsz]; exact Nat.le_refl _, hos, htp, hou, ?_, hshape⟩
    · rintro k _ (hk | rfl)
      · exact .inl hk
      · exact .inr ⟨id, o, loc, ho, hs, rfl⟩
    · rintro k _ (hk | rfl)
      · exact .inl hk
      · exact .inr ⟨id, o, loc, ho, hs, rfl⟩
    · rintro k _ ⟨i, oi, li, hi, hsi, rfl⟩
      exact ⟨i, oi, li, (hother i oi hi).1, hsi, rfl⟩
    · intro k _ hno
      exact hne k (fun he => hno ⟨id, o, loc, ho, hs, he.symm⟩)

theorem run_mark {P : Program} {w : World} {b off : Nat} {cs : Array Value} {e : TypeId} {fr : Nat × Nat} (hb : w.heap[b]? = some (Obj.cells cs e fr)) :
    ∃ w', (markStringish ⟨b, off, none⟩).run P w = .ok () w' ∧ w'.os = w.os ∧ w'.tape = w.tape ∧ w'.output = w.output ∧ w'.heap.size = w.heap.size ∧ (∀ k, k ≠ b → w'.heap[k]? = w.heap[k]?) ∧ ∃ fr', w'.heap[b]? = some (Obj.cells cs e fr') := by
  refine ⟨w.freeze ⟨b, cs.size, none⟩ 1, ?_, rfl, rfl, rfl, ?_, ?_, ?_⟩
  · have hsh : w.shape? b = some (e, cs.size) := by unfold World.shape?; rw [hb]
    simp [markStringish, hsh]
  · simp [World.freeze]
  · intro k hk
    simp [World.freeze, Array.getElem?_modify, Ne.symm hk]
  · obtain ⟨lo, hi⟩ := fr
    refine ⟨if lo == hi then (cs.size, cs.size + 1) else (min lo cs.size, max hi (cs.size + 1)), ?_⟩
    simp [World.freeze, Array.getElem?_modify, hb]

/-- A row that is marked behind its end stays as it was. -/
theorem marked {h : Heap C.E} {w' : World} (hh : HR C c w h) {id : Nat} {o : Ob C.E} {loc : Loc} (ho : h[id]? = some (some o)) (hs : c.σ id = some loc) (hos : w'.os = w.os) (htp : w'.tape = w.tape) (hou : w'.output = w.output) (hsz : w'.heap.size = w.heap.size)
    (hne : ∀ k, k ≠ loc.blk → w'.heap[k]? = w.heap[k]?) (hmk : ∃ cs e fr fr', w.heap[loc.blk]? = some (Obj.cells cs e fr) ∧ w'.heap[loc.blk]? = some (Obj.cells cs e fr')) (hso : Soft w' loc.blk) :
    HR C c w' h ∧ Le c h w c h w' := by
  obtain ⟨cs0, e0, fr0, fr1, m1, m2⟩ := hmk
  have hcell : ∀ b off, w'.cell? ⟨b, off, none⟩ = w.cell? ⟨b, off, none⟩ := by
    intro b off
    by_cases hb : b = loc.blk
    · subst hb
      unfold World.cell?
      simp only [m1, m2]
    · exact World.cell?_of_block (hne b hb)
  have hI : ∀ k, c.I k → k ≠ loc.blk := fun k hk he => (hh.soft id o loc ho hs).2 (he ▸ hk)
  have hshape : ∀ (k : Nat) (cs : Array Value) (e : TypeId) (fr : Nat × Nat), w.heap[k]? = some (Obj.cells cs e fr) → ∃ cs' fr', w'.heap[k]? = some (Obj.cells cs' e fr') ∧ cs'.size = cs.size := by
    intro k cs e fr hk
    by_cases hkb : k = loc.blk
    · subst hkb
      rw [m1] at hk
      cases hk
      exact ⟨cs0, fr1, m2, rfl⟩
    · exact ⟨cs, fr, (hne k hkb).trans hk, rfl⟩
  have hkp : Keeps c w c w' := ⟨Nat.le_refl _, fun _ _ _ h => h, fun _ h => h, fun _ h => h, fun k hk => hne k (hI k hk), hshape⟩
  refine ⟨⟨hh.gl.keep hkp, hh.len, hh.sn, fun k hk => by rw [hsz]; exact hh.bnd k hk, hh.hI, ?_, ?_, hh.inj⟩, ?_⟩
  · intro i oi hi
    refine ObR_keepM hkp (hh.ob i oi hi) (by have := lt_of_getElem? hi; have := hh.len; omega) (fun h => h) (fun li hl off => hcell _ _) (fun li es n hl hmp => ?_)
    by_cases hb : li.blk = loc.blk
    · rw [hb, m1] at hmp
      cases hmp
    · exact (hne _ hb).trans hmp
  · intro i oi li hi hsi
    obtain ⟨h1, h2⟩ := hh.soft i oi li hi hsi
    refine ⟨?_, h2⟩
    by_cases hb : li.blk = loc.blk
    · have hob := hh.ob i oi hi
      cases oi with
      | map k e xs =>
        obtain ⟨es, n, h1⟩ := h1
        rw [hb, m1] at h1
        cases h1
      | mapv k e xs =>
        obtain ⟨es, n, h1⟩ := h1
        rw [hb, m1] at h1
        cases h1
      | box cs => rw [hb]; exact hso
      | arr e xs => rw [hb]; exact hso
    · exact h1.same (hne _ hb)
  · refine ⟨Nat.le_refl _, fun _ _ _ h => h, fun _ h => h, fun _ h => h, fun _ _ h => .inl h, fun _ _ h => .inl h, fun _ _ h => h, by rw [hsz]; exact Nat.le_refl _, hos, htp, hou, ?_, hshape⟩
    intro k _ hno
    exact hne k (fun he => hno ⟨id, o, loc, ho, hs, he.symm⟩)

theorem run_mark_soft {P : Program} {w : World} {b off : Nat} (hb : Soft w b) :
    ∃ w', (markStringish ⟨b, off, none⟩).run P w = .ok () w' ∧ w'.os = w.os ∧ w'.tape = w.tape ∧ w'.output = w.output ∧ w'.heap.size = w.heap.size ∧ (∀ k, k ≠ b → w'.heap[k]? = w.heap[k]?) ∧
      (∃ cs e fr fr', w.heap[b]? = some (Obj.cells cs e fr) ∧ w'.heap[b]? = some (Obj.cells cs e fr')) ∧ Soft w' b := by
  obtain ⟨cs, e, ⟨lo, hi⟩, hb, hf⟩ := hb
  have hheap : (w.freeze ⟨b, cs.size, none⟩ 1).heap[b]? = some (Obj.cells cs e (if lo == hi then (cs.size, cs.size + 1) else (min lo cs.size, max hi (cs.size + 1)))) := by
    simp [World.freeze, Array.getElem?_modify, hb]
  refine ⟨w.freeze ⟨b, cs.size, none⟩ 1, ?_, rfl, rfl, rfl, ?_, ?_, ⟨cs, e, (lo, hi), _, hb, hheap⟩, cs, e, _, hheap, ?_⟩
  · have hsh : w.shape? b = some (e, cs.size) := by unfold World.shape?; rw [hb]
    simp [markStringish, hsh]
  · simp [World.freeze]
  · intro k hk
    simp [World.freeze, Array.getElem?_modify, Ne.symm hk]
  · simp only at hf
    by_cases he : lo = hi
    · subst he
      simp
    · rw [if_neg (by simpa using he)]
      simp only
      omega

theorem convAK_ok (hC : CfgOK C) {Z : Type} {h : Heap C.E} {s d : TypeId} {x : AV C.E} {vx : Value} {K : Eff C.E → Option Z} {z : Z} (hk : convAK C s d x (lookH h) K = some z) (hh : HR C c w h) (hx : R C c w x vx) :
    ∃ v e c' w', (convert s d vx).run C.P w = .ok v w' ∧ K e = some z ∧ After C c w h c' w' e v := by
  unfold convAK at hk
  split at hk
  · rename_i e _ _ _ _ e' _ _ _ _ hT1 hT2
    split at hk
    · rename_i id start n hb
      obtain ⟨hb1, hb2⟩ := and_split hb
      have hsd := Nat.eq_of_beq_eq_true hb1
      subst hsd
      obtain ⟨hu, hsz⟩ := byteT_ok hC hb2
      have hus := under_slice hC hT1 rfl
      obtain ⟨ys, rd, k1, hold, hinv⟩ := readSl_ok hh hk hx
      obtain ⟨xs, ho, hle, hys, hrd⟩ := hinv _ _ _ rfl
      have hlen : ys.length = n + 1 := by rw [hys, List.length_take, List.length_drop]; omega
      cases hx with
      | sl hs hn hl hm hbk hszz =>
        rename_i cap loc cs0 e0 fr0
        obtain ⟨w', m1, m2, m3, m4, m5, m6, m7, m8⟩ := run_mark_soft (P := C.P) (off := loc.base + start * loc.wd) (hh.soft _ _ _ ho hs).1
        obtain ⟨d1, d2⟩ := marked hh ho hs m2 m3 m4 m5 m6 m7 m8
        refine ⟨.slice (some ⟨loc.blk, loc.base + start * loc.wd, none⟩) (n + 1) cap, _, c, w', ?_, k1, ?_, ?_, ?_, ?_⟩
        · simp [convert, run_underlying hus, run_underlying hu, m1]
        · exact R.keep (d2.keeps hh) (.sl hs hn hl hm hbk hszz)
        · exact d1
        · exact d2
        · intro i hi; exact (hi rfl).elim
    · cases hk
  · rename_i e _ _ _ _ _ _ _ _ hT1 hT2
    split at hk
    · rename_i hb
      obtain ⟨hu, hsz⟩ := byteT_ok hC hb
      have hus := under_slice hC hT1 rfl
      have hud := under_str hC hT2 rfl
      obtain ⟨ys, rd, k1, ⟨a, cap, rfl, hcap, hmx, hcells⟩, _⟩ := readSl_ok hh hk hx
      cases hl : C.bytes e ys with
      | none => rw [hl] at k1; cases k1
      | some l =>
        rw [hl] at k1
        simp only [Option.bind_some] at k1
        obtain ⟨hll, henc⟩ := hC.bytes _ _ _ hl
        rcases Nat.eq_zero_or_pos ys.length with h0 | h0
        · have hys : ys = [] := List.eq_nil_of_length_eq_zero h0
          have hle : l = [] := List.eq_nil_of_length_eq_zero (by omega)
          subst hle
          refine ⟨.string ByteArray.empty, _, c, w, ?_, k1, After.quiet hh (.str (by simp) (Nat.zero_le _)) rfl⟩
          rw [h0]
          cases a with
          | none => exact run_convert_bytes_nil w s e hus hu 0 cap d hud
          | some ad => simp [convert, run_underlying hus, run_underlying hud, run_underlying hu, Conv.bytesToString, loadCells]; rfl
        · obtain ⟨b, off, f, rfl, hb, hc, hr⟩ := hcells h0
          have hf : ∀ i (hi : i < ys.length), f i 0 = .int .u8 (l.getD i 0) ∧ (Lit.int .u8 (l.getD i 0)).wf = true := by
            intro i hi
            have he := henc i hi (by omega)
            have := hr i hi 0 (by rw [he]; simp)
            simp only [he, List.getElem_cons_zero] at this
            have hg : l.getD i 0 = l[i]'(by omega) := by simp [List.getD_eq_getElem?_getD, show i < l.length by omega]
            rw [hg]
            generalize f i 0 = v at this
            cases this with
            | int hw => exact ⟨rfl, hw⟩
          have hrun := run_convert_bytes_arg w s e hus hu b off ys.length cap l hll (fun i hi => by
            have := hc i 0 hi (by rw [hsz]; exact Nat.one_pos)
            rw [hsz, Nat.mul_one, Nat.add_zero, (hf i hi).1] at this
            exact this) d hud
          refine ⟨_, _, c, w, hrun, k1, After.quiet hh (.str ?_ (by rw [strOfNums_size]; omega)) rfl⟩
          rw [strOfNums_data, List.map_map]
          conv => rhs; rw [← List.map_id l]
          refine List.map_congr_left fun n hn => ?_
          obtain ⟨i, hi, rfl⟩ := List.getElem_of_mem hn
          have hw := (hf i (by omega)).2
          have hg : l.getD i 0 = l[i] := by simp [List.getD_eq_getElem?_getD, hi]
          rw [hg] at hw
          have hw2 : (0 : Int) ≤ l[i] ∧ l[i] ≤ 255 := by
            simp only [Lit.wf, Bool.and_eq_true, decide_eq_true_eq] at hw
            exact hw
          simp only [Function.comp, id]
          rw [UInt8.toNat_ofNat']
          omega
    · cases hk
  · obtain ⟨v, r, h1, h2, h3⟩ := convK_ok hC hk hx
    exact ⟨v, _, c, w, h1, h2, After.quiet hh h3 rfl⟩

/-- The cells of elements, flat, as the model's append wants them. -/
def flatV (C : Cfg) (e : TypeId) (n : Nat) (f : Nat → Nat → Value) : List Value := (List.range (n * sizeT C e)).map fun k => f (k / sizeT C e) (k % sizeT C e)

theorem flatV_len (e : TypeId) (n : Nat) (f : Nat → Nat → Value) : (flatV C e n f).length = n * sizeT C e := by simp [flatV]
theorem flatV_get {e : TypeId} {n : Nat} {f : Nat → Nat → Value} {i j : Nat} (hi : i < n) (hj : j < sizeT C e) : (flatV C e n f)[i * sizeT C e + j]? = some (f i j) := by
  have hlt : i * sizeT C e + j < n * sizeT C e := by
    have : (i + 1) * sizeT C e ≤ n * sizeT C e := Nat.mul_le_mul_right _ hi
    rw [Nat.add_mul, Nat.one_mul] at this
    omega
  have h0 : 0 < sizeT C e := by omega
  simp only [flatV, List.getElem?_map, List.getElem?_range hlt, Option.map_some]
  rw [Nat.mul_comm i, Nat.mul_add_div h0, Nat.mul_add_mod, Nat.div_eq_of_lt hj, Nat.mod_eq_of_lt hj, Nat.add_zero]
theorem flatV_some {e : TypeId} {n : Nat} {f : Nat → Nat → Value} {k : Nat} {v : Value} (h : (flatV C e n f)[k]? = some v) : ∃ i j, i < n ∧ j < sizeT C e ∧ k = i * sizeT C e + j ∧ v = f i j := by
  obtain ⟨hlt, hv⟩ := List.getElem?_eq_some_iff.1 h
  rw [flatV_len] at hlt
  have h0 : 0 < sizeT C e := by
    rcases Nat.eq_zero_or_pos (sizeT C e) with h | h
    · rw [h] at hlt; simp at hlt
    · exact h
  refine ⟨k / sizeT C e, k % sizeT C e, Nat.div_lt_of_lt_mul (by rw [Nat.mul_comm]; exact hlt), Nat.mod_lt _ h0, by rw [Nat.mul_comm]; exact (Nat.div_add_mod _ _).symm, ?_⟩
  rw [← hv]
  simp [flatV]

theorem RowsR_append {e : TypeId} {xs ys : List (C.E e)} {f g : Nat → Nat → Value} (h1 : RowsR C c w e xs f) (h2 : RowsR C c w e ys g) : RowsR C c w e (xs ++ ys) (fun i j => if i < xs.length then f i j else g (i - xs.length) j) := by
  intro i hi j hj
  by_cases hlt : i < xs.length
  · have hg : (xs ++ ys)[i] = xs[i] := List.getElem_append_left hlt
    have := h1 i hlt j (by rw [← hg]; exact hj)
    simp only [hg, if_pos hlt]
    exact this
  · have hi' : i - xs.length < ys.length := by rw [List.length_append] at hi; omega
    have hg : (xs ++ ys)[i] = ys[i - xs.length] := List.getElem_append_right (by omega)
    have := h2 _ hi' j (by rw [← hg]; exact hj)
    simp only [hg, if_neg hlt]
    exact this

theorem RowsR_one (hC : CfgOK C) {e : TypeId} {xs : List (C.E e)} {f : Nat → Nat → Value} (hr : RowsR C c w e xs f) {i j : Nat} (hi : i < xs.length) (hj : j < sizeT C e) : (f i j).oneCell' = true := by
  have hlt : j < (C.enc e xs[i]).length := by rw [hC.enc]; exact hj
  refine R_oneCell (hr i hi j hlt) ?_
  have := all_get (hC.free e xs[i]) j hlt
  revert this
  generalize (C.enc e xs[i])[j] = y
  cases y <;> simp [AV.free, AV.isCell]

theorem fresh_set {h : Heap C.E} {nid id : Nat} (hf : Fresh c h nid) {o : Ob C.E} (ho : h[id]? = some (some o)) (x : Option (Ob C.E)) : Fresh c (h.set id x) nid := by
  cases hf with
  | push e => exact .push (by simp [e])
  | hole e =>
    refine .hole fun j hj => ⟨?_, (e j hj).2⟩
    rw [List.getElem?_set_ne]
    · exact (e j hj).1
    · rintro rfl
      rw [(e j hj).1] at ho
      cases ho

theorem fresh_ctx {c' : Ctx} {h : Heap C.E} {nid : Nat} (hf : Fresh c h nid) (hs : c'.σ = c.σ) : Fresh c' h nid := by
  cases hf with
  | push e => exact .push e
  | hole e => exact .hole fun j hj => ⟨(e j hj).1, by rw [hs]; exact (e j hj).2⟩

/-- An object goes over into another, in the same block. -/
theorem move_obj {h : Heap C.E} (hh : HR C c w h) {id nid : Nat} {o o' : Ob C.E} {loc loc' : Loc} (ho : h[id]? = some (some o)) (hs : c.σ id = some loc) (hf : Fresh c h nid) (hb : loc'.blk = loc.blk) (hk1 : SoftO w loc.blk o → SoftO w loc.blk o')
    (ho' : ObR C (newC c nid (some loc')) w nid o') :
    HR C (newC c nid (some loc')) w (wrH h [(id, none), (nid, some o')]) ∧ Le c h w (newC c nid (some loc')) (wrH h [(id, none), (nid, some o')]) w := by
  rw [wrH_set ho]
  have hf2 := fresh_set hf ho none
  obtain ⟨hlen, hnew, hold⟩ := wrH_one (o := some o') hf2
  have hk := keeps_new hh hf (some loc') (More.refl w)
  have hsp : ∀ i, i ≠ nid → (newC c nid (some loc')).σ i = c.σ i := fun i hi => if_neg hi
  have hsn : (newC c nid (some loc')).σ nid = some loc' := if_pos rfl
  have hne : id ≠ nid := by rintro rfl; exact fresh_dead hf _ ho
  have hget : ∀ (i : Nat) (oi : Ob C.E), (wrH (h.set id none) [(nid, some o')])[i]? = some (some oi) → (i = nid ∧ oi = o') ∨ (i ≠ nid ∧ i ≠ id ∧ h[i]? = some (some oi)) := by
    intro i oi hi
    by_cases he : i = nid
    · subst he; rw [hnew] at hi; cases hi; exact .inl ⟨rfl, rfl⟩
    · rw [hold i he] at hi
      by_cases he2 : i = id
      · subst he2
        rw [List.getElem?_set_self (lt_of_getElem? ho)] at hi
        cases hi
      · rw [List.getElem?_set_ne (fun e => he2 e.symm)] at hi
        exact .inr ⟨he, he2, hi⟩
  refine ⟨⟨hh.gl.keep hk, ?_, ?_, hh.bnd, hh.hI, ?_, ?_, ?_⟩, ?_⟩
  · rw [hlen]; show max (List.length (h.set id none)) (nid + 1) = max c.n (nid + 1); rw [List.length_set, hh.len]
  · intro i hi
    have hne2 : i ≠ nid := by rintro rfl; simp [newC] at hi; omega
    rw [hsp i hne2]
    exact hh.sn i (by simp [newC] at hi; omega)
  · intro i oi hi
    rcases hget i oi hi with ⟨rfl, rfl⟩ | ⟨h1, h2, h3⟩
    · exact ho'
    · exact ObR_keep hk (hh.ob i oi h3) (by have := lt_of_getElem? h3; have := hh.len; omega) (fun h => (hsp i h1).trans h) (fun _ _ => rfl)
  · intro i oi li hi hsi
    rcases hget i oi hi with ⟨rfl, rfl⟩ | ⟨h1, h2, h3⟩
    · rw [hsn] at hsi; cases hsi; rw [hb]; exact ⟨hk1 (hh.soft id o loc ho hs).1, (hh.soft id o loc ho hs).2⟩
    · rw [hsp i h1] at hsi; exact hh.soft i oi li h3 hsi
  · intro i j oi oj li lj hi hj hsi hsj hbb
    rcases hget i oi hi with ⟨rfl, rfl⟩ | ⟨h1, h2, h3⟩
    · rcases hget j oj hj with ⟨rfl, _⟩ | ⟨h4, h5, h6⟩
      · rfl
      · rw [hsn] at hsi; cases hsi
        rw [hsp j h4] at hsj
        exact (h5 (hh.inj j id oj o lj loc h6 ho hsj hs (by rw [← hbb, hb]))).elim
    · rw [hsp i h1] at hsi
      rcases hget j oj hj with ⟨rfl, _⟩ | ⟨h4, h5, h6⟩
      · rw [hsn] at hsj; cases hsj
        exact (h2 (hh.inj i id oi o li loc h3 ho hsi hs (by rw [hbb, hb]))).elim
      · rw [hsp j h4] at hsj
        exact hh.inj i j oi oj li lj h3 h6 hsi hsj hbb
  · refine ⟨hk.n, hk.σ, hk.I, hk.H, fun k _ h => .inl h, fun k _ h => .inl h, ?_, Nat.le_refl _, rfl, rfl, rfl, fun _ _ _ => rfl, hk.shape⟩
    rintro k _ ⟨i, oi, li, hi, hsi, rfl⟩
    rcases hget i oi hi with ⟨rfl, rfl⟩ | ⟨h1, h2, h3⟩
    · rw [hsn] at hsi; cases hsi; exact ⟨id, o, loc, ho, hs, hb.symm⟩
    · rw [hsp i h1] at hsi; exact ⟨i, oi, li, h3, hsi, rfl⟩

theorem firstCells_ok (hC : CfgOK C) {e : TypeId} {ys : List (C.E e)} {a : Option Addr} {cap : Nat} (hx : Holds C c w e (.slice a ys.length cap) ys) :
    ∃ f, RowsR C c w e ys f ∧ (∀ (k : Nat) (v : Value), (flatV C e ys.length f)[k]? = some v → v.oneCell' = true) ∧
      ∀ w', (∀ b off, b < w.heap.size → w'.cell? ⟨b, off, none⟩ = w.cell? ⟨b, off, none⟩) → (Builtin.firstCells (sizeT C e) ys.length (.slice a ys.length cap)).run C.P w' = .ok (flatV C e ys.length f).toArray w' := by
  obtain ⟨a', cap', h1, h2, h3, h4⟩ := hx
  cases h1
  rcases Nat.eq_zero_or_pos ys.length with h0 | h0
  · refine ⟨fun _ _ => undef, fun i hi => by omega, fun k v hv => ?_, fun w' _ => ?_⟩
    · obtain ⟨i, j, hi, _⟩ := flatV_some hv; omega
    · have : flatV C e ys.length (fun _ _ => undef) = [] := List.eq_nil_of_length_eq_zero (by rw [flatV_len, h0, Nat.zero_mul])
      rw [this, h0]
      cases a <;> simp [Builtin.firstCells, loadCells, loadCellsFrom]
  · obtain ⟨b, off, f, rfl, hb, hc, hr⟩ := h4 h0
    refine ⟨f, hr, fun k v hv => ?_, fun w' hw' => ?_⟩
    · obtain ⟨i, j, hi, hj, _, rfl⟩ := flatV_some hv
      exact RowsR_one hC hr hi hj
    · refine run_firstCells_some (P := C.P) w' (sizeT C e) ys.length ⟨b, off, none⟩ ys.length cap (flatV C e ys.length f) (flatV_len _ _ _) (fun k v hv => ?_)
      obtain ⟨i, j, hi, hj, rfl, rfl⟩ := flatV_some hv
      rw [add_none, hw' _ _ hb, ← Nat.add_assoc]
      exact hc i j hi hj

theorem flat_arr {e : TypeId} {n m : Nat} {f g : Nat → Nat → Value} {zs : List Value} {i j : Nat} (hi : i < n + m) (hj : j < sizeT C e) :
    ((flatV C e n f) ++ (flatV C e m g) ++ zs)[i * sizeT C e + j]? = some (if i < n then f i j else g (i - n) j) := by
  have hlt : i * sizeT C e + j < (n + m) * sizeT C e := by
    have : (i + 1) * sizeT C e ≤ (n + m) * sizeT C e := Nat.mul_le_mul_right _ hi
    rw [Nat.add_mul, Nat.one_mul] at this
    omega
  rw [List.getElem?_append_left (by rw [List.length_append, flatV_len, flatV_len, ← Nat.add_mul]; exact hlt)]
  by_cases h : i < n
  · rw [if_pos h, List.getElem?_append_left (by
      rw [flatV_len]
      have : (i + 1) * sizeT C e ≤ n * sizeT C e := Nat.mul_le_mul_right _ h
      rw [Nat.add_mul, Nat.one_mul] at this
      omega)]
    exact flatV_get h hj
  · have hge : n * sizeT C e ≤ i * sizeT C e := Nat.mul_le_mul_right _ (by omega)
    rw [if_neg h, List.getElem?_append_right (by rw [flatV_len]; omega), flatV_len]
    rw [show i * sizeT C e + j - n * sizeT C e = (i - n) * sizeT C e + j by rw [Nat.sub_mul]; omega]
    exact flatV_get (by omega) hj

/-- append where there is no room, or to a slice of no elements: a new row. -/
theorem append_new (hC : CfgOK C) {h : Heap C.E} (hh : HR C c w h) {nid : Nat} (hf : Fresh c h nid) {t t2 e e2 ty : TypeId} {te : TI C.E} (hu : C.P.underlying t = some (.slice e)) (hu2 : C.P.underlying t2 = some (.slice e2)) (hte : C.T e = some te)
    {xs ys : List (C.E e)} {a b : Option Addr} {ca cb : Nat} (hx : Holds C c w e (.slice a xs.length ca) xs) (hy : Holds C c w e (.slice b ys.length cb) ys) (hgt : ca < xs.length + ys.length) (hroom : roomy (xs.length + ys.length) te.bytes = true) (rd : List Nat) :
    ∃ v c' w', (Builtin.append_ #[t, t2] ty #[.slice a xs.length ca, .slice b ys.length cb]).run C.P w = .ok v w' ∧ After C c w h c' w' ⟨.sl nid 0 (xs.length + ys.length), [(nid, some (.arr e (xs ++ ys)))], rd⟩ v := by
  obtain ⟨ie, _, zz, hie, _, hse, hby, _, hz, hzl, hzs, hzr, _⟩ := (hC.T _ _ hte).ex
  have hste := sizeT_eq hte
  have hsz : ie.size = sizeT C e := by omega
  obtain ⟨f, f1, f2, f3⟩ := firstCells_ok hC hx
  obtain ⟨g, g1, g2, g3⟩ := firstCells_ok hC hy
  have hroom' : (xs.length + ys.length) * te.bytes ≤ 140737488355328 := by simpa [roomy] using hroom
  have hfit : Builtin.nextslicecap (xs.length + ys.length) ca * ie.bytes ≤ 281474976710656 := growslice_fits hgt (by rw [hby]; exact hroom')
  have hpos := (hC.T _ _ hte).pos
  have hbp := (hC.T _ _ hte).bpos
  have hsum : xs.length + ys.length ≤ 140737488355328 := Nat.le_trans (Nat.le_mul_of_pos_right _ hbp) hroom'
  have hge := grownCap_ge w (xs.length + ys.length) ca e
  have hcm : grownCap w (xs.length + ys.length) ca e ≤ maxLen := grownCap_le_maxLen w (xs.length + ys.length) ca e (by unfold maxLen; omega)
  have hold : ∀ (b off : Nat), b < w.heap.size → w.drew.cell? ⟨b, off, none⟩ = w.cell? ⟨b, off, none⟩ := fun _ _ _ => rfl
  have e1 := f3 w.drew hold
  have e2 := g3 w.drew hold
  have hn : ¬ (xs.length + ys.length ≤ ca) := by omega
  have h63' : ¬ (9223372036854775807 < ((xs.length : Int) + (ys.length : Int))) := by omega
  have h48' : ¬ (281474976710656 < Builtin.nextslicecap (xs.length + ys.length) ca * ie.bytes) := by omega
  have hrun : (Builtin.append_ #[t, t2] ty #[.slice a xs.length ca, .slice b ys.length cb]).run C.P w =
      .ok (.slice (some ⟨w.heap.size, 0, none⟩) (xs.length + ys.length) (grownCap w (xs.length + ys.length) ca e))
        (w.drew.alloc (.cells ((flatV C e xs.length f).toArray ++ (flatV C e ys.length g).toArray ++ Builtin.zeroCells zz.cells (grownCap w (xs.length + ys.length) ca e - (xs.length + ys.length))) e)) := by
    rw [← hsz] at e1 e2
    simp [Builtin.append_, run_underlying hu, run_underlying hu2, sizeOf, typeInfo, zeroValue, hie, hz, Builtin.lenOf, hn, h63', h48', e1, e2, Question.forced, newRow, grownCap]
    congr 2
    apply Array.ext'
    simp [List.append_assoc]
  have hm : More w (w.drew.alloc (.cells ((flatV C e xs.length f).toArray ++ (flatV C e ys.length g).toArray ++ Builtin.zeroCells zz.cells (grownCap w (xs.length + ys.length) ca e - (xs.length + ys.length))) e)) :=
    (More.drew w).trans (More.alloc _ _)
  obtain ⟨c', hA⟩ := new_arr (xs := xs ++ ys) hh hf hm (heap_alloc_new w.drew _) (Nat.le_refl _) (fun i j => if i < xs.length then f i j else g (i - xs.length) j)
    (fun i j hi hj => by
      rw [List.length_append] at hi
      have := flat_arr (f := f) (g := g) (zs := (Builtin.zeroCells zz.cells (grownCap w (xs.length + ys.length) ca e - (xs.length + ys.length))).toList) hi hj
      rw [← Array.getElem?_toList]
      simpa using this)
    (RowsR_append f1 g1) (cap := grownCap w (xs.length + ys.length) ca e) (by rw [List.length_append]; exact hge) hcm (by
      simp only [Array.size_append, List.size_toArray, flatV_len, size_zeroCells, hzs, ← hste, ← Nat.add_mul]
      exact Nat.mul_le_mul_right _ (by omega)) rd
  rw [List.length_append] at hA
  exact ⟨_, c', _, hrun, hA⟩

theorem Holds_keep {c' : Ctx} (hk : Keeps c w c' w) {e : TypeId} {v : Value} {ys : List (C.E e)} (h : Holds C c w e v ys) : Holds C c' w e v ys := by
  obtain ⟨a, cap, h1, h2, h3, h4⟩ := h
  refine ⟨a, cap, h1, h2, h3, fun h0 => ?_⟩
  obtain ⟨b, off, f, h5, h6, h7, h8⟩ := h4 h0
  exact ⟨b, off, f, h5, h6, h7, fun i hi j hj => (h8 i hi j hj).keep hk⟩

theorem R_sl_inv {id start len : Nat} {v : Value} (h : R C c w (.sl id start len) v) : (∃ a, len = 0 ∧ v = .slice a 0 0 ∧ id < c.n) ∨
    (∃ (cap : Nat) (loc : Loc) (cs : Array Value) (e : TypeId) (fr : Nat × Nat), v = .slice (some ⟨loc.blk, loc.base + start * loc.wd, none⟩) len cap ∧ c.σ id = some loc ∧ id < c.n ∧ len ≤ cap ∧ cap ≤ maxLen ∧
      w.heap[loc.blk]? = some (.cells cs e fr) ∧ loc.base + (start + cap) * loc.wd ≤ cs.size) := by
  cases h with
  | sl0 hn => exact .inl ⟨_, rfl, rfl, hn⟩
  | sl hs hn hl hm hb hsz => exact .inr ⟨_, _, _, _, _, rfl, hs, hn, hl, hm, hb, hsz⟩

theorem appendK_ok (hC : CfgOK C) {Z : Type} {h : Heap C.E} {t t2 e2 ty : TypeId} {s x : AV C.E} {vs vx : Value} {nid : Nat} {K : Eff C.E → Option Z} {z : Z} (hk : appendK C t s x (lookH h) nid K = some z)
    (hu2 : C.P.underlying t2 = some (.slice e2)) (hh : HR C c w h) (hf : Fresh c h nid) (hs : R C c w s vs) (hx : R C c w x vx) :
    ∃ v e c' w', (Builtin.append_ #[t, t2] ty #[vs, vx]).run C.P w = .ok v w' ∧ K e = some z ∧ After C c w h c' w' e v := by
  unfold appendK at hk
  split at hk
  · rename_i e eq sz by_ zr hT
    have hu := under_slice hC hT rfl
    split at hk
    · rename_i te hte
      obtain ⟨ys, rx, hk2, hy, _⟩ := readSl_ok hh hk hx
      clear hk
      have hk := hk2
      clear hk2
      obtain ⟨b, cb, rfl, hy2, hy3, hy4⟩ := id hy
      have hsz : ∃ ie, C.P.info? e = some ie ∧ ie.size = sizeT C e := by
        obtain ⟨ie, h1, h2⟩ := size_info hC hte
        exact ⟨ie, h1, h2.trans (sizeT_eq hte).symm⟩
      obtain ⟨ie, hie, hsz⟩ := hsz
      split at hk
      · -- onto nil
        obtain ⟨hroom, hk⟩ := cond_some hk
        cases hs
        have hx0 : Holds C c w e (.slice none 0 0) ([] : List (C.E e)) := ⟨none, 0, rfl, Nat.le_refl _, by unfold maxLen; omega, fun h => absurd h (Nat.not_lt_zero _)⟩
        rcases Nat.eq_zero_or_pos ys.length with h0 | h0
        · have : ys = [] := List.eq_nil_of_length_eq_zero h0
          subst this
          obtain ⟨f, _, _, f3⟩ := firstCells_ok hC hy
          have e1 := f3 w (fun _ _ _ => rfl)
          have hfl : flatV C e ([] : List (C.E e)).length f = [] := List.eq_nil_of_length_eq_zero (by rw [flatV_len]; simp)
          rw [← hsz, hfl] at e1
          simp only [List.length_nil] at e1
          obtain ⟨c', hA⟩ := new_nowhere hh hf e none rx
          exact ⟨_, _, c', w, by simp [Builtin.append_, run_underlying hu, run_underlying hu2, sizeOf, typeInfo, hie, Builtin.lenOf, e1], hk, hA⟩
        · obtain ⟨v, c', w', h1, h2⟩ := append_new (xs := []) (ty := ty) hC hh hf hu hu2 hte hx0 hy (by simpa using h0) (by simpa using hroom) rx
          simp only [List.length_nil, Nat.zero_add, List.nil_append] at h1 h2
          exact ⟨v, _, c', w', h1, hk, h2⟩
      · -- onto an owned slice
        rename_i id start len
        obtain ⟨xs, rd, hk2, hxs, hsl⟩ := readSl_ok hh hk hs
        clear hk
        have hk := hk2
        clear hk2
        obtain ⟨xs0, ho, hle, rfl, _⟩ := hsl id start len rfl
        obtain ⟨hroom, hk⟩ := cond_some hk
        have hlen : ((xs0.drop start).take len).length = len := by rw [List.length_take, List.length_drop]; omega
        generalize hxse : (xs0.drop start).take len = xs at *
        have hxs2 := hxs
        obtain ⟨a, ca, rfl, hx2, hx3, hx4⟩ := hxs2
        subst hlen
        by_cases hfit : xs.length + ys.length ≤ ca
        · -- there is room
          obtain ⟨g, g1, g2, g3⟩ := firstCells_ok hC hy
          have e1 := g3 w (fun _ _ _ => rfl)
          rw [← hsz] at e1
          rcases R_sl_inv hs with ⟨a', hx0, hv, hn⟩ | ⟨ca', loc, cs0, e0, fr0, hv, hsi, hn, hl, hm, hb, hszb⟩
          · simp only [Value.slice.injEq] at hv
            obtain ⟨rfl, hv2, rfl⟩ := hv
            have hx0 : xs.length = 0 := hv2
            have hy0 : ys.length = 0 := by omega
            have hxe : xs = [] := List.eq_nil_of_length_eq_zero hx0
            have hye : ys = [] := List.eq_nil_of_length_eq_zero hy0
            subst hxe hye
            have hfl : flatV C e ([] : List (C.E e)).length g = [] := List.eq_nil_of_length_eq_zero (by rw [flatV_len]; simp)
            rw [hfl] at e1
            simp only [List.length_nil] at e1
            have hrun : (Builtin.append_ #[t, t2] ty #[.slice a 0 0, .slice b 0 cb]).run C.P w = .ok (.slice a 0 0) w := by
              cases a <;> simp [Builtin.append_, run_underlying hu, run_underlying hu2, sizeOf, typeInfo, hie, Builtin.lenOf, e1, storeCells]
            have hdrop : ∃ c1, HR C c1 w (h.set id none) ∧ Le c h w c1 (h.set id none) w ∧ c1.σ = c.σ := by
              cases hsi : c.σ id with
              | none => exact ⟨c, (drop_none hh hsi).1, (drop_none hh hsi).2, rfl⟩
              | some loc => exact ⟨_, (drop_obj hh ho hsi).1, (drop_obj hh ho hsi).2, rfl⟩
            obtain ⟨c1, d1, d2, d3⟩ := hdrop
            obtain ⟨c', hA⟩ := new_nowhere d1 (fresh_ctx (fresh_set hf ho none) d3) e a (id :: rx)
            exact ⟨_, _, c', w, hrun, hk, ⟨hA.val, by rw [wrH_set ho]; exact hA.heap, by rw [wrH_set ho]; exact d2.trans hA.le, fun i hi => List.mem_cons_of_mem _ (hA.sig i (by rw [d3]; exact hi))⟩⟩
          · simp only [Value.slice.injEq] at hv
            obtain ⟨rfl, _, rfl⟩ := hv
            cases hh.ob _ _ ho with
            | nowhere hs' => rw [hs'] at hsi; cases hsi
            | arr hs' f hc hr =>
              rename_i blk base
              rw [hs'] at hsi
              cases hsi
              obtain ⟨⟨cur, e3, fr, hg, hfz⟩, hnI⟩ := hh.soft _ _ _ ho hs'
              have hfz := soft_free hg hfz
              rw [hg] at hb
              simp only [Option.some.injEq, Obj.cells.injEq] at hb
              rw [← hb.1] at hszb
              have hcur : base + (start + ca) * sizeT C e ≤ cur.size := hszb
              have hxe : ∀ i, i < xs.length → start + i < xs0.length := fun i hi => by omega
              obtain ⟨cur', s1, s2, s3⟩ := run_storeCells C.P blk e3 fr (flatV C e ys.length g) (base + start * sizeT C e + xs.length * sizeT C e) 0 cur w hg hfz (by
                rw [flatV_len]
                have h9 : (start + (xs.length + ys.length)) * sizeT C e ≤ (start + ca) * sizeT C e := Nat.mul_le_mul_right _ (by omega)
                simp only [Nat.add_mul] at h9 hcur ⊢
                omega) (fun v hv => by
                obtain ⟨k, hk3⟩ := List.getElem?_of_mem hv
                exact g2 k v hk3)
              have hrun : (Builtin.append_ #[t, t2] ty #[.slice (some ⟨blk, base + start * sizeT C e, none⟩) xs.length ca, .slice b ys.length cb]).run C.P w =
                  .ok (.slice (some ⟨blk, base + start * sizeT C e, none⟩) (xs.length + ys.length) ca) (w.setRow blk cur') := by
                rw [← hsz] at s1 ⊢
                simp [Builtin.append_, run_underlying hu, run_underlying hu2, sizeOf, typeInfo, hie, Builtin.lenOf, hfit, e1, add_none, s1]
              obtain ⟨p1, p2⟩ := put_obj hh ho hs' hg s2 hfz (o' := .arr e []) (.arr hs' (fun _ _ => undef) (fun i j hi => absurd hi (Nat.not_lt_zero _)) (fun i hi => absurd hi (Nat.not_lt_zero _)))
              have hkp := keeps_setRow hh ho hs' hg s2
              have ho2 : (h.set id (some (.arr e [])))[id]? = some (some (.arr e [])) := List.getElem?_set_self (lt_of_getElem? ho)
              have hf2 := fresh_set hf ho (some (.arr e []))
              have hk2 := hkp
              have hkn := keeps_new p1 hf2 (some ⟨blk, base + start * sizeT C e, sizeT C e⟩) (More.refl _)
              have hsn : (newC c nid (some ⟨blk, base + start * sizeT C e, sizeT C e⟩)).σ nid = some ⟨blk, base + start * sizeT C e, sizeT C e⟩ := if_pos rfl
              have hcell : ∀ i j, i < xs.length + ys.length → j < sizeT C e → base + start * sizeT C e + i * sizeT C e + j < cur.size := by
                intro i j hi hj
                have h9 : (start + i + 1) * sizeT C e ≤ (start + ca) * sizeT C e := Nat.mul_le_mul_right _ (by omega)
                simp only [Nat.add_mul, Nat.one_mul] at h9 hcur ⊢
                omega
              obtain ⟨m1, m2⟩ := move_obj p1 ho2 hs' hf2 (loc' := ⟨blk, base + start * sizeT C e, sizeT C e⟩) (o' := .arr e (xs ++ ys)) rfl (fun h => h)
                (.arr hsn (fun i j => if i < xs.length then f (start + i) j else g (i - xs.length) j) (fun i j hi hj => by
                  rw [List.length_append] at hi
                  rw [setRow_cell hg, s3 _ (hcell i j hi hj), flatV_len]
                  by_cases hlt : i < xs.length
                  · have h9 : (i + 1) * sizeT C e ≤ xs.length * sizeT C e := Nat.mul_le_mul_right _ (by omega)
                    rw [Nat.add_mul, Nat.one_mul] at h9
                    rw [if_neg (by omega), if_pos hlt]
                    have := (cell_lt hg (hc (start + i) j (hxe i hlt) hj)).2
                    rw [Nat.add_mul, ← Nat.add_assoc] at this
                    exact this
                  · have h9 : xs.length * sizeT C e ≤ i * sizeT C e := Nat.mul_le_mul_right _ (by omega)
                    have h10 : (i + 1) * sizeT C e ≤ (xs.length + ys.length) * sizeT C e := Nat.mul_le_mul_right _ (by omega)
                    rw [Nat.add_mul, Nat.one_mul, Nat.add_mul] at h10
                    rw [if_pos (by omega), if_neg hlt]
                    rw [show base + start * sizeT C e + i * sizeT C e + j - (base + start * sizeT C e + xs.length * sizeT C e + 0) = (i - xs.length) * sizeT C e + j by rw [Nat.sub_mul]; omega]
                    exact flatV_get (by omega) hj) (RowsR_append (fun i hi j hj => by
                      have hg5 : xs[i] = xs0[start + i]'(hxe i hi) := by
                        have : xs[i]? = xs0[start + i]? := by
                          rw [← hxse, List.getElem?_take, if_pos (by omega), List.getElem?_drop]
                        rw [List.getElem?_eq_getElem hi, List.getElem?_eq_getElem (hxe i hi)] at this
                        simpa using this
                      have := ((hr (start + i) (hxe i hi) j (by rw [← hg5]; exact hj)).keep hkp).keep hkn
                      simp only [hg5]
                      exact this) (fun i hi j hj => ((g1 i hi j hj).keep hkp).keep hkn)))
              have hwr : wrH h [(id, none), (nid, some (.arr e (xs ++ ys)))] = wrH (h.set id (some (.arr e []))) [(id, none), (nid, some (.arr e (xs ++ ys)))] := by
                rw [wrH_set ho, wrH_set ho2, List.set_set]
              refine ⟨_, _, newC c nid (some ⟨blk, base + start * sizeT C e, sizeT C e⟩), _, hrun, hk, ⟨?_, ?_, ?_, fun i hi => by obtain rfl := new_sig hi; exact List.mem_cons_of_mem _ (List.mem_singleton.2 rfl)⟩⟩
              · have hg' := setRow_heap w blk cur cur' e3 fr hg
                have := R.sl (C := C) (w := w.setRow blk cur') (c := newC c nid (some ⟨blk, base + start * sizeT C e, sizeT C e⟩)) (start := 0) (len := xs.length + ys.length) (cap := ca) hsn (show nid < max c.n (nid + 1) by omega) hfit hm hg' (by
                  rw [s2]; simp only [Nat.zero_add, Nat.add_mul] at hcur ⊢; omega)
                simpa using this
              · rw [hwr]; exact m1
              · rw [hwr]; exact p2.trans m2
        · -- a new row; the old one is given up
          have hdrop : ∃ c1, HR C c1 w (h.set id none) ∧ Le c h w c1 (h.set id none) w ∧ c1.σ = c.σ ∧ Keeps c w c1 w := by
            cases hsi : c.σ id with
            | none => exact ⟨c, (drop_none hh hsi).1, (drop_none hh hsi).2, rfl, (drop_none hh hsi).2.keeps hh⟩
            | some loc => exact ⟨_, (drop_obj hh ho hsi).1, (drop_obj hh ho hsi).2, rfl, keeps_drop _⟩
          obtain ⟨c1, d1, d2, d3, d4⟩ := hdrop
          obtain ⟨v, c', w', h1, h2⟩ := append_new (ty := ty) hC d1 (fresh_ctx (fresh_set hf ho none) d3) hu hu2 hte (Holds_keep d4 hxs) (Holds_keep d4 hy) (by omega) hroom (id :: rx)
          exact ⟨v, _, c', w', h1, hk, ⟨h2.val, by rw [wrH_set ho]; exact h2.heap, by rw [wrH_set ho]; exact d2.trans h2.le, fun i hi => List.mem_cons_of_mem _ (h2.sig i (by rw [d3]; exact hi))⟩⟩
      · cases hk
    · cases hk
  · cases hk

end
end Go.AE
