/-
  AE, part 2: what the executor's values, objects and states stand for in the model's worlds; how these relations are carried from world to world.
-/
import Derived.Test.YtadnppefidjhfaaGreatAe
namespace Go.AE
open Go.RowKit

structure Loc where
  blk : Nat
  base : Nat
  wd : Nat

/-- The numbers in use; where each object lies (none: nowhere, it has no cells); the blocks that nobody writes in this call; those that nobody ever writes again. -/
structure Ctx where
  n : Nat
  σ : Nat → Option Loc
  I : Nat → Prop
  H : Nat → Prop

/-- A value of the executor stands for one of the model. -/
inductive R (C : Cfg) (c : Ctx) (w : World) : AV C.E → Value → Prop
  | bot (v : Value) : R C c w .bot v
  | undef : R C c w .undef undef
  | int {k : IntKind} {n : Int} (h : (Lit.int k n).wf = true) : R C c w (.int k n) (.int k n)
  | bool (b : Bool) : R C c w (.bool b) (.bool b)
  | str {l : List Int} {s : ByteArray} (h : (s.data.toList.map fun b => (b.toNat : Int)) = l) (hm : s.size ≤ maxLen) : R C c w (.str l) (.string s)
  | nilp : R C c w .nilp (.pointer none)
  | ptr {id row fo : Nat} {loc : Loc} (hs : c.σ id = some loc) (hn : id < c.n) : R C c w (.ptr id row fo) (.pointer (some ⟨loc.blk, loc.base + row * loc.wd + fo, none⟩))
  | ro {cells : List (AV C.E)} {b off : Nat} (f : Nat → Value) (hI : c.I b) (hc : ∀ j, j < cells.length → w.cell? ⟨b, off + j, none⟩ = some (f j))
      (hr : ∀ j (h : j < cells.length), R C c w cells[j] (f j)) : R C c w (.ro cells) (.pointer (some ⟨b, off, none⟩))
  | nils : R C c w .nils (.slice none 0 0)
  | imm0 {e : TypeId} {a : Option Addr} {cap : Nat} (hm : cap ≤ maxLen) (ha : a = none → cap = 0) : R C c w (.imm e []) (.slice a 0 cap)
  | imm {e : TypeId} {xs : List (C.E e)} {b off cap : Nat} (f : Nat → Nat → Value) (hI : c.I b) (hl : xs.length ≤ cap) (hm : cap ≤ maxLen)
      (hc : ∀ i j, i < xs.length → j < sizeT C e → w.cell? ⟨b, off + i * sizeT C e + j, none⟩ = some (f i j))
      (hr : ∀ i (h : i < xs.length) j (h' : j < (C.enc e xs[i]).length), R C c w (C.enc e xs[i])[j] (f i j)) : R C c w (.imm e xs) (.slice (some ⟨b, off, none⟩) xs.length cap)
  | him0 {e : TypeId} {a : Option Addr} {cap : Nat} (hm : cap ≤ maxLen) (ha : a = none → cap = 0) : R C c w (.him e []) (.slice a 0 cap)
  | him {e : TypeId} {xs : List (C.E e)} {b off cap : Nat} (f : Nat → Nat → Value) (hI : c.I b) (hH : c.H b) (hl : xs.length ≤ cap) (hm : cap ≤ maxLen)
      (hc : ∀ i j, i < xs.length → j < sizeT C e → w.cell? ⟨b, off + i * sizeT C e + j, none⟩ = some (f i j))
      (hr : ∀ i (h : i < xs.length) j (h' : j < (C.enc e xs[i]).length), R C c w (C.enc e xs[i])[j] (f i j)) : R C c w (.him e xs) (.slice (some ⟨b, off, none⟩) xs.length cap)
  | sl0 {id start : Nat} {a : Option Addr} (hn : id < c.n) : R C c w (.sl id start 0) (.slice a 0 0)
  | sl {id start len cap : Nat} {loc : Loc} {cs : Array Value} {e : TypeId} {fr : Nat × Nat} (hs : c.σ id = some loc) (hn : id < c.n) (hl : len ≤ cap) (hm : cap ≤ maxLen)
      (hb : w.heap[loc.blk]? = some (Obj.cells cs e fr)) (hsz : loc.base + (start + cap) * loc.wd ≤ cs.size) :
      R C c w (.sl id start len) (.slice (some ⟨loc.blk, loc.base + start * loc.wd, none⟩) len cap)
  | agg {cs : List (AV C.E)} {vs : Array Value} (hl : cs.length = vs.size) (hr : ∀ j (h : j < cs.length), R C c w cs[j] (vs.getD j undef)) : R C c w (.agg cs) (.agg vs)
  | tup {cs : List (AV C.E)} {vs : Array Value} (hl : cs.length = vs.size) (hr : ∀ j (h : j < cs.length), R C c w cs[j] (vs.getD j undef)) : R C c w (.tup cs) (.tuple vs)
  | fn {f : FuncId} {cs : List (AV C.E)} {vs : Array Value} (hl : cs.length = vs.size) (hr : ∀ j (h : j < cs.length), R C c w cs[j] (vs.getD j undef)) : R C c w (.fn f cs) (.func (.func f) #[] vs)
  | mp {id : Nat} {loc : Loc} (hs : c.σ id = some loc) (hn : id < c.n) : R C c w (.mp id) (.map (some loc.blk))

theorem R.weak {C : Cfg} {c : Ctx} {w : World} {x : AV C.E} {v : Value} (h : R C c w x v) : R C c w x.weak v := by
  cases h with
  | him0 hm ha => exact .imm0 hm ha
  | him f hI _ hl hm hc hr => exact .imm f hI hl hm hc hr
  | bot v => exact .bot v
  | undef => exact .undef
  | int h => exact .int h
  | bool b => exact .bool b
  | str h hm => exact .str h hm
  | nilp => exact .nilp
  | ptr hs hn => exact .ptr hs hn
  | ro f hI hc hr => exact .ro f hI hc hr
  | nils => exact .nils
  | imm0 hm ha => exact .imm0 hm ha
  | imm f hI hl hm hc hr => exact .imm f hI hl hm hc hr
  | sl0 hn => exact .sl0 hn
  | sl hs hn hl hm hb hsz => exact .sl hs hn hl hm hb hsz
  | agg hl hr => exact .agg hl hr
  | tup hl hr => exact .tup hl hr
  | fn hl hr => exact .fn hl hr
  | mp hs hn => exact .mp hs hn

/-- An object lies where its place says. -/
inductive ObR (C : Cfg) (c : Ctx) (w : World) (id : Nat) : Ob C.E → Prop
  | box {cells : List (AV C.E)} {b : Nat} (hs : c.σ id = some ⟨b, 0, cells.length⟩) (f : Nat → Value) (hc : ∀ j, j < cells.length → w.cell? ⟨b, j, none⟩ = some (f j))
      (hr : ∀ j (h : j < cells.length), R C c w cells[j] (f j)) : ObR C c w id (.box cells)
  | nowhere {e : TypeId} (hs : c.σ id = none) : ObR C c w id (.arr e [])
  | arr {e : TypeId} {xs : List (C.E e)} {b base : Nat} (hs : c.σ id = some ⟨b, base, sizeT C e⟩) (f : Nat → Nat → Value)
      (hc : ∀ i j, i < xs.length → j < sizeT C e → w.cell? ⟨b, base + i * sizeT C e + j, none⟩ = some (f i j))
      (hr : ∀ i (h : i < xs.length) j (h' : j < (C.enc e xs[i]).length), R C c w (C.enc e xs[i])[j] (f i j)) : ObR C c w id (.arr e xs)
  | map {k e : TypeId} {xs : List (C.E k × C.E e)} {b : Nat} {tk te : TI C.E} (hs : c.σ id = some ⟨b, 0, 0⟩) (hk : C.T k = some tk) (he : C.T e = some te) (es : Array MapEntry)
      (hb : w.heap[b]? = some (.map es xs.length)) (hl : es.size = xs.length) (hborn : ∀ (i : Nat) (m : MapEntry), es[i]? = some m → m.born = i)
      (hkey : ∀ (i : Nat) (h : i < xs.length) (m : MapEntry), es[i]? = some m → R C c w (mkV tk.d (C.enc k xs[i].1)) m.key)
      (hval : ∀ (i : Nat) (h : i < xs.length) (m : MapEntry), es[i]? = some m → R C c w (mkV te.d (C.enc e xs[i].2)) m.val)
      (hkd : ∀ p ∈ xs, kindsT C k (C.enc k p.1) = true) : ObR C c w id (.map k e xs)
  | mapv {k e : TypeId} {xs : List (C.E k × AV C.E)} {b : Nat} {tk : TI C.E} (hs : c.σ id = some ⟨b, 0, 0⟩) (hk : C.T k = some tk) (es : Array MapEntry)
      (hb : w.heap[b]? = some (.map es xs.length)) (hl : es.size = xs.length) (hborn : ∀ (i : Nat) (m : MapEntry), es[i]? = some m → m.born = i)
      (hkey : ∀ (i : Nat) (h : i < xs.length) (m : MapEntry), es[i]? = some m → R C c w (mkV tk.d (C.enc k xs[i].1)) m.key)
      (hval : ∀ (i : Nat) (h : i < xs.length) (m : MapEntry), es[i]? = some m → R C c w xs[i].2 m.val)
      (hkd : ∀ p ∈ xs, kindsT C k (C.enc k p.1) = true) : ObR C c w id (.mapv k e xs)

/-- A block that may be written: a row of cells, none of them frozen. -/
def Soft (w : World) (b : Nat) : Prop := ∃ cs e fr, w.heap[b]? = some (Obj.cells cs e fr) ∧ (fr.1 = fr.2 ∨ cs.size ≤ fr.1)
theorem soft_free {w : World} {b : Nat} {cs : Array Value} {e : TypeId} {fr : Nat × Nat} (h : w.heap[b]? = some (Obj.cells cs e fr)) (hf : fr.1 = fr.2 ∨ cs.size ≤ fr.1) : ∀ j, j < cs.size → w.frozen? ⟨b, j, none⟩ = false := by
  intro j hj
  obtain ⟨lo, hi⟩ := fr
  unfold World.frozen?
  simp only [h]
  simp only at hf
  simp only [Bool.and_eq_false_iff, decide_eq_false_iff_not]
  omega

/-- Where an object lies: a block that may be written; a map. -/
def SoftO {E : Nat → Type} (w : World) (b : Nat) : Ob E → Prop
  | .map .. | .mapv .. => ∃ es n, w.heap[b]? = some (Obj.map es n)
  | _ => Soft w b
theorem Soft.lt {w : World} {b : Nat} (h : Soft w b) : b < w.heap.size := by
  obtain ⟨cs, e, fr, h, _⟩ := h
  exact (Array.getElem?_eq_some_iff.1 h).1
theorem SoftO.lt {E : Nat → Type} {w : World} {b : Nat} {o : Ob E} (h : SoftO w b o) : b < w.heap.size := by
  cases o with
  | map k e xs => obtain ⟨es, n, h⟩ := h; exact (Array.getElem?_eq_some_iff.1 h).1
  | mapv k e xs => obtain ⟨es, n, h⟩ := h; exact (Array.getElem?_eq_some_iff.1 h).1
  | box cs => exact Soft.lt h
  | arr e xs => exact Soft.lt h
theorem Soft.same {w w' : World} {b : Nat} (h : Soft w b) (e : w'.heap[b]? = w.heap[b]?) : Soft w' b := by
  unfold Soft at h ⊢
  rw [e]; exact h
theorem SoftO.same {E : Nat → Type} {w w' : World} {b : Nat} {o : Ob E} (h : SoftO w b o) (e : w'.heap[b]? = w.heap[b]?) : SoftO w' b o := by
  cases o with
  | map k t xs =>
    obtain ⟨es, n, h⟩ := h
    exact ⟨es, n, e.trans h⟩
  | mapv k t xs =>
    obtain ⟨es, n, h⟩ := h
    exact ⟨es, n, e.trans h⟩
  | box cs => exact Soft.same h e
  | arr t xs => exact Soft.same h e

def Own {E : Nat → Type} (c : Ctx) (h : Heap E) (k : Nat) : Prop := ∃ id o loc, h[id]? = some (some o) ∧ c.σ id = some loc ∧ loc.blk = k

/-- The package-level variables that nobody writes stand as they are told. -/
def Glob (C : Cfg) (c : Ctx) (w : World) : Prop := ∀ g l, C.gl g = some l → c.I g ∧ ∀ j (h : j < l.length), w.cell? ⟨g, j, none⟩ = some (.int l[j].1 l[j].2) ∧ (Lit.int l[j].1 l[j].2).wf = true

structure HR (C : Cfg) (c : Ctx) (w : World) (h : Heap C.E) : Prop where
  gl : Glob C c w
  len : h.length = c.n
  sn : ∀ id, c.n ≤ id → c.σ id = none
  bnd : ∀ k, c.I k → k < w.heap.size
  hI : ∀ k, c.H k → c.I k
  ob : ∀ id o, h[id]? = some (some o) → ObR C c w id o
  soft : ∀ id o loc, h[id]? = some (some o) → c.σ id = some loc → SoftO w loc.blk o ∧ ¬ c.I loc.blk
  inj : ∀ i j oi oj li lj, h[i]? = some (some oi) → h[j]? = some (some oj) → c.σ i = some li → c.σ j = some lj → li.blk = lj.blk → i = j

/-- A state stands for an activation and a world. -/
structure Rep (C : Cfg) (c : Ctx) (w : World) (st : St C.E) (a : Act) : Prop where
  defers : a.defers = []
  size : a.tmps.size = st.t.length
  slot : ∀ i, R C c w (st.t.getD i .undef) (a.tmps.getD i undef)
  heap : HR C c w st.h

/-- A world goes over into another: what nobody owned stays as it was. -/
structure Le {E : Nat → Type} (c : Ctx) (h : Heap E) (w : World) (c' : Ctx) (h' : Heap E) (w' : World) : Prop where
  n : c.n ≤ c'.n
  σ : ∀ id loc, id < c.n → c.σ id = some loc → c'.σ id = some loc
  I : ∀ k, c.I k → c'.I k
  H : ∀ k, c.H k → c'.H k
  old : ∀ k, k < w.heap.size → c'.I k → c.I k ∨ Own c h k
  oldH : ∀ k, k < w.heap.size → c'.H k → c.H k ∨ Own c h k
  own : ∀ k, k < w.heap.size → Own c' h' k → Own c h k
  size : w.heap.size ≤ w'.heap.size
  os : w'.os = w.os
  tape : w'.tape = w.tape
  output : w'.output = w.output
  frame : ∀ k, k < w.heap.size → ¬ Own c h k → w'.heap[k]? = w.heap[k]?
  shape : ∀ (k : Nat) (cs : Array Value) (e : TypeId) (fr : Nat × Nat), w.heap[k]? = some (Obj.cells cs e fr) → ∃ cs' fr', w'.heap[k]? = some (Obj.cells cs' e fr') ∧ cs'.size = cs.size

theorem Le.refl {E : Nat → Type} (c : Ctx) (h : Heap E) (w : World) : Le c h w c h w :=
  ⟨Nat.le_refl _, fun _ _ _ h => h, fun _ h => h, fun _ h => h, fun _ _ h => .inl h, fun _ _ h => .inl h, fun _ _ h => h, Nat.le_refl _, rfl, rfl, rfl, fun _ _ _ => rfl, fun _ cs _ fr h => ⟨cs, fr, h, rfl⟩⟩

theorem lt_of_cells {w : World} {k : Nat} {cs : Array Value} {e : TypeId} {fr : Nat × Nat} (h : w.heap[k]? = some (Obj.cells cs e fr)) : k < w.heap.size := by
  rcases Nat.lt_or_ge k w.heap.size with h1 | h1
  · exact h1
  · rw [Array.getElem?_eq_none h1] at h; cases h

theorem Le.trans {E : Nat → Type} {c c1 c2 : Ctx} {h h1 h2 : Heap E} {w w1 w2 : World} (a : Le c h w c1 h1 w1) (b : Le c1 h1 w1 c2 h2 w2) : Le c h w c2 h2 w2 where
  n := Nat.le_trans a.n b.n
  σ id loc hn hs := b.σ id loc (Nat.lt_of_lt_of_le hn a.n) (a.σ id loc hn hs)
  I k hk := b.I k (a.I k hk)
  H k hk := b.H k (a.H k hk)
  old k hk hI := by
    rcases b.old k (Nat.lt_of_lt_of_le hk a.size) hI with h | h
    · exact a.old k hk h
    · exact .inr (a.own k hk h)
  oldH k hk hI := by
    rcases b.oldH k (Nat.lt_of_lt_of_le hk a.size) hI with h | h
    · exact a.oldH k hk h
    · exact .inr (a.own k hk h)
  own k hk ho := a.own k hk (b.own k (Nat.lt_of_lt_of_le hk a.size) ho)
  size := Nat.le_trans a.size b.size
  os := b.os.trans a.os
  tape := b.tape.trans a.tape
  output := b.output.trans a.output
  frame k hk ho := (b.frame k (Nat.lt_of_lt_of_le hk a.size) (fun h => ho (a.own k hk h))).trans (a.frame k hk ho)
  shape k cs e fr hk := by
    obtain ⟨cs1, fr1, h1, e1⟩ := a.shape k cs e fr hk
    obtain ⟨cs2, fr2, h2, e2⟩ := b.shape k cs1 e fr1 h1
    exact ⟨cs2, fr2, h2, e2.trans e1⟩

/-- What R needs of a change of world and context. -/
structure Keeps (c : Ctx) (w : World) (c' : Ctx) (w' : World) : Prop where
  n : c.n ≤ c'.n
  σ : ∀ id loc, id < c.n → c.σ id = some loc → c'.σ id = some loc
  I : ∀ k, c.I k → c'.I k
  H : ∀ k, c.H k → c'.H k
  block : ∀ k, c.I k → w'.heap[k]? = w.heap[k]?
  shape : ∀ (k : Nat) (cs : Array Value) (e : TypeId) (fr : Nat × Nat), w.heap[k]? = some (Obj.cells cs e fr) → ∃ cs' fr', w'.heap[k]? = some (Obj.cells cs' e fr') ∧ cs'.size = cs.size

theorem HR.notOwn {C : Cfg} {c : Ctx} {w : World} {h : Heap C.E} (hr : HR C c w h) {k : Nat} (hk : c.I k) : ¬ Own c h k := by
  rintro ⟨id, o, loc, h1, h2, rfl⟩
  exact (hr.soft id o loc h1 h2).2 hk

theorem Le.keeps {C : Cfg} {c c' : Ctx} {w w' : World} {h h' : Heap C.E} (hr : HR C c w h) (l : Le c h w c' h' w') : Keeps c w c' w' :=
  ⟨l.n, l.σ, l.I, l.H, fun k hk => l.frame k (hr.bnd k hk) (hr.notOwn hk), l.shape⟩

theorem cell_keeps {c c' : Ctx} {w w' : World} (h : Keeps c w c' w') {b : Nat} (hI : c.I b) (off : Nat) : w'.cell? ⟨b, off, none⟩ = w.cell? ⟨b, off, none⟩ := by
  unfold World.cell?
  rw [show (w'.heap[(⟨b, off, none⟩ : Addr).block]?) = w.heap[(⟨b, off, none⟩ : Addr).block]? from h.block b hI]

theorem R.keep {C : Cfg} {c c' : Ctx} {w w' : World} (hk : Keeps c w c' w') {x : AV C.E} {v : Value} (h : R C c w x v) : R C c' w' x v := by
  induction h with
  | bot v => exact .bot v
  | undef => exact .undef
  | int h => exact .int h
  | bool b => exact .bool b
  | str h hm => exact .str h hm
  | nilp => exact .nilp
  | ptr hs hn => exact .ptr (hk.σ _ _ hn hs) (Nat.lt_of_lt_of_le hn hk.n)
  | ro f hI hc _ ih => exact .ro f (hk.I _ hI) (fun j hj => (cell_keeps hk hI _).trans (hc j hj)) ih
  | nils => exact .nils
  | imm0 hm ha => exact .imm0 hm ha
  | imm f hI hl hm hc _ ih => exact .imm f (hk.I _ hI) hl hm (fun i j hi hj => (cell_keeps hk hI _).trans (hc i j hi hj)) ih
  | him0 hm ha => exact .him0 hm ha
  | him f hI hH hl hm hc _ ih => exact .him f (hk.I _ hI) (hk.H _ hH) hl hm (fun i j hi hj => (cell_keeps hk hI _).trans (hc i j hi hj)) ih
  | sl0 hn => exact .sl0 (Nat.lt_of_lt_of_le hn hk.n)
  | sl hs hn hl hm hb hsz =>
    obtain ⟨cs', fr', h1, h2⟩ := hk.shape _ _ _ _ hb
    exact .sl (hk.σ _ _ hn hs) (Nat.lt_of_lt_of_le hn hk.n) hl hm h1 (by rw [h2]; exact hsz)
  | agg hl _ ih => exact .agg hl ih
  | tup hl _ ih => exact .tup hl ih
  | fn hl _ ih => exact .fn hl ih
  | mp hs hn => exact .mp (hk.σ _ _ hn hs) (Nat.lt_of_lt_of_le hn hk.n)

theorem Glob.to {C : Cfg} {c c' : Ctx} {w w' : World} (h : Glob C c w) (hI : ∀ k, c.I k → c'.I k) (hb : ∀ k, c.I k → w'.heap[k]? = w.heap[k]?) : Glob C c' w' := fun g l e => by
  obtain ⟨h1, h2⟩ := h g l e
  refine ⟨hI _ h1, fun j hj => ?_⟩
  obtain ⟨h3, h4⟩ := h2 j hj
  refine ⟨?_, h4⟩
  unfold World.cell? at h3 ⊢
  rw [show (w'.heap[(⟨g, j, none⟩ : Addr).block]?) = w.heap[(⟨g, j, none⟩ : Addr).block]? from hb g h1]
  exact h3
theorem Glob.keep {C : Cfg} {c c' : Ctx} {w w' : World} (h : Glob C c w) (hk : Keeps c w c' w') : Glob C c' w' := h.to hk.I hk.block

theorem Rep.eval {C : Cfg} {c : Ctx} {w : World} {st : St C.E} {a : Act} (h : Rep C c w st a) (x : Operand) : R C c w (st.eval C x) (a.eval x) := by
  cases x with
  | tmp t => exact h.slot t
  | const v =>
    show R C c w (AV.ofConst v) v
    unfold AV.ofConst
    split
    · rename_i k n
      cases hb : (decide (k.min ≤ n) && decide (n ≤ k.max)) with
      | false => exact .bot _
      | true => exact .int hb
    · exact .bool _
    · rename_i s
      cases hb : Nat.ble s.size 1048576 with
      | true => exact .str rfl (by have := Nat.le_of_ble_eq_true hb; unfold maxLen; omega)
      | false => exact .bot _
    · exact .nilp
    · exact .nils
    · exact .bot _
  | global g =>
    show R C c w (match C.gl g with
      | some l => .ro (l.map fun p => .int p.1 p.2)
      | none => .bot) (.pointer (some ⟨g, 0, none⟩))
    split
    · rename_i l e
      obtain ⟨h1, h2⟩ := h.heap.gl g l e
      refine .ro (fun j => .int (l.getD j (.i64, 0)).1 (l.getD j (.i64, 0)).2) h1 (fun j hj => ?_) (fun j hj => ?_)
      · have hj' : j < l.length := by simpa using hj
        rw [Nat.zero_add, (h2 j hj').1, List.getD_eq_getElem?_getD, List.getElem?_eq_getElem hj']; rfl
      · have hj' : j < l.length := by simpa using hj
        rw [List.getD_eq_getElem?_getD, List.getElem?_eq_getElem hj', List.getElem_map]
        exact .int (h2 j hj').2
    · exact .bot _
  | func f => exact .fn rfl (fun j h => absurd h (Nat.not_lt_zero j))

end Go.AE
