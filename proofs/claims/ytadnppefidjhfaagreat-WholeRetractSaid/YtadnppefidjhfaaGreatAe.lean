/-
  AE, part 1: AN ABSTRACT EXECUTOR over the model's code: its values (slices as plain lists), its heap of owned objects, its operations in continuation form. Definitions alone; no program, no fact.
-/
import Derived.WalkKit
namespace Go.AE

/-- What is known of a type. A struct: each field's type and its first cell. -/
inductive TD where
  | other | bool | str | int (k : IntKind) | ptr | slice (e : TypeId) | array (n : Nat) (e : TypeId) | struct (fs : List (TypeId × Nat)) | map (k e : TypeId)

/-- Values. 'imm e xs': a slice whose memory nobody writes, elements xs of type e ('him': nobody ever again; 'imm' may be lent for a call's time). 'sl': a slice into an owned object. 'ro': the address of cells that nobody writes. 'mp': a map, an owned object. 'undef': the slot of an operation that was passed over. 'bot': nothing is known. -/
inductive AV (E : Nat → Type) where
  | bot | undef
  | int (k : IntKind) (n : Int) | bool (b : Bool) | str (l : List Int)
  | nilp | ptr (id row fo : Nat) | ro (cells : List (AV E))
  | nils | imm (e : TypeId) (xs : List (E e)) | him (e : TypeId) (xs : List (E e)) | sl (id start len : Nat)
  | agg (cells : List (AV E)) | tup (vs : List (AV E))
  | fn (f : FuncId) (caps : List (AV E))
  | mp (id : Nat)
instance {E} : Inhabited (AV E) := ⟨.bot⟩

structure TI (E : Nat → Type) where
  d : TD
  eqf : Bool
  size : Nat
  bytes : Nat
  zero : List (AV E)

/-- The program, the elements' Lean types, their cells, the types' table. -/
structure Cfg where
  P : Program
  E : Nat → Type
  enc : (e : Nat) → E e → List (AV E)
  dec : (e : Nat) → List (AV E) → Option (E e)
  T : Nat → Option (TI E)
  bytes : (e : Nat) → List (E e) → Option (List Int)
  /-- Package-level variables that nobody writes: their cells, integers. -/
  gl : Nat → Option (List (IntKind × Int)) := fun _ => none

/-- Owned objects: a variable's cells; an array of elements; a map's keys with their values, in the order in which they came (mapv: values of any kind, as slices that are owned). -/
inductive Ob (E : Nat → Type) where
  | box (cells : List (AV E))
  | arr (e : TypeId) (xs : List (E e))
  | map (k e : TypeId) (xs : List (E k × E e))
  | mapv (k e : TypeId) (xs : List (E k × AV E))

abbrev Heap (E : Nat → Type) := List (Option (Ob E))

structure Eff (E : Nat → Type) where
  v : AV E
  wr : List (Nat × Option (Ob E))
  rd : List Nat

structure St (E : Nat → Type) where
  t : List (AV E)
  h : Heap E

def AV.cells {E} : AV E → List (AV E)
  | .agg cs => cs
  | v => [v]

/-- Of one cell, and known. -/
def AV.isCell {E} : AV E → Bool
  | .bot | .undef | .agg _ | .tup _ => false
  | _ => true

/-- What is never written again is not written now. -/
def AV.weak {E} : AV E → AV E
  | .him e xs => .imm e xs
  | x => x

/-- Constants of the code. -/
def AV.ofConst {E} : Value → AV E
  | .int k n => cond (decide (k.min ≤ n) && decide (n ≤ k.max)) (.int k n) .bot
  | .bool b => .bool b
  | .string s => match Nat.ble s.size 1048576 with
    | true => .str (s.data.toList.map fun b => (b.toNat : Int))
    | false => .bot
  | .pointer none => .nilp
  | .slice none 0 0 => .nils
  | _ => .bot

def St.eval (C : Cfg) (st : St C.E) : Operand → AV C.E
  | .tmp t => st.t.getD t .undef
  | .const v => .ofConst v
  | .global g => match C.gl g with
    | some l => .ro (l.map fun p => .int p.1 p.2)
    | none => .bot
  | .func f => .fn f []

def TD.isAgg : TD → Bool
  | .array .. | .struct .. => true
  | _ => false

/-- n cells off the front, all of them. -/
def takeN {α : Type} : Nat → List α → Option (List α)
  | 0, _ => some []
  | _ + 1, [] => none
  | n + 1, x :: l => match takeN n l with
    | some r => some (x :: r)
    | none => none

/-- The value of a type with these cells. -/
def mkV {E} (d : TD) (cs : List (AV E)) : AV E :=
  match d.isAgg with
  | true => .agg cs
  | false => match cs with
    | [c] => c
    | _ => .bot

/-- Cells laid over others from a place on. -/
def splice {α : Type} : List α → Nat → List α → Option (List α)
  | l, _, [] => some l
  | [], _, _ :: _ => none
  | x :: l, n + 1, vs => match splice l n vs with
    | some r => some (x :: r)
    | none => none
  | _ :: l, 0, v :: vs => match splice l 0 vs with
    | some r => some (v :: r)
    | none => none

def idxO {α : Type} (l : List α) (i : Int) : Option α :=
  match decide (0 ≤ i) with
  | true => l[i.toNat]?
  | false => none

/-- '==' on two lists of cells, of the kinds of a third: numbers, bools. -/
def eqCells {E} : List (AV E) → List (AV E) → List (AV E) → Option Bool
  | [], [], [] => some true
  | .int k _ :: zs, .int k1 a :: l, .int k2 b :: r => match decide (k1 = k) && decide (k2 = k), eqCells zs l r with
    | true, some t => some (cond (a == b) t false)
    | _, _ => none
  | .bool _ :: zs, .bool a :: l, .bool b :: r => match eqCells zs l r with
    | some t => some (cond (a == b) t false)
    | none => none
  | _, _, _ => none

section
variable {E : Nat → Type} {Z : Type}

/-- A value alone. -/
def val (v : AV E) (K : Eff E → Option Z) : Option Z := K ⟨v, [], []⟩

def intOp (op : BinOp) (k : IntKind) (a b : Int) (K : Eff E → Option Z) : Option Z :=
  match op with
  | .add => val (.int k (k.wrap (a + b))) K
  | .sub => val (.int k (k.wrap (a - b))) K
  | .mul => val (.int k (k.wrap (a * b))) K
  | .quo => cond (b == 0) none (val (.int k (k.wrap (a.tdiv b))) K)
  | .rem => cond (b == 0) none (val (.int k (a.tmod b)) K)
  | .and | .or | .xor | .andNot => val (.int k (bits op k a b)) K
  | .eql => val (.bool (a == b)) K
  | .neq => val (.bool (a != b)) K
  | .lss => val (.bool (decide (a < b))) K
  | .leq => val (.bool (decide (a ≤ b))) K
  | .gtr => val (.bool (decide (a > b))) K
  | .geq => val (.bool (decide (a ≥ b))) K
  | _ => none

def binK (ti : TI E) (op : BinOp) (x y : AV E) (K : Eff E → Option Z) : Option Z :=
  match op, x, y with
  | .shl, .int k a, .int _ b => cond (decide (b < 0)) none (val (.int k (k.wrap (a * 2 ^ (min b.toNat k.bits)))) K)
  | .shr, .int k a, .int _ b => cond (decide (b < 0)) none (val (.int k (a.fdiv (2 ^ (min b.toNat k.bits)))) K)
  | op, .int k a, .int k' b => match decide (k = k') with
    | true => intOp op k a b K
    | false => none
  | .eql, .bool a, .bool b => match ti.d with
    | .bool => val (.bool (a == b)) K
    | _ => none
  | .neq, .bool a, .bool b => match ti.d with
    | .bool => val (.bool (!(a == b))) K
    | _ => none
  | .eql, .str a, .str b => val (.bool (decide (a = b))) K
  | .neq, .str a, .str b => val (.bool (!(decide (a = b)))) K
  | .eql, .nilp, .nilp => match ti.d with
    | .ptr => val (.bool true) K
    | _ => none
  | .neq, .nilp, .nilp => match ti.d with
    | .ptr => val (.bool false) K
    | _ => none
  | .eql, .ptr .., .nilp => match ti.d with
    | .ptr => val (.bool false) K
    | _ => none
  | .neq, .ptr .., .nilp => match ti.d with
    | .ptr => val (.bool true) K
    | _ => none
  | .eql, .ro _, .nilp => match ti.d with
    | .ptr => val (.bool false) K
    | _ => none
  | .neq, .ro _, .nilp => match ti.d with
    | .ptr => val (.bool true) K
    | _ => none
  | .eql, .nils, .nils => match ti.d with
    | .slice _ => val (.bool true) K
    | _ => none
  | .eql, .sl _ _ (_ + 1), .nils => match ti.d with
    | .slice _ => val (.bool false) K
    | _ => none
  | .eql, .agg a, .agg b => match ti.eqf, Nat.beq a.length ti.size, Nat.beq b.length ti.size, eqCells ti.zero a b with
    | true, true, true, some t => val (.bool t) K
    | _, _, _, _ => none
  | .neq, .agg a, .agg b => match ti.eqf, Nat.beq a.length ti.size, Nat.beq b.length ti.size, eqCells ti.zero a b with
    | true, true, true, some t => val (.bool (!t)) K
    | _, _, _, _ => none
  | _, _, _ => none

def unK (op : UnOp) (x : AV E) (K : Eff E → Option Z) : Option Z :=
  match op, x with
  | .neg, .int k n => val (.int k (k.wrap (0 - n))) K
  | .xor, .int k n => val (.int k (bits .xor k (cond k.signed (-1) k.max) n)) K
  | .not, .bool b => val (.bool (!b)) K
  | _, _ => none

/-- A row of an array, its cells. -/
def rowK (C : Cfg) (e : TypeId) (xs : List (C.E e)) (i : Nat) (K : List (AV C.E) → Option Z) : Option Z :=
  Option.bind xs[i]? fun x => K (C.enc e x)

def loadK (C : Cfg) (lk : Nat → Option (Ob C.E)) (t : TypeId) (p : AV C.E) (K : Eff C.E → Option Z) : Option Z :=
  match C.T t, p with
  | some ti, .ro cells => match takeN ti.size cells with
    | some cs => val (mkV ti.d cs) K
    | none => none
  | some ti, .ptr id row fo => match lk id with
    | some (.box cells) => match row, takeN ti.size (cells.drop fo) with
      | 0, some cs => K ⟨mkV ti.d cs, [], [id]⟩
      | _, _ => none
    | some (.arr e xs) => rowK C e xs row fun cells => match takeN ti.size (cells.drop fo) with
      | some cs => K ⟨mkV ti.d cs, [], [id]⟩
      | none => none
    | some (.map ..) => none
    | some (.mapv ..) => none
    | none => none
  | _, _ => none

def storeK (C : Cfg) (lk : Nat → Option (Ob C.E)) (t : TypeId) (p x : AV C.E) (K : Eff C.E → Option Z) : Option Z :=
  match C.T t, p with
  | some ti, .ptr id row fo => match Nat.beq x.cells.length ti.size && x.cells.all AV.isCell, lk id with
    | true, some (.box cells) => match row, splice cells fo x.cells with
      | 0, some cs => K ⟨.undef, [(id, some (.box cs))], [id]⟩
      | _, _ => none
    | true, some (.arr e xs) => rowK C e xs row fun cells => match splice cells fo x.cells with
      | some cs => Option.bind (C.dec e cs) fun y => K ⟨.undef, [(id, some (.arr e (xs.set row y)))], [id]⟩
      | none => none
    | _, _ => none
  | _, _ => none

/-- The parts of a composite laid over its zero. -/
def fillK {α : Type} : List (AV E) → List (Nat × α) → (α → AV E) → (Nat → Option (Nat × Nat)) → Option (List (AV E))
  | zs, [], _, _ => some zs
  | zs, (i, x) :: rest, ρ, place => match place i with
    | some (off, size) => match Nat.beq (ρ x).cells.length size && (Nat.blt 0 size && (ρ x).cells.all AV.isCell), splice zs off (ρ x).cells with
      | true, some zs' => fillK zs' rest ρ place
      | _, _ => none
    | none => none

def sizeT (C : Cfg) (t : TypeId) : Nat := match C.T t with
  | some ti => ti.size
  | none => 0

def chunks {α : Type} (w : Nat) : Nat → List α → Option (List (List α))
  | 0, _ => some []
  | n + 1, l => match takeN w l, chunks w n (l.drop w) with
    | some c, some r => some (c :: r)
    | _, _ => none

def decAll (C : Cfg) (e : TypeId) : List (List (AV C.E)) → Option (List (C.E e))
  | [] => some []
  | r :: rest => Option.bind (C.dec e r) fun x => Option.bind (decAll C e rest) fun xs => some (x :: xs)

def indexAddrK (C : Cfg) (lk : Nat → Option (Ob C.E)) (t : TypeId) (x i : AV C.E) (K : Eff C.E → Option Z) : Option Z :=
  match C.T t, x, i with
  | some { d := .array n e, .. }, .ptr id row fo, .int _ i => cond (decide (0 ≤ i) && decide (i < (n : Int))) (val (.ptr id row (fo + i.toNat * sizeT C e)) K) none
  | some { d := .array n e, .. }, .ro cells, .int _ i => cond (decide (0 ≤ i) && decide (i < (n : Int))) (val (.ro (cells.drop (i.toNat * sizeT C e))) K) none
  | some { d := .slice e', .. }, .imm e xs, .int _ i => match Nat.beq e' e with
    | true => Option.bind (idxO xs i) fun x => val (.ro (C.enc e x)) K
    | false => none
  | some { d := .slice e', .. }, .sl id start len, .int _ i => match lk id with
    | some (.arr e _) => match Nat.beq e' e with
      | true => cond (decide (0 ≤ i) && decide (i < (len : Int))) (K ⟨.ptr id (start + i.toNat) 0, [], [id]⟩) none
      | false => none
    | _ => none
  | _, _, _ => none

def indexK (C : Cfg) (t : TypeId) (x i : AV C.E) (K : Eff C.E → Option Z) : Option Z :=
  match C.T t, x, i with
  | some { d := .array n e, .. }, .agg cs, .int _ i => cond (decide (0 ≤ i) && decide (i < (n : Int)))
    (match C.T e with
      | some te => match Nat.ble n 1024, chunks te.size n cs with
        | true, some rows => Option.bind (decAll C e rows) fun xs => Option.bind (idxO xs i) fun x => val (mkV te.d (C.enc e x)) K
        | _, _ => none
      | none => none) none
  | some { d := .str, .. }, .str l, .int _ i => Option.bind (idxO l i) fun b => val (.int .u8 b) K
  | _, _, _ => none

/-- A bound of a slice expression; none of its own: what stands there. -/
def bnd (x : Option (AV E)) (d : Int) : Option Int := match x with
  | none => some d
  | some (.int _ i) => some i
  | _ => none

def sliceK (C : Cfg) (t : TypeId) (x : AV C.E) (lo hi mx : Option (AV C.E)) (lk : Nat → Option (Ob C.E)) (K : Eff C.E → Option Z) : Option Z :=
  match hi.isNone && mx.isSome with
  | true => none
  | false => match C.T t, x with
  | some { d := .slice e', .. }, .imm e xs => match Nat.beq e' e, bnd lo 0, bnd hi xs.length, bnd mx xs.length with
    | true, some l, some h, some m => cond (decide (0 ≤ l) && decide (l ≤ h) && decide (h ≤ m) && decide (m ≤ (xs.length : Int))) (val (.imm e ((xs.take h.toNat).drop l.toNat)) K) none
    | _, _, _, _ => none
  | some { d := .slice e', .. }, .sl id start len => match lk id, bnd lo 0, bnd hi len, bnd mx len with
    | some (.arr e _), some l, some h, some m => match Nat.beq e' e with
      | true => cond (decide (0 ≤ l) && decide (l ≤ h) && decide (h ≤ m) && decide (m ≤ (len : Int))) (K ⟨.sl id (start + l.toNat) (h.toNat - l.toNat), [], [id]⟩) none
      | false => none
    | _, _, _, _ => none
  | some { d := .array n e, .. }, .ptr id 0 0 => match lo, hi, mx, lk id, C.T e with
    | none, none, none, some (.box cells), some te => match Nat.ble n 1048576, chunks te.size n cells with
      | true, some rows => Option.bind (decAll C e rows) fun xs => K ⟨.imm e xs, [(id, none)], [id]⟩
      | _, _ => none
    | _, _, _, _, _ => none
  | _, _ => none

def convK (C : Cfg) (src dst : TypeId) (x : AV C.E) (K : Eff C.E → Option Z) : Option Z :=
  match C.T src, C.T dst, x with
  | some { d := .int _, .. }, some { d := .int k, .. }, .int _ n => val (.int k (k.wrap n)) K
  | _, _, _ => none

/-- The most elements that a slice is let grow to. -/
def roomy (n bytes : Nat) : Bool := decide (n * bytes ≤ 140737488355328)

/-- A slice's elements, as they read now; and the object that it lies in. -/
def readSl (C : Cfg) (lk : Nat → Option (Ob C.E)) (e : TypeId) (x : AV C.E) (K : List (C.E e) → List Nat → Option Z) : Option Z :=
  match x with
  | .nils => K [] []
  | .imm e' xs => match decEq e' e with
    | isTrue h => K (h ▸ xs) []
    | isFalse _ => none
  | .him e' xs => match decEq e' e with
    | isTrue h => K (h ▸ xs) []
    | isFalse _ => none
  | .sl id start len => match lk id with
    | some (.arr e' xs) => match decEq e' e with
      | isTrue h => cond (decide (start + len ≤ xs.length)) (K (((h ▸ xs : List (C.E e)).drop start).take len) [id]) none
      | isFalse _ => none
    | _ => none
  | _ => none

/-- append(s, x...): s is nil or an owned slice. What is appended to is given up: the new slice lies in a new object. -/
def appendK (C : Cfg) (t : TypeId) (s x : AV C.E) (lk : Nat → Option (Ob C.E)) (nid : Nat) (K : Eff C.E → Option Z) : Option Z :=
  match C.T t with
  | some { d := .slice e, .. } => match C.T e with
    | some te => readSl C lk e x fun ys rx => match s with
      | .nils => cond (roomy ys.length te.bytes) (K ⟨.sl nid 0 ys.length, [(nid, some (.arr e ys))], rx⟩) none
      | .sl id start len => readSl C lk e (.sl id start len) fun xs _ =>
        cond (roomy (len + ys.length) te.bytes) (K ⟨.sl nid 0 (len + ys.length), [(id, none), (nid, some (.arr e (xs ++ ys)))], id :: rx⟩) none
      | _ => none
    | none => none
  | _ => none

/-- copy(d, x): d is an owned slice. -/
def copyK (C : Cfg) (t : TypeId) (d x : AV C.E) (lk : Nat → Option (Ob C.E)) (K : Eff C.E → Option Z) : Option Z :=
  match C.T t, d with
  | some { d := .slice e, .. }, .sl id start len => match C.T e, lk id with
    | some _, some (.arr e' zs) => match decEq e' e with
      | isTrue h => cond (decide (start + len ≤ zs.length)) (readSl C lk e x fun ys rx =>
          K ⟨.int .i64 ((min ys.length len : Nat) : Int), [(id, some (.arr e ((h ▸ zs : List (C.E e)).take start ++ (ys.take (min ys.length len) ++ (h ▸ zs : List (C.E e)).drop (start + min ys.length len)))))], id :: rx⟩) none
      | isFalse _ => none
    | _, _ => none
  | _, _ => none

/-- clear(d): d is an owned slice. -/
def clearK (C : Cfg) (t : TypeId) (d : AV C.E) (lk : Nat → Option (Ob C.E)) (K : Eff C.E → Option Z) : Option Z :=
  match C.T t, d with
  | some { d := .slice e, .. }, .sl id start len => match C.T e, lk id with
    | some te, some (.arr e' zs) => match decEq e' e with
      | isTrue h => Option.bind (C.dec e te.zero) fun z => cond (decide (start + len ≤ zs.length))
          (K ⟨.tup [], [(id, some (.arr e ((h ▸ zs : List (C.E e)).take start ++ (List.replicate len z ++ (h ▸ zs : List (C.E e)).drop (start + len)))))], [id]⟩) none
      | isFalse _ => none
    | _, _ => none
  | _, _ => none

/-- make([]T, l, c): of equal numbers. -/
def makeK (C : Cfg) (t : TypeId) (l c : AV C.E) (nid : Nat) (K : Eff C.E → Option Z) : Option Z :=
  match C.T t, l, c with
  | some { d := .slice e, .. }, .int _ l, .int _ c => match C.T e with
    | some te => Option.bind (C.dec e te.zero) fun z => cond (decide (0 ≤ l) && decide (l ≤ c) && decide (c * te.bytes ≤ 140737488355328) && decide (c ≤ 140737488355328)) (K ⟨.sl nid 0 l.toNat, [(nid, some (.arr e (List.replicate l.toNat z)))], []⟩) none
    | none => none
  | _, _, _ => none

def buildK (C : Cfg) (t : TypeId) (parts : List (Nat × AV C.E)) (K : Eff C.E → Option Z) : Option Z :=
  match C.T t with
  | some ti => match (match ti.d with
      | .struct fs => fillK ti.zero parts (fun x => x) (fun i => match fs[i]? with
        | some (ft, off) => match C.T ft with
          | some tf => some (off, tf.size)
          | none => none
        | none => none)
      | .array _ e => fillK ti.zero parts (fun x => x) (fun i => some (i * sizeT C e, sizeT C e))
      | _ => none) with
    | some cs => val (.agg cs) K
    | none => none
  | none => none

def buildSliceK (C : Cfg) (t : TypeId) (len : Nat) (parts : List (Nat × AV C.E)) (nid : Nat) (K : Eff C.E → Option Z) : Option Z :=
  match C.T t with
  | some { d := .slice e, .. } => match C.T e with
    | some te => match Nat.ble (len * te.size) 16777216, fillK (List.replicate len te.zero).flatten parts (fun x => x) (fun i => some (i * te.size, te.size)) with
      | true, some cs => match chunks te.size len cs with
        | some rows => Option.bind (decAll C e rows) fun xs => K ⟨.sl nid 0 len, [(nid, some (.arr e xs))], []⟩
        | none => none
      | _, _ => none
    | none => none
  | _ => none

/-- A bound that the code gives as the number 0. -/
def zeroOp : Option Operand → Bool
  | some (.const (.int _ n)) => decide (n = 0)
  | _ => false

/-- s[:0:0]: an empty slice of nowhere. -/
def zeroK (C : Cfg) (t : TypeId) (x : AV C.E) (hi mx : Option (AV C.E)) (nid : Nat) (K : Eff C.E → Option Z) : Option Z :=
  match hi, mx with
  | some (.int _ a), some (.int _ b) => match decide (a = 0) && decide (b = 0), C.T t, x with
    | true, some { d := .slice e, .. }, .imm _ _ => K ⟨.sl nid 0 0, [(nid, some (.arr e []))], []⟩
    | true, some { d := .slice e, .. }, .sl _ _ _ => K ⟨.sl nid 0 0, [(nid, some (.arr e []))], []⟩
    | true, some { d := .slice e, .. }, .nils => K ⟨.sl nid 0 0, [(nid, some (.arr e []))], []⟩
    | _, _, _ => none
  | _, _ => none

def byteT (C : Cfg) (e : TypeId) : Bool := match C.T e with
  | some { d := .int k, .. } => decide (k = .u8)
  | _ => false

/-- Conversions: of a literal's bytes to their own type; of bytes to a string; of numbers. -/
def convAK (C : Cfg) (src dst : TypeId) (x : AV C.E) (lk : Nat → Option (Ob C.E)) (K : Eff C.E → Option Z) : Option Z :=
  match C.T src, C.T dst with
  | some { d := .slice e, .. }, some { d := .slice _, .. } => match Nat.beq src dst && byteT C e, x with
    | true, .sl id start (n + 1) => readSl C lk e (.sl id start (n + 1)) fun _ _ => K ⟨.sl id start (n + 1), [], [id]⟩
    | _, _ => none
  | some { d := .slice e, .. }, some { d := .str, .. } => match byteT C e with
    | true => readSl C lk e x fun ys rd => Option.bind (C.bytes e ys) fun l => K ⟨.str l, [], rd⟩
    | false => none
  | _, _ => convK C src dst x K

/-! ### Maps -/

/-- A map's keys with their values: what stands at a key; with a key's value laid. -/
def mget {κ ν : Type} (eq : κ → κ → Bool) : List (κ × ν) → κ → Option ν
  | [], _ => none
  | p :: r, k => cond (eq k p.1) (some p.2) (mget eq r k)
def mput {κ ν : Type} (eq : κ → κ → Bool) : List (κ × ν) → κ → ν → List (κ × ν)
  | [], k, v => [(k, v)]
  | p :: r, k, v => cond (eq k p.1) ((k, v) :: r) (p :: mput eq r k v)

/-- Whether two keys are the same. -/
def keyB (C : Cfg) (k : TypeId) (a b : C.E k) : Bool := match C.T k with
  | some ti => match eqCells ti.zero (C.enc k a) (C.enc k b) with
    | some t => t
    | none => false
  | none => false

/-- Types of keys: numbers; structs of numbers and bools. -/
def keyT (C : Cfg) (k : TypeId) : Bool := match C.T k with
  | some { d := .int _, zero := [.int _ _], .. } => true
  | some { d := .struct _, eqf, .. } => eqf
  | _ => false

/-- Cells of these kinds. -/
def kinds {E : Nat → Type} : List (AV E) → List (AV E) → Bool
  | [], [] => true
  | .int k _ :: zs, .int k1 _ :: l => decide (k1 = k) && kinds zs l
  | .bool _ :: zs, .bool _ :: l => kinds zs l
  | _, _ => false
def kindsT (C : Cfg) (k : TypeId) (l : List (AV C.E)) : Bool := match C.T k with
  | some ti => kinds ti.zero l
  | none => false

/-- A value of a type of this kind: an aggregate or not. -/
def likeT {E : Nat → Type} (d : TD) : AV E → Bool
  | .agg _ => d.isAgg
  | .tup _ => false
  | _ => !d.isAgg

/-- A key off its cells; a value. -/
def keyK (C : Cfg) (k : TypeId) (x : AV C.E) (K : C.E k → Option Z) : Option Z := match C.T k with
  | some ti => match keyT C k && (kinds ti.zero x.cells && likeT ti.d x) with
    | true => Option.bind (C.dec k x.cells) K
    | false => none
  | none => none
def valK (C : Cfg) (e : TypeId) (x : AV C.E) (K : C.E e → Option Z) : Option Z := match C.T e with
  | some ti => match likeT ti.d x with
    | true => Option.bind (C.dec e x.cells) K
    | false => none
  | none => none

/-- The value where a key does not stand. -/
def zeroE (C : Cfg) (e : TypeId) (K : C.E e → Option Z) : Option Z := match C.T e with
  | some { d := .slice e', zero := [.nils], .. } => Option.bind (C.dec e [.him e' []]) K
  | some ti => Option.bind (C.dec e ti.zero) K
  | none => none

/-- Of slices that are owned: those of a type that is not told as a list. -/
def ownsV (C : Cfg) (e : TypeId) (te : TI C.E) : Bool := match te.d with
  | .slice e' => (C.dec e [.him e' []]).isNone
  | _ => false

def makeMapK (C : Cfg) (t : TypeId) (nid : Nat) (K : Eff C.E → Option Z) : Option Z := match C.T t with
  | some { d := .map k e, .. } => match C.T k, C.T e with
    | some _, some te => match ownsV C e te with
      | true => K ⟨.mp nid, [(nid, some (.mapv k e []))], []⟩
      | false => K ⟨.mp nid, [(nid, some (.map k e []))], []⟩
    | _, _ => none
  | _ => none

/-- What stands at a key; whether any does. -/
def lookV (C : Cfg) (e : TypeId) (te : TI C.E) (ok : Bool) (o : Option (C.E e)) (z : C.E e) : AV C.E := match ok with
  | false => mkV te.d (C.enc e (o.getD z))
  | true => .tup [mkV te.d (C.enc e (o.getD z)), .bool o.isSome]

def lookW {E : Nat → Type} (te : TI E) (ok : Bool) (o : Option (AV E)) : AV E := match ok with
  | false => o.getD (mkV te.d te.zero)
  | true => .tup [o.getD (mkV te.d te.zero), .bool o.isSome]

def lookupK (C : Cfg) (t : TypeId) (m x : AV C.E) (ok : Bool) (lk : Nat → Option (Ob C.E)) (K : Eff C.E → Option Z) : Option Z :=
  match C.T t, m with
  | some { d := .map k e, .. }, .mp id => match lk id, C.T e with
    | some (.map k' e' xs), some te => match decEq k' k, decEq e' e with
      | isTrue hk, isTrue he => keyK C k x fun key => zeroE C e fun z => K ⟨lookV C e te ok (mget (keyB C k) (hk ▸ he ▸ xs : List (C.E k × C.E e)) key) z, [], [id]⟩
      | _, _ => none
    | some (.mapv k' e' xs), some te => match decEq k' k, decEq e' e with
      | isTrue hk, isTrue _ => keyK C k x fun key => K ⟨lookW te ok (mget (keyB C k) (hk ▸ xs : List (C.E k × AV C.E)) key), [], [id]⟩
      | _, _ => none
    | _, _ => none
  | _, _ => none

/-- The entry of a key, with its stamp; where there is none it is laid. -/
def mapEntryK (C : Cfg) (t : TypeId) (m x : AV C.E) (lk : Nat → Option (Ob C.E)) (K : Eff C.E → Option Z) : Option Z :=
  match C.T t, m with
  | some { d := .map k e, .. }, .mp id => match lk id, C.T e with
    | some (.mapv k' e' xs), some te => match decEq k' k, decEq e' e, Nat.ble xs.length 1000000 with
      | isTrue hk, isTrue _, true => keyK C k x fun key => match (hk ▸ xs : List (C.E k × AV C.E)).findIdx? (fun p => keyB C k key p.1) with
        | some j => K ⟨.tup [((hk ▸ xs : List (C.E k × AV C.E))[j]?.map (·.2)).getD .bot, .int .i64 (j : Int)], [(id, some (.mapv k e ((hk ▸ xs : List (C.E k × AV C.E)).modify j fun p => (key, p.2))))], [id]⟩
        | none => K ⟨.tup [mkV te.d te.zero, .int .i64 ((hk ▸ xs : List (C.E k × AV C.E)).length : Int)], [(id, some (.mapv k e ((hk ▸ xs : List (C.E k × AV C.E)) ++ [(key, mkV te.d te.zero)])))], [id]⟩
      | _, _, _ => none
    | _, _ => none
  | _, _ => none

/-- A value laid at the entry of a stamp. -/
def entryStoreK (C : Cfg) (m st v : AV C.E) (lk : Nat → Option (Ob C.E)) (K : Eff C.E → Option Z) : Option Z :=
  match m, st with
  | .mp id, .int _ j => match lk id with
    | some (.mapv k e xs) => cond (decide (0 ≤ j) && decide (j < (xs.length : Int))) (K ⟨.undef, [(id, some (.mapv k e (xs.modify j.toNat fun p => (p.1, v))))], [id]⟩) none
    | _ => none
  | _, _ => none

def updateK (C : Cfg) (t : TypeId) (m x v : AV C.E) (lk : Nat → Option (Ob C.E)) (K : Eff C.E → Option Z) : Option Z :=
  match C.T t, m with
  | some { d := .map k e, .. }, .mp id => match lk id with
    | some (.map k' e' xs) => match decEq k' k, decEq e' e with
      | isTrue hk, isTrue he => keyK C k x fun key => valK C e v fun y => K ⟨.undef, [(id, some (.map k e (mput (keyB C k) (hk ▸ he ▸ xs : List (C.E k × C.E e)) key y)))], [id]⟩
      | _, _ => none
    | _ => none
  | _, _ => none

/-! ### Calls: a contract is over local objects. -/

/-- How a cell of an argument is handed over: as it is; a slice that is only read; a slice that is given up; the address of an object; a closure with what it captured; a map. -/
inductive CM where
  | v | s (e : TypeId) | o (e : TypeId) | p | f | q | h (e : TypeId) | w (e : TypeId) | mo
  deriving DecidableEq

structure CF (C : Cfg) where
  modes : List (List CM)
  F : {Z : Type} → List (AV C.E) → List (Option (Ob C.E)) → (AV C.E → List (Option (Ob C.E)) → Option Z) → Option Z

/-- Of a cell: no object's number stands in it. -/
def AV.free : AV E → Bool
  | .int .. | .bool _ | .str _ | .nilp | .nils | .imm .. | .him .. => true
  | _ => false

/-- Of a cell: a number, a bool, a string. -/
def AV.plain : AV E → Bool
  | .int .. | .bool _ | .str _ | .nilp | .nils => true
  | _ => false

/-- Of a cell of an element: nothing in it that is only lent. -/
def AV.tight : AV E → Bool
  | .int .. | .bool _ | .str _ | .nilp | .nils | .him .. => true
  | _ => false

/-- What is handed over: the local objects, each with its number outside and whether it keeps it; the numbers lent to be read. -/
structure Hand (E : Nat → Type) where
  obs : List (Option (Ob E))
  src : List (Nat × Bool)
  lent : List Nat

def Hand.push {E} (a : Hand E) (o : Ob E) (id : Nat) (keep : Bool) : Hand E := ⟨a.obs ++ [some o], a.src ++ [(id, keep)], a.lent⟩

/-- A slice given up: it lies at the head of a local object of its own. -/
def giveSl (C : Cfg) (lk : Nat → Option (Ob C.E)) (a : Hand C.E) (id start len : Nat) (K : Hand C.E → AV C.E → Option Z) : Option Z :=
  match lk id with
  | some (.arr e xs) => cond (decide (start + len ≤ xs.length)) (K (a.push (.arr e ((xs.drop start).take len)) id false) (.sl a.obs.length 0 len)) none
  | _ => none

/-- The cells of an object whose address is handed over. -/
def giveCells (C : Cfg) (lk : Nat → Option (Ob C.E)) : Hand C.E → List (AV C.E) → (Hand C.E → List (AV C.E) → Option Z) → Option Z
  | a, [], K => K a []
  | a, .sl id start len :: cs, K => giveSl C lk a id start len fun a x => giveCells C lk a cs fun a xs => K a (x :: xs)
  | a, .mp id :: cs, K => match lk id with
    | some (.map k e ys) => giveCells C lk (a.push (.map k e ys) id true) cs fun b xs => K b (.mp a.obs.length :: xs)
    | _ => none
  | a, x :: cs, K => match x.free with
    | true => giveCells C lk a cs fun a xs => K a (x :: xs)
    | false => none

/-- The cells of an object that is lent to be read. -/
def readCells (C : Cfg) (lk : Nat → Option (Ob C.E)) : List (AV C.E) → (List (AV C.E) → List Nat → Option Z) → Option Z
  | [], K => K [] []
  | .sl id start len :: cs, K => match lk id with
    | some (.arr e xs) => cond (decide (start + len ≤ xs.length)) (readCells C lk cs fun ys rd => K (.imm e ((xs.drop start).take len) :: ys) (id :: rd)) none
    | _ => none
  | x :: cs, K => match x.free with
    | true => readCells C lk cs fun ys rd => K (x :: ys) rd
    | false => none

def handCell1 (C : Cfg) (lk : Nat → Option (Ob C.E)) (a : Hand C.E) (m : CM) (x : AV C.E) (K : Hand C.E → AV C.E → Option Z) : Option Z :=
  match m, x with
  | .s e, x => readSl C lk e x fun xs rd => K { a with lent := rd ++ a.lent } (.imm e xs)
  | .o _, .nils => K a .nils
  | .o _, .sl id start len => giveSl C lk a id start len K
  | .p, .nilp => K a .nilp
  | .p, .ptr id 0 0 => match lk id with
    | some (.box cs) => giveCells C lk a cs fun b ys => K (b.push (.box ys) id true) (.ptr b.obs.length 0 0)
    | _ => none
  | .v, x => match x.free with
    | true => K a x
    | false => none
  | .q, .nilp => K a .nilp
  | .q, .ro cs => match cs.all AV.free with
    | true => K a (.ro cs)
    | false => none
  | .q, .ptr id 0 0 => match lk id with
    | some (.box cs) => readCells C lk cs fun ys rd => K { a with lent := (id :: rd) ++ a.lent } (.ro ys)
    | _ => none
  | .w _, .nils => K a .nils
  | .w _, .sl id start len => match lk id with
    | some (.arr e xs) => K (a.push (.arr e xs) id true) (.sl a.obs.length start len)
    | _ => none
  | .mo, .mp id => match lk id with
    | some (.map k e xs) => K (a.push (.map k e xs) id true) (.mp a.obs.length)
    | _ => none
  | _, _ => none

/-- What a closure captured: the addresses of objects; all else as it is. -/
def capMode {E : Nat → Type} (x : AV E) : CM := match x.free with
  | true => .v
  | false => .p

def handCaps (C : Cfg) (lk : Nat → Option (Ob C.E)) : Hand C.E → List (AV C.E) → (Hand C.E → List (AV C.E) → Option Z) → Option Z
  | a, [], K => K a []
  | a, x :: xs, K => handCell1 C lk a (capMode x) x fun a y => handCaps C lk a xs fun a ys => K a (y :: ys)

def handCell (C : Cfg) (lk : Nat → Option (Ob C.E)) (a : Hand C.E) (m : CM) (x : AV C.E) (K : Hand C.E → AV C.E → Option Z) : Option Z :=
  match m, x with
  | .f, .fn f cs => handCaps C lk a cs fun a ys => K a (.fn f ys)
  | m, x => handCell1 C lk a m x K

def handCells (C : Cfg) (lk : Nat → Option (Ob C.E)) : Hand C.E → List CM → List (AV C.E) → (Hand C.E → List (AV C.E) → Option Z) → Option Z
  | a, [], [], K => K a []
  | a, m :: ms, x :: xs, K => handCell C lk a m x fun a y => handCells C lk a ms xs fun a ys => K a (y :: ys)
  | _, _, _, _ => none

/-- An argument is made of its cells again. -/
def likeV (x : AV E) (ys : List (AV E)) : AV E :=
  match x with
  | .agg _ => .agg ys
  | _ => ys.headD .bot

def handArgs (C : Cfg) (lk : Nat → Option (Ob C.E)) : Hand C.E → List (List CM) → List (AV C.E) → (Hand C.E → List (AV C.E) → Option Z) → Option Z
  | a, [], [], K => K a []
  | a, ms :: mss, x :: xs, K => handCells C lk a ms x.cells fun a ys => handArgs C lk a mss xs fun a zs => K a (likeV x ys :: zs)
  | _, _, _, _ => none

/-- Local numbers to those outside. -/
def outMap : List (Nat × Bool) → Nat → Nat → List Nat
  | _, 0, _ => []
  | (id, true) :: src, n + 1, nid => id :: outMap src n nid
  | (_, false) :: src, n + 1, nid => nid :: outMap src n (nid + 1)
  | [], n + 1, nid => nid :: outMap [] n (nid + 1)

/-- Other numbers for the objects. -/
def renC (φ : Nat → Option Nat) : AV E → AV E
  | .ptr j r f => match φ j with
    | some i => .ptr i r f
    | none => .bot
  | .sl j s l => match φ j with
    | some i => .sl i s l
    | none => .bot
  | .mp j => match φ j with
    | some i => .mp i
    | none => .bot
  | .agg _ | .tup _ | .fn .. | .ro _ => .bot
  | x => x
def renA (φ : Nat → Option Nat) : AV E → AV E
  | .agg cs => .agg (cs.map (renC φ))
  | .fn f cs => .fn f (cs.map (renC φ))
  | .ro cs => .ro (cs.map (renC φ))
  | x => renC φ x
def renV (φ : Nat → Option Nat) : AV E → AV E
  | .tup vs => .tup (vs.map (renA φ))
  | x => renA φ x
def renO (φ : Nat → Option Nat) : Option (Ob E) → Option (Ob E)
  | some (.box cs) => some (.box (cs.map (renC φ)))
  | some (.mapv ..) => none
  | o => o

def plainA : AV E → Bool
  | .agg cs => cs.all AV.plain
  | x => x.plain
def plainV : AV E → Bool
  | .tup vs => vs.all plainA
  | x => plainA x

def nodupB : List Nat → Bool
  | [] => true
  | x :: l => !l.contains x && nodupB l

/-- Of a cell: nothing in it that is only read. -/
def AV.loos : AV E → Bool
  | .imm .. | .ro _ | .agg _ | .tup _ | .fn .. => false
  | _ => true
def loosA : AV E → Bool
  | .agg cs => cs.all AV.loos
  | x => x.loos
def loosV : AV E → Bool
  | .tup vs => vs.all loosA
  | x => loosA x
def loosO (C : Cfg) : Option (Ob C.E) → Bool
  | some (.box cs) => cs.all AV.loos
  | some (.arr _ _) => true
  | some (.map ..) => true
  | some (.mapv ..) => false
  | none => true

def callK (C : Cfg) (g : CF C) (args : List (AV C.E)) (lk : Nat → Option (Ob C.E)) (nid : Nat) (K : Eff C.E → Option Z) : Option Z :=
  handArgs C lk ⟨[], [], []⟩ g.modes args fun hd loc =>
    match nodupB (hd.src.map (·.1)) && hd.lent.all (fun i => !(hd.src.map (·.1)).contains i) with
    | true => g.F loc hd.obs fun r obs =>
      match Nat.ble obs.length 8 && (hd.lent.isEmpty || (loosV r && obs.all (loosO C))) with
      | true => K ⟨renV (fun j => (outMap hd.src obs.length nid)[j]?) r,
          hd.src.map (fun p => (p.1, none)) ++ (outMap hd.src obs.length nid).zip (obs.map (renO fun j => (outMap hd.src obs.length nid)[j]?)), hd.lent ++ hd.src.map (·.1)⟩
      | false => none
    | false => none

/-! ### One operation -/

def maxL : List (AV E) → Option (IntKind × Int)
  | [] => none
  | .int k x :: r => some (k, r.foldl (fun a y => match y with
    | .int _ b => cond (decide (b > a)) b a
    | _ => a) x)
  | _ => none

def allInt : List (AV E) → Bool
  | [] => true
  | .int .. :: r => allInt r
  | _ => false

def opK (C : Cfg) (Γ : FuncId → Option (CF C)) (o : Op) (ρ : Operand → AV C.E) (lk : Nat → Option (Ob C.E)) (nid : Nat) (K : Eff C.E → Option Z) : Option Z :=
  match o with
  | .move x | .assign x => match ρ x with
    | .bot => none
    | v => val v K
  | .pick c a b => match ρ c with
    | .bool t => cond t (val (ρ a) K) (val (ρ b) K)
    | _ => none
  | .alloc t => match C.T t with
    | some ti => match ti.size with
      | 0 => none
      | _ + 1 => K ⟨.ptr nid 0 0, [(nid, some (.box ti.zero))], []⟩
    | none => none
  | .box _ x => match ρ x with
    | .bot => none
    | .undef => none
    | .tup _ => none
    | v => K ⟨.ptr nid 0 0, [(nid, some (.box v.cells))], []⟩
  | .load t p => loadK C lk t (ρ p) K
  | .store t p x => storeK C lk t (ρ p) (ρ x) K
  | .nilCheck x => match ρ x with
    | .ptr i r f => val (.ptr i r f) K
    | .ro cs => val (.ro cs) K
    | _ => none
  | .binOp op t x y _ => match C.T t with
    | some ti => binK ti op (ρ x) (ρ y) K
    | none => none
  | .unOp op _ x => unK op (ρ x) K
  | .convert s d x => convAK C s d (ρ x) lk K
  | .build t parts => buildK C t (parts.toList.map fun p => (p.1, ρ p.2)) K
  | .buildSlice t len parts => buildSliceK C t len (parts.toList.map fun p => (p.1, ρ p.2)) nid K
  | .makeSlice t l c => makeK C t (ρ l) (ρ c) nid K
  | .makeMap t none => makeMapK C t nid K
  | .lookup t m x ok => lookupK C t (ρ m) (ρ x) ok lk K
  | .mapUpdate t m x v => updateK C t (ρ m) (ρ x) (ρ v) lk K
  | .mapEntry t m x => mapEntryK C t (ρ m) (ρ x) lk K
  | .entryStore _ m s v => entryStoreK C (ρ m) (ρ s) (ρ v) lk K
  | .fieldAddr s p f => match C.T s, ρ p with
    | some { d := .struct fs, .. }, .ptr id row fo => match fs[f]? with
      | some (ft, off) => match sizeT C ft with
        | 0 => none
        | _ + 1 => val (.ptr id row (fo + off)) K
      | none => none
    | some { d := .struct fs, .. }, .ro cells => match fs[f]? with
      | some (ft, off) => match sizeT C ft with
        | 0 => none
        | _ + 1 => val (.ro (cells.drop off)) K
      | none => none
    | _, _ => none
  | .field s x f => match C.T s, ρ x with
    | some { d := .struct fs, .. }, .agg cs => match fs[f]? with
      | some (ft, off) => match C.T ft with
        | some ti => match takeN ti.size (cs.drop off) with
          | some c => val (mkV ti.d c) K
          | none => none
        | none => none
      | none => none
    | _, _ => none
  | .indexAddr t x i => indexAddrK C lk t (ρ x).weak (ρ i) K
  | .index t x i => indexK C t (ρ x) (ρ i) K
  | .slice t x lo hi mx => match lo.isNone && (zeroOp hi && zeroOp mx) with
    | true => zeroK C t (ρ x).weak (hi.map ρ) (mx.map ρ) nid K
    | false => sliceK C t (ρ x).weak (lo.map ρ) (hi.map ρ) (mx.map ρ) lk K
  | .extract x ix => match ρ x with
    | .tup vs => match vs[ix]? with
      | some v => val v K
      | none => none
    | _ => none
  | .call { callee := .value x, args, .. } => match ρ x with
    | .fn f caps => match Γ f with
      | some g => callK C g (args.toList.map ρ ++ caps) lk nid K
      | none => none
    | _ => none
  | .makeFunc fn first captured => match fn, first.toList with
    | .func f, [] => val (.fn f (captured.toList.map ρ)) K
    | _, _ => none
  | .call { callee := .builtin .len, args, argTypes } => match args.toList.map ρ, argTypes.toList with
    | [x], [t] => match C.T t, x.weak with
      | some { d := .slice _, .. }, .imm _ xs => val (.int .i64 (xs.length : Int)) K
      | some { d := .slice _, .. }, .sl _ _ n => val (.int .i64 (n : Int)) K
      | some { d := .slice _, .. }, .nils => val (.int .i64 0) K
      | some { d := .str, .. }, .str l => val (.int .i64 (l.length : Int)) K
      | _, _ => none
    | _, _ => none
  | .call { callee := .builtin .append, args, argTypes } => match args.toList.map ρ, argTypes.toList with
    | [s, x], [t, t2] => match C.T t2 with
      | some { d := .slice _, .. } => appendK C t s x lk nid K
      | _ => none
    | _, _ => none
  | .call { callee := .builtin .copy, args, argTypes } => match args.toList.map ρ, argTypes.toList with
    | [d, x], [t, t2] => match C.T t2 with
      | some { d := .slice _, .. } => copyK C t d x lk K
      | _ => none
    | _, _ => none
  | .call { callee := .builtin .clear, args, argTypes } => match args.toList.map ρ, argTypes.toList with
    | [d], [t] => clearK C t d lk K
    | _, _ => none
  | .call { callee := .builtin .max, args, .. } => match args.toList.map ρ with
    | [.int k x, .int k' y] => cond (decide (k' = k)) (val (.int k (cond (decide (y > x)) y x)) K) none
    | [.int k x, .int k' y, .int k'' u] => cond (decide (k' = k) && decide (k'' = k)) (val (.int k (cond (decide (u > (cond (decide (y > x)) y x))) u (cond (decide (y > x)) y x))) K) none
    | [.int k x, .int k' y, .int k'' u, .int k3 v] => cond (decide (k' = k) && decide (k'' = k) && decide (k3 = k)) (val (.int k (cond (decide (v > (cond (decide (u > (cond (decide (y > x)) y x))) u (cond (decide (y > x)) y x)))) v (cond (decide (u > (cond (decide (y > x)) y x))) u (cond (decide (y > x)) y x)))) K) none
    | _ => none
  | .call { callee := .builtin .min, args, .. } => match args.toList.map ρ with
    | [.int k x, .int k' y] => cond (decide (k' = k)) (val (.int k (cond (decide (y < x)) y x)) K) none
    | [.int k x, .int k' y, .int k'' u] => cond (decide (k' = k) && decide (k'' = k)) (val (.int k (cond (decide (u < (cond (decide (y < x)) y x))) u (cond (decide (y < x)) y x))) K) none
    | [.int k x, .int k' y, .int k'' u, .int k3 v] => cond (decide (k' = k) && decide (k'' = k) && decide (k3 = k)) (val (.int k (cond (decide (v < (cond (decide (u < (cond (decide (y < x)) y x))) u (cond (decide (y < x)) y x)))) v (cond (decide (u < (cond (decide (y < x)) y x))) u (cond (decide (y < x)) y x)))) K) none
    | _ => none
  | _ => none

/-! ### States, regions, code -/

def lookH (h : Heap E) (i : Nat) : Option (Ob E) := match h[i]? with
  | some (some o) => some o
  | _ => none

def wrH : Heap E → List (Nat × Option (Ob E)) → Heap E
  | h, [] => h
  | h, (i, o) :: r => match Nat.blt i h.length with
    | true => wrH (h.set i o) r
    | false => wrH (h ++ [o]) r

def St.put (st : St E) (dst : Option Tmp) (v : AV E) : St E := match dst with
  | some d => { st with t := st.t.set d v }
  | none => st

def St.eff (st : St E) (dst : Option Tmp) (e : Eff E) : St E := { t := (st.put dst e.v).t, h := wrH st.h e.wr }

/-- Where a test has been decided its slot holds the outcome. -/
def guardK (all : List Oper) (o : Oper) (st : St E) (yes no : St E → Option Z) : Option Z :=
  match o.guard with
  | none => yes st
  | some (j, want) => match all[j]? with
    | some { dst := some d, .. } => match st.t.getD d .undef with
      | .bool b => match want with
        | true => cond b (yes { st with t := st.t.set d (.bool true) }) (no { st with t := st.t.set d (.bool false) })
        | false => cond b (no { st with t := st.t.set d (.bool true) }) (yes { st with t := st.t.set d (.bool false) })
      | .undef => no st
      | _ => none
    | _ => none

def opsK (C : Cfg) (Γ : FuncId → Option (CF C)) (all : List Oper) : List Oper → St C.E → (St C.E → Option Z) → Option Z
  | [], st, K => K st
  | o :: rest, st, K => guardK all o st
    (fun st => opK C Γ o.op (st.eval C) (lookH st.h) st.h.length fun e => opsK C Γ all rest (st.eff o.dst e) K)
    (fun st => opsK C Γ all rest (st.put o.dst .undef) K)

/-- What an operation of a region that draws its order touched of the heap. -/
structure FP where
  i : Nat
  rd : List Nat
  wr : List Nat
  ty : Bool
  kl : List Nat

/-- Of an operation that looks at an object's type alone. -/
def tyOp : Op → Bool
  | .indexAddr .. => true
  | _ => false
def keepB (o : Option (Ob E)) (o' : Option (Ob E)) : Bool := match o, o' with
  | some (.arr e _), some (.arr e' _) => Nat.beq e' e
  | _, _ => false
/-- The objects that writes give another type. -/
def killE (lk : Nat → Option (Ob E)) : List (Nat × Option (Ob E)) → List Nat
  | [] => []
  | (i, o) :: r => match keepB (lk i) o with
    | true => killE lk r
    | false => i :: killE lk r
def FP.rdW (x y : FP) : List Nat := match y.ty with
  | true => x.kl
  | false => x.wr

def opsD (C : Cfg) (Γ : FuncId → Option (CF C)) (all : List Oper) (N : Nat) : Nat → List Oper → St C.E → List FP → (St C.E → List FP → Option Z) → Option Z
  | _, [], st, fs, K => K st fs
  | i, o :: rest, st, fs, K => guardK all o st
    (fun st => opK C Γ o.op (st.eval C) (lookH st.h) (N + 8 * i) fun e => opsD C Γ all N (i + 1) rest (st.eff o.dst e) (⟨i, e.rd, e.wr.map (·.1), tyOp o.op, killE (lookH st.h) e.wr⟩ :: fs) K)
    (fun st => opsD C Γ all N (i + 1) rest (st.put o.dst .undef) (⟨i, [], [], tyOp o.op, []⟩ :: fs) K)

def disj (l r : List Nat) : Bool := l.all fun x => !r.contains x

/-- Operation i waits for operation j, itself or through others. -/
def depB (all : List Oper) : Nat → Nat → Nat → Bool
  | 0, _, _ => false
  | n + 1, i, j => match all[i]? with
    | some o => o.after.toList.any fun e => Region.binds .any e && (Nat.beq e.on j || depB all n e.on j)
    | none => false

/-- x before y in the text, and no edge between them: they don't meet. -/
def apart2 (all : List Oper) (x y : FP) : Bool :=
  match all[x.i]?, all[y.i]? with
  | some a, some b => (b.after.toList.any fun e => Nat.beq e.on x.i && Region.binds .any e) ||
      (a.apart all.toArray b && disj (x.rdW y) y.rd && disj x.wr y.wr && disj x.rd (y.rdW x)) || depB all 8 y.i x.i
  | _, _ => false

def okFPs (all : List Oper) : List FP → Bool
  | [] => true
  | y :: rest => rest.all (fun x => apart2 all x y) && okFPs all rest

/-- What binds goes back in the text. -/
def edgesB : Nat → List Oper → Bool
  | _, [] => true
  | i, o :: rest => o.after.toList.all (fun e => !(Region.binds .any e) || Nat.blt e.on i) && edgesB (i + 1) rest

structure LF (C : Cfg) where
  k : {Z : Type} → St C.E → (Exit → St C.E → Option Z) → Option Z

/-- Where a code may be cut off from what goes before it: a number of its first region; of its first block. -/
def cutKey : Code → Nat
  | .region id _ _ => 3 * id + 1
  | .block id _ => 3 * id + 2
  | .seq a _ => cutKey a
  | _ => 1

def exec (C : Cfg) (Γ : FuncId → Option (CF C)) (Λ : Nat → Option (LF C)) : Code → St C.E → (Exit → St C.E → Option Z) → Option Z
  | .skip, st, K => K .normal st
  | .region _ ops draw, st, K => match draw with
    | false => opsK C Γ ops.toList ops.toList st (K .normal)
    | true => opsD C Γ ops.toList st.h.length 0 ops.toList { st with h := st.h ++ List.replicate (8 * ops.toList.length) none } [] fun st fs =>
      match okFPs ops.toList fs && edgesB 0 ops.toList with
      | true => K .normal st
      | false => none
  | .seq a b, st, K => exec C Γ Λ a st fun e s => match e with
    | .normal => match Λ (cutKey b) with
      | some L => L.k s K
      | none => exec C Γ Λ b s K
    | e => K e s
  | .cond c a b, st, K => match c with
    | .tmp d => match st.t.getD d .undef with
      | .bool t => cond t (exec C Γ Λ a { st with t := st.t.set d (.bool true) } K) (exec C Γ Λ b { st with t := st.t.set d (.bool false) } K)
      | _ => none
    | .const (.bool t) => cond t (exec C Γ Λ a st K) (exec C Γ Λ b st K)
    | _ => none
  | .block id c, st, K => match Λ (3 * id) with
    | some L => L.k st K
    | none => exec C Γ Λ c st fun e s => match e with
      | .exit j => match Nat.beq j id with
        | true => K .normal s
        | false => K (.exit j) s
      | e => K e s
  | .exit id, st, K => K (.exit id) st
  | .ret, st, K => K .ret st
  | _, _, _ => none

/-! ### A whole function -/

def resK (C : Cfg) (st : St C.E) : List ResultVar → (List (AV C.E) → Option Z) → Option Z
  | [], K => K []
  | .tmp t :: rs, K => resK C st rs fun vs => K (st.t.getD t .undef :: vs)
  | .cell a t :: rs, K => loadK C (lookH st.h) t (st.t.getD a .undef) fun e => resK C st rs fun vs => K (e.v :: vs)

def packV : List (AV E) → AV E
  | [v] => v
  | vs => .tup vs

/-- Where a number stands. -/
def idxIn (keep : List Nat) (i k : Nat) : Option Nat := match keep with
  | [] => none
  | j :: r => match Nat.beq j i with
    | true => some k
    | false => idxIn r i (k + 1)

/-- Slices handed back to be read alone: as lists; their objects are given up. -/
def pubC (C : Cfg) (lk : Nat → Option (Ob C.E)) : List CM → List (AV C.E) → (List (AV C.E) → List Nat → Option Z) → Option Z
  | [], [], K => K [] []
  | .s e :: ms, x :: xs, K => readSl C lk e x fun l rd => pubC C lk ms xs fun r g => K (.imm e l :: r) (rd ++ g)
  | .h _ :: _, .imm _ _ :: _, _ => none
  | .h e :: ms, x :: xs, K => readSl C lk e x fun l rd => pubC C lk ms xs fun r g => K (.him e l :: r) (rd ++ g)
  | _ :: ms, x :: xs, K => pubC C lk ms xs fun r g => K (x :: r) g
  | _, _, _ => none
def pubA (C : Cfg) (lk : Nat → Option (Ob C.E)) : List (List CM) → List (AV C.E) → (List (AV C.E) → List Nat → Option Z) → Option Z
  | [], [], K => K [] []
  | ms :: mss, x :: xs, K => pubC C lk ms x.cells fun ys g => pubA C lk mss xs fun zs g' => K (likeV x ys :: zs) (g ++ g')
  | _, _, _ => none

/-- The objects of a list of numbers: they alone, with numbers of their own. -/
def pickH (m : List Nat) (h : Heap E) : List (Option (Ob E)) := m.map fun i => renO (fun i => idxIn m i 0) ((h[i]?).getD none)

/-- The objects' numbers in a value, in their order. -/
def idC : AV E → List Nat
  | .ptr i _ _ => [i]
  | .sl i _ _ => [i]
  | .mp i => [i]
  | _ => []
def idsC : List (AV E) → List Nat
  | [] => []
  | x :: r => idC x ++ idsC r
def idA : AV E → List Nat
  | .agg cs => idsC cs
  | .fn _ cs => idsC cs
  | x => idC x
def idsA : List (AV E) → List Nat
  | [] => []
  | x :: r => idA x ++ idsA r
def idV : AV E → List Nat
  | .tup vs => idsA vs
  | x => idA x
def idsV : List (AV E) → List Nat
  | [] => []
  | x :: r => idV x ++ idsV r

def addIds (m : List Nat) : List Nat → List Nat
  | [] => m
  | i :: r => match m.contains i with
    | true => addIds m r
    | false => addIds (m ++ [i]) r

/-- With what their boxes point to. -/
def closeIds (h : Heap E) : Nat → Nat → List Nat → List Nat
  | 0, _, m => m
  | n + 1, j, m => match m[j]? with
    | none => m
    | some i => closeIds h n (j + 1) (addIds m (match h[i]? with
      | some (some (.box cs)) => idsC cs
      | _ => []))

/-- The first k numbers, then those in the values. -/
def canonL (k : Nat) (ids : List Nat) (h : Heap E) : List Nat := closeIds h (k + h.length) 0 (addIds (List.range k) ids)

def keepC (k : Nat) (r : AV E) (h : Heap E) : List Nat := (canonL k (idV r) h).drop k

/-- The end of a function that was handed k objects: what it hands back; of the objects of its own those that stand in 'keep'. -/
def finK (k : Nat) (keep : List Nat) (r : AV E) (h : Heap E) (K : AV E → List (Option (Ob E)) → Option Z) : Option Z :=
  match nodupB (List.range k ++ keep) with
  | true => K (renV (fun i => idxIn (List.range k ++ keep) i 0) r) (pickH (List.range k ++ keep) h)
  | false => none

def endK (C : Cfg) (st : St C.E) (rs : List ResultVar) (rm : List (List CM)) (k : Nat) (K : AV C.E → List (Option (Ob C.E)) → Option Z) : Option Z :=
  resK C st rs fun vs => pubA C (lookH st.h) rm vs fun vs g => finK k (keepC k (packV vs) (wrH st.h (g.map fun i => (i, none)))) (packV vs) (wrH st.h (g.map fun i => (i, none))) K

/-- A nil slice in a box (2000000, 1000 times the number of a slot that points to the box, the cell's number) is told as an empty slice of nowhere. -/
def coBox {E : Nat → Type} (i e : Nat) (st : St E) : St E := match st.t.getD ((i - 2000000) / 1000) .undef with
  | .ptr id _ _ => match st.h[id]? with
    | some (some (.box cs)) => match cs[(i - 2000000) % 1000]? with
      | some .nils => ⟨st.t, st.h.set id (some (.box (cs.set ((i - 2000000) % 1000) (.sl st.h.length 0 0)))) ++ [some (.arr e [])]⟩
      | _ => st
    | _ => st
  | _ => st

/-- In these slots: a nil slice is told as an empty slice of nowhere (e not below 1000000: of the object of slot e - 1000000); a slice of an object that was handed over (id below k) as one of an object with a new number. -/
def coSt {E : Nat → Type} (k : Nat) : List (Nat × Nat) → St E → St E
  | [], st => st
  | (i, e) :: r, st => match Nat.ble 2000000 i with
   | true => coSt k r (coBox i e st)
   | false => match st.t.getD i .undef with
    | .nils => match Nat.ble 1000000 e with
      | true => match st.t.getD (e - 1000000) .undef with
        | .sl id _ _ => coSt k r ⟨st.t.set i (.sl id 0 0), st.h⟩
        | _ => coSt k r st
      | false => coSt k r ⟨st.t.set i (.sl st.h.length 0 0), st.h ++ [some (.arr e [])]⟩
    | .sl id s n => match Nat.blt id k with
      | true => match st.h[id]? with
        | some (some o) => coSt k r ⟨st.t.set i (.sl st.h.length s n), st.h.set id none ++ [some o]⟩
        | _ => coSt k r st
      | false => coSt k r st
    | _ => coSt k r st

def fnK (C : Cfg) (Γ : FuncId → Option (CF C)) (Λ : Nat → Option (LF C)) (fn : Func) (rm : List (List CM)) (co : List (Nat × Nat)) (args : List (AV C.E)) (obs : List (Option (Ob C.E))) (K : AV C.E → List (Option (Ob C.E)) → Option Z) : Option Z :=
  match fn.body with
  | some c => exec C Γ Λ c ⟨args ++ List.replicate (fn.ntmps - args.length) .undef, obs⟩ fun e st => match e with
    | .ret => endK C (coSt obs.length co st) fn.results.toList rm obs.length K
    | .normal => endK C (coSt obs.length co st) fn.results.toList rm obs.length K
    | _ => none
  | none => none

end
end Go.AE
