/-
  AE, part 16: SHAPES: what a value, an object, a state looks like, with holes for what is not fixed; the holes' contents as one tuple. Functions, loops and cut-off pieces of code told by shapes and a plain function between tuples.
-/
import Derived.Test.YtadnppefidjhfaaGreatAeG
namespace Go.AE
open Go.RowKit

/-! ### Shapes -/

/-- The shape of a cell. 'sl': a slice that begins at its object's head. -/
inductive CT where
  | bot | undef | int (k : IntKind) | bool | str | nilp | nils
  | ptr (id row fo : Nat) | prow (id fo : Nat)
  | imm (e : TypeId) | sl (id : Nat) | slw (id : Nat)
  | lit (k : IntKind) (n : Int)
  | him (e : TypeId)
  | mp (id : Nat)

inductive AT where
  | one (t : CT) | agg (ts : List CT) | fn (f : FuncId) (ts : List CT) | ro (ts : List CT)

inductive VT where
  | one (t : AT) | tup (ts : List AT)

inductive OT where
  | gone | box (ts : List CT) | arr (e : TypeId) | map (k e : TypeId)

/-- The shape of a state (or of arguments with the objects that go with them; of a result). -/
structure ST where
  t : List VT
  h : List OT

/-- A dead slot; an integer; a bool. -/
@[reducible] def vB : VT := .one (.one .bot)
@[reducible] def vI : VT := .one (.one (.int .i64))
@[reducible] def vO : VT := .one (.one .bool)
@[reducible] def vBs : Nat → List VT
  | 0 => []
  | n + 1 => vB :: vBs n

section
variable (E : Nat → Type)

@[reducible] def CT.ty (t : CT) (R : Type) : Type := match t with
  | .int _ => Int × R
  | .bool => Bool × R
  | .str => List Int × R
  | .prow .. => Nat × R
  | .imm e => List (E e) × R
  | .him e => List (E e) × R
  | .sl _ => Nat × R
  | .slw _ => Nat × Nat × R
  | _ => R
@[reducible] def tysC : List CT → Type → Type
  | [], R => R
  | t :: ts, R => t.ty E (tysC ts R)
@[reducible] def AT.ty (t : AT) (R : Type) : Type := match t with
  | .one t => t.ty E R
  | .agg ts => tysC E ts R
  | .fn _ ts => tysC E ts R
  | .ro ts => tysC E ts R
@[reducible] def tysA : List AT → Type → Type
  | [], R => R
  | t :: ts, R => t.ty E (tysA ts R)
@[reducible] def VT.ty (t : VT) (R : Type) : Type := match t with
  | .one t => t.ty E R
  | .tup ts => tysA E ts R
@[reducible] def tysV : List VT → Type → Type
  | [], R => R
  | t :: ts, R => t.ty E (tysV ts R)
@[reducible] def OT.ty (t : OT) (R : Type) : Type := match t with
  | .gone => R
  | .box ts => tysC E ts R
  | .arr e => List (E e) × R
  | .map k e => List (E k × E e) × R
@[reducible] def tysO : List OT → Type → Type
  | [], R => R
  | t :: ts, R => t.ty E (tysO ts R)
@[reducible] def ST.ty (s : ST) : Type := tysV E s.t (tysO E s.h Unit)
end

section
variable {E : Nat → Type}

def CT.emb {R : Type} : (t : CT) → t.ty E R → AV E × R
  | .bot, r => (.bot, r)
  | .undef, r => (.undef, r)
  | .int k, (n, r) => (.int k n, r)
  | .bool, (b, r) => (.bool b, r)
  | .str, (l, r) => (.str l, r)
  | .nilp, r => (.nilp, r)
  | .nils, r => (.nils, r)
  | .ptr id row fo, r => (.ptr id row fo, r)
  | .prow id fo, (row, r) => (.ptr id row fo, r)
  | .imm e, (xs, r) => (.imm e xs, r)
  | .sl id, (n, r) => (.sl id 0 n, r)
  | .slw id, (s, n, r) => (.sl id s n, r)
  | .lit k n, r => (.int k n, r)
  | .him e, (xs, r) => (.him e xs, r)
  | .mp id, r => (.mp id, r)

def CT.un {R : Type} : (t : CT) → AV E → R → Option (t.ty E R)
  | .bot, .bot, r => some r
  | .undef, .undef, r => some r
  | .int k, .int k' n, r => match decEq k' k with
    | isTrue _ => some (n, r)
    | isFalse _ => none
  | .bool, .bool b, r => some (b, r)
  | .str, .str l, r => some (l, r)
  | .nilp, .nilp, r => some r
  | .nils, .nils, r => some r
  | .ptr id row fo, .ptr id' row' fo', r => match Nat.beq id' id, Nat.beq row' row, Nat.beq fo' fo with
    | true, true, true => some r
    | _, _, _ => none
  | .prow id fo, .ptr id' row fo', r => match Nat.beq id' id, Nat.beq fo' fo with
    | true, true => some (row, r)
    | _, _ => none
  | .imm e, .imm e' xs, r => match decEq e' e with
    | isTrue h => some (h ▸ xs, r)
    | isFalse _ => none
  | .sl id, .sl id' s n, r => match Nat.beq id' id, Nat.beq s 0 with
    | true, true => some (n, r)
    | _, _ => none
  | .slw id, .sl id' s n, r => match Nat.beq id' id with
    | true => some (s, n, r)
    | false => none
  | .lit k n, .int k' m, r => match decEq k' k with
    | isTrue _ => match decEq m n with
      | isTrue _ => some r
      | isFalse _ => none
    | isFalse _ => none
  | .him e, .him e' xs, r => match decEq e' e with
    | isTrue h => some (h ▸ xs, r)
    | isFalse _ => none
  | .mp id, .mp id', r => match Nat.beq id' id with
    | true => some r
    | false => none
  | _, _, _ => none

theorem CT.ok {R : Type} {t : CT} {v : AV E} {r : R} {x : t.ty E R} (h : t.un v r = some x) : t.emb x = (v, r) := by
  unfold CT.un at h
  split at h
  case h_3 =>
    split at h
    · rename_i hk _; subst hk; cases h; rfl
    · cases h
  case h_8 =>
    split at h
    · rename_i h1 h2 h3
      rw [← Nat.eq_of_beq_eq_true h1, ← Nat.eq_of_beq_eq_true h2, ← Nat.eq_of_beq_eq_true h3]
      cases h; rfl
    · cases h
  case h_9 =>
    split at h
    · rename_i h1 h2
      cases h
      simp only [CT.emb]
      rw [← Nat.eq_of_beq_eq_true h1, ← Nat.eq_of_beq_eq_true h2]
    · cases h
  case h_10 =>
    split at h
    · rename_i hk _; subst hk; cases h; rfl
    · cases h
  case h_11 =>
    split at h
    · rename_i h1 h2
      cases h
      simp only [CT.emb]
      rw [← Nat.eq_of_beq_eq_true h1, Nat.eq_of_beq_eq_true h2]
    · cases h
  case h_12 =>
    split at h
    · rename_i h1
      cases h
      simp only [CT.emb]
      rw [← Nat.eq_of_beq_eq_true h1]
    · cases h
  case h_13 =>
    split at h
    · rename_i hk _
      subst hk
      split at h
      · rename_i hn _
        subst hn
        cases h; rfl
      · cases h
    · cases h
  case h_14 =>
    split at h
    · rename_i hk _; subst hk; cases h; rfl
    · cases h
  case h_15 =>
    split at h
    · rename_i h1
      rw [← Nat.eq_of_beq_eq_true h1]
      cases h; rfl
    · cases h
  all_goals first | (cases h; rfl) | cases h

def embC {R : Type} : (ts : List CT) → tysC E ts R → List (AV E) × R
  | [], r => ([], r)
  | t :: ts, x => match t.emb x with
    | (v, y) => match embC ts y with
      | (vs, r) => (v :: vs, r)
def unC {R : Type} : (ts : List CT) → List (AV E) → R → Option (tysC E ts R)
  | [], [], r => some r
  | t :: ts, v :: vs, r => Option.bind (unC ts vs r) fun y => t.un v y
  | _, _, _ => none
theorem unC_ok {R : Type} : ∀ {ts : List CT} {vs : List (AV E)} {r : R} {x : tysC E ts R}, unC ts vs r = some x → embC ts x = (vs, r)
  | [], [], r, x, h => by cases h; rfl
  | [], _ :: _, r, x, h => by cases h
  | _ :: _, [], r, x, h => by cases h
  | t :: ts, v :: vs, r, x, h => by
    simp only [unC] at h
    cases h1 : unC ts vs r with
    | none => rw [h1] at h; cases h
    | some y =>
      rw [h1] at h
      simp only [embC, CT.ok h, unC_ok h1]

def AT.emb {R : Type} : (t : AT) → t.ty E R → AV E × R
  | .one t, x => t.emb x
  | .agg ts, x => match embC ts x with
    | (vs, r) => (.agg vs, r)
  | .fn f ts, x => match embC ts x with
    | (vs, r) => (.fn f vs, r)
  | .ro ts, x => match embC ts x with
    | (vs, r) => (.ro vs, r)
def AT.un {R : Type} : (t : AT) → AV E → R → Option (t.ty E R)
  | .one t, v, r => t.un v r
  | .agg ts, .agg vs, r => unC ts vs r
  | .fn f ts, .fn f' vs, r => match Nat.beq f' f with
    | true => unC ts vs r
    | false => none
  | .ro ts, .ro vs, r => unC ts vs r
  | _, _, _ => none
theorem AT.ok {R : Type} {t : AT} {v : AV E} {r : R} {x : t.ty E R} (h : t.un v r = some x) : t.emb x = (v, r) := by
  unfold AT.un at h
  split at h
  · exact CT.ok h
  · simp only [AT.emb, unC_ok h]
  · split at h
    · rename_i hf
      simp only [AT.emb]
      have := unC_ok h
      rw [← Nat.eq_of_beq_eq_true hf]
      rw [this]
    · cases h
  · simp only [AT.emb, unC_ok h]
  · cases h

def embA {R : Type} : (ts : List AT) → tysA E ts R → List (AV E) × R
  | [], r => ([], r)
  | t :: ts, x => match t.emb x with
    | (v, y) => match embA ts y with
      | (vs, r) => (v :: vs, r)
def unA {R : Type} : (ts : List AT) → List (AV E) → R → Option (tysA E ts R)
  | [], [], r => some r
  | t :: ts, v :: vs, r => Option.bind (unA ts vs r) fun y => t.un v y
  | _, _, _ => none
theorem unA_ok {R : Type} : ∀ {ts : List AT} {vs : List (AV E)} {r : R} {x : tysA E ts R}, unA ts vs r = some x → embA ts x = (vs, r)
  | [], [], r, x, h => by cases h; rfl
  | [], _ :: _, r, x, h => by cases h
  | _ :: _, [], r, x, h => by cases h
  | t :: ts, v :: vs, r, x, h => by
    simp only [unA] at h
    cases h1 : unA ts vs r with
    | none => rw [h1] at h; cases h
    | some y =>
      rw [h1] at h
      simp only [embA, AT.ok h, unA_ok h1]

def VT.emb {R : Type} : (t : VT) → t.ty E R → AV E × R
  | .one t, x => t.emb x
  | .tup ts, x => match embA ts x with
    | (vs, r) => (.tup vs, r)
def VT.un {R : Type} : (t : VT) → AV E → R → Option (t.ty E R)
  | .one t, v, r => t.un v r
  | .tup ts, .tup vs, r => unA ts vs r
  | _, _, _ => none
theorem VT.ok {R : Type} {t : VT} {v : AV E} {r : R} {x : t.ty E R} (h : t.un v r = some x) : t.emb x = (v, r) := by
  unfold VT.un at h
  split at h
  · exact AT.ok h
  · simp only [VT.emb, unA_ok h]
  · cases h

def embV {R : Type} : (ts : List VT) → tysV E ts R → List (AV E) × R
  | [], r => ([], r)
  | t :: ts, x => match t.emb x with
    | (v, y) => match embV ts y with
      | (vs, r) => (v :: vs, r)
def unV {R : Type} : (ts : List VT) → List (AV E) → R → Option (tysV E ts R)
  | [], [], r => some r
  | t :: ts, v :: vs, r => Option.bind (unV ts vs r) fun y => t.un v y
  | _, _, _ => none
theorem unV_ok {R : Type} : ∀ {ts : List VT} {vs : List (AV E)} {r : R} {x : tysV E ts R}, unV ts vs r = some x → embV ts x = (vs, r)
  | [], [], r, x, h => by cases h; rfl
  | [], _ :: _, r, x, h => by cases h
  | _ :: _, [], r, x, h => by cases h
  | t :: ts, v :: vs, r, x, h => by
    simp only [unV] at h
    cases h1 : unV ts vs r with
    | none => rw [h1] at h; cases h
    | some y =>
      rw [h1] at h
      simp only [embV, VT.ok h, unV_ok h1]

def OT.emb {R : Type} : (t : OT) → t.ty E R → Option (Ob E) × R
  | .gone, r => (none, r)
  | .box ts, x => match embC ts x with
    | (vs, r) => (some (.box vs), r)
  | .arr e, (xs, r) => (some (.arr e xs), r)
  | .map k e, (xs, r) => (some (.map k e xs), r)
def OT.un {R : Type} : (t : OT) → Option (Ob E) → R → Option (t.ty E R)
  | .gone, none, r => some r
  | .box ts, some (.box vs), r => unC ts vs r
  | .arr e, some (.arr e' xs), r => match decEq e' e with
    | isTrue h => some (h ▸ xs, r)
    | isFalse _ => none
  | .map k e, some (.map k' e' xs), r => match decEq k' k, decEq e' e with
    | isTrue h, isTrue h' => some (h ▸ h' ▸ xs, r)
    | _, _ => none
  | _, _, _ => none
theorem OT.ok {R : Type} {t : OT} {v : Option (Ob E)} {r : R} {x : t.ty E R} (h : t.un v r = some x) : t.emb x = (v, r) := by
  unfold OT.un at h
  split at h
  · cases h; rfl
  · simp only [OT.emb, unC_ok h]
  · split at h
    · rename_i hk _; subst hk; cases h; rfl
    · cases h
  · split at h
    · rename_i hk hk' _ _; subst hk; subst hk'; cases h; rfl
    · cases h
  · cases h

def embO {R : Type} : (ts : List OT) → tysO E ts R → List (Option (Ob E)) × R
  | [], r => ([], r)
  | t :: ts, x => match t.emb x with
    | (v, y) => match embO ts y with
      | (vs, r) => (v :: vs, r)
def unO {R : Type} : (ts : List OT) → List (Option (Ob E)) → R → Option (tysO E ts R)
  | [], [], r => some r
  | t :: ts, v :: vs, r => Option.bind (unO ts vs r) fun y => t.un v y
  | _, _, _ => none
theorem unO_ok {R : Type} : ∀ {ts : List OT} {vs : List (Option (Ob E))} {r : R} {x : tysO E ts R}, unO ts vs r = some x → embO ts x = (vs, r)
  | [], [], r, x, h => by cases h; rfl
  | [], _ :: _, r, x, h => by cases h
  | _ :: _, [], r, x, h => by cases h
  | t :: ts, v :: vs, r, x, h => by
    simp only [unO] at h
    cases h1 : unO ts vs r with
    | none => rw [h1] at h; cases h
    | some y =>
      rw [h1] at h
      simp only [embO, OT.ok h, unO_ok h1]

def ST.emb (s : ST) (x : s.ty E) : St E := match embV s.t x with
  | (vs, y) => match embO s.h y with
    | (os, _) => ⟨vs, os⟩
def ST.un (s : ST) (st : St E) : Option (s.ty E) := Option.bind (unO s.h st.h ()) fun y => unV s.t st.t y
theorem ST.ok {s : ST} {st : St E} {x : s.ty E} (h : s.un st = some x) : s.emb x = st := by
  unfold ST.un at h
  cases h1 : unO s.h st.h () with
  | none => rw [h1] at h; cases h
  | some y =>
    rw [h1] at h
    simp only [ST.emb, unV_ok h, unO_ok h1]

/-! ### One of several shapes -/

@[reducible] def altTy (E : Nat → Type) : List ST → Type
  | [] => Empty
  | [s] => s.ty E
  | s :: r => s.ty E ⊕ altTy E r

def embAlt : (l : List ST) → altTy E l → St E
  | [], x => nomatch x
  | [s], x => s.emb x
  | s :: _ :: _, .inl x => s.emb x
  | _ :: s' :: r, .inr x => embAlt (s' :: r) x

def elimAlt2 {Z : Type} (p : ST) (K : St E → Option Z) : (r : List ST) → (altTy E r → Option Z) → altTy E (p :: r) → Option Z
  | [], _ => fun x => K (p.emb x)
  | _ :: _, ih => fun x => Sum.elim (fun x => K (p.emb x)) ih x
def elimAltK {Z : Type} (K : St E → Option Z) : (l : List ST) → altTy E l → Option Z
  | [] => fun x => nomatch x
  | p :: r => elimAlt2 p K r (elimAltK K r)
def elimAlt {Z : Type} (l : List ST) (x : altTy E l) (K : St E → Option Z) : Option Z := elimAltK K l x
theorem elimAlt_eq {Z : Type} {K : St E → Option Z} : ∀ {l : List ST} {x : altTy E l}, elimAlt l x K = K (embAlt l x)
  | [], x => nomatch x
  | [_], _ => rfl
  | _ :: _ :: _, .inl _ => rfl
  | _ :: s' :: r, .inr _ => elimAlt_eq (l := s' :: r)

def unAlt : (l : List ST) → St E → Option (altTy E l)
  | [], _ => none
  | [s], st => s.un st
  | s :: s' :: r, st => match s.un st with
    | some x => some (.inl x)
    | none => match unAlt (s' :: r) st with
      | some y => some (.inr y)
      | none => none

theorem unAlt_ok : ∀ {l : List ST} {st : St E} {x : altTy E l}, unAlt l st = some x → embAlt l x = st
  | [], st, x, h => by cases h
  | [s], st, x, h => ST.ok h
  | s :: s' :: r, st, x, h => by
    simp only [unAlt] at h
    split at h
    · rename_i y hy
      cases h
      exact ST.ok hy
    · split at h
      · rename_i y hy
        cases h
        exact unAlt_ok (l := s' :: r) hy
      · cases h

/-- An exit; what lives there; the shape. -/
structure PT where
  e : Exit
  lv : List Nat
  s : ST
  co : List (Nat × Nat) := []

def exitB : Exit → Exit → Bool
  | .normal, .normal => true
  | .ret, .ret => true
  | .exit i, .exit j => Nat.beq i j
  | _, _ => false

theorem exitB_eq {a b : Exit} (h : exitB a b = true) : a = b := by
  unfold exitB at h
  split at h
  · rfl
  · rfl
  · rw [Nat.eq_of_beq_eq_true h]
  · cases h

/-- The same, and then: dead slots forgotten, the objects numbered in their order. -/
def recan1 (k : Nat) (lv : List Nat) (st : St E) : Option (St E) :=
  match canonL k (idsV (maskT lv 0 st.t)) st.h with
  | m => match Nat.ble k st.h.length && (nodupB m && headB k m) with
    | true => some (reemb lv m st)
    | false => none
def recan (k : Nat) (lv : List Nat) (co : List (Nat × Nat)) (st : St E) : Option (St E) := recan1 k lv (coSt k co st)

@[reducible] def altP (E : Nat → Type) : List PT → Type
  | [] => Empty
  | [p] => p.s.ty E
  | p :: r => p.s.ty E ⊕ altP E r

def embP : (l : List PT) → altP E l → Exit × St E
  | [], x => nomatch x
  | [p], x => (p.e, p.s.emb x)
  | p :: _ :: _, .inl x => (p.e, p.s.emb x)
  | _ :: p' :: r, .inr x => embP (p' :: r) x

def elimP2 {Z : Type} (p : PT) (K : Exit → St E → Option Z) : (r : List PT) → (altP E r → Option Z) → altP E (p :: r) → Option Z
  | [], _ => fun x => K p.e (p.s.emb x)
  | _ :: _, ih => fun x => Sum.elim (fun x => K p.e (p.s.emb x)) ih x
def elimPK {Z : Type} (K : Exit → St E → Option Z) : (l : List PT) → altP E l → Option Z
  | [] => fun x => nomatch x
  | p :: r => elimP2 p K r (elimPK K r)
def elimP {Z : Type} (l : List PT) (x : altP E l) (K : Exit → St E → Option Z) : Option Z := elimPK K l x
theorem elimP_eq {Z : Type} {K : Exit → St E → Option Z} : ∀ {l : List PT} {x : altP E l}, elimP l x K = K (embP l x).1 (embP l x).2
  | [], x => nomatch x
  | [_], _ => rfl
  | _ :: _ :: _, .inl _ => rfl
  | _ :: p' :: r, .inr _ => elimP_eq (l := p' :: r)

def unP1 (k : Nat) (p : PT) (e : Exit) (st : St E) : Option (p.s.ty E) := match exitB e p.e with
  | true => Option.bind (recan k p.lv p.co st) fun st' => p.s.un st'
  | false => none

def unP (k : Nat) : (l : List PT) → Exit → St E → Option (altP E l)
  | [], _, _ => none
  | [p], e, st => unP1 k p e st
  | p :: p' :: r, e, st => match unP1 k p e st with
    | some x => some (.inl x)
    | none => match unP k (p' :: r) e st with
      | some y => some (.inr y)
      | none => none

theorem unP1_ok {k : Nat} {p : PT} {e : Exit} {st : St E} {x : p.s.ty E} (h : unP1 k p e st = some x) : e = p.e ∧ ∃ lv co, recan k lv co st = some (p.s.emb x) := by
  unfold unP1 at h
  split at h
  · rename_i he
    cases h1 : recan k p.lv p.co st with
    | none => rw [h1] at h; cases h
    | some st' =>
      rw [h1] at h
      exact ⟨exitB_eq he, p.lv, p.co, by rw [h1, ST.ok h]⟩
  · cases h

theorem unP_ok {k : Nat} : ∀ {l : List PT} {e : Exit} {st : St E} {x : altP E l}, unP k l e st = some x → e = (embP l x).1 ∧ ∃ lv co, recan k lv co st = some (embP l x).2
  | [], e, st, x, h => by cases h
  | [p], e, st, x, h => unP1_ok h
  | p :: p' :: r, e, st, x, h => by
    simp only [unP] at h
    split at h
    · rename_i y hy
      cases h
      exact unP1_ok hy
    · split at h
      · rename_i y hy
        cases h
        exact unP_ok (l := p' :: r) hy
      · cases h
end

/-! ### Soundness -/

section
variable {C : Cfg}

theorem recan_ok (hC : CfgOK C) {c : Ctx} {w : World} {st st' : St C.E} {a : Act} (hr : Rep C c w st a) {k n : Nat} {lv : List Nat} {co : List (Nat × Nat)} (h : recan k lv co st = some st') (hk : n ≤ k) (hn : n ≤ c.n) :
    ∃ c', Rep C c' w st' a ∧ LeK n c st.h w c' st'.h w := by
  obtain ⟨c1, r1, l1⟩ := coSt_ok co hr
  unfold recan recan1 at h
  simp only at h
  split at h
  · rename_i hb
    obtain ⟨_, hb⟩ := and_split hb
    obtain ⟨h1, h2⟩ := and_split hb
    cases h
    obtain ⟨q1, q2⟩ := reemb_ok hC r1 (lv := lv) h1 h2
    exact ⟨_, q1, (l1.toK hn).trans ⟨Nat.le_trans hk q2.n, fun id loc hid hs => q2.σ id loc (Nat.lt_of_lt_of_le hid hk) hs, q2.I, q2.H, q2.old, q2.oldH, q2.own, q2.size, q2.os, q2.tape, q2.output, q2.frame, q2.shape⟩⟩
  · cases h

/-- A piece of code from one shape to others. -/
structure PS where
  k : Nat
  lv : List Nat
  s : ST
  outs : List PT
  co : List (Nat × Nat) := []

def cutLF (C : Cfg) (p : PS) (f : p.s.ty C.E → Option (altP C.E p.outs)) : LF C :=
  ⟨fun st K => Option.bind (recan p.k p.lv p.co st) fun st' => Option.bind (p.s.un st') fun x => Option.bind (f x) fun y => elimP p.outs y K⟩

def pieceK (C : Cfg) (Γ : FuncId → Option (CF C)) (Λ : Nat → Option (LF C)) (code : Code) (p : PS) (x : p.s.ty C.E) : Option (altP C.E p.outs) :=
  exec C Γ Λ code (p.s.emb x) fun e st => unP p.k p.outs e st

theorem bind_eq {α β : Type} {o : Option α} {f : α → Option β} {z : β} (h : Option.bind o f = some z) : ∃ x, o = some x ∧ f x = some z := by
  cases o with
  | none => cases h
  | some x => exact ⟨x, rfl, h⟩

theorem cut_ok {Γ : FuncId → Option (CF C)} (hS : SysN C Γ) {Λ : Nat → Option (LF C)} {k : Nat} {code : Code} {p : PS} (hΛ : LamAt C k Λ code) (hk : k ≤ p.k) {f : p.s.ty C.E → Option (altP C.E p.outs)}
    (hf : ∀ x, pieceK C Γ Λ code p x = f x) : Snd C k code (cutLF C p f).k := by
  intro Z K z st a c w hz hr hn Q hq
  unfold cutLF at hz
  simp only at hz
  obtain ⟨st', h1, hz⟩ := bind_eq hz
  obtain ⟨x, h2, hz⟩ := bind_eq hz
  obtain ⟨y, h3, hz⟩ := bind_eq hz
  rw [elimP_eq] at hz
  obtain ⟨c1, r1, l1⟩ := recan_ok hS.sys.cfg hr h1 hk hn
  rw [← ST.ok h2] at r1 l1
  rw [← hf x] at h3
  refine exec_ok hS code hΛ _ y _ a c1 w h3 r1 l1.n Q ?_
  intro e st2 a' c' w' he hr2 hle
  obtain ⟨e1, lv, co, e2⟩ := unP_ok he
  obtain ⟨c3, r3, l3⟩ := recan_ok hS.sys.cfg hr2 e2 hk hle.n
  rw [e1]
  exact hq _ _ a' c3 w' hz r3 (l1.trans (hle.trans l3))

/-! ### Loops -/

def iterN {S Y : Type} (f : S → Option (S ⊕ Y)) : Nat → S → Option Y
  | 0, _ => none
  | n + 1, s => match f s with
    | some (.inl s') => iterN f n s'
    | some (.inr y) => some y
    | none => none

theorem iterN_mono {S Y : Type} {f : S → Option (S ⊕ Y)} : ∀ {n m : Nat} {s : S} {y : Y}, iterN f n s = some y → n ≤ m → iterN f m s = some y
  | 0, m, s, y, h, _ => by cases h
  | n + 1, 0, s, y, h, hm => by omega
  | n + 1, m + 1, s, y, h, hm => by
    simp only [iterN] at h ⊢
    split at h
    · exact iterN_mono h (by omega)
    · exact h
    · cases h

open Classical in
/-- What a loop comes to. -/
noncomputable def iterO {S Y : Type} (f : S → Option (S ⊕ Y)) (s : S) : Option Y := if h : ∃ y n, iterN f n s = some y then some h.choose else none

theorem iterO_of {S Y : Type} {f : S → Option (S ⊕ Y)} {n : Nat} {s : S} {y : Y} (h : iterN f n s = some y) : iterO f s = some y := by
  have hx : ∃ y n, iterN f n s = some y := ⟨y, n, h⟩
  unfold iterO
  rw [dif_pos hx]
  obtain ⟨m, hm⟩ := hx.choose_spec
  have h1 := iterN_mono hm (Nat.le_max_left m n)
  have h2 := iterN_mono h (Nat.le_max_right m n)
  rw [h1] at h2
  exact h2

theorem iterO_some {S Y : Type} {f : S → Option (S ⊕ Y)} {s : S} {y : Y} (h : iterO f s = some y) : ∃ n, iterN f n s = some y := by
  unfold iterO at h
  split at h
  · rename_i hx
    obtain ⟨m, hm⟩ := hx.choose_spec
    cases h
    exact ⟨m, hm⟩
  · cases h

theorem iterO_eq {S Y : Type} (f : S → Option (S ⊕ Y)) (s : S) : iterO f s = match f s with
    | some (.inl s') => iterO f s'
    | some (.inr y) => some y
    | none => none := by
  cases h : iterO f s with
  | some y =>
    obtain ⟨n, hn⟩ := iterO_some h
    cases n with
    | zero => cases hn
    | succ n =>
      simp only [iterN] at hn
      split at hn
      · exact (iterO_of hn).symm
      · exact hn.symm
      · cases hn
  | none =>
    cases hf : f s with
    | none => rfl
    | some r =>
      cases r with
      | inr y =>
        have : iterN f 1 s = some y := by simp [iterN, hf]
        rw [iterO_of this] at h; cases h
      | inl s' =>
        simp only
        cases h2 : iterO f s' with
        | none => rfl
        | some y =>
          obtain ⟨n, hn⟩ := iterO_some h2
          have : iterN f (n + 1) s = some y := by simp [iterN, hf, hn]
          rw [iterO_of this] at h; cases h

/-- By an invariant and a measure. -/
theorem iterO_rule {S Y : Type} {f : S → Option (S ⊕ Y)} (I : S → Prop) (mu : S → Nat) (Q : S → Y → Prop)
    (h : ∀ s, I s → (∃ s', f s = some (.inl s') ∧ I s' ∧ mu s' < mu s ∧ ∀ y, Q s' y → Q s y) ∨ (∃ y, f s = some (.inr y) ∧ Q s y)) : ∀ s, I s → ∃ y, iterO f s = some y ∧ Q s y := by
  intro s
  generalize hn : mu s = n
  induction n using Nat.strongRecOn generalizing s with
  | _ n ih =>
    intro hI
    rcases h s hI with ⟨s', h1, h2, h3, h4⟩ | ⟨y, h1, h2⟩
    · obtain ⟨y, h5, h6⟩ := ih (mu s') (by omega) s' rfl h2
      exact ⟨y, by rw [iterO_eq, h1]; exact h5, h4 y h6⟩
    · exact ⟨y, by rw [iterO_eq, h1], h2⟩

structure LS where
  k : Nat
  lv : List Nat
  s : ST
  outs : List PT
  co : List (Nat × Nat) := []

/-- A round's end: the head again, or out. -/
def roundE (C : Cfg) (p : LS) (e : Exit) (st : St C.E) : Option (p.s.ty C.E ⊕ altP C.E p.outs) := match e with
  | .normal => match Option.bind (recan p.k p.lv p.co st) fun st' => p.s.un st' with
    | some x => some (.inl x)
    | none => none
  | e => match unP p.k p.outs e st with
    | some y => some (.inr y)
    | none => none

def roundK (C : Cfg) (Γ : FuncId → Option (CF C)) (Λ : Nat → Option (LF C)) (body : Code) (p : LS) (x : p.s.ty C.E) : Option (p.s.ty C.E ⊕ altP C.E p.outs) :=
  exec C Γ Λ body (p.s.emb x) (roundE C p)

def loopW (C : Cfg) (p : LS) (id : Nat) (L : p.s.ty C.E → Option (altP C.E p.outs)) : LF C :=
  ⟨fun st K => Option.bind (recan p.k p.lv p.co st) fun st' => Option.bind (p.s.un st') fun x => Option.bind (L x) fun y => elimP p.outs y fun e st => K (leaveE id e) st⟩

theorem loopW_ok {Γ : FuncId → Option (CF C)} (hS : SysN C Γ) {Λ : Nat → Option (LF C)} {k id : Nat} {body : Code} {p : LS} (hΛ : LamAt C k Λ body) (hk : k ≤ p.k) {f : p.s.ty C.E → Option (p.s.ty C.E ⊕ altP C.E p.outs)}
    (hf : ∀ x, roundK C Γ Λ body p x = f x) : Snd C k (.block id (.loop body)) (loopW C p id (iterO f)).k := by
  intro Z K z st a c w hz hr hn Q hq
  unfold loopW at hz
  simp only at hz
  obtain ⟨st', h1, hz⟩ := bind_eq hz
  obtain ⟨x, h2, hz⟩ := bind_eq hz
  obtain ⟨y, h3, hz⟩ := bind_eq hz
  rw [elimP_eq] at hz
  obtain ⟨c1, r1, l1⟩ := recan_ok hS.sys.cfg hr h1 hk hn
  rw [← ST.ok h2] at r1 l1
  obtain ⟨n0, h3⟩ := iterO_some h3
  refine wp_block (wp_loop_ghost (fun n a' w' => ∃ x' c', iterN f n x' = some y ∧ Rep C c' w' (p.s.emb x') a' ∧ LeK k c st.h w c' (p.s.emb x').h w') n0 ⟨x, c1, h3, r1, l1⟩ ?_)
  rintro n a1 w1 ⟨x', c', hit, hr1, hle1⟩
  cases n with
  | zero => cases hit
  | succ n =>
    simp only [iterN] at hit
    have hbody : ∃ r, roundK C Γ Λ body p x' = some r ∧ f x' = some r := by
      cases hfx : f x' with
      | none => rw [hfx] at hit; cases hit
      | some r => exact ⟨r, (hf x').trans hfx, rfl⟩
    obtain ⟨r, hrun, hfr⟩ := hbody
    rw [hfr] at hit
    refine exec_ok hS body hΛ _ r _ a1 c' w1 hrun hr1 hle1.n _ ?_
    intro e st2 a2 c2 w2 he hr2 hle2
    unfold roundE at he
    split at he
    · split at he
      · rename_i x2 hx2
        cases he
        obtain ⟨st3, g1, g2⟩ := bind_eq hx2
        obtain ⟨c3, r3, l3⟩ := recan_ok hS.sys.cfg hr2 g1 hk hle2.n
        rw [← ST.ok g2] at r3 l3
        exact ⟨n, Nat.lt_succ_self n, x2, c3, hit, r3, hle1.trans (hle2.trans l3)⟩
      · cases he
    · rename_i hne
      split at he
      · rename_i y2 hy2
        cases he
        simp only [Option.some.injEq] at hit
        subst hit
        obtain ⟨e1, lv, co, e2⟩ := unP_ok hy2
        obtain ⟨c3, r3, l3⟩ := recan_ok hS.sys.cfg hr2 e2 hk hle2.n
        have := hq _ _ a2 c3 w2 hz r3 (hle1.trans (hle2.trans l3))
        rw [← e1] at this
        cases e with
        | normal => exact (hne rfl).elim
        | exit j =>
          simp only [Exit.then, Exit.inBlock]
          simp only [leaveE] at this
          split at this
          · rename_i hj
            rw [if_pos (Nat.eq_of_beq_eq_true hj)]; exact this
          · rename_i hj
            rw [if_neg (fun he => by rw [he] at hj; simp at hj)]; exact this
        | _ => exact this
      · cases he

theorem lam_le {K : Nat} {l : List (Nat × LF C)} {code : Code} (h : ∀ p ∈ l, ∃ x, keyed p.1 code = [x] ∧ ∀ n, n ≤ K → Snd C n x p.2.k) : ∀ n, n ≤ K → LamAt C n (look l) code :=
  fun n hn => lam_look fun p hp => by
    obtain ⟨x, h1, h2⟩ := h p hp
    exact ⟨x, h1, h2 n hn⟩

def subCode (code : Code) (key : Nat) : Code := match keyed key code with
  | [c] => c
  | _ => .skip
def loopOf (code : Code) (id : Nat) : Code := match keyed (3 * id) code with
  | [.block _ (.loop b)] => b
  | _ => .skip

theorem lam_nil {K : Nat} {code : Code} : ∀ p ∈ ([] : List (Nat × LF C)), ∃ x, keyed p.1 code = [x] ∧ ∀ n, n ≤ K → Snd C n x p.2.k := fun p hp => by cases hp
theorem lam_cons {K key : Nat} {code x : Code} {L : LF C} {l : List (Nat × LF C)} (h : keyed key code = [x] ∧ ∀ n, n ≤ K → Snd C n x L.k) (r : ∀ p ∈ l, ∃ x, keyed p.1 code = [x] ∧ ∀ n, n ≤ K → Snd C n x p.2.k) :
    ∀ p ∈ (key, L) :: l, ∃ x, keyed p.1 code = [x] ∧ ∀ n, n ≤ K → Snd C n x p.2.k := fun p hp => by
  rcases List.mem_cons.1 hp with rfl | hp
  · exact ⟨x, h⟩
  · exact r p hp

theorem sys_nil (hC : CfgOK C) (hE : ∀ t ti, C.T t = some ti → ti.eqf = true → EqOK C t ti) : SysN C (look ([] : List (Nat × CF C))) := sys_look hC hE (fun p hp => by cases hp)
theorem sys_cons {f : Nat} {g : CF C} {l : List (Nat × CF C)} (h : CFOK C f g) (hn : CFNat g) (r : SysN C (look l)) : SysN C (look ((f, g) :: l)) := by
  have key : ∀ f' g', look ((f, g) :: l) f' = some g' → (f' = f ∧ g' = g) ∨ look l f' = some g' := by
    intro f' g' hg
    simp only [look] at hg
    split at hg
    · rename_i hb
      cases hg
      exact .inl ⟨(Nat.eq_of_beq_eq_true hb).symm, rfl⟩
    · exact .inr hg
  refine ⟨⟨r.sys.cfg, r.sys.eq, fun f' g' hg => ?_⟩, fun f' g' hg => ?_⟩
  · rcases key f' g' hg with ⟨rfl, rfl⟩ | hg
    · exact h
    · exact r.sys.gam f' g' hg
  · rcases key f' g' hg with ⟨rfl, rfl⟩ | hg
    · exact hn
    · exact r.nat f' g' hg

/-! ### Functions -/

structure FS where
  modes : List (List CM)
  ins : List ST
  outs : List ST
  rm : List (List CM)
  co : List (Nat × Nat) := []

def outF (C : Cfg) {Z : Type} (st : St C.E) (K : AV C.E → List (Option (Ob C.E)) → Option Z) : Option Z := match st.t with
  | [v] => K v st.h
  | _ => none

def mkF (C : Cfg) (s : FS) (f : altTy C.E s.ins → Option (altTy C.E s.outs)) : CF C :=
  ⟨s.modes, fun args obs K => Option.bind (unAlt s.ins ⟨args, obs⟩) fun a => Option.bind (f a) fun r => elimAlt s.outs r fun st => outF C st K⟩

theorem mkF_nat (s : FS) (f : altTy C.E s.ins → Option (altTy C.E s.outs)) : CFNat (mkF C s f) := by
  intro Z args obs K
  simp only [mkF]
  cases unAlt s.ins ⟨args, obs⟩ with
  | none => rfl
  | some a =>
    simp only [Option.bind_some]
    cases f a with
    | none => rfl
    | some r =>
      simp only [Option.bind_some, elimAlt_eq, outF]
      split <;> rfl

/-- What the executor makes of a function, told by shapes. -/
def fnS (C : Cfg) (Γ : FuncId → Option (CF C)) (Λ : Nat → Option (LF C)) (fn : Func) (s : FS) (a : altTy C.E s.ins) : Option (altTy C.E s.outs) :=
  fnK C Γ Λ fn s.rm s.co (embAlt s.ins a).t (embAlt s.ins a).h fun r obs => unAlt s.outs ⟨[r], obs⟩

theorem mkF_ok {Γ : FuncId → Option (CF C)} (hS : SysN C Γ) {Λ : Nat → Option (LF C)} {f : FuncId} {fn : Func} {body : Code} (hf : C.P.funcs[f]? = some fn) (hname : (fn.name == "runtime.NumGoroutine") = false) (hb : fn.body = some body) {s : FS}
    {m : Nat} (hm : (s.ins.all fun i => Nat.ble i.h.length m) = true) (hΛ : ∀ n, n ≤ m → LamAt C n Λ body) {g : altTy C.E s.ins → Option (altTy C.E s.outs)} (hg : ∀ a, fnS C Γ Λ fn s a = g a) : CFOK C f (mkF C s g) := by
  refine ⟨fun {Z} c w h args vs K z hk hh hl hr => .inl ⟨fn, hf, hname, by rw [hb]; rfl, ?_⟩⟩
  simp only [mkF] at hk
  obtain ⟨a, h1, hk⟩ := bind_eq hk
  obtain ⟨r, h2, hk⟩ := bind_eq hk
  rw [elimAlt_eq] at hk
  have h3 := unAlt_ok h1
  rw [← hg a] at h2
  unfold fnS at h2
  rw [h3] at h2
  have hlen : h.length ≤ m := by
    have key : ∀ (l : List ST) (a : altTy C.E l), (l.any fun i => Nat.beq i.h.length (embAlt l a).h.length) = true := by
      have emb1 : ∀ (q : ST) (x : q.ty C.E), (q.emb x).h.length = q.h.length := by
        intro q x
        have : ∀ {R : Type} (l : List OT) (y : tysO C.E l R), (embO l y).1.length = l.length := by
          intro R l
          induction l with
          | nil => intro y; rfl
          | cons t l ih => intro y; simp only [embO, List.length_cons, ih]
        simp only [ST.emb, this]
      intro l
      induction l with
      | nil => intro a; exact nomatch a
      | cons s l ih =>
        intro a
        cases l with
        | nil => simp [embAlt, emb1]
        | cons s' l =>
          cases a with
          | inl x => simp [embAlt, emb1]
          | inr x =>
            rw [List.any_cons, Bool.or_eq_true]
            exact .inr (ih x)
    have := key s.ins a
    rw [h3] at this
    obtain ⟨i, hi, he⟩ := List.any_eq_true.1 this
    have := Nat.le_of_ble_eq_true (List.all_eq_true.1 hm i hi)
    have := Nat.eq_of_beq_eq_true he
    simp only at this
    omega
  refine Calls.mono (fn_ok hS hf hb c w h args vs (fun r obs => unAlt s.outs ⟨[r], obs⟩) r (hΛ _ hlen) h2 hh hl hr) ?_
  rintro e w' ⟨v, x, h', c', rfl, k1, k2, k3, k4⟩
  have k5 := unAlt_ok k1
  rw [k5] at hk
  exact ⟨v, x, h', c', rfl, hk, k2, k3, k4⟩

/-! ### Functions that call themselves -/

theorem mkF_none {f : FuncId} {fn : Func} {body : Code} (_ : C.P.funcs[f]? = some fn) (_ : (fn.name == "runtime.NumGoroutine") = false) (_ : fn.body = some body) (s : FS) : CFOK C f (mkF C s fun _ => none) := by
  refine ⟨fun {Z} c w h args vs K z hk _ _ _ => ?_⟩
  simp only [mkF] at hk
  obtain ⟨a, _, hk⟩ := bind_eq hk
  cases hk

theorem mkF_fuel {f : FuncId} {s : FS} {g : Nat → altTy C.E s.ins → Option (altTy C.E s.outs)} (h : ∀ n, CFOK C f (mkF C s (g n))) (m : altTy C.E s.ins → Nat) : CFOK C f (mkF C s fun a => g (m a) a) := by
  refine ⟨fun {Z} c w hp args vs K z hk hh hl hr => ?_⟩
  simp only [mkF] at hk
  obtain ⟨a, h1, hk⟩ := bind_eq hk
  refine (h (m a)).run c w hp args vs K z ?_ hh hl hr
  simp only [mkF]
  rw [h1]
  exact hk
end
end Go.AE
