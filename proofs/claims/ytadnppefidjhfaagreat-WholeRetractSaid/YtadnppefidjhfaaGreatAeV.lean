/-
  AE, part 14: a configuration is checked against a program.
-/
import Derived.Test.YtadnppefidjhfaaGreatAeF
import Derived.Laws.StructEq
namespace Go.AE
open Go.RowKit

section
variable {C : Cfg}

def cellB {E : Nat → Type} : AV E → Value → Bool
  | .int k n, .int k' n' => decide (k = k') && (decide (n = n') && (Lit.int k n).wf)
  | .bool a, .bool b => a == b
  | .str [], .string s => Nat.beq s.size 0
  | .nilp, .pointer none => true
  | .nils, .slice none 0 0 => true
  | .bot, .map none => true
  | _, _ => false

def cellsB {E : Nat → Type} : List (AV E) → List Value → Bool
  | [], [] => true
  | x :: xs, v :: vs => cellB x v && cellsB xs vs
  | _, _ => false

def fsB : List (TypeId × Nat) → List Field → Bool
  | [], _ => true
  | (t, o) :: r, f :: fs => Nat.beq f.type t && (Nat.beq f.offset o && fsB r fs)
  | _ :: _, [] => false

def tdB : TD → TypeDesc → Bool
  | .int k, .int k' => decide (k' = k)
  | .bool, .bool => true
  | .str, .string => true
  | .ptr, .pointer _ => true
  | .slice e, .slice e' => Nat.beq e' e
  | .array n e, .array n' e' => Nat.beq n' n && Nat.beq e' e
  | .struct fs, .struct F => fsB fs F.toList
  | .map k e, .map k' e' => Nat.beq k' k && Nat.beq e' e
  | _, _ => false

def aggB : Value → Bool
  | .agg _ => true
  | _ => false

def tyB {E : Nat → Type} (P : Program) (T : Nat → Option (TI E)) (t : TypeId) (ti : TI E) : Bool :=
  match P.info? t, P.underlying t with
  | some i, some d => match i.zero with
    | some z => (aggB z == ti.d.isAgg) && (Nat.beq i.size ti.size && (Nat.beq i.bytes ti.bytes && (tdB ti.d d && (cellsB ti.zero z.cells.toList && (Nat.beq z.cells.size ti.size && (Nat.blt 0 ti.size && (Nat.blt 0 ti.bytes && ((ti.d.isAgg || Nat.beq ti.size 1) &&
        ((match d with
          | .struct F => F.toList.all fun f => (P.info? f.type).isSome
          | _ => true) &&
        (match ti.d with
          | .slice e | .array _ e => match T e with
            | some te => Nat.blt 0 te.size
            | none => false
          | _ => true))))))))))
    | none => false
  | _, _ => false

theorem cellB_R {x : AV C.E} {v : Value} (h : cellB x v = true) (c : Ctx) (w : World) : R C c w x v ∧ v.oneCell' = true := by
  unfold cellB at h
  split at h
  · simp only [Bool.and_eq_true, decide_eq_true_eq] at h
    obtain ⟨rfl, rfl, h⟩ := h
    exact ⟨.int h, rfl⟩
  · rename_i a b
    have : a = b := by simpa using h
    subst this
    exact ⟨.bool _, rfl⟩
  · rename_i s
    have hs := Nat.eq_of_beq_eq_true h
    refine ⟨.str ?_ (by rw [hs]; exact Nat.zero_le _), rfl⟩
    have : s.data.toList = [] := List.eq_nil_of_length_eq_zero (by rw [Array.length_toList]; exact hs)
    rw [this]; rfl
  · exact ⟨.nilp, rfl⟩
  · exact ⟨.nils, rfl⟩
  · exact ⟨.bot _, rfl⟩
  · cases h

theorem cellsB_R (c : Ctx) (w : World) : ∀ (xs : List (AV C.E)) (vs : List Value), cellsB xs vs = true → xs.length = vs.length ∧ (∀ j (h : j < xs.length), R C c w xs[j] (vs.getD j undef)) ∧ vs.all Value.oneCell' = true
  | [], [], _ => ⟨rfl, fun j h => absurd h (Nat.not_lt_zero _), rfl⟩
  | [], _ :: _, h => by cases h
  | _ :: _, [], h => by cases h
  | x :: xs, v :: vs, h => by
    simp only [cellsB, Bool.and_eq_true] at h
    obtain ⟨h1, h2, h3⟩ := cellsB_R c w xs vs h.2
    obtain ⟨h4, h5⟩ := cellB_R h.1 c w
    refine ⟨by simp [h1], fun j hj => ?_, by simp only [List.all_cons, h5, h3, Bool.and_self]⟩
    cases j with
    | zero => exact h4
    | succ j => simpa using h2 j (by simpa using hj)

theorem fsB_spec : ∀ (fs : List (TypeId × Nat)) (F : List Field), fsB fs F = true → ∀ (j ft off : Nat), fs[j]? = some (ft, off) → ∃ f : Field, F[j]? = some f ∧ f.type = ft ∧ f.offset = off
  | [], F, _, j, ft, off, h => by simp at h
  | (t, o) :: r, [], hb, j, ft, off, h => by cases hb
  | (t, o) :: r, f :: F, hb, j, ft, off, h => by
    simp only [fsB, Bool.and_eq_true] at hb
    cases j with
    | zero =>
      simp at h
      obtain ⟨rfl, rfl⟩ := h
      exact ⟨f, rfl, Nat.eq_of_beq_eq_true hb.1, Nat.eq_of_beq_eq_true hb.2.1⟩
    | succ j => exact fsB_spec r F hb.2.2 j ft off (by simpa using h)

theorem tdB_spec {td : TD} {d : TypeDesc} (h : tdB td d = true) : TDOK td d ∧ td ≠ .other := by
  unfold tdB at h
  split at h
  · exact ⟨by simp only [TDOK]; rw [of_decide_eq_true h], fun h => by cases h⟩
  · exact ⟨rfl, fun h => by cases h⟩
  · exact ⟨rfl, fun h => by cases h⟩
  · exact ⟨⟨_, rfl⟩, fun h => by cases h⟩
  · exact ⟨by simp only [TDOK]; rw [Nat.eq_of_beq_eq_true h], fun h => by cases h⟩
  · simp only [Bool.and_eq_true] at h
    exact ⟨by simp only [TDOK]; rw [Nat.eq_of_beq_eq_true h.1, Nat.eq_of_beq_eq_true h.2], fun h => by cases h⟩
  · rename_i fs F
    refine ⟨⟨F, rfl, fun j ft off hj => ?_⟩, fun h => by cases h⟩
    obtain ⟨f, h1, h2⟩ := fsB_spec fs F.toList h j ft off hj
    exact ⟨f, by rw [← Array.getElem?_toList]; exact h1, h2⟩
  · simp only [Bool.and_eq_true] at h
    exact ⟨by simp only [TDOK]; rw [Nat.eq_of_beq_eq_true h.1, Nat.eq_of_beq_eq_true h.2], fun h => by cases h⟩
  · cases h

theorem tyB_spec {t : TypeId} {ti : TI C.E} (h : tyB C.P C.T t ti = true) : TyOK C t ti ∧ ∀ e, (ti.d = .slice e ∨ ∃ n, ti.d = .array n e) → ∃ te, C.T e = some te ∧ 0 < te.size := by
  unfold tyB at h
  split at h
  · rename_i i d hi hu
    split at h
    · rename_i z hz
      simp only [Bool.and_eq_true] at h
      obtain ⟨h0, h1, h2, h3, h4, h5, h6, h7, h8, h9, h10⟩ := h
      have hsz := Nat.eq_of_beq_eq_true h1
      have hby := Nat.eq_of_beq_eq_true h2
      have hzs := Nat.eq_of_beq_eq_true h5
      obtain ⟨htd, hno⟩ := tdB_spec h3
      have hpos : 0 < ti.size := by simpa [Nat.blt_eq] using h6
      have hbpos : 0 < ti.bytes := by simpa [Nat.blt_eq] using h7
      refine ⟨⟨fun hag => ?_, hpos, hbpos, fun F hF f hf => ?_, hno, ⟨i, d, z, hi, hu, hsz, hby, htd, hz, ?_, hzs, fun c w j hj => ?_, ?_⟩⟩, fun e he => ?_⟩
      · rw [hag] at h8
        simp only [Bool.false_or] at h8
        exact Nat.eq_of_beq_eq_true h8
      · rw [hu] at hF
        cases hF
        exact List.all_eq_true.1 h9 f hf
      · have := (cellsB_R (C := C) ⟨0, fun _ => none, fun _ => False, fun _ => False⟩ default ti.zero _ h4).1
        rw [this, Array.length_toList]
      · have := (cellsB_R (C := C) c w ti.zero _ h4).2.1 j hj
        have e : z.cells.toList.getD j undef = z.cells.getD j undef := by
          rw [List.getD_eq_getElem?_getD, Array.getElem?_toList, Array.getD_eq_getD_getElem?]
        rw [← e]; exact this
      · have := (cellsB_R (C := C) ⟨0, fun _ => none, fun _ => False, fun _ => False⟩ default ti.zero _ h4).2.2
        have h0' : aggB z = ti.d.isAgg := by simpa using h0
        refine ⟨by rw [← Array.all_toList]; exact this, fun hag => ?_, fun hag a e => ?_⟩
        · rw [hag] at h0'
          cases z <;> first | exact ⟨_, rfl⟩ | cases h0'
        · rw [hag, e] at h0'
          cases h0'
      · rcases he with he | ⟨n, he⟩ <;> rw [he] at h10 <;> simp only at h10
        · cases hT : C.T e with
          | none => rw [hT] at h10; cases h10
          | some te => rw [hT] at h10; exact ⟨te, rfl, by simpa [Nat.blt_eq] using h10⟩
        · cases hT : C.T e with
          | none => rw [hT] at h10; cases h10
          | some te => rw [hT] at h10; exact ⟨te, rfl, by simpa [Nat.blt_eq] using h10⟩
    · cases h
  · cases h

/-- All rows of a table. -/
def tabB {E : Nat → Type} (P : Program) (T : Nat → Option (TI E)) : Nat → List (Option (TI E)) → Bool
  | _, [] => true
  | t, none :: r => tabB P T (t + 1) r
  | t, some ti :: r => tyB P T t ti && tabB P T (t + 1) r

theorem tabB_spec {E : Nat → Type} {P : Program} {T : Nat → Option (TI E)} : ∀ (l : List (Option (TI E))) (k : Nat), tabB P T k l = true → ∀ (j : Nat) (ti : TI E), l[j]? = some (some ti) → tyB P T (k + j) ti = true
  | [], k, _, j, ti, h => by simp at h
  | none :: r, k, hb, j, ti, h => by
    cases j with
    | zero => simp at h
    | succ j =>
      have := tabB_spec r (k + 1) hb j ti (by simpa using h)
      rw [show k + (j + 1) = k + 1 + j by omega]; exact this
  | some x :: r, k, hb, j, ti, h => by
    simp only [tabB, Bool.and_eq_true] at hb
    cases j with
    | zero => simp at h; subst h; exact hb.1
    | succ j =>
      have := tabB_spec r (k + 1) hb.2 j ti (by simpa using h)
      rw [show k + (j + 1) = k + 1 + j by omega]; exact this

theorem cfg_ok {L : List (Option (TI C.E))} (hT : ∀ t ti, C.T t = some ti → L[t]? = some (some ti)) (hB : tabB C.P C.T 0 L = true) (enc : ∀ e x, (C.enc e x).length = sizeT C e) (dec : ∀ e l x, C.dec e l = some x → C.enc e x = l)
    (free : ∀ e x, (C.enc e x).all AV.free = true) (tight : ∀ e x, (C.enc e x).all AV.tight = true) (mixed : C.P.follows .mixedOrders = true) (bytes : ∀ e xs l, C.bytes e xs = some l → l.length = xs.length ∧ ∀ i (h : i < xs.length) (h' : i < l.length), C.enc e xs[i] = [.int .u8 l[i]]) : CfgOK C := by
  have key : ∀ t ti, C.T t = some ti → tyB C.P C.T t ti = true := fun t ti h => by
    have := tabB_spec L 0 hB t ti (hT t ti h)
    rwa [Nat.zero_add] at this
  exact ⟨fun t ti h => (tyB_spec (key t ti h)).1, enc, dec, free, fun t ti e h he => (tyB_spec (key t ti h)).2 e he, mixed, bytes, tight⟩

/-! ### '==' on structs of numbers and bools -/

def eqFB {E : Nat → Type} (P : Program) : Nat → List Field → List (AV E) → Bool
  | _, [], [] => true
  | j, f :: F, z :: zs => (f.name != "_") && (Nat.beq f.offset j && ((match z, P.underlying f.type with
    | .int _ _, some (.int _) => true
    | .bool _, some .bool => true
    | _, _ => false) && eqFB P (j + 1) F zs))
  | _, _, _ => false

/-- A struct's fields and its size. -/
def structOf (P : Program) (t : TypeId) : Option (Array Field × Nat) := match P.underlying t with
  | some (.struct G) => match P.info? t with
    | some i => some (G, i.size)
    | none => none
  | _ => none
theorem structOf_some {P : Program} {t : TypeId} {G : Array Field} {k : Nat} (h : structOf P t = some (G, k)) : P.underlying t = some (.struct G) ∧ ∃ i, P.info? t = some i ∧ i.size = k := by
  unfold structOf at h
  split at h
  · rename_i G' hu
    split at h
    · rename_i i hi
      cases h
      exact ⟨hu, i, hi, rfl⟩
    · cases h
  · cases h
/-- The fields of a nested struct too, one level deep. -/
def eqF2 {E : Nat → Type} (P : Program) : Nat → List Field → List (AV E) → Bool
  | _, [], [] => true
  | _, [], _ :: _ => false
  | j, f :: F, zs => (f.name != "_") && (Nat.beq f.offset j && (match structOf P f.type with
    | some (G, k) => Nat.ble 1 k && (Nat.ble k zs.length && (eqFB P 0 G.toList (zs.take k) && (!P.stoodInHeld f.type && eqF2 P (j + k) F (zs.drop k))))
    | none => match zs with
      | z :: zs => eqFB P j [f] [z] && eqF2 P (j + 1) F zs
      | [] => false))

def eqB {E : Nat → Type} (P : Program) (t : TypeId) (ti : TI E) : Bool :=
  match P.underlying t with
  | some (.struct F) => eqF2 P 0 F.toList ti.zero && (!P.stoodInHeld t && !P.eqGuardType P.depth t)
  | _ => false

theorem run_part {P : Program} {t : TypeId} {d : TypeDesc} {w : World} (h : P.underlying t = some d) (hd : (∃ k, d = .int k) ∨ d = .bool) {cs : Array Value} {off : Nat} {v : Value} (hv : cs[off]? = some v) : (part t cs off).run P w = .ok v w := by
  rcases hd with ⟨k, rfl⟩ | rfl <;> simp [part, isAgg, run_underlying h, hv]

theorem eqFields_ok {d : Nat} {xs ys : Array Value} {c c' : Ctx} {w : World} : ∀ (F : List Field) (zs cs ds : List (AV C.E)) (j : Nat) (b : Bool), eqFB C.P j F zs = true → eqCells zs cs ds = some b →
    (∀ i (h : i < cs.length), ∃ v, xs[j + i]? = some v ∧ R C c w cs[i] v) → (∀ i (h : i < ds.length), ∃ v, ys[j + i]? = some v ∧ R C c' w ds[i] v) → (Op.eqFields (d + 1) xs ys F).run C.P w = .ok b w
  | [], [], cs, ds, j, b, _, he, _, _ => by
    cases cs <;> cases ds <;> simp only [eqCells] at he <;> try (cases he; done)
    cases he
    simp [Op.eqFields]
  | [], _ :: _, cs, ds, j, b, hb, _, _, _ => by cases hb
  | _ :: _, [], cs, ds, j, b, hb, _, _, _ => by cases hb
  | f :: F, z :: zs, cs, ds, j, b, hb, he, hx, hy => by
    simp only [eqFB, Bool.and_eq_true, bne_iff_ne] at hb
    obtain ⟨hn, ho, ht, hb⟩ := hb
    have ho := Nat.eq_of_beq_eq_true ho
    have rest : ∀ (x y : AV C.E) (cs ds : List (AV C.E)) (b : Bool), eqCells zs cs ds = some b → (∀ i (h : i < (x :: cs).length), ∃ v, xs[j + i]? = some v ∧ R C c w (x :: cs)[i] v) → (∀ i (h : i < (y :: ds).length), ∃ v, ys[j + i]? = some v ∧ R C c' w (y :: ds)[i] v) →
        (Op.eqFields (d + 1) xs ys F).run C.P w = .ok b w := fun x y cs ds b he hx hy =>
      eqFields_ok F zs cs ds (j + 1) b hb he (fun i h => by
        have := hx (i + 1) (by simpa using h)
        rw [show j + (i + 1) = j + 1 + i by omega] at this
        simpa using this) (fun i h => by
        have := hy (i + 1) (by simpa using h)
        rw [show j + (i + 1) = j + 1 + i by omega] at this
        simpa using this)
    split at ht
    · rename_i k n k' hz
      cases cs with
      | nil => simp [eqCells] at he
      | cons x cs =>
      cases ds with
      | nil => cases x <;> simp [eqCells] at he
      | cons y ds =>
      cases x <;> cases y <;> simp only [eqCells] at he <;> try (cases he; done)
      rename_i k1 a k2 b2
      split at he
      · rename_i t hk hr
        simp only [Bool.and_eq_true, decide_eq_true_eq] at hk
        obtain ⟨rfl, rfl⟩ := hk
        obtain ⟨v, hv, hvr⟩ := hx 0 (by simp)
        obtain ⟨u, hu, hur⟩ := hy 0 (by simp)
        cases hvr
        cases hur
        have h3 := rest _ _ _ _ _ hr hx hy
        simp only [Nat.add_zero] at hv hu
        simp only [Op.eqFields, if_pos hn, ho, Sem.run_bind, run_part hz (.inl ⟨_, rfl⟩) hv, run_part hz (.inl ⟨_, rfl⟩) hu, Result.andThen_ok, run_equalIn_int w d f.type _ _ a b2 hz]
        cases hab : (a == b2) with
        | true => rw [hab] at he; simp only [cond_true, Option.some.injEq] at he; subst he; simpa using h3
        | false => rw [hab] at he; simp only [cond_false, Option.some.injEq] at he; subst he; simp
      · cases he
    · rename_i n hz
      cases cs with
      | nil => simp [eqCells] at he
      | cons x cs =>
      cases ds with
      | nil => cases x <;> simp [eqCells] at he
      | cons y ds =>
      cases x <;> cases y <;> simp only [eqCells] at he <;> try (cases he; done)
      rename_i a b2
      split at he
      · rename_i t hr
        obtain ⟨v, hv, hvr⟩ := hx 0 (by simp)
        obtain ⟨u, hu, hur⟩ := hy 0 (by simp)
        cases hvr
        cases hur
        have h3 := rest _ _ _ _ _ hr hx hy
        simp only [Nat.add_zero] at hv hu
        simp only [Op.eqFields, if_pos hn, ho, Sem.run_bind, run_part hz (.inr rfl) hv, run_part hz (.inr rfl) hu, Result.andThen_ok, run_equalIn_bool' w d f.type a b2 hz]
        cases hab : (a == b2) with
        | true => rw [hab] at he; simp only [cond_true, Option.some.injEq] at he; subst he; simpa using h3
        | false => rw [hab] at he; simp only [cond_false, Option.some.injEq] at he; subst he; simp
      · cases he
    · cases ht

theorem kinds_len' : ∀ {zs a b : List (AV C.E)} {t : Bool}, eqCells zs a b = some t → a.length = zs.length
  | [], a, b, t, h => by
    cases a <;> cases b <;> simp [eqCells] at h
    rfl
  | z :: zs, a, b, t, h => by
    cases z <;> cases a <;> cases b <;> try (simp [eqCells] at h; done)
    · rename_i k n x a y b
      cases x <;> cases y <;> simp only [eqCells] at h <;> try (cases h; done)
      split at h
      · rename_i t _ ht
        simp [kinds_len' ht]
      · cases h
    · rename_i n x a y b
      cases x <;> cases y <;> simp only [eqCells] at h <;> try (cases h; done)
      split at h
      · rename_i t ht
        simp [kinds_len' ht]
      · cases h

theorem run_checkKey_num {P : Program} {w : World} {t : TypeId} {d : TypeDesc} (h : P.underlying t = some d) (hd : (∃ k, d = .int k) ∨ d = .bool) (em : Bool) (n : Nat) (v : Value) : (Instr.checkKey em (n + 1) t v).run P w = .ok () w := by
  unfold Instr.checkKey
  rcases hd with ⟨k, rfl⟩ | rfl <;> simp [run_underlying h]

theorem eqFB_get : ∀ (F : List Field) (zs : List (AV C.E)) (j : Nat), eqFB C.P j F zs = true → F.length = zs.length ∧ ∀ f ∈ F, f.name ≠ "_" ∧ j ≤ f.offset ∧ f.offset < j + zs.length ∧ ∃ d, C.P.underlying f.type = some d ∧ ((∃ k, d = .int k) ∨ d = .bool)
  | [], [], j, _ => ⟨rfl, fun f hf => by cases hf⟩
  | [], _ :: _, j, hb => by cases hb
  | _ :: _, [], j, hb => by cases hb
  | f :: F, z :: zs, j, hb => by
    simp only [eqFB, Bool.and_eq_true, bne_iff_ne] at hb
    obtain ⟨hn, ho, ht, hb⟩ := hb
    have ho := Nat.eq_of_beq_eq_true ho
    obtain ⟨h1, h2⟩ := eqFB_get F zs (j + 1) hb
    refine ⟨by simp [h1], fun g hg => ?_⟩
    rcases List.mem_cons.1 hg with rfl | hg
    · refine ⟨hn, by omega, by simp; omega, ?_⟩
      split at ht
      · rename_i hu; exact ⟨_, hu, .inl ⟨_, rfl⟩⟩
      · rename_i hu; exact ⟨_, hu, .inr rfl⟩
      · cases ht
    · obtain ⟨a, b, c, d⟩ := h2 g hg
      exact ⟨a, by omega, by simp; omega, d⟩

theorem checkKey_fields {t : TypeId} {F : Array Field} {w : World} {vs : Array Value} (hF : C.P.underlying t = some (.struct F)) (em : Bool) (n : Nat)
    (hf : ∀ f ∈ F.toList, f.name ≠ "_" ∧ f.offset < vs.size ∧ ∃ d, C.P.underlying f.type = some d ∧ ((∃ k, d = .int k) ∨ d = .bool)) : (Instr.checkKey em (n + 1 + 1) t (.agg vs)).run C.P w = .ok () w := by
  rw [Instr.checkKey]
  simp only [Sem.run_bind, run_underlying hF, Result.andThen_ok]
  rw [← Array.forIn_toList]
  generalize F.toList = L at hf
  induction L with
  | nil => simp
  | cons f L ih =>
    obtain ⟨hn, ho, d, hu, hd⟩ := hf f (List.mem_cons_self ..)
    have hp := run_part (w := w) hu hd (Array.getElem?_eq_getElem ho)
    have hc := run_checkKey_num (w := w) hu hd em n vs[f.offset]
    simp only [List.forIn_cons, Sem.run_bind, hn, ne_eq, not_false_eq_true, if_true, Result.andThen_ok, hp, hc, Sem.run_pure]
    exact ih (fun g hg => hf g (List.mem_cons_of_mem _ hg))

theorem kinds_len2 : ∀ {zs a b : List (AV C.E)} {t : Bool}, eqCells zs a b = some t → b.length = zs.length
  | [], a, b, t, h => by
    cases a <;> cases b <;> simp [eqCells] at h
    rfl
  | z :: zs, a, b, t, h => by
    cases z <;> cases a <;> cases b <;> try (simp [eqCells] at h; done)
    · rename_i k n x a y b
      cases x <;> cases y <;> simp only [eqCells] at h <;> try (cases h; done)
      split at h
      · rename_i t _ ht
        simp [kinds_len2 ht]
      · cases h
    · rename_i n x a y b
      cases x <;> cases y <;> simp only [eqCells] at h <;> try (cases h; done)
      split at h
      · rename_i t ht
        simp [kinds_len2 ht]
      · cases h

theorem eqCells_take : ∀ (k : Nat) {zs cs ds : List (AV C.E)} {b : Bool}, eqCells zs cs ds = some b → k ≤ zs.length →
    ∃ b1 b2, eqCells (zs.take k) (cs.take k) (ds.take k) = some b1 ∧ eqCells (zs.drop k) (cs.drop k) (ds.drop k) = some b2 ∧ b = (b1 && b2)
  | 0, zs, cs, ds, b, h, _ => ⟨true, b, rfl, h, by simp⟩
  | k + 1, [], cs, ds, b, h, hk => by simp at hk
  | k + 1, z :: zs, cs, ds, b, h, hk => by
    have hk' : k ≤ zs.length := by simpa using hk
    cases z <;> cases cs <;> cases ds <;> try (simp [eqCells] at h; done)
    · rename_i k0 n x a y b'
      cases x <;> cases y <;> simp only [eqCells] at h <;> try (cases h; done)
      rename_i k1 a1 k2 a2
      split at h
      · rename_i t hkk ht
        obtain ⟨b1, b2, e1, e2, e3⟩ := eqCells_take k ht hk'
        cases h
        refine ⟨cond (a1 == a2) b1 false, b2, ?_, e2, ?_⟩
        · simp only [List.take_succ_cons, eqCells, e1, hkk]
        · rw [e3]
          cases (a1 == a2) <;> simp
      · cases h
    · rename_i n x a y b'
      cases x <;> cases y <;> simp only [eqCells] at h <;> try (cases h; done)
      rename_i a1 a2
      split at h
      · rename_i t ht
        obtain ⟨b1, b2, e1, e2, e3⟩ := eqCells_take k ht hk'
        cases h
        refine ⟨cond (a1 == a2) b1 false, b2, ?_, e2, ?_⟩
        · simp only [List.take_succ_cons, eqCells, e1]
        · rw [e3]
          cases (a1 == a2) <;> simp
      · cases h

theorem eqFields_cons {P : Program} {w : World} {d : Nat} {xs ys : Array Value} {f : Field} {F : List Field} {b : Bool} (h : (Op.eqFields d xs ys [f]).run P w = .ok b w) :
    (Op.eqFields d xs ys (f :: F)).run P w = if b = true then (Op.eqFields d xs ys F).run P w else .ok false w := by
  simp only [Op.eqFields] at h ⊢
  split at h
  · rename_i hn
    rw [if_pos hn]
    simp only [Sem.run_bind] at h ⊢
    generalize (part f.type xs f.offset).run P w = r1 at h ⊢
    cases r1 with
    | ok a w1 =>
      simp only [Result.andThen_ok] at h ⊢
      generalize (part f.type ys f.offset).run P w1 = r2 at h ⊢
      cases r2 with
      | ok c w2 =>
        simp only [Result.andThen_ok] at h ⊢
        generalize (Op.equalIn d f.type a c).run P w2 = r3 at h ⊢
        cases r3 with
        | ok r w3 =>
          cases r
          · simp only [Result.andThen_ok, Bool.not_false, if_true, Sem.run_pure, Result.ok.injEq] at h ⊢
            obtain ⟨h1, h2⟩ := h
            rw [← h1, h2]
            simp
          · simp only [Result.andThen_ok, Bool.not_true, Bool.false_eq_true, if_false, Sem.run_pure, Result.ok.injEq] at h ⊢
            obtain ⟨h1, h2⟩ := h
            rw [← h1, h2]
            simp
        | halt x w3 => simp [Result.andThen] at h
      | halt x w2 => simp [Result.andThen] at h
    | halt x w1 => simp [Result.andThen] at h
  · rename_i hn
    rw [if_neg hn]
    simp only [Sem.run_pure, Result.ok.injEq, and_true] at h
    rw [← h]
    simp

theorem run_part_agg {P : Program} {t : TypeId} {G : Array Field} {i : TypeInfo} {w : World} (h : P.underlying t = some (.struct G)) (hi : P.info? t = some i) (cs : Array Value) (off : Nat) : (part t cs off).run P w = .ok (.agg (cs.extract off (off + i.size))) w := by
  simp [part, isAgg, run_underlying h, run_sizeOf' hi]

theorem extract_get {cs : Array Value} {off k i : Nat} (hk : off + k ≤ cs.size) (hi : i < k) : (cs.extract off (off + k))[i]? = cs[off + i]? := by
  rw [Array.getElem?_extract, if_pos (by omega)]

theorem eqField_struct {d : Nat} {xs ys : Array Value} {c c' : Ctx} {w : World} {f : Field} {G : Array Field} {i : TypeInfo} {zs cs ds : List (AV C.E)} {b : Bool} (hn : f.name ≠ "_") (hu : C.P.underlying f.type = some (.struct G)) (hi : C.P.info? f.type = some i)
    (hB : eqFB C.P 0 G.toList zs = true) (hs : C.P.stoodInHeld f.type = false) (he : eqCells zs cs ds = some b) (hl : zs.length = i.size) (hxs : f.offset + i.size ≤ xs.size) (hys : f.offset + i.size ≤ ys.size)
    (hx : ∀ k (h : k < cs.length), ∃ v, xs[f.offset + k]? = some v ∧ R C c w cs[k] v) (hy : ∀ k (h : k < ds.length), ∃ v, ys[f.offset + k]? = some v ∧ R C c' w ds[k] v) : (Op.eqFields (d + 1 + 1) xs ys [f]).run C.P w = .ok b w := by
  have hfo : C.P.fieldsOf f.type = G := by unfold Program.fieldsOf; rw [hu]
  have hc := kinds_len' he
  have hd := kinds_len2 he
  have hr : (Op.equalIn (d + 1 + 1) f.type (.agg (xs.extract f.offset (f.offset + i.size))) (.agg (ys.extract f.offset (f.offset + i.size)))).run C.P w = .ok b w := by
    rw [run_equalIn_struct w (d + 1) f.type _ _ (by rw [hfo]; exact hu) hs, hfo]
    refine eqFields_ok (d := d) (c := c) (c' := c') G.toList zs cs ds 0 b hB he (fun k hk => ?_) (fun k hk => ?_)
    · obtain ⟨v, h1, h2⟩ := hx k hk
      exact ⟨v, by rw [Nat.zero_add, extract_get hxs (by omega)]; exact h1, h2⟩
    · obtain ⟨v, h1, h2⟩ := hy k hk
      exact ⟨v, by rw [Nat.zero_add, extract_get hys (by omega)]; exact h1, h2⟩
  simp only [Op.eqFields, if_pos hn, Sem.run_bind, run_part_agg hu hi, Result.andThen_ok, hr]
  cases b <;> simp

theorem cells_room {xs : Array Value} {c : Ctx} {w : World} {cs : List (AV C.E)} {j k : Nat} (hx : ∀ i (h : i < cs.length), ∃ v, xs[j + i]? = some v ∧ R C c w cs[i] v) (hk : k ≤ cs.length) (h0 : 0 < k) : j + k ≤ xs.size := by
  obtain ⟨v, h, _⟩ := hx (k - 1) (by omega)
  have := (Array.getElem?_eq_some_iff.1 h).1
  omega

theorem eqF2_flat {f : Field} {F : List Field} {j : Nat} {zs : List (AV C.E)} (hns : structOf C.P f.type = none) (h : eqF2 C.P j (f :: F) zs = true) : ∃ z zs', zs = z :: zs' ∧ eqFB C.P j [f] [z] = true ∧ eqF2 C.P (j + 1) F zs' = true := by
  cases zs with
  | nil =>
    simp only [eqF2, hns, Bool.and_false] at h
    cases h
  | cons z zs =>
    simp only [eqF2, hns, Bool.and_eq_true] at h
    exact ⟨z, zs, rfl, h.2.2.1, h.2.2.2⟩
theorem eqF2_nest {f : Field} {F : List Field} {j k : Nat} {G : Array Field} {zs : List (AV C.E)} (hns : structOf C.P f.type = some (G, k)) (h : eqF2 C.P j (f :: F) zs = true) :
    f.name ≠ "_" ∧ f.offset = j ∧ 1 ≤ k ∧ k ≤ zs.length ∧ eqFB C.P 0 G.toList (zs.take k) = true ∧ C.P.stoodInHeld f.type = false ∧ eqF2 C.P (j + k) F (zs.drop k) = true := by
  simp only [eqF2, hns, Bool.and_eq_true, bne_iff_ne, Bool.not_eq_true'] at h
  obtain ⟨hn, ho, h0, hk, hB, hs, h2⟩ := h
  exact ⟨hn, Nat.eq_of_beq_eq_true ho, Nat.le_of_ble_eq_true h0, Nat.le_of_ble_eq_true hk, hB, hs, h2⟩

theorem eqFields2_ok {d : Nat} {xs ys : Array Value} {c c' : Ctx} {w : World} : ∀ (F : List Field) (zs cs ds : List (AV C.E)) (j : Nat) (b : Bool), eqF2 C.P j F zs = true → eqCells zs cs ds = some b →
    (∀ i (h : i < cs.length), ∃ v, xs[j + i]? = some v ∧ R C c w cs[i] v) → (∀ i (h : i < ds.length), ∃ v, ys[j + i]? = some v ∧ R C c' w ds[i] v) → (Op.eqFields (d + 1 + 1) xs ys F).run C.P w = .ok b w
  | [], [], cs, ds, j, b, _, he, _, _ => by
    cases cs <;> cases ds <;> simp only [eqCells] at he <;> try (cases he; done)
    cases he
    simp [Op.eqFields]
  | [], _ :: _, cs, ds, j, b, hb, _, _, _ => by cases hb
  | f :: F, zs, cs, ds, j, b, hb, he, hx, hy => by
    have hcl := kinds_len' he
    have hdl := kinds_len2 he
    have step : ∀ k, k ≤ zs.length → eqF2 C.P (j + k) F (zs.drop k) = true → (∀ b1, eqCells (zs.take k) (cs.take k) (ds.take k) = some b1 → (Op.eqFields (d + 1 + 1) xs ys [f]).run C.P w = .ok b1 w) → (Op.eqFields (d + 1 + 1) xs ys (f :: F)).run C.P w = .ok b w := fun k hk h2 h1 => by
      obtain ⟨b1, b2, e1, e2, e3⟩ := eqCells_take k he hk
      have hrest := eqFields2_ok (d := d) (xs := xs) (ys := ys) (c := c) (c' := c') (w := w) F (zs.drop k) (cs.drop k) (ds.drop k) (j + k) b2 h2 e2 (fun i h => by
        rw [List.length_drop] at h
        obtain ⟨v, g1, g2⟩ := hx (k + i) (by omega)
        exact ⟨v, by rw [Nat.add_assoc]; exact g1, by rw [List.getElem_drop]; exact g2⟩) (fun i h => by
        rw [List.length_drop] at h
        obtain ⟨v, g1, g2⟩ := hy (k + i) (by omega)
        exact ⟨v, by rw [Nat.add_assoc]; exact g1, by rw [List.getElem_drop]; exact g2⟩)
      rw [eqFields_cons (h1 b1 e1), hrest, e3]
      cases b1 <;> simp
    cases hns : structOf C.P f.type with
    | some Gk =>
      obtain ⟨G, k⟩ := Gk
      obtain ⟨hu, i, hi, rfl⟩ := structOf_some hns
      obtain ⟨hn, ho, h0, hk, hB, hs, h2⟩ := eqF2_nest hns hb
      refine step i.size hk h2 (fun b1 e1 => ?_)
      have hz : (zs.take i.size).length = i.size := by rw [List.length_take]; omega
      refine eqField_struct (c := c) (c' := c') hn hu hi hB hs e1 hz (by rw [ho]; exact cells_room hx (by omega) h0) (by rw [ho]; exact cells_room hy (by omega) h0) (fun k h => ?_) (fun k h => ?_)
      · rw [List.length_take] at h
        obtain ⟨v, g1, g2⟩ := hx k (by omega)
        exact ⟨v, by rw [ho]; exact g1, by rw [List.getElem_take]; exact g2⟩
      · rw [List.length_take] at h
        obtain ⟨v, g1, g2⟩ := hy k (by omega)
        exact ⟨v, by rw [ho]; exact g1, by rw [List.getElem_take]; exact g2⟩
    | none =>
      obtain ⟨z, zs', rfl, h1, h2⟩ := eqF2_flat hns hb
      refine step 1 (by simp) h2 (fun b1 e1 => ?_)
      refine eqFields_ok (d := d + 1) (c := c) (c' := c') [f] [z] (cs.take 1) (ds.take 1) j b1 h1 e1 (fun k h => ?_) (fun k h => ?_)
      · rw [List.length_take] at h
        obtain ⟨v, g1, g2⟩ := hx k (by omega)
        exact ⟨v, g1, by rw [List.getElem_take]; exact g2⟩
      · rw [List.length_take] at h
        obtain ⟨v, g1, g2⟩ := hy k (by omega)
        exact ⟨v, g1, by rw [List.getElem_take]; exact g2⟩

theorem checkKey_gen {t : TypeId} {F : Array Field} {w : World} {vs : Array Value} (hF : C.P.underlying t = some (.struct F)) (em : Bool) (n : Nat)
    (hf : ∀ f ∈ F.toList, f.name ≠ "_" ∧ ∃ v, (part f.type vs f.offset).run C.P w = .ok v w ∧ (Instr.checkKey em n f.type v).run C.P w = .ok () w) : (Instr.checkKey em (n + 1) t (.agg vs)).run C.P w = .ok () w := by
  rw [Instr.checkKey]
  simp only [Sem.run_bind, run_underlying hF, Result.andThen_ok]
  rw [← Array.forIn_toList]
  generalize F.toList = L at hf
  induction L with
  | nil => simp
  | cons f L ih =>
    obtain ⟨hn, v, hp, hc⟩ := hf f (List.mem_cons_self ..)
    simp only [List.forIn_cons, Sem.run_bind, hn, ne_eq, not_false_eq_true, if_true, Result.andThen_ok, hp, hc, Sem.run_pure]
    exact ih (fun g hg => hf g (List.mem_cons_of_mem _ hg))

theorem eqF2_get {w : World} {vs : Array Value} (em : Bool) (n : Nat) : ∀ (F : List Field) (zs : List (AV C.E)) (j : Nat), eqF2 C.P j F zs = true → j + zs.length ≤ vs.size → ∀ f ∈ F, f.name ≠ "_" ∧ ∃ v, (part f.type vs f.offset).run C.P w = .ok v w ∧ (Instr.checkKey em (n + 1 + 1) f.type v).run C.P w = .ok () w
  | [], _, _, _, _ => fun f hf => by cases hf
  | f :: F, zs, j, hb, hs => by
    cases hns : structOf C.P f.type with
    | some Gk =>
      obtain ⟨G, k⟩ := Gk
      obtain ⟨hu, i, hi, rfl⟩ := structOf_some hns
      obtain ⟨hn, ho, h0, hk, hB, hs2, h2⟩ := eqF2_nest hns hb
      intro g hg
      rcases List.mem_cons.1 hg with rfl | hg
      · refine ⟨hn, _, run_part_agg hu hi _ _, checkKey_fields hu em n fun q hq => ?_⟩
        obtain ⟨g1, g2⟩ := eqFB_get G.toList (zs.take i.size) 0 hB
        obtain ⟨k1, _, k3, k4⟩ := g2 q hq
        rw [List.length_take] at k3
        refine ⟨k1, ?_, k4⟩
        rw [Array.size_extract]
        omega
      · exact eqF2_get em n F (zs.drop i.size) (j + i.size) h2 (by rw [List.length_drop]; omega) g hg
    | none =>
      obtain ⟨z, zs', rfl, h1, h2⟩ := eqF2_flat hns hb
      intro g hg
      rcases List.mem_cons.1 hg with rfl | hg
      · obtain ⟨g1, g2⟩ := eqFB_get [g] [z] j h1
        obtain ⟨k1, k2, k3, d, hu, hd⟩ := g2 g (List.mem_singleton.2 rfl)
        simp only [List.length_cons, List.length_nil] at k3 hs
        have ho : g.offset < vs.size := by omega
        exact ⟨k1, _, run_part hu hd (Array.getElem?_eq_getElem ho), run_checkKey_num hu hd em (n + 1) _⟩
      · exact eqF2_get em n F zs' (j + 1) h2 (by simp only [List.length_cons] at hs; omega) g hg

theorem eqB_ok {t : TypeId} {ti : TI C.E} (h : eqB C.P t ti = true) : EqOK C t ti := by
  unfold eqB at h
  split at h
  · rename_i F hF
    simp only [Bool.and_eq_true, Bool.not_eq_true'] at h
    obtain ⟨h1, h2, h3⟩ := h
    intro w x y cs ds vs us b c c' he hl1 hl2 hr hr'
    refine ⟨run_eqGuard_agg w .eql t x y vs us h3, run_eqGuard_agg w .neq t x y vs us h3, ?_⟩
    have hfo : C.P.fieldsOf t = F := by unfold Program.fieldsOf; rw [hF]
    have : (Op.equal t (.agg vs) (.agg us)).run C.P w = (Op.equalIn 10000 t (.agg vs) (.agg us)).run C.P w := rfl
    rw [this, run_equalIn_struct w 9999 t vs us (by rw [hfo]; exact hF) h2, hfo]
    have cellsOf : ∀ {c : Ctx} {cs : List (AV C.E)} {vs : Array Value}, R C c w (.agg cs) (.agg vs) → ∀ i (h : i < cs.length), ∃ v, vs[0 + i]? = some v ∧ R C c w cs[i] v := by
      intro c cs vs hr i hi
      cases hr with
      | agg hl hrr =>
        have hi' : i < vs.size := by omega
        refine ⟨vs[i], by rw [Nat.zero_add]; exact Array.getElem?_eq_getElem hi', ?_⟩
        have := hrr i hi
        simpa [Array.getD, hi'] using this
    have hvs : cs.length = vs.size := by cases hr with | agg hl _ => exact hl
    have hzl : ti.zero.length = cs.length := (kinds_len' he).symm
    exact ⟨eqFields2_ok F.toList ti.zero cs ds 0 b h1 he (cellsOf hr) (cellsOf hr'), fun em => checkKey_gen hF em 9999 (eqF2_get em 9997 F.toList ti.zero 0 h1 (by omega))⟩
  · cases h

def eqTabB {E : Nat → Type} (P : Program) : Nat → List (Option (TI E)) → Bool
  | _, [] => true
  | t, none :: r => eqTabB P (t + 1) r
  | t, some ti :: r => (!ti.eqf || eqB P t ti) && eqTabB P (t + 1) r

theorem eqTabB_spec {E : Nat → Type} {P : Program} : ∀ (l : List (Option (TI E))) (k : Nat), eqTabB P k l = true → ∀ (j : Nat) (ti : TI E), l[j]? = some (some ti) → ti.eqf = true → eqB P (k + j) ti = true
  | [], k, _, j, ti, h, _ => by simp at h
  | none :: r, k, hb, j, ti, h, he => by
    cases j with
    | zero => simp at h
    | succ j =>
      have := eqTabB_spec r (k + 1) hb j ti (by simpa using h) he
      rw [show k + (j + 1) = k + 1 + j by omega]; exact this
  | some x :: r, k, hb, j, ti, h, he => by
    simp only [eqTabB, Bool.and_eq_true, Bool.or_eq_true, Bool.not_eq_true'] at hb
    cases j with
    | zero =>
      simp at h
      subst h
      rcases hb.1 with h1 | h1
      · rw [he] at h1; cases h1
      · exact h1
    | succ j =>
      have := eqTabB_spec r (k + 1) hb.2 j ti (by simpa using h) he
      rw [show k + (j + 1) = k + 1 + j by omega]; exact this

theorem eq_ok {L : List (Option (TI C.E))} (hT : ∀ t ti, C.T t = some ti → L[t]? = some (some ti)) (hB : eqTabB C.P 0 L = true) (t : Nat) (ti : TI C.E) (h : C.T t = some ti) (he : ti.eqf = true) : EqOK C t ti := by
  have := eqTabB_spec L 0 hB t ti (hT t ti h) he
  rw [Nat.zero_add] at this
  exact eqB_ok this

/-! ### Where a code is looked up by its key -/

def keyed (key : Nat) : Code → List Code
  | .seq a b => keyed key a ++ ((match Nat.beq (cutKey b) key with
    | true => [b]
    | false => []) ++ keyed key b)
  | .cond _ a b => keyed key a ++ keyed key b
  | .block id c => (match Nat.beq (3 * id) key with
    | true => [.block id c]
    | false => []) ++ keyed key c
  | _ => []

theorem lamAt_of {n : Nat} {Λ : Nat → Option (LF C)} : ∀ (code : Code), (∀ key L, Λ key = some L → ∀ x ∈ keyed key code, Snd C n x L.k) → LamAt C n Λ code
  | .seq a b, h => by
    refine ⟨lamAt_of a (fun k L hL x hx => h k L hL x (List.mem_append_left _ hx)), ?_⟩
    split
    · rename_i L hL
      exact h _ L hL b (by simp [keyed])
    · exact lamAt_of b (fun k L hL x hx => h k L hL x (List.mem_append_right _ (List.mem_append_right _ hx)))
  | .cond _ a b, h => ⟨lamAt_of a (fun k L hL x hx => h k L hL x (List.mem_append_left _ hx)), lamAt_of b (fun k L hL x hx => h k L hL x (List.mem_append_right _ hx))⟩
  | .block id c, h => by
    simp only [LamAt]
    split
    · rename_i L hL
      exact h _ L hL _ (by simp [keyed])
    · exact lamAt_of c (fun k L hL x hx => h k L hL x (List.mem_append_right _ hx))
  | .skip, _ | .region .., _ | .loop _, _ | .rangeFunc .., _ | .exit _, _ | .scope _, _ | .label _, _ | .goto _, _ | .ret, _ | .refuse _, _ => trivial

theorem lamAt_none {n : Nat} {Λ : Nat → Option (LF C)} (h : ∀ k, Λ k = none) (code : Code) : LamAt C n Λ code := lamAt_of code (fun k L hL => by rw [h k] at hL; cases hL)

def bodyOf (fn : Func) : Code := match fn.body with
  | some c => c
  | none => .skip

/-! ### A list of contracts -/

def look {α : Type 1} : List (Nat × α) → Nat → Option α
  | [], _ => none
  | (k, g) :: r, f => match Nat.beq k f with
    | true => some g
    | false => look r f

theorem look_mem {α : Type 1} : ∀ (l : List (Nat × α)) (f : Nat) (g : α), look l f = some g → (f, g) ∈ l
  | [], f, g, h => by cases h
  | (k, x) :: r, f, g, h => by
    simp only [look] at h
    split at h
    · rename_i hb
      cases h
      rw [Nat.eq_of_beq_eq_true hb]
      exact List.mem_cons_self ..
    · exact List.mem_cons_of_mem _ (look_mem r f g h)

theorem sys_look {L : List (Nat × CF C)} (hC : CfgOK C) (hE : ∀ t ti, C.T t = some ti → ti.eqf = true → EqOK C t ti) (h : ∀ p ∈ L, CFOK C p.1 p.2 ∧ CFNat p.2) : SysN C (look L) :=
  ⟨⟨hC, hE, fun f g hg => (h _ (look_mem L f g hg)).1⟩, fun f g hg => (h _ (look_mem L f g hg)).2⟩

theorem cond_h {α β : Type} {g : α → β} {b : Bool} {X Y : β} {x y : α} (h1 : X = g x) (h2 : Y = g y) : cond b X Y = g (cond b x y) := by cases b <;> assumption

end
end Go.AE
