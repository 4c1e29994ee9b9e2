/-
  AE, part 3: the operations that touch no memory, and the loads, are sound.
-/
import Derived.Test.YtadnppefidjhfaaGreatAeR
import Derived.OpenShut
import Derived.Lib.SliceRun
namespace Go.AE
open Go.RowKit

def TDOK : TD → TypeDesc → Prop
  | .int k, d => d = .int k
  | .bool, d => d = .bool
  | .str, d => d = .string
  | .ptr, d => ∃ e, d = .pointer e
  | .slice e, d => d = .slice e
  | .array n e, d => d = .array n e
  | .struct fs, d => ∃ F : Array Field, d = .struct F ∧ ∀ (j : Nat) (ft off : Nat), fs[j]? = some (ft, off) → ∃ f : Field, F[j]? = some f ∧ f.type = ft ∧ f.offset = off
  | .map k e, d => d = .map k e
  | .other, _ => True

/-- What a row of the types' table says of the program. -/
structure TyOK (C : Cfg) (t : TypeId) (ti : TI C.E) : Prop where
  one : ti.d.isAgg = false → ti.size = 1
  pos : 0 < ti.size
  bpos : 0 < ti.bytes
  fld : ∀ F, C.P.underlying t = some (.struct F) → ∀ f ∈ F.toList, (C.P.info? f.type).isSome = true
  no : ti.d = .other → False
  ex : ∃ (i : TypeInfo) (d : TypeDesc) (z : Value), C.P.info? t = some i ∧ C.P.underlying t = some d ∧ i.size = ti.size ∧ i.bytes = ti.bytes ∧ TDOK ti.d d ∧ i.zero = some z ∧
    ti.zero.length = z.cells.size ∧ z.cells.size = ti.size ∧ (∀ c w j (h : j < ti.zero.length), R C c w ti.zero[j] (z.cells.getD j undef)) ∧ z.cells.all Value.oneCell' = true ∧ (ti.d.isAgg = true → ∃ a, z = .agg a) ∧ (ti.d.isAgg = false → ∀ a, z ≠ .agg a)

structure CfgOK (C : Cfg) : Prop where
  T : ∀ t ti, C.T t = some ti → TyOK C t ti
  enc : ∀ e x, (C.enc e x).length = sizeT C e
  dec : ∀ e l x, C.dec e l = some x → C.enc e x = l
  free : ∀ e x, (C.enc e x).all AV.free = true
  elem : ∀ t ti e, C.T t = some ti → (ti.d = .slice e ∨ ∃ n, ti.d = .array n e) → ∃ te, C.T e = some te ∧ 0 < te.size
  mixed : C.P.follows .mixedOrders = true
  bytes : ∀ e xs l, C.bytes e xs = some l → l.length = xs.length ∧ ∀ i (h : i < xs.length) (h' : i < l.length), C.enc e xs[i] = [.int .u8 l[i]]
  tight : ∀ e x, (C.enc e x).all AV.tight = true

theorem run_typeInfo' {P : Program} {t : TypeId} {i : TypeInfo} (h : P.info? t = some i) (w : World) : (typeInfo t).run P w = .ok i w := by simp [typeInfo, h]
theorem run_sizeOf' {P : Program} {t : TypeId} {i : TypeInfo} (h : P.info? t = some i) (w : World) : (sizeOf t).run P w = .ok i.size w := by simp [sizeOf, run_typeInfo' h]
theorem run_zeroValue' {P : Program} {t : TypeId} {i : TypeInfo} {z : Value} (h : P.info? t = some i) (hz : i.zero = some z) (w : World) : (zeroValue t).run P w = .ok z w := by
  simp [zeroValue, run_typeInfo' h, hz]
theorem run_isAgg' {P : Program} {t : TypeId} {d : TypeDesc} {td : TD} (h : P.underlying t = some d) (ht : TDOK td d) (hn : td = .other → False) (w : World) : (isAgg t).run P w = .ok td.isAgg w := by
  cases td <;> simp only [TDOK] at ht
  case other => exact (hn rfl).elim
  all_goals first
    | (obtain ⟨e, rfl⟩ := ht; simp [isAgg, run_underlying h, TD.isAgg]; done)
    | (obtain ⟨F, rfl, _⟩ := ht; simp [isAgg, run_underlying h, TD.isAgg]; done)
    | (subst ht; simp [isAgg, run_underlying h, TD.isAgg])

theorem takeN_spec {α : Type} : ∀ (n : Nat) (l r : List α), takeN n l = some r → r.length = n ∧ n ≤ l.length ∧ ∀ j, j < n → r[j]? = l[j]?
  | 0, l, r, h => by simp only [takeN, Option.some.injEq] at h; subst h; exact ⟨rfl, Nat.zero_le _, fun j hj => absurd hj (Nat.not_lt_zero j)⟩
  | n + 1, [], r, h => by simp [takeN] at h
  | n + 1, x :: l, r, h => by
    simp only [takeN] at h
    cases ht : takeN n l with
    | none => rw [ht] at h; cases h
    | some q =>
      rw [ht] at h
      simp only [Option.some.injEq] at h
      subst h
      obtain ⟨h1, h2, h3⟩ := takeN_spec n l q ht
      refine ⟨by simp [h1], by simp; omega, fun j hj => ?_⟩
      cases j with
      | zero => rfl
      | succ j => simpa using h3 j (by omega)

section
variable {C : Cfg} {c : Ctx} {w : World}

/-- A value made of cells that stand for cells. -/
theorem R_mk {t : TypeId} {ti : TI C.E} (hT : TyOK C t ti) {cs : List (AV C.E)} {f : Nat → Value} (hlen : cs.length = ti.size) (hr : ∀ j (h : j < cs.length), R C c w cs[j] (f j))
    {a : Addr} (hc : ∀ j, j < cs.length → w.cell? (a.add j) = some (f j)) :
    ∃ v, (loadVar t a).run C.P w = .ok v w ∧ R C c w (mkV ti.d cs) v := by
  obtain ⟨i, d, z, hi, hu, hs, _, htd, _⟩ := hT.ex
  have hag := run_isAgg' hu htd hT.no w
  cases hd : ti.d.isAgg with
  | true =>
    refine ⟨.agg ((List.range ti.size).map f).toArray, ?_, ?_⟩
    · simp only [loadVar, Sem.run_bind, hag, Result.andThen_ok, hd, if_true, run_sizeOf' hi, hs]
      rw [run_loadCells w a ti.size f (fun j hj => hc j (by omega))]
      rfl
    · unfold mkV; rw [hd]
      refine .agg (by simp [hlen]) fun j h => ?_
      have : ((List.range ti.size).map f).toArray.getD j undef = f j := by
        simp [Array.getD, show j < ti.size by omega]
      rw [this]; exact hr j h
  | false =>
    unfold mkV; rw [hd]
    have h1 : cs.length = 1 := hlen.trans (hT.one hd)
    match cs, h1 with
    | [x], _ =>
      refine ⟨f 0, ?_, hr 0 (by simp)⟩
      have h0 := hc 0 (by simp)
      simp only [Addr.add_zero'] at h0
      simp [loadVar, hag, hd, h0]

/-! ### Numbers -/

theorem tmod_le {a : Int} (b : Int) (h : 0 ≤ a) : 0 ≤ a.tmod b ∧ a.tmod b ≤ a := by
  obtain ⟨n, rfl⟩ := Int.eq_ofNat_of_zero_le h
  have e : (n : Int).tmod b = ((n % b.natAbs : Nat) : Int) := by cases b <;> rfl
  have := Nat.mod_le n b.natAbs
  rw [e]; omega

theorem wf_tmod {k : IntKind} {a b : Int} (ha : (Lit.int k a).wf = true) : (Lit.int k (a.tmod b)).wf = true := by
  simp only [Lit.wf, Bool.and_eq_true, decide_eq_true_eq] at *
  have h0 : k.min ≤ 0 ∧ 0 ≤ k.max := by cases k <;> decide
  rcases Int.le_total 0 a with h | h
  · have := tmod_le b h; omega
  · have e : a.tmod b = -((-a).tmod b) := by rw [Int.neg_tmod]; omega
    have := tmod_le b (show 0 ≤ -a by omega)
    omega

theorem intOp_ok {Z : Type} {op : BinOp} {k : IntKind} {a b : Int} {K : Eff C.E → Option Z} {z : Z} (h : intOp op k a b K = some z) (ha : (Lit.int k a).wf = true)
    (t : TypeId) : ∃ v x, (binOp op t (.int k a) (.int k b)).run C.P w = .ok v w ∧ K ⟨x, [], []⟩ = some z ∧ R C c w x v := by
  cases op <;> simp only [intOp, val] at h <;> first
    | (cases h; done)
    | exact ⟨_, _, by simp [binOp_add, Op.intArith], h, .int (wf_wrap _ _)⟩
    | exact ⟨_, _, by simp [binOp_sub, Op.intArith], h, .int (wf_wrap _ _)⟩
    | exact ⟨_, _, by simp [binOp_mul, Op.intArith], h, .int (wf_wrap _ _)⟩
    | exact ⟨_, _, by simp [binOp_and, intBits_and], h, .int (wf_bits _ _ _ _)⟩
    | exact ⟨_, _, by simp [binOp_or, intBits_or], h, .int (wf_bits _ _ _ _)⟩
    | exact ⟨_, _, by simp [binOp_xor, intBits_xor], h, .int (wf_bits _ _ _ _)⟩
    | exact ⟨_, _, by simp [binOp_andNot, intBits_andNot], h, .int (wf_bits _ _ _ _)⟩
    | exact ⟨_, _, by rw [binOp_eql]; rfl, h, .bool _⟩
    | exact ⟨_, _, by rw [binOp_neq]; rfl, h, .bool _⟩
    | exact ⟨_, _, by rw [binOp_lss]; rfl, h, .bool _⟩
    | exact ⟨_, _, by rw [binOp_leq]; rfl, h, .bool _⟩
    | exact ⟨_, _, by rw [binOp_gtr]; rfl, h, .bool _⟩
    | exact ⟨_, _, by rw [binOp_geq]; rfl, h, .bool _⟩
    | skip
  · cases hb0 : (b == 0) with
    | true => rw [hb0] at h; cases h
    | false =>
      rw [hb0] at h
      have hne : b ≠ 0 := by simpa using hb0
      exact ⟨_, _, by simp [binOp_quo, Op.intDiv, hne], h, .int (wf_wrap _ _)⟩
  · cases hb0 : (b == 0) with
    | true => rw [hb0] at h; cases h
    | false =>
      rw [hb0] at h
      have hne : b ≠ 0 := by simpa using hb0
      exact ⟨_, _, by simp [binOp_rem, Op.intDiv, hne], h, .int (wf_tmod ha)⟩

theorem wf_fdiv {k : IntKind} {a : Int} (n : Nat) (ha : (Lit.int k a).wf = true) : (Lit.int k (a.fdiv (2 ^ n))).wf = true := by
  simp only [Lit.wf, Bool.and_eq_true, decide_eq_true_eq] at *
  have h0 : k.min ≤ 0 ∧ 0 ≤ k.max := by cases k <;> decide
  have hp : (1 : Int) ≤ 2 ^ n := by
    have : 0 < 2 ^ n := Nat.two_pow_pos n
    exact_mod_cast this
  rw [Int.fdiv_eq_ediv_of_nonneg _ (by omega)]
  rcases Int.le_total 0 a with h | h
  · have h1 := Int.ediv_nonneg h (show (0 : Int) ≤ 2 ^ n by omega)
    have h2 := Int.ediv_le_self (2 ^ n : Int) h
    omega
  · have h1 : a / 2 ^ n ≤ 0 := by
      have := Int.ediv_le_ediv (show (0 : Int) < 2 ^ n by omega) h
      simpa using this
    have h2 : a ≤ a / 2 ^ n := by
      apply Int.le_ediv_of_mul_le (by omega)
      have := Int.mul_le_mul_of_nonpos_left h hp
      omega
    omega

/-- What the equality of two aggregates asks of the program. -/
def EqOK (C : Cfg) (t : TypeId) (ti : TI C.E) : Prop :=
  ∀ (w : World) (x y : Operand) (cs ds : List (AV C.E)) (vs us : Array Value) (b : Bool) (c c' : Ctx), eqCells ti.zero cs ds = some b → cs.length = ti.size → ds.length = ti.size →
    R C c w (.agg cs) (.agg vs) → R C c' w (.agg ds) (.agg us) → (eqGuard .eql t x y (.agg vs) (.agg us)).run C.P w = .ok () w ∧ (eqGuard .neq t x y (.agg vs) (.agg us)).run C.P w = .ok () w ∧
      (Op.equal t (.agg vs) (.agg us)).run C.P w = .ok b w ∧ ∀ em, (Instr.checkKey em 10000 t (.agg vs)).run C.P w = .ok () w

theorem str_eq {l r : List Int} {s u : ByteArray} (hs : (s.data.toList.map fun b => (b.toNat : Int)) = l) (hu : (u.data.toList.map fun b => (b.toNat : Int)) = r) : (s.toList == u.toList) = decide (l = r) := by
  rw [Bool.eq_iff_iff]
  simp only [beq_iff_eq, decide_eq_true_eq]
  rw [ByteArray.toList_eq, ByteArray.toList_eq]
  constructor
  · intro h; rw [← hs, ← hu, h]
  · intro h
    rw [← hs, ← hu] at h
    exact (List.map_inj_right (by intro x y hxy; exact UInt8.toNat_inj.1 (by exact_mod_cast hxy))).1 h

theorem run_guard_then {P : Program} {g : Sem Unit} {s : Sem Value} {w : World} {v : Value} (hg : g.run P w = .ok () w) (hs : s.run P w = .ok v w) :
    (do g; s : Sem Value).run P w = .ok v w := by simp [hg, hs]

theorem binK_ok {Z : Type} {op : BinOp} {t : TypeId} {ti : TI C.E} (hT : TyOK C t ti) (hE : ti.eqf = true → EqOK C t ti) {x y : AV C.E} {vx vy : Value} {K : Eff C.E → Option Z} {z : Z}
    (h : binK ti op x y K = some z) (hx : R C c w x vx) (hy : R C c w y vy) (ox oy : Operand) :
    ∃ v r, (do eqGuard op t ox oy vx vy; binOp op t vx vy : Sem Value).run C.P w = .ok v w ∧ K ⟨r, [], []⟩ = some z ∧ R C c w r v := by
  obtain ⟨i, d, zz, hi, hu, hs, _, htd, _⟩ := hT.ex
  unfold binK at h
  split at h
  · -- shl
    cases hx; cases hy
    rename_i k a k' b ha hb
    cases hneg : decide (b < 0) with
    | true => rw [hneg] at h; cases h
    | false =>
      rw [hneg] at h
      have hn : ¬ b < 0 := by simpa using hneg
      exact ⟨_, _, run_guard_then (by simp [eqGuard_at_int]) (by simp [binOp_shl, Op.shift, hn]), h, .int (wf_wrap _ _)⟩
  · -- shr
    cases hx; cases hy
    rename_i k a k' b ha hb
    cases hneg : decide (b < 0) with
    | true => rw [hneg] at h; cases h
    | false =>
      rw [hneg] at h
      have hn : ¬ b < 0 := by simpa using hneg
      exact ⟨_, _, run_guard_then (by simp [eqGuard_at_int]) (by simp [binOp_shr, Op.shift, hn]), h, .int (wf_fdiv _ ha)⟩
  · -- two integers
    cases hx; cases hy
    rename_i k a k' b _ _ ha hb
    cases hk : decide (k = k') with
    | false => rw [hk] at h; cases h
    | true =>
      rw [hk] at h
      obtain rfl : k = k' := by simpa using hk
      obtain ⟨v, r, h1, h2, h3⟩ := intOp_ok (w := w) (c := c) h ha t
      exact ⟨v, r, run_guard_then (by simp [eqGuard_at_int]) h1, h2, h3⟩
  · -- == on bools
    cases hx; cases hy
    split at h
    · rename_i hd
      rw [hd] at htd
      exact ⟨_, _, run_guard_then (by simp [eqGuard_at_bool]) (run_eql_bool w t _ _ (hu.trans (congrArg some htd))), h, .bool _⟩
    · cases h
  · cases hx; cases hy
    split at h
    · rename_i hd
      rw [hd] at htd
      exact ⟨_, _, run_guard_then (by simp [eqGuard_at_bool]) (run_neq_bool w t _ _ (hu.trans (congrArg some htd))), h, .bool _⟩
    · cases h
  · -- == on strings
    cases hx with
    | str h1 m1 =>
      cases hy with
      | str h2 m2 =>
        exact ⟨_, _, run_guard_then (by simp [eqGuard_at_string]) (by simp only [binOp, Op.stringOp]; rw [str_eq h1 h2]; rfl), h, .bool _⟩
  · cases hx with
    | str h1 m1 =>
      cases hy with
      | str h2 m2 =>
        exact ⟨_, _, run_guard_then (by simp [eqGuard_at_string]) (by simp only [binOp, Op.stringOp]; rw [str_eq h1 h2]; rfl), h, .bool _⟩
  · cases hx; cases hy
    split at h
    · rename_i hd
      rw [hd] at htd
      obtain ⟨e, rfl⟩ := htd
      have hp : C.P.underlying t = some (.pointer (C.P.pointee t)) := by rw [hu]; simp [Program.pointee, hu]
      exact ⟨_, _, run_guard_then (by simp [eqGuard_at_pointer]) (run_eql_pointer_nil w t none hp), h, .bool _⟩
    · cases h
  · cases hx; cases hy
    split at h
    · rename_i hd
      rw [hd] at htd
      obtain ⟨e, rfl⟩ := htd
      have hp : C.P.underlying t = some (.pointer (C.P.pointee t)) := by rw [hu]; simp [Program.pointee, hu]
      exact ⟨_, _, run_guard_then (by simp [eqGuard_at_pointer]) (run_neq_pointer_nil w t none hp), h, .bool _⟩
    · cases h
  · cases hx; cases hy
    split at h
    · rename_i hd
      rw [hd] at htd
      obtain ⟨e, rfl⟩ := htd
      have hp : C.P.underlying t = some (.pointer (C.P.pointee t)) := by rw [hu]; simp [Program.pointee, hu]
      exact ⟨_, _, run_guard_then (by simp [eqGuard_at_pointer]) (run_eql_pointer_nil w t (some _) hp), h, .bool _⟩
    · cases h
  · cases hx; cases hy
    split at h
    · rename_i hd
      rw [hd] at htd
      obtain ⟨e, rfl⟩ := htd
      have hp : C.P.underlying t = some (.pointer (C.P.pointee t)) := by rw [hu]; simp [Program.pointee, hu]
      exact ⟨_, _, run_guard_then (by simp [eqGuard_at_pointer]) (run_neq_pointer_nil w t (some _) hp), h, .bool _⟩
    · cases h
  · cases hx; cases hy
    split at h
    · rename_i hd
      rw [hd] at htd
      obtain ⟨e, rfl⟩ := htd
      have hp : C.P.underlying t = some (.pointer (C.P.pointee t)) := by rw [hu]; simp [Program.pointee, hu]
      exact ⟨_, _, run_guard_then (by simp [eqGuard_at_pointer]) (run_eql_pointer_nil w t (some _) hp), h, .bool _⟩
    · cases h
  · cases hx; cases hy
    split at h
    · rename_i hd
      rw [hd] at htd
      obtain ⟨e, rfl⟩ := htd
      have hp : C.P.underlying t = some (.pointer (C.P.pointee t)) := by rw [hu]; simp [Program.pointee, hu]
      exact ⟨_, _, run_guard_then (by simp [eqGuard_at_pointer]) (run_neq_pointer_nil w t (some _) hp), h, .bool _⟩
    · cases h
  · -- a slice beside nil
    cases hx; cases hy
    split at h
    · rename_i hd
      rw [hd] at htd
      exact ⟨_, _, run_guard_then (by simp [eqGuard_at_slice]) (Lib.run_eql_slice_nil w t _ none 0 0 0 0 (hu.trans (congrArg some htd))), h, .bool _⟩
    · cases h
  · cases hx; cases hy
    split at h
    · rename_i hd
      rw [hd] at htd
      exact ⟨_, _, run_guard_then (by simp [eqGuard_at_slice]) (Lib.run_eql_slice_nil w t _ (some _) _ _ 0 0 (hu.trans (congrArg some htd))), h, .bool _⟩
    · cases h
  · -- == on aggregates
    split at h
    · rename_i hf ha hb hq
      cases hx with
      | agg l1 r1 =>
        cases hy with
        | agg l2 r2 =>
          have := hE hf w ox oy _ _ _ _ _ c c hq (Nat.eq_of_beq_eq_true ha) (Nat.eq_of_beq_eq_true hb) (.agg l1 r1) (.agg l2 r2)
          exact ⟨_, _, run_guard_then this.1 (by simp only [binOp]; simp [this.2.2.1]), h, .bool _⟩
    · cases h
  · split at h
    · rename_i hf ha hb hq
      cases hx with
      | agg l1 r1 =>
        cases hy with
        | agg l2 r2 =>
          have := hE hf w ox oy _ _ _ _ _ c c hq (Nat.eq_of_beq_eq_true ha) (Nat.eq_of_beq_eq_true hb) (.agg l1 r1) (.agg l2 r2)
          exact ⟨_, _, run_guard_then this.2.1 (by simp only [binOp]; simp [this.2.2.1]), h, .bool _⟩
    · cases h
  · cases h

theorem wf_not {k : IntKind} : (Lit.int k (cond k.signed (-1) k.max)).wf = true := by cases k <;> decide

theorem unK_ok {Z : Type} {op : UnOp} {x : AV C.E} {vx : Value} {K : Eff C.E → Option Z} {z : Z} (h : unK op x K = some z) (hx : R C c w x vx) :
    ∃ v r, (Op.unary op vx).run C.P w = .ok v w ∧ K ⟨r, [], []⟩ = some z ∧ R C c w r v := by
  unfold unK at h
  split at h
  · cases hx; exact ⟨_, _, by simp [Op.unary, Op.intArith], h, .int (wf_wrap _ _)⟩
  · cases hx
    rename_i k n _
    exact ⟨_, _, by cases hk : k.signed <;> simp [Op.unary, hk, intBits_xor], h, .int (wf_bits _ _ _ _)⟩
  · cases hx; exact ⟨_, _, by simp [Op.unary], h, .bool _⟩
  · cases h

theorem convK_ok (hC : CfgOK C) {Z : Type} {s d : TypeId} {x : AV C.E} {vx : Value} {K : Eff C.E → Option Z} {z : Z} (h : convK C s d x K = some z) (hx : R C c w x vx) :
    ∃ v r, (convert s d vx).run C.P w = .ok v w ∧ K ⟨r, [], []⟩ = some z ∧ R C c w r v := by
  unfold convK at h
  split at h
  · rename_i k1 f1 z1 b1 o1 k2 f2 z2 b2 o2 k n hs hd
    cases hx
    obtain ⟨_, d1, _, _, hu1, _, _, ht1, _⟩ := (hC.T _ _ hs).ex
    obtain ⟨_, d2, _, _, hu2, _, _, ht2, _⟩ := (hC.T _ _ hd).ex
    simp only [TDOK] at ht1 ht2
    subst ht1 ht2
    exact ⟨_, _, by simp [convert, run_underlying hu1, run_underlying hu2, Conv.intToInt], h, .int (wf_wrap _ _)⟩
  · cases h

theorem lookH_some {h : Heap C.E} {id : Nat} {o : Ob C.E} (hl : lookH h id = some o) : h[id]? = some (some o) := by
  unfold lookH at hl
  split at hl
  · rename_i o' ho; rw [ho]; simpa using hl
  · cases hl

theorem drop_get {α : Type} {l : List α} {n j : Nat} (h : j < (l.drop n).length) : (l.drop n)[j] = l[n + j]'(by rw [List.length_drop] at h; omega) := by simp

theorem add_none (b off j : Nat) : (⟨b, off, none⟩ : Addr).add j = ⟨b, off + j, none⟩ := by
  unfold Addr.add; split
  · simp [*]
  · rfl

/-- Loading cells that lie in memory one behind the other. -/
theorem load_cells {t : TypeId} {ti : TI C.E} (hT : TyOK C t ti) {cells cs : List (AV C.E)} {fo b off : Nat} (f : Nat → Value) (hc : ∀ j, j < cells.length → w.cell? ⟨b, off + j, none⟩ = some (f j))
    (hr : ∀ j (h : j < cells.length), R C c w cells[j] (f j)) (ht : takeN ti.size (cells.drop fo) = some cs) :
    ∃ v, (Instr.loadAt t (.pointer (some ⟨b, off + fo, none⟩))).run C.P w = .ok v w ∧ R C c w (mkV ti.d cs) v := by
  obtain ⟨hlen, hle, hget⟩ := takeN_spec _ _ _ ht
  have hdl : (cells.drop fo).length = cells.length - fo := List.length_drop
  have hcs : ∀ j (h : j < cs.length), fo + j < cells.length := fun j h => by omega
  have he : ∀ j (h : j < cs.length), cs[j] = cells[fo + j]'(hcs j h) := fun j h => by
    have := hget j (by omega)
    rw [List.getElem?_drop] at this
    rw [List.getElem?_eq_getElem h, List.getElem?_eq_getElem (hcs j h)] at this
    simpa using this
  obtain ⟨v, h1, h2⟩ := R_mk (c := c) (w := w) hT (cs := cs) (f := fun j => f (fo + j)) hlen (fun j h => by rw [he j h]; exact hr _ _)
    (a := ⟨b, off + fo, none⟩) (fun j h => by rw [add_none, Nat.add_assoc]; exact hc _ (hcs j h))
  exact ⟨v, by simpa [Instr.loadAt, Instr.sureAddr] using h1, h2⟩

theorem rowK_some {Z : Type} {e : TypeId} {xs : List (C.E e)} {i : Nat} {K : List (AV C.E) → Option Z} {z : Z} (h : rowK C e xs i K = some z) : ∃ hi : i < xs.length, K (C.enc e xs[i]) = some z := by
  unfold rowK at h
  rcases Nat.lt_or_ge i xs.length with h1 | h1
  · rw [List.getElem?_eq_getElem h1] at h; exact ⟨h1, h⟩
  · rw [List.getElem?_eq_none h1] at h; cases h

theorem loadK_ok (hC : CfgOK C) {Z : Type} {h : Heap C.E} {t : TypeId} {p : AV C.E} {vp : Value} {K : Eff C.E → Option Z} {z : Z} (hk : loadK C (lookH h) t p K = some z) (hh : HR C c w h) (hp : R C c w p vp) :
    ∃ v e, (Instr.loadAt t vp).run C.P w = .ok v w ∧ K e = some z ∧ R C c w e.v v ∧ e.wr = [] := by
  unfold loadK at hk
  split at hk
  · rename_i ti cells ht
    split at hk
    · rename_i cs hcs
      cases hp with
      | ro f hI hc hr =>
        obtain ⟨v, h1, h2⟩ := load_cells (hC.T _ _ ht) (fo := 0) f hc hr (by simpa using hcs)
        exact ⟨v, _, h1, hk, h2, rfl⟩
    · cases hk
  · rename_i ti id row fo ht
    split at hk
    · rename_i cells hl
      split at hk
      · rename_i cs hcs
        cases hp with
        | ptr hs hn =>
          cases hh.ob _ _ (lookH_some hl) with
          | box hs' f hc hr =>
            rw [hs'] at hs
            cases hs
            obtain ⟨v, h1, h2⟩ := load_cells (hC.T _ _ ht) (fo := fo) (off := 0) f (fun j hj => by rw [Nat.zero_add]; exact hc j hj) hr hcs
            simp only [Nat.zero_add] at h1
            exact ⟨v, _, by simpa using h1, hk, h2, rfl⟩
      · cases hk
    · rename_i e xs hl
      obtain ⟨hi, hk⟩ := rowK_some hk
      split at hk
      · rename_i cs hcs
        cases hp with
        | ptr hs hn =>
          cases hh.ob _ _ (lookH_some hl) with
          | nowhere hs' => exact absurd hi (Nat.not_lt_zero _)
          | arr hs' f hc hr =>
            rw [hs'] at hs
            cases hs
            obtain ⟨v, h1, h2⟩ := load_cells (c := c) (w := w) (hC.T _ _ ht) (fo := fo) (cells := C.enc e xs[row]) (off := _ + row * sizeT C e) (f row)
              (fun j hj => hc row j hi (by rw [← hC.enc e xs[row]]; exact hj)) (fun j hj => hr row hi j hj) hcs
            exact ⟨v, _, h1, hk, h2, rfl⟩
      · cases hk
    · cases hk
    · cases hk
    · cases hk
  · cases hk

/-- An effect that touches no memory. -/
def Quiet {E : Nat → Type} (e : Eff E) : Prop := e.wr = []

theorem R_drop {cells : List (AV C.E)} {b off : Nat} (n : Nat) (hn : n ≤ cells.length) (h : R C c w (.ro cells) (.pointer (some ⟨b, off, none⟩))) : R C c w (.ro (cells.drop n)) (.pointer (some ⟨b, off + n, none⟩)) := by
  cases h with
  | ro f hI hc hr =>
    refine .ro (fun j => f (n + j)) hI (fun j hj => ?_) (fun j hj => ?_)
    · rw [List.length_drop] at hj
      rw [Nat.add_assoc]; exact hc (n + j) (by omega)
    · rw [drop_get]; exact hr _ _

theorem run_fieldAt' {s : TypeId} {fl : Nat} {F : Array Field} {f : Field} {i : TypeInfo} {off k : Nat} (hu : C.P.underlying s = some (.struct F)) (hf : F[fl]? = some f) (ho : f.offset = off)
    (hi : C.P.info? f.type = some i) (hs : i.size = k + 1) (b o : Nat) : (Instr.fieldAt s (.pointer (some ⟨b, o, none⟩)) fl).run C.P w = .ok (.pointer (some ⟨b, o + off, none⟩)) w := by
  have h1 : (fieldPlace ⟨b, o, none⟩ f).run C.P w = .ok ⟨b, o + off, none⟩ w := by
    simp [fieldPlace, run_sizeOf' hi, hs, ho, add_none]
  simp [Instr.fieldAt, run_underlying hu, hf, Instr.sureAddr, h1]

theorem sizeT_info (hC : CfgOK C) {t k : Nat} (h : sizeT C t = k + 1) : ∃ i, C.P.info? t = some i ∧ i.size = k + 1 := by
  unfold sizeT at h
  split at h
  · rename_i tf htf
    obtain ⟨i2, _, _, hi2, _, hs3, _⟩ := (hC.T _ _ htf).ex
    exact ⟨i2, hi2, hs3.trans h⟩
  · cases h

theorem fieldAddr_ok (hC : CfgOK C) {Z : Type} {s : TypeId} {fl : Nat} {vp : Value} {K : Eff C.E → Option Z} {z : Z} {Γ : FuncId → Option (CF C)} {ρ : Operand → AV C.E} {lk : Nat → Option (Ob C.E)} {nid : Nat} {x : Operand}
    (hk : opK C Γ (.fieldAddr s x fl) ρ lk nid K = some z) (hp : R C c w (ρ x) vp) :
    ∃ v r, (Instr.fieldAt s vp fl).run C.P w = .ok v w ∧ K ⟨r, [], []⟩ = some z ∧ R C c w r v := by
  simp only [opK] at hk
  split at hk
  · rename_i fs eq sz by_ zr id row fo hT hx
    rw [hx] at hp
    split at hk
    · rename_i ft off hf
      split at hk
      · cases hk
      · rename_i k hsz
        obtain ⟨i, d, zz, hi, hu, hs, _, htd, _⟩ := (hC.T _ _ hT).ex
        obtain ⟨F, rfl, hF⟩ := htd
        obtain ⟨f, hf1, hf2, hf3⟩ := hF _ _ _ hf
        obtain ⟨i2, hi2, hs2⟩ := sizeT_info hC hsz
        cases hp with
        | ptr hs3 hn => exact ⟨_, _, run_fieldAt' hu hf1 hf3 (hf2 ▸ hi2) hs2 _ _, hk, by rw [Nat.add_assoc]; exact .ptr hs3 hn⟩
    · cases hk
  · rename_i fs eq sz by_ zr cells hT hx
    rw [hx] at hp
    split at hk
    · rename_i ft off hf
      split at hk
      · cases hk
      · rename_i k hsz
        obtain ⟨i, d, zz, hi, hu, hs, _, htd, _⟩ := (hC.T _ _ hT).ex
        obtain ⟨F, rfl, hF⟩ := htd
        obtain ⟨f, hf1, hf2, hf3⟩ := hF _ _ _ hf
        obtain ⟨i2, hi2, hs2⟩ := sizeT_info hC hsz
        cases hp with
        | ro g hI hc hr =>
          exact ⟨_, _, run_fieldAt' hu hf1 hf3 (hf2 ▸ hi2) hs2 _ _, hk, .ro (fun j => g (off + j)) hI (fun j hj => by
            rw [List.length_drop] at hj; rw [Nat.add_assoc]; exact hc _ (by omega)) (fun j hj => by rw [drop_get]; exact hr _ _)⟩
    · cases hk
  · cases hk

/-- A part of an aggregate. -/
theorem part_ok {t : TypeId} {ti : TI C.E} (hT : TyOK C t ti) {cs r : List (AV C.E)} {vs : Array Value} {off : Nat} (hl : cs.length = vs.size) (hr : ∀ j (h : j < cs.length), R C c w cs[j] (vs.getD j undef))
    (ht : takeN ti.size (cs.drop off) = some r) : ∃ v, (part t vs off).run C.P w = .ok v w ∧ R C c w (mkV ti.d r) v := by
  obtain ⟨i, d, z, hi, hu, hs, _, htd, _⟩ := hT.ex
  obtain ⟨hlen, hle, hget⟩ := takeN_spec _ _ _ ht
  have hdl : (cs.drop off).length = cs.length - off := List.length_drop
  have hcs : ∀ j (h : j < r.length), off + j < cs.length := fun j h => by omega
  have he : ∀ j (h : j < r.length), r[j] = cs[off + j]'(hcs j h) := fun j h => by
    have := hget j (by omega)
    rw [List.getElem?_drop, List.getElem?_eq_getElem h, List.getElem?_eq_getElem (hcs j h)] at this
    simpa using this
  have hag := run_isAgg' hu htd hT.no w
  cases hd : ti.d.isAgg with
  | true =>
    refine ⟨.agg (vs.extract off (off + ti.size)), by simp [part, hag, hd, run_sizeOf' hi, hs], ?_⟩
    unfold mkV; rw [hd]
    by_cases hz : ti.size = 0
    · have hr0 : r = [] := List.eq_nil_of_length_eq_zero (by omega)
      subst hr0
      exact .agg (by simp; omega) (fun j h => absurd h (Nat.not_lt_zero j))
    · have hsz : off + ti.size ≤ vs.size := by omega
      refine .agg (by simp; omega) fun j h => ?_
      have : (vs.extract off (off + ti.size)).getD j undef = vs.getD (off + j) undef := by
        rw [Array.getD_eq_getD_getElem?, Array.getD_eq_getD_getElem?, Array.getElem?_extract, if_pos (by omega)]
      rw [this, he j h]; exact hr _ _
  | false =>
    have h1 : r.length = 1 := hlen.trans (hT.one hd)
    unfold mkV; rw [hd]
    match r, h1, hcs, he with
    | [x], _, hcs, he =>
      have h0 := hcs 0 (by simp)
      simp only [Nat.add_zero] at h0
      refine ⟨vs[off]'(by omega), ?_, ?_⟩
      · simp [part, hag, hd, show vs[off]? = some (vs[off]'(by omega)) from Array.getElem?_eq_getElem (by omega)]
      · have hx := he 0 (by simp)
        simp only [List.getElem_cons_zero, Nat.add_zero] at hx
        have := hr off h0
        rw [show vs.getD off undef = vs[off]'(by omega) by simp [Array.getD, show off < vs.size by omega]] at this
        show R C c w x _
        rw [hx]; exact this

theorem field_ok (hC : CfgOK C) {Z : Type} {s : TypeId} {fl : Nat} {vp : Value} {K : Eff C.E → Option Z} {z : Z} {Γ : FuncId → Option (CF C)} {ρ : Operand → AV C.E} {lk : Nat → Option (Ob C.E)} {nid : Nat} {x : Operand}
    (hk : opK C Γ (.field s x fl) ρ lk nid K = some z) (hp : R C c w (ρ x) vp) :
    ∃ v r, (Instr.field s vp fl).run C.P w = .ok v w ∧ K ⟨r, [], []⟩ = some z ∧ R C c w r v := by
  simp only [opK] at hk
  split at hk
  · rename_i fs eq sz by_ zr cs hT hx
    rw [hx] at hp
    split at hk
    · rename_i ft off hf
      split at hk
      · rename_i ti hti
        split at hk
        · rename_i r hr
          obtain ⟨i, d, zz, hi, hu, hs, _, htd, _⟩ := (hC.T _ _ hT).ex
          obtain ⟨F, rfl, hF⟩ := htd
          obtain ⟨f, hf1, hf2, hf3⟩ := hF _ _ _ hf
          cases hp with
          | agg hl hr' =>
            obtain ⟨v, h1, h2⟩ := part_ok (hC.T _ _ hti) hl hr' hr
            exact ⟨v, _, by simp [Instr.field, run_underlying hu, hf1, asAgg, hf2, hf3, h1], hk, h2⟩
        · cases hk
      · cases hk
    · cases hk
  · cases hk

theorem size_info (hC : CfgOK C) {t : Nat} {ti : TI C.E} (h : C.T t = some ti) : ∃ i, C.P.info? t = some i ∧ i.size = ti.size := by
  obtain ⟨i, _, _, hi, _, hs, _⟩ := (hC.T _ _ h).ex
  exact ⟨i, hi, hs⟩

theorem and_split {a b : Bool} (h : (a && b) = true) : a = true ∧ b = true := by cases a <;> cases b <;> simp_all

theorem idxO_some {α : Type} {l : List α} {i : Int} {x : α} (h : idxO l i = some x) : 0 ≤ i ∧ ∃ h1 : i.toNat < l.length, l[i.toNat] = x := by
  unfold idxO at h
  split at h
  · rename_i h0
    obtain ⟨h1, h2⟩ := List.getElem?_eq_some_iff.1 h
    exact ⟨by simpa using h0, h1, h2⟩
  · cases h

theorem cond_some {Z : Type} {b : Bool} {x : Option Z} {z : Z} (h : cond b x none = some z) : b = true ∧ x = some z := by
  cases b with
  | true => exact ⟨rfl, h⟩
  | false => cases h

theorem elem_info (hC : CfgOK C) {t e : Nat} {ti : TI C.E} (h : C.T t = some ti) (he : ti.d = .slice e ∨ ∃ n, ti.d = .array n e) : ∃ i, C.P.info? e = some i ∧ i.size = sizeT C e ∧ 0 < sizeT C e := by
  obtain ⟨te, h1, h2⟩ := hC.elem _ _ _ h he
  obtain ⟨i, h3, h4⟩ := size_info hC h1
  have : sizeT C e = te.size := by unfold sizeT; rw [h1]
  exact ⟨i, h3, by omega, by omega⟩

theorem under_slice (hC : CfgOK C) {t e : Nat} {ti : TI C.E} (h : C.T t = some ti) (hd : ti.d = .slice e) : C.P.underlying t = some (.slice e) := by
  obtain ⟨_, d, _, _, hu, _, _, htd, _⟩ := (hC.T _ _ h).ex
  rw [hd] at htd
  exact hu.trans (congrArg some htd)
theorem under_array (hC : CfgOK C) {t n e : Nat} {ti : TI C.E} (h : C.T t = some ti) (hd : ti.d = .array n e) : C.P.underlying t = some (.array n e) := by
  obtain ⟨_, d, _, _, hu, _, _, htd, _⟩ := (hC.T _ _ h).ex
  rw [hd] at htd
  exact hu.trans (congrArg some htd)
theorem under_str (hC : CfgOK C) {t : Nat} {ti : TI C.E} (h : C.T t = some ti) (hd : ti.d = .str) : C.P.underlying t = some .string := by
  obtain ⟨_, d, _, _, hu, _, _, htd, _⟩ := (hC.T _ _ h).ex
  rw [hd] at htd
  exact hu.trans (congrArg some htd)

theorem indexAddr_ok (hC : CfgOK C) {Z : Type} {h : Heap C.E} {t : TypeId} {x i : AV C.E} {vx vi : Value} {K : Eff C.E → Option Z} {z : Z} (hk : indexAddrK C (lookH h) t x i K = some z) (hh : HR C c w h)
    (hx : R C c w x vx) (hi : R C c w i vi) : ∃ v e, (Instr.indexAt t vx vi).run C.P w = .ok v w ∧ K e = some z ∧ R C c w e.v v ∧ e.wr = [] := by
  unfold indexAddrK at hk
  split at hk
  · -- the address of an array
    rename_i n e eq sz by_ zr id row fo k i0 hT
    obtain ⟨hb, hk⟩ := cond_some hk
    obtain ⟨h0, h1⟩ := and_split hb
    have h0' : 0 ≤ i0 := by simpa using h0
    have h1' : i0 < (n : Int) := by simpa using h1
    have hu := under_array hC hT rfl
    obtain ⟨ie, hie, hse, _⟩ := elem_info hC hT (.inr ⟨n, rfl⟩)
    cases hi
    cases hx with
    | ptr hs hn =>
      refine ⟨_, _, ?_, hk, .ptr hs hn, rfl⟩
      simp [Instr.indexAt, asIntOf, run_underlying hu, Instr.sureAddr, h0', h1', run_sizeOf' hie, hse, add_none, Nat.add_assoc]
  · rename_i n e eq sz by_ zr cells k i0 hT
    obtain ⟨hb, hk⟩ := cond_some hk
    obtain ⟨h0, h1⟩ := and_split hb
    have h0' : 0 ≤ i0 := by simpa using h0
    have h1' : i0 < (n : Int) := by simpa using h1
    have hu := under_array hC hT rfl
    obtain ⟨ie, hie, hse, _⟩ := elem_info hC hT (.inr ⟨n, rfl⟩)
    cases hi
    cases hx with
    | ro f hI hc hr =>
      refine ⟨_, _, ?_, hk, .ro (fun j => f (i0.toNat * sizeT C e + j)) hI (off := _ + i0.toNat * sizeT C e) (fun j hj => by
        rw [List.length_drop] at hj; rw [Nat.add_assoc]; exact hc _ (by omega)) (fun j hj => by rw [drop_get]; exact hr _ _), rfl⟩
      simp [Instr.indexAt, asIntOf, run_underlying hu, Instr.sureAddr, h0', h1', run_sizeOf' hie, hse, add_none]
  · rename_i e' eq sz by_ zr e xs k i0 hT
    split at hk
    · rename_i heq
      obtain rfl := Nat.eq_of_beq_eq_true heq
      cases hxo : idxO xs i0 with
      | none => rw [hxo] at hk; cases hk
      | some y =>
        rw [hxo] at hk
        obtain ⟨h0', h1, rfl⟩ := idxO_some hxo
        have hu := under_slice hC hT rfl
        obtain ⟨ie, hie, hse, _⟩ := elem_info hC hT (.inl rfl)
        cases hi
        cases hx with
        | imm0 => exact absurd h1 (Nat.not_lt_zero _)
        | imm f hI hl hm hc hr =>
          refine ⟨_, _, ?_, hk, .ro (f i0.toNat) hI (off := _ + i0.toNat * sizeT C e') (fun j hj => hc _ j h1 (by rw [← hC.enc]; exact hj)) (fun j hj => hr _ h1 j hj), rfl⟩
          simp [Instr.indexAt, asIntOf, run_underlying hu, h0', show i0 < (xs.length : Int) by omega, run_sizeOf' hie, hse, add_none]
    · cases hk
  · rename_i e' eq sz by_ zr id start len k i0 hT
    split at hk
    · rename_i e xs hl
      split at hk
      · rename_i heq
        obtain rfl := Nat.eq_of_beq_eq_true heq
        obtain ⟨hb, hk⟩ := cond_some hk
        obtain ⟨h0, h1⟩ := and_split hb
        have h0' : 0 ≤ i0 := by simpa using h0
        have h1' : i0 < (len : Int) := by simpa using h1
        have hu := under_slice hC hT rfl
        obtain ⟨ie, hie, hse, _⟩ := elem_info hC hT (.inl rfl)
        cases hi
        cases hx with
        | sl0 => exact absurd h1' (by simp; omega)
        | sl hs hn hl1 hm hb2 hsz =>
          rename_i cap loc cs0 e0 fr0
          have hwd : loc.wd = sizeT C e' := by
            cases hh.ob _ _ (lookH_some hl) with
            | nowhere hs' => rw [hs'] at hs; cases hs
            | arr hs' f hc hr => rw [hs'] at hs; cases hs; rfl
          refine ⟨_, _, ?_, hk, .ptr (row := start + i0.toNat) (fo := 0) hs hn, rfl⟩
          simp [Instr.indexAt, asIntOf, run_underlying hu, h0', h1', run_sizeOf' hie, hse, add_none, Nat.add_mul, hwd, Nat.add_assoc]
      · cases hk
    · cases hk
  · cases hk

theorem wf_byte (b : UInt8) : (Lit.int .u8 (b.toNat : Int)).wf = true := by
  have := b.toNat_lt
  simp [Lit.wf, IntKind.min, IntKind.max, IntKind.signed, IntKind.bits]
  omega

theorem takeN_of {α : Type} : ∀ {n : Nat} {l r : List α}, r.length = n → (∀ j, j < n → l[j]? = r[j]?) → takeN n l = some r
  | 0, l, r, h, _ => by
    have : r = [] := List.eq_nil_of_length_eq_zero h
    subst this; rfl
  | n + 1, l, [], h, _ => by simp at h
  | n + 1, [], y :: r, h, hg => by have := hg 0 (by omega); simp at this
  | n + 1, x :: l, y :: r, h, hg => by
    have h0 := hg 0 (by omega)
    simp at h0
    subst h0
    simp only [takeN]
    rw [takeN_of (n := n) (l := l) (r := r) (by simpa using h) (fun j hj => by have := hg (j + 1) (by omega); simpa using this)]

theorem chunks_spec {α : Type} (wd : Nat) : ∀ (n : Nat) (l : List α) (r : List (List α)), chunks wd n l = some r → r.length = n ∧ (∀ i (h : i < r.length), r[i].length = wd) ∧
    ∀ i j, i < n → j < wd → ∃ (h : i < r.length) (h' : j < r[i].length), l[i * wd + j]? = some (r[i][j])
  | 0, l, r, h => by simp only [chunks, Option.some.injEq] at h; subst h; exact ⟨rfl, fun i h => absurd h (Nat.not_lt_zero _), fun i j hi => absurd hi (Nat.not_lt_zero _)⟩
  | n + 1, l, r, h => by
    simp only [chunks] at h
    split at h
    · rename_i ch rest h1 h2
      simp only [Option.some.injEq] at h
      subst h
      obtain ⟨a1, a2, a3⟩ := takeN_spec _ _ _ h1
      obtain ⟨b1, b2, b3⟩ := chunks_spec wd n _ _ h2
      refine ⟨by simp [b1], fun i hi => ?_, fun i j hi hj => ?_⟩
      · cases i with
        | zero => simpa using a1
        | succ i => simpa using b2 i (by simpa using hi)
      · cases i with
        | zero =>
          refine ⟨by simp, by simpa [a1] using hj, ?_⟩
          have := a3 j hj
          rw [Nat.zero_mul, Nat.zero_add, ← this]
          simp [List.getElem?_eq_getElem (show j < ch.length by omega)]
        | succ i =>
          obtain ⟨h3, h4, h5⟩ := b3 i j (by omega) hj
          refine ⟨by simpa using h3, by simpa using h4, ?_⟩
          rw [List.getElem?_drop] at h5
          rw [show (i + 1) * wd + j = wd + (i * wd + j) by rw [Nat.add_mul, Nat.one_mul]; omega, h5]
          simp
    · cases h

theorem decAll_spec (hC : CfgOK C) {e : TypeId} : ∀ (rows : List (List (AV C.E))) (xs : List (C.E e)), decAll C e rows = some xs → xs.length = rows.length ∧ ∀ i (h : i < rows.length) (h' : i < xs.length), C.enc e xs[i] = rows[i]
  | [], xs, h => by simp only [decAll, Option.some.injEq] at h; subst h; exact ⟨rfl, fun i h => absurd h (Nat.not_lt_zero _)⟩
  | r :: rest, xs, h => by
    simp only [decAll] at h
    cases h1 : C.dec e r with
    | none => rw [h1] at h; cases h
    | some x =>
      rw [h1] at h
      cases h2 : decAll C e rest with
      | none => simp only [Option.bind_some, h2, Option.bind_none] at h; cases h
      | some ys =>
        simp only [Option.bind_some, h2, Option.some.injEq] at h
        subst h
        obtain ⟨a, b⟩ := decAll_spec hC rest ys h2
        refine ⟨by simp [a], fun i hi hi' => ?_⟩
        cases i with
        | zero => simpa using hC.dec _ _ _ h1
        | succ i => simpa using b i (by simpa using hi) (by simpa using hi')

theorem index_ok (hC : CfgOK C) {Z : Type} {t : TypeId} {x i : AV C.E} {vx vi : Value} {K : Eff C.E → Option Z} {z : Z} (hk : indexK C t x i K = some z)
    (hx : R C c w x vx) (hi : R C c w i vi) : ∃ v r, (Instr.index t vx vi).run C.P w = .ok v w ∧ K ⟨r, [], []⟩ = some z ∧ R C c w r v := by
  unfold indexK at hk
  split at hk
  · rename_i n e eq sz by_ zr cs k i0 hT
    obtain ⟨hb, hk⟩ := cond_some hk
    obtain ⟨h0, h1⟩ := and_split hb
    have h0' : 0 ≤ i0 := by simpa using h0
    have h1' : i0 < (n : Int) := by simpa using h1
    have hu := under_array hC hT rfl
    split at hk
    · rename_i te hte
      split at hk
      · rename_i rows hn hr
        obtain ⟨ie, hie, hse⟩ := size_info hC hte
        cases hd : decAll C e rows with
        | none => rw [hd] at hk; cases hk
        | some xs =>
          rw [hd] at hk
          simp only [Option.bind_some] at hk
          cases hxo : idxO xs i0 with
          | none => rw [hxo] at hk; cases hk
          | some y =>
            rw [hxo] at hk
            simp only [Option.bind_some] at hk
            obtain ⟨_, h1x, rfl⟩ := idxO_some hxo
            obtain ⟨a1, a2, a3⟩ := chunks_spec _ _ _ _ hr
            obtain ⟨b1, b2⟩ := decAll_spec hC _ _ hd
            have hlt : i0.toNat < rows.length := by omega
            have henc := b2 i0.toNat hlt h1x
            have hrow := a2 i0.toNat hlt
            have htk : takeN te.size (cs.drop (i0.toNat * te.size)) = some (C.enc e xs[i0.toNat]) := by
              rw [henc]
              refine takeN_of ?_ ?_
              · exact hrow
              · intro j hj
                obtain ⟨q1, q2, q3⟩ := a3 i0.toNat j (by omega) hj
                rw [List.getElem?_drop, q3, List.getElem?_eq_getElem q2]
            cases hi
            cases hx with
            | agg hl hr' =>
              obtain ⟨v, h2, h3⟩ := part_ok (hC.T _ _ hte) hl hr' htk
              refine ⟨v, _, ?_, hk, h3⟩
              simp [Instr.index, asIntOf, run_underlying hu, h0', h1', run_sizeOf' hie, hse, h2]
      · cases hk
    · cases hk
  · rename_i eq sz by_ zr l k i0 hT
    cases hxo : idxO l i0 with
    | none => rw [hxo] at hk; cases hk
    | some b =>
      rw [hxo] at hk
      obtain ⟨h0', h1, rfl⟩ := idxO_some hxo
      have hu := under_str hC hT rfl
      cases hi
      cases hx with
      | str hs hm =>
        rename_i s
        subst hs
        have h1s : i0.toNat < s.data.toList.length := by simpa using h1
        have hget : s[i0.toNat]? = some s.data.toList[i0.toNat] := by
          rw [getElem?_pos s i0.toNat (by simpa using h1s)]
          rfl
        refine ⟨.int .u8 (s.data.toList[i0.toNat].toNat : Int), _, ?_, hk, ?_⟩
        · simp [Instr.index, asIntOf, run_underlying hu, h0', hget]
        · have : (s.data.toList.map fun b => (b.toNat : Int))[i0.toNat] = (s.data.toList[i0.toNat].toNat : Int) := by simp
          rw [this]
          exact .int (wf_byte _)
  · cases hk

theorem extract_ok {Z : Type} {ix : Nat} {vp : Value} {K : Eff C.E → Option Z} {z : Z} {Γ : FuncId → Option (CF C)} {ρ : Operand → AV C.E} {lk : Nat → Option (Ob C.E)} {nid : Nat} {x : Operand}
    (hk : opK C Γ (.extract x ix) ρ lk nid K = some z) (hp : R C c w (ρ x) vp) :
    ∃ v r, (Instr.extract vp ix).run C.P w = .ok v w ∧ K ⟨r, [], []⟩ = some z ∧ R C c w r v := by
  simp only [opK] at hk
  split at hk
  · rename_i vs hx
    rw [hx] at hp
    split at hk
    · rename_i v hv
      cases hp with
      | tup hl hr =>
        rename_i us
        obtain ⟨h1, h2⟩ := List.getElem?_eq_some_iff.1 hv
        have h3 : ix < us.size := by omega
        refine ⟨us[ix], _, by simp [Instr.extract, show us[ix]? = some us[ix] from Array.getElem?_eq_getElem h3], hk, ?_⟩
        have := hr ix h1
        rw [h2, show us.getD ix undef = us[ix] by simp [Array.getD, h3]] at this
        exact this
    · cases hk
  · cases hk

/-! ### Slices of slices -/

theorem bnd_ok {x : Option (AV C.E)} {v : Option Value} {d i : Int} (h : bnd x d = some i) (hr : ∀ y, x = some y → ∃ u, v = some u ∧ R C c w y u) (hn : x = none → v = none) :
    (v = none ∧ i = d) ∨ ∃ k, v = some (.int k i) := by
  cases x with
  | none => simp only [bnd, Option.some.injEq] at h; exact .inl ⟨hn rfl, h.symm⟩
  | some y =>
    obtain ⟨u, rfl, hu⟩ := hr y rfl
    cases y <;> simp only [bnd] at h <;> first | (cases h; done) | skip
    simp only [Option.some.injEq] at h
    subst h
    cases hu
    exact .inr ⟨_, rfl⟩

/-- The three bounds of a slice expression, as the model reckons them. -/
theorem run_bounds {len cap : Nat} {lo hi mx : Option Value} {l h m : Int} (hlo : (lo = none ∧ l = 0) ∨ ∃ k, lo = some (.int k l)) (hhi : (hi = none ∧ h = len) ∨ ∃ k, hi = some (.int k h))
    (hmx : (mx = none ∧ m = len) ∨ ∃ k, mx = some (.int k m)) (hn : hi = none → mx = none) (h0 : 0 ≤ l) (h1 : l ≤ h) (h2 : h ≤ m) (h3 : m ≤ len) (hc : len ≤ cap) (is : Bool) :
    ∃ M : Nat, (Instr.sliceBounds is len cap lo hi mx).run C.P w = .ok (l.toNat, h.toNat, M) w ∧ h.toNat ≤ M ∧ M ≤ cap ∧ (mx = none → M = cap) := by
  rcases hmx with ⟨rfl, rfl⟩ | ⟨km, rfl⟩
  · rcases hhi with ⟨rfl, rfl⟩ | ⟨kh, rfl⟩
    · rcases hlo with ⟨rfl, rfl⟩ | ⟨kl, rfl⟩
      · exact ⟨cap, by simp [Instr.sliceBounds], by omega, Nat.le_refl _, fun _ => rfl⟩
      · exact ⟨cap, by simp [Instr.sliceBounds, Instr.sliceBound, asIntOf, h0, show l ≤ (len : Int) by omega], by omega, Nat.le_refl _, fun _ => rfl⟩
    · rcases hlo with ⟨rfl, rfl⟩ | ⟨kl, rfl⟩
      · exact ⟨cap, by simp [Instr.sliceBounds, Instr.sliceBound, asIntOf, show 0 ≤ h by omega, show h ≤ (cap : Int) by omega], by omega, Nat.le_refl _, fun _ => rfl⟩
      · exact ⟨cap, by simp [Instr.sliceBounds, Instr.sliceBound, asIntOf, h0, show 0 ≤ h by omega, show h ≤ (cap : Int) by omega, show l ≤ max h 0 by omega], by omega, Nat.le_refl _, fun _ => rfl⟩
  · rcases hhi with ⟨rfl, rfl⟩ | ⟨kh, rfl⟩
    · cases hn rfl
    · rcases hlo with ⟨rfl, rfl⟩ | ⟨kl, rfl⟩
      · exact ⟨m.toNat, by simp [Instr.sliceBounds, Instr.sliceBound, asIntOf, show 0 ≤ m by omega, show m ≤ (cap : Int) by omega, show 0 ≤ h by omega, show h ≤ max m 0 by omega], by omega, by omega, fun h => by cases h⟩
      · exact ⟨m.toNat, by simp [Instr.sliceBounds, Instr.sliceBound, asIntOf, show 0 ≤ m by omega, show m ≤ (cap : Int) by omega, show 0 ≤ h by omega, show h ≤ max m 0 by omega, h0, show l ≤ max h 0 by omega], by omega, by omega, fun h => by cases h⟩

theorem R_imm_cut {e : TypeId} {xs : List (C.E e)} {a : Option Addr} {cap l h M : Nat} (hx : R C c w (.imm e xs) (.slice a xs.length cap)) (h1 : l ≤ h) (h2 : h ≤ xs.length) (h3 : h ≤ M) (h4 : M ≤ cap) :
    R C c w (.imm e ((xs.take h).drop l)) (.slice (if M = l then a else a.map (·.add (l * sizeT C e))) (h - l) (M - l)) := by
  by_cases hz : h = l
  · subst hz
    have : (xs.take h).drop h = [] := List.drop_eq_nil_of_le (by rw [List.length_take]; omega)
    rw [this, Nat.sub_self]
    have hcap : M ≤ maxLen := by cases hx with
      | imm0 hm _ => omega
      | imm _ _ _ hm _ _ => omega
    refine .imm0 (by omega) fun ha => ?_
    by_cases hM : M = h
    · omega
    · rw [if_neg hM] at ha
      cases a with
      | none => cases hx with
        | imm0 _ h0 => have := h0 rfl; omega
      | some b => cases ha
  · have hlen : ((xs.take h).drop l).length = h - l := by rw [List.length_drop, List.length_take]; omega
    rw [if_neg (by omega)]
    generalize hxs : xs = ys at *
    cases hx with
    | imm0 => simp at h2; omega
    | imm f hI hl hm hc hr =>
      have := R.imm (C := C) (c := c) (w := w) (e := e) (xs := (ys.take h).drop l) (b := _) (off := _ + l * sizeT C e) (cap := M - l) (fun i j => f (l + i) j) hI (by rw [hlen]; omega) (by omega)
        (fun i j hi hj => by
          rw [hlen] at hi
          have := hc (l + i) j (by omega) hj
          rw [Nat.add_mul, ← Nat.add_assoc] at this
          exact this)
        (fun i hi j hj => by
          rw [hlen] at hi
          have hg : ((ys.take h).drop l)[i]'(by rw [hlen]; exact hi) = ys[l + i]'(by omega) := by simp
          have h5 := hr (l + i) (by omega) j (by rw [← hg]; exact hj)
          simp only [hg]
          exact h5)
      rw [hlen] at this
      simpa [add_none] using this

/-- What a reading of the bounds of a slice expression is. -/
structure Bounds (C : Cfg) (c : Ctx) (w : World) (lo hi mx : Option (AV C.E)) (vlo vhi vmx : Option Value) : Prop where
  a : ∀ y, lo = some y → ∃ u, vlo = some u ∧ R C c w y u
  an : lo = Option.none → vlo = Option.none
  b : ∀ y, hi = some y → ∃ u, vhi = some u ∧ R C c w y u
  bn : hi = Option.none → vhi = Option.none
  m : ∀ y, mx = some y → ∃ u, vmx = some u ∧ R C c w y u
  mn : mx = Option.none → vmx = Option.none

end
end Go.AE
