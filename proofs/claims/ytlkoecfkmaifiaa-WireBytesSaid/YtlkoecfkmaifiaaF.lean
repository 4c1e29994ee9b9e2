/-
  The plain functions that the seat's Go functions compute, each with the proof that the function keeps it. Printed by the generator (Gen2) and checked by the kernel.
-/
import Derived.Test.YtlkoecfkmaifiaaCfgT
namespace Go.AE
open Go.Proofs Go.RowKit
set_option maxRecDepth 100000

/-! slices.Clone -/
noncomputable def G31 : FuncId → Option (CF tC) := look []
theorem Y31 : SysN tC G31 := (sys_nil tC_ok tC_eq)
noncomputable def c31_4 : Code := subCode (bodyOf Try.f31) 4
def p31_4 : PS := ⟨0, [0], ⟨[.one (.one (.imm 5))] ++ vBs 7, []⟩, [⟨.ret, [2], ⟨vBs 2 ++ [.one (.one (.sl 0))] ++ vBs 5, [.arr 5]⟩, [(2, 5)]⟩], []⟩
noncomputable def j31_4 (x : List (Int) × Unit) : Option (Nat × List (Int) × Unit) := bif roomy (0 + x.1.length) 1 then some (0 + x.1.length, x.1, ()) else none
noncomputable def W31_4 : LF tC := cutLF tC p31_4 j31_4
theorem c31_4_is : NilHead c31_4 0 3 4 23 := ⟨_, _, _, _, _, _, _, _, _, _, _, rfl⟩
theorem j31_4_nil : exec tC G31 (look []) (restOf c31_4) ⟨((p31_4.s.emb ([], ())).t.set 3 (.imm 5 [])).set 4 (.bool true), (p31_4.s.emb ([], ())).h⟩ (fun e st => unP p31_4.k p31_4.outs e st) = j31_4 ([], ()) := by kernel_rfl
theorem j31_4_one (x : p31_4.s.ty tE) : exec tC G31 (look []) (restOf c31_4) ⟨((p31_4.s.emb x).t.set 3 (.imm 5 x.1)).set 4 (.bool false), (p31_4.s.emb x).h⟩ (fun e st => unP p31_4.k p31_4.outs e st) = j31_4 x := by kernel_rfl
theorem W31_4_ok : keyed 4 (bodyOf Try.f31) = [c31_4] ∧ ∀ n, n ≤ 0 → Snd tC n c31_4 W31_4.k := ⟨by kernel_rfl, fun n hn => nil_cut (p := p31_4) (f := j31_4) (Λ := look []) (el := 5) Y31 hn c31_4_is (by kernel_rfl) (lam_le lam_nil n hn) (fun x => ⟨5, x.1, rfl, fun t h => match t, x, h with
    | true, (xs, ()), h => by
      have h : xs = [] := h rfl
      subst h
      exact j31_4_nil
    | false, x, _ => j31_4_one x⟩) (fun _ => Nat.le_of_ble_eq_true (by kernel_rfl))⟩
def S31 : FS := ⟨[[.s 5]], [⟨[.one (.one (.imm 5))], []⟩], [⟨[.one (.one (.sl 0))], [.arr 5]⟩], [[.v]], []⟩
noncomputable def f31 (x : List (Int) × Unit) : Option (Nat × List (Int) × Unit) := (j31_4 (x.1, ())).bind fun y => some (y.1, y.2.1, ())
noncomputable def F31 : CF tC := mkF tC S31 f31
theorem f31_run : ∀ a, fnS tC G31 (look [(4, W31_4)]) Try.f31 S31 a = f31 a := fun a => by kernel_rfl
theorem F31_ok : CFOK tC 31 F31 := mkF_ok Y31 (fn := Try.f31) (body := bodyOf Try.f31) (by kernel_rfl) (by kernel_rfl) (by kernel_rfl) (m := 0) rfl (lam_le (lam_cons W31_4_ok lam_nil)) f31_run

/-! base.Bytes -/
noncomputable def G16 : FuncId → Option (CF tC) := look []
theorem Y16 : SysN tC G16 := (sys_nil tC_ok tC_eq)
def S16 : FS := ⟨[[.s 5], [.s 5]], [⟨[.one (.one (.imm 5)), .one (.one (.imm 5))], []⟩], [⟨[vO], []⟩], [[.v]], []⟩
def f16 (l1 : List Int) (l2 : List Int) : Bool :=
  decide (l1 = l2)
noncomputable def F16 : CF tC := mkF tC S16 (fun a => some ((f16 a.1 a.2.1), ()))
def h16 (r : Bool) : Option (altTy tE S16.outs) := some (r, ())
theorem f16_run : ∀ a, fnS tC G16 (look []) Try.f16 S16 a = (fun a => some ((f16 a.1 a.2.1), ())) a := fun a => by
  have key : ∀ (l1 : List Int) (l2 : List Int), (h16 (decide (l1 = l2))) = h16 (f16 l1 l2) := by
    intros
    unfold f16
    repeat' first | rfl | refine cond_h (g := h16) ?_ ?_
  exact Eq.trans (by kernel_rfl) (key a.1 a.2.1)
theorem F16_ok : CFOK tC 16 F16 := mkF_ok Y16 (fn := Try.f16) (body := bodyOf Try.f16) (by kernel_rfl) (by kernel_rfl) (by kernel_rfl) (m := 0) rfl (lam_le lam_nil) f16_run

/-! slices.Equal -/
noncomputable def G36 : FuncId → Option (CF tC) := look []
theorem Y36 : SysN tC G36 := (sys_nil tC_ok tC_eq)
noncomputable def c36_0 : Code := loopOf (bodyOf Try.f36) 0
def p36_0 : LS := ⟨0, [0, 1, 12, 13], ⟨[.one (.one (.imm 5)), .one (.one (.imm 5))] ++ vBs 10 ++ [vI, vI] ++ vBs 12, []⟩, [⟨.ret, [4], ⟨vBs 4 ++ [vO] ++ vBs 21, []⟩, []⟩, ⟨.exit 0, [], ⟨vBs 26, []⟩, []⟩], []⟩
noncomputable def r36_0 (x : List Int × List Int × Int × Int × Unit) : Option (List Int × List Int × Int × Int × Unit ⊕ Bool × Unit ⊕ Unit) :=
  bif decide (x.snd.snd.snd.fst < x.snd.snd.fst) then
  (idxO x.fst x.snd.snd.snd.fst).bind fun y11 =>
    (idxO x.snd.fst x.snd.snd.snd.fst).bind fun y10 =>
      bif y11 != y10 then some (Sum.inr (Sum.inl (false, ())))
      else some (Sum.inl (x.fst, x.snd.fst, x.snd.snd.fst, IntKind.i64.wrap (x.snd.snd.snd.fst + (1 : Int)), ()))
else some (Sum.inr (Sum.inr ()))
theorem r36_0_run (x : p36_0.s.ty tE) : roundK tC G36 (look []) c36_0 p36_0 x = r36_0 x := by kernel_rfl
noncomputable def l36_0 (x : List Int × List Int × Int × Int × Unit) : Option (Bool × Unit ⊕ Unit) := iterO r36_0 x
noncomputable def W36_0 : LF tC := loopW tC p36_0 0 l36_0
theorem W36_0_ok : keyed 0 (bodyOf Try.f36) = [.block 0 (.loop c36_0)] ∧ ∀ n, n ≤ 0 → Snd tC n (.block 0 (.loop c36_0)) W36_0.k := ⟨by kernel_rfl, fun n hn => loopW_ok (p := p36_0) (id := 0) Y36 (lam_le lam_nil n hn) hn r36_0_run⟩
def S36 : FS := ⟨[[.s 5], [.s 5]], [⟨[.one (.one (.imm 5)), .one (.one (.imm 5))], []⟩], [⟨[vO], []⟩], [[.v]], []⟩
noncomputable def f36 (x : List Int × List Int × Unit) : Option (Bool × Unit) :=
  bif (↑x.fst.length : Int) != (↑x.snd.fst.length : Int) then some (false, ())
else
  (l36_0 (x.fst, x.snd.fst, (↑x.fst.length : Int), (0 : Int), ())).bind fun y16 =>
    Sum.elim (fun y14 => some (y14.fst, ())) (fun _x => some (true, ())) y16
noncomputable def F36 : CF tC := mkF tC S36 f36
theorem f36_run : ∀ a, fnS tC G36 (look [(0, W36_0)]) Try.f36 S36 a = f36 a := fun a => by kernel_rfl
theorem F36_ok : CFOK tC 36 F36 := mkF_ok Y36 (fn := Try.f36) (body := bodyOf Try.f36) (by kernel_rfl) (by kernel_rfl) (by kernel_rfl) (m := 0) rfl (lam_le (lam_cons W36_0_ok lam_nil)) f36_run

/-! Sum -/
noncomputable def G22 : FuncId → Option (CF tC) := look []
theorem Y22 : SysN tC G22 := (sys_nil tC_ok tC_eq)
noncomputable def c22_6 : Code := loopOf (loopOf (bodyOf Try.f22) 0) 2
def p22_6 : LS := ⟨0, [3, 6, 7, 8, 16], ⟨[vB, vB, vB, .one (.one (.int .u32)), vB, vB, .one (.one (.imm 5)), vI, vI] ++ vBs 7 ++ [vI] ++ vBs 12, []⟩, [⟨.exit 2, [3, 6, 7, 8], ⟨[vB, vB, vB, .one (.one (.int .u32)), vB, vB, .one (.one (.imm 5)), vI, vI] ++ vBs 20, []⟩, []⟩], []⟩
noncomputable def r22_6 (x : Int × List Int × Int × Int × Int × Unit) : Option (Int × List Int × Int × Int × Int × Unit ⊕ Int × List Int × Int × Int × Unit) :=
  bif decide (x.snd.snd.snd.snd.fst < (8 : Int)) then
  some
    (Sum.inl
      (bits BinOp.xor IntKind.u32 (x.fst.fdiv (2 : Int))
          (bits BinOp.and IntKind.u32 (3988292384 : Int) (IntKind.u32.wrap ((0 : Int) - bits BinOp.and IntKind.u32 x.fst (1 : Int)))),
        x.snd.fst, x.snd.snd.fst, x.snd.snd.snd.fst, IntKind.i64.wrap (x.snd.snd.snd.snd.fst + (1 : Int)), ()))
else some (Sum.inr (x.fst, x.snd.fst, x.snd.snd.fst, x.snd.snd.snd.fst, ()))
theorem r22_6_run (x : p22_6.s.ty tE) : roundK tC G22 (look []) c22_6 p22_6 x = r22_6 x := by kernel_rfl
noncomputable def l22_6 (x : Int × List Int × Int × Int × Int × Unit) : Option (Int × List Int × Int × Int × Unit) := iterO r22_6 x
noncomputable def W22_6 : LF tC := loopW tC p22_6 2 l22_6
theorem W22_6_ok : keyed 6 (loopOf (bodyOf Try.f22) 0) = [.block 2 (.loop c22_6)] ∧ ∀ n, n ≤ 0 → Snd tC n (.block 2 (.loop c22_6)) W22_6.k := ⟨by kernel_rfl, fun n hn => loopW_ok (p := p22_6) (id := 2) Y22 (lam_le lam_nil n hn) hn r22_6_run⟩
noncomputable def c22_0 : Code := loopOf (bodyOf Try.f22) 0
def p22_0 : LS := ⟨0, [3, 6, 7, 8], ⟨[vB, vB, vB, .one (.one (.int .u32)), vB, vB, .one (.one (.imm 5)), vI, vI] ++ vBs 20, []⟩, [⟨.exit 0, [3], ⟨[vB, vB, vB, .one (.one (.int .u32))] ++ vBs 25, []⟩, []⟩], []⟩
noncomputable def r22_0 (x : Int × List Int × Int × Int × Unit) : Option (Int × List Int × Int × Int × Unit ⊕ Int × Unit) :=
  bif decide (x.snd.snd.snd.fst < x.snd.snd.fst) then
  (idxO x.snd.fst x.snd.snd.snd.fst).bind fun y22 =>
    (l22_6 (bits BinOp.xor IntKind.u32 x.fst (IntKind.u32.wrap y22), x.snd.fst, x.snd.snd.fst, x.snd.snd.snd.fst, (0 : Int), ())).bind
      fun y21 => some (Sum.inl (y21.fst, y21.snd.fst, y21.snd.snd.fst, IntKind.i64.wrap (y21.snd.snd.snd.fst + (1 : Int)), ()))
else some (Sum.inr (x.fst, ()))
theorem r22_0_run (x : p22_0.s.ty tE) : roundK tC G22 (look [(6, W22_6)]) c22_0 p22_0 x = r22_0 x := by kernel_rfl
noncomputable def l22_0 (x : Int × List Int × Int × Int × Unit) : Option (Int × Unit) := iterO r22_0 x
noncomputable def W22_0 : LF tC := loopW tC p22_0 0 l22_0
theorem W22_0_ok : keyed 0 (bodyOf Try.f22) = [.block 0 (.loop c22_0)] ∧ ∀ n, n ≤ 0 → Snd tC n (.block 0 (.loop c22_0)) W22_0.k := ⟨by kernel_rfl, fun n hn => loopW_ok (p := p22_0) (id := 0) Y22 (lam_le (lam_cons W22_6_ok lam_nil) n hn) hn r22_0_run⟩
def S22 : FS := ⟨[[.s 5]], [⟨[.one (.one (.imm 5))], []⟩], [⟨[.one (.one (.int .u32))], []⟩], [[.v]], []⟩
noncomputable def f22 (x : List Int × Unit) : Option (Int × Unit) :=
  (l22_0 ((4294967295 : Int), x.fst, (↑x.fst.length : Int), (0 : Int), ())).bind fun y25 =>
  some (bits BinOp.xor IntKind.u32 (4294967295 : Int) y25.fst, ())
noncomputable def F22 : CF tC := mkF tC S22 f22
theorem f22_run : ∀ a, fnS tC G22 (look [(0, W22_0)]) Try.f22 S22 a = f22 a := fun a => by kernel_rfl
theorem F22_ok : CFOK tC 22 F22 := mkF_ok Y22 (fn := Try.f22) (body := bodyOf Try.f22) (by kernel_rfl) (by kernel_rfl) (by kernel_rfl) (m := 0) rfl (lam_le (lam_cons W22_0_ok lam_nil)) f22_run

/-! ref.Sum -/
noncomputable def G23 : FuncId → Option (CF tC) := look []
theorem Y23 : SysN tC G23 := (sys_nil tC_ok tC_eq)
noncomputable def c23_25 : Code := subCode (loopOf (loopOf (bodyOf Try.f23) 0) 2) 25
def p23_25 : PS := ⟨0, [0, 3, 4, 5], ⟨[.one (.one (.imm 5)), vB, vB, .one (.one (.int .u32)), vI, vI] ++ vBs 28, []⟩, [⟨.normal, [0, 3, 4, 5], ⟨[.one (.one (.imm 5)), vB, vB, .one (.one (.int .u32)), vI, vI] ++ vBs 28, []⟩, []⟩], []⟩
noncomputable def j23_25 (x : List Int × Int × Int × Int × Unit) : Option (List Int × Int × Int × Int × Unit) :=
  some (x.fst, x.snd.fst, x.snd.snd.fst, IntKind.i64.wrap (x.snd.snd.snd.fst + (1 : Int)), ())
theorem j23_25_run (x : p23_25.s.ty tE) : pieceK tC G23 (look []) c23_25 p23_25 x = j23_25 x := by kernel_rfl
noncomputable def W23_25 : LF tC := cutLF tC p23_25 j23_25
theorem W23_25_ok : keyed 25 (loopOf (loopOf (bodyOf Try.f23) 0) 2) = [c23_25] ∧ ∀ n, n ≤ 0 → Snd tC n c23_25 W23_25.k := ⟨by kernel_rfl, fun n hn => cut_ok (p := p23_25) Y23 (lam_le lam_nil n hn) hn j23_25_run⟩
noncomputable def c23_6 : Code := loopOf (loopOf (bodyOf Try.f23) 0) 2
def p23_6 : LS := ⟨0, [0, 3, 4, 5], ⟨[.one (.one (.imm 5)), vB, vB, .one (.one (.int .u32)), vI, vI] ++ vBs 28, []⟩, [⟨.exit 2, [0, 3, 4], ⟨[.one (.one (.imm 5)), vB, vB, .one (.one (.int .u32)), vI] ++ vBs 29, []⟩, []⟩], []⟩
noncomputable def r23_6 (x : List Int × Int × Int × Int × Unit) : Option (List Int × Int × Int × Int × Unit ⊕ List Int × Int × Int × Unit) :=
  bif decide (x.snd.snd.snd.fst < (8 : Int)) then
  bif x.snd.fst.tmod (2 : Int) == (1 : Int) then
    (j23_25
          (x.fst, bits BinOp.xor IntKind.u32 (IntKind.u32.wrap (x.snd.fst.tdiv (2 : Int))) (3988292384 : Int), x.snd.snd.fst,
            x.snd.snd.snd.fst, ())).bind
      fun y29 => some (Sum.inl (y29.fst, y29.snd.fst, y29.snd.snd.fst, y29.snd.snd.snd.fst, ()))
  else
    (j23_25 (x.fst, IntKind.u32.wrap (x.snd.fst.tdiv (2 : Int)), x.snd.snd.fst, x.snd.snd.snd.fst, ())).bind fun y30 =>
      some (Sum.inl (y30.fst, y30.snd.fst, y30.snd.snd.fst, y30.snd.snd.snd.fst, ()))
else some (Sum.inr (x.fst, x.snd.fst, x.snd.snd.fst, ()))
theorem r23_6_run (x : p23_6.s.ty tE) : roundK tC G23 (look [(25, W23_25)]) c23_6 p23_6 x = r23_6 x := by kernel_rfl
noncomputable def l23_6 (x : List Int × Int × Int × Int × Unit) : Option (List Int × Int × Int × Unit) := iterO r23_6 x
noncomputable def W23_6 : LF tC := loopW tC p23_6 2 l23_6
theorem W23_6_ok : keyed 6 (loopOf (bodyOf Try.f23) 0) = [.block 2 (.loop c23_6)] ∧ ∀ n, n ≤ 0 → Snd tC n (.block 2 (.loop c23_6)) W23_6.k := ⟨by kernel_rfl, fun n hn => loopW_ok (p := p23_6) (id := 2) Y23 (lam_le (lam_cons W23_25_ok lam_nil) n hn) hn r23_6_run⟩
noncomputable def c23_0 : Code := loopOf (bodyOf Try.f23) 0
def p23_0 : LS := ⟨0, [0, 3, 4], ⟨[.one (.one (.imm 5)), vB, vB, .one (.one (.int .u32)), vI] ++ vBs 29, []⟩, [⟨.exit 0, [3], ⟨[vB, vB, vB, .one (.one (.int .u32))] ++ vBs 30, []⟩, []⟩], []⟩
noncomputable def r23_0 (x : List Int × Int × Int × Unit) : Option (List Int × Int × Int × Unit ⊕ Int × Unit) :=
  bif decide (x.snd.snd.fst < (↑x.fst.length : Int)) then
  (idxO x.fst x.snd.snd.fst).bind fun y36 =>
    (l23_6 (x.fst, bits BinOp.xor IntKind.u32 x.snd.fst (IntKind.u32.wrap y36), x.snd.snd.fst, (0 : Int), ())).bind fun y35 =>
      some (Sum.inl (y35.fst, y35.snd.fst, IntKind.i64.wrap (y35.snd.snd.fst + (1 : Int)), ()))
else some (Sum.inr (x.snd.fst, ()))
theorem r23_0_run (x : p23_0.s.ty tE) : roundK tC G23 (look [(6, W23_6)]) c23_0 p23_0 x = r23_0 x := by kernel_rfl
noncomputable def l23_0 (x : List Int × Int × Int × Unit) : Option (Int × Unit) := iterO r23_0 x
noncomputable def W23_0 : LF tC := loopW tC p23_0 0 l23_0
theorem W23_0_ok : keyed 0 (bodyOf Try.f23) = [.block 0 (.loop c23_0)] ∧ ∀ n, n ≤ 0 → Snd tC n (.block 0 (.loop c23_0)) W23_0.k := ⟨by kernel_rfl, fun n hn => loopW_ok (p := p23_0) (id := 0) Y23 (lam_le (lam_cons W23_6_ok lam_nil) n hn) hn r23_0_run⟩
def S23 : FS := ⟨[[.s 5]], [⟨[.one (.one (.imm 5))], []⟩], [⟨[.one (.one (.int .u32))], []⟩], [[.v]], []⟩
noncomputable def f23 (x : List Int × Unit) : Option (Int × Unit) :=
  (l23_0 (x.fst, (4294967295 : Int), (0 : Int), ())).bind fun y39 => some (IntKind.u32.wrap ((4294967295 : Int) - y39.fst), ())
noncomputable def F23 : CF tC := mkF tC S23 f23
theorem f23_run : ∀ a, fnS tC G23 (look [(0, W23_0)]) Try.f23 S23 a = f23 a := fun a => by kernel_rfl
theorem F23_ok : CFOK tC 23 F23 := mkF_ok Y23 (fn := Try.f23) (body := bodyOf Try.f23) (by kernel_rfl) (by kernel_rfl) (by kernel_rfl) (m := 0) rfl (lam_le (lam_cons W23_0_ok lam_nil)) f23_run

/-! Uint -/
noncomputable def G14 : FuncId → Option (CF tC) := look []
theorem Y14 : SysN tC G14 := (sys_nil tC_ok tC_eq)
noncomputable def c14_0 : Code := loopOf (bodyOf Try.f14) 0
def p14_0 : LS := ⟨0, [0, 3], ⟨[.one (.one (.int .u64)), vB, vB, .one (.one (.sl 0))] ++ vBs 15, [.arr 5]⟩, [⟨.exit 0, [0, 3], ⟨[.one (.one (.int .u64)), vB, vB, .one (.one (.sl 0))] ++ vBs 15, [.arr 5]⟩, []⟩], [(3, 5)]⟩
noncomputable def r14_0 (x : Int × Nat × List Int × Unit) : Option (Int × Nat × List Int × Unit ⊕ Int × Nat × List Int × Unit) :=
  bif decide (x.fst ≥ (128 : Int)) then
  bif decide (nat_lit 0 + x.snd.fst ≤ x.snd.snd.fst.length) then
    bif roomy (x.snd.fst + (1 : Nat)) (1 : Nat) then
      some
        (Sum.inl
          (x.fst.fdiv (128 : Int), x.snd.fst + (1 : Nat),
            List.take x.snd.fst (List.drop (0 : Nat) x.snd.snd.fst) ++ [bits BinOp.or IntKind.u8 (IntKind.u8.wrap x.fst) (128 : Int)], ()))
    else none
  else none
else some (Sum.inr (x.fst, x.snd.fst, x.snd.snd.fst, ()))
theorem r14_0_run (x : p14_0.s.ty tE) : roundK tC G14 (look []) c14_0 p14_0 x = r14_0 x := by kernel_rfl
noncomputable def l14_0 (x : Int × Nat × List Int × Unit) : Option (Int × Nat × List Int × Unit) := iterO r14_0 x
noncomputable def W14_0 : LF tC := loopW tC p14_0 0 l14_0
theorem W14_0_ok : keyed 0 (bodyOf Try.f14) = [.block 0 (.loop c14_0)] ∧ ∀ n, n ≤ 0 → Snd tC n (.block 0 (.loop c14_0)) W14_0.k := ⟨by kernel_rfl, fun n hn => loopW_ok (p := p14_0) (id := 0) Y14 (lam_le lam_nil n hn) hn r14_0_run⟩
def S14 : FS := ⟨[[.v]], [⟨[.one (.one (.int .u64))], []⟩], [⟨[.one (.one (.sl 0))], [.arr 5]⟩], [[.v]], [(2, 5)]⟩
noncomputable def f14 (x : Int × Unit) : Option (Nat × List Int × Unit) :=
  (l14_0 (x.fst, (0 : Nat), [], ())).bind fun y14 =>
  bif decide (nat_lit 0 + y14.snd.fst ≤ y14.snd.snd.fst.length) then
    bif roomy (y14.snd.fst + (1 : Nat)) (1 : Nat) then
      some (y14.snd.fst + (1 : Nat), List.take y14.snd.fst (List.drop (0 : Nat) y14.snd.snd.fst) ++ [IntKind.u8.wrap y14.fst], ())
    else none
  else none
noncomputable def F14 : CF tC := mkF tC S14 f14
theorem f14_run : ∀ a, fnS tC G14 (look [(0, W14_0)]) Try.f14 S14 a = f14 a := fun a => by kernel_rfl
theorem F14_ok : CFOK tC 14 F14 := mkF_ok Y14 (fn := Try.f14) (body := bodyOf Try.f14) (by kernel_rfl) (by kernel_rfl) (by kernel_rfl) (m := 0) rfl (lam_le (lam_cons W14_0_ok lam_nil)) f14_run

/-! ref.tail -/
noncomputable def G35 : FuncId → Option (CF tC) := look []
theorem Y35 : SysN tC G35 := (sys_nil tC_ok tC_eq)
def S35 : FS := ⟨[[.v]], [⟨[.one (.one (.int .u32))], []⟩], [⟨[.one (.one (.sl 0))], [.arr 5]⟩], [[.v]], [(2, 5)]⟩
def f35 (n1 : Int) : Nat × List Int :=
  ((4 : Nat),
  [IntKind.u8.wrap n1, IntKind.u8.wrap (n1.fdiv (256 : Int)), IntKind.u8.wrap (n1.fdiv (65536 : Int)),
    IntKind.u8.wrap (n1.fdiv (16777216 : Int))])
noncomputable def F35 : CF tC := mkF tC S35 (fun a => some ((f35 a.1).1, (f35 a.1).2, ()))
def h35 (r : Nat × List Int) : Option (altTy tE S35.outs) := some (r.1, r.2, ())
theorem f35_run : ∀ a, fnS tC G35 (look []) Try.f35 S35 a = (fun a => some ((f35 a.1).1, (f35 a.1).2, ())) a := fun a => by
  have key : ∀ (n1 : Int), (h35
  ((4 : Nat),
    [IntKind.u8.wrap n1, IntKind.u8.wrap (n1.fdiv (256 : Int)), IntKind.u8.wrap (n1.fdiv (65536 : Int)),
      IntKind.u8.wrap (n1.fdiv (16777216 : Int))])) = h35 (f35 n1) := by
    intros
    unfold f35
    repeat' first | rfl | refine cond_h (g := h35) ?_ ?_
  exact Eq.trans (by kernel_rfl) (key a.1)
theorem F35_ok : CFOK tC 35 F35 := mkF_ok Y35 (fn := Try.f35) (body := bodyOf Try.f35) (by kernel_rfl) (by kernel_rfl) (by kernel_rfl) (m := 0) rfl (lam_le lam_nil) f35_run

/-! ReadUint -/
noncomputable def G15 : FuncId → Option (CF tC) := look [(31, F31)]
theorem Y15 : SysN tC G15 := (sys_cons F31_ok (mkF_nat _ _) (sys_nil tC_ok tC_eq))
noncomputable def c15_34 : Code := subCode (subCode (loopOf (bodyOf Try.f15) 0) 22) 34
def p15_34 : PS := ⟨0, [0, 5, 6], ⟨[.one (.one (.imm 5))] ++ vBs 4 ++ [.one (.one (.int .u64)), vI] ++ vBs 37, []⟩, [⟨.ret, [2, 3, 4], ⟨[vB, vB, .one (.one (.int .u64)), .one (.one (.sl 0)), vI] ++ vBs 39, [.arr 5]⟩, [(3, 5)]⟩], []⟩
noncomputable def j15_34 (x : List Int × Int × Int × Unit) : Option (Int × Nat × Int × List Int × Unit) :=
  bif
    decide ((0 : Int) ≤ IntKind.i64.wrap (x.snd.snd.fst + (1 : Int))) &&
          decide (IntKind.i64.wrap (x.snd.snd.fst + (1 : Int)) ≤ (↑x.fst.length : Int)) &&
        decide ((↑x.fst.length : Int) ≤ (↑x.fst.length : Int)) &&
      decide ((↑x.fst.length : Int) ≤ (↑x.fst.length : Int)) then
  (f31 (List.drop (IntKind.i64.wrap (x.snd.snd.fst + (1 : Int))).toNat (List.take (↑x.fst.length : Int).toNat x.fst), ())).bind fun y24 =>
    some (x.snd.fst, y24.fst, (0 : Int), y24.snd.fst, ())
else none
theorem j15_34_run (x : p15_34.s.ty tE) : pieceK tC G15 (look []) c15_34 p15_34 x = j15_34 x := by kernel_rfl
noncomputable def W15_34 : LF tC := cutLF tC p15_34 j15_34
theorem W15_34_ok : keyed 34 (subCode (loopOf (bodyOf Try.f15) 0) 22) = [c15_34] ∧ ∀ n, n ≤ 0 → Snd tC n c15_34 W15_34.k := ⟨by kernel_rfl, fun n hn => cut_ok (p := p15_34) Y15 (lam_le lam_nil n hn) hn j15_34_run⟩
noncomputable def c15_22 : Code := subCode (loopOf (bodyOf Try.f15) 0) 22
def p15_22 : PS := ⟨0, [0, 5, 6, 7, 8, 9, 10], ⟨[.one (.one (.imm 5))] ++ vBs 4 ++ [.one (.one (.int .u64)), vI, .one (.one (.int .u8)), .one (.one (.imm 5)), vI, vI] ++ vBs 33, []⟩, [⟨.exit 1, [0, 5, 8, 9, 10], ⟨[.one (.one (.imm 5))] ++ vBs 4 ++ [.one (.one (.int .u64)), vB, vB, .one (.one (.imm 5)), vI, vI] ++ vBs 33, []⟩, []⟩, ⟨.ret, [2, 3, 4], ⟨[vB, vB, .one (.one (.int .u64)), .one (.one (.sl 0)), vI] ++ vBs 39, [.arr 5]⟩, [(3, 5)]⟩], []⟩
noncomputable def j15_22 (x : List Int × Int × Int × Int × List Int × Int × Int × Unit) : Option (List Int × Int × List Int × Int × Int × Unit ⊕ Int × Nat × Int × List Int × Unit) :=
  bif decide (IntKind.i64.wrap ((7 : Int) * x.snd.snd.fst) < (0 : Int)) then none
else
  bif decide (x.snd.snd.snd.fst ≥ (128 : Int)) then
    some
      (Sum.inl
        (x.fst,
          bits BinOp.or IntKind.u64 x.snd.fst
            (IntKind.u64.wrap
              (IntKind.u64.wrap (bits BinOp.andNot IntKind.u8 x.snd.snd.snd.fst (128 : Int)) *
                (2 : Int) ^ min (IntKind.i64.wrap ((7 : Int) * x.snd.snd.fst)).toNat (64 : Nat))),
          x.snd.snd.snd.snd.fst, x.snd.snd.snd.snd.snd.fst, x.snd.snd.snd.snd.snd.snd.fst, ()))
  else
    bif x.snd.snd.snd.fst == (0 : Int) then
      bif decide (x.snd.snd.fst > (0 : Int)) then some (Sum.inr ((0 : Int), (0 : Nat), (3 : Int), [], ()))
      else
        (j15_34
              (x.fst,
                bits BinOp.or IntKind.u64 x.snd.fst
                  (IntKind.u64.wrap
                    (IntKind.u64.wrap (bits BinOp.andNot IntKind.u8 x.snd.snd.snd.fst (128 : Int)) *
                      (2 : Int) ^ min (IntKind.i64.wrap ((7 : Int) * x.snd.snd.fst)).toNat (64 : Nat))),
                x.snd.snd.fst, ())).bind
          fun y42 => some (Sum.inr (y42.fst, y42.snd.fst, y42.snd.snd.fst, y42.snd.snd.snd.fst, ()))
    else
      (j15_34
            (x.fst,
              bits BinOp.or IntKind.u64 x.snd.fst
                (IntKind.u64.wrap
                  (IntKind.u64.wrap (bits BinOp.andNot IntKind.u8 x.snd.snd.snd.fst (128 : Int)) *
                    (2 : Int) ^ min (IntKind.i64.wrap ((7 : Int) * x.snd.snd.fst)).toNat (64 : Nat))),
              x.snd.snd.fst, ())).bind
        fun y43 => some (Sum.inr (y43.fst, y43.snd.fst, y43.snd.snd.fst, y43.snd.snd.snd.fst, ()))
theorem j15_22_run (x : p15_22.s.ty tE) : pieceK tC G15 (look [(34, W15_34)]) c15_22 p15_22 x = j15_22 x := by kernel_rfl
noncomputable def W15_22 : LF tC := cutLF tC p15_22 j15_22
theorem W15_22_ok : keyed 22 (loopOf (bodyOf Try.f15) 0) = [c15_22] ∧ ∀ n, n ≤ 0 → Snd tC n c15_22 W15_22.k := ⟨by kernel_rfl, fun n hn => cut_ok (p := p15_22) Y15 (lam_le (lam_cons W15_34_ok lam_nil) n hn) hn j15_22_run⟩
noncomputable def c15_37 : Code := subCode (loopOf (bodyOf Try.f15) 0) 37
def p15_37 : PS := ⟨0, [0, 5, 8, 9, 10], ⟨[.one (.one (.imm 5))] ++ vBs 4 ++ [.one (.one (.int .u64)), vB, vB, .one (.one (.imm 5)), vI, vI] ++ vBs 33, []⟩, [⟨.normal, [0, 5, 8, 9, 10], ⟨[.one (.one (.imm 5))] ++ vBs 4 ++ [.one (.one (.int .u64)), vB, vB, .one (.one (.imm 5)), vI, vI] ++ vBs 33, []⟩, []⟩], []⟩
noncomputable def j15_37 (x : List Int × Int × List Int × Int × Int × Unit) : Option (List Int × Int × List Int × Int × Int × Unit) :=
  some (x.fst, x.snd.fst, x.snd.snd.fst, x.snd.snd.snd.fst, IntKind.i64.wrap (x.snd.snd.snd.snd.fst + (1 : Int)), ())
theorem j15_37_run (x : p15_37.s.ty tE) : pieceK tC G15 (look []) c15_37 p15_37 x = j15_37 x := by kernel_rfl
noncomputable def W15_37 : LF tC := cutLF tC p15_37 j15_37
theorem W15_37_ok : keyed 37 (loopOf (bodyOf Try.f15) 0) = [c15_37] ∧ ∀ n, n ≤ 0 → Snd tC n c15_37 W15_37.k := ⟨by kernel_rfl, fun n hn => cut_ok (p := p15_37) Y15 (lam_le lam_nil n hn) hn j15_37_run⟩
noncomputable def c15_0 : Code := loopOf (bodyOf Try.f15) 0
def p15_0 : LS := ⟨0, [0, 5, 8, 9, 10], ⟨[.one (.one (.imm 5))] ++ vBs 4 ++ [.one (.one (.int .u64)), vB, vB, .one (.one (.imm 5)), vI, vI] ++ vBs 33, []⟩, [⟨.ret, [2, 3, 4], ⟨[vB, vB, .one (.one (.int .u64)), .one (.one (.sl 0)), vI] ++ vBs 39, [.arr 5]⟩, [(3, 5)]⟩, ⟨.exit 0, [], ⟨vBs 44, []⟩, []⟩], []⟩
noncomputable def r15_0 (x : List Int × Int × List Int × Int × Int × Unit) : Option (List Int × Int × List Int × Int × Int × Unit ⊕ Int × Nat × Int × List Int × Unit ⊕ Unit) :=
  bif decide (x.snd.snd.snd.snd.fst < x.snd.snd.snd.fst) then
  (idxO x.snd.snd.fst x.snd.snd.snd.snd.fst).bind fun y94 =>
    bif x.snd.snd.snd.snd.fst == (9 : Int) then
      bif decide (y94 > (1 : Int)) then some (Sum.inr (Sum.inl ((0 : Int), (0 : Nat), (2 : Int), [], ())))
      else
        (j15_22 (x.fst, x.snd.fst, x.snd.snd.snd.snd.fst, y94, x.snd.snd.fst, x.snd.snd.snd.fst, x.snd.snd.snd.snd.fst, ())).bind fun y89 =>
          Sum.elim
            (fun y87 =>
              (j15_37 (y87.fst, y87.snd.fst, y87.snd.snd.fst, y87.snd.snd.snd.fst, y87.snd.snd.snd.snd.fst, ())).bind fun y86 =>
                some (Sum.inl (y86.fst, y86.snd.fst, y86.snd.snd.fst, y86.snd.snd.snd.fst, y86.snd.snd.snd.snd.fst, ())))
            (fun y88 => some (Sum.inr (Sum.inl (y88.fst, y88.snd.fst, y88.snd.snd.fst, y88.snd.snd.snd.fst, ())))) y89
    else
      (j15_22 (x.fst, x.snd.fst, x.snd.snd.snd.snd.fst, y94, x.snd.snd.fst, x.snd.snd.snd.fst, x.snd.snd.snd.snd.fst, ())).bind fun y93 =>
        Sum.elim
          (fun y91 =>
            (j15_37 (y91.fst, y91.snd.fst, y91.snd.snd.fst, y91.snd.snd.snd.fst, y91.snd.snd.snd.snd.fst, ())).bind fun y90 =>
              some (Sum.inl (y90.fst, y90.snd.fst, y90.snd.snd.fst, y90.snd.snd.snd.fst, y90.snd.snd.snd.snd.fst, ())))
          (fun y92 => some (Sum.inr (Sum.inl (y92.fst, y92.snd.fst, y92.snd.snd.fst, y92.snd.snd.snd.fst, ())))) y93
else some (Sum.inr (Sum.inr ()))
theorem r15_0_run (x : p15_0.s.ty tE) : roundK tC G15 (look [(22, W15_22), (37, W15_37)]) c15_0 p15_0 x = r15_0 x := by kernel_rfl
noncomputable def l15_0 (x : List Int × Int × List Int × Int × Int × Unit) : Option (Int × Nat × Int × List Int × Unit ⊕ Unit) := iterO r15_0 x
noncomputable def W15_0 : LF tC := loopW tC p15_0 0 l15_0
theorem W15_0_ok : keyed 0 (bodyOf Try.f15) = [.block 0 (.loop c15_0)] ∧ ∀ n, n ≤ 0 → Snd tC n (.block 0 (.loop c15_0)) W15_0.k := ⟨by kernel_rfl, fun n hn => loopW_ok (p := p15_0) (id := 0) Y15 (lam_le (lam_cons W15_22_ok (lam_cons W15_37_ok lam_nil)) n hn) hn r15_0_run⟩
def S15 : FS := ⟨[[.s 5]], [⟨[.one (.one (.imm 5))], []⟩], [⟨[.tup [.one (.int .u64), .one (.sl 0), .one (.int .i64)]], [.arr 5]⟩], [[.v], [.v], [.v]], [(3, 5)]⟩
noncomputable def f15 (x : List Int × Unit) : Option (Int × Nat × Int × List Int × Unit) :=
  (l15_0 (x.fst, (0 : Int), x.fst, (↑x.fst.length : Int), (0 : Int), ())).bind fun y105 =>
  Sum.elim (fun y103 => some (y103.fst, y103.snd.fst, y103.snd.snd.fst, y103.snd.snd.snd.fst, ()))
    (fun _x => some ((0 : Int), (0 : Nat), (4 : Int), [], ())) y105
noncomputable def F15 : CF tC := mkF tC S15 f15
theorem f15_run : ∀ a, fnS tC G15 (look [(0, W15_0)]) Try.f15 S15 a = f15 a := fun a => by kernel_rfl
theorem F15_ok : CFOK tC 15 F15 := mkF_ok Y15 (fn := Try.f15) (body := bodyOf Try.f15) (by kernel_rfl) (by kernel_rfl) (by kernel_rfl) (m := 0) rfl (lam_le (lam_cons W15_0_ok lam_nil)) f15_run

/-! ref.ReadUint -/
noncomputable def G17 : FuncId → Option (CF tC) := look []
theorem Y17 : SysN tC G17 := (sys_nil tC_ok tC_eq)
noncomputable def c17_34 : Code := subCode (subCode (loopOf (bodyOf Try.f17) 0) 22) 34
def p17_34 : PS := ⟨0, [0, 5, 6], ⟨[.one (.one (.imm 5))] ++ vBs 4 ++ [.one (.one (.int .u64)), vI] ++ vBs 48, []⟩, [⟨.ret, [2, 3, 4], ⟨[vB, vB, .one (.one (.int .u64)), .one (.one (.sl 0)), vI] ++ vBs 50, [.arr 5]⟩, [(3, 5)]⟩], []⟩
noncomputable def j17_34 (x : List Int × Int × Int × Unit) : Option (Int × Nat × Int × List Int × Unit) :=
  bif
    decide ((0 : Int) ≤ IntKind.i64.wrap (x.snd.snd.fst + (1 : Int))) &&
          decide (IntKind.i64.wrap (x.snd.snd.fst + (1 : Int)) ≤ (↑x.fst.length : Int)) &&
        decide ((↑x.fst.length : Int) ≤ (↑x.fst.length : Int)) &&
      decide ((↑x.fst.length : Int) ≤ (↑x.fst.length : Int)) then
  bif
      roomy
        ((0 : Nat) + (List.drop (IntKind.i64.wrap (x.snd.snd.fst + (1 : Int))).toNat (List.take (↑x.fst.length : Int).toNat x.fst)).length)
        (1 : Nat) then
    some
      (x.snd.fst,
        (0 : Nat) + (List.drop (IntKind.i64.wrap (x.snd.snd.fst + (1 : Int))).toNat (List.take (↑x.fst.length : Int).toNat x.fst)).length,
        (0 : Int), [] ++ List.drop (IntKind.i64.wrap (x.snd.snd.fst + (1 : Int))).toNat (List.take (↑x.fst.length : Int).toNat x.fst), ())
  else none
else none
theorem j17_34_run (x : p17_34.s.ty tE) : pieceK tC G17 (look []) c17_34 p17_34 x = j17_34 x := by kernel_rfl
noncomputable def W17_34 : LF tC := cutLF tC p17_34 j17_34
theorem W17_34_ok : keyed 34 (subCode (loopOf (bodyOf Try.f17) 0) 22) = [c17_34] ∧ ∀ n, n ≤ 0 → Snd tC n c17_34 W17_34.k := ⟨by kernel_rfl, fun n hn => cut_ok (p := p17_34) Y17 (lam_le lam_nil n hn) hn j17_34_run⟩
noncomputable def c17_22 : Code := subCode (loopOf (bodyOf Try.f17) 0) 22
def p17_22 : PS := ⟨0, [0, 5, 6], ⟨[.one (.one (.imm 5))] ++ vBs 4 ++ [.one (.one (.int .u64)), vI] ++ vBs 48, []⟩, [⟨.ret, [2, 3, 4], ⟨[vB, vB, .one (.one (.int .u64)), .one (.one (.sl 0)), vI] ++ vBs 50, [.arr 5]⟩, [(3, 5)]⟩, ⟨.normal, [0, 5, 6], ⟨[.one (.one (.imm 5))] ++ vBs 4 ++ [.one (.one (.int .u64)), vI] ++ vBs 48, []⟩, []⟩], []⟩
noncomputable def j17_22 (x : List Int × Int × Int × Unit) : Option (Int × Nat × Int × List Int × Unit ⊕ List Int × Int × Int × Unit) :=
  (idxO x.fst x.snd.snd.fst).bind fun y38 =>
  bif decide (IntKind.u64.wrap (IntKind.i64.wrap ((7 : Int) * x.snd.snd.fst)) < (0 : Int)) then none
  else
    (idxO x.fst x.snd.snd.fst).bind fun y37 =>
      bif decide (y37 < (128 : Int)) then
        (idxO x.fst x.snd.snd.fst).bind fun y36 =>
          bif y36 == (0 : Int) then
            bif decide (x.snd.snd.fst > (0 : Int)) then some (Sum.inl ((0 : Int), (0 : Nat), (3 : Int), [], ()))
            else
              (j17_34
                    (x.fst,
                      IntKind.u64.wrap
                        (x.snd.fst +
                          IntKind.u64.wrap
                            (IntKind.u64.wrap (y38.tmod (128 : Int)) *
                              (2 : Int) ^ min (IntKind.u64.wrap (IntKind.i64.wrap ((7 : Int) * x.snd.snd.fst))).toNat (64 : Nat))),
                      x.snd.snd.fst, ())).bind
                fun y34 => some (Sum.inl (y34.fst, y34.snd.fst, y34.snd.snd.fst, y34.snd.snd.snd.fst, ()))
          else
            (j17_34
                  (x.fst,
                    IntKind.u64.wrap
                      (x.snd.fst +
                        IntKind.u64.wrap
                          (IntKind.u64.wrap (y38.tmod (128 : Int)) *
                            (2 : Int) ^ min (IntKind.u64.wrap (IntKind.i64.wrap ((7 : Int) * x.snd.snd.fst))).toNat (64 : Nat))),
                    x.snd.snd.fst, ())).bind
              fun y35 => some (Sum.inl (y35.fst, y35.snd.fst, y35.snd.snd.fst, y35.snd.snd.snd.fst, ()))
      else
        some
          (Sum.inr
            (x.fst,
              IntKind.u64.wrap
                (x.snd.fst +
                  IntKind.u64.wrap
                    (IntKind.u64.wrap (y38.tmod (128 : Int)) *
                      (2 : Int) ^ min (IntKind.u64.wrap (IntKind.i64.wrap ((7 : Int) * x.snd.snd.fst))).toNat (64 : Nat))),
              x.snd.snd.fst, ()))
theorem j17_22_run (x : p17_22.s.ty tE) : pieceK tC G17 (look [(34, W17_34)]) c17_22 p17_22 x = j17_22 x := by kernel_rfl
noncomputable def W17_22 : LF tC := cutLF tC p17_22 j17_22
theorem W17_22_ok : keyed 22 (loopOf (bodyOf Try.f17) 0) = [c17_22] ∧ ∀ n, n ≤ 0 → Snd tC n c17_22 W17_22.k := ⟨by kernel_rfl, fun n hn => cut_ok (p := p17_22) Y17 (lam_le (lam_cons W17_34_ok lam_nil) n hn) hn j17_22_run⟩
noncomputable def c17_13 : Code := subCode (loopOf (bodyOf Try.f17) 0) 13
def p17_13 : PS := ⟨0, [0, 5, 6], ⟨[.one (.one (.imm 5))] ++ vBs 4 ++ [.one (.one (.int .u64)), vI] ++ vBs 48, []⟩, [⟨.normal, [0, 5, 6], ⟨[.one (.one (.imm 5))] ++ vBs 4 ++ [.one (.one (.int .u64)), vI] ++ vBs 48, []⟩, []⟩], []⟩
noncomputable def j17_13 (x : List Int × Int × Int × Unit) : Option (List Int × Int × Int × Unit) :=
  some (x.fst, x.snd.fst, IntKind.i64.wrap (x.snd.snd.fst + (1 : Int)), ())
theorem j17_13_run (x : p17_13.s.ty tE) : pieceK tC G17 (look []) c17_13 p17_13 x = j17_13 x := by kernel_rfl
noncomputable def W17_13 : LF tC := cutLF tC p17_13 j17_13
theorem W17_13_ok : keyed 13 (loopOf (bodyOf Try.f17) 0) = [c17_13] ∧ ∀ n, n ≤ 0 → Snd tC n c17_13 W17_13.k := ⟨by kernel_rfl, fun n hn => cut_ok (p := p17_13) Y17 (lam_le lam_nil n hn) hn j17_13_run⟩
noncomputable def c17_0 : Code := loopOf (bodyOf Try.f17) 0
def p17_0 : LS := ⟨0, [0, 5, 6], ⟨[.one (.one (.imm 5))] ++ vBs 4 ++ [.one (.one (.int .u64)), vI] ++ vBs 48, []⟩, [⟨.ret, [2, 3, 4], ⟨[vB, vB, .one (.one (.int .u64)), .one (.one (.sl 0)), vI] ++ vBs 50, [.arr 5]⟩, [(3, 5)]⟩, ⟨.exit 0, [], ⟨vBs 55, []⟩, []⟩], []⟩
noncomputable def r17_0 (x : List Int × Int × Int × Unit) : Option (List Int × Int × Int × Unit ⊕ Int × Nat × Int × List Int × Unit ⊕ Unit) :=
  bif decide (x.snd.snd.fst < (↑x.fst.length : Int)) then
  bif x.snd.snd.fst == (9 : Int) then
    (idxO x.fst x.snd.snd.fst).bind fun y73 =>
      bif decide (y73 > (1 : Int)) then some (Sum.inr (Sum.inl ((0 : Int), (0 : Nat), (2 : Int), [], ())))
      else
        (j17_22 (x.fst, x.snd.fst, x.snd.snd.fst, ())).bind fun y72 =>
          Sum.elim (fun y69 => some (Sum.inr (Sum.inl (y69.fst, y69.snd.fst, y69.snd.snd.fst, y69.snd.snd.snd.fst, ()))))
            (fun y71 =>
              (j17_13 (y71.fst, y71.snd.fst, y71.snd.snd.fst, ())).bind fun y70 =>
                some (Sum.inl (y70.fst, y70.snd.fst, y70.snd.snd.fst, ())))
            y72
  else
    (j17_22 (x.fst, x.snd.fst, x.snd.snd.fst, ())).bind fun y77 =>
      Sum.elim (fun y74 => some (Sum.inr (Sum.inl (y74.fst, y74.snd.fst, y74.snd.snd.fst, y74.snd.snd.snd.fst, ()))))
        (fun y76 =>
          (j17_13 (y76.fst, y76.snd.fst, y76.snd.snd.fst, ())).bind fun y75 => some (Sum.inl (y75.fst, y75.snd.fst, y75.snd.snd.fst, ())))
        y77
else some (Sum.inr (Sum.inr ()))
theorem r17_0_run (x : p17_0.s.ty tE) : roundK tC G17 (look [(22, W17_22), (13, W17_13)]) c17_0 p17_0 x = r17_0 x := by kernel_rfl
noncomputable def l17_0 (x : List Int × Int × Int × Unit) : Option (Int × Nat × Int × List Int × Unit ⊕ Unit) := iterO r17_0 x
noncomputable def W17_0 : LF tC := loopW tC p17_0 0 l17_0
theorem W17_0_ok : keyed 0 (bodyOf Try.f17) = [.block 0 (.loop c17_0)] ∧ ∀ n, n ≤ 0 → Snd tC n (.block 0 (.loop c17_0)) W17_0.k := ⟨by kernel_rfl, fun n hn => loopW_ok (p := p17_0) (id := 0) Y17 (lam_le (lam_cons W17_22_ok (lam_cons W17_13_ok lam_nil)) n hn) hn r17_0_run⟩
def S17 : FS := ⟨[[.s 5]], [⟨[.one (.one (.imm 5))], []⟩], [⟨[.tup [.one (.int .u64), .one (.sl 0), .one (.int .i64)]], [.arr 5]⟩], [[.v], [.v], [.v]], [(3, 5)]⟩
noncomputable def f17 (x : List Int × Unit) : Option (Int × Nat × Int × List Int × Unit) :=
  (l17_0 (x.fst, (0 : Int), (0 : Int), ())).bind fun y88 =>
  Sum.elim (fun y86 => some (y86.fst, y86.snd.fst, y86.snd.snd.fst, y86.snd.snd.snd.fst, ()))
    (fun _x => some ((0 : Int), (0 : Nat), (4 : Int), [], ())) y88
noncomputable def F17 : CF tC := mkF tC S17 f17
theorem f17_run : ∀ a, fnS tC G17 (look [(0, W17_0)]) Try.f17 S17 a = f17 a := fun a => by kernel_rfl
theorem F17_ok : CFOK tC 17 F17 := mkF_ok Y17 (fn := Try.f17) (body := bodyOf Try.f17) (by kernel_rfl) (by kernel_rfl) (by kernel_rfl) (m := 0) rfl (lam_le (lam_cons W17_0_ok lam_nil)) f17_run

/-! ref.Uint -/
def S32 : FS := ⟨[[.v]], [⟨[.one (.one (.int .u64))], []⟩], [⟨[.one (.one (.sl 0))], [.arr 5]⟩], [[.v]], [(2, 5)]⟩
noncomputable def G32 (rec32 : altTy tE S32.ins → Option (altTy tE S32.outs)) : FuncId → Option (CF tC) := look [(32, mkF tC S32 rec32)]
noncomputable def b32 (rec32 : altTy tE S32.ins → Option (altTy tE S32.outs)) (x : Int × Unit) : Option (Nat × List Int × Unit) :=
  bif decide (x.fst < (128 : Int)) then some ((1 : Nat), [IntKind.u8.wrap x.fst], ())
else
  (rec32 (IntKind.u64.wrap (x.fst.tdiv (128 : Int)), ())).bind fun y6 =>
    bif decide (nat_lit 0 + y6.fst ≤ y6.snd.fst.length) then
      bif roomy ((1 : Nat) + (List.take y6.fst (List.drop (0 : Nat) y6.snd.fst)).length) (1 : Nat) then
        some
          ((1 : Nat) + (List.take y6.fst (List.drop (0 : Nat) y6.snd.fst)).length,
            IntKind.u8.wrap (IntKind.u64.wrap (x.fst.tmod (128 : Int) + (128 : Int))) ::
              List.append [] (List.take y6.fst (List.drop (0 : Nat) y6.snd.fst)),
            ())
      else none
    else none
noncomputable def n32 : Nat → altTy tE S32.ins → Option (altTy tE S32.outs)
  | 0 => fun _ => none
  | n + 1 => b32 (n32 n)
theorem b32_run (rec32 : altTy tE S32.ins → Option (altTy tE S32.outs)) : ∀ a, fnS tC (G32 rec32) (look []) Try.f32 S32 a = b32 rec32 a := fun a => by kernel_rfl
theorem n32_ok : ∀ n, CFOK tC 32 (mkF tC S32 (n32 n))
  | 0 => mkF_none (fn := Try.f32) (body := bodyOf Try.f32) (by kernel_rfl) (by kernel_rfl) (by kernel_rfl) _
  | n + 1 => mkF_ok (Γ := G32 (n32 n)) (sys_cons (n32_ok n) (mkF_nat _ _) (sys_nil tC_ok tC_eq)) (fn := Try.f32) (body := bodyOf Try.f32) (by kernel_rfl) (by kernel_rfl) (by kernel_rfl) (m := 0) rfl (lam_le lam_nil) (b32_run (n32 n))
noncomputable def f32 (x : altTy tE S32.ins) : Option (altTy tE S32.outs) := n32 ((fun _ => 11 : altTy tE S32.ins → Nat) x) x
noncomputable def F32 : CF tC := mkF tC S32 f32
theorem F32_ok : CFOK tC 32 F32 := mkF_fuel n32_ok _

/-! Int -/
noncomputable def G18 : FuncId → Option (CF tC) := look [(14, F14)]
theorem Y18 : SysN tC G18 := (sys_cons F14_ok (mkF_nat _ _) (sys_nil tC_ok tC_eq))
def S18 : FS := ⟨[[.v]], [⟨[vI], []⟩], [⟨[.one (.one (.imm 5))], []⟩], [[.s 5]], []⟩
noncomputable def f18 (x : Int × Unit) : Option (List Int × Unit) :=
  (f14
      (bits BinOp.xor IntKind.u64 (IntKind.u64.wrap (IntKind.u64.wrap x.fst * (2 : Int)))
          (IntKind.u64.wrap (x.fst.fdiv (9223372036854775808 : Int))),
        ())).bind
  fun y5 => bif decide (nat_lit 0 + y5.fst ≤ y5.snd.fst.length) then some (List.take y5.fst (List.drop (0 : Nat) y5.snd.fst), ()) else none
noncomputable def F18 : CF tC := mkF tC S18 f18
theorem f18_run : ∀ a, fnS tC G18 (look []) Try.f18 S18 a = f18 a := fun a => by kernel_rfl
theorem F18_ok : CFOK tC 18 F18 := mkF_ok Y18 (fn := Try.f18) (body := bodyOf Try.f18) (by kernel_rfl) (by kernel_rfl) (by kernel_rfl) (m := 0) rfl (lam_le lam_nil) f18_run

/-! ReadInt -/
noncomputable def G19 : FuncId → Option (CF tC) := look [(15, F15)]
theorem Y19 : SysN tC G19 := (sys_cons F15_ok (mkF_nat _ _) (sys_nil tC_ok tC_eq))
def S19 : FS := ⟨[[.s 5]], [⟨[.one (.one (.imm 5))], []⟩], [⟨[.tup [.one (.int .i64), .one (.sl 0), .one (.int .i64)]], [.arr 5]⟩], [[.v], [.v], [.v]], [(3, 5)]⟩
noncomputable def f19 (x : List Int × Unit) : Option (Int × Nat × Int × List Int × Unit) :=
  (f15 (x.fst, ())).bind fun y10 =>
  bif y10.snd.snd.fst != (0 : Int) then some ((0 : Int), (0 : Nat), y10.snd.snd.fst, [], ())
  else
    some
      (bits BinOp.xor IntKind.i64 (IntKind.i64.wrap (y10.fst.fdiv (2 : Int)))
          (IntKind.i64.wrap ((0 : Int) - IntKind.i64.wrap (bits BinOp.and IntKind.u64 y10.fst (1 : Int)))),
        y10.snd.fst, (0 : Int), y10.snd.snd.snd.fst, ())
noncomputable def F19 : CF tC := mkF tC S19 f19
theorem f19_run : ∀ a, fnS tC G19 (look []) Try.f19 S19 a = f19 a := fun a => by kernel_rfl
theorem F19_ok : CFOK tC 19 F19 := mkF_ok Y19 (fn := Try.f19) (body := bodyOf Try.f19) (by kernel_rfl) (by kernel_rfl) (by kernel_rfl) (m := 0) rfl (lam_le lam_nil) f19_run

/-! ref.ReadInt -/
noncomputable def G20 : FuncId → Option (CF tC) := look [(17, F17)]
theorem Y20 : SysN tC G20 := (sys_cons F17_ok (mkF_nat _ _) (sys_nil tC_ok tC_eq))
def S20 : FS := ⟨[[.s 5]], [⟨[.one (.one (.imm 5))], []⟩], [⟨[.tup [.one (.int .i64), .one (.sl 0), .one (.int .i64)]], [.arr 5]⟩], [[.v], [.v], [.v]], [(3, 5)]⟩
noncomputable def f20 (x : List Int × Unit) : Option (Int × Nat × Int × List Int × Unit) :=
  (f17 (x.fst, ())).bind fun y10 =>
  bif y10.fst.tmod (2 : Int) == (0 : Int) then
    some (IntKind.i64.wrap (IntKind.u64.wrap (y10.fst.tdiv (2 : Int))), y10.snd.fst, y10.snd.snd.fst, y10.snd.snd.snd.fst, ())
  else
    some
      (IntKind.i64.wrap (IntKind.i64.wrap ((0 : Int) - IntKind.i64.wrap (IntKind.u64.wrap (y10.fst.tdiv (2 : Int)))) - (1 : Int)),
        y10.snd.fst, y10.snd.snd.fst, y10.snd.snd.snd.fst, ())
noncomputable def F20 : CF tC := mkF tC S20 f20
theorem f20_run : ∀ a, fnS tC G20 (look []) Try.f20 S20 a = f20 a := fun a => by kernel_rfl
theorem F20_ok : CFOK tC 20 F20 := mkF_ok Y20 (fn := Try.f20) (body := bodyOf Try.f20) (by kernel_rfl) (by kernel_rfl) (by kernel_rfl) (m := 0) rfl (lam_le lam_nil) f20_run

/-! ref.Int -/
noncomputable def G21 : FuncId → Option (CF tC) := look [(32, F32)]
theorem Y21 : SysN tC G21 := (sys_cons F32_ok (mkF_nat _ _) (sys_nil tC_ok tC_eq))
def S21 : FS := ⟨[[.v]], [⟨[vI], []⟩], [⟨[.one (.one (.imm 5))], []⟩], [[.s 5]], []⟩
noncomputable def f21 (x : Int × Unit) : Option (List Int × Unit) :=
  bif decide (x.fst ≥ (0 : Int)) then
  (f32 (IntKind.u64.wrap ((2 : Int) * IntKind.u64.wrap x.fst), ())).bind fun y7 =>
    bif decide (nat_lit 0 + y7.fst ≤ y7.snd.fst.length) then some (List.take y7.fst (List.drop (0 : Nat) y7.snd.fst), ()) else none
else
  (f32
        (IntKind.u64.wrap
            (IntKind.u64.wrap ((2 : Int) * IntKind.u64.wrap (IntKind.i64.wrap ((0 : Int) - IntKind.i64.wrap (x.fst + (1 : Int))))) +
              (1 : Int)),
          ())).bind
    fun y8 =>
    bif decide (nat_lit 0 + y8.fst ≤ y8.snd.fst.length) then some (List.take y8.fst (List.drop (0 : Nat) y8.snd.fst), ()) else none
noncomputable def F21 : CF tC := mkF tC S21 f21
theorem f21_run : ∀ a, fnS tC G21 (look []) Try.f21 S21 a = f21 a := fun a => by kernel_rfl
theorem F21_ok : CFOK tC 21 F21 := mkF_ok Y21 (fn := Try.f21) (body := bodyOf Try.f21) (by kernel_rfl) (by kernel_rfl) (by kernel_rfl) (m := 0) rfl (lam_le lam_nil) f21_run

/-! checked -/
noncomputable def G33 : FuncId → Option (CF tC) := look [(22, F22)]
theorem Y33 : SysN tC G33 := (sys_cons F22_ok (mkF_nat _ _) (sys_nil tC_ok tC_eq))
noncomputable def c33_0 : Code := loopOf (bodyOf Try.f33) 0
def p33_0 : LS := ⟨1, [0, 3, 6], ⟨[.one (.one (.sl 1)), vB, vB, .one (.one (.int .u32)), vB, vB, vI] ++ vBs 10, [.gone, .arr 5]⟩, [⟨.exit 0, [0], ⟨[.one (.one (.sl 1))] ++ vBs 16, [.gone, .arr 5]⟩, []⟩], [(0, 5)]⟩
noncomputable def r33_0 (x : Nat × Int × Int × List Int × Unit) : Option (Nat × Int × Int × List Int × Unit ⊕ Nat × List Int × Unit) :=
  bif decide (x.snd.snd.fst < (4 : Int)) then
  bif decide (nat_lit 0 + x.fst ≤ x.snd.snd.snd.fst.length) then
    bif roomy (x.fst + (1 : Nat)) (1 : Nat) then
      some
        (Sum.inl
          (x.fst + (1 : Nat), x.snd.fst.fdiv (256 : Int), IntKind.i64.wrap (x.snd.snd.fst + (1 : Int)),
            List.take x.fst (List.drop (0 : Nat) x.snd.snd.snd.fst) ++ [IntKind.u8.wrap x.snd.fst], ()))
    else none
  else none
else some (Sum.inr (x.fst, x.snd.snd.snd.fst, ()))
theorem r33_0_run (x : p33_0.s.ty tE) : roundK tC G33 (look []) c33_0 p33_0 x = r33_0 x := by kernel_rfl
noncomputable def l33_0 (x : Nat × Int × Int × List Int × Unit) : Option (Nat × List Int × Unit) := iterO r33_0 x
noncomputable def W33_0 : LF tC := loopW tC p33_0 0 l33_0
theorem W33_0_ok : keyed 0 (bodyOf Try.f33) = [.block 0 (.loop c33_0)] ∧ ∀ n, n ≤ 1 → Snd tC n (.block 0 (.loop c33_0)) W33_0.k := ⟨by kernel_rfl, fun n hn => loopW_ok (p := p33_0) (id := 0) Y33 (lam_le lam_nil n hn) hn r33_0_run⟩
def S33 : FS := ⟨[[.o 5]], [⟨[.one (.one (.sl 0))], [.arr 5]⟩], [⟨[.one (.one (.sl 1))], [.gone, .arr 5]⟩], [[.v]], [(2, 5)]⟩
noncomputable def f33 (x : Nat × List Int × Unit) : Option (Nat × List Int × Unit) :=
  bif decide (nat_lit 0 + x.fst ≤ x.snd.fst.length) then
  (f22 (List.take x.fst (List.drop (0 : Nat) x.snd.fst), ())).bind fun y19 =>
    (l33_0 (x.fst, y19.fst, (0 : Int), x.snd.fst, ())).bind fun y18 => some (y18.fst, y18.snd.fst, ())
else none
noncomputable def F33 : CF tC := mkF tC S33 f33
theorem f33_run : ∀ a, fnS tC G33 (look [(0, W33_0)]) Try.f33 S33 a = f33 a := fun a => by kernel_rfl
theorem F33_ok : CFOK tC 33 F33 := mkF_ok Y33 (fn := Try.f33) (body := bodyOf Try.f33) (by kernel_rfl) (by kernel_rfl) (by kernel_rfl) (m := 1) rfl (lam_le (lam_cons W33_0_ok lam_nil)) f33_run

/-! Bytes -/
noncomputable def G28 : FuncId → Option (CF tC) := look [(14, F14)]
theorem Y28 : SysN tC G28 := (sys_cons F14_ok (mkF_nat _ _) (sys_nil tC_ok tC_eq))
def S28 : FS := ⟨[[.s 5]], [⟨[.one (.one (.imm 5))], []⟩], [⟨[.one (.one (.sl 0))], [.arr 5]⟩], [[.v]], [(2, 5)]⟩
noncomputable def f28 (x : List Int × Unit) : Option (Nat × List Int × Unit) :=
  (f14 (IntKind.u64.wrap (↑x.fst.length : Int), ())).bind fun y6 =>
  bif decide (nat_lit 0 + y6.fst ≤ y6.snd.fst.length) then
    bif roomy (y6.fst + x.fst.length) (1 : Nat) then
      some (y6.fst + x.fst.length, List.take y6.fst (List.drop (0 : Nat) y6.snd.fst) ++ x.fst, ())
    else none
  else none
noncomputable def F28 : CF tC := mkF tC S28 f28
theorem f28_run : ∀ a, fnS tC G28 (look []) Try.f28 S28 a = f28 a := fun a => by kernel_rfl
theorem F28_ok : CFOK tC 28 F28 := mkF_ok Y28 (fn := Try.f28) (body := bodyOf Try.f28) (by kernel_rfl) (by kernel_rfl) (by kernel_rfl) (m := 0) rfl (lam_le lam_nil) f28_run

/-! ref.Bytes -/
noncomputable def G34 : FuncId → Option (CF tC) := look [(32, F32)]
theorem Y34 : SysN tC G34 := (sys_cons F32_ok (mkF_nat _ _) (sys_nil tC_ok tC_eq))
def S34 : FS := ⟨[[.s 5]], [⟨[.one (.one (.imm 5))], []⟩], [⟨[.one (.one (.sl 0))], [.arr 5]⟩], [[.v]], [(2, 5)]⟩
noncomputable def f34 (x : List Int × Unit) : Option (Nat × List Int × Unit) :=
  (f32 (IntKind.u64.wrap (↑x.fst.length : Int), ())).bind fun y6 =>
  bif decide (nat_lit 0 + y6.fst ≤ y6.snd.fst.length) then
    bif roomy (y6.fst + x.fst.length) (1 : Nat) then
      some (y6.fst + x.fst.length, List.take y6.fst (List.drop (0 : Nat) y6.snd.fst) ++ x.fst, ())
    else none
  else none
noncomputable def F34 : CF tC := mkF tC S34 f34
theorem f34_run : ∀ a, fnS tC G34 (look []) Try.f34 S34 a = f34 a := fun a => by kernel_rfl
theorem F34_ok : CFOK tC 34 F34 := mkF_ok Y34 (fn := Try.f34) (body := bodyOf Try.f34) (by kernel_rfl) (by kernel_rfl) (by kernel_rfl) (m := 0) rfl (lam_le lam_nil) f34_run

/-! Frame -/
noncomputable def G24 : FuncId → Option (CF tC) := look [(33, F33), (28, F28)]
theorem Y24 : SysN tC G24 := (sys_cons F33_ok (mkF_nat _ _) (sys_cons F28_ok (mkF_nat _ _) (sys_nil tC_ok tC_eq)))
def S24 : FS := ⟨[[.v], [.s 5]], [⟨[.one (.one (.int .u8)), .one (.one (.imm 5))], []⟩], [⟨[.tup [.one (.sl 0), .one (.int .i64)]], [.arr 5]⟩], [[.v], [.v]], [(4, 5)]⟩
noncomputable def f24 (x : Int × List Int × Unit) : Option (Nat × Int × List Int × Unit) :=
  bif decide ((↑x.snd.fst.length : Int) > (4096 : Int)) then some ((0 : Nat), (6 : Int), [], ())
else
  (f28 (x.snd.fst, ())).bind fun y11 =>
    bif decide (nat_lit 0 + y11.fst ≤ y11.snd.fst.length) then
      bif roomy ((1 : Nat) + (List.take y11.fst (List.drop (0 : Nat) y11.snd.fst)).length) (1 : Nat) then
        bif
            decide
              (nat_lit 0 + ((1 : Nat) + (List.take y11.fst (List.drop (0 : Nat) y11.snd.fst)).length) ≤
                (x.fst :: List.append [] (List.take y11.fst (List.drop (0 : Nat) y11.snd.fst))).length) then
          (f33
                ((1 : Nat) + (List.take y11.fst (List.drop (0 : Nat) y11.snd.fst)).length,
                  List.take ((1 : Nat) + (List.take y11.fst (List.drop (0 : Nat) y11.snd.fst)).length)
                    (x.fst :: List.append [] (List.take y11.fst (List.drop (0 : Nat) y11.snd.fst))),
                  ())).bind
            fun y10 => some (y10.fst, (0 : Int), y10.snd.fst, ())
        else none
      else none
    else none
noncomputable def F24 : CF tC := mkF tC S24 f24
theorem f24_run : ∀ a, fnS tC G24 (look []) Try.f24 S24 a = f24 a := fun a => by kernel_rfl
theorem F24_ok : CFOK tC 24 F24 := mkF_ok Y24 (fn := Try.f24) (body := bodyOf Try.f24) (by kernel_rfl) (by kernel_rfl) (by kernel_rfl) (m := 0) rfl (lam_le lam_nil) f24_run

/-! ref.Frame -/
noncomputable def G25 : FuncId → Option (CF tC) := look [(34, F34), (23, F23), (35, F35)]
theorem Y25 : SysN tC G25 := (sys_cons F34_ok (mkF_nat _ _) (sys_cons F23_ok (mkF_nat _ _) (sys_cons F35_ok (mkF_nat _ _) (sys_nil tC_ok tC_eq))))
def S25 : FS := ⟨[[.v], [.s 5]], [⟨[.one (.one (.int .u8)), .one (.one (.imm 5))], []⟩], [⟨[.tup [.one (.sl 0), .one (.int .i64)]], [.arr 5]⟩], [[.v], [.v]], [(4, 5)]⟩
noncomputable def f25 (x : Int × List Int × Unit) : Option (Nat × Int × List Int × Unit) :=
  bif decide ((↑x.snd.fst.length : Int) > (4096 : Int)) then some ((0 : Nat), (6 : Int), [], ())
else
  (f34 (x.snd.fst, ())).bind fun y10 =>
    bif decide (nat_lit 0 + y10.fst ≤ y10.snd.fst.length) then
      bif roomy ((1 : Nat) + (List.take y10.fst (List.drop (0 : Nat) y10.snd.fst)).length) (1 : Nat) then
        bif
            decide
              (nat_lit 0 + ((1 : Nat) + (List.take y10.fst (List.drop (0 : Nat) y10.snd.fst)).length) ≤
                (x.fst :: List.append [] (List.take y10.fst (List.drop (0 : Nat) y10.snd.fst))).length) then
          (f23
                (List.take ((1 : Nat) + (List.take y10.fst (List.drop (0 : Nat) y10.snd.fst)).length)
                    (x.fst :: List.append [] (List.take y10.fst (List.drop (0 : Nat) y10.snd.fst))),
                  ())).bind
            fun y9 =>
            bif decide (nat_lit 0 + (f35 y9.fst).fst ≤ (f35 y9.fst).snd.length) then
              bif
                  decide
                    (nat_lit 0 + ((1 : Nat) + (List.take y10.fst (List.drop (0 : Nat) y10.snd.fst)).length) ≤
                      (x.fst :: List.append [] (List.take y10.fst (List.drop (0 : Nat) y10.snd.fst))).length) then
                bif
                    roomy
                      ((1 : Nat) + (List.take y10.fst (List.drop (0 : Nat) y10.snd.fst)).length +
                        (List.take (f35 y9.fst).fst (List.drop (0 : Nat) (f35 y9.fst).snd)).length)
                      (1 : Nat) then
                  some
                    ((1 : Nat) + (List.take y10.fst (List.drop (0 : Nat) y10.snd.fst)).length +
                        (List.take (f35 y9.fst).fst (List.drop (0 : Nat) (f35 y9.fst).snd)).length,
                      (0 : Int),
                      List.take ((1 : Nat) + (List.take y10.fst (List.drop (0 : Nat) y10.snd.fst)).length)
                          (x.fst :: List.append [] (List.take y10.fst (List.drop (0 : Nat) y10.snd.fst))) ++
                        List.take (f35 y9.fst).fst (List.drop (0 : Nat) (f35 y9.fst).snd),
                      ())
                else none
              else none
            else none
        else none
      else none
    else none
noncomputable def F25 : CF tC := mkF tC S25 f25
theorem f25_run : ∀ a, fnS tC G25 (look []) Try.f25 S25 a = f25 a := fun a => by kernel_rfl
theorem F25_ok : CFOK tC 25 F25 := mkF_ok Y25 (fn := Try.f25) (body := bodyOf Try.f25) (by kernel_rfl) (by kernel_rfl) (by kernel_rfl) (m := 0) rfl (lam_le lam_nil) f25_run

/-! ReadBytes -/
noncomputable def G29 : FuncId → Option (CF tC) := look [(15, F15)]
theorem Y29 : SysN tC G29 := (sys_cons F15_ok (mkF_nat _ _) (sys_nil tC_ok tC_eq))
def S29 : FS := ⟨[[.s 5], [.v]], [⟨[.one (.one (.imm 5)), vI], []⟩], [⟨[.tup [.one (.sl 0), .one (.slw 0), .one (.int .i64)]], [.arr 5]⟩], [[.v], [.v], [.v]], [(4, 5), (5, 1000004)]⟩
noncomputable def f29 (x : List Int × Int × Unit) : Option (Nat × Nat × Nat × Int × List Int × Unit) :=
  (f15 (x.fst, ())).bind fun y12 =>
  bif y12.snd.snd.fst != (0 : Int) then some ((0 : Nat), (0 : Nat), (0 : Nat), y12.snd.snd.fst, [], ())
  else
    bif decide (y12.fst > IntKind.u64.wrap (bif decide ((0 : Int) > x.snd.fst) then (0 : Int) else x.snd.fst)) then
      some ((0 : Nat), (0 : Nat), (0 : Nat), (6 : Int), [], ())
    else
      bif decide (y12.fst > IntKind.u64.wrap (↑y12.snd.fst : Int)) then some ((0 : Nat), (0 : Nat), (0 : Nat), (4 : Int), [], ())
      else
        bif true && decide ((0 : Int) ≤ y12.fst) && decide (y12.fst ≤ y12.fst) && decide (y12.fst ≤ (↑y12.snd.fst : Int)) then
          bif
              decide ((0 : Int) ≤ y12.fst) && decide (y12.fst ≤ (↑y12.snd.fst : Int)) &&
                  decide ((↑y12.snd.fst : Int) ≤ (↑y12.snd.fst : Int)) &&
                decide ((↑y12.snd.fst : Int) ≤ (↑y12.snd.fst : Int)) then
            some
              (y12.fst.toNat - (0 : Nat), (0 : Nat) + y12.fst.toNat, (↑y12.snd.fst : Int).toNat - y12.fst.toNat, (0 : Int),
                y12.snd.snd.snd.fst, ())
          else none
        else none
noncomputable def F29 : CF tC := mkF tC S29 f29
theorem f29_run : ∀ a, fnS tC G29 (look []) Try.f29 S29 a = f29 a := fun a => by kernel_rfl
theorem F29_ok : CFOK tC 29 F29 := mkF_ok Y29 (fn := Try.f29) (body := bodyOf Try.f29) (by kernel_rfl) (by kernel_rfl) (by kernel_rfl) (m := 0) rfl (lam_le lam_nil) f29_run

/-! ref.ReadBytes -/
noncomputable def G30 : FuncId → Option (CF tC) := look [(17, F17)]
theorem Y30 : SysN tC G30 := (sys_cons F17_ok (mkF_nat _ _) (sys_nil tC_ok tC_eq))
def S30 : FS := ⟨[[.s 5], [.v]], [⟨[.one (.one (.imm 5)), vI], []⟩], [⟨[.tup [.one (.sl 0), .one (.sl 1), .one (.int .i64)]], [.arr 5, .arr 5]⟩], [[.v], [.v], [.v]], [(4, 5), (5, 5)]⟩
noncomputable def f30 (x : List Int × Int × Unit) : Option (Nat × Nat × Int × List Int × List Int × Unit) :=
  (f17 (x.fst, ())).bind fun y12 =>
  bif y12.snd.snd.fst != (0 : Int) then some ((0 : Nat), (0 : Nat), y12.snd.snd.fst, [], [], ())
  else
    bif decide (y12.fst > IntKind.u64.wrap (bif decide ((0 : Int) > x.snd.fst) then (0 : Int) else x.snd.fst)) then
      some ((0 : Nat), (0 : Nat), (6 : Int), [], [], ())
    else
      bif decide (y12.fst > IntKind.u64.wrap (↑y12.snd.fst : Int)) then some ((0 : Nat), (0 : Nat), (4 : Int), [], [], ())
      else
        bif
            true && decide ((0 : Int) ≤ y12.fst) && decide (y12.fst ≤ (↑y12.snd.fst : Int)) &&
              decide ((↑y12.snd.fst : Int) ≤ (↑y12.snd.fst : Int)) then
          bif decide (nat_lit 0 + (y12.fst.toNat - (0 : Nat)) ≤ y12.snd.snd.snd.fst.length) then
            bif roomy ((0 : Nat) + (List.take (y12.fst.toNat - (0 : Nat)) (List.drop (0 : Nat) y12.snd.snd.snd.fst)).length) (1 : Nat) then
              bif
                  decide ((0 : Int) ≤ y12.fst) && decide (y12.fst ≤ (↑y12.snd.fst : Int)) &&
                      decide ((↑y12.snd.fst : Int) ≤ (↑y12.snd.fst : Int)) &&
                    decide ((↑y12.snd.fst : Int) ≤ (↑y12.snd.fst : Int)) then
                bif decide ((0 : Nat) + y12.fst.toNat + ((↑y12.snd.fst : Int).toNat - y12.fst.toNat) ≤ y12.snd.snd.snd.fst.length) then
                  bif
                      roomy
                        ((0 : Nat) +
                          (List.take ((↑y12.snd.fst : Int).toNat - y12.fst.toNat)
                              (List.drop ((0 : Nat) + y12.fst.toNat) y12.snd.snd.snd.fst)).length)
                        (1 : Nat) then
                    some
                      ((0 : Nat) + (List.take (y12.fst.toNat - (0 : Nat)) (List.drop (0 : Nat) y12.snd.snd.snd.fst)).length,
                        (0 : Nat) +
                          (List.take ((↑y12.snd.fst : Int).toNat - y12.fst.toNat)
                              (List.drop ((0 : Nat) + y12.fst.toNat) y12.snd.snd.snd.fst)).length,
                        (0 : Int), [] ++ List.take (y12.fst.toNat - (0 : Nat)) (List.drop (0 : Nat) y12.snd.snd.snd.fst),
                        [] ++
                          List.take ((↑y12.snd.fst : Int).toNat - y12.fst.toNat)
                            (List.drop ((0 : Nat) + y12.fst.toNat) y12.snd.snd.snd.fst),
                        ())
                  else none
                else none
              else none
            else none
          else none
        else none
noncomputable def F30 : CF tC := mkF tC S30 f30
theorem f30_run : ∀ a, fnS tC G30 (look []) Try.f30 S30 a = f30 a := fun a => by kernel_rfl
theorem F30_ok : CFOK tC 30 F30 := mkF_ok Y30 (fn := Try.f30) (body := bodyOf Try.f30) (by kernel_rfl) (by kernel_rfl) (by kernel_rfl) (m := 0) rfl (lam_le lam_nil) f30_run

/-! Unframe -/
noncomputable def G26 : FuncId → Option (CF tC) := look [(15, F15), (33, F33), (31, F31), (36, F36)]
theorem Y26 : SysN tC G26 := (sys_cons F15_ok (mkF_nat _ _) (sys_cons F33_ok (mkF_nat _ _) (sys_cons F31_ok (mkF_nat _ _) (sys_cons F36_ok (mkF_nat _ _) (sys_nil tC_ok tC_eq)))))
def S26 : FS := ⟨[[.s 5]], [⟨[.one (.one (.imm 5))], []⟩], [⟨[.tup [.one (.int .u8), .one (.sl 0), .one (.slw 0), .one (.int .i64)]], [.arr 5]⟩], [[.v], [.v], [.v], [.v]], [(3, 5), (4, 1000003)]⟩
noncomputable def f26 (x : List Int × Unit) : Option (Int × Nat × Nat × Nat × Int × List Int × Unit) :=
  bif (↑x.fst.length : Int) == (0 : Int) then some ((0 : Int), (0 : Nat), (0 : Nat), (0 : Nat), (4 : Int), [], ())
else
  bif
      true && decide ((1 : Int) ≤ (↑x.fst.length : Int)) && decide ((↑x.fst.length : Int) ≤ (↑x.fst.length : Int)) &&
        decide ((↑x.fst.length : Int) ≤ (↑x.fst.length : Int)) then
    (f15 (List.drop (1 : Nat) (List.take (↑x.fst.length : Int).toNat x.fst), ())).bind fun y22 =>
      bif y22.snd.snd.fst != (0 : Int) then some ((0 : Int), (0 : Nat), (0 : Nat), (0 : Nat), y22.snd.snd.fst, [], ())
      else
        bif decide (y22.fst > (4096 : Int)) then some ((0 : Int), (0 : Nat), (0 : Nat), (0 : Nat), (6 : Int), [], ())
        else
          bif decide ((↑y22.snd.fst : Int) < IntKind.i64.wrap (IntKind.i64.wrap y22.fst + (4 : Int))) then
            some ((0 : Int), (0 : Nat), (0 : Nat), (0 : Nat), (4 : Int), [], ())
          else
            bif
                true &&
                      decide
                        ((0 : Int) ≤
                          IntKind.i64.wrap (IntKind.i64.wrap ((↑x.fst.length : Int) - (↑y22.snd.fst : Int)) + IntKind.i64.wrap y22.fst)) &&
                    decide
                      (IntKind.i64.wrap (IntKind.i64.wrap ((↑x.fst.length : Int) - (↑y22.snd.fst : Int)) + IntKind.i64.wrap y22.fst) ≤
                        (↑x.fst.length : Int)) &&
                  decide ((↑x.fst.length : Int) ≤ (↑x.fst.length : Int)) then
              (f31
                    (List.drop (0 : Nat)
                        (List.take
                          (IntKind.i64.wrap
                              (IntKind.i64.wrap ((↑x.fst.length : Int) - (↑y22.snd.fst : Int)) + IntKind.i64.wrap y22.fst)).toNat
                          x.fst),
                      ())).bind
                fun y21 =>
                bif decide (nat_lit 0 + y21.fst ≤ y21.snd.fst.length) then
                  (f33 (y21.fst, List.take y21.fst (List.drop (0 : Nat) y21.snd.fst), ())).bind fun y20 =>
                    bif
                        true &&
                              decide
                                ((0 : Int) ≤
                                  IntKind.i64.wrap
                                    (IntKind.i64.wrap
                                        (IntKind.i64.wrap ((↑x.fst.length : Int) - (↑y22.snd.fst : Int)) + IntKind.i64.wrap y22.fst) +
                                      (4 : Int))) &&
                            decide
                              (IntKind.i64.wrap
                                  (IntKind.i64.wrap
                                      (IntKind.i64.wrap ((↑x.fst.length : Int) - (↑y22.snd.fst : Int)) + IntKind.i64.wrap y22.fst) +
                                    (4 : Int)) ≤
                                (↑x.fst.length : Int)) &&
                          decide ((↑x.fst.length : Int) ≤ (↑x.fst.length : Int)) then
                      bif decide (nat_lit 0 + y20.fst ≤ y20.snd.fst.length) then
                        (f36
                              (List.take y20.fst (List.drop (0 : Nat) y20.snd.fst),
                                List.drop (0 : Nat)
                                  (List.take
                                    (IntKind.i64.wrap
                                        (IntKind.i64.wrap
                                            (IntKind.i64.wrap ((↑x.fst.length : Int) - (↑y22.snd.fst : Int)) + IntKind.i64.wrap y22.fst) +
                                          (4 : Int))).toNat
                                    x.fst),
                                ())).bind
                          fun y19 =>
                          bif !y19.fst then some ((0 : Int), (0 : Nat), (0 : Nat), (0 : Nat), (5 : Int), [], ())
                          else
                            (idxO x.fst (0 : Int)).bind fun y18 =>
                              bif
                                  true && decide ((0 : Int) ≤ y22.fst) && decide (y22.fst ≤ y22.fst) &&
                                    decide (y22.fst ≤ (↑y22.snd.fst : Int)) then
                                bif
                                    decide ((0 : Int) ≤ IntKind.i64.wrap (IntKind.i64.wrap y22.fst + (4 : Int))) &&
                                          decide (IntKind.i64.wrap (IntKind.i64.wrap y22.fst + (4 : Int)) ≤ (↑y22.snd.fst : Int)) &&
                                        decide ((↑y22.snd.fst : Int) ≤ (↑y22.snd.fst : Int)) &&
                                      decide ((↑y22.snd.fst : Int) ≤ (↑y22.snd.fst : Int)) then
                                  some
                                    (y18, y22.fst.toNat - (0 : Nat),
                                      (0 : Nat) + (IntKind.i64.wrap (IntKind.i64.wrap y22.fst + (4 : Int))).toNat,
                                      (↑y22.snd.fst : Int).toNat - (IntKind.i64.wrap (IntKind.i64.wrap y22.fst + (4 : Int))).toNat,
                                      (0 : Int), y22.snd.snd.snd.fst, ())
                                else none
                              else none
                      else none
                    else none
                else none
            else none
  else none
noncomputable def F26 : CF tC := mkF tC S26 f26
theorem f26_run : ∀ a, fnS tC G26 (look []) Try.f26 S26 a = f26 a := fun a => by kernel_rfl
theorem F26_ok : CFOK tC 26 F26 := mkF_ok Y26 (fn := Try.f26) (body := bodyOf Try.f26) (by kernel_rfl) (by kernel_rfl) (by kernel_rfl) (m := 0) rfl (lam_le lam_nil) f26_run

/-! ref.Unframe -/
noncomputable def G27 : FuncId → Option (CF tC) := look [(17, F17), (25, F25)]
theorem Y27 : SysN tC G27 := (sys_cons F17_ok (mkF_nat _ _) (sys_cons F25_ok (mkF_nat _ _) (sys_nil tC_ok tC_eq)))
def S27 : FS := ⟨[[.s 5]], [⟨[.one (.one (.imm 5))], []⟩], [⟨[.tup [.one (.int .u8), .one (.sl 0), .one (.sl 1), .one (.int .i64)]], [.arr 5, .arr 5]⟩], [[.v], [.v], [.v], [.v]], [(3, 5), (4, 5)]⟩
noncomputable def f27 (x : List Int × Unit) : Option (Int × Nat × Nat × Int × List Int × List Int × Unit) :=
  bif (↑x.fst.length : Int) == (0 : Int) then some ((0 : Int), (0 : Nat), (0 : Nat), (4 : Int), [], [], ())
else
  bif
      true && decide ((1 : Int) ≤ (↑x.fst.length : Int)) && decide ((↑x.fst.length : Int) ≤ (↑x.fst.length : Int)) &&
        decide ((↑x.fst.length : Int) ≤ (↑x.fst.length : Int)) then
    (f17 (List.drop (1 : Nat) (List.take (↑x.fst.length : Int).toNat x.fst), ())).bind fun y20 =>
      bif y20.snd.snd.fst != (0 : Int) then some ((0 : Int), (0 : Nat), (0 : Nat), y20.snd.snd.fst, [], [], ())
      else
        bif decide (y20.fst > (4096 : Int)) then some ((0 : Int), (0 : Nat), (0 : Nat), (6 : Int), [], [], ())
        else
          bif decide ((↑y20.snd.fst : Int) < IntKind.i64.wrap (IntKind.i64.wrap y20.fst + (4 : Int))) then
            some ((0 : Int), (0 : Nat), (0 : Nat), (4 : Int), [], [], ())
          else
            bif
                true && decide ((0 : Int) ≤ y20.fst) && decide (y20.fst ≤ (↑y20.snd.fst : Int)) &&
                  decide ((↑y20.snd.fst : Int) ≤ (↑y20.snd.fst : Int)) then
              (idxO x.fst (0 : Int)).bind fun y19 =>
                bif decide (nat_lit 0 + (y20.fst.toNat - (0 : Nat)) ≤ y20.snd.snd.snd.fst.length) then
                  (f25 (y19, List.take (y20.fst.toNat - (0 : Nat)) (List.drop (0 : Nat) y20.snd.snd.snd.fst), ())).bind fun y18 =>
                    bif decide (nat_lit 0 + y18.fst ≤ y18.snd.snd.fst.length) then
                      bif
                          true && decide ((↑y18.fst : Int) ≤ (↑x.fst.length : Int)) &&
                            decide ((↑x.fst.length : Int) ≤ (↑x.fst.length : Int)) then
                        bif
                            !decide
                                (List.take y18.fst (List.drop (0 : Nat) y18.snd.snd.fst) =
                                  List.drop (0 : Nat) (List.take (↑y18.fst : Int).toNat x.fst)) then
                          some ((0 : Int), (0 : Nat), (0 : Nat), (5 : Int), [], [], ())
                        else
                          (idxO x.fst (0 : Int)).bind fun y17 =>
                            bif decide (nat_lit 0 + (y20.fst.toNat - (0 : Nat)) ≤ y20.snd.snd.snd.fst.length) then
                              bif
                                  roomy
                                    ((0 : Nat) + (List.take (y20.fst.toNat - (0 : Nat)) (List.drop (0 : Nat) y20.snd.snd.snd.fst)).length)
                                    (1 : Nat) then
                                bif
                                    true && decide ((↑y18.fst : Int) ≤ (↑x.fst.length : Int)) &&
                                        decide ((↑x.fst.length : Int) ≤ (↑x.fst.length : Int)) &&
                                      decide ((↑x.fst.length : Int) ≤ (↑x.fst.length : Int)) then
                                  bif
                                      roomy
                                        ((0 : Nat) +
                                          (List.drop (↑y18.fst : Int).toNat (List.take (↑x.fst.length : Int).toNat x.fst)).length)
                                        (1 : Nat) then
                                    some
                                      (y17,
                                        (0 : Nat) +
                                          (List.take (y20.fst.toNat - (0 : Nat)) (List.drop (0 : Nat) y20.snd.snd.snd.fst)).length,
                                        (0 : Nat) + (List.drop (↑y18.fst : Int).toNat (List.take (↑x.fst.length : Int).toNat x.fst)).length,
                                        (0 : Int), [] ++ List.take (y20.fst.toNat - (0 : Nat)) (List.drop (0 : Nat) y20.snd.snd.snd.fst),
                                        [] ++ List.drop (↑y18.fst : Int).toNat (List.take (↑x.fst.length : Int).toNat x.fst), ())
                                  else none
                                else none
                              else none
                            else none
                      else none
                    else none
                else none
            else none
  else none
noncomputable def F27 : CF tC := mkF tC S27 f27
theorem f27_run : ∀ a, fnS tC G27 (look []) Try.f27 S27 a = f27 a := fun a => by kernel_rfl
theorem F27_ok : CFOK tC 27 F27 := mkF_ok Y27 (fn := Try.f27) (body := bodyOf Try.f27) (by kernel_rfl) (by kernel_rfl) (by kernel_rfl) (m := 0) rfl (lam_le lam_nil) f27_run

/-! awake -/
noncomputable def G13 : FuncId → Option (CF tC) := look [(15, F15), (19, F19), (24, F24), (26, F26), (29, F29), (22, F22), (14, F14), (18, F18), (28, F28), (16, F16)]
theorem Y13 : SysN tC G13 := (sys_cons F15_ok (mkF_nat _ _) (sys_cons F19_ok (mkF_nat _ _) (sys_cons F24_ok (mkF_nat _ _) (sys_cons F26_ok (mkF_nat _ _) (sys_cons F29_ok (mkF_nat _ _) (sys_cons F22_ok (mkF_nat _ _) (sys_cons F14_ok (mkF_nat _ _) (sys_cons F18_ok (mkF_nat _ _) (sys_cons F28_ok (mkF_nat _ _) (sys_cons F16_ok (mkF_nat _ _) (sys_nil tC_ok tC_eq)))))))))))
def S13 : FS := ⟨[], [⟨[], []⟩], [⟨[vO], []⟩], [[.v]], []⟩
noncomputable def f13 (_x : Unit) : Option (Bool × Unit) :=
  (f15 ([(172 : Int), (2 : Int), (9 : Int)], ())).bind fun y48 =>
  (f15 ([(128 : Int)], ())).bind fun y47 =>
    (f15 ([(128 : Int), (0 : Int)], ())).bind fun y46 =>
      (f19 ([(3 : Int)], ())).bind fun y45 =>
        (f24 ((1 : Int), [], ())).bind fun y44 =>
          bif decide (nat_lit 0 + y44.fst ≤ y44.snd.snd.fst.length) then
            (f26 (List.take y44.fst (List.drop (0 : Nat) y44.snd.snd.fst), ())).bind fun y43 =>
              (f29 ([(1 : Int), (7 : Int), (8 : Int)], (5 : Int), ())).bind fun y42 =>
                bif y48.fst == (300 : Int) then
                  bif decide (nat_lit 0 + y48.snd.fst ≤ y48.snd.snd.snd.fst.length) then
                    bif f16 (List.take y48.snd.fst (List.drop (0 : Nat) y48.snd.snd.snd.fst)) [(9 : Int)] then
                      bif y48.snd.snd.fst == (0 : Int) then
                        bif y47.snd.snd.fst == (4 : Int) then
                          bif y46.snd.snd.fst == (3 : Int) then
                            bif y45.fst == (-2 : Int) then
                              bif y45.snd.snd.fst == (0 : Int) then
                                (f22
                                      ([(49 : Int), (50 : Int), (51 : Int), (52 : Int), (53 : Int), (54 : Int), (55 : Int), (56 : Int),
                                          (57 : Int)],
                                        ())).bind
                                  fun y41 =>
                                  bif y41.fst == (3421780262 : Int) then
                                    bif (↑y44.fst : Int) == (6 : Int) then
                                      bif y43.fst == (1 : Int) then
                                        bif (↑y43.snd.fst : Int) == (0 : Int) then
                                          bif y43.snd.snd.snd.snd.fst == (0 : Int) then
                                            bif decide (nat_lit 0 + y42.fst ≤ y42.snd.snd.snd.snd.fst.length) then
                                              bif f16 (List.take y42.fst (List.drop (0 : Nat) y42.snd.snd.snd.snd.fst)) [(7 : Int)] then
                                                bif decide (y42.snd.fst + y42.snd.snd.fst ≤ y42.snd.snd.snd.snd.fst.length) then
                                                  bif
                                                      f16 (List.take y42.snd.snd.fst (List.drop y42.snd.fst y42.snd.snd.snd.snd.fst))
                                                        [(8 : Int)] then
                                                    bif y42.snd.snd.snd.fst == (0 : Int) then
                                                      (f14 ((300 : Int), ())).bind fun y40 =>
                                                        bif decide (nat_lit 0 + y40.fst ≤ y40.snd.fst.length) then
                                                          bif
                                                              f16 (List.take y40.fst (List.drop (0 : Nat) y40.snd.fst))
                                                                [(172 : Int), (2 : Int)] then
                                                            (f18 ((-2 : Int), ())).bind fun y39 =>
                                                              bif f16 y39.fst [(3 : Int)] then
                                                                bif decide (nat_lit 0 + y42.fst ≤ y42.snd.snd.snd.snd.fst.length) then
                                                                  (f28
                                                                        (List.take y42.fst (List.drop (0 : Nat) y42.snd.snd.snd.snd.fst),
                                                                          ())).bind
                                                                    fun y38 =>
                                                                    bif decide (nat_lit 0 + y38.fst ≤ y38.snd.fst.length) then
                                                                      some
                                                                        (f16 (List.take y38.fst (List.drop (0 : Nat) y38.snd.fst))
                                                                            [(1 : Int), (7 : Int)],
                                                                          ())
                                                                    else none
                                                                else none
                                                              else some (false, ())
                                                          else some (false, ())
                                                        else none
                                                    else some (false, ())
                                                  else some (false, ())
                                                else none
                                              else some (false, ())
                                            else none
                                          else some (false, ())
                                        else some (false, ())
                                      else some (false, ())
                                    else some (false, ())
                                  else some (false, ())
                              else some (false, ())
                            else some (false, ())
                          else some (false, ())
                        else some (false, ())
                      else some (false, ())
                    else some (false, ())
                  else none
                else some (false, ())
          else none
noncomputable def F13 : CF tC := mkF tC S13 f13
theorem f13_run : ∀ a, fnS tC G13 (look []) Try.f13 S13 a = f13 a := fun a => by kernel_rfl
theorem F13_ok : CFOK tC 13 F13 := mkF_ok Y13 (fn := Try.f13) (body := bodyOf Try.f13) (by kernel_rfl) (by kernel_rfl) (by kernel_rfl) (m := 0) rfl (lam_le lam_nil) f13_run

/-! WireNumbers -/
noncomputable def G3 : FuncId → Option (CF tC) := look [(13, F13), (14, F14), (15, F15), (16, F16)]
theorem Y3 : SysN tC G3 := (sys_cons F13_ok (mkF_nat _ _) (sys_cons F14_ok (mkF_nat _ _) (sys_cons F15_ok (mkF_nat _ _) (sys_cons F16_ok (mkF_nat _ _) (sys_nil tC_ok tC_eq)))))
noncomputable def c3_0 : Code := loopOf (bodyOf Try.f3) 0
def p3_0 : LS := ⟨0, [0, 1, 5, 6, 7, 8, 9, 10], ⟨[.one (.one (.int .u64)), .one (.one (.imm 5)), vB, vB, vB, .one (.one (.sl 0)), .one (.one (.int .u64)), .one (.one (.sl 1)), vI, vI, .one (.one (.int .u64))] ++ vBs 45, [.arr 5, .arr 5]⟩, [⟨.exit 0, [0, 1, 5, 6, 7, 8, 9], ⟨[.one (.one (.int .u64)), .one (.one (.imm 5)), vB, vB, vB, .one (.one (.sl 0)), .one (.one (.int .u64)), .one (.one (.sl 1)), vI, vI] ++ vBs 46, [.arr 5, .arr 5]⟩, []⟩], []⟩
noncomputable def r3_0 (x : Int × List Int × Nat × Int × Nat × Int × Int × Int × List Int × List Int × Unit) : Option
  (Int × List Int × Nat × Int × Nat × Int × Int × Int × List Int × List Int × Unit ⊕
    Int × List Int × Nat × Int × Nat × Int × Int × List Int × List Int × Unit) :=
  bif decide (x.snd.snd.snd.snd.snd.snd.snd.fst ≥ (128 : Int)) then
  some
    (Sum.inl
      (x.fst, x.snd.fst, x.snd.snd.fst, x.snd.snd.snd.fst, x.snd.snd.snd.snd.fst, x.snd.snd.snd.snd.snd.fst,
        IntKind.i64.wrap (x.snd.snd.snd.snd.snd.snd.fst + (1 : Int)), x.snd.snd.snd.snd.snd.snd.snd.fst.fdiv (128 : Int),
        x.snd.snd.snd.snd.snd.snd.snd.snd.fst, x.snd.snd.snd.snd.snd.snd.snd.snd.snd.fst, ()))
else
  some
    (Sum.inr
      (x.fst, x.snd.fst, x.snd.snd.fst, x.snd.snd.snd.fst, x.snd.snd.snd.snd.fst, x.snd.snd.snd.snd.snd.fst, x.snd.snd.snd.snd.snd.snd.fst,
        x.snd.snd.snd.snd.snd.snd.snd.snd.fst, x.snd.snd.snd.snd.snd.snd.snd.snd.snd.fst, ()))
theorem r3_0_run (x : p3_0.s.ty tE) : roundK tC G3 (look []) c3_0 p3_0 x = r3_0 x := by kernel_rfl
noncomputable def l3_0 (x : Int × List Int × Nat × Int × Nat × Int × Int × Int × List Int × List Int × Unit) : Option (Int × List Int × Nat × Int × Nat × Int × Int × List Int × List Int × Unit) := iterO r3_0 x
noncomputable def W3_0 : LF tC := loopW tC p3_0 0 l3_0
theorem W3_0_ok : keyed 0 (bodyOf Try.f3) = [.block 0 (.loop c3_0)] ∧ ∀ n, n ≤ 0 → Snd tC n (.block 0 (.loop c3_0)) W3_0.k := ⟨by kernel_rfl, fun n hn => loopW_ok (p := p3_0) (id := 0) Y3 (lam_le lam_nil n hn) hn r3_0_run⟩
def S3 : FS := ⟨[[.v], [.s 5]], [⟨[.one (.one (.int .u64)), .one (.one (.imm 5))], []⟩], [⟨[vO], []⟩], [[.v]], []⟩
noncomputable def f3 (x : Int × List Int × Unit) : Option (Bool × Unit) :=
  (f13 ()).bind fun y46 =>
  bif !y46.fst then (f13 ()).bind fun y41 => some (y41.fst, ())
  else
    bif decide ((↑x.snd.fst.length : Int) > (100 : Int)) then (f13 ()).bind fun y42 => some (y42.fst, ())
    else
      (f14 (x.fst, ())).bind fun y45 =>
        bif decide (nat_lit 0 + y45.fst ≤ y45.snd.fst.length) then
          bif roomy ((0 : Nat) + (List.take y45.fst (List.drop (0 : Nat) y45.snd.fst)).length) (1 : Nat) then
            bif
                decide
                  (nat_lit 0 + ((0 : Nat) + (List.take y45.fst (List.drop (0 : Nat) y45.snd.fst)).length) ≤
                    ([] ++ List.take y45.fst (List.drop (0 : Nat) y45.snd.fst)).length) then
              bif roomy ((0 : Nat) + (List.take y45.fst (List.drop (0 : Nat) y45.snd.fst)).length + x.snd.fst.length) (1 : Nat) then
                bif
                    decide
                      (nat_lit 0 + ((0 : Nat) + (List.take y45.fst (List.drop (0 : Nat) y45.snd.fst)).length + x.snd.fst.length) ≤
                        (List.take ((0 : Nat) + (List.take y45.fst (List.drop (0 : Nat) y45.snd.fst)).length)
                              (List.drop (0 : Nat) ([] ++ List.take y45.fst (List.drop (0 : Nat) y45.snd.fst))) ++
                            x.snd.fst).length) then
                  (f15
                        (List.take ((0 : Nat) + (List.take y45.fst (List.drop (0 : Nat) y45.snd.fst)).length + x.snd.fst.length)
                            (List.drop (0 : Nat)
                              (List.take ((0 : Nat) + (List.take y45.fst (List.drop (0 : Nat) y45.snd.fst)).length)
                                  (List.drop (0 : Nat) ([] ++ List.take y45.fst (List.drop (0 : Nat) y45.snd.fst))) ++
                                x.snd.fst)),
                          ())).bind
                    fun y44 =>
                    (l3_0
                          (x.fst, x.snd.fst, y45.fst, y44.fst, y44.snd.fst, y44.snd.snd.fst, (1 : Int), x.fst, y45.snd.fst,
                            y44.snd.snd.snd.fst, ())).bind
                      fun y43 =>
                      bif y43.snd.snd.snd.fst == y43.fst then
                        bif decide (nat_lit 0 + y43.snd.snd.snd.snd.fst ≤ y43.snd.snd.snd.snd.snd.snd.snd.snd.fst.length) then
                          bif
                              f16 (List.take y43.snd.snd.snd.snd.fst (List.drop (0 : Nat) y43.snd.snd.snd.snd.snd.snd.snd.snd.fst))
                                y43.snd.fst then
                            bif y43.snd.snd.snd.snd.snd.fst == (0 : Int) then
                              some ((↑y43.snd.snd.fst : Int) == y43.snd.snd.snd.snd.snd.snd.fst, ())
                            else some (false, ())
                          else some (false, ())
                        else none
                      else some (false, ())
                else none
              else none
            else none
          else none
        else none
noncomputable def F3 : CF tC := mkF tC S3 f3
theorem f3_run : ∀ a, fnS tC G3 (look [(0, W3_0)]) Try.f3 S3 a = f3 a := fun a => by kernel_rfl
theorem F3_ok : CFOK tC 3 F3 := mkF_ok Y3 (fn := Try.f3) (body := bodyOf Try.f3) (by kernel_rfl) (by kernel_rfl) (by kernel_rfl) (m := 0) rfl (lam_le (lam_cons W3_0_ok lam_nil)) f3_run

/-! WireReads -/
noncomputable def G4 : FuncId → Option (CF tC) := look [(13, F13), (15, F15), (17, F17), (16, F16), (14, F14)]
theorem Y4 : SysN tC G4 := (sys_cons F13_ok (mkF_nat _ _) (sys_cons F15_ok (mkF_nat _ _) (sys_cons F17_ok (mkF_nat _ _) (sys_cons F16_ok (mkF_nat _ _) (sys_cons F14_ok (mkF_nat _ _) (sys_nil tC_ok tC_eq))))))
def S4 : FS := ⟨[[.s 5]], [⟨[.one (.one (.imm 5))], []⟩], [⟨[vO], []⟩], [[.v]], []⟩
noncomputable def f4 (x : List Int × Unit) : Option (Bool × Unit) :=
  (f13 ()).bind fun y21 =>
  bif !y21.fst then (f13 ()).bind fun y16 => some (y16.fst, ())
  else
    bif decide ((↑x.fst.length : Int) > (100 : Int)) then (f13 ()).bind fun y17 => some (y17.fst, ())
    else
      (f15 (x.fst, ())).bind fun y20 =>
        (f17 (x.fst, ())).bind fun y19 =>
          bif y20.fst != y19.fst then some (false, ())
          else
            bif decide (nat_lit 0 + y20.snd.fst ≤ y20.snd.snd.snd.fst.length) then
              bif decide (nat_lit 0 + y19.snd.fst ≤ y19.snd.snd.snd.fst.length) then
                bif
                    !f16 (List.take y20.snd.fst (List.drop (0 : Nat) y20.snd.snd.snd.fst))
                        (List.take y19.snd.fst (List.drop (0 : Nat) y19.snd.snd.snd.fst)) then
                  some (false, ())
                else
                  bif y20.snd.snd.fst != y19.snd.snd.fst then some (false, ())
                  else
                    bif y20.snd.snd.fst != (0 : Int) then some (true, ())
                    else
                      (f14 (y20.fst, ())).bind fun y18 =>
                        bif decide (nat_lit 0 + y20.snd.fst ≤ y20.snd.snd.snd.fst.length) then
                          bif decide (nat_lit 0 + y18.fst ≤ y18.snd.fst.length) then
                            bif roomy (y18.fst + (List.take y20.snd.fst (List.drop (0 : Nat) y20.snd.snd.snd.fst)).length) (1 : Nat) then
                              bif
                                  decide
                                    (nat_lit 0 + (y18.fst + (List.take y20.snd.fst (List.drop (0 : Nat) y20.snd.snd.snd.fst)).length) ≤
                                      (List.take y18.fst (List.drop (0 : Nat) y18.snd.fst) ++
                                          List.take y20.snd.fst (List.drop (0 : Nat) y20.snd.snd.snd.fst)).length) then
                                some
                                  (f16
                                      (List.take (y18.fst + (List.take y20.snd.fst (List.drop (0 : Nat) y20.snd.snd.snd.fst)).length)
                                        (List.drop (0 : Nat)
                                          (List.take y18.fst (List.drop (0 : Nat) y18.snd.fst) ++
                                            List.take y20.snd.fst (List.drop (0 : Nat) y20.snd.snd.snd.fst))))
                                      x.fst,
                                    ())
                              else none
                            else none
                          else none
                        else none
              else none
            else none
noncomputable def F4 : CF tC := mkF tC S4 f4
theorem f4_run : ∀ a, fnS tC G4 (look []) Try.f4 S4 a = f4 a := fun a => by kernel_rfl
theorem F4_ok : CFOK tC 4 F4 := mkF_ok Y4 (fn := Try.f4) (body := bodyOf Try.f4) (by kernel_rfl) (by kernel_rfl) (by kernel_rfl) (m := 0) rfl (lam_le lam_nil) f4_run

/-! WireIntegers -/
noncomputable def G5 : FuncId → Option (CF tC) := look [(13, F13), (18, F18), (19, F19), (20, F20), (16, F16), (21, F21)]
theorem Y5 : SysN tC G5 := (sys_cons F13_ok (mkF_nat _ _) (sys_cons F18_ok (mkF_nat _ _) (sys_cons F19_ok (mkF_nat _ _) (sys_cons F20_ok (mkF_nat _ _) (sys_cons F16_ok (mkF_nat _ _) (sys_cons F21_ok (mkF_nat _ _) (sys_nil tC_ok tC_eq)))))))
def S5 : FS := ⟨[[.v], [.s 5]], [⟨[vI, .one (.one (.imm 5))], []⟩], [⟨[vO], []⟩], [[.v]], []⟩
noncomputable def f5 (x : Int × List Int × Unit) : Option (Bool × Unit) :=
  (f13 ()).bind fun y28 =>
  bif !y28.fst then (f13 ()).bind fun y21 => some (y21.fst, ())
  else
    bif decide ((↑x.snd.fst.length : Int) > (100 : Int)) then (f13 ()).bind fun y22 => some (y22.fst, ())
    else
      (f18 (x.fst, ())).bind fun y27 =>
        bif roomy ((0 : Nat) + y27.fst.length) (1 : Nat) then
          bif decide (nat_lit 0 + ((0 : Nat) + y27.fst.length) ≤ ([] ++ y27.fst).length) then
            bif roomy ((0 : Nat) + y27.fst.length + x.snd.fst.length) (1 : Nat) then
              bif
                  decide
                    (nat_lit 0 + ((0 : Nat) + y27.fst.length + x.snd.fst.length) ≤
                      (List.take ((0 : Nat) + y27.fst.length) (List.drop (0 : Nat) ([] ++ y27.fst)) ++ x.snd.fst).length) then
                (f19
                      (List.take ((0 : Nat) + y27.fst.length + x.snd.fst.length)
                          (List.drop (0 : Nat) (List.take ((0 : Nat) + y27.fst.length) (List.drop (0 : Nat) ([] ++ y27.fst)) ++ x.snd.fst)),
                        ())).bind
                  fun y26 =>
                  (f19 (x.snd.fst, ())).bind fun y25 =>
                    (f20 (x.snd.fst, ())).bind fun y24 =>
                      (f21 (x.fst, ())).bind fun y23 =>
                        bif f16 y27.fst y23.fst then
                          bif y26.fst == x.fst then
                            bif decide (nat_lit 0 + y26.snd.fst ≤ y26.snd.snd.snd.fst.length) then
                              bif f16 (List.take y26.snd.fst (List.drop (0 : Nat) y26.snd.snd.snd.fst)) x.snd.fst then
                                bif y26.snd.snd.fst == (0 : Int) then
                                  bif y25.fst == y24.fst then
                                    bif decide (nat_lit 0 + y25.snd.fst ≤ y25.snd.snd.snd.fst.length) then
                                      bif decide (nat_lit 0 + y24.snd.fst ≤ y24.snd.snd.snd.fst.length) then
                                        bif
                                            f16 (List.take y25.snd.fst (List.drop (0 : Nat) y25.snd.snd.snd.fst))
                                              (List.take y24.snd.fst (List.drop (0 : Nat) y24.snd.snd.snd.fst)) then
                                          some (y25.snd.snd.fst == y24.snd.snd.fst, ())
                                        else some (false, ())
                                      else none
                                    else none
                                  else some (false, ())
                                else some (false, ())
                              else some (false, ())
                            else none
                          else some (false, ())
                        else some (false, ())
              else none
            else none
          else none
        else none
noncomputable def F5 : CF tC := mkF tC S5 f5
theorem f5_run : ∀ a, fnS tC G5 (look []) Try.f5 S5 a = f5 a := fun a => by kernel_rfl
theorem F5_ok : CFOK tC 5 F5 := mkF_ok Y5 (fn := Try.f5) (body := bodyOf Try.f5) (by kernel_rfl) (by kernel_rfl) (by kernel_rfl) (m := 0) rfl (lam_le lam_nil) f5_run

/-! WireSums -/
noncomputable def G6 : FuncId → Option (CF tC) := look [(13, F13), (22, F22), (23, F23)]
theorem Y6 : SysN tC G6 := (sys_cons F13_ok (mkF_nat _ _) (sys_cons F22_ok (mkF_nat _ _) (sys_cons F23_ok (mkF_nat _ _) (sys_nil tC_ok tC_eq))))
def S6 : FS := ⟨[[.s 5]], [⟨[.one (.one (.imm 5))], []⟩], [⟨[vO], []⟩], [[.v]], []⟩
noncomputable def f6 (x : List Int × Unit) : Option (Bool × Unit) :=
  (f13 ()).bind fun y12 =>
  bif !y12.fst then (f13 ()).bind fun y8 => some (y8.fst, ())
  else
    bif decide ((↑x.fst.length : Int) > (5000 : Int)) then (f13 ()).bind fun y9 => some (y9.fst, ())
    else (f22 (x.fst, ())).bind fun y11 => (f23 (x.fst, ())).bind fun y10 => some (y11.fst == y10.fst, ())
noncomputable def F6 : CF tC := mkF tC S6 f6
theorem f6_run : ∀ a, fnS tC G6 (look []) Try.f6 S6 a = f6 a := fun a => by kernel_rfl
theorem F6_ok : CFOK tC 6 F6 := mkF_ok Y6 (fn := Try.f6) (body := bodyOf Try.f6) (by kernel_rfl) (by kernel_rfl) (by kernel_rfl) (m := 0) rfl (lam_le lam_nil) f6_run

/-! WireBits -/
noncomputable def G7 : FuncId → Option (CF tC) := look [(13, F13), (22, F22)]
theorem Y7 : SysN tC G7 := (sys_cons F13_ok (mkF_nat _ _) (sys_cons F22_ok (mkF_nat _ _) (sys_nil tC_ok tC_eq)))
def S7 : FS := ⟨[[.s 5], [.v], [.v]], [⟨[.one (.one (.imm 5)), .one (.one (.int .u16)), .one (.one (.int .u8))], []⟩], [⟨[vO], []⟩], [[.v]], []⟩
noncomputable def f7 (x : List Int × Int × Int × Unit) : Option (Bool × Unit) :=
  (f13 ()).bind fun y20 =>
  bif !y20.fst then (f13 ()).bind fun y13 => some (y13.fst, ())
  else
    bif (↑x.fst.length : Int) == (0 : Int) then (f13 ()).bind fun y14 => some (y14.fst, ())
    else
      bif decide ((↑x.fst.length : Int) > (5000 : Int)) then (f13 ()).bind fun y15 => some (y15.fst, ())
      else
        bif roomy ((0 : Nat) + x.fst.length) (1 : Nat) then
          bif (↑((0 : Nat) + x.fst.length) : Int) == (0 : Int) then none
          else
            bif
                decide ((0 : Int) ≤ (IntKind.i64.wrap x.snd.fst).tmod (↑((0 : Nat) + x.fst.length) : Int)) &&
                  decide ((IntKind.i64.wrap x.snd.fst).tmod (↑((0 : Nat) + x.fst.length) : Int) < (↑((0 : Nat) + x.fst.length) : Int)) then
              ([] ++ x.fst)[(0 : Nat) + ((IntKind.i64.wrap x.snd.fst).tmod (↑((0 : Nat) + x.fst.length) : Int)).toNat]?.bind fun y19 =>
                bif decide (IntKind.u64.wrap (x.snd.snd.fst.tmod (8 : Int)) < (0 : Int)) then none
                else
                  bif
                      decide ((0 : Int) ≤ (IntKind.i64.wrap x.snd.fst).tmod (↑((0 : Nat) + x.fst.length) : Int)) &&
                        decide
                          ((IntKind.i64.wrap x.snd.fst).tmod (↑((0 : Nat) + x.fst.length) : Int) < (↑((0 : Nat) + x.fst.length) : Int)) then
                    ([] ++ x.fst)[(0 : Nat) + ((IntKind.i64.wrap x.snd.fst).tmod (↑((0 : Nat) + x.fst.length) : Int)).toNat]?.bind fun _x =>
                      (f22 (x.fst, ())).bind fun y17 =>
                        bif
                            decide
                              (nat_lit 0 + ((0 : Nat) + x.fst.length) ≤
                                (([] ++ x.fst).set
                                    ((0 : Nat) + ((IntKind.i64.wrap x.snd.fst).tmod (↑((0 : Nat) + x.fst.length) : Int)).toNat)
                                    (bits BinOp.xor IntKind.u8 y19
                                      (IntKind.u8.wrap
                                        ((1 : Int) *
                                          (2 : Int) ^ min (IntKind.u64.wrap (x.snd.snd.fst.tmod (8 : Int))).toNat (8 : Nat))))).length) then
                          (f22
                                (List.take ((0 : Nat) + x.fst.length)
                                    (List.drop (0 : Nat)
                                      (([] ++ x.fst).set
                                        ((0 : Nat) + ((IntKind.i64.wrap x.snd.fst).tmod (↑((0 : Nat) + x.fst.length) : Int)).toNat)
                                        (bits BinOp.xor IntKind.u8 y19
                                          (IntKind.u8.wrap
                                            ((1 : Int) *
                                              (2 : Int) ^ min (IntKind.u64.wrap (x.snd.snd.fst.tmod (8 : Int))).toNat (8 : Nat)))))),
                                  ())).bind
                            fun y16 => some (y17.fst != y16.fst, ())
                        else none
                  else none
            else none
        else none
noncomputable def F7 : CF tC := mkF tC S7 f7
theorem f7_run : ∀ a, fnS tC G7 (look []) Try.f7 S7 a = f7 a := fun a => by kernel_rfl
theorem F7_ok : CFOK tC 7 F7 := mkF_ok Y7 (fn := Try.f7) (body := bodyOf Try.f7) (by kernel_rfl) (by kernel_rfl) (by kernel_rfl) (m := 0) rfl (lam_le lam_nil) f7_run

/-! WireFrames -/
noncomputable def G8 : FuncId → Option (CF tC) := look [(13, F13), (24, F24), (25, F25), (26, F26), (16, F16)]
theorem Y8 : SysN tC G8 := (sys_cons F13_ok (mkF_nat _ _) (sys_cons F24_ok (mkF_nat _ _) (sys_cons F25_ok (mkF_nat _ _) (sys_cons F26_ok (mkF_nat _ _) (sys_cons F16_ok (mkF_nat _ _) (sys_nil tC_ok tC_eq))))))
def S8 : FS := ⟨[[.v], [.s 5], [.s 5]], [⟨[.one (.one (.int .u8)), .one (.one (.imm 5)), .one (.one (.imm 5))], []⟩], [⟨[vO], []⟩], [[.v]], []⟩
noncomputable def f8 (x : Int × List Int × List Int × Unit) : Option (Bool × Unit) :=
  (f13 ()).bind fun y27 =>
  bif !y27.fst then (f13 ()).bind fun y21 => some (y21.fst, ())
  else
    bif decide ((↑x.snd.fst.length : Int) > (5000 : Int)) then (f13 ()).bind fun y22 => some (y22.fst, ())
    else
      bif decide ((↑x.snd.snd.fst.length : Int) > (100 : Int)) then (f13 ()).bind fun y23 => some (y23.fst, ())
      else
        (f24 (x.fst, x.snd.fst, ())).bind fun y26 =>
          bif decide ((↑x.snd.fst.length : Int) > (4096 : Int)) then
            bif (↑y26.fst : Int) == (0 : Int) then some (y26.snd.fst == (6 : Int), ()) else some (false, ())
          else
            (f25 (x.fst, x.snd.fst, ())).bind fun y25 =>
              bif decide (nat_lit 0 + y26.fst ≤ y26.snd.snd.fst.length) then
                bif roomy ((0 : Nat) + (List.take y26.fst (List.drop (0 : Nat) y26.snd.snd.fst)).length) (1 : Nat) then
                  bif
                      decide
                        (nat_lit 0 + ((0 : Nat) + (List.take y26.fst (List.drop (0 : Nat) y26.snd.snd.fst)).length) ≤
                          ([] ++ List.take y26.fst (List.drop (0 : Nat) y26.snd.snd.fst)).length) then
                    bif
                        roomy ((0 : Nat) + (List.take y26.fst (List.drop (0 : Nat) y26.snd.snd.fst)).length + x.snd.snd.fst.length)
                          (1 : Nat) then
                      bif
                          decide
                            (nat_lit 0 +
                                ((0 : Nat) + (List.take y26.fst (List.drop (0 : Nat) y26.snd.snd.fst)).length + x.snd.snd.fst.length) ≤
                              (List.take ((0 : Nat) + (List.take y26.fst (List.drop (0 : Nat) y26.snd.snd.fst)).length)
                                    (List.drop (0 : Nat) ([] ++ List.take y26.fst (List.drop (0 : Nat) y26.snd.snd.fst))) ++
                                  x.snd.snd.fst).length) then
                        (f26
                              (List.take
                                  ((0 : Nat) + (List.take y26.fst (List.drop (0 : Nat) y26.snd.snd.fst)).length + x.snd.snd.fst.length)
                                  (List.drop (0 : Nat)
                                    (List.take ((0 : Nat) + (List.take y26.fst (List.drop (0 : Nat) y26.snd.snd.fst)).length)
                                        (List.drop (0 : Nat) ([] ++ List.take y26.fst (List.drop (0 : Nat) y26.snd.snd.fst))) ++
                                      x.snd.snd.fst)),
                                ())).bind
                          fun y24 =>
                          bif y26.snd.fst == (0 : Int) then
                            bif decide (nat_lit 0 + y26.fst ≤ y26.snd.snd.fst.length) then
                              bif decide (nat_lit 0 + y25.fst ≤ y25.snd.snd.fst.length) then
                                bif
                                    f16 (List.take y26.fst (List.drop (0 : Nat) y26.snd.snd.fst))
                                      (List.take y25.fst (List.drop (0 : Nat) y25.snd.snd.fst)) then
                                  bif y24.fst == x.fst then
                                    bif decide (nat_lit 0 + y24.snd.fst ≤ y24.snd.snd.snd.snd.snd.fst.length) then
                                      bif f16 (List.take y24.snd.fst (List.drop (0 : Nat) y24.snd.snd.snd.snd.snd.fst)) x.snd.fst then
                                        bif decide (y24.snd.snd.fst + y24.snd.snd.snd.fst ≤ y24.snd.snd.snd.snd.snd.fst.length) then
                                          bif
                                              f16 (List.take y24.snd.snd.snd.fst (List.drop y24.snd.snd.fst y24.snd.snd.snd.snd.snd.fst))
                                                x.snd.snd.fst then
                                            some (y24.snd.snd.snd.snd.fst == (0 : Int), ())
                                          else some (false, ())
                                        else none
                                      else some (false, ())
                                    else none
                                  else some (false, ())
                                else some (false, ())
                              else none
                            else none
                          else some (false, ())
                      else none
                    else none
                  else none
                else none
              else none
noncomputable def F8 : CF tC := mkF tC S8 f8
theorem f8_run : ∀ a, fnS tC G8 (look []) Try.f8 S8 a = f8 a := fun a => by kernel_rfl
theorem F8_ok : CFOK tC 8 F8 := mkF_ok Y8 (fn := Try.f8) (body := bodyOf Try.f8) (by kernel_rfl) (by kernel_rfl) (by kernel_rfl) (m := 0) rfl (lam_le lam_nil) f8_run

/-! WireUnframes -/
noncomputable def G9 : FuncId → Option (CF tC) := look [(13, F13), (26, F26), (27, F27), (16, F16), (24, F24)]
theorem Y9 : SysN tC G9 := (sys_cons F13_ok (mkF_nat _ _) (sys_cons F26_ok (mkF_nat _ _) (sys_cons F27_ok (mkF_nat _ _) (sys_cons F16_ok (mkF_nat _ _) (sys_cons F24_ok (mkF_nat _ _) (sys_nil tC_ok tC_eq))))))
def S9 : FS := ⟨[[.s 5]], [⟨[.one (.one (.imm 5))], []⟩], [⟨[vO], []⟩], [[.v]], []⟩
noncomputable def f9 (x : List Int × Unit) : Option (Bool × Unit) :=
  (f13 ()).bind fun y26 =>
  bif !y26.fst then (f13 ()).bind fun y21 => some (y21.fst, ())
  else
    bif decide ((↑x.fst.length : Int) > (5000 : Int)) then (f13 ()).bind fun y22 => some (y22.fst, ())
    else
      (f26 (x.fst, ())).bind fun y25 =>
        (f27 (x.fst, ())).bind fun y24 =>
          bif y25.fst != y24.fst then some (false, ())
          else
            bif decide (nat_lit 0 + y25.snd.fst ≤ y25.snd.snd.snd.snd.snd.fst.length) then
              bif decide (nat_lit 0 + y24.snd.fst ≤ y24.snd.snd.snd.snd.fst.length) then
                bif
                    !f16 (List.take y25.snd.fst (List.drop (0 : Nat) y25.snd.snd.snd.snd.snd.fst))
                        (List.take y24.snd.fst (List.drop (0 : Nat) y24.snd.snd.snd.snd.fst)) then
                  some (false, ())
                else
                  bif decide (y25.snd.snd.fst + y25.snd.snd.snd.fst ≤ y25.snd.snd.snd.snd.snd.fst.length) then
                    bif decide (nat_lit 0 + y24.snd.snd.fst ≤ y24.snd.snd.snd.snd.snd.fst.length) then
                      bif
                          !f16 (List.take y25.snd.snd.snd.fst (List.drop y25.snd.snd.fst y25.snd.snd.snd.snd.snd.fst))
                              (List.take y24.snd.snd.fst (List.drop (0 : Nat) y24.snd.snd.snd.snd.snd.fst)) then
                        some (false, ())
                      else
                        bif y25.snd.snd.snd.snd.fst != y24.snd.snd.snd.fst then some (false, ())
                        else
                          bif decide (nat_lit 0 + y25.snd.fst ≤ y25.snd.snd.snd.snd.snd.fst.length) then
                            (f24 (y25.fst, List.take y25.snd.fst (List.drop (0 : Nat) y25.snd.snd.snd.snd.snd.fst), ())).bind fun y23 =>
                              bif y25.snd.snd.snd.snd.fst != (0 : Int) then some (true, ())
                              else
                                bif decide (y25.snd.snd.fst + y25.snd.snd.snd.fst ≤ y25.snd.snd.snd.snd.snd.fst.length) then
                                  bif decide (nat_lit 0 + y23.fst ≤ y23.snd.snd.fst.length) then
                                    bif
                                        roomy
                                          (y23.fst +
                                            (List.take y25.snd.snd.snd.fst (List.drop y25.snd.snd.fst y25.snd.snd.snd.snd.snd.fst)).length)
                                          (1 : Nat) then
                                      bif
                                          decide
                                            (nat_lit 0 +
                                                (y23.fst +
                                                  (List.take y25.snd.snd.snd.fst
                                                      (List.drop y25.snd.snd.fst y25.snd.snd.snd.snd.snd.fst)).length) ≤
                                              (List.take y23.fst (List.drop (0 : Nat) y23.snd.snd.fst) ++
                                                  List.take y25.snd.snd.snd.fst
                                                    (List.drop y25.snd.snd.fst y25.snd.snd.snd.snd.snd.fst)).length) then
                                        some
                                          (f16
                                              (List.take
                                                (y23.fst +
                                                  (List.take y25.snd.snd.snd.fst
                                                      (List.drop y25.snd.snd.fst y25.snd.snd.snd.snd.snd.fst)).length)
                                                (List.drop (0 : Nat)
                                                  (List.take y23.fst (List.drop (0 : Nat) y23.snd.snd.fst) ++
                                                    List.take y25.snd.snd.snd.fst (List.drop y25.snd.snd.fst y25.snd.snd.snd.snd.snd.fst))))
                                              x.fst,
                                            ())
                                      else none
                                    else none
                                  else none
                                else none
                          else none
                    else none
                  else none
              else none
            else none
noncomputable def F9 : CF tC := mkF tC S9 f9
theorem f9_run : ∀ a, fnS tC G9 (look []) Try.f9 S9 a = f9 a := fun a => by kernel_rfl
theorem F9_ok : CFOK tC 9 F9 := mkF_ok Y9 (fn := Try.f9) (body := bodyOf Try.f9) (by kernel_rfl) (by kernel_rfl) (by kernel_rfl) (m := 0) rfl (lam_le lam_nil) f9_run

/-! WireTorn -/
noncomputable def G10 : FuncId → Option (CF tC) := look [(13, F13), (25, F25), (26, F26)]
theorem Y10 : SysN tC G10 := (sys_cons F13_ok (mkF_nat _ _) (sys_cons F25_ok (mkF_nat _ _) (sys_cons F26_ok (mkF_nat _ _) (sys_nil tC_ok tC_eq))))
def S10 : FS := ⟨[[.v], [.s 5], [.v]], [⟨[.one (.one (.int .u8)), .one (.one (.imm 5)), .one (.one (.int .u16))], []⟩], [⟨[vO], []⟩], [[.v]], []⟩
noncomputable def f10 (x : Int × List Int × Int × Unit) : Option (Bool × Unit) :=
  (f13 ()).bind fun y21 =>
  bif !y21.fst then (f13 ()).bind fun y17 => some (y17.fst, ())
  else
    bif decide ((↑x.snd.fst.length : Int) > (4096 : Int)) then (f13 ()).bind fun y18 => some (y18.fst, ())
    else
      (f25 (x.fst, x.snd.fst, ())).bind fun y20 =>
        bif (↑y20.fst : Int) == (0 : Int) then none
        else
          bif
              true && decide ((0 : Int) ≤ (IntKind.i64.wrap x.snd.snd.fst).tmod (↑y20.fst : Int)) &&
                  decide ((IntKind.i64.wrap x.snd.snd.fst).tmod (↑y20.fst : Int) ≤ (↑y20.fst : Int)) &&
                decide ((↑y20.fst : Int) ≤ (↑y20.fst : Int)) then
            bif
                decide
                  (nat_lit 0 + (((IntKind.i64.wrap x.snd.snd.fst).tmod (↑y20.fst : Int)).toNat - (0 : Nat)) ≤ y20.snd.snd.fst.length) then
              (f26
                    (List.take (((IntKind.i64.wrap x.snd.snd.fst).tmod (↑y20.fst : Int)).toNat - (0 : Nat))
                        (List.drop (0 : Nat) y20.snd.snd.fst),
                      ())).bind
                fun y19 =>
                bif y19.fst == (0 : Int) then
                  bif (↑y19.snd.fst : Int) == (0 : Int) then
                    bif (↑y19.snd.snd.snd.fst : Int) == (0 : Int) then some (y19.snd.snd.snd.snd.fst == (4 : Int), ()) else some (false, ())
                  else some (false, ())
                else some (false, ())
            else none
          else none
noncomputable def F10 : CF tC := mkF tC S10 f10
theorem f10_run : ∀ a, fnS tC G10 (look []) Try.f10 S10 a = f10 a := fun a => by kernel_rfl
theorem F10_ok : CFOK tC 10 F10 := mkF_ok Y10 (fn := Try.f10) (body := bodyOf Try.f10) (by kernel_rfl) (by kernel_rfl) (by kernel_rfl) (m := 0) rfl (lam_le lam_nil) f10_run

/-! WireChanges -/
noncomputable def G11 : FuncId → Option (CF tC) := look [(13, F13), (25, F25), (26, F26)]
theorem Y11 : SysN tC G11 := (sys_cons F13_ok (mkF_nat _ _) (sys_cons F25_ok (mkF_nat _ _) (sys_cons F26_ok (mkF_nat _ _) (sys_nil tC_ok tC_eq))))
noncomputable def c11_25 : Code := subCode (bodyOf Try.f11) 25
def p11_25 : PS := ⟨0, [2, 7, 10], ⟨[vB, vB, .one (.one (.int .u16))] ++ vBs 4 ++ [.one (.one (.sl 0)), vB, vB, vI] ++ vBs 58, [.arr 5]⟩, [⟨.ret, [6], ⟨vBs 6 ++ [vO] ++ vBs 62, []⟩, []⟩], []⟩
noncomputable def j11_25 (x : Int × Nat × Int × List Int × Unit) : Option (Bool × Unit) :=
  bif decide ((0 : Int) ≤ x.snd.snd.fst) && decide (x.snd.snd.fst < (↑x.snd.fst : Int)) then
  x.snd.snd.snd.fst[(0 : Nat) + x.snd.snd.fst.toNat]?.bind fun y25 =>
    bif decide (IntKind.u64.wrap (x.fst.tmod (8 : Int)) < (0 : Int)) then none
    else
      bif decide ((0 : Int) ≤ x.snd.snd.fst) && decide (x.snd.snd.fst < (↑x.snd.fst : Int)) then
        x.snd.snd.snd.fst[(0 : Nat) + x.snd.snd.fst.toNat]?.bind fun _x =>
          bif
              decide
                (nat_lit 0 + x.snd.fst ≤
                  (x.snd.snd.snd.fst.set ((0 : Nat) + x.snd.snd.fst.toNat)
                      (bits BinOp.xor IntKind.u8 y25
                        (IntKind.u8.wrap
                          ((1 : Int) * (2 : Int) ^ min (IntKind.u64.wrap (x.fst.tmod (8 : Int))).toNat (8 : Nat))))).length) then
            (f26
                  (List.take x.snd.fst
                      (List.drop (0 : Nat)
                        (x.snd.snd.snd.fst.set ((0 : Nat) + x.snd.snd.fst.toNat)
                          (bits BinOp.xor IntKind.u8 y25
                            (IntKind.u8.wrap ((1 : Int) * (2 : Int) ^ min (IntKind.u64.wrap (x.fst.tmod (8 : Int))).toNat (8 : Nat)))))),
                    ())).bind
              fun y23 => some (y23.snd.snd.snd.snd.fst == (5 : Int), ())
          else none
      else none
else none
theorem j11_25_run (x : p11_25.s.ty tE) : pieceK tC G11 (look []) c11_25 p11_25 x = j11_25 x := by kernel_rfl
noncomputable def W11_25 : LF tC := cutLF tC p11_25 j11_25
theorem W11_25_ok : keyed 25 (bodyOf Try.f11) = [c11_25] ∧ ∀ n, n ≤ 0 → Snd tC n c11_25 W11_25.k := ⟨by kernel_rfl, fun n hn => cut_ok (p := p11_25) Y11 (lam_le lam_nil n hn) hn j11_25_run⟩
def S11 : FS := ⟨[[.v], [.s 5], [.v]], [⟨[.one (.one (.int .u8)), .one (.one (.imm 5)), .one (.one (.int .u16))], []⟩], [⟨[vO], []⟩], [[.v]], []⟩
noncomputable def f11 (x : Int × List Int × Int × Unit) : Option (Bool × Unit) :=
  (f13 ()).bind fun y34 =>
  bif !y34.fst then (f13 ()).bind fun y29 => some (y29.fst, ())
  else
    bif decide ((↑x.snd.fst.length : Int) > (4096 : Int)) then (f13 ()).bind fun y30 => some (y30.fst, ())
    else
      (f25 (x.fst, x.snd.fst, ())).bind fun y33 =>
        bif IntKind.i64.wrap ((↑x.snd.fst.length : Int) + (5 : Int)) == (0 : Int) then none
        else
          bif
              decide
                ((IntKind.i64.wrap ((IntKind.i64.wrap x.snd.snd.fst).tdiv (8 : Int))).tmod
                    (IntKind.i64.wrap ((↑x.snd.fst.length : Int) + (5 : Int))) >
                  (0 : Int)) then
            (j11_25
                  (x.snd.snd.fst, y33.fst,
                    IntKind.i64.wrap
                      (IntKind.i64.wrap
                          (IntKind.i64.wrap (IntKind.i64.wrap ((↑y33.fst : Int) - (↑x.snd.fst.length : Int)) - (4 : Int)) +
                            (IntKind.i64.wrap ((IntKind.i64.wrap x.snd.snd.fst).tdiv (8 : Int))).tmod
                              (IntKind.i64.wrap ((↑x.snd.fst.length : Int) + (5 : Int)))) -
                        (1 : Int)),
                    y33.snd.snd.fst, ())).bind
              fun y31 => some (y31.fst, ())
          else
            (j11_25
                  (x.snd.snd.fst, y33.fst,
                    (IntKind.i64.wrap ((IntKind.i64.wrap x.snd.snd.fst).tdiv (8 : Int))).tmod
                      (IntKind.i64.wrap ((↑x.snd.fst.length : Int) + (5 : Int))),
                    y33.snd.snd.fst, ())).bind
              fun y32 => some (y32.fst, ())
noncomputable def F11 : CF tC := mkF tC S11 f11
theorem f11_run : ∀ a, fnS tC G11 (look [(25, W11_25)]) Try.f11 S11 a = f11 a := fun a => by kernel_rfl
theorem F11_ok : CFOK tC 11 F11 := mkF_ok Y11 (fn := Try.f11) (body := bodyOf Try.f11) (by kernel_rfl) (by kernel_rfl) (by kernel_rfl) (m := 0) rfl (lam_le (lam_cons W11_25_ok lam_nil)) f11_run

/-! WireBytes -/
noncomputable def G12 : FuncId → Option (CF tC) := look [(13, F13), (28, F28), (29, F29), (30, F30), (16, F16)]
theorem Y12 : SysN tC G12 := (sys_cons F13_ok (mkF_nat _ _) (sys_cons F28_ok (mkF_nat _ _) (sys_cons F29_ok (mkF_nat _ _) (sys_cons F30_ok (mkF_nat _ _) (sys_cons F16_ok (mkF_nat _ _) (sys_nil tC_ok tC_eq))))))
noncomputable def c12_31 : Code := subCode (bodyOf Try.f12) 31
def p12_31 : PS := ⟨0, [14, 15, 16, 17, 18, 19], ⟨vBs 14 ++ [.one (.one (.sl 0)), .one (.one (.slw 0)), vI, .one (.one (.sl 1)), .one (.one (.sl 2)), vI] ++ vBs 86, [.arr 5, .arr 5, .arr 5]⟩, [⟨.ret, [6], ⟨vBs 6 ++ [vO] ++ vBs 99, []⟩, []⟩], []⟩
noncomputable def j12_31 (x : Nat × Nat × Nat × Int × Nat × Nat × Int × List Int × List Int × List Int × Unit) : Option (Bool × Unit) :=
  bif decide (nat_lit 0 + x.fst ≤ x.snd.snd.snd.snd.snd.snd.snd.fst.length) then
  bif decide (nat_lit 0 + x.snd.snd.snd.snd.fst ≤ x.snd.snd.snd.snd.snd.snd.snd.snd.fst.length) then
    bif
        f16 (List.take x.fst (List.drop (0 : Nat) x.snd.snd.snd.snd.snd.snd.snd.fst))
          (List.take x.snd.snd.snd.snd.fst (List.drop (0 : Nat) x.snd.snd.snd.snd.snd.snd.snd.snd.fst)) then
      bif decide (x.snd.fst + x.snd.snd.fst ≤ x.snd.snd.snd.snd.snd.snd.snd.fst.length) then
        bif decide (nat_lit 0 + x.snd.snd.snd.snd.snd.fst ≤ x.snd.snd.snd.snd.snd.snd.snd.snd.snd.fst.length) then
          bif
              f16 (List.take x.snd.snd.fst (List.drop x.snd.fst x.snd.snd.snd.snd.snd.snd.snd.fst))
                (List.take x.snd.snd.snd.snd.snd.fst (List.drop (0 : Nat) x.snd.snd.snd.snd.snd.snd.snd.snd.snd.fst)) then
            some (x.snd.snd.snd.fst == x.snd.snd.snd.snd.snd.snd.fst, ())
          else some (false, ())
        else none
      else none
    else some (false, ())
  else none
else none
theorem j12_31_run (x : p12_31.s.ty tE) : pieceK tC G12 (look []) c12_31 p12_31 x = j12_31 x := by kernel_rfl
noncomputable def W12_31 : LF tC := cutLF tC p12_31 j12_31
theorem W12_31_ok : keyed 31 (bodyOf Try.f12) = [c12_31] ∧ ∀ n, n ≤ 0 → Snd tC n c12_31 W12_31.k := ⟨by kernel_rfl, fun n hn => cut_ok (p := p12_31) Y12 (lam_le lam_nil n hn) hn j12_31_run⟩
def S12 : FS := ⟨[[.s 5], [.s 5], [.v]], [⟨[.one (.one (.imm 5)), .one (.one (.imm 5)), vI], []⟩], [⟨[vO], []⟩], [[.v]], []⟩
noncomputable def f12 (x : List Int × List Int × Int × Unit) : Option (Bool × Unit) :=
  (f13 ()).bind fun y54 =>
  bif !y54.fst then (f13 ()).bind fun y44 => some (y44.fst, ())
  else
    bif decide ((↑x.fst.length : Int) > (1000 : Int)) then (f13 ()).bind fun y45 => some (y45.fst, ())
    else
      bif decide ((↑x.snd.fst.length : Int) > (1000 : Int)) then (f13 ()).bind fun y46 => some (y46.fst, ())
      else
        (f28 (x.fst, ())).bind fun y53 =>
          bif decide (nat_lit 0 + y53.fst ≤ y53.snd.fst.length) then
            bif roomy ((0 : Nat) + (List.take y53.fst (List.drop (0 : Nat) y53.snd.fst)).length) (1 : Nat) then
              bif
                  decide
                    (nat_lit 0 + ((0 : Nat) + (List.take y53.fst (List.drop (0 : Nat) y53.snd.fst)).length) ≤
                      ([] ++ List.take y53.fst (List.drop (0 : Nat) y53.snd.fst)).length) then
                bif roomy ((0 : Nat) + (List.take y53.fst (List.drop (0 : Nat) y53.snd.fst)).length + x.snd.fst.length) (1 : Nat) then
                  bif
                      decide
                        (nat_lit 0 + ((0 : Nat) + (List.take y53.fst (List.drop (0 : Nat) y53.snd.fst)).length + x.snd.fst.length) ≤
                          (List.take ((0 : Nat) + (List.take y53.fst (List.drop (0 : Nat) y53.snd.fst)).length)
                                (List.drop (0 : Nat) ([] ++ List.take y53.fst (List.drop (0 : Nat) y53.snd.fst))) ++
                              x.snd.fst).length) then
                    (f29
                          (List.take ((0 : Nat) + (List.take y53.fst (List.drop (0 : Nat) y53.snd.fst)).length + x.snd.fst.length)
                              (List.drop (0 : Nat)
                                (List.take ((0 : Nat) + (List.take y53.fst (List.drop (0 : Nat) y53.snd.fst)).length)
                                    (List.drop (0 : Nat) ([] ++ List.take y53.fst (List.drop (0 : Nat) y53.snd.fst))) ++
                                  x.snd.fst)),
                            (↑x.fst.length : Int), ())).bind
                      fun y52 =>
                      bif decide (nat_lit 0 + y53.fst ≤ y53.snd.fst.length) then
                        (f29
                              (List.take y53.fst (List.drop (0 : Nat) y53.snd.fst), IntKind.i64.wrap ((↑x.fst.length : Int) - (1 : Int)),
                                ())).bind
                          fun y51 =>
                          (f29 (x.snd.fst, x.snd.snd.fst, ())).bind fun y50 =>
                            (f30 (x.snd.fst, x.snd.snd.fst, ())).bind fun y49 =>
                              bif decide (nat_lit 0 + y52.fst ≤ y52.snd.snd.snd.snd.fst.length) then
                                bif !f16 (List.take y52.fst (List.drop (0 : Nat) y52.snd.snd.snd.snd.fst)) x.fst then some (false, ())
                                else
                                  bif decide (y52.snd.fst + y52.snd.snd.fst ≤ y52.snd.snd.snd.snd.fst.length) then
                                    bif !f16 (List.take y52.snd.snd.fst (List.drop y52.snd.fst y52.snd.snd.snd.snd.fst)) x.snd.fst then
                                      some (false, ())
                                    else
                                      bif y52.snd.snd.snd.fst != (0 : Int) then some (false, ())
                                      else
                                        bif decide ((↑x.fst.length : Int) > (0 : Int)) then
                                          bif y51.snd.snd.snd.fst != (6 : Int) then some (false, ())
                                          else
                                            (j12_31
                                                  (y50.fst, y50.snd.fst, y50.snd.snd.fst, y50.snd.snd.snd.fst, y49.fst, y49.snd.fst,
                                                    y49.snd.snd.fst, y50.snd.snd.snd.snd.fst, y49.snd.snd.snd.fst, y49.snd.snd.snd.snd.fst,
                                                    ())).bind
                                              fun y47 => some (y47.fst, ())
                                        else
                                          (j12_31
                                                (y50.fst, y50.snd.fst, y50.snd.snd.fst, y50.snd.snd.snd.fst, y49.fst, y49.snd.fst,
                                                  y49.snd.snd.fst, y50.snd.snd.snd.snd.fst, y49.snd.snd.snd.fst, y49.snd.snd.snd.snd.fst,
                                                  ())).bind
                                            fun y48 => some (y48.fst, ())
                                  else none
                              else none
                      else none
                  else none
                else none
              else none
            else none
          else none
noncomputable def F12 : CF tC := mkF tC S12 f12
theorem f12_run : ∀ a, fnS tC G12 (look [(31, W12_31)]) Try.f12 S12 a = f12 a := fun a => by kernel_rfl
theorem F12_ok : CFOK tC 12 F12 := mkF_ok Y12 (fn := Try.f12) (body := bodyOf Try.f12) (by kernel_rfl) (by kernel_rfl) (by kernel_rfl) (m := 0) rfl (lam_le (lam_cons W12_31_ok lam_nil)) f12_run
end Go.AE
