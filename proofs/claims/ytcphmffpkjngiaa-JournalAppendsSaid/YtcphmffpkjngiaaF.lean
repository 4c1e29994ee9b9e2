/-
  The plain functions that the seat's Go functions compute, each with the proof that the function keeps it. Printed by the generator (Gen2) and checked by the kernel.
-/
import Derived.Test.YtcphmffpkjngiaaCfgT
namespace Go.AE
open Go.Proofs Go.RowKit
set_option maxRecDepth 100000

/-! slices.Clone byte -/
noncomputable def G58 : FuncId → Option (CF tC) := look []
theorem Y58 : SysN tC G58 := (sys_nil tC_ok tC_eq)
noncomputable def c58_4 : Code := subCode (bodyOf Try.f58) 4
def p58_4 : PS := ⟨0, [0], ⟨[.one (.one (.imm 5))] ++ vBs 7, []⟩, [⟨.ret, [2], ⟨vBs 2 ++ [.one (.one (.sl 0))] ++ vBs 5, [.arr 5]⟩, [(2, 5)]⟩], []⟩
noncomputable def j58_4 (x : List (Int) × Unit) : Option (Nat × List (Int) × Unit) := bif roomy (0 + x.1.length) 1 then some (0 + x.1.length, x.1, ()) else none
noncomputable def W58_4 : LF tC := cutLF tC p58_4 j58_4
theorem c58_4_is : NilHead c58_4 0 3 4 28 := ⟨_, _, _, _, _, _, _, _, _, _, _, rfl⟩
theorem j58_4_nil : exec tC G58 (look []) (restOf c58_4) ⟨((p58_4.s.emb ([], ())).t.set 3 (.imm 5 [])).set 4 (.bool true), (p58_4.s.emb ([], ())).h⟩ (fun e st => unP p58_4.k p58_4.outs e st) = j58_4 ([], ()) := by kernel_rfl
theorem j58_4_one (x : p58_4.s.ty tE) : exec tC G58 (look []) (restOf c58_4) ⟨((p58_4.s.emb x).t.set 3 (.imm 5 x.1)).set 4 (.bool false), (p58_4.s.emb x).h⟩ (fun e st => unP p58_4.k p58_4.outs e st) = j58_4 x := by kernel_rfl
theorem W58_4_ok : keyed 4 (bodyOf Try.f58) = [c58_4] ∧ ∀ n, n ≤ 0 → Snd tC n c58_4 W58_4.k := ⟨by kernel_rfl, fun n hn => nil_cut (p := p58_4) (f := j58_4) (Λ := look []) (el := 5) Y58 hn c58_4_is (by kernel_rfl) (lam_le lam_nil n hn) (fun x => ⟨5, x.1, rfl, fun t h => match t, x, h with
    | true, (xs, ()), h => by
      have h : xs = [] := h rfl
      subst h
      exact j58_4_nil
    | false, x, _ => j58_4_one x⟩) (fun _ => Nat.le_of_ble_eq_true (by kernel_rfl))⟩
def S58 : FS := ⟨[[.s 5]], [⟨[.one (.one (.imm 5))], []⟩], [⟨[.one (.one (.sl 0))], [.arr 5]⟩], [[.v]], []⟩
noncomputable def f58 (x : List (Int) × Unit) : Option (Nat × List (Int) × Unit) := (j58_4 (x.1, ())).bind fun y => some (y.1, y.2.1, ())
noncomputable def F58 : CF tC := mkF tC S58 f58
theorem f58_run : ∀ a, fnS tC G58 (look [(4, W58_4)]) Try.f58 S58 a = f58 a := fun a => by kernel_rfl
theorem F58_ok : CFOK tC 58 F58 := mkF_ok Y58 (fn := Try.f58) (body := bodyOf Try.f58) (by kernel_rfl) (by kernel_rfl) (by kernel_rfl) (m := 0) rfl (lam_le (lam_cons W58_4_ok lam_nil)) f58_run

/-! base.Bytes -/
noncomputable def G14 : FuncId → Option (CF tC) := look []
theorem Y14 : SysN tC G14 := (sys_nil tC_ok tC_eq)
def S14 : FS := ⟨[[.s 5], [.s 5]], [⟨[.one (.one (.imm 5)), .one (.one (.imm 5))], []⟩], [⟨[vO], []⟩], [[.v]], []⟩
def f14 (l1 : List Int) (l2 : List Int) : Bool :=
  decide (l1 = l2)
noncomputable def F14 : CF tC := mkF tC S14 (fun a => some ((f14 a.1 a.2.1), ()))
def h14 (r : Bool) : Option (altTy tE S14.outs) := some (r, ())
theorem f14_run : ∀ a, fnS tC G14 (look []) Try.f14 S14 a = (fun a => some ((f14 a.1 a.2.1), ())) a := fun a => by
  have key : ∀ (l1 : List Int) (l2 : List Int), (h14 (decide (l1 = l2))) = h14 (f14 l1 l2) := by
    intros
    unfold f14
    repeat' first | rfl | refine cond_h (g := h14) ?_ ?_
  exact Eq.trans (by kernel_rfl) (key a.1 a.2.1)
theorem F14_ok : CFOK tC 14 F14 := mkF_ok Y14 (fn := Try.f14) (body := bodyOf Try.f14) (by kernel_rfl) (by kernel_rfl) (by kernel_rfl) (m := 0) rfl (lam_le lam_nil) f14_run

/-! slices.Equal -/
noncomputable def G81 : FuncId → Option (CF tC) := look []
theorem Y81 : SysN tC G81 := (sys_nil tC_ok tC_eq)
noncomputable def c81_0 : Code := loopOf (bodyOf Try.f81) 0
def p81_0 : LS := ⟨0, [0, 1, 12, 13], ⟨[.one (.one (.imm 5)), .one (.one (.imm 5))] ++ vBs 10 ++ [vI, vI] ++ vBs 12, []⟩, [⟨.ret, [4], ⟨vBs 4 ++ [vO] ++ vBs 21, []⟩, []⟩, ⟨.exit 0, [], ⟨vBs 26, []⟩, []⟩], []⟩
noncomputable def r81_0 (x : List Int × List Int × Int × Int × Unit) : Option (List Int × List Int × Int × Int × Unit ⊕ Bool × Unit ⊕ Unit) :=
  bif decide (x.snd.snd.snd.fst < x.snd.snd.fst) then
  (idxO x.fst x.snd.snd.snd.fst).bind fun y11 =>
    (idxO x.snd.fst x.snd.snd.snd.fst).bind fun y10 =>
      bif y11 != y10 then some (Sum.inr (Sum.inl (false, ())))
      else some (Sum.inl (x.fst, x.snd.fst, x.snd.snd.fst, IntKind.i64.wrap (x.snd.snd.snd.fst + (1 : Int)), ()))
else some (Sum.inr (Sum.inr ()))
theorem r81_0_run0 (v0 : List Int) (v1 : List Int) (v2 : Int) (v3 : Int) : roundK tC G81 (look []) c81_0 p81_0 (v0, v1, v2, v3, ()) = r81_0 (v0, v1, v2, v3, ()) := by kernel_rfl
theorem r81_0_run (x : List Int × List Int × Int × Int × Unit) : roundK tC G81 (look []) c81_0 p81_0 x = r81_0 x := r81_0_run0 x.1 x.2.1 x.2.2.1 x.2.2.2.1
noncomputable def l81_0 (x : List Int × List Int × Int × Int × Unit) : Option (Bool × Unit ⊕ Unit) := iterO r81_0 x
noncomputable def W81_0 : LF tC := loopW tC p81_0 0 l81_0
theorem W81_0_ok : keyed 0 (bodyOf Try.f81) = [.block 0 (.loop c81_0)] ∧ ∀ n, n ≤ 0 → Snd tC n (.block 0 (.loop c81_0)) W81_0.k := ⟨by kernel_rfl, fun n hn => loopW_ok (p := p81_0) (id := 0) Y81 (lam_le lam_nil n hn) hn r81_0_run⟩
def S81 : FS := ⟨[[.s 5], [.s 5]], [⟨[.one (.one (.imm 5)), .one (.one (.imm 5))], []⟩], [⟨[vO], []⟩], [[.v]], []⟩
noncomputable def f81 (x : List Int × List Int × Unit) : Option (Bool × Unit) :=
  bif (↑x.fst.length : Int) != (↑x.snd.fst.length : Int) then some (false, ())
else
  (l81_0 (x.fst, x.snd.fst, (↑x.fst.length : Int), (0 : Int), ())).bind fun y16 =>
    Sum.elim (fun y14 => some (y14.fst, ())) (fun _x => some (true, ())) y16
noncomputable def F81 : CF tC := mkF tC S81 f81
theorem f81_run : ∀ a, fnS tC G81 (look [(0, W81_0)]) Try.f81 S81 a = f81 a := fun a => by kernel_rfl
theorem F81_ok : CFOK tC 81 F81 := mkF_ok Y81 (fn := Try.f81) (body := bodyOf Try.f81) (by kernel_rfl) (by kernel_rfl) (by kernel_rfl) (m := 0) rfl (lam_le (lam_cons W81_0_ok lam_nil)) f81_run

/-! Sum -/
noncomputable def G83 : FuncId → Option (CF tC) := look []
theorem Y83 : SysN tC G83 := (sys_nil tC_ok tC_eq)
noncomputable def c83_6 : Code := loopOf (loopOf (bodyOf Try.f83) 0) 2
def p83_6 : LS := ⟨0, [3, 6, 7, 8, 16], ⟨[vB, vB, vB, .one (.one (.int .u32)), vB, vB, .one (.one (.imm 5)), vI, vI] ++ vBs 7 ++ [vI] ++ vBs 12, []⟩, [⟨.exit 2, [3, 6, 7, 8], ⟨[vB, vB, vB, .one (.one (.int .u32)), vB, vB, .one (.one (.imm 5)), vI, vI] ++ vBs 20, []⟩, []⟩], []⟩
noncomputable def r83_6 (x : Int × List Int × Int × Int × Int × Unit) : Option (Int × List Int × Int × Int × Int × Unit ⊕ Int × List Int × Int × Int × Unit) :=
  bif decide (x.snd.snd.snd.snd.fst < (8 : Int)) then
  some
    (Sum.inl
      (bits BinOp.xor IntKind.u32 (x.fst.fdiv (2 : Int))
          (bits BinOp.and IntKind.u32 (3988292384 : Int) (IntKind.u32.wrap ((0 : Int) - bits BinOp.and IntKind.u32 x.fst (1 : Int)))),
        x.snd.fst, x.snd.snd.fst, x.snd.snd.snd.fst, IntKind.i64.wrap (x.snd.snd.snd.snd.fst + (1 : Int)), ()))
else some (Sum.inr (x.fst, x.snd.fst, x.snd.snd.fst, x.snd.snd.snd.fst, ()))
theorem r83_6_run0 (v0 : Int) (v1 : List Int) (v2 : Int) (v3 : Int) (v4 : Int) : roundK tC G83 (look []) c83_6 p83_6 (v0, v1, v2, v3, v4, ()) = r83_6 (v0, v1, v2, v3, v4, ()) := by kernel_rfl
theorem r83_6_run (x : Int × List Int × Int × Int × Int × Unit) : roundK tC G83 (look []) c83_6 p83_6 x = r83_6 x := r83_6_run0 x.1 x.2.1 x.2.2.1 x.2.2.2.1 x.2.2.2.2.1
noncomputable def l83_6 (x : Int × List Int × Int × Int × Int × Unit) : Option (Int × List Int × Int × Int × Unit) := iterO r83_6 x
noncomputable def W83_6 : LF tC := loopW tC p83_6 2 l83_6
theorem W83_6_ok : keyed 6 (loopOf (bodyOf Try.f83) 0) = [.block 2 (.loop c83_6)] ∧ ∀ n, n ≤ 0 → Snd tC n (.block 2 (.loop c83_6)) W83_6.k := ⟨by kernel_rfl, fun n hn => loopW_ok (p := p83_6) (id := 2) Y83 (lam_le lam_nil n hn) hn r83_6_run⟩
noncomputable def c83_0 : Code := loopOf (bodyOf Try.f83) 0
def p83_0 : LS := ⟨0, [3, 6, 7, 8], ⟨[vB, vB, vB, .one (.one (.int .u32)), vB, vB, .one (.one (.imm 5)), vI, vI] ++ vBs 20, []⟩, [⟨.exit 0, [3], ⟨[vB, vB, vB, .one (.one (.int .u32))] ++ vBs 25, []⟩, []⟩], []⟩
noncomputable def r83_0 (x : Int × List Int × Int × Int × Unit) : Option (Int × List Int × Int × Int × Unit ⊕ Int × Unit) :=
  bif decide (x.snd.snd.snd.fst < x.snd.snd.fst) then
  (idxO x.snd.fst x.snd.snd.snd.fst).bind fun y22 =>
    (l83_6 (bits BinOp.xor IntKind.u32 x.fst (IntKind.u32.wrap y22), x.snd.fst, x.snd.snd.fst, x.snd.snd.snd.fst, (0 : Int), ())).bind
      fun y21 => some (Sum.inl (y21.fst, y21.snd.fst, y21.snd.snd.fst, IntKind.i64.wrap (y21.snd.snd.snd.fst + (1 : Int)), ()))
else some (Sum.inr (x.fst, ()))
theorem r83_0_run0 (v0 : Int) (v1 : List Int) (v2 : Int) (v3 : Int) : roundK tC G83 (look [(6, W83_6)]) c83_0 p83_0 (v0, v1, v2, v3, ()) = r83_0 (v0, v1, v2, v3, ()) := by kernel_rfl
theorem r83_0_run (x : Int × List Int × Int × Int × Unit) : roundK tC G83 (look [(6, W83_6)]) c83_0 p83_0 x = r83_0 x := r83_0_run0 x.1 x.2.1 x.2.2.1 x.2.2.2.1
noncomputable def l83_0 (x : Int × List Int × Int × Int × Unit) : Option (Int × Unit) := iterO r83_0 x
noncomputable def W83_0 : LF tC := loopW tC p83_0 0 l83_0
theorem W83_0_ok : keyed 0 (bodyOf Try.f83) = [.block 0 (.loop c83_0)] ∧ ∀ n, n ≤ 0 → Snd tC n (.block 0 (.loop c83_0)) W83_0.k := ⟨by kernel_rfl, fun n hn => loopW_ok (p := p83_0) (id := 0) Y83 (lam_le (lam_cons W83_6_ok lam_nil) n hn) hn r83_0_run⟩
def S83 : FS := ⟨[[.s 5]], [⟨[.one (.one (.imm 5))], []⟩], [⟨[.one (.one (.int .u32))], []⟩], [[.v]], []⟩
noncomputable def f83 (x : List Int × Unit) : Option (Int × Unit) :=
  (l83_0 ((4294967295 : Int), x.fst, (↑x.fst.length : Int), (0 : Int), ())).bind fun y25 =>
  some (bits BinOp.xor IntKind.u32 (4294967295 : Int) y25.fst, ())
noncomputable def F83 : CF tC := mkF tC S83 f83
theorem f83_run : ∀ a, fnS tC G83 (look [(0, W83_0)]) Try.f83 S83 a = f83 a := fun a => by kernel_rfl
theorem F83_ok : CFOK tC 83 F83 := mkF_ok Y83 (fn := Try.f83) (body := bodyOf Try.f83) (by kernel_rfl) (by kernel_rfl) (by kernel_rfl) (m := 0) rfl (lam_le (lam_cons W83_0_ok lam_nil)) f83_run

/-! ref.Sum -/
noncomputable def G78 : FuncId → Option (CF tC) := look []
theorem Y78 : SysN tC G78 := (sys_nil tC_ok tC_eq)
noncomputable def c78_25 : Code := subCode (loopOf (loopOf (bodyOf Try.f78) 0) 2) 25
def p78_25 : PS := ⟨0, [0, 3, 4, 5], ⟨[.one (.one (.imm 5)), vB, vB, .one (.one (.int .u32)), vI, vI] ++ vBs 28, []⟩, [⟨.normal, [0, 3, 4, 5], ⟨[.one (.one (.imm 5)), vB, vB, .one (.one (.int .u32)), vI, vI] ++ vBs 28, []⟩, []⟩], []⟩
noncomputable def j78_25 (x : List Int × Int × Int × Int × Unit) : Option (List Int × Int × Int × Int × Unit) :=
  some (x.fst, x.snd.fst, x.snd.snd.fst, IntKind.i64.wrap (x.snd.snd.snd.fst + (1 : Int)), ())
theorem j78_25_run0 (v0 : List Int) (v1 : Int) (v2 : Int) (v3 : Int) : pieceK tC G78 (look []) c78_25 p78_25 (v0, v1, v2, v3, ()) = j78_25 (v0, v1, v2, v3, ()) := by kernel_rfl
theorem j78_25_run (x : List Int × Int × Int × Int × Unit) : pieceK tC G78 (look []) c78_25 p78_25 x = j78_25 x := j78_25_run0 x.1 x.2.1 x.2.2.1 x.2.2.2.1
noncomputable def W78_25 : LF tC := cutLF tC p78_25 j78_25
theorem W78_25_ok : keyed 25 (loopOf (loopOf (bodyOf Try.f78) 0) 2) = [c78_25] ∧ ∀ n, n ≤ 0 → Snd tC n c78_25 W78_25.k := ⟨by kernel_rfl, fun n hn => cut_ok (p := p78_25) Y78 (lam_le lam_nil n hn) hn j78_25_run⟩
noncomputable def c78_6 : Code := loopOf (loopOf (bodyOf Try.f78) 0) 2
def p78_6 : LS := ⟨0, [0, 3, 4, 5], ⟨[.one (.one (.imm 5)), vB, vB, .one (.one (.int .u32)), vI, vI] ++ vBs 28, []⟩, [⟨.exit 2, [0, 3, 4], ⟨[.one (.one (.imm 5)), vB, vB, .one (.one (.int .u32)), vI] ++ vBs 29, []⟩, []⟩], []⟩
noncomputable def r78_6 (x : List Int × Int × Int × Int × Unit) : Option (List Int × Int × Int × Int × Unit ⊕ List Int × Int × Int × Unit) :=
  bif decide (x.snd.snd.snd.fst < (8 : Int)) then
  bif x.snd.fst.tmod (2 : Int) == (1 : Int) then
    (j78_25
          (x.fst, bits BinOp.xor IntKind.u32 (IntKind.u32.wrap (x.snd.fst.tdiv (2 : Int))) (3988292384 : Int), x.snd.snd.fst,
            x.snd.snd.snd.fst, ())).bind
      fun y29 => some (Sum.inl (y29.fst, y29.snd.fst, y29.snd.snd.fst, y29.snd.snd.snd.fst, ()))
  else
    (j78_25 (x.fst, IntKind.u32.wrap (x.snd.fst.tdiv (2 : Int)), x.snd.snd.fst, x.snd.snd.snd.fst, ())).bind fun y30 =>
      some (Sum.inl (y30.fst, y30.snd.fst, y30.snd.snd.fst, y30.snd.snd.snd.fst, ()))
else some (Sum.inr (x.fst, x.snd.fst, x.snd.snd.fst, ()))
theorem r78_6_run0 (v0 : List Int) (v1 : Int) (v2 : Int) (v3 : Int) : roundK tC G78 (look [(25, W78_25)]) c78_6 p78_6 (v0, v1, v2, v3, ()) = r78_6 (v0, v1, v2, v3, ()) := by kernel_rfl
theorem r78_6_run (x : List Int × Int × Int × Int × Unit) : roundK tC G78 (look [(25, W78_25)]) c78_6 p78_6 x = r78_6 x := r78_6_run0 x.1 x.2.1 x.2.2.1 x.2.2.2.1
noncomputable def l78_6 (x : List Int × Int × Int × Int × Unit) : Option (List Int × Int × Int × Unit) := iterO r78_6 x
noncomputable def W78_6 : LF tC := loopW tC p78_6 2 l78_6
theorem W78_6_ok : keyed 6 (loopOf (bodyOf Try.f78) 0) = [.block 2 (.loop c78_6)] ∧ ∀ n, n ≤ 0 → Snd tC n (.block 2 (.loop c78_6)) W78_6.k := ⟨by kernel_rfl, fun n hn => loopW_ok (p := p78_6) (id := 2) Y78 (lam_le (lam_cons W78_25_ok lam_nil) n hn) hn r78_6_run⟩
noncomputable def c78_0 : Code := loopOf (bodyOf Try.f78) 0
def p78_0 : LS := ⟨0, [0, 3, 4], ⟨[.one (.one (.imm 5)), vB, vB, .one (.one (.int .u32)), vI] ++ vBs 29, []⟩, [⟨.exit 0, [3], ⟨[vB, vB, vB, .one (.one (.int .u32))] ++ vBs 30, []⟩, []⟩], []⟩
noncomputable def r78_0 (x : List Int × Int × Int × Unit) : Option (List Int × Int × Int × Unit ⊕ Int × Unit) :=
  bif decide (x.snd.snd.fst < (↑x.fst.length : Int)) then
  (idxO x.fst x.snd.snd.fst).bind fun y36 =>
    (l78_6 (x.fst, bits BinOp.xor IntKind.u32 x.snd.fst (IntKind.u32.wrap y36), x.snd.snd.fst, (0 : Int), ())).bind fun y35 =>
      some (Sum.inl (y35.fst, y35.snd.fst, IntKind.i64.wrap (y35.snd.snd.fst + (1 : Int)), ()))
else some (Sum.inr (x.snd.fst, ()))
theorem r78_0_run0 (v0 : List Int) (v1 : Int) (v2 : Int) : roundK tC G78 (look [(6, W78_6)]) c78_0 p78_0 (v0, v1, v2, ()) = r78_0 (v0, v1, v2, ()) := by kernel_rfl
theorem r78_0_run (x : List Int × Int × Int × Unit) : roundK tC G78 (look [(6, W78_6)]) c78_0 p78_0 x = r78_0 x := r78_0_run0 x.1 x.2.1 x.2.2.1
noncomputable def l78_0 (x : List Int × Int × Int × Unit) : Option (Int × Unit) := iterO r78_0 x
noncomputable def W78_0 : LF tC := loopW tC p78_0 0 l78_0
theorem W78_0_ok : keyed 0 (bodyOf Try.f78) = [.block 0 (.loop c78_0)] ∧ ∀ n, n ≤ 0 → Snd tC n (.block 0 (.loop c78_0)) W78_0.k := ⟨by kernel_rfl, fun n hn => loopW_ok (p := p78_0) (id := 0) Y78 (lam_le (lam_cons W78_6_ok lam_nil) n hn) hn r78_0_run⟩
def S78 : FS := ⟨[[.s 5]], [⟨[.one (.one (.imm 5))], []⟩], [⟨[.one (.one (.int .u32))], []⟩], [[.v]], []⟩
noncomputable def f78 (x : List Int × Unit) : Option (Int × Unit) :=
  (l78_0 (x.fst, (4294967295 : Int), (0 : Int), ())).bind fun y39 => some (IntKind.u32.wrap ((4294967295 : Int) - y39.fst), ())
noncomputable def F78 : CF tC := mkF tC S78 f78
theorem f78_run : ∀ a, fnS tC G78 (look [(0, W78_0)]) Try.f78 S78 a = f78 a := fun a => by kernel_rfl
theorem F78_ok : CFOK tC 78 F78 := mkF_ok Y78 (fn := Try.f78) (body := bodyOf Try.f78) (by kernel_rfl) (by kernel_rfl) (by kernel_rfl) (m := 0) rfl (lam_le (lam_cons W78_0_ok lam_nil)) f78_run

/-! Uint -/
noncomputable def G67 : FuncId → Option (CF tC) := look []
theorem Y67 : SysN tC G67 := (sys_nil tC_ok tC_eq)
noncomputable def c67_0 : Code := loopOf (bodyOf Try.f67) 0
def p67_0 : LS := ⟨0, [0, 3], ⟨[.one (.one (.int .u64)), vB, vB, .one (.one (.sl 0))] ++ vBs 15, [.arr 5]⟩, [⟨.exit 0, [0, 3], ⟨[.one (.one (.int .u64)), vB, vB, .one (.one (.sl 0))] ++ vBs 15, [.arr 5]⟩, []⟩], [(3, 5)]⟩
noncomputable def r67_0 (x : Int × Nat × List Int × Unit) : Option (Int × Nat × List Int × Unit ⊕ Int × Nat × List Int × Unit) :=
  bif decide (x.fst ≥ (128 : Int)) then
  bif decide ((0 : Nat) + x.snd.fst ≤ x.snd.snd.fst.length) then
    bif roomy (x.snd.fst + (1 : Nat)) (1 : Nat) then
      some
        (Sum.inl
          (x.fst.fdiv (128 : Int), x.snd.fst + (1 : Nat),
            List.take x.snd.fst (List.drop (0 : Nat) x.snd.snd.fst) ++ [bits BinOp.or IntKind.u8 (IntKind.u8.wrap x.fst) (128 : Int)], ()))
    else none
  else none
else some (Sum.inr (x.fst, x.snd.fst, x.snd.snd.fst, ()))
theorem r67_0_run0 (v0 : Int) (v1 : Nat) (v2 : List Int) : roundK tC G67 (look []) c67_0 p67_0 (v0, v1, v2, ()) = r67_0 (v0, v1, v2, ()) := by kernel_rfl
theorem r67_0_run (x : Int × Nat × List Int × Unit) : roundK tC G67 (look []) c67_0 p67_0 x = r67_0 x := r67_0_run0 x.1 x.2.1 x.2.2.1
noncomputable def l67_0 (x : Int × Nat × List Int × Unit) : Option (Int × Nat × List Int × Unit) := iterO r67_0 x
noncomputable def W67_0 : LF tC := loopW tC p67_0 0 l67_0
theorem W67_0_ok : keyed 0 (bodyOf Try.f67) = [.block 0 (.loop c67_0)] ∧ ∀ n, n ≤ 0 → Snd tC n (.block 0 (.loop c67_0)) W67_0.k := ⟨by kernel_rfl, fun n hn => loopW_ok (p := p67_0) (id := 0) Y67 (lam_le lam_nil n hn) hn r67_0_run⟩
def S67 : FS := ⟨[[.v]], [⟨[.one (.one (.int .u64))], []⟩], [⟨[.one (.one (.sl 0))], [.arr 5]⟩], [[.v]], [(2, 5)]⟩
noncomputable def f67 (x : Int × Unit) : Option (Nat × List Int × Unit) :=
  (l67_0 (x.fst, (0 : Nat), [], ())).bind fun y14 =>
  bif decide ((0 : Nat) + y14.snd.fst ≤ y14.snd.snd.fst.length) then
    bif roomy (y14.snd.fst + (1 : Nat)) (1 : Nat) then
      some (y14.snd.fst + (1 : Nat), List.take y14.snd.fst (List.drop (0 : Nat) y14.snd.snd.fst) ++ [IntKind.u8.wrap y14.fst], ())
    else none
  else none
noncomputable def F67 : CF tC := mkF tC S67 f67
theorem f67_run : ∀ a, fnS tC G67 (look [(0, W67_0)]) Try.f67 S67 a = f67 a := fun a => by kernel_rfl
theorem F67_ok : CFOK tC 67 F67 := mkF_ok Y67 (fn := Try.f67) (body := bodyOf Try.f67) (by kernel_rfl) (by kernel_rfl) (by kernel_rfl) (m := 0) rfl (lam_le (lam_cons W67_0_ok lam_nil)) f67_run

/-! ref.tail -/
noncomputable def G77 : FuncId → Option (CF tC) := look []
theorem Y77 : SysN tC G77 := (sys_nil tC_ok tC_eq)
def S77 : FS := ⟨[[.v]], [⟨[.one (.one (.int .u32))], []⟩], [⟨[.one (.one (.sl 0))], [.arr 5]⟩], [[.v]], [(2, 5)]⟩
def f77 (n1 : Int) : Nat × List Int :=
  ((4 : Nat),
  [IntKind.u8.wrap n1, IntKind.u8.wrap (n1.fdiv (256 : Int)), IntKind.u8.wrap (n1.fdiv (65536 : Int)),
    IntKind.u8.wrap (n1.fdiv (16777216 : Int))])
noncomputable def F77 : CF tC := mkF tC S77 (fun a => some ((f77 a.1).1, (f77 a.1).2, ()))
def h77 (r : Nat × List Int) : Option (altTy tE S77.outs) := some (r.1, r.2, ())
theorem f77_run : ∀ a, fnS tC G77 (look []) Try.f77 S77 a = (fun a => some ((f77 a.1).1, (f77 a.1).2, ())) a := fun a => by
  have key : ∀ (n1 : Int), (h77
  ((4 : Nat),
    [IntKind.u8.wrap n1, IntKind.u8.wrap (n1.fdiv (256 : Int)), IntKind.u8.wrap (n1.fdiv (65536 : Int)),
      IntKind.u8.wrap (n1.fdiv (16777216 : Int))])) = h77 (f77 n1) := by
    intros
    unfold f77
    repeat' first | rfl | refine cond_h (g := h77) ?_ ?_
  exact Eq.trans (by kernel_rfl) (key a.1)
theorem F77_ok : CFOK tC 77 F77 := mkF_ok Y77 (fn := Try.f77) (body := bodyOf Try.f77) (by kernel_rfl) (by kernel_rfl) (by kernel_rfl) (m := 0) rfl (lam_le lam_nil) f77_run

/-! ReadUint -/
noncomputable def G71 : FuncId → Option (CF tC) := look [(58, F58)]
theorem Y71 : SysN tC G71 := (sys_cons F58_ok (mkF_nat _ _) (sys_nil tC_ok tC_eq))
noncomputable def c71_34 : Code := subCode (subCode (loopOf (bodyOf Try.f71) 0) 22) 34
def p71_34 : PS := ⟨0, [0, 5, 6], ⟨[.one (.one (.imm 5))] ++ vBs 4 ++ [.one (.one (.int .u64)), vI] ++ vBs 37, []⟩, [⟨.ret, [2, 3, 4], ⟨[vB, vB, .one (.one (.int .u64)), .one (.one (.sl 0)), vI] ++ vBs 39, [.arr 5]⟩, []⟩], []⟩
noncomputable def j71_34 (x : List Int × Int × Int × Unit) : Option (Int × Nat × Int × List Int × Unit) :=
  bif
    decide ((0 : Int) ≤ IntKind.i64.wrap (x.snd.snd.fst + (1 : Int))) &&
          decide (IntKind.i64.wrap (x.snd.snd.fst + (1 : Int)) ≤ (↑x.fst.length : Int)) &&
        decide ((↑x.fst.length : Int) ≤ (↑x.fst.length : Int)) &&
      decide ((↑x.fst.length : Int) ≤ (↑x.fst.length : Int)) then
  (f58 (List.drop (IntKind.i64.wrap (x.snd.snd.fst + (1 : Int))).toNat (List.take (↑x.fst.length : Int).toNat x.fst), ())).bind fun y24 =>
    some (x.snd.fst, y24.fst, (0 : Int), y24.snd.fst, ())
else none
theorem j71_34_run0 (v0 : List Int) (v1 : Int) (v2 : Int) : pieceK tC G71 (look []) c71_34 p71_34 (v0, v1, v2, ()) = j71_34 (v0, v1, v2, ()) := by kernel_rfl
theorem j71_34_run (x : List Int × Int × Int × Unit) : pieceK tC G71 (look []) c71_34 p71_34 x = j71_34 x := j71_34_run0 x.1 x.2.1 x.2.2.1
noncomputable def W71_34 : LF tC := cutLF tC p71_34 j71_34
theorem W71_34_ok : keyed 34 (subCode (loopOf (bodyOf Try.f71) 0) 22) = [c71_34] ∧ ∀ n, n ≤ 0 → Snd tC n c71_34 W71_34.k := ⟨by kernel_rfl, fun n hn => cut_ok (p := p71_34) Y71 (lam_le lam_nil n hn) hn j71_34_run⟩
noncomputable def c71_22 : Code := subCode (loopOf (bodyOf Try.f71) 0) 22
def p71_22 : PS := ⟨0, [0, 5, 6, 7, 8, 9, 10], ⟨[.one (.one (.imm 5))] ++ vBs 4 ++ [.one (.one (.int .u64)), vI, .one (.one (.int .u8)), .one (.one (.imm 5)), vI, vI] ++ vBs 33, []⟩, [⟨.exit 1, [0, 5, 8, 9, 10], ⟨[.one (.one (.imm 5))] ++ vBs 4 ++ [.one (.one (.int .u64)), vB, vB, .one (.one (.imm 5)), vI, vI] ++ vBs 33, []⟩, []⟩, ⟨.ret, [2, 3, 4], ⟨[vB, vB, .one (.one (.int .u64)), .one (.one (.sl 0)), vI] ++ vBs 39, [.arr 5]⟩, [(3, 5)]⟩], []⟩
noncomputable def j71_22 (x : List Int × Int × Int × Int × List Int × Int × Int × Unit) : Option (List Int × Int × List Int × Int × Int × Unit ⊕ Int × Nat × Int × List Int × Unit) :=
  bif decide (IntKind.i64.wrap ((7 : Int) * x.snd.snd.fst) < (0 : Int)) then none
else
  bif decide (x.snd.snd.snd.fst ≥ (128 : Int)) then
    some
      (Sum.inl
        (x.fst,
          bits BinOp.or IntKind.u64 x.snd.fst
            (IntKind.u64.wrap
              (IntKind.u64.wrap (bits BinOp.andNot IntKind.u8 x.snd.snd.snd.fst (128 : Int)) *
                (2 : Int) ^ min (IntKind.i64.wrap ((7 : Int) * x.snd.snd.fst)).toNat (64 : Nat))),
          x.snd.snd.snd.snd.fst, x.snd.snd.snd.snd.snd.fst, x.snd.snd.snd.snd.snd.snd.fst, ()))
  else
    bif x.snd.snd.snd.fst == (0 : Int) then
      bif decide (x.snd.snd.fst > (0 : Int)) then some (Sum.inr ((0 : Int), (0 : Nat), (3 : Int), [], ()))
      else
        (j71_34
              (x.fst,
                bits BinOp.or IntKind.u64 x.snd.fst
                  (IntKind.u64.wrap
                    (IntKind.u64.wrap (bits BinOp.andNot IntKind.u8 x.snd.snd.snd.fst (128 : Int)) *
                      (2 : Int) ^ min (IntKind.i64.wrap ((7 : Int) * x.snd.snd.fst)).toNat (64 : Nat))),
                x.snd.snd.fst, ())).bind
          fun y42 => some (Sum.inr (y42.fst, y42.snd.fst, y42.snd.snd.fst, y42.snd.snd.snd.fst, ()))
    else
      (j71_34
            (x.fst,
              bits BinOp.or IntKind.u64 x.snd.fst
                (IntKind.u64.wrap
                  (IntKind.u64.wrap (bits BinOp.andNot IntKind.u8 x.snd.snd.snd.fst (128 : Int)) *
                    (2 : Int) ^ min (IntKind.i64.wrap ((7 : Int) * x.snd.snd.fst)).toNat (64 : Nat))),
              x.snd.snd.fst, ())).bind
        fun y43 => some (Sum.inr (y43.fst, y43.snd.fst, y43.snd.snd.fst, y43.snd.snd.snd.fst, ()))
theorem j71_22_run0 (v0 : List Int) (v1 : Int) (v2 : Int) (v3 : Int) (v4 : List Int) (v5 : Int) (v6 : Int) : pieceK tC G71 (look [(34, W71_34)]) c71_22 p71_22 (v0, v1, v2, v3, v4, v5, v6, ()) = j71_22 (v0, v1, v2, v3, v4, v5, v6, ()) := by kernel_rfl
theorem j71_22_run (x : List Int × Int × Int × Int × List Int × Int × Int × Unit) : pieceK tC G71 (look [(34, W71_34)]) c71_22 p71_22 x = j71_22 x := j71_22_run0 x.1 x.2.1 x.2.2.1 x.2.2.2.1 x.2.2.2.2.1 x.2.2.2.2.2.1 x.2.2.2.2.2.2.1
noncomputable def W71_22 : LF tC := cutLF tC p71_22 j71_22
theorem W71_22_ok : keyed 22 (loopOf (bodyOf Try.f71) 0) = [c71_22] ∧ ∀ n, n ≤ 0 → Snd tC n c71_22 W71_22.k := ⟨by kernel_rfl, fun n hn => cut_ok (p := p71_22) Y71 (lam_le (lam_cons W71_34_ok lam_nil) n hn) hn j71_22_run⟩
noncomputable def c71_37 : Code := subCode (loopOf (bodyOf Try.f71) 0) 37
def p71_37 : PS := ⟨0, [0, 5, 8, 9, 10], ⟨[.one (.one (.imm 5))] ++ vBs 4 ++ [.one (.one (.int .u64)), vB, vB, .one (.one (.imm 5)), vI, vI] ++ vBs 33, []⟩, [⟨.normal, [0, 5, 8, 9, 10], ⟨[.one (.one (.imm 5))] ++ vBs 4 ++ [.one (.one (.int .u64)), vB, vB, .one (.one (.imm 5)), vI, vI] ++ vBs 33, []⟩, []⟩], []⟩
noncomputable def j71_37 (x : List Int × Int × List Int × Int × Int × Unit) : Option (List Int × Int × List Int × Int × Int × Unit) :=
  some (x.fst, x.snd.fst, x.snd.snd.fst, x.snd.snd.snd.fst, IntKind.i64.wrap (x.snd.snd.snd.snd.fst + (1 : Int)), ())
theorem j71_37_run0 (v0 : List Int) (v1 : Int) (v2 : List Int) (v3 : Int) (v4 : Int) : pieceK tC G71 (look []) c71_37 p71_37 (v0, v1, v2, v3, v4, ()) = j71_37 (v0, v1, v2, v3, v4, ()) := by kernel_rfl
theorem j71_37_run (x : List Int × Int × List Int × Int × Int × Unit) : pieceK tC G71 (look []) c71_37 p71_37 x = j71_37 x := j71_37_run0 x.1 x.2.1 x.2.2.1 x.2.2.2.1 x.2.2.2.2.1
noncomputable def W71_37 : LF tC := cutLF tC p71_37 j71_37
theorem W71_37_ok : keyed 37 (loopOf (bodyOf Try.f71) 0) = [c71_37] ∧ ∀ n, n ≤ 0 → Snd tC n c71_37 W71_37.k := ⟨by kernel_rfl, fun n hn => cut_ok (p := p71_37) Y71 (lam_le lam_nil n hn) hn j71_37_run⟩
noncomputable def c71_0 : Code := loopOf (bodyOf Try.f71) 0
def p71_0 : LS := ⟨0, [0, 5, 8, 9, 10], ⟨[.one (.one (.imm 5))] ++ vBs 4 ++ [.one (.one (.int .u64)), vB, vB, .one (.one (.imm 5)), vI, vI] ++ vBs 33, []⟩, [⟨.ret, [2, 3, 4], ⟨[vB, vB, .one (.one (.int .u64)), .one (.one (.sl 0)), vI] ++ vBs 39, [.arr 5]⟩, [(3, 5)]⟩, ⟨.exit 0, [], ⟨vBs 44, []⟩, []⟩], []⟩
noncomputable def r71_0 (x : List Int × Int × List Int × Int × Int × Unit) : Option (List Int × Int × List Int × Int × Int × Unit ⊕ Int × Nat × Int × List Int × Unit ⊕ Unit) :=
  bif decide (x.snd.snd.snd.snd.fst < x.snd.snd.snd.fst) then
  (idxO x.snd.snd.fst x.snd.snd.snd.snd.fst).bind fun y94 =>
    bif x.snd.snd.snd.snd.fst == (9 : Int) then
      bif decide (y94 > (1 : Int)) then some (Sum.inr (Sum.inl ((0 : Int), (0 : Nat), (2 : Int), [], ())))
      else
        (j71_22 (x.fst, x.snd.fst, x.snd.snd.snd.snd.fst, y94, x.snd.snd.fst, x.snd.snd.snd.fst, x.snd.snd.snd.snd.fst, ())).bind fun y89 =>
          Sum.elim
            (fun y87 =>
              (j71_37 (y87.fst, y87.snd.fst, y87.snd.snd.fst, y87.snd.snd.snd.fst, y87.snd.snd.snd.snd.fst, ())).bind fun y86 =>
                some (Sum.inl (y86.fst, y86.snd.fst, y86.snd.snd.fst, y86.snd.snd.snd.fst, y86.snd.snd.snd.snd.fst, ())))
            (fun y88 => some (Sum.inr (Sum.inl (y88.fst, y88.snd.fst, y88.snd.snd.fst, y88.snd.snd.snd.fst, ())))) y89
    else
      (j71_22 (x.fst, x.snd.fst, x.snd.snd.snd.snd.fst, y94, x.snd.snd.fst, x.snd.snd.snd.fst, x.snd.snd.snd.snd.fst, ())).bind fun y93 =>
        Sum.elim
          (fun y91 =>
            (j71_37 (y91.fst, y91.snd.fst, y91.snd.snd.fst, y91.snd.snd.snd.fst, y91.snd.snd.snd.snd.fst, ())).bind fun y90 =>
              some (Sum.inl (y90.fst, y90.snd.fst, y90.snd.snd.fst, y90.snd.snd.snd.fst, y90.snd.snd.snd.snd.fst, ())))
          (fun y92 => some (Sum.inr (Sum.inl (y92.fst, y92.snd.fst, y92.snd.snd.fst, y92.snd.snd.snd.fst, ())))) y93
else some (Sum.inr (Sum.inr ()))
theorem r71_0_run0 (v0 : List Int) (v1 : Int) (v2 : List Int) (v3 : Int) (v4 : Int) : roundK tC G71 (look [(22, W71_22), (37, W71_37)]) c71_0 p71_0 (v0, v1, v2, v3, v4, ()) = r71_0 (v0, v1, v2, v3, v4, ()) := by kernel_rfl
theorem r71_0_run (x : List Int × Int × List Int × Int × Int × Unit) : roundK tC G71 (look [(22, W71_22), (37, W71_37)]) c71_0 p71_0 x = r71_0 x := r71_0_run0 x.1 x.2.1 x.2.2.1 x.2.2.2.1 x.2.2.2.2.1
noncomputable def l71_0 (x : List Int × Int × List Int × Int × Int × Unit) : Option (Int × Nat × Int × List Int × Unit ⊕ Unit) := iterO r71_0 x
noncomputable def W71_0 : LF tC := loopW tC p71_0 0 l71_0
theorem W71_0_ok : keyed 0 (bodyOf Try.f71) = [.block 0 (.loop c71_0)] ∧ ∀ n, n ≤ 0 → Snd tC n (.block 0 (.loop c71_0)) W71_0.k := ⟨by kernel_rfl, fun n hn => loopW_ok (p := p71_0) (id := 0) Y71 (lam_le (lam_cons W71_22_ok (lam_cons W71_37_ok lam_nil)) n hn) hn r71_0_run⟩
def S71 : FS := ⟨[[.s 5]], [⟨[.one (.one (.imm 5))], []⟩], [⟨[.tup [.one (.int .u64), .one (.imm 5), .one (.int .i64)]], []⟩], [[.v], [.s 5], [.v]], []⟩
noncomputable def f71 (x : List Int × Unit) : Option (Int × List Int × Int × Unit) :=
  (l71_0 (x.fst, (0 : Int), x.fst, (↑x.fst.length : Int), (0 : Int), ())).bind fun y104 =>
  Sum.elim
    (fun y102 =>
      bif decide ((0 : Nat) + y102.snd.fst ≤ y102.snd.snd.snd.fst.length) then
        some (y102.fst, List.take y102.snd.fst (List.drop (0 : Nat) y102.snd.snd.snd.fst), y102.snd.snd.fst, ())
      else none)
    (fun _x => some ((0 : Int), [], (4 : Int), ())) y104
noncomputable def F71 : CF tC := mkF tC S71 f71
theorem f71_run : ∀ a, fnS tC G71 (look [(0, W71_0)]) Try.f71 S71 a = f71 a := fun a => by kernel_rfl
theorem F71_ok : CFOK tC 71 F71 := mkF_ok Y71 (fn := Try.f71) (body := bodyOf Try.f71) (by kernel_rfl) (by kernel_rfl) (by kernel_rfl) (m := 0) rfl (lam_le (lam_cons W71_0_ok lam_nil)) f71_run

/-! ref.ReadUint -/
noncomputable def G72 : FuncId → Option (CF tC) := look []
theorem Y72 : SysN tC G72 := (sys_nil tC_ok tC_eq)
noncomputable def c72_34 : Code := subCode (subCode (loopOf (bodyOf Try.f72) 0) 22) 34
def p72_34 : PS := ⟨0, [0, 5, 6], ⟨[.one (.one (.imm 5))] ++ vBs 4 ++ [.one (.one (.int .u64)), vI] ++ vBs 48, []⟩, [⟨.ret, [2, 3, 4], ⟨[vB, vB, .one (.one (.int .u64)), .one (.one (.sl 0)), vI] ++ vBs 50, [.arr 5]⟩, []⟩], []⟩
noncomputable def j72_34 (x : List Int × Int × Int × Unit) : Option (Int × Nat × Int × List Int × Unit) :=
  bif
    decide ((0 : Int) ≤ IntKind.i64.wrap (x.snd.snd.fst + (1 : Int))) &&
          decide (IntKind.i64.wrap (x.snd.snd.fst + (1 : Int)) ≤ (↑x.fst.length : Int)) &&
        decide ((↑x.fst.length : Int) ≤ (↑x.fst.length : Int)) &&
      decide ((↑x.fst.length : Int) ≤ (↑x.fst.length : Int)) then
  bif
      roomy
        ((0 : Nat) + (List.drop (IntKind.i64.wrap (x.snd.snd.fst + (1 : Int))).toNat (List.take (↑x.fst.length : Int).toNat x.fst)).length)
        (1 : Nat) then
    some
      (x.snd.fst,
        (0 : Nat) + (List.drop (IntKind.i64.wrap (x.snd.snd.fst + (1 : Int))).toNat (List.take (↑x.fst.length : Int).toNat x.fst)).length,
        (0 : Int), [] ++ List.drop (IntKind.i64.wrap (x.snd.snd.fst + (1 : Int))).toNat (List.take (↑x.fst.length : Int).toNat x.fst), ())
  else none
else none
theorem j72_34_run0 (v0 : List Int) (v1 : Int) (v2 : Int) : pieceK tC G72 (look []) c72_34 p72_34 (v0, v1, v2, ()) = j72_34 (v0, v1, v2, ()) := by kernel_rfl
theorem j72_34_run (x : List Int × Int × Int × Unit) : pieceK tC G72 (look []) c72_34 p72_34 x = j72_34 x := j72_34_run0 x.1 x.2.1 x.2.2.1
noncomputable def W72_34 : LF tC := cutLF tC p72_34 j72_34
theorem W72_34_ok : keyed 34 (subCode (loopOf (bodyOf Try.f72) 0) 22) = [c72_34] ∧ ∀ n, n ≤ 0 → Snd tC n c72_34 W72_34.k := ⟨by kernel_rfl, fun n hn => cut_ok (p := p72_34) Y72 (lam_le lam_nil n hn) hn j72_34_run⟩
noncomputable def c72_22 : Code := subCode (loopOf (bodyOf Try.f72) 0) 22
def p72_22 : PS := ⟨0, [0, 5, 6], ⟨[.one (.one (.imm 5))] ++ vBs 4 ++ [.one (.one (.int .u64)), vI] ++ vBs 48, []⟩, [⟨.ret, [2, 3, 4], ⟨[vB, vB, .one (.one (.int .u64)), .one (.one (.sl 0)), vI] ++ vBs 50, [.arr 5]⟩, [(3, 5)]⟩, ⟨.normal, [0, 5, 6], ⟨[.one (.one (.imm 5))] ++ vBs 4 ++ [.one (.one (.int .u64)), vI] ++ vBs 48, []⟩, []⟩], []⟩
noncomputable def j72_22 (x : List Int × Int × Int × Unit) : Option (Int × Nat × Int × List Int × Unit ⊕ List Int × Int × Int × Unit) :=
  (idxO x.fst x.snd.snd.fst).bind fun y38 =>
  bif decide (IntKind.u64.wrap (IntKind.i64.wrap ((7 : Int) * x.snd.snd.fst)) < (0 : Int)) then none
  else
    (idxO x.fst x.snd.snd.fst).bind fun y37 =>
      bif decide (y37 < (128 : Int)) then
        (idxO x.fst x.snd.snd.fst).bind fun y36 =>
          bif y36 == (0 : Int) then
            bif decide (x.snd.snd.fst > (0 : Int)) then some (Sum.inl ((0 : Int), (0 : Nat), (3 : Int), [], ()))
            else
              (j72_34
                    (x.fst,
                      IntKind.u64.wrap
                        (x.snd.fst +
                          IntKind.u64.wrap
                            (IntKind.u64.wrap (y38.tmod (128 : Int)) *
                              (2 : Int) ^ min (IntKind.u64.wrap (IntKind.i64.wrap ((7 : Int) * x.snd.snd.fst))).toNat (64 : Nat))),
                      x.snd.snd.fst, ())).bind
                fun y34 => some (Sum.inl (y34.fst, y34.snd.fst, y34.snd.snd.fst, y34.snd.snd.snd.fst, ()))
          else
            (j72_34
                  (x.fst,
                    IntKind.u64.wrap
                      (x.snd.fst +
                        IntKind.u64.wrap
                          (IntKind.u64.wrap (y38.tmod (128 : Int)) *
                            (2 : Int) ^ min (IntKind.u64.wrap (IntKind.i64.wrap ((7 : Int) * x.snd.snd.fst))).toNat (64 : Nat))),
                    x.snd.snd.fst, ())).bind
              fun y35 => some (Sum.inl (y35.fst, y35.snd.fst, y35.snd.snd.fst, y35.snd.snd.snd.fst, ()))
      else
        some
          (Sum.inr
            (x.fst,
              IntKind.u64.wrap
                (x.snd.fst +
                  IntKind.u64.wrap
                    (IntKind.u64.wrap (y38.tmod (128 : Int)) *
                      (2 : Int) ^ min (IntKind.u64.wrap (IntKind.i64.wrap ((7 : Int) * x.snd.snd.fst))).toNat (64 : Nat))),
              x.snd.snd.fst, ()))
theorem j72_22_run0 (v0 : List Int) (v1 : Int) (v2 : Int) : pieceK tC G72 (look [(34, W72_34)]) c72_22 p72_22 (v0, v1, v2, ()) = j72_22 (v0, v1, v2, ()) := by kernel_rfl
theorem j72_22_run (x : List Int × Int × Int × Unit) : pieceK tC G72 (look [(34, W72_34)]) c72_22 p72_22 x = j72_22 x := j72_22_run0 x.1 x.2.1 x.2.2.1
noncomputable def W72_22 : LF tC := cutLF tC p72_22 j72_22
theorem W72_22_ok : keyed 22 (loopOf (bodyOf Try.f72) 0) = [c72_22] ∧ ∀ n, n ≤ 0 → Snd tC n c72_22 W72_22.k := ⟨by kernel_rfl, fun n hn => cut_ok (p := p72_22) Y72 (lam_le (lam_cons W72_34_ok lam_nil) n hn) hn j72_22_run⟩
noncomputable def c72_13 : Code := subCode (loopOf (bodyOf Try.f72) 0) 13
def p72_13 : PS := ⟨0, [0, 5, 6], ⟨[.one (.one (.imm 5))] ++ vBs 4 ++ [.one (.one (.int .u64)), vI] ++ vBs 48, []⟩, [⟨.normal, [0, 5, 6], ⟨[.one (.one (.imm 5))] ++ vBs 4 ++ [.one (.one (.int .u64)), vI] ++ vBs 48, []⟩, []⟩], []⟩
noncomputable def j72_13 (x : List Int × Int × Int × Unit) : Option (List Int × Int × Int × Unit) :=
  some (x.fst, x.snd.fst, IntKind.i64.wrap (x.snd.snd.fst + (1 : Int)), ())
theorem j72_13_run0 (v0 : List Int) (v1 : Int) (v2 : Int) : pieceK tC G72 (look []) c72_13 p72_13 (v0, v1, v2, ()) = j72_13 (v0, v1, v2, ()) := by kernel_rfl
theorem j72_13_run (x : List Int × Int × Int × Unit) : pieceK tC G72 (look []) c72_13 p72_13 x = j72_13 x := j72_13_run0 x.1 x.2.1 x.2.2.1
noncomputable def W72_13 : LF tC := cutLF tC p72_13 j72_13
theorem W72_13_ok : keyed 13 (loopOf (bodyOf Try.f72) 0) = [c72_13] ∧ ∀ n, n ≤ 0 → Snd tC n c72_13 W72_13.k := ⟨by kernel_rfl, fun n hn => cut_ok (p := p72_13) Y72 (lam_le lam_nil n hn) hn j72_13_run⟩
noncomputable def c72_0 : Code := loopOf (bodyOf Try.f72) 0
def p72_0 : LS := ⟨0, [0, 5, 6], ⟨[.one (.one (.imm 5))] ++ vBs 4 ++ [.one (.one (.int .u64)), vI] ++ vBs 48, []⟩, [⟨.ret, [2, 3, 4], ⟨[vB, vB, .one (.one (.int .u64)), .one (.one (.sl 0)), vI] ++ vBs 50, [.arr 5]⟩, [(3, 5)]⟩, ⟨.exit 0, [], ⟨vBs 55, []⟩, []⟩], []⟩
noncomputable def r72_0 (x : List Int × Int × Int × Unit) : Option (List Int × Int × Int × Unit ⊕ Int × Nat × Int × List Int × Unit ⊕ Unit) :=
  bif decide (x.snd.snd.fst < (↑x.fst.length : Int)) then
  bif x.snd.snd.fst == (9 : Int) then
    (idxO x.fst x.snd.snd.fst).bind fun y73 =>
      bif decide (y73 > (1 : Int)) then some (Sum.inr (Sum.inl ((0 : Int), (0 : Nat), (2 : Int), [], ())))
      else
        (j72_22 (x.fst, x.snd.fst, x.snd.snd.fst, ())).bind fun y72 =>
          Sum.elim (fun y69 => some (Sum.inr (Sum.inl (y69.fst, y69.snd.fst, y69.snd.snd.fst, y69.snd.snd.snd.fst, ()))))
            (fun y71 =>
              (j72_13 (y71.fst, y71.snd.fst, y71.snd.snd.fst, ())).bind fun y70 =>
                some (Sum.inl (y70.fst, y70.snd.fst, y70.snd.snd.fst, ())))
            y72
  else
    (j72_22 (x.fst, x.snd.fst, x.snd.snd.fst, ())).bind fun y77 =>
      Sum.elim (fun y74 => some (Sum.inr (Sum.inl (y74.fst, y74.snd.fst, y74.snd.snd.fst, y74.snd.snd.snd.fst, ()))))
        (fun y76 =>
          (j72_13 (y76.fst, y76.snd.fst, y76.snd.snd.fst, ())).bind fun y75 => some (Sum.inl (y75.fst, y75.snd.fst, y75.snd.snd.fst, ())))
        y77
else some (Sum.inr (Sum.inr ()))
theorem r72_0_run0 (v0 : List Int) (v1 : Int) (v2 : Int) : roundK tC G72 (look [(22, W72_22), (13, W72_13)]) c72_0 p72_0 (v0, v1, v2, ()) = r72_0 (v0, v1, v2, ()) := by kernel_rfl
theorem r72_0_run (x : List Int × Int × Int × Unit) : roundK tC G72 (look [(22, W72_22), (13, W72_13)]) c72_0 p72_0 x = r72_0 x := r72_0_run0 x.1 x.2.1 x.2.2.1
noncomputable def l72_0 (x : List Int × Int × Int × Unit) : Option (Int × Nat × Int × List Int × Unit ⊕ Unit) := iterO r72_0 x
noncomputable def W72_0 : LF tC := loopW tC p72_0 0 l72_0
theorem W72_0_ok : keyed 0 (bodyOf Try.f72) = [.block 0 (.loop c72_0)] ∧ ∀ n, n ≤ 0 → Snd tC n (.block 0 (.loop c72_0)) W72_0.k := ⟨by kernel_rfl, fun n hn => loopW_ok (p := p72_0) (id := 0) Y72 (lam_le (lam_cons W72_22_ok (lam_cons W72_13_ok lam_nil)) n hn) hn r72_0_run⟩
def S72 : FS := ⟨[[.s 5]], [⟨[.one (.one (.imm 5))], []⟩], [⟨[.tup [.one (.int .u64), .one (.imm 5), .one (.int .i64)]], []⟩], [[.v], [.s 5], [.v]], []⟩
noncomputable def f72 (x : List Int × Unit) : Option (Int × List Int × Int × Unit) :=
  (l72_0 (x.fst, (0 : Int), (0 : Int), ())).bind fun y87 =>
  Sum.elim
    (fun y85 =>
      bif decide ((0 : Nat) + y85.snd.fst ≤ y85.snd.snd.snd.fst.length) then
        some (y85.fst, List.take y85.snd.fst (List.drop (0 : Nat) y85.snd.snd.snd.fst), y85.snd.snd.fst, ())
      else none)
    (fun _x => some ((0 : Int), [], (4 : Int), ())) y87
noncomputable def F72 : CF tC := mkF tC S72 f72
theorem f72_run : ∀ a, fnS tC G72 (look [(0, W72_0)]) Try.f72 S72 a = f72 a := fun a => by kernel_rfl
theorem F72_ok : CFOK tC 72 F72 := mkF_ok Y72 (fn := Try.f72) (body := bodyOf Try.f72) (by kernel_rfl) (by kernel_rfl) (by kernel_rfl) (m := 0) rfl (lam_le (lam_cons W72_0_ok lam_nil)) f72_run

/-! ref.Uint -/
def S46 : FS := ⟨[[.v]], [⟨[.one (.one (.int .u64))], []⟩], [⟨[.one (.one (.sl 0))], [.arr 5]⟩], [[.v]], [(2, 5)]⟩
noncomputable def G46 (rec46 : altTy tE S46.ins → Option (altTy tE S46.outs)) : FuncId → Option (CF tC) := look [(46, mkF tC S46 rec46)]
noncomputable def b46 (rec46 : altTy tE S46.ins → Option (altTy tE S46.outs)) (x : Int × Unit) : Option (Nat × List Int × Unit) :=
  bif decide (x.fst < (128 : Int)) then some ((1 : Nat), [IntKind.u8.wrap x.fst], ())
else
  (rec46 (IntKind.u64.wrap (x.fst.tdiv (128 : Int)), ())).bind fun y6 =>
    bif decide ((0 : Nat) + y6.fst ≤ y6.snd.fst.length) then
      bif roomy ((1 : Nat) + (List.take y6.fst (List.drop (0 : Nat) y6.snd.fst)).length) (1 : Nat) then
        some
          ((1 : Nat) + (List.take y6.fst (List.drop (0 : Nat) y6.snd.fst)).length,
            IntKind.u8.wrap (IntKind.u64.wrap (x.fst.tmod (128 : Int) + (128 : Int))) ::
              List.append [] (List.take y6.fst (List.drop (0 : Nat) y6.snd.fst)),
            ())
      else none
    else none
noncomputable def n46 : Nat → altTy tE S46.ins → Option (altTy tE S46.outs)
  | 0 => fun _ => none
  | n + 1 => b46 (n46 n)
theorem b46_run (rec46 : altTy tE S46.ins → Option (altTy tE S46.outs)) : ∀ a, fnS tC (G46 rec46) (look []) Try.f46 S46 a = b46 rec46 a := fun a => by kernel_rfl
theorem n46_ok : ∀ n, CFOK tC 46 (mkF tC S46 (n46 n))
  | 0 => mkF_none (fn := Try.f46) (body := bodyOf Try.f46) (by kernel_rfl) (by kernel_rfl) (by kernel_rfl) _
  | n + 1 => mkF_ok (Γ := G46 (n46 n)) (sys_cons (n46_ok n) (mkF_nat _ _) (sys_nil tC_ok tC_eq)) (fn := Try.f46) (body := bodyOf Try.f46) (by kernel_rfl) (by kernel_rfl) (by kernel_rfl) (m := 0) rfl (lam_le lam_nil) (b46_run (n46 n))
noncomputable def f46 (x : altTy tE S46.ins) : Option (altTy tE S46.outs) := n46 ((fun _ => 11 : altTy tE S46.ins → Nat) x) x
noncomputable def F46 : CF tC := mkF tC S46 f46
theorem F46_ok : CFOK tC 46 F46 := mkF_fuel n46_ok _

/-! Int -/
noncomputable def G66 : FuncId → Option (CF tC) := look [(67, F67)]
theorem Y66 : SysN tC G66 := (sys_cons F67_ok (mkF_nat _ _) (sys_nil tC_ok tC_eq))
def S66 : FS := ⟨[[.v]], [⟨[vI], []⟩], [⟨[.one (.one (.sl 0))], [.arr 5]⟩], [[.v]], [(2, 5)]⟩
noncomputable def f66 (x : Int × Unit) : Option (Nat × List Int × Unit) :=
  (f67
      (bits BinOp.xor IntKind.u64 (IntKind.u64.wrap (IntKind.u64.wrap x.fst * (2 : Int)))
          (IntKind.u64.wrap (x.fst.fdiv (9223372036854775808 : Int))),
        ())).bind
  fun y6 => some (y6.fst, y6.snd.fst, ())
noncomputable def F66 : CF tC := mkF tC S66 f66
theorem f66_run : ∀ a, fnS tC G66 (look []) Try.f66 S66 a = f66 a := fun a => by kernel_rfl
theorem F66_ok : CFOK tC 66 F66 := mkF_ok Y66 (fn := Try.f66) (body := bodyOf Try.f66) (by kernel_rfl) (by kernel_rfl) (by kernel_rfl) (m := 0) rfl (lam_le lam_nil) f66_run

/-! ReadInt -/
noncomputable def G70 : FuncId → Option (CF tC) := look [(71, F71)]
theorem Y70 : SysN tC G70 := (sys_cons F71_ok (mkF_nat _ _) (sys_nil tC_ok tC_eq))
def S70 : FS := ⟨[[.s 5]], [⟨[.one (.one (.imm 5))], []⟩], [⟨[.tup [.one (.int .i64), .one (.imm 5), .one (.int .i64)]], []⟩], [[.v], [.s 5], [.v]], []⟩
noncomputable def f70 (x : List Int × Unit) : Option (Int × List Int × Int × Unit) :=
  (f71 (x.fst, ())).bind fun y8 =>
  bif y8.snd.snd.fst != (0 : Int) then some ((0 : Int), [], y8.snd.snd.fst, ())
  else
    some
      (bits BinOp.xor IntKind.i64 (IntKind.i64.wrap (y8.fst.fdiv (2 : Int)))
          (IntKind.i64.wrap ((0 : Int) - IntKind.i64.wrap (bits BinOp.and IntKind.u64 y8.fst (1 : Int)))),
        y8.snd.fst, (0 : Int), ())
noncomputable def F70 : CF tC := mkF tC S70 f70
theorem f70_run : ∀ a, fnS tC G70 (look []) Try.f70 S70 a = f70 a := fun a => by kernel_rfl
theorem F70_ok : CFOK tC 70 F70 := mkF_ok Y70 (fn := Try.f70) (body := bodyOf Try.f70) (by kernel_rfl) (by kernel_rfl) (by kernel_rfl) (m := 0) rfl (lam_le lam_nil) f70_run

/-! ref.ReadInt -/
noncomputable def G51 : FuncId → Option (CF tC) := look [(72, F72)]
theorem Y51 : SysN tC G51 := (sys_cons F72_ok (mkF_nat _ _) (sys_nil tC_ok tC_eq))
def S51 : FS := ⟨[[.s 5]], [⟨[.one (.one (.imm 5))], []⟩], [⟨[.tup [.one (.int .i64), .one (.imm 5), .one (.int .i64)]], []⟩], [[.v], [.s 5], [.v]], []⟩
noncomputable def f51 (x : List Int × Unit) : Option (Int × List Int × Int × Unit) :=
  (f72 (x.fst, ())).bind fun y8 =>
  bif y8.fst.tmod (2 : Int) == (0 : Int) then
    some (IntKind.i64.wrap (IntKind.u64.wrap (y8.fst.tdiv (2 : Int))), y8.snd.fst, y8.snd.snd.fst, ())
  else
    some
      (IntKind.i64.wrap (IntKind.i64.wrap ((0 : Int) - IntKind.i64.wrap (IntKind.u64.wrap (y8.fst.tdiv (2 : Int)))) - (1 : Int)),
        y8.snd.fst, y8.snd.snd.fst, ())
noncomputable def F51 : CF tC := mkF tC S51 f51
theorem f51_run : ∀ a, fnS tC G51 (look []) Try.f51 S51 a = f51 a := fun a => by kernel_rfl
theorem F51_ok : CFOK tC 51 F51 := mkF_ok Y51 (fn := Try.f51) (body := bodyOf Try.f51) (by kernel_rfl) (by kernel_rfl) (by kernel_rfl) (m := 0) rfl (lam_le lam_nil) f51_run

/-! ref.Int -/
noncomputable def G45 : FuncId → Option (CF tC) := look [(46, F46)]
theorem Y45 : SysN tC G45 := (sys_cons F46_ok (mkF_nat _ _) (sys_nil tC_ok tC_eq))
def S45 : FS := ⟨[[.v]], [⟨[vI], []⟩], [⟨[.one (.one (.sl 0))], [.arr 5]⟩], [[.v]], [(2, 5)]⟩
noncomputable def f45 (x : Int × Unit) : Option (Nat × List Int × Unit) :=
  bif decide (x.fst ≥ (0 : Int)) then
  (f46 (IntKind.u64.wrap ((2 : Int) * IntKind.u64.wrap x.fst), ())).bind fun y8 => some (y8.fst, y8.snd.fst, ())
else
  (f46
        (IntKind.u64.wrap
            (IntKind.u64.wrap ((2 : Int) * IntKind.u64.wrap (IntKind.i64.wrap ((0 : Int) - IntKind.i64.wrap (x.fst + (1 : Int))))) +
              (1 : Int)),
          ())).bind
    fun y9 => some (y9.fst, y9.snd.fst, ())
noncomputable def F45 : CF tC := mkF tC S45 f45
theorem f45_run : ∀ a, fnS tC G45 (look []) Try.f45 S45 a = f45 a := fun a => by kernel_rfl
theorem F45_ok : CFOK tC 45 F45 := mkF_ok Y45 (fn := Try.f45) (body := bodyOf Try.f45) (by kernel_rfl) (by kernel_rfl) (by kernel_rfl) (m := 0) rfl (lam_le lam_nil) f45_run

/-! checked -/
noncomputable def G73 : FuncId → Option (CF tC) := look [(83, F83)]
theorem Y73 : SysN tC G73 := (sys_cons F83_ok (mkF_nat _ _) (sys_nil tC_ok tC_eq))
noncomputable def c73_0 : Code := loopOf (bodyOf Try.f73) 0
def p73_0 : LS := ⟨1, [0, 3, 6], ⟨[.one (.one (.sl 1)), vB, vB, .one (.one (.int .u32)), vB, vB, vI] ++ vBs 10, [.gone, .arr 5]⟩, [⟨.exit 0, [0], ⟨[.one (.one (.sl 1))] ++ vBs 16, [.gone, .arr 5]⟩, []⟩], [(0, 5)]⟩
noncomputable def r73_0 (x : Nat × Int × Int × List Int × Unit) : Option (Nat × Int × Int × List Int × Unit ⊕ Nat × List Int × Unit) :=
  bif decide (x.snd.snd.fst < (4 : Int)) then
  bif decide ((0 : Nat) + x.fst ≤ x.snd.snd.snd.fst.length) then
    bif roomy (x.fst + (1 : Nat)) (1 : Nat) then
      some
        (Sum.inl
          (x.fst + (1 : Nat), x.snd.fst.fdiv (256 : Int), IntKind.i64.wrap (x.snd.snd.fst + (1 : Int)),
            List.take x.fst (List.drop (0 : Nat) x.snd.snd.snd.fst) ++ [IntKind.u8.wrap x.snd.fst], ()))
    else none
  else none
else some (Sum.inr (x.fst, x.snd.snd.snd.fst, ()))
theorem r73_0_run0 (v0 : Nat) (v1 : Int) (v2 : Int) (v3 : List Int) : roundK tC G73 (look []) c73_0 p73_0 (v0, v1, v2, v3, ()) = r73_0 (v0, v1, v2, v3, ()) := by kernel_rfl
theorem r73_0_run (x : Nat × Int × Int × List Int × Unit) : roundK tC G73 (look []) c73_0 p73_0 x = r73_0 x := r73_0_run0 x.1 x.2.1 x.2.2.1 x.2.2.2.1
noncomputable def l73_0 (x : Nat × Int × Int × List Int × Unit) : Option (Nat × List Int × Unit) := iterO r73_0 x
noncomputable def W73_0 : LF tC := loopW tC p73_0 0 l73_0
theorem W73_0_ok : keyed 0 (bodyOf Try.f73) = [.block 0 (.loop c73_0)] ∧ ∀ n, n ≤ 1 → Snd tC n (.block 0 (.loop c73_0)) W73_0.k := ⟨by kernel_rfl, fun n hn => loopW_ok (p := p73_0) (id := 0) Y73 (lam_le lam_nil n hn) hn r73_0_run⟩
def S73 : FS := ⟨[[.o 5]], [⟨[.one (.one (.sl 0))], [.arr 5]⟩], [⟨[.one (.one (.sl 1))], [.gone, .arr 5]⟩], [[.v]], [(2, 5)]⟩
noncomputable def f73 (x : Nat × List Int × Unit) : Option (Nat × List Int × Unit) :=
  bif decide ((0 : Nat) + x.fst ≤ x.snd.fst.length) then
  (f83 (List.take x.fst (List.drop (0 : Nat) x.snd.fst), ())).bind fun y19 =>
    (l73_0 (x.fst, y19.fst, (0 : Int), x.snd.fst, ())).bind fun y18 => some (y18.fst, y18.snd.fst, ())
else none
noncomputable def F73 : CF tC := mkF tC S73 f73
theorem f73_run : ∀ a, fnS tC G73 (look [(0, W73_0)]) Try.f73 S73 a = f73 a := fun a => by kernel_rfl
theorem F73_ok : CFOK tC 73 F73 := mkF_ok Y73 (fn := Try.f73) (body := bodyOf Try.f73) (by kernel_rfl) (by kernel_rfl) (by kernel_rfl) (m := 1) rfl (lam_le (lam_cons W73_0_ok lam_nil)) f73_run

/-! Bytes -/
noncomputable def G74 : FuncId → Option (CF tC) := look [(67, F67)]
theorem Y74 : SysN tC G74 := (sys_cons F67_ok (mkF_nat _ _) (sys_nil tC_ok tC_eq))
def S74 : FS := ⟨[[.s 5]], [⟨[.one (.one (.imm 5))], []⟩], [⟨[.one (.one (.sl 0))], [.arr 5]⟩], [[.v]], [(2, 5)]⟩
noncomputable def f74 (x : List Int × Unit) : Option (Nat × List Int × Unit) :=
  (f67 (IntKind.u64.wrap (↑x.fst.length : Int), ())).bind fun y6 =>
  bif decide ((0 : Nat) + y6.fst ≤ y6.snd.fst.length) then
    bif roomy (y6.fst + x.fst.length) (1 : Nat) then
      some (y6.fst + x.fst.length, List.take y6.fst (List.drop (0 : Nat) y6.snd.fst) ++ x.fst, ())
    else none
  else none
noncomputable def F74 : CF tC := mkF tC S74 f74
theorem f74_run : ∀ a, fnS tC G74 (look []) Try.f74 S74 a = f74 a := fun a => by kernel_rfl
theorem F74_ok : CFOK tC 74 F74 := mkF_ok Y74 (fn := Try.f74) (body := bodyOf Try.f74) (by kernel_rfl) (by kernel_rfl) (by kernel_rfl) (m := 0) rfl (lam_le lam_nil) f74_run

/-! ref.Bytes -/
noncomputable def G76 : FuncId → Option (CF tC) := look [(46, F46)]
theorem Y76 : SysN tC G76 := (sys_cons F46_ok (mkF_nat _ _) (sys_nil tC_ok tC_eq))
def S76 : FS := ⟨[[.s 5]], [⟨[.one (.one (.imm 5))], []⟩], [⟨[.one (.one (.sl 0))], [.arr 5]⟩], [[.v]], [(2, 5)]⟩
noncomputable def f76 (x : List Int × Unit) : Option (Nat × List Int × Unit) :=
  (f46 (IntKind.u64.wrap (↑x.fst.length : Int), ())).bind fun y6 =>
  bif decide ((0 : Nat) + y6.fst ≤ y6.snd.fst.length) then
    bif roomy (y6.fst + x.fst.length) (1 : Nat) then
      some (y6.fst + x.fst.length, List.take y6.fst (List.drop (0 : Nat) y6.snd.fst) ++ x.fst, ())
    else none
  else none
noncomputable def F76 : CF tC := mkF tC S76 f76
theorem f76_run : ∀ a, fnS tC G76 (look []) Try.f76 S76 a = f76 a := fun a => by kernel_rfl
theorem F76_ok : CFOK tC 76 F76 := mkF_ok Y76 (fn := Try.f76) (body := bodyOf Try.f76) (by kernel_rfl) (by kernel_rfl) (by kernel_rfl) (m := 0) rfl (lam_le lam_nil) f76_run

/-! Frame -/
noncomputable def G53 : FuncId → Option (CF tC) := look [(73, F73), (74, F74)]
theorem Y53 : SysN tC G53 := (sys_cons F73_ok (mkF_nat _ _) (sys_cons F74_ok (mkF_nat _ _) (sys_nil tC_ok tC_eq)))
def S53 : FS := ⟨[[.v], [.s 5]], [⟨[.one (.one (.int .u8)), .one (.one (.imm 5))], []⟩], [⟨[.tup [.one (.sl 0), .one (.int .i64)]], [.arr 5]⟩], [[.v], [.v]], [(4, 5)]⟩
noncomputable def f53 (x : Int × List Int × Unit) : Option (Nat × Int × List Int × Unit) :=
  bif decide ((↑x.snd.fst.length : Int) > (4096 : Int)) then some ((0 : Nat), (6 : Int), [], ())
else
  (f74 (x.snd.fst, ())).bind fun y11 =>
    bif decide ((0 : Nat) + y11.fst ≤ y11.snd.fst.length) then
      bif roomy ((1 : Nat) + (List.take y11.fst (List.drop (0 : Nat) y11.snd.fst)).length) (1 : Nat) then
        bif
            decide
              ((0 : Nat) + ((1 : Nat) + (List.take y11.fst (List.drop (0 : Nat) y11.snd.fst)).length) ≤
                (x.fst :: List.append [] (List.take y11.fst (List.drop (0 : Nat) y11.snd.fst))).length) then
          (f73
                ((1 : Nat) + (List.take y11.fst (List.drop (0 : Nat) y11.snd.fst)).length,
                  List.take ((1 : Nat) + (List.take y11.fst (List.drop (0 : Nat) y11.snd.fst)).length)
                    (x.fst :: List.append [] (List.take y11.fst (List.drop (0 : Nat) y11.snd.fst))),
                  ())).bind
            fun y10 => some (y10.fst, (0 : Int), y10.snd.fst, ())
        else none
      else none
    else none
noncomputable def F53 : CF tC := mkF tC S53 f53
theorem f53_run : ∀ a, fnS tC G53 (look []) Try.f53 S53 a = f53 a := fun a => by kernel_rfl
theorem F53_ok : CFOK tC 53 F53 := mkF_ok Y53 (fn := Try.f53) (body := bodyOf Try.f53) (by kernel_rfl) (by kernel_rfl) (by kernel_rfl) (m := 0) rfl (lam_le lam_nil) f53_run

/-! ref.Frame -/
noncomputable def G56 : FuncId → Option (CF tC) := look [(76, F76), (78, F78), (77, F77)]
theorem Y56 : SysN tC G56 := (sys_cons F76_ok (mkF_nat _ _) (sys_cons F78_ok (mkF_nat _ _) (sys_cons F77_ok (mkF_nat _ _) (sys_nil tC_ok tC_eq))))
def S56 : FS := ⟨[[.v], [.s 5]], [⟨[.one (.one (.int .u8)), .one (.one (.imm 5))], []⟩], [⟨[.tup [.one (.sl 0), .one (.int .i64)]], [.arr 5]⟩], [[.v], [.v]], [(4, 5)]⟩
noncomputable def f56 (x : Int × List Int × Unit) : Option (Nat × Int × List Int × Unit) :=
  bif decide ((↑x.snd.fst.length : Int) > (4096 : Int)) then some ((0 : Nat), (6 : Int), [], ())
else
  (f76 (x.snd.fst, ())).bind fun y10 =>
    bif decide ((0 : Nat) + y10.fst ≤ y10.snd.fst.length) then
      bif roomy ((1 : Nat) + (List.take y10.fst (List.drop (0 : Nat) y10.snd.fst)).length) (1 : Nat) then
        bif
            decide
              ((0 : Nat) + ((1 : Nat) + (List.take y10.fst (List.drop (0 : Nat) y10.snd.fst)).length) ≤
                (x.fst :: List.append [] (List.take y10.fst (List.drop (0 : Nat) y10.snd.fst))).length) then
          (f78
                (List.take ((1 : Nat) + (List.take y10.fst (List.drop (0 : Nat) y10.snd.fst)).length)
                    (x.fst :: List.append [] (List.take y10.fst (List.drop (0 : Nat) y10.snd.fst))),
                  ())).bind
            fun y9 =>
            bif decide ((0 : Nat) + (f77 y9.fst).fst ≤ (f77 y9.fst).snd.length) then
              bif
                  decide
                    ((0 : Nat) + ((1 : Nat) + (List.take y10.fst (List.drop (0 : Nat) y10.snd.fst)).length) ≤
                      (x.fst :: List.append [] (List.take y10.fst (List.drop (0 : Nat) y10.snd.fst))).length) then
                bif
                    roomy
                      ((1 : Nat) + (List.take y10.fst (List.drop (0 : Nat) y10.snd.fst)).length +
                        (List.take (f77 y9.fst).fst (List.drop (0 : Nat) (f77 y9.fst).snd)).length)
                      (1 : Nat) then
                  some
                    ((1 : Nat) + (List.take y10.fst (List.drop (0 : Nat) y10.snd.fst)).length +
                        (List.take (f77 y9.fst).fst (List.drop (0 : Nat) (f77 y9.fst).snd)).length,
                      (0 : Int),
                      List.take ((1 : Nat) + (List.take y10.fst (List.drop (0 : Nat) y10.snd.fst)).length)
                          (x.fst :: List.append [] (List.take y10.fst (List.drop (0 : Nat) y10.snd.fst))) ++
                        List.take (f77 y9.fst).fst (List.drop (0 : Nat) (f77 y9.fst).snd),
                      ())
                else none
              else none
            else none
        else none
      else none
    else none
noncomputable def F56 : CF tC := mkF tC S56 f56
theorem f56_run : ∀ a, fnS tC G56 (look []) Try.f56 S56 a = f56 a := fun a => by kernel_rfl
theorem F56_ok : CFOK tC 56 F56 := mkF_ok Y56 (fn := Try.f56) (body := bodyOf Try.f56) (by kernel_rfl) (by kernel_rfl) (by kernel_rfl) (m := 0) rfl (lam_le lam_nil) f56_run

/-! Unframe -/
noncomputable def G60 : FuncId → Option (CF tC) := look [(71, F71), (73, F73), (58, F58), (81, F81)]
theorem Y60 : SysN tC G60 := (sys_cons F71_ok (mkF_nat _ _) (sys_cons F73_ok (mkF_nat _ _) (sys_cons F58_ok (mkF_nat _ _) (sys_cons F81_ok (mkF_nat _ _) (sys_nil tC_ok tC_eq)))))
def S60 : FS := ⟨[[.s 5]], [⟨[.one (.one (.imm 5))], []⟩], [⟨[.tup [.one (.int .u8), .one (.imm 5), .one (.imm 5), .one (.int .i64)]], []⟩], [[.v], [.s 5], [.s 5], [.v]], []⟩
noncomputable def f60 (x : List Int × Unit) : Option (Int × List Int × List Int × Int × Unit) :=
  bif (↑x.fst.length : Int) == (0 : Int) then some ((0 : Int), [], [], (4 : Int), ())
else
  bif
      true && decide ((1 : Int) ≤ (↑x.fst.length : Int)) && decide ((↑x.fst.length : Int) ≤ (↑x.fst.length : Int)) &&
        decide ((↑x.fst.length : Int) ≤ (↑x.fst.length : Int)) then
    (f71 (List.drop (1 : Nat) (List.take (↑x.fst.length : Int).toNat x.fst), ())).bind fun y19 =>
      bif y19.snd.snd.fst != (0 : Int) then some ((0 : Int), [], [], y19.snd.snd.fst, ())
      else
        bif decide (y19.fst > (4096 : Int)) then some ((0 : Int), [], [], (6 : Int), ())
        else
          bif decide ((↑y19.snd.fst.length : Int) < IntKind.i64.wrap (IntKind.i64.wrap y19.fst + (4 : Int))) then
            some ((0 : Int), [], [], (4 : Int), ())
          else
            bif
                true &&
                      decide
                        ((0 : Int) ≤
                          IntKind.i64.wrap
                            (IntKind.i64.wrap ((↑x.fst.length : Int) - (↑y19.snd.fst.length : Int)) + IntKind.i64.wrap y19.fst)) &&
                    decide
                      (IntKind.i64.wrap
                          (IntKind.i64.wrap ((↑x.fst.length : Int) - (↑y19.snd.fst.length : Int)) + IntKind.i64.wrap y19.fst) ≤
                        (↑x.fst.length : Int)) &&
                  decide ((↑x.fst.length : Int) ≤ (↑x.fst.length : Int)) then
              (f58
                    (List.drop (0 : Nat)
                        (List.take
                          (IntKind.i64.wrap
                              (IntKind.i64.wrap ((↑x.fst.length : Int) - (↑y19.snd.fst.length : Int)) + IntKind.i64.wrap y19.fst)).toNat
                          x.fst),
                      ())).bind
                fun y18 =>
                bif decide ((0 : Nat) + y18.fst ≤ y18.snd.fst.length) then
                  (f73 (y18.fst, List.take y18.fst (List.drop (0 : Nat) y18.snd.fst), ())).bind fun y17 =>
                    bif
                        true &&
                              decide
                                ((0 : Int) ≤
                                  IntKind.i64.wrap
                                    (IntKind.i64.wrap
                                        (IntKind.i64.wrap ((↑x.fst.length : Int) - (↑y19.snd.fst.length : Int)) +
                                          IntKind.i64.wrap y19.fst) +
                                      (4 : Int))) &&
                            decide
                              (IntKind.i64.wrap
                                  (IntKind.i64.wrap
                                      (IntKind.i64.wrap ((↑x.fst.length : Int) - (↑y19.snd.fst.length : Int)) + IntKind.i64.wrap y19.fst) +
                                    (4 : Int)) ≤
                                (↑x.fst.length : Int)) &&
                          decide ((↑x.fst.length : Int) ≤ (↑x.fst.length : Int)) then
                      bif decide ((0 : Nat) + y17.fst ≤ y17.snd.fst.length) then
                        (f81
                              (List.take y17.fst (List.drop (0 : Nat) y17.snd.fst),
                                List.drop (0 : Nat)
                                  (List.take
                                    (IntKind.i64.wrap
                                        (IntKind.i64.wrap
                                            (IntKind.i64.wrap ((↑x.fst.length : Int) - (↑y19.snd.fst.length : Int)) +
                                              IntKind.i64.wrap y19.fst) +
                                          (4 : Int))).toNat
                                    x.fst),
                                ())).bind
                          fun y16 =>
                          bif !y16.fst then some ((0 : Int), [], [], (5 : Int), ())
                          else
                            (idxO x.fst (0 : Int)).bind fun y15 =>
                              bif
                                  true && decide ((0 : Int) ≤ y19.fst) && decide (y19.fst ≤ y19.fst) &&
                                    decide (y19.fst ≤ (↑y19.snd.fst.length : Int)) then
                                bif
                                    decide ((0 : Int) ≤ IntKind.i64.wrap (IntKind.i64.wrap y19.fst + (4 : Int))) &&
                                          decide (IntKind.i64.wrap (IntKind.i64.wrap y19.fst + (4 : Int)) ≤ (↑y19.snd.fst.length : Int)) &&
                                        decide ((↑y19.snd.fst.length : Int) ≤ (↑y19.snd.fst.length : Int)) &&
                                      decide ((↑y19.snd.fst.length : Int) ≤ (↑y19.snd.fst.length : Int)) then
                                  some
                                    (y15, List.drop (0 : Nat) (List.take y19.fst.toNat y19.snd.fst),
                                      List.drop (IntKind.i64.wrap (IntKind.i64.wrap y19.fst + (4 : Int))).toNat
                                        (List.take (↑y19.snd.fst.length : Int).toNat y19.snd.fst),
                                      (0 : Int), ())
                                else none
                              else none
                      else none
                    else none
                else none
            else none
  else none
noncomputable def F60 : CF tC := mkF tC S60 f60
theorem f60_run : ∀ a, fnS tC G60 (look []) Try.f60 S60 a = f60 a := fun a => by kernel_rfl
theorem F60_ok : CFOK tC 60 F60 := mkF_ok Y60 (fn := Try.f60) (body := bodyOf Try.f60) (by kernel_rfl) (by kernel_rfl) (by kernel_rfl) (m := 0) rfl (lam_le lam_nil) f60_run

/-! ref.Unframe -/
noncomputable def G61 : FuncId → Option (CF tC) := look [(72, F72), (56, F56)]
theorem Y61 : SysN tC G61 := (sys_cons F72_ok (mkF_nat _ _) (sys_cons F56_ok (mkF_nat _ _) (sys_nil tC_ok tC_eq)))
def S61 : FS := ⟨[[.s 5]], [⟨[.one (.one (.imm 5))], []⟩], [⟨[.tup [.one (.int .u8), .one (.imm 5), .one (.imm 5), .one (.int .i64)]], []⟩], [[.v], [.s 5], [.s 5], [.v]], []⟩
noncomputable def f61 (x : List Int × Unit) : Option (Int × List Int × List Int × Int × Unit) :=
  bif (↑x.fst.length : Int) == (0 : Int) then some ((0 : Int), [], [], (4 : Int), ())
else
  bif
      true && decide ((1 : Int) ≤ (↑x.fst.length : Int)) && decide ((↑x.fst.length : Int) ≤ (↑x.fst.length : Int)) &&
        decide ((↑x.fst.length : Int) ≤ (↑x.fst.length : Int)) then
    (f72 (List.drop (1 : Nat) (List.take (↑x.fst.length : Int).toNat x.fst), ())).bind fun y17 =>
      bif y17.snd.snd.fst != (0 : Int) then some ((0 : Int), [], [], y17.snd.snd.fst, ())
      else
        bif decide (y17.fst > (4096 : Int)) then some ((0 : Int), [], [], (6 : Int), ())
        else
          bif decide ((↑y17.snd.fst.length : Int) < IntKind.i64.wrap (IntKind.i64.wrap y17.fst + (4 : Int))) then
            some ((0 : Int), [], [], (4 : Int), ())
          else
            bif
                true && decide ((0 : Int) ≤ y17.fst) && decide (y17.fst ≤ (↑y17.snd.fst.length : Int)) &&
                  decide ((↑y17.snd.fst.length : Int) ≤ (↑y17.snd.fst.length : Int)) then
              (idxO x.fst (0 : Int)).bind fun y16 =>
                (f56 (y16, List.drop (0 : Nat) (List.take y17.fst.toNat y17.snd.fst), ())).bind fun y15 =>
                  bif decide ((0 : Nat) + y15.fst ≤ y15.snd.snd.fst.length) then
                    bif
                        true && decide ((↑y15.fst : Int) ≤ (↑x.fst.length : Int)) &&
                          decide ((↑x.fst.length : Int) ≤ (↑x.fst.length : Int)) then
                      bif
                          !decide
                              (List.take y15.fst (List.drop (0 : Nat) y15.snd.snd.fst) =
                                List.drop (0 : Nat) (List.take (↑y15.fst : Int).toNat x.fst)) then
                        some ((0 : Int), [], [], (5 : Int), ())
                      else
                        (idxO x.fst (0 : Int)).bind fun y14 =>
                          bif roomy ((0 : Nat) + (List.drop (0 : Nat) (List.take y17.fst.toNat y17.snd.fst)).length) (1 : Nat) then
                            bif
                                true && decide ((↑y15.fst : Int) ≤ (↑x.fst.length : Int)) &&
                                    decide ((↑x.fst.length : Int) ≤ (↑x.fst.length : Int)) &&
                                  decide ((↑x.fst.length : Int) ≤ (↑x.fst.length : Int)) then
                              bif
                                  roomy
                                    ((0 : Nat) + (List.drop (↑y15.fst : Int).toNat (List.take (↑x.fst.length : Int).toNat x.fst)).length)
                                    (1 : Nat) then
                                bif
                                    decide
                                      ((0 : Nat) + ((0 : Nat) + (List.drop (0 : Nat) (List.take y17.fst.toNat y17.snd.fst)).length) ≤
                                        ([] ++ List.drop (0 : Nat) (List.take y17.fst.toNat y17.snd.fst)).length) then
                                  bif
                                      decide
                                        ((0 : Nat) +
                                            ((0 : Nat) +
                                              (List.drop (↑y15.fst : Int).toNat (List.take (↑x.fst.length : Int).toNat x.fst)).length) ≤
                                          ([] ++
                                              List.drop (↑y15.fst : Int).toNat (List.take (↑x.fst.length : Int).toNat x.fst)).length) then
                                    some
                                      (y14,
                                        List.take ((0 : Nat) + (List.drop (0 : Nat) (List.take y17.fst.toNat y17.snd.fst)).length)
                                          (List.drop (0 : Nat) ([] ++ List.drop (0 : Nat) (List.take y17.fst.toNat y17.snd.fst))),
                                        List.take
                                          ((0 : Nat) +
                                            (List.drop (↑y15.fst : Int).toNat (List.take (↑x.fst.length : Int).toNat x.fst)).length)
                                          (List.drop (0 : Nat)
                                            ([] ++ List.drop (↑y15.fst : Int).toNat (List.take (↑x.fst.length : Int).toNat x.fst))),
                                        (0 : Int), ())
                                  else none
                                else none
                              else none
                            else none
                          else none
                    else none
                  else none
            else none
  else none
noncomputable def F61 : CF tC := mkF tC S61 f61
theorem f61_run : ∀ a, fnS tC G61 (look []) Try.f61 S61 a = f61 a := fun a => by kernel_rfl
theorem F61_ok : CFOK tC 61 F61 := mkF_ok Y61 (fn := Try.f61) (body := bodyOf Try.f61) (by kernel_rfl) (by kernel_rfl) (by kernel_rfl) (m := 0) rfl (lam_le lam_nil) f61_run

/-! drive.between -/
noncomputable def G63 : FuncId → Option (CF tC) := look []
theorem Y63 : SysN tC G63 := (sys_nil tC_ok tC_eq)
def S63 : FS := ⟨[[.v], [.v], [.v]], [⟨[vI, vI, vI], []⟩], [⟨[vO], []⟩], [[.v]], []⟩
def f63 (n1 : Int) (n2 : Int) (n3 : Int) : Bool :=
  bif decide (n1 ≥ n2) then decide (n1 ≤ n3) else false
noncomputable def F63 : CF tC := mkF tC S63 (fun a => some ((f63 a.1 a.2.1 a.2.2.1), ()))
def h63 (r : Bool) : Option (altTy tE S63.outs) := some (r, ())
theorem f63_run : ∀ a, fnS tC G63 (look []) Try.f63 S63 a = (fun a => some ((f63 a.1 a.2.1 a.2.2.1), ())) a := fun a => by
  have key : ∀ (n1 : Int) (n2 : Int) (n3 : Int), (bif decide (n1 ≥ n2) then h63 (decide (n1 ≤ n3)) else h63 false) = h63 (f63 n1 n2 n3) := by
    intros
    unfold f63
    repeat' first | rfl | refine cond_h (g := h63) ?_ ?_
  exact Eq.trans (by kernel_rfl) (key a.1 a.2.1 a.2.2.1)
theorem F63_ok : CFOK tC 63 F63 := mkF_ok Y63 (fn := Try.f63) (body := bodyOf Try.f63) (by kernel_rfl) (by kernel_rfl) (by kernel_rfl) (m := 0) rfl (lam_le lam_nil) f63_run

/-! drive.within -/
noncomputable def G62 : FuncId → Option (CF tC) := look [(63, F63)]
theorem Y62 : SysN tC G62 := (sys_cons F63_ok (mkF_nat _ _) (sys_nil tC_ok tC_eq))
def S62 : FS := ⟨[[.v], [.v]], [⟨[vI, vI], []⟩], [⟨[vO], []⟩], [[.v]], []⟩
def f62 (n1 : Int) (n2 : Int) : Bool :=
  f63 n1 (IntKind.i64.wrap ((0 : Int) - n2)) n2
noncomputable def F62 : CF tC := mkF tC S62 (fun a => some ((f62 a.1 a.2.1), ()))
def h62 (r : Bool) : Option (altTy tE S62.outs) := some (r, ())
theorem f62_run : ∀ a, fnS tC G62 (look []) Try.f62 S62 a = (fun a => some ((f62 a.1 a.2.1), ())) a := fun a => by
  have key : ∀ (n1 : Int) (n2 : Int), (h62 (f63 n1 (IntKind.i64.wrap ((0 : Int) - n2)) n2)) = h62 (f62 n1 n2) := by
    intros
    unfold f62
    repeat' first | rfl | refine cond_h (g := h62) ?_ ?_
  exact Eq.trans (by kernel_rfl) (key a.1 a.2.1)
theorem F62_ok : CFOK tC 62 F62 := mkF_ok Y62 (fn := Try.f62) (body := bodyOf Try.f62) (by kernel_rfl) (by kernel_rfl) (by kernel_rfl) (m := 0) rfl (lam_le lam_nil) f62_run

/-! drive.ValidCommand -/
noncomputable def G40 : FuncId → Option (CF tC) := look [(62, F62), (63, F63)]
theorem Y40 : SysN tC G40 := (sys_cons F62_ok (mkF_nat _ _) (sys_cons F63_ok (mkF_nat _ _) (sys_nil tC_ok tC_eq)))
def S40 : FS := ⟨[[.v, .v]], [⟨[.one (.agg [.int .i64, .int .i64])], []⟩], [⟨[vO], []⟩], [[.v]], []⟩
def f40 (n1 : Int) (n2 : Int) : Bool :=
  bif f62 n1 (32 : Int) then f63 n2 (0 : Int) (32 : Int) else false
noncomputable def F40 : CF tC := mkF tC S40 (fun a => some ((f40 a.1 a.2.1), ()))
def h40 (r : Bool) : Option (altTy tE S40.outs) := some (r, ())
theorem f40_run : ∀ a, fnS tC G40 (look []) Try.f40 S40 a = (fun a => some ((f40 a.1 a.2.1), ())) a := fun a => by
  have key : ∀ (n1 : Int) (n2 : Int), (bif f62 n1 (32 : Int) then h40 (f63 n2 (0 : Int) (32 : Int)) else h40 false) = h40 (f40 n1 n2) := by
    intros
    unfold f40
    repeat' first | rfl | refine cond_h (g := h40) ?_ ?_
  exact Eq.trans (by kernel_rfl) (key a.1 a.2.1)
theorem F40_ok : CFOK tC 40 F40 := mkF_ok Y40 (fn := Try.f40) (body := bodyOf Try.f40) (by kernel_rfl) (by kernel_rfl) (by kernel_rfl) (m := 0) rfl (lam_le lam_nil) f40_run

/-! validScan$1 -/
noncomputable def G65 : FuncId → Option (CF tC) := look []
theorem Y65 : SysN tC G65 := (sys_nil tC_ok tC_eq)
def S65 : FS := ⟨[[.v, .v]], [⟨[.one (.agg [.int .i64, .int .i64])], []⟩], [⟨[vO], []⟩], [[.v]], []⟩
def f65 (n1 : Int) (n2 : Int) : Bool :=
  bif decide (n1 < (0 : Int)) then true
else bif decide (n1 ≥ (256 : Int)) then true else bif decide (n2 < (-1 : Int)) then true else decide (n2 > (1024 : Int))
noncomputable def F65 : CF tC := mkF tC S65 (fun a => some ((f65 a.1 a.2.1), ()))
def h65 (r : Bool) : Option (altTy tE S65.outs) := some (r, ())
theorem f65_run : ∀ a, fnS tC G65 (look []) Try.f65 S65 a = (fun a => some ((f65 a.1 a.2.1), ())) a := fun a => by
  have key : ∀ (n1 : Int) (n2 : Int), (bif decide (n1 < (0 : Int)) then h65 true
else bif decide (n1 ≥ (256 : Int)) then h65 true else bif decide (n2 < (-1 : Int)) then h65 true else h65 (decide (n2 > (1024 : Int)))) = h65 (f65 n1 n2) := by
    intros
    unfold f65
    repeat' first | rfl | refine cond_h (g := h65) ?_ ?_
  exact Eq.trans (by kernel_rfl) (key a.1 a.2.1)
theorem F65_ok : CFOK tC 65 F65 := mkF_ok Y65 (fn := Try.f65) (body := bodyOf Try.f65) (by kernel_rfl) (by kernel_rfl) (by kernel_rfl) (m := 0) rfl (lam_le lam_nil) f65_run

/-! slices.IndexFunc -/
noncomputable def G82 : FuncId → Option (CF tC) := look [(65, F65)]
theorem Y82 : SysN tC G82 := (sys_cons F65_ok (mkF_nat _ _) (sys_nil tC_ok tC_eq))
noncomputable def c82_0 : Code := loopOf (bodyOf Try.f82) 0
def p82_0 : LS := ⟨0, [0, 1, 7, 8], ⟨[.one (.one (.imm 46)), .one (.fn 65 [])] ++ vBs 5 ++ [vI, vI] ++ vBs 10, []⟩, [⟨.ret, [4], ⟨vBs 4 ++ [vI] ++ vBs 14, []⟩, []⟩, ⟨.exit 0, [], ⟨vBs 19, []⟩, []⟩], []⟩
noncomputable def r82_0 (x : List Bm × Int × Int × Unit) : Option (List Bm × Int × Int × Unit ⊕ Int × Unit ⊕ Unit) :=
  bif decide (x.snd.snd.fst < x.snd.fst) then
  (idxO x.fst x.snd.snd.fst).bind fun y7 =>
    bif f65 y7.M y7.R then some (Sum.inr (Sum.inl (x.snd.snd.fst, ())))
    else some (Sum.inl (x.fst, x.snd.fst, IntKind.i64.wrap (x.snd.snd.fst + (1 : Int)), ()))
else some (Sum.inr (Sum.inr ()))
theorem r82_0_run0 (v0 : List Bm) (v1 : Int) (v2 : Int) : roundK tC G82 (look []) c82_0 p82_0 (v0, v1, v2, ()) = r82_0 (v0, v1, v2, ()) := by kernel_rfl
theorem r82_0_run (x : List Bm × Int × Int × Unit) : roundK tC G82 (look []) c82_0 p82_0 x = r82_0 x := r82_0_run0 x.1 x.2.1 x.2.2.1
noncomputable def l82_0 (x : List Bm × Int × Int × Unit) : Option (Int × Unit ⊕ Unit) := iterO r82_0 x
noncomputable def W82_0 : LF tC := loopW tC p82_0 0 l82_0
theorem W82_0_ok : keyed 0 (bodyOf Try.f82) = [.block 0 (.loop c82_0)] ∧ ∀ n, n ≤ 0 → Snd tC n (.block 0 (.loop c82_0)) W82_0.k := ⟨by kernel_rfl, fun n hn => loopW_ok (p := p82_0) (id := 0) Y82 (lam_le lam_nil n hn) hn r82_0_run⟩
def S82 : FS := ⟨[[.s 46], [.f]], [⟨[.one (.one (.imm 46)), .one (.fn 65 [])], []⟩], [⟨[vI], []⟩], [[.v]], []⟩
noncomputable def f82 (x : List Bm × Unit) : Option (Int × Unit) :=
  (l82_0 (x.fst, (↑x.fst.length : Int), (0 : Int), ())).bind fun y12 =>
  Sum.elim (fun y10 => some (y10.fst, ())) (fun _x => some ((-1 : Int), ())) y12
noncomputable def F82 : CF tC := mkF tC S82 f82
theorem f82_run : ∀ a, fnS tC G82 (look [(0, W82_0)]) Try.f82 S82 a = f82 a := fun a => by kernel_rfl
theorem F82_ok : CFOK tC 82 F82 := mkF_ok Y82 (fn := Try.f82) (body := bodyOf Try.f82) (by kernel_rfl) (by kernel_rfl) (by kernel_rfl) (m := 0) rfl (lam_le (lam_cons W82_0_ok lam_nil)) f82_run

/-! slices.ContainsFunc -/
noncomputable def G64 : FuncId → Option (CF tC) := look [(82, F82)]
theorem Y64 : SysN tC G64 := (sys_cons F82_ok (mkF_nat _ _) (sys_nil tC_ok tC_eq))
def S64 : FS := ⟨[[.s 46], [.f]], [⟨[.one (.one (.imm 46)), .one (.fn 65 [])], []⟩], [⟨[vO], []⟩], [[.v]], []⟩
noncomputable def f64 (x : List Bm × Unit) : Option (Bool × Unit) :=
  (f82 (x.fst, ())).bind fun y4 => some (decide (y4.fst ≥ (0 : Int)), ())
noncomputable def F64 : CF tC := mkF tC S64 f64
theorem f64_run : ∀ a, fnS tC G64 (look []) Try.f64 S64 a = f64 a := fun a => by kernel_rfl
theorem F64_ok : CFOK tC 64 F64 := mkF_ok Y64 (fn := Try.f64) (body := bodyOf Try.f64) (by kernel_rfl) (by kernel_rfl) (by kernel_rfl) (m := 0) rfl (lam_le lam_nil) f64_run

/-! validScan -/
noncomputable def G41 : FuncId → Option (CF tC) := look [(64, F64), (65, F65)]
theorem Y41 : SysN tC G41 := (sys_cons F64_ok (mkF_nat _ _) (sys_cons F65_ok (mkF_nat _ _) (sys_nil tC_ok tC_eq)))
def S41 : FS := ⟨[[.s 46]], [⟨[.one (.one (.imm 46))], []⟩], [⟨[vO], []⟩], [[.v]], []⟩
noncomputable def f41 (x : List Bm × Unit) : Option (Bool × Unit) :=
  bif decide ((↑x.fst.length : Int) ≤ (32 : Int)) then (f64 (x.fst, ())).bind fun y4 => some (!y4.fst, ()) else some (false, ())
noncomputable def F41 : CF tC := mkF tC S41 f41
theorem f41_run : ∀ a, fnS tC G41 (look []) Try.f41 S41 a = f41 a := fun a => by kernel_rfl
theorem F41_ok : CFOK tC 41 F41 := mkF_ok Y41 (fn := Try.f41) (body := bodyOf Try.f41) (by kernel_rfl) (by kernel_rfl) (by kernel_rfl) (m := 0) rfl (lam_le lam_nil) f41_run

/-! slices.Clone Beam -/
noncomputable def G75 : FuncId → Option (CF tC) := look []
theorem Y75 : SysN tC G75 := (sys_nil tC_ok tC_eq)
noncomputable def c75_4 : Code := subCode (bodyOf Try.f75) 4
def p75_4 : PS := ⟨0, [0], ⟨[.one (.one (.imm 46))] ++ vBs 7, []⟩, [⟨.ret, [2], ⟨vBs 2 ++ [.one (.one (.sl 0))] ++ vBs 5, [.arr 46]⟩, [(2, 46)]⟩], []⟩
noncomputable def j75_4 (x : List (Bm) × Unit) : Option (Nat × List (Bm) × Unit) := bif roomy (0 + x.1.length) 16 then some (0 + x.1.length, x.1, ()) else none
noncomputable def W75_4 : LF tC := cutLF tC p75_4 j75_4
theorem c75_4_is : NilHead c75_4 0 3 4 24 := ⟨_, _, _, _, _, _, _, _, _, _, _, rfl⟩
theorem j75_4_nil : exec tC G75 (look []) (restOf c75_4) ⟨((p75_4.s.emb ([], ())).t.set 3 (.imm 46 [])).set 4 (.bool true), (p75_4.s.emb ([], ())).h⟩ (fun e st => unP p75_4.k p75_4.outs e st) = j75_4 ([], ()) := by kernel_rfl
theorem j75_4_one (x : p75_4.s.ty tE) : exec tC G75 (look []) (restOf c75_4) ⟨((p75_4.s.emb x).t.set 3 (.imm 46 x.1)).set 4 (.bool false), (p75_4.s.emb x).h⟩ (fun e st => unP p75_4.k p75_4.outs e st) = j75_4 x := by kernel_rfl
theorem W75_4_ok : keyed 4 (bodyOf Try.f75) = [c75_4] ∧ ∀ n, n ≤ 0 → Snd tC n c75_4 W75_4.k := ⟨by kernel_rfl, fun n hn => nil_cut (p := p75_4) (f := j75_4) (Λ := look []) (el := 46) Y75 hn c75_4_is (by kernel_rfl) (lam_le lam_nil n hn) (fun x => ⟨46, x.1, rfl, fun t h => match t, x, h with
    | true, (xs, ()), h => by
      have h : xs = [] := h rfl
      subst h
      exact j75_4_nil
    | false, x, _ => j75_4_one x⟩) (fun _ => Nat.le_of_ble_eq_true (by kernel_rfl))⟩
def S75 : FS := ⟨[[.s 46]], [⟨[.one (.one (.imm 46))], []⟩], [⟨[.one (.one (.sl 0))], [.arr 46]⟩], [[.v]], []⟩
noncomputable def f75 (x : List (Bm) × Unit) : Option (Nat × List (Bm) × Unit) := (j75_4 (x.1, ())).bind fun y => some (y.1, y.2.1, ())
noncomputable def F75 : CF tC := mkF tC S75 f75
theorem f75_run : ∀ a, fnS tC G75 (look [(4, W75_4)]) Try.f75 S75 a = f75 a := fun a => by kernel_rfl
theorem F75_ok : CFOK tC 75 F75 := mkF_ok Y75 (fn := Try.f75) (body := bodyOf Try.f75) (by kernel_rfl) (by kernel_rfl) (by kernel_rfl) (m := 0) rfl (lam_le (lam_cons W75_4_ok lam_nil)) f75_run

/-! clone -/
noncomputable def G54 : FuncId → Option (CF tC) := look [(75, F75)]
theorem Y54 : SysN tC G54 := (sys_cons F75_ok (mkF_nat _ _) (sys_nil tC_ok tC_eq))
def S54 : FS := ⟨[[.v, .v, .v, .v, .s 46]], [⟨[.one (.agg [.int .i64, .int .i64, .int .i64, .bool, .imm 46])], []⟩], [⟨[.one (.agg [.int .i64, .int .i64, .int .i64, .bool, .him 46])], []⟩], [[.v, .v, .v, .v, .h 46]], []⟩
noncomputable def f54 (x : Int × Int × Int × Bool × List Bm × Unit) : Option (Int × Int × Int × Bool × List Bm × Unit) :=
  (f75 (x.snd.snd.snd.snd.fst, ())).bind fun y13 =>
  bif decide ((0 : Nat) + y13.fst ≤ y13.snd.fst.length) then
    some (x.fst, x.snd.fst, x.snd.snd.fst, x.snd.snd.snd.fst, List.take y13.fst (List.drop (0 : Nat) y13.snd.fst), ())
  else none
noncomputable def F54 : CF tC := mkF tC S54 f54
theorem f54_run : ∀ a, fnS tC G54 (look []) Try.f54 S54 a = f54 a := fun a => by kernel_rfl
theorem F54_ok : CFOK tC 54 F54 := mkF_ok Y54 (fn := Try.f54) (body := bodyOf Try.f54) (by kernel_rfl) (by kernel_rfl) (by kernel_rfl) (m := 0) rfl (lam_le lam_nil) f54_run

/-! encode -/
noncomputable def G42 : FuncId → Option (CF tC) := look [(66, F66), (67, F67)]
theorem Y42 : SysN tC G42 := (sys_cons F66_ok (mkF_nat _ _) (sys_cons F67_ok (mkF_nat _ _) (sys_nil tC_ok tC_eq)))
noncomputable def c42_0 : Code := loopOf (subCode (bodyOf Try.f42) 22) 0
def p42_0 : LS := ⟨0, [3, 36, 37, 38], ⟨[vB, vB, vB, .one (.one (.sl 0))] ++ vBs 32 ++ [.one (.one (.imm 46)), vI, vI] ++ vBs 18, [.arr 5]⟩, [⟨.exit 0, [3], ⟨[vB, vB, vB, .one (.one (.sl 0))] ++ vBs 53, [.arr 5]⟩, []⟩], []⟩
noncomputable def r42_0 (x : Nat × List Bm × Int × Int × List Int × Unit) : Option (Nat × List Bm × Int × Int × List Int × Unit ⊕ Nat × List Int × Unit) :=
  bif decide (x.snd.snd.snd.fst < x.snd.snd.fst) then
  (idxO x.snd.fst x.snd.snd.snd.fst).bind fun y36 =>
    (f67 (IntKind.u64.wrap y36.M, ())).bind fun y35 =>
      bif decide ((0 : Nat) + y35.fst ≤ y35.snd.fst.length) then
        bif decide ((0 : Nat) + x.fst ≤ x.snd.snd.snd.snd.fst.length) then
          bif roomy (x.fst + (List.take y35.fst (List.drop (0 : Nat) y35.snd.fst)).length) (1 : Nat) then
            (f67 (IntKind.u64.wrap (IntKind.i64.wrap (y36.R + (1 : Int))), ())).bind fun y34 =>
              bif decide ((0 : Nat) + y34.fst ≤ y34.snd.fst.length) then
                bif
                    decide
                      ((0 : Nat) + (x.fst + (List.take y35.fst (List.drop (0 : Nat) y35.snd.fst)).length) ≤
                        (List.take x.fst (List.drop (0 : Nat) x.snd.snd.snd.snd.fst) ++
                            List.take y35.fst (List.drop (0 : Nat) y35.snd.fst)).length) then
                  bif
                      roomy
                        (x.fst + (List.take y35.fst (List.drop (0 : Nat) y35.snd.fst)).length +
                          (List.take y34.fst (List.drop (0 : Nat) y34.snd.fst)).length)
                        (1 : Nat) then
                    some
                      (Sum.inl
                        (x.fst + (List.take y35.fst (List.drop (0 : Nat) y35.snd.fst)).length +
                            (List.take y34.fst (List.drop (0 : Nat) y34.snd.fst)).length,
                          x.snd.fst, x.snd.snd.fst, IntKind.i64.wrap (x.snd.snd.snd.fst + (1 : Int)),
                          List.take (x.fst + (List.take y35.fst (List.drop (0 : Nat) y35.snd.fst)).length)
                              (List.drop (0 : Nat)
                                (List.take x.fst (List.drop (0 : Nat) x.snd.snd.snd.snd.fst) ++
                                  List.take y35.fst (List.drop (0 : Nat) y35.snd.fst))) ++
                            List.take y34.fst (List.drop (0 : Nat) y34.snd.fst),
                          ()))
                  else none
                else none
              else none
          else none
        else none
      else none
else some (Sum.inr (x.fst, x.snd.snd.snd.snd.fst, ()))
theorem r42_0_run0 (v0 : Nat) (v1 : List Bm) (v2 : Int) (v3 : Int) (v4 : List Int) : roundK tC G42 (look []) c42_0 p42_0 (v0, v1, v2, v3, v4, ()) = r42_0 (v0, v1, v2, v3, v4, ()) := by kernel_rfl
theorem r42_0_run (x : Nat × List Bm × Int × Int × List Int × Unit) : roundK tC G42 (look []) c42_0 p42_0 x = r42_0 x := r42_0_run0 x.1 x.2.1 x.2.2.1 x.2.2.2.1 x.2.2.2.2.1
noncomputable def l42_0 (x : Nat × List Bm × Int × Int × List Int × Unit) : Option (Nat × List Int × Unit) := iterO r42_0 x
noncomputable def W42_0 : LF tC := loopW tC p42_0 0 l42_0
theorem W42_0_ok : keyed 0 (subCode (bodyOf Try.f42) 22) = [.block 0 (.loop c42_0)] ∧ ∀ n, n ≤ 0 → Snd tC n (.block 0 (.loop c42_0)) W42_0.k := ⟨by kernel_rfl, fun n hn => loopW_ok (p := p42_0) (id := 0) Y42 (lam_le lam_nil n hn) hn r42_0_run⟩
noncomputable def c42_22 : Code := subCode (bodyOf Try.f42) 22
def p42_22 : PS := ⟨0, [1, 3, 4], ⟨[vB, .one (.one (.ptr 0 0 0)), vB, .one (.one (.sl 1)), .one (.one (.int .u8))] ++ vBs 52, [.box [.int .i64, .int .i64, .int .i64, .bool, .imm 46], .arr 5]⟩, [⟨.ret, [2], ⟨[vB, vB, .one (.one (.sl 0))] ++ vBs 54, [.arr 5]⟩, [(2, 5)]⟩], []⟩
noncomputable def j42_22 (x : Nat × Int × Int × Int × Int × Bool × List Bm × List Int × Unit) : Option (Nat × List Int × Unit) :=
  bif decide ((0 : Nat) + x.fst ≤ x.snd.snd.snd.snd.snd.snd.snd.fst.length) then
  bif roomy (x.fst + (1 : Nat)) (1 : Nat) then
    (f67 (IntKind.u64.wrap (↑x.snd.snd.snd.snd.snd.snd.fst.length : Int), ())).bind fun y42 =>
      bif decide ((0 : Nat) + y42.fst ≤ y42.snd.fst.length) then
        bif
            decide
              ((0 : Nat) + (x.fst + (1 : Nat)) ≤
                (List.take x.fst (List.drop (0 : Nat) x.snd.snd.snd.snd.snd.snd.snd.fst) ++ [x.snd.fst]).length) then
          bif roomy (x.fst + (1 : Nat) + (List.take y42.fst (List.drop (0 : Nat) y42.snd.fst)).length) (1 : Nat) then
            (l42_0
                  (x.fst + (1 : Nat) + (List.take y42.fst (List.drop (0 : Nat) y42.snd.fst)).length, x.snd.snd.snd.snd.snd.snd.fst,
                    (↑x.snd.snd.snd.snd.snd.snd.fst.length : Int), (0 : Int),
                    List.take (x.fst + (1 : Nat))
                        (List.drop (0 : Nat) (List.take x.fst (List.drop (0 : Nat) x.snd.snd.snd.snd.snd.snd.snd.fst) ++ [x.snd.fst])) ++
                      List.take y42.fst (List.drop (0 : Nat) y42.snd.fst),
                    ())).bind
              fun y41 => some (y41.fst, y41.snd.fst, ())
          else none
        else none
      else none
  else none
else none
theorem j42_22_run0 (v0 : Nat) (v1 : Int) (v2 : Int) (v3 : Int) (v4 : Int) (v5 : Bool) (v6 : List Bm) (v7 : List Int) : pieceK tC G42 (look [(0, W42_0)]) c42_22 p42_22 (v0, v1, v2, v3, v4, v5, v6, v7, ()) = j42_22 (v0, v1, v2, v3, v4, v5, v6, v7, ()) := by kernel_rfl
theorem j42_22_run (x : Nat × Int × Int × Int × Int × Bool × List Bm × List Int × Unit) : pieceK tC G42 (look [(0, W42_0)]) c42_22 p42_22 x = j42_22 x := j42_22_run0 x.1 x.2.1 x.2.2.1 x.2.2.2.1 x.2.2.2.2.1 x.2.2.2.2.2.1 x.2.2.2.2.2.2.1 x.2.2.2.2.2.2.2.1
noncomputable def W42_22 : LF tC := cutLF tC p42_22 j42_22
theorem W42_22_ok : keyed 22 (bodyOf Try.f42) = [c42_22] ∧ ∀ n, n ≤ 0 → Snd tC n c42_22 W42_22.k := ⟨by kernel_rfl, fun n hn => cut_ok (p := p42_22) Y42 (lam_le (lam_cons W42_0_ok lam_nil) n hn) hn j42_22_run⟩
def S42 : FS := ⟨[[.v, .v, .v, .v, .s 46]], [⟨[.one (.agg [.int .i64, .int .i64, .int .i64, .bool, .imm 46])], []⟩], [⟨[.one (.one (.sl 0))], [.arr 5]⟩], [[.v]], [(2, 5)]⟩
noncomputable def f42 (x : Int × Int × Int × Bool × List Bm × Unit) : Option (Nat × List Int × Unit) :=
  (f66 (x.fst, ())).bind fun y53 =>
  (f66 (x.snd.fst, ())).bind fun y52 =>
    bif decide ((0 : Nat) + y52.fst ≤ y52.snd.fst.length) then
      bif decide ((0 : Nat) + y53.fst ≤ y53.snd.fst.length) then
        bif roomy (y53.fst + (List.take y52.fst (List.drop (0 : Nat) y52.snd.fst)).length) (1 : Nat) then
          (f66 (x.snd.snd.fst, ())).bind fun y51 =>
            bif decide ((0 : Nat) + y51.fst ≤ y51.snd.fst.length) then
              bif
                  decide
                    ((0 : Nat) + (y53.fst + (List.take y52.fst (List.drop (0 : Nat) y52.snd.fst)).length) ≤
                      (List.take y53.fst (List.drop (0 : Nat) y53.snd.fst) ++
                          List.take y52.fst (List.drop (0 : Nat) y52.snd.fst)).length) then
                bif
                    roomy
                      (y53.fst + (List.take y52.fst (List.drop (0 : Nat) y52.snd.fst)).length +
                        (List.take y51.fst (List.drop (0 : Nat) y51.snd.fst)).length)
                      (1 : Nat) then
                  bif x.snd.snd.snd.fst then
                    (j42_22
                          (y53.fst + (List.take y52.fst (List.drop (0 : Nat) y52.snd.fst)).length +
                              (List.take y51.fst (List.drop (0 : Nat) y51.snd.fst)).length,
                            (1 : Int), x.fst, x.snd.fst, x.snd.snd.fst, x.snd.snd.snd.fst, x.snd.snd.snd.snd.fst,
                            List.take (y53.fst + (List.take y52.fst (List.drop (0 : Nat) y52.snd.fst)).length)
                                (List.drop (0 : Nat)
                                  (List.take y53.fst (List.drop (0 : Nat) y53.snd.fst) ++
                                    List.take y52.fst (List.drop (0 : Nat) y52.snd.fst))) ++
                              List.take y51.fst (List.drop (0 : Nat) y51.snd.fst),
                            ())).bind
                      fun y49 => some (y49.fst, y49.snd.fst, ())
                  else
                    (j42_22
                          (y53.fst + (List.take y52.fst (List.drop (0 : Nat) y52.snd.fst)).length +
                              (List.take y51.fst (List.drop (0 : Nat) y51.snd.fst)).length,
                            (0 : Int), x.fst, x.snd.fst, x.snd.snd.fst, x.snd.snd.snd.fst, x.snd.snd.snd.snd.fst,
                            List.take (y53.fst + (List.take y52.fst (List.drop (0 : Nat) y52.snd.fst)).length)
                                (List.drop (0 : Nat)
                                  (List.take y53.fst (List.drop (0 : Nat) y53.snd.fst) ++
                                    List.take y52.fst (List.drop (0 : Nat) y52.snd.fst))) ++
                              List.take y51.fst (List.drop (0 : Nat) y51.snd.fst),
                            ())).bind
                      fun y50 => some (y50.fst, y50.snd.fst, ())
                else none
              else none
            else none
        else none
      else none
    else none
noncomputable def F42 : CF tC := mkF tC S42 f42
theorem f42_run : ∀ a, fnS tC G42 (look [(22, W42_22)]) Try.f42 S42 a = f42 a := fun a => by kernel_rfl
theorem F42_ok : CFOK tC 42 F42 := mkF_ok Y42 (fn := Try.f42) (body := bodyOf Try.f42) (by kernel_rfl) (by kernel_rfl) (by kernel_rfl) (m := 0) rfl (lam_le (lam_cons W42_22_ok lam_nil)) f42_run

/-! Encode -/
noncomputable def G12 : FuncId → Option (CF tC) := look [(40, F40), (41, F41), (42, F42)]
theorem Y12 : SysN tC G12 := (sys_cons F40_ok (mkF_nat _ _) (sys_cons F41_ok (mkF_nat _ _) (sys_cons F42_ok (mkF_nat _ _) (sys_nil tC_ok tC_eq))))
def S12 : FS := ⟨[[.v, .v, .v, .v, .s 46]], [⟨[.one (.agg [.int .i64, .int .i64, .int .i64, .bool, .imm 46])], []⟩], [⟨[.one (.one (.him 5))], []⟩], [[.h 5]], []⟩
noncomputable def f12 (x : Int × Int × Int × Bool × List Bm × Unit) : Option (List Int × Unit) :=
  bif !f40 x.snd.fst x.snd.snd.fst then some ([], ())
else
  (f41 (x.snd.snd.snd.snd.fst, ())).bind fun y11 =>
    bif !y11.fst then some ([], ())
    else
      bif decide (x.fst < (0 : Int)) then some ([], ())
      else
        bif decide (x.fst > (1099511627776 : Int)) then some ([], ())
        else
          (f42 (x.fst, x.snd.fst, x.snd.snd.fst, x.snd.snd.snd.fst, x.snd.snd.snd.snd.fst, ())).bind fun y10 =>
            bif decide ((0 : Nat) + y10.fst ≤ y10.snd.fst.length) then some (List.take y10.fst (List.drop (0 : Nat) y10.snd.fst), ())
            else none
noncomputable def F12 : CF tC := mkF tC S12 f12
theorem f12_run : ∀ a, fnS tC G12 (look []) Try.f12 S12 a = f12 a := fun a => by kernel_rfl
theorem F12_ok : CFOK tC 12 F12 := mkF_ok Y12 (fn := Try.f12) (body := bodyOf Try.f12) (by kernel_rfl) (by kernel_rfl) (by kernel_rfl) (m := 0) rfl (lam_le lam_nil) f12_run

/-! number -/
noncomputable def G47 : FuncId → Option (CF tC) := look [(70, F70)]
theorem Y47 : SysN tC G47 := (sys_cons F70_ok (mkF_nat _ _) (sys_nil tC_ok tC_eq))
def S47 : FS := ⟨[[.p]], [⟨[.one (.one (.ptr 0 0 0))], [.box [.imm 5, .int .i64]]⟩], [⟨[vI], [.box [.imm 5, .int .i64]]⟩], [[.v]], []⟩
noncomputable def f47 (x : List Int × Int × Unit) : Option (Int × List Int × Int × Unit) :=
  bif x.snd.fst != (0 : Int) then some ((0 : Int), x.fst, x.snd.fst, ())
else (f70 (x.fst, ())).bind fun y9 => some (y9.fst, y9.snd.fst, y9.snd.snd.fst, ())
noncomputable def F47 : CF tC := mkF tC S47 f47
theorem f47_run : ∀ a, fnS tC G47 (look []) Try.f47 S47 a = f47 a := fun a => by kernel_rfl
theorem F47_ok : CFOK tC 47 F47 := mkF_ok Y47 (fn := Try.f47) (body := bodyOf Try.f47) (by kernel_rfl) (by kernel_rfl) (by kernel_rfl) (m := 1) rfl (lam_le lam_nil) f47_run

/-! flag -/
noncomputable def G48 : FuncId → Option (CF tC) := look []
theorem Y48 : SysN tC G48 := (sys_nil tC_ok tC_eq)
def S48 : FS := ⟨[[.p]], [⟨[.one (.one (.ptr 0 0 0))], [.box [.imm 5, .int .i64]]⟩], [⟨[vO], [.box [.imm 5, .int .i64]]⟩], [[.v]], []⟩
noncomputable def f48 (x : List Int × Int × Unit) : Option (Bool × List Int × Int × Unit) :=
  bif x.snd.fst != (0 : Int) then some (false, x.fst, x.snd.fst, ())
else
  bif (↑x.fst.length : Int) == (0 : Int) then some (false, x.fst, (4 : Int), ())
  else
    (idxO x.fst (0 : Int)).bind fun y9 =>
      bif decide (y9 > (1 : Int)) then some (false, x.fst, (3 : Int), ())
      else
        (idxO x.fst (0 : Int)).bind fun y8 =>
          bif
              true && decide ((1 : Int) ≤ (↑x.fst.length : Int)) && decide ((↑x.fst.length : Int) ≤ (↑x.fst.length : Int)) &&
                decide ((↑x.fst.length : Int) ≤ (↑x.fst.length : Int)) then
            some (y8 == (1 : Int), List.drop (1 : Nat) (List.take (↑x.fst.length : Int).toNat x.fst), x.snd.fst, ())
          else none
noncomputable def F48 : CF tC := mkF tC S48 f48
theorem f48_run : ∀ a, fnS tC G48 (look []) Try.f48 S48 a = f48 a := fun a => by kernel_rfl
theorem F48_ok : CFOK tC 48 F48 := mkF_ok Y48 (fn := Try.f48) (body := bodyOf Try.f48) (by kernel_rfl) (by kernel_rfl) (by kernel_rfl) (m := 1) rfl (lam_le lam_nil) f48_run

/-! count -/
noncomputable def G49 : FuncId → Option (CF tC) := look [(71, F71)]
theorem Y49 : SysN tC G49 := (sys_cons F71_ok (mkF_nat _ _) (sys_nil tC_ok tC_eq))
noncomputable def c49_22 : Code := subCode (bodyOf Try.f49) 22
def p49_22 : PS := ⟨1, [0, 7], ⟨[.one (.one (.ptr 0 0 0))] ++ vBs 6 ++ [.one (.one (.int .u64))] ++ vBs 42, [.box [.imm 5, .int .i64]]⟩, [⟨.ret, [6], ⟨vBs 6 ++ [vI] ++ vBs 43, [.box [.imm 5, .int .i64]]⟩, []⟩], []⟩
noncomputable def j49_22 (x : Int × List Int × Int × Unit) : Option (Int × List Int × Int × Unit) :=
  bif x.snd.snd.fst != (0 : Int) then some ((0 : Int), x.snd.fst, x.snd.snd.fst, ())
else some (IntKind.i64.wrap x.fst, x.snd.fst, x.snd.snd.fst, ())
theorem j49_22_run0 (v0 : Int) (v1 : List Int) (v2 : Int) : pieceK tC G49 (look []) c49_22 p49_22 (v0, v1, v2, ()) = j49_22 (v0, v1, v2, ()) := by kernel_rfl
theorem j49_22_run (x : Int × List Int × Int × Unit) : pieceK tC G49 (look []) c49_22 p49_22 x = j49_22 x := j49_22_run0 x.1 x.2.1 x.2.2.1
noncomputable def W49_22 : LF tC := cutLF tC p49_22 j49_22
theorem W49_22_ok : keyed 22 (bodyOf Try.f49) = [c49_22] ∧ ∀ n, n ≤ 1 → Snd tC n c49_22 W49_22.k := ⟨by kernel_rfl, fun n hn => cut_ok (p := p49_22) Y49 (lam_le lam_nil n hn) hn j49_22_run⟩
def S49 : FS := ⟨[[.p], [.v], [.v]], [⟨[.one (.one (.ptr 0 0 0)), .one (.one (.int .u64)), vI], [.box [.imm 5, .int .i64]]⟩], [⟨[vI], [.box [.imm 5, .int .i64]]⟩], [[.v]], []⟩
noncomputable def f49 (x : Int × Int × List Int × Int × Unit) : Option (Int × List Int × Int × Unit) :=
  bif x.snd.snd.snd.fst != (0 : Int) then some ((0 : Int), x.snd.snd.fst, x.snd.snd.snd.fst, ())
else
  (f71 (x.snd.snd.fst, ())).bind fun y29 =>
    bif y29.snd.snd.fst == (0 : Int) then
      bif decide (y29.fst > x.fst) then
        (j49_22 (y29.fst, y29.snd.fst, x.snd.fst, ())).bind fun y26 => some (y26.fst, y26.snd.fst, y26.snd.snd.fst, ())
      else (j49_22 (y29.fst, y29.snd.fst, y29.snd.snd.fst, ())).bind fun y27 => some (y27.fst, y27.snd.fst, y27.snd.snd.fst, ())
    else (j49_22 (y29.fst, y29.snd.fst, y29.snd.snd.fst, ())).bind fun y28 => some (y28.fst, y28.snd.fst, y28.snd.snd.fst, ())
noncomputable def F49 : CF tC := mkF tC S49 f49
theorem f49_run : ∀ a, fnS tC G49 (look [(22, W49_22)]) Try.f49 S49 a = f49 a := fun a => by kernel_rfl
theorem F49_ok : CFOK tC 49 F49 := mkF_ok Y49 (fn := Try.f49) (body := bodyOf Try.f49) (by kernel_rfl) (by kernel_rfl) (by kernel_rfl) (m := 1) rfl (lam_le (lam_cons W49_22_ok lam_nil)) f49_run

/-! Decode -/
noncomputable def G15 : FuncId → Option (CF tC) := look [(47, F47), (48, F48), (49, F49), (40, F40), (41, F41)]
theorem Y15 : SysN tC G15 := (sys_cons F47_ok (mkF_nat _ _) (sys_cons F48_ok (mkF_nat _ _) (sys_cons F49_ok (mkF_nat _ _) (sys_cons F40_ok (mkF_nat _ _) (sys_cons F41_ok (mkF_nat _ _) (sys_nil tC_ok tC_eq))))))
noncomputable def c15_0 : Code := loopOf (bodyOf Try.f15) 0
def p15_0 : LS := ⟨0, [2, 4, 5, 6], ⟨[vB, vB, .one (.one (.ptr 0 0 0)), vB, .one (.one (.ptr 1 0 0)), .one (.one (.ptr 2 0 0)), vI] ++ vBs 93, [.box [.int .i64, .int .i64, .int .i64, .bool, .nils], .box [.imm 5, .int .i64], .box [.int .i64, .int .i64, .int .i64, .bool, .sl 3], .arr 46]⟩, [⟨.exit 0, [2, 4, 5], ⟨[vB, vB, .one (.one (.ptr 0 0 0)), vB, .one (.one (.ptr 1 0 0)), .one (.one (.ptr 2 0 0))] ++ vBs 94, [.box [.int .i64, .int .i64, .int .i64, .bool, .nils], .box [.imm 5, .int .i64], .box [.int .i64, .int .i64, .int .i64, .bool, .sl 3], .arr 46]⟩, []⟩], [(2005004, 46)]⟩
noncomputable def r15_0 (x : Int × Int × Int × Int × Bool × List Int × Int × Int × Int × Int × Bool × Nat × List Bm × Unit) : Option
  (Int × Int × Int × Int × Bool × List Int × Int × Int × Int × Int × Bool × Nat × List Bm × Unit ⊕
    Int × Int × Int × Bool × List Int × Int × Int × Int × Int × Bool × Nat × List Bm × Unit) :=
  bif decide (x.fst > (0 : Int)) then
  bif x.snd.snd.snd.snd.snd.snd.fst == (0 : Int) then
    (f49 ((4294967296 : Int), (2 : Int), x.snd.snd.snd.snd.snd.fst, x.snd.snd.snd.snd.snd.snd.fst, ())).bind fun y78 =>
      (f49 ((4294967296 : Int), (2 : Int), y78.snd.fst, y78.snd.snd.fst, ())).bind fun y77 =>
        bif
            decide
              ((0 : Nat) + x.snd.snd.snd.snd.snd.snd.snd.snd.snd.snd.snd.fst ≤
                x.snd.snd.snd.snd.snd.snd.snd.snd.snd.snd.snd.snd.fst.length) then
          bif roomy (x.snd.snd.snd.snd.snd.snd.snd.snd.snd.snd.snd.fst + (1 : Nat)) (16 : Nat) then
            some
              (Sum.inl
                (IntKind.i64.wrap (x.fst - (1 : Int)), x.snd.fst, x.snd.snd.fst, x.snd.snd.snd.fst, x.snd.snd.snd.snd.fst, y77.snd.fst,
                  y77.snd.snd.fst, x.snd.snd.snd.snd.snd.snd.snd.fst, x.snd.snd.snd.snd.snd.snd.snd.snd.fst,
                  x.snd.snd.snd.snd.snd.snd.snd.snd.snd.fst, x.snd.snd.snd.snd.snd.snd.snd.snd.snd.snd.fst,
                  x.snd.snd.snd.snd.snd.snd.snd.snd.snd.snd.snd.fst + (1 : Nat),
                  List.take x.snd.snd.snd.snd.snd.snd.snd.snd.snd.snd.snd.fst
                      (List.drop (0 : Nat) x.snd.snd.snd.snd.snd.snd.snd.snd.snd.snd.snd.snd.fst) ++
                    [Bm.mk y78.fst (IntKind.i64.wrap (y77.fst - (1 : Int)))],
                  ()))
          else none
        else none
  else
    some
      (Sum.inr
        (x.snd.fst, x.snd.snd.fst, x.snd.snd.snd.fst, x.snd.snd.snd.snd.fst, x.snd.snd.snd.snd.snd.fst, x.snd.snd.snd.snd.snd.snd.fst,
          x.snd.snd.snd.snd.snd.snd.snd.fst, x.snd.snd.snd.snd.snd.snd.snd.snd.fst, x.snd.snd.snd.snd.snd.snd.snd.snd.snd.fst,
          x.snd.snd.snd.snd.snd.snd.snd.snd.snd.snd.fst, x.snd.snd.snd.snd.snd.snd.snd.snd.snd.snd.snd.fst,
          x.snd.snd.snd.snd.snd.snd.snd.snd.snd.snd.snd.snd.fst, ()))
else
  some
    (Sum.inr
      (x.snd.fst, x.snd.snd.fst, x.snd.snd.snd.fst, x.snd.snd.snd.snd.fst, x.snd.snd.snd.snd.snd.fst, x.snd.snd.snd.snd.snd.snd.fst,
        x.snd.snd.snd.snd.snd.snd.snd.fst, x.snd.snd.snd.snd.snd.snd.snd.snd.fst, x.snd.snd.snd.snd.snd.snd.snd.snd.snd.fst,
        x.snd.snd.snd.snd.snd.snd.snd.snd.snd.snd.fst, x.snd.snd.snd.snd.snd.snd.snd.snd.snd.snd.snd.fst,
        x.snd.snd.snd.snd.snd.snd.snd.snd.snd.snd.snd.snd.fst, ()))
theorem r15_0_run0 (v0 : Int) (v1 : Int) (v2 : Int) (v3 : Int) (v4 : Bool) (v5 : List Int) (v6 : Int) (v7 : Int) (v8 : Int) (v9 : Int) (v10 : Bool) (v11 : Nat) (v12 : List Bm) : roundK tC G15 (look []) c15_0 p15_0 (v0, v1, v2, v3, v4, v5, v6, v7, v8, v9, v10, v11, v12, ()) = r15_0 (v0, v1, v2, v3, v4, v5, v6, v7, v8, v9, v10, v11, v12, ()) := by kernel_rfl
theorem r15_0_run (x : Int × Int × Int × Int × Bool × List Int × Int × Int × Int × Int × Bool × Nat × List Bm × Unit) : roundK tC G15 (look []) c15_0 p15_0 x = r15_0 x := r15_0_run0 x.1 x.2.1 x.2.2.1 x.2.2.2.1 x.2.2.2.2.1 x.2.2.2.2.2.1 x.2.2.2.2.2.2.1 x.2.2.2.2.2.2.2.1 x.2.2.2.2.2.2.2.2.1 x.2.2.2.2.2.2.2.2.2.1 x.2.2.2.2.2.2.2.2.2.2.1 x.2.2.2.2.2.2.2.2.2.2.2.1 x.2.2.2.2.2.2.2.2.2.2.2.2.1
noncomputable def l15_0 (x : Int × Int × Int × Int × Bool × List Int × Int × Int × Int × Int × Bool × Nat × List Bm × Unit) : Option (Int × Int × Int × Bool × List Int × Int × Int × Int × Int × Bool × Nat × List Bm × Unit) := iterO r15_0 x
noncomputable def W15_0 : LF tC := loopW tC p15_0 0 l15_0
theorem W15_0_ok : keyed 0 (bodyOf Try.f15) = [.block 0 (.loop c15_0)] ∧ ∀ n, n ≤ 0 → Snd tC n (.block 0 (.loop c15_0)) W15_0.k := ⟨by kernel_rfl, fun n hn => loopW_ok (p := p15_0) (id := 0) Y15 (lam_le lam_nil n hn) hn r15_0_run⟩
def S15 : FS := ⟨[[.s 5]], [⟨[.one (.one (.imm 5))], []⟩], [⟨[.tup [.agg [.int .i64, .int .i64, .int .i64, .bool, .him 46], .one (.int .i64)]], []⟩], [[.v, .v, .v, .v, .h 46], [.v]], []⟩
noncomputable def f15 (x : List Int × Unit) : Option (Int × Int × Int × Bool × List Bm × Int × Unit) :=
  (f47 (x.fst, (0 : Int), ())).bind fun y123 =>
  bif y123.snd.snd.fst == (0 : Int) then
    bif decide (y123.fst < (0 : Int)) then some ((0 : Int), (0 : Int), (0 : Int), false, [], (2 : Int), ())
    else
      bif decide (y123.fst > (1099511627776 : Int)) then some ((0 : Int), (0 : Int), (0 : Int), false, [], (2 : Int), ())
      else
        (f47 (y123.snd.fst, y123.snd.snd.fst, ())).bind fun y116 =>
          (f47 (y116.snd.fst, y116.snd.snd.fst, ())).bind fun y115 =>
            (f48 (y115.snd.fst, y115.snd.snd.fst, ())).bind fun y114 =>
              (f49 ((32 : Int), (6 : Int), y114.snd.fst, y114.snd.snd.fst, ())).bind fun y113 =>
                (l15_0
                      (y113.fst, (0 : Int), (0 : Int), (0 : Int), false, y113.snd.fst, y113.snd.snd.fst, y123.fst, y116.fst, y115.fst,
                        y114.fst, (0 : Nat), [], ())).bind
                  fun y112 =>
                  bif y112.snd.snd.snd.snd.snd.fst != (0 : Int) then
                    some ((0 : Int), (0 : Int), (0 : Int), false, [], y112.snd.snd.snd.snd.snd.fst, ())
                  else
                    bif decide ((↑y112.snd.snd.snd.snd.fst.length : Int) > (0 : Int)) then
                      some ((0 : Int), (0 : Int), (0 : Int), false, [], (3 : Int), ())
                    else
                      bif !f40 y112.snd.snd.snd.snd.snd.snd.snd.fst y112.snd.snd.snd.snd.snd.snd.snd.snd.fst then
                        some ((0 : Int), (0 : Int), (0 : Int), false, [], (1 : Int), ())
                      else
                        bif
                            decide
                              ((0 : Nat) + y112.snd.snd.snd.snd.snd.snd.snd.snd.snd.snd.fst ≤
                                y112.snd.snd.snd.snd.snd.snd.snd.snd.snd.snd.snd.fst.length) then
                          (f41
                                (List.take y112.snd.snd.snd.snd.snd.snd.snd.snd.snd.snd.fst
                                    (List.drop (0 : Nat) y112.snd.snd.snd.snd.snd.snd.snd.snd.snd.snd.snd.fst),
                                  ())).bind
                            fun y111 =>
                            bif !y111.fst then some ((0 : Int), (0 : Int), (0 : Int), false, [], (1 : Int), ())
                            else
                              bif
                                  decide
                                    ((0 : Nat) + y112.snd.snd.snd.snd.snd.snd.snd.snd.snd.snd.fst ≤
                                      y112.snd.snd.snd.snd.snd.snd.snd.snd.snd.snd.snd.fst.length) then
                                some
                                  (y112.snd.snd.snd.snd.snd.snd.fst, y112.snd.snd.snd.snd.snd.snd.snd.fst,
                                    y112.snd.snd.snd.snd.snd.snd.snd.snd.fst, y112.snd.snd.snd.snd.snd.snd.snd.snd.snd.fst,
                                    List.take y112.snd.snd.snd.snd.snd.snd.snd.snd.snd.snd.fst
                                      (List.drop (0 : Nat) y112.snd.snd.snd.snd.snd.snd.snd.snd.snd.snd.snd.fst),
                                    (0 : Int), ())
                              else none
                        else none
  else
    (f47 (y123.snd.fst, y123.snd.snd.fst, ())).bind fun y122 =>
      (f47 (y122.snd.fst, y122.snd.snd.fst, ())).bind fun y121 =>
        (f48 (y121.snd.fst, y121.snd.snd.fst, ())).bind fun y120 =>
          (f49 ((32 : Int), (6 : Int), y120.snd.fst, y120.snd.snd.fst, ())).bind fun y119 =>
            (l15_0
                  (y119.fst, (0 : Int), (0 : Int), (0 : Int), false, y119.snd.fst, y119.snd.snd.fst, y123.fst, y122.fst, y121.fst, y120.fst,
                    (0 : Nat), [], ())).bind
              fun y118 =>
              bif y118.snd.snd.snd.snd.snd.fst != (0 : Int) then
                some ((0 : Int), (0 : Int), (0 : Int), false, [], y118.snd.snd.snd.snd.snd.fst, ())
              else
                bif decide ((↑y118.snd.snd.snd.snd.fst.length : Int) > (0 : Int)) then
                  some ((0 : Int), (0 : Int), (0 : Int), false, [], (3 : Int), ())
                else
                  bif !f40 y118.snd.snd.snd.snd.snd.snd.snd.fst y118.snd.snd.snd.snd.snd.snd.snd.snd.fst then
                    some ((0 : Int), (0 : Int), (0 : Int), false, [], (1 : Int), ())
                  else
                    bif
                        decide
                          ((0 : Nat) + y118.snd.snd.snd.snd.snd.snd.snd.snd.snd.snd.fst ≤
                            y118.snd.snd.snd.snd.snd.snd.snd.snd.snd.snd.snd.fst.length) then
                      (f41
                            (List.take y118.snd.snd.snd.snd.snd.snd.snd.snd.snd.snd.fst
                                (List.drop (0 : Nat) y118.snd.snd.snd.snd.snd.snd.snd.snd.snd.snd.snd.fst),
                              ())).bind
                        fun y117 =>
                        bif !y117.fst then some ((0 : Int), (0 : Int), (0 : Int), false, [], (1 : Int), ())
                        else
                          bif
                              decide
                                ((0 : Nat) + y118.snd.snd.snd.snd.snd.snd.snd.snd.snd.snd.fst ≤
                                  y118.snd.snd.snd.snd.snd.snd.snd.snd.snd.snd.snd.fst.length) then
                            some
                              (y118.snd.snd.snd.snd.snd.snd.fst, y118.snd.snd.snd.snd.snd.snd.snd.fst,
                                y118.snd.snd.snd.snd.snd.snd.snd.snd.fst, y118.snd.snd.snd.snd.snd.snd.snd.snd.snd.fst,
                                List.take y118.snd.snd.snd.snd.snd.snd.snd.snd.snd.snd.fst
                                  (List.drop (0 : Nat) y118.snd.snd.snd.snd.snd.snd.snd.snd.snd.snd.snd.fst),
                                (0 : Int), ())
                          else none
                    else none
noncomputable def F15 : CF tC := mkF tC S15 f15
theorem f15_run : ∀ a, fnS tC G15 (look [(0, W15_0)]) Try.f15 S15 a = f15 a := fun a => by kernel_rfl
theorem F15_ok : CFOK tC 15 F15 := mkF_ok Y15 (fn := Try.f15) (body := bodyOf Try.f15) (by kernel_rfl) (by kernel_rfl) (by kernel_rfl) (m := 0) rfl (lam_le (lam_cons W15_0_ok lam_nil)) f15_run

/-! base.Size -/
noncomputable def G68 : FuncId → Option (CF tC) := look []
theorem Y68 : SysN tC G68 := (sys_nil tC_ok tC_eq)
def S68 : FS := ⟨[[.v], [.v]], [⟨[vI, vI], []⟩], [⟨[vO], []⟩], [[.v]], []⟩
def f68 (n1 : Int) (n2 : Int) : Bool :=
  bif decide (n1 ≥ IntKind.i64.wrap ((0 : Int) - n2)) then decide (n1 ≤ n2) else false
noncomputable def F68 : CF tC := mkF tC S68 (fun a => some ((f68 a.1 a.2.1), ()))
def h68 (r : Bool) : Option (altTy tE S68.outs) := some (r, ())
theorem f68_run : ∀ a, fnS tC G68 (look []) Try.f68 S68 a = (fun a => some ((f68 a.1 a.2.1), ())) a := fun a => by
  have key : ∀ (n1 : Int) (n2 : Int), (bif decide (n1 ≥ IntKind.i64.wrap ((0 : Int) - n2)) then h68 (decide (n1 ≤ n2)) else h68 false) = h68 (f68 n1 n2) := by
    intros
    unfold f68
    repeat' first | rfl | refine cond_h (g := h68) ?_ ?_
  exact Eq.trans (by kernel_rfl) (key a.1 a.2.1)
theorem F68_ok : CFOK tC 68 F68 := mkF_ok Y68 (fn := Try.f68) (body := bodyOf Try.f68) (by kernel_rfl) (by kernel_rfl) (by kernel_rfl) (m := 0) rfl (lam_le lam_nil) f68_run

/-! base.Command -/
noncomputable def G43 : FuncId → Option (CF tC) := look [(68, F68)]
theorem Y43 : SysN tC G43 := (sys_cons F68_ok (mkF_nat _ _) (sys_nil tC_ok tC_eq))
def S43 : FS := ⟨[[.v, .v]], [⟨[.one (.agg [.int .i64, .int .i64])], []⟩], [⟨[vO], []⟩], [[.v]], []⟩
def f43 (n1 : Int) (n2 : Int) : Bool :=
  bif f68 n1 (32 : Int) then bif decide (n2 ≥ (0 : Int)) then decide (n2 ≤ (32 : Int)) else false else false
noncomputable def F43 : CF tC := mkF tC S43 (fun a => some ((f43 a.1 a.2.1), ()))
def h43 (r : Bool) : Option (altTy tE S43.outs) := some (r, ())
theorem f43_run : ∀ a, fnS tC G43 (look []) Try.f43 S43 a = (fun a => some ((f43 a.1 a.2.1), ())) a := fun a => by
  have key : ∀ (n1 : Int) (n2 : Int), (bif f68 n1 (32 : Int) then bif decide (n2 ≥ (0 : Int)) then h43 (decide (n2 ≤ (32 : Int))) else h43 false else h43 false) = h43 (f43 n1 n2) := by
    intros
    unfold f43
    repeat' first | rfl | refine cond_h (g := h43) ?_ ?_
  exact Eq.trans (by kernel_rfl) (key a.1 a.2.1)
theorem F43_ok : CFOK tC 43 F43 := mkF_ok Y43 (fn := Try.f43) (body := bodyOf Try.f43) (by kernel_rfl) (by kernel_rfl) (by kernel_rfl) (m := 0) rfl (lam_le lam_nil) f43_run

/-! base.Beam -/
noncomputable def G69 : FuncId → Option (CF tC) := look []
theorem Y69 : SysN tC G69 := (sys_nil tC_ok tC_eq)
def S69 : FS := ⟨[[.v, .v]], [⟨[.one (.agg [.int .i64, .int .i64])], []⟩], [⟨[vO], []⟩], [[.v]], []⟩
def f69 (n1 : Int) (n2 : Int) : Bool :=
  bif decide (n1 ≥ (0 : Int)) then
  bif decide (n1 < (256 : Int)) then bif decide (n2 ≥ (-1 : Int)) then decide (n2 ≤ (1024 : Int)) else false else false
else false
noncomputable def F69 : CF tC := mkF tC S69 (fun a => some ((f69 a.1 a.2.1), ()))
def h69 (r : Bool) : Option (altTy tE S69.outs) := some (r, ())
theorem f69_run : ∀ a, fnS tC G69 (look []) Try.f69 S69 a = (fun a => some ((f69 a.1 a.2.1), ())) a := fun a => by
  have key : ∀ (n1 : Int) (n2 : Int), (bif decide (n1 ≥ (0 : Int)) then
  bif decide (n1 < (256 : Int)) then bif decide (n2 ≥ (-1 : Int)) then h69 (decide (n2 ≤ (1024 : Int))) else h69 false else h69 false
else h69 false) = h69 (f69 n1 n2) := by
    intros
    unfold f69
    repeat' first | rfl | refine cond_h (g := h69) ?_ ?_
  exact Eq.trans (by kernel_rfl) (key a.1 a.2.1)
theorem F69_ok : CFOK tC 69 F69 := mkF_ok Y69 (fn := Try.f69) (body := bodyOf Try.f69) (by kernel_rfl) (by kernel_rfl) (by kernel_rfl) (m := 0) rfl (lam_le lam_nil) f69_run

/-! base.Scan -/
noncomputable def G44 : FuncId → Option (CF tC) := look [(69, F69)]
theorem Y44 : SysN tC G44 := (sys_cons F69_ok (mkF_nat _ _) (sys_nil tC_ok tC_eq))
noncomputable def c44_0 : Code := loopOf (bodyOf Try.f44) 0
def p44_0 : LS := ⟨0, [0, 3], ⟨[.one (.one (.imm 46)), vB, vB, vI] ++ vBs 15, []⟩, [⟨.ret, [2], ⟨[vB, vB, vO] ++ vBs 16, []⟩, []⟩, ⟨.exit 0, [], ⟨vBs 19, []⟩, []⟩], []⟩
noncomputable def r44_0 (x : List Bm × Int × Unit) : Option (List Bm × Int × Unit ⊕ Bool × Unit ⊕ Unit) :=
  bif decide (x.snd.fst < (↑x.fst.length : Int)) then
  (idxO x.fst x.snd.fst).bind fun y6 =>
    bif !f69 y6.M y6.R then some (Sum.inr (Sum.inl (false, ()))) else some (Sum.inl (x.fst, IntKind.i64.wrap (x.snd.fst + (1 : Int)), ()))
else some (Sum.inr (Sum.inr ()))
theorem r44_0_run0 (v0 : List Bm) (v1 : Int) : roundK tC G44 (look []) c44_0 p44_0 (v0, v1, ()) = r44_0 (v0, v1, ()) := by kernel_rfl
theorem r44_0_run (x : List Bm × Int × Unit) : roundK tC G44 (look []) c44_0 p44_0 x = r44_0 x := r44_0_run0 x.1 x.2.1
noncomputable def l44_0 (x : List Bm × Int × Unit) : Option (Bool × Unit ⊕ Unit) := iterO r44_0 x
noncomputable def W44_0 : LF tC := loopW tC p44_0 0 l44_0
theorem W44_0_ok : keyed 0 (bodyOf Try.f44) = [.block 0 (.loop c44_0)] ∧ ∀ n, n ≤ 0 → Snd tC n (.block 0 (.loop c44_0)) W44_0.k := ⟨by kernel_rfl, fun n hn => loopW_ok (p := p44_0) (id := 0) Y44 (lam_le lam_nil n hn) hn r44_0_run⟩
def S44 : FS := ⟨[[.s 46]], [⟨[.one (.one (.imm 46))], []⟩], [⟨[vO], []⟩], [[.v]], []⟩
noncomputable def f44 (x : List Bm × Unit) : Option (Bool × Unit) :=
  bif decide ((↑x.fst.length : Int) > (32 : Int)) then some (false, ())
else (l44_0 (x.fst, (0 : Int), ())).bind fun y11 => Sum.elim (fun y9 => some (y9.fst, ())) (fun _x => some (true, ())) y11
noncomputable def F44 : CF tC := mkF tC S44 f44
theorem f44_run : ∀ a, fnS tC G44 (look [(0, W44_0)]) Try.f44 S44 a = f44 a := fun a => by kernel_rfl
theorem F44_ok : CFOK tC 44 F44 := mkF_ok Y44 (fn := Try.f44) (body := bodyOf Try.f44) (by kernel_rfl) (by kernel_rfl) (by kernel_rfl) (m := 0) rfl (lam_le (lam_cons W44_0_ok lam_nil)) f44_run

/-! ref.Encode -/
noncomputable def G13 : FuncId → Option (CF tC) := look [(43, F43), (44, F44), (45, F45), (46, F46)]
theorem Y13 : SysN tC G13 := (sys_cons F43_ok (mkF_nat _ _) (sys_cons F44_ok (mkF_nat _ _) (sys_cons F45_ok (mkF_nat _ _) (sys_cons F46_ok (mkF_nat _ _) (sys_nil tC_ok tC_eq)))))
noncomputable def c13_0 : Code := loopOf (subCode (bodyOf Try.f13) 25) 0
def p13_0 : LS := ⟨0, [1, 3, 4], ⟨[vB, .one (.one (.ptr 0 0 0)), vB, .one (.one (.sl 1)), vI] ++ vBs 78, [.box [.int .i64, .int .i64, .int .i64, .bool, .imm 46], .arr 5]⟩, [⟨.exit 0, [3], ⟨[vB, vB, vB, .one (.one (.sl 0))] ++ vBs 79, [.arr 5]⟩, []⟩], []⟩
noncomputable def r13_0 (x : Nat × Int × Int × Int × Int × Bool × List Bm × List Int × Unit) : Option (Nat × Int × Int × Int × Int × Bool × List Bm × List Int × Unit ⊕ Nat × List Int × Unit) :=
  bif decide (x.snd.fst < (↑x.snd.snd.snd.snd.snd.snd.fst.length : Int)) then
  (idxO x.snd.snd.snd.snd.snd.snd.fst x.snd.fst).bind fun y41 =>
    (f46 (IntKind.u64.wrap y41.M, ())).bind fun y40 =>
      bif decide ((0 : Nat) + y40.fst ≤ y40.snd.fst.length) then
        bif decide ((0 : Nat) + x.fst ≤ x.snd.snd.snd.snd.snd.snd.snd.fst.length) then
          bif roomy (x.fst + (List.take y40.fst (List.drop (0 : Nat) y40.snd.fst)).length) (1 : Nat) then
            (idxO x.snd.snd.snd.snd.snd.snd.fst x.snd.fst).bind fun y39 =>
              (f46 (IntKind.u64.wrap (IntKind.i64.wrap (y39.R + (1 : Int))), ())).bind fun y38 =>
                bif decide ((0 : Nat) + y38.fst ≤ y38.snd.fst.length) then
                  bif
                      decide
                        ((0 : Nat) + (x.fst + (List.take y40.fst (List.drop (0 : Nat) y40.snd.fst)).length) ≤
                          (List.take x.fst (List.drop (0 : Nat) x.snd.snd.snd.snd.snd.snd.snd.fst) ++
                              List.take y40.fst (List.drop (0 : Nat) y40.snd.fst)).length) then
                    bif
                        roomy
                          (x.fst + (List.take y40.fst (List.drop (0 : Nat) y40.snd.fst)).length +
                            (List.take y38.fst (List.drop (0 : Nat) y38.snd.fst)).length)
                          (1 : Nat) then
                      some
                        (Sum.inl
                          (x.fst + (List.take y40.fst (List.drop (0 : Nat) y40.snd.fst)).length +
                              (List.take y38.fst (List.drop (0 : Nat) y38.snd.fst)).length,
                            IntKind.i64.wrap (x.snd.fst + (1 : Int)), x.snd.snd.fst, x.snd.snd.snd.fst, x.snd.snd.snd.snd.fst,
                            x.snd.snd.snd.snd.snd.fst, x.snd.snd.snd.snd.snd.snd.fst,
                            List.take (x.fst + (List.take y40.fst (List.drop (0 : Nat) y40.snd.fst)).length)
                                (List.drop (0 : Nat)
                                  (List.take x.fst (List.drop (0 : Nat) x.snd.snd.snd.snd.snd.snd.snd.fst) ++
                                    List.take y40.fst (List.drop (0 : Nat) y40.snd.fst))) ++
                              List.take y38.fst (List.drop (0 : Nat) y38.snd.fst),
                            ()))
                    else none
                  else none
                else none
          else none
        else none
      else none
else some (Sum.inr (x.fst, x.snd.snd.snd.snd.snd.snd.snd.fst, ()))
theorem r13_0_run0 (v0 : Nat) (v1 : Int) (v2 : Int) (v3 : Int) (v4 : Int) (v5 : Bool) (v6 : List Bm) (v7 : List Int) : roundK tC G13 (look []) c13_0 p13_0 (v0, v1, v2, v3, v4, v5, v6, v7, ()) = r13_0 (v0, v1, v2, v3, v4, v5, v6, v7, ()) := by kernel_rfl
theorem r13_0_run (x : Nat × Int × Int × Int × Int × Bool × List Bm × List Int × Unit) : roundK tC G13 (look []) c13_0 p13_0 x = r13_0 x := r13_0_run0 x.1 x.2.1 x.2.2.1 x.2.2.2.1 x.2.2.2.2.1 x.2.2.2.2.2.1 x.2.2.2.2.2.2.1 x.2.2.2.2.2.2.2.1
noncomputable def l13_0 (x : Nat × Int × Int × Int × Int × Bool × List Bm × List Int × Unit) : Option (Nat × List Int × Unit) := iterO r13_0 x
noncomputable def W13_0 : LF tC := loopW tC p13_0 0 l13_0
theorem W13_0_ok : keyed 0 (subCode (bodyOf Try.f13) 25) = [.block 0 (.loop c13_0)] ∧ ∀ n, n ≤ 0 → Snd tC n (.block 0 (.loop c13_0)) W13_0.k := ⟨by kernel_rfl, fun n hn => loopW_ok (p := p13_0) (id := 0) Y13 (lam_le lam_nil n hn) hn r13_0_run⟩
noncomputable def c13_25 : Code := subCode (bodyOf Try.f13) 25
def p13_25 : PS := ⟨0, [1, 3], ⟨[vB, .one (.one (.ptr 0 0 0)), vB, .one (.one (.sl 1))] ++ vBs 79, [.box [.int .i64, .int .i64, .int .i64, .bool, .imm 46], .arr 5]⟩, [⟨.ret, [2], ⟨[vB, vB, .one (.one (.sl 0))] ++ vBs 80, [.arr 5]⟩, []⟩], []⟩
noncomputable def j13_25 (x : Nat × Int × Int × Int × Bool × List Bm × List Int × Unit) : Option (Nat × List Int × Unit) :=
  (f46 (IntKind.u64.wrap (↑x.snd.snd.snd.snd.snd.fst.length : Int), ())).bind fun y47 =>
  bif decide ((0 : Nat) + y47.fst ≤ y47.snd.fst.length) then
    bif decide ((0 : Nat) + x.fst ≤ x.snd.snd.snd.snd.snd.snd.fst.length) then
      bif roomy (x.fst + (List.take y47.fst (List.drop (0 : Nat) y47.snd.fst)).length) (1 : Nat) then
        (l13_0
              (x.fst + (List.take y47.fst (List.drop (0 : Nat) y47.snd.fst)).length, (0 : Int), x.snd.fst, x.snd.snd.fst, x.snd.snd.snd.fst,
                x.snd.snd.snd.snd.fst, x.snd.snd.snd.snd.snd.fst,
                List.take x.fst (List.drop (0 : Nat) x.snd.snd.snd.snd.snd.snd.fst) ++ List.take y47.fst (List.drop (0 : Nat) y47.snd.fst),
                ())).bind
          fun y46 => some (y46.fst, y46.snd.fst, ())
      else none
    else none
  else none
theorem j13_25_run0 (v0 : Nat) (v1 : Int) (v2 : Int) (v3 : Int) (v4 : Bool) (v5 : List Bm) (v6 : List Int) : pieceK tC G13 (look [(0, W13_0)]) c13_25 p13_25 (v0, v1, v2, v3, v4, v5, v6, ()) = j13_25 (v0, v1, v2, v3, v4, v5, v6, ()) := by kernel_rfl
theorem j13_25_run (x : Nat × Int × Int × Int × Bool × List Bm × List Int × Unit) : pieceK tC G13 (look [(0, W13_0)]) c13_25 p13_25 x = j13_25 x := j13_25_run0 x.1 x.2.1 x.2.2.1 x.2.2.2.1 x.2.2.2.2.1 x.2.2.2.2.2.1 x.2.2.2.2.2.2.1
noncomputable def W13_25 : LF tC := cutLF tC p13_25 j13_25
theorem W13_25_ok : keyed 25 (bodyOf Try.f13) = [c13_25] ∧ ∀ n, n ≤ 0 → Snd tC n c13_25 W13_25.k := ⟨by kernel_rfl, fun n hn => cut_ok (p := p13_25) Y13 (lam_le (lam_cons W13_0_ok lam_nil) n hn) hn j13_25_run⟩
def S13 : FS := ⟨[[.v, .v, .v, .v, .s 46]], [⟨[.one (.agg [.int .i64, .int .i64, .int .i64, .bool, .imm 46])], []⟩], [⟨[.one (.one (.him 5))], []⟩], [[.h 5]], []⟩
noncomputable def f13 (x : Int × Int × Int × Bool × List Bm × Unit) : Option (List Int × Unit) :=
  bif !f43 x.snd.fst x.snd.snd.fst then some ([], ())
else
  (f44 (x.snd.snd.snd.snd.fst, ())).bind fun y58 =>
    bif !y58.fst then some ([], ())
    else
      bif decide (x.fst < (0 : Int)) then some ([], ())
      else
        bif decide (x.fst > (1099511627776 : Int)) then some ([], ())
        else
          (f45 (x.fst, ())).bind fun y57 =>
            (f45 (x.snd.fst, ())).bind fun y56 =>
              bif decide ((0 : Nat) + y56.fst ≤ y56.snd.fst.length) then
                bif decide ((0 : Nat) + y57.fst ≤ y57.snd.fst.length) then
                  bif roomy (y57.fst + (List.take y56.fst (List.drop (0 : Nat) y56.snd.fst)).length) (1 : Nat) then
                    (f45 (x.snd.snd.fst, ())).bind fun y55 =>
                      bif decide ((0 : Nat) + y55.fst ≤ y55.snd.fst.length) then
                        bif
                            decide
                              ((0 : Nat) + (y57.fst + (List.take y56.fst (List.drop (0 : Nat) y56.snd.fst)).length) ≤
                                (List.take y57.fst (List.drop (0 : Nat) y57.snd.fst) ++
                                    List.take y56.fst (List.drop (0 : Nat) y56.snd.fst)).length) then
                          bif
                              roomy
                                (y57.fst + (List.take y56.fst (List.drop (0 : Nat) y56.snd.fst)).length +
                                  (List.take y55.fst (List.drop (0 : Nat) y55.snd.fst)).length)
                                (1 : Nat) then
                            bif x.snd.snd.snd.fst then
                              bif
                                  decide
                                    ((0 : Nat) +
                                        (y57.fst + (List.take y56.fst (List.drop (0 : Nat) y56.snd.fst)).length +
                                          (List.take y55.fst (List.drop (0 : Nat) y55.snd.fst)).length) ≤
                                      (List.take (y57.fst + (List.take y56.fst (List.drop (0 : Nat) y56.snd.fst)).length)
                                            (List.drop (0 : Nat)
                                              (List.take y57.fst (List.drop (0 : Nat) y57.snd.fst) ++
                                                List.take y56.fst (List.drop (0 : Nat) y56.snd.fst))) ++
                                          List.take y55.fst (List.drop (0 : Nat) y55.snd.fst)).length) then
                                bif
                                    roomy
                                      (y57.fst + (List.take y56.fst (List.drop (0 : Nat) y56.snd.fst)).length +
                                          (List.take y55.fst (List.drop (0 : Nat) y55.snd.fst)).length +
                                        (1 : Nat))
                                      (1 : Nat) then
                                  (j13_25
                                        (y57.fst + (List.take y56.fst (List.drop (0 : Nat) y56.snd.fst)).length +
                                              (List.take y55.fst (List.drop (0 : Nat) y55.snd.fst)).length +
                                            (1 : Nat),
                                          x.fst, x.snd.fst, x.snd.snd.fst, x.snd.snd.snd.fst, x.snd.snd.snd.snd.fst,
                                          List.take
                                              (y57.fst + (List.take y56.fst (List.drop (0 : Nat) y56.snd.fst)).length +
                                                (List.take y55.fst (List.drop (0 : Nat) y55.snd.fst)).length)
                                              (List.drop (0 : Nat)
                                                (List.take (y57.fst + (List.take y56.fst (List.drop (0 : Nat) y56.snd.fst)).length)
                                                    (List.drop (0 : Nat)
                                                      (List.take y57.fst (List.drop (0 : Nat) y57.snd.fst) ++
                                                        List.take y56.fst (List.drop (0 : Nat) y56.snd.fst))) ++
                                                  List.take y55.fst (List.drop (0 : Nat) y55.snd.fst))) ++
                                            [(1 : Int)],
                                          ())).bind
                                    fun y53 =>
                                    bif decide ((0 : Nat) + y53.fst ≤ y53.snd.fst.length) then
                                      some (List.take y53.fst (List.drop (0 : Nat) y53.snd.fst), ())
                                    else none
                                else none
                              else none
                            else
                              bif
                                  decide
                                    ((0 : Nat) +
                                        (y57.fst + (List.take y56.fst (List.drop (0 : Nat) y56.snd.fst)).length +
                                          (List.take y55.fst (List.drop (0 : Nat) y55.snd.fst)).length) ≤
                                      (List.take (y57.fst + (List.take y56.fst (List.drop (0 : Nat) y56.snd.fst)).length)
                                            (List.drop (0 : Nat)
                                              (List.take y57.fst (List.drop (0 : Nat) y57.snd.fst) ++
                                                List.take y56.fst (List.drop (0 : Nat) y56.snd.fst))) ++
                                          List.take y55.fst (List.drop (0 : Nat) y55.snd.fst)).length) then
                                bif
                                    roomy
                                      (y57.fst + (List.take y56.fst (List.drop (0 : Nat) y56.snd.fst)).length +
                                          (List.take y55.fst (List.drop (0 : Nat) y55.snd.fst)).length +
                                        (1 : Nat))
                                      (1 : Nat) then
                                  (j13_25
                                        (y57.fst + (List.take y56.fst (List.drop (0 : Nat) y56.snd.fst)).length +
                                              (List.take y55.fst (List.drop (0 : Nat) y55.snd.fst)).length +
                                            (1 : Nat),
                                          x.fst, x.snd.fst, x.snd.snd.fst, x.snd.snd.snd.fst, x.snd.snd.snd.snd.fst,
                                          List.take
                                              (y57.fst + (List.take y56.fst (List.drop (0 : Nat) y56.snd.fst)).length +
                                                (List.take y55.fst (List.drop (0 : Nat) y55.snd.fst)).length)
                                              (List.drop (0 : Nat)
                                                (List.take (y57.fst + (List.take y56.fst (List.drop (0 : Nat) y56.snd.fst)).length)
                                                    (List.drop (0 : Nat)
                                                      (List.take y57.fst (List.drop (0 : Nat) y57.snd.fst) ++
                                                        List.take y56.fst (List.drop (0 : Nat) y56.snd.fst))) ++
                                                  List.take y55.fst (List.drop (0 : Nat) y55.snd.fst))) ++
                                            [(0 : Int)],
                                          ())).bind
                                    fun y54 =>
                                    bif decide ((0 : Nat) + y54.fst ≤ y54.snd.fst.length) then
                                      some (List.take y54.fst (List.drop (0 : Nat) y54.snd.fst), ())
                                    else none
                                else none
                              else none
                          else none
                        else none
                      else none
                  else none
                else none
              else none
noncomputable def F13 : CF tC := mkF tC S13 f13
theorem f13_run : ∀ a, fnS tC G13 (look [(25, W13_25)]) Try.f13 S13 a = f13 a := fun a => by kernel_rfl
theorem F13_ok : CFOK tC 13 F13 := mkF_ok Y13 (fn := Try.f13) (body := bodyOf Try.f13) (by kernel_rfl) (by kernel_rfl) (by kernel_rfl) (m := 0) rfl (lam_le (lam_cons W13_25_ok lam_nil)) f13_run

/-! ref.small -/
noncomputable def G52 : FuncId → Option (CF tC) := look [(72, F72)]
theorem Y52 : SysN tC G52 := (sys_cons F72_ok (mkF_nat _ _) (sys_nil tC_ok tC_eq))
def S52 : FS := ⟨[[.s 5], [.v], [.v]], [⟨[.one (.one (.imm 5)), .one (.one (.int .u64)), vI], []⟩], [⟨[.tup [.one (.int .i64), .one (.imm 5), .one (.int .i64)]], []⟩], [[.v], [.s 5], [.v]], []⟩
noncomputable def f52 (x : List Int × Int × Int × Unit) : Option (Int × List Int × Int × Unit) :=
  (f72 (x.fst, ())).bind fun y10 =>
  bif y10.snd.snd.fst != (0 : Int) then some ((0 : Int), [], y10.snd.snd.fst, ())
  else
    bif decide (y10.fst > x.snd.fst) then some ((0 : Int), [], x.snd.snd.fst, ())
    else some (IntKind.i64.wrap y10.fst, y10.snd.fst, (0 : Int), ())
noncomputable def F52 : CF tC := mkF tC S52 f52
theorem f52_run : ∀ a, fnS tC G52 (look []) Try.f52 S52 a = f52 a := fun a => by kernel_rfl
theorem F52_ok : CFOK tC 52 F52 := mkF_ok Y52 (fn := Try.f52) (body := bodyOf Try.f52) (by kernel_rfl) (by kernel_rfl) (by kernel_rfl) (m := 0) rfl (lam_le lam_nil) f52_run

/-! ref.Decode -/
noncomputable def G17 : FuncId → Option (CF tC) := look [(51, F51), (52, F52), (43, F43), (44, F44)]
theorem Y17 : SysN tC G17 := (sys_cons F51_ok (mkF_nat _ _) (sys_cons F52_ok (mkF_nat _ _) (sys_cons F43_ok (mkF_nat _ _) (sys_cons F44_ok (mkF_nat _ _) (sys_nil tC_ok tC_eq)))))
noncomputable def c17_0 : Code := loopOf (bodyOf Try.f17) 0
def p17_0 : LS := ⟨0, [2, 4, 6, 7, 8], ⟨[vB, vB, .one (.one (.ptr 0 0 0)), vB, .one (.one (.ptr 1 0 0)), vB, .one (.one (.imm 5)), vI, vI] ++ vBs 122, [.box [.int .i64, .int .i64, .int .i64, .bool, .nils], .box [.int .i64, .int .i64, .int .i64, .bool, .sl 2], .arr 46]⟩, [⟨.ret, [2, 3], ⟨[vB, vB, .one (.one (.ptr 0 0 0)), vI] ++ vBs 127, [.box [.int .i64, .int .i64, .int .i64, .bool, .nils]]⟩, []⟩, ⟨.exit 0, [2, 4, 6], ⟨[vB, vB, .one (.one (.ptr 0 0 0)), vB, .one (.one (.ptr 1 0 0)), vB, .one (.one (.imm 5))] ++ vBs 124, [.box [.int .i64, .int .i64, .int .i64, .bool, .nils], .box [.int .i64, .int .i64, .int .i64, .bool, .sl 2], .arr 46]⟩, []⟩], [(2004004, 46)]⟩
noncomputable def r17_0 (x : List Int × Int × Int × Int × Int × Int × Bool × Int × Int × Int × Bool × Nat × List Bm × Unit) : Option
  (List Int × Int × Int × Int × Int × Int × Bool × Int × Int × Int × Bool × Nat × List Bm × Unit ⊕
    Int × Int × Int × Int × Bool × Unit ⊕ List Int × Int × Int × Int × Bool × Int × Int × Int × Bool × Nat × List Bm × Unit) :=
  bif decide (x.snd.snd.fst < x.snd.fst) then
  (f52 (x.fst, (4294967296 : Int), (2 : Int), ())).bind fun y69 =>
    bif y69.snd.snd.fst != (0 : Int) then some (Sum.inr (Sum.inl (y69.snd.snd.fst, (0 : Int), (0 : Int), (0 : Int), false, ())))
    else
      (f52 (y69.snd.fst, (4294967296 : Int), (2 : Int), ())).bind fun y68 =>
        bif y68.snd.snd.fst != (0 : Int) then some (Sum.inr (Sum.inl (y68.snd.snd.fst, (0 : Int), (0 : Int), (0 : Int), false, ())))
        else
          bif
              decide
                ((0 : Nat) + x.snd.snd.snd.snd.snd.snd.snd.snd.snd.snd.snd.fst ≤
                  x.snd.snd.snd.snd.snd.snd.snd.snd.snd.snd.snd.snd.fst.length) then
            bif roomy (x.snd.snd.snd.snd.snd.snd.snd.snd.snd.snd.snd.fst + (1 : Nat)) (16 : Nat) then
              some
                (Sum.inl
                  (y68.snd.fst, x.snd.fst, IntKind.i64.wrap (x.snd.snd.fst + (1 : Int)), x.snd.snd.snd.fst, x.snd.snd.snd.snd.fst,
                    x.snd.snd.snd.snd.snd.fst, x.snd.snd.snd.snd.snd.snd.fst, x.snd.snd.snd.snd.snd.snd.snd.fst,
                    x.snd.snd.snd.snd.snd.snd.snd.snd.fst, x.snd.snd.snd.snd.snd.snd.snd.snd.snd.fst,
                    x.snd.snd.snd.snd.snd.snd.snd.snd.snd.snd.fst, x.snd.snd.snd.snd.snd.snd.snd.snd.snd.snd.snd.fst + (1 : Nat),
                    List.take x.snd.snd.snd.snd.snd.snd.snd.snd.snd.snd.snd.fst
                        (List.drop (0 : Nat) x.snd.snd.snd.snd.snd.snd.snd.snd.snd.snd.snd.snd.fst) ++
                      [Bm.mk y69.fst (IntKind.i64.wrap (y68.fst - (1 : Int)))],
                    ()))
            else none
          else none
else
  some
    (Sum.inr
      (Sum.inr
        (x.fst, x.snd.snd.snd.fst, x.snd.snd.snd.snd.fst, x.snd.snd.snd.snd.snd.fst, x.snd.snd.snd.snd.snd.snd.fst,
          x.snd.snd.snd.snd.snd.snd.snd.fst, x.snd.snd.snd.snd.snd.snd.snd.snd.fst, x.snd.snd.snd.snd.snd.snd.snd.snd.snd.fst,
          x.snd.snd.snd.snd.snd.snd.snd.snd.snd.snd.fst, x.snd.snd.snd.snd.snd.snd.snd.snd.snd.snd.snd.fst,
          x.snd.snd.snd.snd.snd.snd.snd.snd.snd.snd.snd.snd.fst, ())))
theorem r17_0_run0 (v0 : List Int) (v1 : Int) (v2 : Int) (v3 : Int) (v4 : Int) (v5 : Int) (v6 : Bool) (v7 : Int) (v8 : Int) (v9 : Int) (v10 : Bool) (v11 : Nat) (v12 : List Bm) : roundK tC G17 (look []) c17_0 p17_0 (v0, v1, v2, v3, v4, v5, v6, v7, v8, v9, v10, v11, v12, ()) = r17_0 (v0, v1, v2, v3, v4, v5, v6, v7, v8, v9, v10, v11, v12, ()) := by kernel_rfl
theorem r17_0_run (x : List Int × Int × Int × Int × Int × Int × Bool × Int × Int × Int × Bool × Nat × List Bm × Unit) : roundK tC G17 (look []) c17_0 p17_0 x = r17_0 x := r17_0_run0 x.1 x.2.1 x.2.2.1 x.2.2.2.1 x.2.2.2.2.1 x.2.2.2.2.2.1 x.2.2.2.2.2.2.1 x.2.2.2.2.2.2.2.1 x.2.2.2.2.2.2.2.2.1 x.2.2.2.2.2.2.2.2.2.1 x.2.2.2.2.2.2.2.2.2.2.1 x.2.2.2.2.2.2.2.2.2.2.2.1 x.2.2.2.2.2.2.2.2.2.2.2.2.1
noncomputable def l17_0 (x : List Int × Int × Int × Int × Int × Int × Bool × Int × Int × Int × Bool × Nat × List Bm × Unit) : Option (Int × Int × Int × Int × Bool × Unit ⊕ List Int × Int × Int × Int × Bool × Int × Int × Int × Bool × Nat × List Bm × Unit) := iterO r17_0 x
noncomputable def W17_0 : LF tC := loopW tC p17_0 0 l17_0
theorem W17_0_ok : keyed 0 (bodyOf Try.f17) = [.block 0 (.loop c17_0)] ∧ ∀ n, n ≤ 0 → Snd tC n (.block 0 (.loop c17_0)) W17_0.k := ⟨by kernel_rfl, fun n hn => loopW_ok (p := p17_0) (id := 0) Y17 (lam_le lam_nil n hn) hn r17_0_run⟩
def S17 : FS := ⟨[[.s 5]], [⟨[.one (.one (.imm 5))], []⟩], [⟨[.tup [.agg [.int .i64, .int .i64, .int .i64, .bool, .him 46], .one (.int .i64)]], []⟩], [[.v, .v, .v, .v, .h 46], [.v]], []⟩
noncomputable def f17 (x : List Int × Unit) : Option (Int × Int × Int × Bool × List Bm × Int × Unit) :=
  (f51 (x.fst, ())).bind fun y102 =>
  bif y102.snd.snd.fst != (0 : Int) then some ((0 : Int), (0 : Int), (0 : Int), false, [], y102.snd.snd.fst, ())
  else
    bif decide (y102.fst < (0 : Int)) then some ((0 : Int), (0 : Int), (0 : Int), false, [], (2 : Int), ())
    else
      bif decide (y102.fst > (1099511627776 : Int)) then some ((0 : Int), (0 : Int), (0 : Int), false, [], (2 : Int), ())
      else
        (f51 (y102.snd.fst, ())).bind fun y101 =>
          bif y101.snd.snd.fst != (0 : Int) then some ((0 : Int), (0 : Int), (0 : Int), false, [], y101.snd.snd.fst, ())
          else
            (f51 (y101.snd.fst, ())).bind fun y100 =>
              bif y100.snd.snd.fst != (0 : Int) then some ((0 : Int), (0 : Int), (0 : Int), false, [], y100.snd.snd.fst, ())
              else
                bif (↑y100.snd.fst.length : Int) == (0 : Int) then some ((0 : Int), (0 : Int), (0 : Int), false, [], (4 : Int), ())
                else
                  (idxO y100.snd.fst (0 : Int)).bind fun y99 =>
                    bif decide (y99 > (1 : Int)) then some ((0 : Int), (0 : Int), (0 : Int), false, [], (3 : Int), ())
                    else
                      (idxO y100.snd.fst (0 : Int)).bind fun y98 =>
                        bif
                            true && decide ((1 : Int) ≤ (↑y100.snd.fst.length : Int)) &&
                                decide ((↑y100.snd.fst.length : Int) ≤ (↑y100.snd.fst.length : Int)) &&
                              decide ((↑y100.snd.fst.length : Int) ≤ (↑y100.snd.fst.length : Int)) then
                          (f52
                                (List.drop (1 : Nat) (List.take (↑y100.snd.fst.length : Int).toNat y100.snd.fst), (32 : Int), (6 : Int),
                                  ())).bind
                            fun y97 =>
                            bif y97.snd.snd.fst != (0 : Int) then some ((0 : Int), (0 : Int), (0 : Int), false, [], y97.snd.snd.fst, ())
                            else
                              (l17_0
                                    (y97.snd.fst, y97.fst, (0 : Int), (0 : Int), (0 : Int), (0 : Int), false, y102.fst, y101.fst, y100.fst,
                                      y98 == (1 : Int), (0 : Nat), [], ())).bind
                                fun y96 =>
                                Sum.elim
                                  (fun y93 =>
                                    some (y93.snd.fst, y93.snd.snd.fst, y93.snd.snd.snd.fst, y93.snd.snd.snd.snd.fst, [], y93.fst, ()))
                                  (fun y95 =>
                                    bif decide ((↑y95.fst.length : Int) > (0 : Int)) then
                                      some ((0 : Int), (0 : Int), (0 : Int), false, [], (3 : Int), ())
                                    else
                                      bif !f43 y95.snd.snd.snd.snd.snd.snd.fst y95.snd.snd.snd.snd.snd.snd.snd.fst then
                                        some ((0 : Int), (0 : Int), (0 : Int), false, [], (1 : Int), ())
                                      else
                                        bif
                                            decide
                                              ((0 : Nat) + y95.snd.snd.snd.snd.snd.snd.snd.snd.snd.fst ≤
                                                y95.snd.snd.snd.snd.snd.snd.snd.snd.snd.snd.fst.length) then
                                          (f44
                                                (List.take y95.snd.snd.snd.snd.snd.snd.snd.snd.snd.fst
                                                    (List.drop (0 : Nat) y95.snd.snd.snd.snd.snd.snd.snd.snd.snd.snd.fst),
                                                  ())).bind
                                            fun y94 =>
                                            bif !y94.fst then some ((0 : Int), (0 : Int), (0 : Int), false, [], (1 : Int), ())
                                            else
                                              bif
                                                  decide
                                                    ((0 : Nat) + y95.snd.snd.snd.snd.snd.snd.snd.snd.snd.fst ≤
                                                      y95.snd.snd.snd.snd.snd.snd.snd.snd.snd.snd.fst.length) then
                                                some
                                                  (y95.snd.snd.snd.snd.snd.fst, y95.snd.snd.snd.snd.snd.snd.fst,
                                                    y95.snd.snd.snd.snd.snd.snd.snd.fst, y95.snd.snd.snd.snd.snd.snd.snd.snd.fst,
                                                    List.take y95.snd.snd.snd.snd.snd.snd.snd.snd.snd.fst
                                                      (List.drop (0 : Nat) y95.snd.snd.snd.snd.snd.snd.snd.snd.snd.snd.fst),
                                                    (0 : Int), ())
                                              else none
                                        else none)
                                  y96
                        else none
noncomputable def F17 : CF tC := mkF tC S17 f17
theorem f17_run : ∀ a, fnS tC G17 (look [(0, W17_0)]) Try.f17 S17 a = f17 a := fun a => by kernel_rfl
theorem F17_ok : CFOK tC 17 F17 := mkF_ok Y17 (fn := Try.f17) (body := bodyOf Try.f17) (by kernel_rfl) (by kernel_rfl) (by kernel_rfl) (m := 0) rfl (lam_le (lam_cons W17_0_ok lam_nil)) f17_run

/-! base.Beams -/
noncomputable def G50 : FuncId → Option (CF tC) := look []
theorem Y50 : SysN tC G50 := (sys_nil tC_ok tC_eq)
noncomputable def c50_0 : Code := loopOf (bodyOf Try.f50) 0
def p50_0 : LS := ⟨0, [0, 1, 5], ⟨[.one (.one (.imm 46)), .one (.one (.imm 46)), vB, vB, vB, vI] ++ vBs 20, []⟩, [⟨.ret, [4], ⟨vBs 4 ++ [vO] ++ vBs 21, []⟩, []⟩, ⟨.exit 0, [], ⟨vBs 26, []⟩, []⟩], []⟩
noncomputable def r50_0 (x : List Bm × List Bm × Int × Unit) : Option (List Bm × List Bm × Int × Unit ⊕ Bool × Unit ⊕ Unit) :=
  bif decide (x.snd.snd.fst < (↑x.fst.length : Int)) then
  (idxO x.fst x.snd.snd.fst).bind fun y10 =>
    (idxO x.snd.fst x.snd.snd.fst).bind fun y9 =>
      bif !bif y10.M == y9.M then bif y10.R == y9.R then true else false else false then some (Sum.inr (Sum.inl (false, ())))
      else some (Sum.inl (x.fst, x.snd.fst, IntKind.i64.wrap (x.snd.snd.fst + (1 : Int)), ()))
else some (Sum.inr (Sum.inr ()))
theorem r50_0_run0 (v0 : List Bm) (v1 : List Bm) (v2 : Int) : roundK tC G50 (look []) c50_0 p50_0 (v0, v1, v2, ()) = r50_0 (v0, v1, v2, ()) := by kernel_rfl
theorem r50_0_run (x : List Bm × List Bm × Int × Unit) : roundK tC G50 (look []) c50_0 p50_0 x = r50_0 x := r50_0_run0 x.1 x.2.1 x.2.2.1
noncomputable def l50_0 (x : List Bm × List Bm × Int × Unit) : Option (Bool × Unit ⊕ Unit) := iterO r50_0 x
noncomputable def W50_0 : LF tC := loopW tC p50_0 0 l50_0
theorem W50_0_ok : keyed 0 (bodyOf Try.f50) = [.block 0 (.loop c50_0)] ∧ ∀ n, n ≤ 0 → Snd tC n (.block 0 (.loop c50_0)) W50_0.k := ⟨by kernel_rfl, fun n hn => loopW_ok (p := p50_0) (id := 0) Y50 (lam_le lam_nil n hn) hn r50_0_run⟩
def S50 : FS := ⟨[[.s 46], [.s 46]], [⟨[.one (.one (.imm 46)), .one (.one (.imm 46))], []⟩], [⟨[vO], []⟩], [[.v]], []⟩
noncomputable def f50 (x : List Bm × List Bm × Unit) : Option (Bool × Unit) :=
  bif (↑x.fst.length : Int) != (↑x.snd.fst.length : Int) then some (false, ())
else (l50_0 (x.fst, x.snd.fst, (0 : Int), ())).bind fun y15 => Sum.elim (fun y13 => some (y13.fst, ())) (fun _x => some (true, ())) y15
noncomputable def F50 : CF tC := mkF tC S50 f50
theorem f50_run : ∀ a, fnS tC G50 (look [(0, W50_0)]) Try.f50 S50 a = f50 a := fun a => by kernel_rfl
theorem F50_ok : CFOK tC 50 F50 := mkF_ok Y50 (fn := Try.f50) (body := bodyOf Try.f50) (by kernel_rfl) (by kernel_rfl) (by kernel_rfl) (m := 0) rfl (lam_le (lam_cons W50_0_ok lam_nil)) f50_run

/-! base.Event -/
noncomputable def G16 : FuncId → Option (CF tC) := look [(50, F50)]
theorem Y16 : SysN tC G16 := (sys_cons F50_ok (mkF_nat _ _) (sys_nil tC_ok tC_eq))
def S16 : FS := ⟨[[.v, .v, .v, .v, .s 46], [.v, .v, .v, .v, .s 46]], [⟨[.one (.agg [.int .i64, .int .i64, .int .i64, .bool, .imm 46]), .one (.agg [.int .i64, .int .i64, .int .i64, .bool, .imm 46])], []⟩], [⟨[vO], []⟩], [[.v]], []⟩
noncomputable def f16 (x : Int × Int × Int × Bool × List Bm × Int × Int × Int × Bool × List Bm × Unit) : Option (Bool × Unit) :=
  bif x.fst == x.snd.snd.snd.snd.snd.fst then
  bif
      bif x.snd.fst == x.snd.snd.snd.snd.snd.snd.fst then bif x.snd.snd.fst == x.snd.snd.snd.snd.snd.snd.snd.fst then true else false
      else false then
    bif x.snd.snd.snd.fst == x.snd.snd.snd.snd.snd.snd.snd.snd.fst then
      (f50 (x.snd.snd.snd.snd.fst, x.snd.snd.snd.snd.snd.snd.snd.snd.snd.fst, ())).bind fun y13 => some (y13.fst, ())
    else some (false, ())
  else some (false, ())
else some (false, ())
noncomputable def F16 : CF tC := mkF tC S16 f16
theorem f16_run : ∀ a, fnS tC G16 (look []) Try.f16 S16 a = f16 a := fun a => by kernel_rfl
theorem F16_ok : CFOK tC 16 F16 := mkF_ok Y16 (fn := Try.f16) (body := bodyOf Try.f16) (by kernel_rfl) (by kernel_rfl) (by kernel_rfl) (m := 0) rfl (lam_le lam_nil) f16_run

/-! base.Events -/
noncomputable def G31 : FuncId → Option (CF tC) := look [(16, F16)]
theorem Y31 : SysN tC G31 := (sys_cons F16_ok (mkF_nat _ _) (sys_nil tC_ok tC_eq))
noncomputable def c31_0 : Code := loopOf (bodyOf Try.f31) 0
def p31_0 : LS := ⟨0, [0, 1, 5], ⟨[.one (.one (.imm 26)), .one (.one (.imm 26)), vB, vB, vB, vI] ++ vBs 21, []⟩, [⟨.ret, [4], ⟨vBs 4 ++ [vO] ++ vBs 22, []⟩, []⟩, ⟨.exit 0, [], ⟨vBs 27, []⟩, []⟩], []⟩
noncomputable def r31_0 (x : List Ev × List Ev × Int × Unit) : Option (List Ev × List Ev × Int × Unit ⊕ Bool × Unit ⊕ Unit) :=
  bif decide (x.snd.snd.fst < (↑x.fst.length : Int)) then
  (idxO x.fst x.snd.snd.fst).bind fun y12 =>
    (idxO x.snd.fst x.snd.snd.fst).bind fun y11 =>
      (f16 (y12.T, y12.U, y12.F, y12.B, y12.S, y11.T, y11.U, y11.F, y11.B, y11.S, ())).bind fun y10 =>
        bif !y10.fst then some (Sum.inr (Sum.inl (false, ())))
        else some (Sum.inl (x.fst, x.snd.fst, IntKind.i64.wrap (x.snd.snd.fst + (1 : Int)), ()))
else some (Sum.inr (Sum.inr ()))
theorem r31_0_run0 (v0 : List Ev) (v1 : List Ev) (v2 : Int) : roundK tC G31 (look []) c31_0 p31_0 (v0, v1, v2, ()) = r31_0 (v0, v1, v2, ()) := by kernel_rfl
theorem r31_0_run (x : List Ev × List Ev × Int × Unit) : roundK tC G31 (look []) c31_0 p31_0 x = r31_0 x := r31_0_run0 x.1 x.2.1 x.2.2.1
noncomputable def l31_0 (x : List Ev × List Ev × Int × Unit) : Option (Bool × Unit ⊕ Unit) := iterO r31_0 x
noncomputable def W31_0 : LF tC := loopW tC p31_0 0 l31_0
theorem W31_0_ok : keyed 0 (bodyOf Try.f31) = [.block 0 (.loop c31_0)] ∧ ∀ n, n ≤ 0 → Snd tC n (.block 0 (.loop c31_0)) W31_0.k := ⟨by kernel_rfl, fun n hn => loopW_ok (p := p31_0) (id := 0) Y31 (lam_le lam_nil n hn) hn r31_0_run⟩
def S31 : FS := ⟨[[.s 26], [.s 26]], [⟨[.one (.one (.imm 26)), .one (.one (.imm 26))], []⟩], [⟨[vO], []⟩], [[.v]], []⟩
noncomputable def f31 (x : List Ev × List Ev × Unit) : Option (Bool × Unit) :=
  bif (↑x.fst.length : Int) != (↑x.snd.fst.length : Int) then some (false, ())
else (l31_0 (x.fst, x.snd.fst, (0 : Int), ())).bind fun y17 => Sum.elim (fun y15 => some (y15.fst, ())) (fun _x => some (true, ())) y17
noncomputable def F31 : CF tC := mkF tC S31 f31
theorem f31_run : ∀ a, fnS tC G31 (look [(0, W31_0)]) Try.f31 S31 a = f31 a := fun a => by kernel_rfl
theorem F31_ok : CFOK tC 31 F31 := mkF_ok Y31 (fn := Try.f31) (body := bodyOf Try.f31) (by kernel_rfl) (by kernel_rfl) (by kernel_rfl) (m := 0) rfl (lam_le (lam_cons W31_0_ok lam_nil)) f31_run

/-! few -/
noncomputable def G18 : FuncId → Option (CF tC) := look []
theorem Y18 : SysN tC G18 := (sys_nil tC_ok tC_eq)
noncomputable def c18_0 : Code := loopOf (bodyOf Try.f18) 0
def p18_0 : LS := ⟨0, [0, 3, 4], ⟨[.one (.one (.imm 26)), vB, vB, vI, vI] ++ vBs 26, []⟩, [⟨.exit 0, [0, 3], ⟨[.one (.one (.imm 26)), vB, vB, vI] ++ vBs 27, []⟩, []⟩], []⟩
noncomputable def r18_0 (x : List Ev × Int × Int × Unit) : Option (List Ev × Int × Int × Unit ⊕ List Ev × Int × Unit) :=
  bif decide (x.snd.snd.fst < (↑x.fst.length : Int)) then
  bif decide (x.snd.snd.fst < (200 : Int)) then
    (idxO x.fst x.snd.snd.fst).bind fun y8 =>
      some
        (Sum.inl
          (x.fst,
            IntKind.i64.wrap (x.snd.fst + bif decide ((1000 : Int) < (↑y8.S.length : Int)) then (1000 : Int) else (↑y8.S.length : Int)),
            IntKind.i64.wrap (x.snd.snd.fst + (1 : Int)), ()))
  else some (Sum.inr (x.fst, x.snd.fst, ()))
else some (Sum.inr (x.fst, x.snd.fst, ()))
theorem r18_0_run0 (v0 : List Ev) (v1 : Int) (v2 : Int) : roundK tC G18 (look []) c18_0 p18_0 (v0, v1, v2, ()) = r18_0 (v0, v1, v2, ()) := by kernel_rfl
theorem r18_0_run (x : List Ev × Int × Int × Unit) : roundK tC G18 (look []) c18_0 p18_0 x = r18_0 x := r18_0_run0 x.1 x.2.1 x.2.2.1
noncomputable def l18_0 (x : List Ev × Int × Int × Unit) : Option (List Ev × Int × Unit) := iterO r18_0 x
noncomputable def W18_0 : LF tC := loopW tC p18_0 0 l18_0
theorem W18_0_ok : keyed 0 (bodyOf Try.f18) = [.block 0 (.loop c18_0)] ∧ ∀ n, n ≤ 0 → Snd tC n (.block 0 (.loop c18_0)) W18_0.k := ⟨by kernel_rfl, fun n hn => loopW_ok (p := p18_0) (id := 0) Y18 (lam_le lam_nil n hn) hn r18_0_run⟩
def S18 : FS := ⟨[[.s 26]], [⟨[.one (.one (.imm 26))], []⟩], [⟨[vO], []⟩], [[.v]], []⟩
noncomputable def f18 (x : List Ev × Unit) : Option (Bool × Unit) :=
  (l18_0 (x.fst, (0 : Int), (0 : Int), ())).bind fun y12 =>
  bif decide ((↑y12.fst.length : Int) ≤ (60 : Int)) then some (decide (y12.snd.fst ≤ (500 : Int)), ()) else some (false, ())
noncomputable def F18 : CF tC := mkF tC S18 f18
theorem f18_run : ∀ a, fnS tC G18 (look [(0, W18_0)]) Try.f18 S18 a = f18 a := fun a => by kernel_rfl
theorem F18_ok : CFOK tC 18 F18 := mkF_ok Y18 (fn := Try.f18) (body := bodyOf Try.f18) (by kernel_rfl) (by kernel_rfl) (by kernel_rfl) (m := 0) rfl (lam_le (lam_cons W18_0_ok lam_nil)) f18_run

/-! law.clone -/
noncomputable def G21 : FuncId → Option (CF tC) := look []
theorem Y21 : SysN tC G21 := (sys_nil tC_ok tC_eq)
def S21 : FS := ⟨[[.v, .v, .v, .v, .s 46]], [⟨[.one (.agg [.int .i64, .int .i64, .int .i64, .bool, .imm 46])], []⟩], [⟨[.one (.agg [.int .i64, .int .i64, .int .i64, .bool, .sl 0])], [.arr 46]⟩], [[.v, .v, .v, .v, .v]], []⟩
noncomputable def f21 (x : Int × Int × Int × Bool × List Bm × Unit) : Option (Int × Int × Int × Bool × Nat × List Bm × Unit) :=
  bif roomy ((0 : Nat) + x.snd.snd.snd.snd.fst.length) (16 : Nat) then
  some (x.fst, x.snd.fst, x.snd.snd.fst, x.snd.snd.snd.fst, (0 : Nat) + x.snd.snd.snd.snd.fst.length, [] ++ x.snd.snd.snd.snd.fst, ())
else none
noncomputable def F21 : CF tC := mkF tC S21 f21
theorem f21_run : ∀ a, fnS tC G21 (look []) Try.f21 S21 a = f21 a := fun a => by kernel_rfl
theorem F21_ok : CFOK tC 21 F21 := mkF_ok Y21 (fn := Try.f21) (body := bodyOf Try.f21) (by kernel_rfl) (by kernel_rfl) (by kernel_rfl) (m := 0) rfl (lam_le lam_nil) f21_run
end Go.AE
