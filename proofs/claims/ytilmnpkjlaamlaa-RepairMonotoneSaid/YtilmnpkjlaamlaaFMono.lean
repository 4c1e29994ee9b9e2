/-
  The plain functions that the seat's Go functions compute, each with the proof that the function keeps it. Printed by the generator (Gen2) and checked by the kernel.
-/
import Derived.Test.YtilmnpkjlaamlaaFb
namespace Go.AE
open Go.Proofs Go.RowKit
set_option maxRecDepth 100000

/-! RepairMonotone -/
noncomputable def G4 : FuncId → Option (CF tC) := look [(9, F9), (20, F20), (10, F10), (11, F11), (21, F21), (14, F14), (16, F16)]
theorem Y4 : SysN tC G4 := (sys_cons F9_ok (mkF_nat _ _) (sys_cons F20_ok (mkF_nat _ _) (sys_cons F10_ok (mkF_nat _ _) (sys_cons F11_ok (mkF_nat _ _) (sys_cons F21_ok (mkF_nat _ _) (sys_cons F14_ok (mkF_nat _ _) (sys_cons F16_ok (mkF_nat _ _) (sys_nil tC_ok tC_eq))))))))
noncomputable def c4_6 : Code := loopOf (loopOf (bodyOf Try.f4) 0) 2
def p4_6 : LS := ⟨0, [2, 3, 7, 9, 10, 11], ⟨[vB, vB, .one (.one (.imm 47)), .one (.one (.ptr 0 0 0)), vB, vB, vB, .one (.one (.ptr 1 0 0)), vB, vI, .one (.one (.sl 2)), vI] ++ vBs 128, [.box [.int .i64, .int .i64, .imm 5], .box [.int .i64, .int .i64, .sl 3, .int .i64, .int .i64, .sl 4], .arr 3, .arr 5, .arr 3]⟩, [⟨.exit 2, [2, 3, 7, 9, 10], ⟨[vB, vB, .one (.one (.imm 47)), .one (.one (.ptr 0 0 0)), vB, vB, vB, .one (.one (.ptr 1 0 0)), vB, vI, .one (.one (.sl 2))] ++ vBs 129, [.box [.int .i64, .int .i64, .imm 5], .box [.int .i64, .int .i64, .sl 3, .int .i64, .int .i64, .sl 4], .arr 3, .arr 5, .arr 3]⟩, []⟩], [(10, 3)]⟩
noncomputable def r4_6 (x : List Ac × Int × Nat × Int × Int × Int × List Int × Int × Int × Nat × Int × Int × Nat × List Int × List Int × List Int × Unit) : Option
  (List Ac × Int × Nat × Int × Int × Int × List Int × Int × Int × Nat × Int × Int × Nat × List Int × List Int × List Int × Unit ⊕
    List Ac × Int × Nat × Int × Int × List Int × Int × Int × Nat × Int × Int × Nat × List Int × List Int × List Int × Unit) :=
  bif decide (x.snd.snd.snd.fst < (↑x.snd.snd.snd.snd.snd.snd.fst.length : Int)) then
  bif x.snd.snd.snd.snd.fst == (0 : Int) then none
  else
    bif x.snd.snd.snd.snd.fst == (0 : Int) then none
    else
      bif
          decide
            ((0 : Nat) + x.snd.snd.snd.snd.snd.snd.snd.snd.snd.fst ≤
              x.snd.snd.snd.snd.snd.snd.snd.snd.snd.snd.snd.snd.snd.snd.fst.length) then
        bif
            decide
              ((0 : Nat) + x.snd.snd.snd.snd.snd.snd.snd.snd.snd.snd.snd.snd.fst ≤
                x.snd.snd.snd.snd.snd.snd.snd.snd.snd.snd.snd.snd.snd.snd.snd.fst.length) then
          (f14
                (x.snd.snd.snd.snd.snd.snd.snd.fst, x.snd.snd.snd.snd.snd.snd.snd.snd.fst,
                  List.take x.snd.snd.snd.snd.snd.snd.snd.snd.snd.fst
                    (List.drop (0 : Nat) x.snd.snd.snd.snd.snd.snd.snd.snd.snd.snd.snd.snd.snd.snd.fst),
                  x.snd.snd.snd.snd.snd.snd.snd.snd.snd.snd.fst, x.snd.snd.snd.snd.snd.snd.snd.snd.snd.snd.snd.fst,
                  List.take x.snd.snd.snd.snd.snd.snd.snd.snd.snd.snd.snd.snd.fst
                    (List.drop (0 : Nat) x.snd.snd.snd.snd.snd.snd.snd.snd.snd.snd.snd.snd.snd.snd.snd.fst),
                  x.snd.snd.snd.fst.tmod x.snd.snd.snd.snd.fst, IntKind.i64.wrap (x.snd.snd.snd.fst.tdiv x.snd.snd.snd.snd.fst), ())).bind
            fun y101 =>
            bif decide ((0 : Nat) + x.snd.snd.fst ≤ x.snd.snd.snd.snd.snd.snd.snd.snd.snd.snd.snd.snd.snd.fst.length) then
              bif roomy (x.snd.snd.fst + (1 : Nat)) (8 : Nat) then
                some
                  (Sum.inl
                    (x.fst, x.snd.fst, x.snd.snd.fst + (1 : Nat), IntKind.i64.wrap (x.snd.snd.snd.fst + (1 : Int)), x.snd.snd.snd.snd.fst,
                      x.snd.snd.snd.snd.snd.fst, x.snd.snd.snd.snd.snd.snd.fst, x.snd.snd.snd.snd.snd.snd.snd.fst,
                      x.snd.snd.snd.snd.snd.snd.snd.snd.fst, x.snd.snd.snd.snd.snd.snd.snd.snd.snd.fst,
                      x.snd.snd.snd.snd.snd.snd.snd.snd.snd.snd.fst, x.snd.snd.snd.snd.snd.snd.snd.snd.snd.snd.snd.fst,
                      x.snd.snd.snd.snd.snd.snd.snd.snd.snd.snd.snd.snd.fst,
                      List.take x.snd.snd.fst (List.drop (0 : Nat) x.snd.snd.snd.snd.snd.snd.snd.snd.snd.snd.snd.snd.snd.fst) ++ [y101.fst],
                      x.snd.snd.snd.snd.snd.snd.snd.snd.snd.snd.snd.snd.snd.snd.fst,
                      x.snd.snd.snd.snd.snd.snd.snd.snd.snd.snd.snd.snd.snd.snd.snd.fst, ()))
              else none
            else none
        else none
      else none
else
  some
    (Sum.inr
      (x.fst, x.snd.fst, x.snd.snd.fst, x.snd.snd.snd.snd.fst, x.snd.snd.snd.snd.snd.fst, x.snd.snd.snd.snd.snd.snd.fst,
        x.snd.snd.snd.snd.snd.snd.snd.fst, x.snd.snd.snd.snd.snd.snd.snd.snd.fst, x.snd.snd.snd.snd.snd.snd.snd.snd.snd.fst,
        x.snd.snd.snd.snd.snd.snd.snd.snd.snd.snd.fst, x.snd.snd.snd.snd.snd.snd.snd.snd.snd.snd.snd.fst,
        x.snd.snd.snd.snd.snd.snd.snd.snd.snd.snd.snd.snd.fst, x.snd.snd.snd.snd.snd.snd.snd.snd.snd.snd.snd.snd.snd.fst,
        x.snd.snd.snd.snd.snd.snd.snd.snd.snd.snd.snd.snd.snd.snd.fst, x.snd.snd.snd.snd.snd.snd.snd.snd.snd.snd.snd.snd.snd.snd.snd.fst,
        ()))
theorem r4_6_run0 (v0 : List Ac) (v1 : Int) (v2 : Nat) (v3 : Int) (v4 : Int) (v5 : Int) (v6 : List Int) (v7 : Int) (v8 : Int) (v9 : Nat) (v10 : Int) (v11 : Int) (v12 : Nat) (v13 : List Int) (v14 : List Int) (v15 : List Int) : roundK tC G4 (look []) c4_6 p4_6 (v0, v1, v2, v3, v4, v5, v6, v7, v8, v9, v10, v11, v12, v13, v14, v15, ()) = r4_6 (v0, v1, v2, v3, v4, v5, v6, v7, v8, v9, v10, v11, v12, v13, v14, v15, ()) := by kernel_rfl
theorem r4_6_run (x : List Ac × Int × Nat × Int × Int × Int × List Int × Int × Int × Nat × Int × Int × Nat × List Int × List Int × List Int × Unit) : roundK tC G4 (look []) c4_6 p4_6 x = r4_6 x := r4_6_run0 x.1 x.2.1 x.2.2.1 x.2.2.2.1 x.2.2.2.2.1 x.2.2.2.2.2.1 x.2.2.2.2.2.2.1 x.2.2.2.2.2.2.2.1 x.2.2.2.2.2.2.2.2.1 x.2.2.2.2.2.2.2.2.2.1 x.2.2.2.2.2.2.2.2.2.2.1 x.2.2.2.2.2.2.2.2.2.2.2.1 x.2.2.2.2.2.2.2.2.2.2.2.2.1 x.2.2.2.2.2.2.2.2.2.2.2.2.2.1 x.2.2.2.2.2.2.2.2.2.2.2.2.2.2.1 x.2.2.2.2.2.2.2.2.2.2.2.2.2.2.2.1
noncomputable def l4_6 (x : List Ac × Int × Nat × Int × Int × Int × List Int × Int × Int × Nat × Int × Int × Nat × List Int × List Int × List Int × Unit) : Option (List Ac × Int × Nat × Int × Int × List Int × Int × Int × Nat × Int × Int × Nat × List Int × List Int × List Int × Unit) := iterO r4_6 x
noncomputable def W4_6 : LF tC := loopW tC p4_6 2 l4_6
theorem W4_6_ok : keyed 6 (loopOf (bodyOf Try.f4) 0) = [.block 2 (.loop c4_6)] ∧ ∀ n, n ≤ 0 → Snd tC n (.block 2 (.loop c4_6)) W4_6.k := ⟨by kernel_rfl, fun n hn => loopW_ok (p := p4_6) (id := 2) Y4 (lam_le lam_nil n hn) hn r4_6_run⟩
noncomputable def c4_70 : Code := subCode (loopOf (subCode (loopOf (bodyOf Try.f4) 0) 52) 4) 70
def p4_70 : PS := ⟨0, [2, 3, 7, 9, 10, 12, 13, 14], ⟨[vB, vB, .one (.one (.imm 47)), .one (.one (.ptr 0 0 0)), vB, vB, vB, .one (.one (.ptr 1 0 0)), vB, vI, .one (.one (.sl 2)), vB, vI, vI, vI] ++ vBs 125, [.box [.int .i64, .int .i64, .imm 5], .box [.int .i64, .int .i64, .sl 3, .int .i64, .int .i64, .sl 4], .arr 3, .arr 5, .arr 3]⟩, [⟨.ret, [6], ⟨vBs 6 ++ [vO] ++ vBs 133, []⟩, []⟩, ⟨.normal, [2, 3, 7, 9, 10, 12], ⟨[vB, vB, .one (.one (.imm 47)), .one (.one (.ptr 0 0 0)), vB, vB, vB, .one (.one (.ptr 1 0 0)), vB, vI, .one (.one (.sl 2)), vB, vI] ++ vBs 127, [.box [.int .i64, .int .i64, .imm 5], .box [.int .i64, .int .i64, .sl 3, .int .i64, .int .i64, .sl 4], .arr 3, .arr 5, .arr 3]⟩, []⟩], []⟩
noncomputable def j4_70 (x : List Ac × Int × Nat × Int × Int × Int × Int × Int × List Int × Int × Int × Nat × Int × Int × Nat × List Int × List Int × List Int × Unit) : Option
  (Bool × Unit ⊕
    List Ac × Int × Nat × Int × Int × Int × List Int × Int × Int × Nat × Int × Int × Nat × List Int × List Int × List Int × Unit) :=
  bif x.snd.snd.snd.snd.snd.fst != (-1 : Int) then
  bif x.snd.snd.snd.snd.fst == (-1 : Int) then some (Sum.inl (false, ()))
  else
    bif decide (x.snd.snd.snd.snd.fst > x.snd.snd.snd.snd.snd.fst) then some (Sum.inl (false, ()))
    else
      some
        (Sum.inr
          (x.fst, x.snd.fst, x.snd.snd.fst, x.snd.snd.snd.fst, x.snd.snd.snd.snd.snd.snd.fst, x.snd.snd.snd.snd.snd.snd.snd.fst,
            x.snd.snd.snd.snd.snd.snd.snd.snd.fst, x.snd.snd.snd.snd.snd.snd.snd.snd.snd.fst, x.snd.snd.snd.snd.snd.snd.snd.snd.snd.snd.fst,
            x.snd.snd.snd.snd.snd.snd.snd.snd.snd.snd.snd.fst, x.snd.snd.snd.snd.snd.snd.snd.snd.snd.snd.snd.snd.fst,
            x.snd.snd.snd.snd.snd.snd.snd.snd.snd.snd.snd.snd.snd.fst, x.snd.snd.snd.snd.snd.snd.snd.snd.snd.snd.snd.snd.snd.snd.fst,
            x.snd.snd.snd.snd.snd.snd.snd.snd.snd.snd.snd.snd.snd.snd.snd.fst,
            x.snd.snd.snd.snd.snd.snd.snd.snd.snd.snd.snd.snd.snd.snd.snd.snd.fst,
            x.snd.snd.snd.snd.snd.snd.snd.snd.snd.snd.snd.snd.snd.snd.snd.snd.snd.fst, ()))
else
  some
    (Sum.inr
      (x.fst, x.snd.fst, x.snd.snd.fst, x.snd.snd.snd.fst, x.snd.snd.snd.snd.snd.snd.fst, x.snd.snd.snd.snd.snd.snd.snd.fst,
        x.snd.snd.snd.snd.snd.snd.snd.snd.fst, x.snd.snd.snd.snd.snd.snd.snd.snd.snd.fst, x.snd.snd.snd.snd.snd.snd.snd.snd.snd.snd.fst,
        x.snd.snd.snd.snd.snd.snd.snd.snd.snd.snd.snd.fst, x.snd.snd.snd.snd.snd.snd.snd.snd.snd.snd.snd.snd.fst,
        x.snd.snd.snd.snd.snd.snd.snd.snd.snd.snd.snd.snd.snd.fst, x.snd.snd.snd.snd.snd.snd.snd.snd.snd.snd.snd.snd.snd.snd.fst,
        x.snd.snd.snd.snd.snd.snd.snd.snd.snd.snd.snd.snd.snd.snd.snd.fst,
        x.snd.snd.snd.snd.snd.snd.snd.snd.snd.snd.snd.snd.snd.snd.snd.snd.fst,
        x.snd.snd.snd.snd.snd.snd.snd.snd.snd.snd.snd.snd.snd.snd.snd.snd.snd.fst, ()))
theorem j4_70_run0 (v0 : List Ac) (v1 : Int) (v2 : Nat) (v3 : Int) (v4 : Int) (v5 : Int) (v6 : Int) (v7 : Int) (v8 : List Int) (v9 : Int) (v10 : Int) (v11 : Nat) (v12 : Int) (v13 : Int) (v14 : Nat) (v15 : List Int) (v16 : List Int) (v17 : List Int) : pieceK tC G4 (look []) c4_70 p4_70 (v0, v1, v2, v3, v4, v5, v6, v7, v8, v9, v10, v11, v12, v13, v14, v15, v16, v17, ()) = j4_70 (v0, v1, v2, v3, v4, v5, v6, v7, v8, v9, v10, v11, v12, v13, v14, v15, v16, v17, ()) := by kernel_rfl
theorem j4_70_run (x : List Ac × Int × Nat × Int × Int × Int × Int × Int × List Int × Int × Int × Nat × Int × Int × Nat × List Int × List Int × List Int × Unit) : pieceK tC G4 (look []) c4_70 p4_70 x = j4_70 x := j4_70_run0 x.1 x.2.1 x.2.2.1 x.2.2.2.1 x.2.2.2.2.1 x.2.2.2.2.2.1 x.2.2.2.2.2.2.1 x.2.2.2.2.2.2.2.1 x.2.2.2.2.2.2.2.2.1 x.2.2.2.2.2.2.2.2.2.1 x.2.2.2.2.2.2.2.2.2.2.1 x.2.2.2.2.2.2.2.2.2.2.2.1 x.2.2.2.2.2.2.2.2.2.2.2.2.1 x.2.2.2.2.2.2.2.2.2.2.2.2.2.1 x.2.2.2.2.2.2.2.2.2.2.2.2.2.2.1 x.2.2.2.2.2.2.2.2.2.2.2.2.2.2.2.1 x.2.2.2.2.2.2.2.2.2.2.2.2.2.2.2.2.1 x.2.2.2.2.2.2.2.2.2.2.2.2.2.2.2.2.2.1
noncomputable def W4_70 : LF tC := cutLF tC p4_70 j4_70
theorem W4_70_ok : keyed 70 (loopOf (subCode (loopOf (bodyOf Try.f4) 0) 52) 4) = [c4_70] ∧ ∀ n, n ≤ 0 → Snd tC n c4_70 W4_70.k := ⟨by kernel_rfl, fun n hn => cut_ok (p := p4_70) Y4 (lam_le lam_nil n hn) hn j4_70_run⟩
noncomputable def c4_58 : Code := subCode (loopOf (subCode (loopOf (bodyOf Try.f4) 0) 52) 4) 58
def p4_58 : PS := ⟨0, [2, 3, 7, 9, 10, 12], ⟨[vB, vB, .one (.one (.imm 47)), .one (.one (.ptr 0 0 0)), vB, vB, vB, .one (.one (.ptr 1 0 0)), vB, vI, .one (.one (.sl 2)), vB, vI] ++ vBs 127, [.box [.int .i64, .int .i64, .imm 5], .box [.int .i64, .int .i64, .sl 3, .int .i64, .int .i64, .sl 4], .arr 3, .arr 5, .arr 3]⟩, [⟨.normal, [2, 3, 7, 9, 10, 12], ⟨[vB, vB, .one (.one (.imm 47)), .one (.one (.ptr 0 0 0)), vB, vB, vB, .one (.one (.ptr 1 0 0)), vB, vI, .one (.one (.sl 2)), vB, vI] ++ vBs 127, [.box [.int .i64, .int .i64, .imm 5], .box [.int .i64, .int .i64, .sl 3, .int .i64, .int .i64, .sl 4], .arr 3, .arr 5, .arr 3]⟩, []⟩], []⟩
noncomputable def j4_58 (x : List Ac × Int × Nat × Int × Int × Int × List Int × Int × Int × Nat × Int × Int × Nat × List Int × List Int × List Int × Unit) : Option (List Ac × Int × Nat × Int × Int × Int × List Int × Int × Int × Nat × Int × Int × Nat × List Int × List Int × List Int × Unit) :=
  some
  (x.fst, x.snd.fst, x.snd.snd.fst, IntKind.i64.wrap (x.snd.snd.snd.fst + (1 : Int)), x.snd.snd.snd.snd.fst, x.snd.snd.snd.snd.snd.fst,
    x.snd.snd.snd.snd.snd.snd.fst, x.snd.snd.snd.snd.snd.snd.snd.fst, x.snd.snd.snd.snd.snd.snd.snd.snd.fst,
    x.snd.snd.snd.snd.snd.snd.snd.snd.snd.fst, x.snd.snd.snd.snd.snd.snd.snd.snd.snd.snd.fst,
    x.snd.snd.snd.snd.snd.snd.snd.snd.snd.snd.snd.fst, x.snd.snd.snd.snd.snd.snd.snd.snd.snd.snd.snd.snd.fst,
    x.snd.snd.snd.snd.snd.snd.snd.snd.snd.snd.snd.snd.snd.fst, x.snd.snd.snd.snd.snd.snd.snd.snd.snd.snd.snd.snd.snd.snd.fst,
    x.snd.snd.snd.snd.snd.snd.snd.snd.snd.snd.snd.snd.snd.snd.snd.fst, ())
theorem j4_58_run0 (v0 : List Ac) (v1 : Int) (v2 : Nat) (v3 : Int) (v4 : Int) (v5 : Int) (v6 : List Int) (v7 : Int) (v8 : Int) (v9 : Nat) (v10 : Int) (v11 : Int) (v12 : Nat) (v13 : List Int) (v14 : List Int) (v15 : List Int) : pieceK tC G4 (look []) c4_58 p4_58 (v0, v1, v2, v3, v4, v5, v6, v7, v8, v9, v10, v11, v12, v13, v14, v15, ()) = j4_58 (v0, v1, v2, v3, v4, v5, v6, v7, v8, v9, v10, v11, v12, v13, v14, v15, ()) := by kernel_rfl
theorem j4_58_run (x : List Ac × Int × Nat × Int × Int × Int × List Int × Int × Int × Nat × Int × Int × Nat × List Int × List Int × List Int × Unit) : pieceK tC G4 (look []) c4_58 p4_58 x = j4_58 x := j4_58_run0 x.1 x.2.1 x.2.2.1 x.2.2.2.1 x.2.2.2.2.1 x.2.2.2.2.2.1 x.2.2.2.2.2.2.1 x.2.2.2.2.2.2.2.1 x.2.2.2.2.2.2.2.2.1 x.2.2.2.2.2.2.2.2.2.1 x.2.2.2.2.2.2.2.2.2.2.1 x.2.2.2.2.2.2.2.2.2.2.2.1 x.2.2.2.2.2.2.2.2.2.2.2.2.1 x.2.2.2.2.2.2.2.2.2.2.2.2.2.1 x.2.2.2.2.2.2.2.2.2.2.2.2.2.2.1 x.2.2.2.2.2.2.2.2.2.2.2.2.2.2.2.1
noncomputable def W4_58 : LF tC := cutLF tC p4_58 j4_58
theorem W4_58_ok : keyed 58 (loopOf (subCode (loopOf (bodyOf Try.f4) 0) 52) 4) = [c4_58] ∧ ∀ n, n ≤ 0 → Snd tC n c4_58 W4_58.k := ⟨by kernel_rfl, fun n hn => cut_ok (p := p4_58) Y4 (lam_le lam_nil n hn) hn j4_58_run⟩
noncomputable def c4_12 : Code := loopOf (subCode (loopOf (bodyOf Try.f4) 0) 52) 4
def p4_12 : LS := ⟨0, [2, 3, 7, 9, 10, 12], ⟨[vB, vB, .one (.one (.imm 47)), .one (.one (.ptr 0 0 0)), vB, vB, vB, .one (.one (.ptr 1 0 0)), vB, vI, .one (.one (.sl 2)), vB, vI] ++ vBs 127, [.box [.int .i64, .int .i64, .imm 5], .box [.int .i64, .int .i64, .sl 3, .int .i64, .int .i64, .sl 4], .arr 3, .arr 5, .arr 3]⟩, [⟨.ret, [6], ⟨vBs 6 ++ [vO] ++ vBs 133, []⟩, []⟩, ⟨.exit 4, [2, 3, 7, 9], ⟨[vB, vB, .one (.one (.imm 47)), .one (.one (.ptr 0 0 0)), vB, vB, vB, .one (.one (.ptr 1 0 0)), vB, vI] ++ vBs 130, [.box [.int .i64, .int .i64, .imm 5], .box [.int .i64, .int .i64, .sl 2, .int .i64, .int .i64, .sl 3], .arr 5, .arr 3]⟩, []⟩], []⟩
noncomputable def r4_12 (x : List Ac × Int × Nat × Int × Int × Int × List Int × Int × Int × Nat × Int × Int × Nat × List Int × List Int × List Int × Unit) : Option
  (List Ac × Int × Nat × Int × Int × Int × List Int × Int × Int × Nat × Int × Int × Nat × List Int × List Int × List Int × Unit ⊕
    Bool × Unit ⊕ List Ac × Int × Int × Int × List Int × Int × Int × Nat × Int × Int × Nat × List Int × List Int × Unit) :=
  bif decide (x.snd.snd.snd.fst < (↑x.snd.snd.snd.snd.snd.snd.fst.length : Int)) then
  bif decide ((0 : Int) ≤ x.snd.snd.snd.fst) && decide (x.snd.snd.snd.fst < (↑x.snd.snd.fst : Int)) then
    x.snd.snd.snd.snd.snd.snd.snd.snd.snd.snd.snd.snd.snd.fst[(0 : Nat) + x.snd.snd.snd.fst.toNat]?.bind fun y328 =>
      bif x.snd.snd.snd.snd.fst == (0 : Int) then none
      else
        bif x.snd.snd.snd.snd.fst == (0 : Int) then none
        else
          bif
              decide
                ((0 : Nat) + x.snd.snd.snd.snd.snd.snd.snd.snd.snd.fst ≤
                  x.snd.snd.snd.snd.snd.snd.snd.snd.snd.snd.snd.snd.snd.snd.fst.length) then
            bif
                decide
                  ((0 : Nat) + x.snd.snd.snd.snd.snd.snd.snd.snd.snd.snd.snd.snd.fst ≤
                    x.snd.snd.snd.snd.snd.snd.snd.snd.snd.snd.snd.snd.snd.snd.snd.fst.length) then
              (f14
                    (x.snd.snd.snd.snd.snd.snd.snd.fst, x.snd.snd.snd.snd.snd.snd.snd.snd.fst,
                      List.take x.snd.snd.snd.snd.snd.snd.snd.snd.snd.fst
                        (List.drop (0 : Nat) x.snd.snd.snd.snd.snd.snd.snd.snd.snd.snd.snd.snd.snd.snd.fst),
                      x.snd.snd.snd.snd.snd.snd.snd.snd.snd.snd.fst, x.snd.snd.snd.snd.snd.snd.snd.snd.snd.snd.snd.fst,
                      List.take x.snd.snd.snd.snd.snd.snd.snd.snd.snd.snd.snd.snd.fst
                        (List.drop (0 : Nat) x.snd.snd.snd.snd.snd.snd.snd.snd.snd.snd.snd.snd.snd.snd.snd.fst),
                      x.snd.snd.snd.fst.tmod x.snd.snd.snd.snd.fst, IntKind.i64.wrap (x.snd.snd.snd.fst.tdiv x.snd.snd.snd.snd.fst),
                      ())).bind
                fun y327 =>
                (idxO x.fst x.snd.fst).bind fun y326 =>
                  bif y326.K.tmod (3 : Int) == (1 : Int) then
                    (j4_70
                          (x.fst, x.snd.fst, x.snd.snd.fst, x.snd.snd.snd.fst, y327.fst, y328, x.snd.snd.snd.snd.fst,
                            x.snd.snd.snd.snd.snd.fst, x.snd.snd.snd.snd.snd.snd.fst, x.snd.snd.snd.snd.snd.snd.snd.fst,
                            x.snd.snd.snd.snd.snd.snd.snd.snd.fst, x.snd.snd.snd.snd.snd.snd.snd.snd.snd.fst,
                            x.snd.snd.snd.snd.snd.snd.snd.snd.snd.snd.fst, x.snd.snd.snd.snd.snd.snd.snd.snd.snd.snd.snd.fst,
                            x.snd.snd.snd.snd.snd.snd.snd.snd.snd.snd.snd.snd.fst,
                            x.snd.snd.snd.snd.snd.snd.snd.snd.snd.snd.snd.snd.snd.fst,
                            x.snd.snd.snd.snd.snd.snd.snd.snd.snd.snd.snd.snd.snd.snd.fst,
                            x.snd.snd.snd.snd.snd.snd.snd.snd.snd.snd.snd.snd.snd.snd.snd.fst, ())).bind
                      fun y321 =>
                      Sum.elim (fun y318 => some (Sum.inr (Sum.inl (y318.fst, ()))))
                        (fun y320 =>
                          (j4_58
                                (y320.fst, y320.snd.fst, y320.snd.snd.fst, y320.snd.snd.snd.fst, y320.snd.snd.snd.snd.fst,
                                  y320.snd.snd.snd.snd.snd.fst, y320.snd.snd.snd.snd.snd.snd.fst, y320.snd.snd.snd.snd.snd.snd.snd.fst,
                                  y320.snd.snd.snd.snd.snd.snd.snd.snd.fst, y320.snd.snd.snd.snd.snd.snd.snd.snd.snd.fst,
                                  y320.snd.snd.snd.snd.snd.snd.snd.snd.snd.snd.fst, y320.snd.snd.snd.snd.snd.snd.snd.snd.snd.snd.snd.fst,
                                  y320.snd.snd.snd.snd.snd.snd.snd.snd.snd.snd.snd.snd.fst,
                                  y320.snd.snd.snd.snd.snd.snd.snd.snd.snd.snd.snd.snd.snd.fst,
                                  y320.snd.snd.snd.snd.snd.snd.snd.snd.snd.snd.snd.snd.snd.snd.fst,
                                  y320.snd.snd.snd.snd.snd.snd.snd.snd.snd.snd.snd.snd.snd.snd.snd.fst, ())).bind
                            fun y319 =>
                            some
                              (Sum.inl
                                (y319.fst, y319.snd.fst, y319.snd.snd.fst, y319.snd.snd.snd.fst, y319.snd.snd.snd.snd.fst,
                                  y319.snd.snd.snd.snd.snd.fst, y319.snd.snd.snd.snd.snd.snd.fst, y319.snd.snd.snd.snd.snd.snd.snd.fst,
                                  y319.snd.snd.snd.snd.snd.snd.snd.snd.fst, y319.snd.snd.snd.snd.snd.snd.snd.snd.snd.fst,
                                  y319.snd.snd.snd.snd.snd.snd.snd.snd.snd.snd.fst, y319.snd.snd.snd.snd.snd.snd.snd.snd.snd.snd.snd.fst,
                                  y319.snd.snd.snd.snd.snd.snd.snd.snd.snd.snd.snd.snd.fst,
                                  y319.snd.snd.snd.snd.snd.snd.snd.snd.snd.snd.snd.snd.snd.fst,
                                  y319.snd.snd.snd.snd.snd.snd.snd.snd.snd.snd.snd.snd.snd.snd.fst,
                                  y319.snd.snd.snd.snd.snd.snd.snd.snd.snd.snd.snd.snd.snd.snd.snd.fst, ())))
                        y321
                  else
                    (j4_70
                          (x.fst, x.snd.fst, x.snd.snd.fst, x.snd.snd.snd.fst, y328, y327.fst, x.snd.snd.snd.snd.fst,
                            x.snd.snd.snd.snd.snd.fst, x.snd.snd.snd.snd.snd.snd.fst, x.snd.snd.snd.snd.snd.snd.snd.fst,
                            x.snd.snd.snd.snd.snd.snd.snd.snd.fst, x.snd.snd.snd.snd.snd.snd.snd.snd.snd.fst,
                            x.snd.snd.snd.snd.snd.snd.snd.snd.snd.snd.fst, x.snd.snd.snd.snd.snd.snd.snd.snd.snd.snd.snd.fst,
                            x.snd.snd.snd.snd.snd.snd.snd.snd.snd.snd.snd.snd.fst,
                            x.snd.snd.snd.snd.snd.snd.snd.snd.snd.snd.snd.snd.snd.fst,
                            x.snd.snd.snd.snd.snd.snd.snd.snd.snd.snd.snd.snd.snd.snd.fst,
                            x.snd.snd.snd.snd.snd.snd.snd.snd.snd.snd.snd.snd.snd.snd.snd.fst, ())).bind
                      fun y325 =>
                      Sum.elim (fun y322 => some (Sum.inr (Sum.inl (y322.fst, ()))))
                        (fun y324 =>
                          (j4_58
                                (y324.fst, y324.snd.fst, y324.snd.snd.fst, y324.snd.snd.snd.fst, y324.snd.snd.snd.snd.fst,
                                  y324.snd.snd.snd.snd.snd.fst, y324.snd.snd.snd.snd.snd.snd.fst, y324.snd.snd.snd.snd.snd.snd.snd.fst,
                                  y324.snd.snd.snd.snd.snd.snd.snd.snd.fst, y324.snd.snd.snd.snd.snd.snd.snd.snd.snd.fst,
                                  y324.snd.snd.snd.snd.snd.snd.snd.snd.snd.snd.fst, y324.snd.snd.snd.snd.snd.snd.snd.snd.snd.snd.snd.fst,
                                  y324.snd.snd.snd.snd.snd.snd.snd.snd.snd.snd.snd.snd.fst,
                                  y324.snd.snd.snd.snd.snd.snd.snd.snd.snd.snd.snd.snd.snd.fst,
                                  y324.snd.snd.snd.snd.snd.snd.snd.snd.snd.snd.snd.snd.snd.snd.fst,
                                  y324.snd.snd.snd.snd.snd.snd.snd.snd.snd.snd.snd.snd.snd.snd.snd.fst, ())).bind
                            fun y323 =>
                            some
                              (Sum.inl
                                (y323.fst, y323.snd.fst, y323.snd.snd.fst, y323.snd.snd.snd.fst, y323.snd.snd.snd.snd.fst,
                                  y323.snd.snd.snd.snd.snd.fst, y323.snd.snd.snd.snd.snd.snd.fst, y323.snd.snd.snd.snd.snd.snd.snd.fst,
                                  y323.snd.snd.snd.snd.snd.snd.snd.snd.fst, y323.snd.snd.snd.snd.snd.snd.snd.snd.snd.fst,
                                  y323.snd.snd.snd.snd.snd.snd.snd.snd.snd.snd.fst, y323.snd.snd.snd.snd.snd.snd.snd.snd.snd.snd.snd.fst,
                                  y323.snd.snd.snd.snd.snd.snd.snd.snd.snd.snd.snd.snd.fst,
                                  y323.snd.snd.snd.snd.snd.snd.snd.snd.snd.snd.snd.snd.snd.fst,
                                  y323.snd.snd.snd.snd.snd.snd.snd.snd.snd.snd.snd.snd.snd.snd.fst,
                                  y323.snd.snd.snd.snd.snd.snd.snd.snd.snd.snd.snd.snd.snd.snd.snd.fst, ())))
                        y325
            else none
          else none
  else none
else
  some
    (Sum.inr
      (Sum.inr
        (x.fst, x.snd.fst, x.snd.snd.snd.snd.fst, x.snd.snd.snd.snd.snd.fst, x.snd.snd.snd.snd.snd.snd.fst,
          x.snd.snd.snd.snd.snd.snd.snd.fst, x.snd.snd.snd.snd.snd.snd.snd.snd.fst, x.snd.snd.snd.snd.snd.snd.snd.snd.snd.fst,
          x.snd.snd.snd.snd.snd.snd.snd.snd.snd.snd.fst, x.snd.snd.snd.snd.snd.snd.snd.snd.snd.snd.snd.fst,
          x.snd.snd.snd.snd.snd.snd.snd.snd.snd.snd.snd.snd.fst, x.snd.snd.snd.snd.snd.snd.snd.snd.snd.snd.snd.snd.snd.snd.fst,
          x.snd.snd.snd.snd.snd.snd.snd.snd.snd.snd.snd.snd.snd.snd.snd.fst, ())))
theorem r4_12_run0 (v0 : List Ac) (v1 : Int) (v2 : Nat) (v3 : Int) (v4 : Int) (v5 : Int) (v6 : List Int) (v7 : Int) (v8 : Int) (v9 : Nat) (v10 : Int) (v11 : Int) (v12 : Nat) (v13 : List Int) (v14 : List Int) (v15 : List Int) : roundK tC G4 (look [(70, W4_70), (58, W4_58)]) c4_12 p4_12 (v0, v1, v2, v3, v4, v5, v6, v7, v8, v9, v10, v11, v12, v13, v14, v15, ()) = r4_12 (v0, v1, v2, v3, v4, v5, v6, v7, v8, v9, v10, v11, v12, v13, v14, v15, ()) := by kernel_rfl
theorem r4_12_run (x : List Ac × Int × Nat × Int × Int × Int × List Int × Int × Int × Nat × Int × Int × Nat × List Int × List Int × List Int × Unit) : roundK tC G4 (look [(70, W4_70), (58, W4_58)]) c4_12 p4_12 x = r4_12 x := r4_12_run0 x.1 x.2.1 x.2.2.1 x.2.2.2.1 x.2.2.2.2.1 x.2.2.2.2.2.1 x.2.2.2.2.2.2.1 x.2.2.2.2.2.2.2.1 x.2.2.2.2.2.2.2.2.1 x.2.2.2.2.2.2.2.2.2.1 x.2.2.2.2.2.2.2.2.2.2.1 x.2.2.2.2.2.2.2.2.2.2.2.1 x.2.2.2.2.2.2.2.2.2.2.2.2.1 x.2.2.2.2.2.2.2.2.2.2.2.2.2.1 x.2.2.2.2.2.2.2.2.2.2.2.2.2.2.1 x.2.2.2.2.2.2.2.2.2.2.2.2.2.2.2.1
noncomputable def l4_12 (x : List Ac × Int × Nat × Int × Int × Int × List Int × Int × Int × Nat × Int × Int × Nat × List Int × List Int × List Int × Unit) : Option (Bool × Unit ⊕ List Ac × Int × Int × Int × List Int × Int × Int × Nat × Int × Int × Nat × List Int × List Int × Unit) := iterO r4_12 x
noncomputable def W4_12 : LF tC := loopW tC p4_12 4 l4_12
theorem W4_12_ok : keyed 12 (subCode (loopOf (bodyOf Try.f4) 0) 52) = [.block 4 (.loop c4_12)] ∧ ∀ n, n ≤ 0 → Snd tC n (.block 4 (.loop c4_12)) W4_12.k := ⟨by kernel_rfl, fun n hn => loopW_ok (p := p4_12) (id := 4) Y4 (lam_le (lam_cons W4_70_ok (lam_cons W4_58_ok lam_nil)) n hn) hn r4_12_run⟩
noncomputable def c4_52 : Code := subCode (loopOf (bodyOf Try.f4) 0) 52
def p4_52 : PS := ⟨0, [2, 3, 7, 9, 10], ⟨[vB, vB, .one (.one (.imm 47)), .one (.one (.ptr 0 0 0)), vB, vB, vB, .one (.one (.ptr 1 0 0)), vB, vI, .one (.one (.sl 2))] ++ vBs 129, [.box [.int .i64, .int .i64, .imm 5], .box [.int .i64, .int .i64, .sl 3, .int .i64, .int .i64, .sl 4], .arr 3, .arr 5, .arr 3]⟩, [⟨.ret, [6], ⟨vBs 6 ++ [vO] ++ vBs 133, []⟩, []⟩, ⟨.normal, [2, 3, 7, 9], ⟨[vB, vB, .one (.one (.imm 47)), .one (.one (.ptr 0 0 0)), vB, vB, vB, .one (.one (.ptr 1 0 0)), vB, vI] ++ vBs 130, [.box [.int .i64, .int .i64, .imm 5], .box [.int .i64, .int .i64, .sl 2, .int .i64, .int .i64, .sl 3], .arr 5, .arr 3]⟩, []⟩], []⟩
noncomputable def j4_52 (x : List Ac × Int × Nat × Int × Int × List Int × Int × Int × Nat × Int × Int × Nat × List Int × List Int × List Int × Unit) : Option (Bool × Unit ⊕ List Ac × Int × Int × Int × List Int × Int × Int × Nat × Int × Int × Nat × List Int × List Int × Unit) :=
  (l4_12
      (x.fst, x.snd.fst, x.snd.snd.fst, (0 : Int), x.snd.snd.snd.fst, x.snd.snd.snd.snd.fst, x.snd.snd.snd.snd.snd.fst,
        x.snd.snd.snd.snd.snd.snd.fst, x.snd.snd.snd.snd.snd.snd.snd.fst, x.snd.snd.snd.snd.snd.snd.snd.snd.fst,
        x.snd.snd.snd.snd.snd.snd.snd.snd.snd.fst, x.snd.snd.snd.snd.snd.snd.snd.snd.snd.snd.fst,
        x.snd.snd.snd.snd.snd.snd.snd.snd.snd.snd.snd.fst, x.snd.snd.snd.snd.snd.snd.snd.snd.snd.snd.snd.snd.fst,
        x.snd.snd.snd.snd.snd.snd.snd.snd.snd.snd.snd.snd.snd.fst, x.snd.snd.snd.snd.snd.snd.snd.snd.snd.snd.snd.snd.snd.snd.fst, ())).bind
  fun y359 =>
  Sum.elim (fun y357 => some (Sum.inl (y357.fst, ())))
    (fun y358 =>
      some
        (Sum.inr
          (y358.fst, y358.snd.fst, y358.snd.snd.fst, y358.snd.snd.snd.fst, y358.snd.snd.snd.snd.fst, y358.snd.snd.snd.snd.snd.fst,
            y358.snd.snd.snd.snd.snd.snd.fst, y358.snd.snd.snd.snd.snd.snd.snd.fst, y358.snd.snd.snd.snd.snd.snd.snd.snd.fst,
            y358.snd.snd.snd.snd.snd.snd.snd.snd.snd.fst, y358.snd.snd.snd.snd.snd.snd.snd.snd.snd.snd.fst,
            y358.snd.snd.snd.snd.snd.snd.snd.snd.snd.snd.snd.fst, y358.snd.snd.snd.snd.snd.snd.snd.snd.snd.snd.snd.snd.fst, ())))
    y359
theorem j4_52_run0 (v0 : List Ac) (v1 : Int) (v2 : Nat) (v3 : Int) (v4 : Int) (v5 : List Int) (v6 : Int) (v7 : Int) (v8 : Nat) (v9 : Int) (v10 : Int) (v11 : Nat) (v12 : List Int) (v13 : List Int) (v14 : List Int) : pieceK tC G4 (look [(12, W4_12)]) c4_52 p4_52 (v0, v1, v2, v3, v4, v5, v6, v7, v8, v9, v10, v11, v12, v13, v14, ()) = j4_52 (v0, v1, v2, v3, v4, v5, v6, v7, v8, v9, v10, v11, v12, v13, v14, ()) := by kernel_rfl
theorem j4_52_run (x : List Ac × Int × Nat × Int × Int × List Int × Int × Int × Nat × Int × Int × Nat × List Int × List Int × List Int × Unit) : pieceK tC G4 (look [(12, W4_12)]) c4_52 p4_52 x = j4_52 x := j4_52_run0 x.1 x.2.1 x.2.2.1 x.2.2.2.1 x.2.2.2.2.1 x.2.2.2.2.2.1 x.2.2.2.2.2.2.1 x.2.2.2.2.2.2.2.1 x.2.2.2.2.2.2.2.2.1 x.2.2.2.2.2.2.2.2.2.1 x.2.2.2.2.2.2.2.2.2.2.1 x.2.2.2.2.2.2.2.2.2.2.2.1 x.2.2.2.2.2.2.2.2.2.2.2.2.1 x.2.2.2.2.2.2.2.2.2.2.2.2.2.1 x.2.2.2.2.2.2.2.2.2.2.2.2.2.2.1
noncomputable def W4_52 : LF tC := cutLF tC p4_52 j4_52
theorem W4_52_ok : keyed 52 (loopOf (bodyOf Try.f4) 0) = [c4_52] ∧ ∀ n, n ≤ 0 → Snd tC n c4_52 W4_52.k := ⟨by kernel_rfl, fun n hn => cut_ok (p := p4_52) Y4 (lam_le (lam_cons W4_12_ok lam_nil) n hn) hn j4_52_run⟩
noncomputable def c4_25 : Code := subCode (loopOf (bodyOf Try.f4) 0) 25
def p4_25 : PS := ⟨0, [2, 3, 7, 9], ⟨[vB, vB, .one (.one (.imm 47)), .one (.one (.ptr 0 0 0)), vB, vB, vB, .one (.one (.ptr 1 0 0)), vB, vI] ++ vBs 130, [.box [.int .i64, .int .i64, .imm 5], .box [.int .i64, .int .i64, .sl 2, .int .i64, .int .i64, .sl 3], .arr 5, .arr 3]⟩, [⟨.normal, [2, 3, 7, 9], ⟨[vB, vB, .one (.one (.imm 47)), .one (.one (.ptr 0 0 0)), vB, vB, vB, .one (.one (.ptr 1 0 0)), vB, vI] ++ vBs 130, [.box [.int .i64, .int .i64, .imm 5], .box [.int .i64, .int .i64, .sl 2, .int .i64, .int .i64, .sl 3], .arr 5, .arr 3]⟩, []⟩], []⟩
noncomputable def j4_25 (x : List Ac × Int × Int × Int × List Int × Int × Int × Nat × Int × Int × Nat × List Int × List Int × Unit) : Option (List Ac × Int × Int × Int × List Int × Int × Int × Nat × Int × Int × Nat × List Int × List Int × Unit) :=
  some
  (x.fst, IntKind.i64.wrap (x.snd.fst + (1 : Int)), x.snd.snd.fst, x.snd.snd.snd.fst, x.snd.snd.snd.snd.fst, x.snd.snd.snd.snd.snd.fst,
    x.snd.snd.snd.snd.snd.snd.fst, x.snd.snd.snd.snd.snd.snd.snd.fst, x.snd.snd.snd.snd.snd.snd.snd.snd.fst,
    x.snd.snd.snd.snd.snd.snd.snd.snd.snd.fst, x.snd.snd.snd.snd.snd.snd.snd.snd.snd.snd.fst,
    x.snd.snd.snd.snd.snd.snd.snd.snd.snd.snd.snd.fst, x.snd.snd.snd.snd.snd.snd.snd.snd.snd.snd.snd.snd.fst, ())
theorem j4_25_run0 (v0 : List Ac) (v1 : Int) (v2 : Int) (v3 : Int) (v4 : List Int) (v5 : Int) (v6 : Int) (v7 : Nat) (v8 : Int) (v9 : Int) (v10 : Nat) (v11 : List Int) (v12 : List Int) : pieceK tC G4 (look []) c4_25 p4_25 (v0, v1, v2, v3, v4, v5, v6, v7, v8, v9, v10, v11, v12, ()) = j4_25 (v0, v1, v2, v3, v4, v5, v6, v7, v8, v9, v10, v11, v12, ()) := by kernel_rfl
theorem j4_25_run (x : List Ac × Int × Int × Int × List Int × Int × Int × Nat × Int × Int × Nat × List Int × List Int × Unit) : pieceK tC G4 (look []) c4_25 p4_25 x = j4_25 x := j4_25_run0 x.1 x.2.1 x.2.2.1 x.2.2.2.1 x.2.2.2.2.1 x.2.2.2.2.2.1 x.2.2.2.2.2.2.1 x.2.2.2.2.2.2.2.1 x.2.2.2.2.2.2.2.2.1 x.2.2.2.2.2.2.2.2.2.1 x.2.2.2.2.2.2.2.2.2.2.1 x.2.2.2.2.2.2.2.2.2.2.2.1 x.2.2.2.2.2.2.2.2.2.2.2.2.1
noncomputable def W4_25 : LF tC := cutLF tC p4_25 j4_25
theorem W4_25_ok : keyed 25 (loopOf (bodyOf Try.f4) 0) = [c4_25] ∧ ∀ n, n ≤ 0 → Snd tC n c4_25 W4_25.k := ⟨by kernel_rfl, fun n hn => cut_ok (p := p4_25) Y4 (lam_le lam_nil n hn) hn j4_25_run⟩
noncomputable def c4_0 : Code := loopOf (bodyOf Try.f4) 0
def p4_0 : LS := ⟨0, [2, 3, 7, 9], ⟨[vB, vB, .one (.one (.imm 47)), .one (.one (.ptr 0 0 0)), vB, vB, vB, .one (.one (.ptr 1 0 0)), vB, vI] ++ vBs 130, [.box [.int .i64, .int .i64, .imm 5], .box [.int .i64, .int .i64, .sl 2, .int .i64, .int .i64, .sl 3], .arr 5, .arr 3]⟩, [⟨.ret, [6], ⟨vBs 6 ++ [vO] ++ vBs 133, []⟩, []⟩, ⟨.exit 0, [], ⟨vBs 140, []⟩, []⟩], []⟩
noncomputable def r4_0 (x : List Ac × Int × Int × Int × List Int × Int × Int × Nat × Int × Int × Nat × List Int × List Int × Unit) : Option (List Ac × Int × Int × Int × List Int × Int × Int × Nat × Int × Int × Nat × List Int × List Int × Unit ⊕ Bool × Unit ⊕ Unit) :=
  bif decide (x.snd.fst < (↑x.fst.length : Int)) then
  (idxO x.fst x.snd.fst).bind fun y487 =>
    bif y487.K.tmod (3 : Int) == (2 : Int) then
      (idxO x.fst x.snd.fst).bind fun y472 =>
        bif decide ((0 : Nat) + x.snd.snd.snd.snd.snd.snd.snd.fst ≤ x.snd.snd.snd.snd.snd.snd.snd.snd.snd.snd.snd.fst.length) then
          bif
              decide
                ((0 : Nat) + x.snd.snd.snd.snd.snd.snd.snd.snd.snd.snd.fst ≤
                  x.snd.snd.snd.snd.snd.snd.snd.snd.snd.snd.snd.snd.fst.length) then
            (f21
                  (y472.X, y472.Y,
                    List.take x.snd.snd.snd.snd.snd.snd.snd.fst (List.drop (0 : Nat) x.snd.snd.snd.snd.snd.snd.snd.snd.snd.snd.snd.fst),
                    List.take x.snd.snd.snd.snd.snd.snd.snd.snd.snd.snd.fst
                      (List.drop (0 : Nat) x.snd.snd.snd.snd.snd.snd.snd.snd.snd.snd.snd.snd.fst),
                    x.snd.snd.snd.snd.snd.fst, x.snd.snd.snd.snd.snd.snd.fst, x.snd.snd.snd.snd.snd.snd.snd.fst,
                    x.snd.snd.snd.snd.snd.snd.snd.snd.fst, x.snd.snd.snd.snd.snd.snd.snd.snd.snd.fst,
                    x.snd.snd.snd.snd.snd.snd.snd.snd.snd.snd.fst, ())).bind
              fun y471 =>
              Sum.elim
                (fun y468 =>
                  (j4_25
                        (x.fst, x.snd.fst, x.snd.snd.fst, x.snd.snd.snd.fst, x.snd.snd.snd.snd.fst, y468.snd.snd.snd.fst,
                          y468.snd.snd.snd.snd.fst, y468.snd.snd.snd.snd.snd.fst, y468.snd.snd.snd.snd.snd.snd.fst,
                          y468.snd.snd.snd.snd.snd.snd.snd.fst, y468.snd.snd.snd.snd.snd.snd.snd.snd.fst, y468.snd.fst, y468.snd.snd.fst,
                          ())).bind
                    fun y467 =>
                    some
                      (Sum.inl
                        (y467.fst, y467.snd.fst, y467.snd.snd.fst, y467.snd.snd.snd.fst, y467.snd.snd.snd.snd.fst,
                          y467.snd.snd.snd.snd.snd.fst, y467.snd.snd.snd.snd.snd.snd.fst, y467.snd.snd.snd.snd.snd.snd.snd.fst,
                          y467.snd.snd.snd.snd.snd.snd.snd.snd.fst, y467.snd.snd.snd.snd.snd.snd.snd.snd.snd.fst,
                          y467.snd.snd.snd.snd.snd.snd.snd.snd.snd.snd.fst, y467.snd.snd.snd.snd.snd.snd.snd.snd.snd.snd.snd.fst,
                          y467.snd.snd.snd.snd.snd.snd.snd.snd.snd.snd.snd.snd.fst, ())))
                (fun y470 =>
                  (j4_25
                        (x.fst, x.snd.fst, x.snd.snd.fst, x.snd.snd.snd.fst, x.snd.snd.snd.snd.fst, y470.snd.fst, y470.snd.snd.fst,
                          y470.snd.snd.snd.fst, y470.snd.snd.snd.snd.fst, y470.snd.snd.snd.snd.snd.fst, y470.snd.snd.snd.snd.snd.snd.fst,
                          y470.snd.snd.snd.snd.snd.snd.snd.fst, y470.snd.snd.snd.snd.snd.snd.snd.snd.fst, ())).bind
                    fun y469 =>
                    some
                      (Sum.inl
                        (y469.fst, y469.snd.fst, y469.snd.snd.fst, y469.snd.snd.snd.fst, y469.snd.snd.snd.snd.fst,
                          y469.snd.snd.snd.snd.snd.fst, y469.snd.snd.snd.snd.snd.snd.fst, y469.snd.snd.snd.snd.snd.snd.snd.fst,
                          y469.snd.snd.snd.snd.snd.snd.snd.snd.fst, y469.snd.snd.snd.snd.snd.snd.snd.snd.snd.fst,
                          y469.snd.snd.snd.snd.snd.snd.snd.snd.snd.snd.fst, y469.snd.snd.snd.snd.snd.snd.snd.snd.snd.snd.snd.fst,
                          y469.snd.snd.snd.snd.snd.snd.snd.snd.snd.snd.snd.snd.fst, ())))
                y471
          else none
        else none
    else
      (l4_6
            (x.fst, x.snd.fst, (0 : Nat), (0 : Int), x.snd.snd.fst, x.snd.snd.snd.fst, x.snd.snd.snd.snd.fst, x.snd.snd.snd.snd.snd.fst,
              x.snd.snd.snd.snd.snd.snd.fst, x.snd.snd.snd.snd.snd.snd.snd.fst, x.snd.snd.snd.snd.snd.snd.snd.snd.fst,
              x.snd.snd.snd.snd.snd.snd.snd.snd.snd.fst, x.snd.snd.snd.snd.snd.snd.snd.snd.snd.snd.fst, [],
              x.snd.snd.snd.snd.snd.snd.snd.snd.snd.snd.snd.fst, x.snd.snd.snd.snd.snd.snd.snd.snd.snd.snd.snd.snd.fst, ())).bind
        fun y486 =>
        (idxO y486.fst y486.snd.fst).bind fun y485 =>
          (idxO y486.fst y486.snd.fst).bind fun y484 =>
            bif
                decide
                  ((0 : Nat) + y486.snd.snd.snd.snd.snd.snd.snd.snd.fst ≤
                    y486.snd.snd.snd.snd.snd.snd.snd.snd.snd.snd.snd.snd.snd.fst.length) then
              bif
                  decide
                    ((0 : Nat) + y486.snd.snd.snd.snd.snd.snd.snd.snd.snd.snd.snd.fst ≤
                      y486.snd.snd.snd.snd.snd.snd.snd.snd.snd.snd.snd.snd.snd.snd.fst.length) then
                (f16
                      (y485.X, y485.Y, y484.K.tmod (3 : Int) == (1 : Int),
                        List.take y486.snd.snd.snd.snd.snd.snd.snd.snd.fst
                          (List.drop (0 : Nat) y486.snd.snd.snd.snd.snd.snd.snd.snd.snd.snd.snd.snd.snd.fst),
                        List.take y486.snd.snd.snd.snd.snd.snd.snd.snd.snd.snd.snd.fst
                          (List.drop (0 : Nat) y486.snd.snd.snd.snd.snd.snd.snd.snd.snd.snd.snd.snd.snd.snd.fst),
                        y486.snd.snd.snd.snd.snd.snd.fst, y486.snd.snd.snd.snd.snd.snd.snd.fst, y486.snd.snd.snd.snd.snd.snd.snd.snd.fst,
                        y486.snd.snd.snd.snd.snd.snd.snd.snd.snd.fst, y486.snd.snd.snd.snd.snd.snd.snd.snd.snd.snd.fst,
                        y486.snd.snd.snd.snd.snd.snd.snd.snd.snd.snd.snd.fst, ())).bind
                  fun y483 =>
                  Sum.elim
                    (fun y477 =>
                      (j4_52
                            (y486.fst, y486.snd.fst, y486.snd.snd.fst, y486.snd.snd.snd.fst, y486.snd.snd.snd.snd.fst,
                              y486.snd.snd.snd.snd.snd.fst, y477.snd.snd.snd.fst, y477.snd.snd.snd.snd.fst, y477.snd.snd.snd.snd.snd.fst,
                              y477.snd.snd.snd.snd.snd.snd.fst, y477.snd.snd.snd.snd.snd.snd.snd.fst,
                              y477.snd.snd.snd.snd.snd.snd.snd.snd.fst, y486.snd.snd.snd.snd.snd.snd.snd.snd.snd.snd.snd.snd.fst,
                              y477.snd.fst, y477.snd.snd.fst, ())).bind
                        fun y476 =>
                        Sum.elim (fun y473 => some (Sum.inr (Sum.inl (y473.fst, ()))))
                          (fun y475 =>
                            (j4_25
                                  (y475.fst, y475.snd.fst, y475.snd.snd.fst, y475.snd.snd.snd.fst, y475.snd.snd.snd.snd.fst,
                                    y475.snd.snd.snd.snd.snd.fst, y475.snd.snd.snd.snd.snd.snd.fst, y475.snd.snd.snd.snd.snd.snd.snd.fst,
                                    y475.snd.snd.snd.snd.snd.snd.snd.snd.fst, y475.snd.snd.snd.snd.snd.snd.snd.snd.snd.fst,
                                    y475.snd.snd.snd.snd.snd.snd.snd.snd.snd.snd.fst, y475.snd.snd.snd.snd.snd.snd.snd.snd.snd.snd.snd.fst,
                                    y475.snd.snd.snd.snd.snd.snd.snd.snd.snd.snd.snd.snd.fst, ())).bind
                              fun y474 =>
                              some
                                (Sum.inl
                                  (y474.fst, y474.snd.fst, y474.snd.snd.fst, y474.snd.snd.snd.fst, y474.snd.snd.snd.snd.fst,
                                    y474.snd.snd.snd.snd.snd.fst, y474.snd.snd.snd.snd.snd.snd.fst, y474.snd.snd.snd.snd.snd.snd.snd.fst,
                                    y474.snd.snd.snd.snd.snd.snd.snd.snd.fst, y474.snd.snd.snd.snd.snd.snd.snd.snd.snd.fst,
                                    y474.snd.snd.snd.snd.snd.snd.snd.snd.snd.snd.fst, y474.snd.snd.snd.snd.snd.snd.snd.snd.snd.snd.snd.fst,
                                    y474.snd.snd.snd.snd.snd.snd.snd.snd.snd.snd.snd.snd.fst, ())))
                          y476)
                    (fun y482 =>
                      (j4_52
                            (y486.fst, y486.snd.fst, y486.snd.snd.fst, y486.snd.snd.snd.fst, y486.snd.snd.snd.snd.fst,
                              y486.snd.snd.snd.snd.snd.fst, y482.snd.fst, y482.snd.snd.fst, y482.snd.snd.snd.fst, y482.snd.snd.snd.snd.fst,
                              y482.snd.snd.snd.snd.snd.fst, y482.snd.snd.snd.snd.snd.snd.fst,
                              y486.snd.snd.snd.snd.snd.snd.snd.snd.snd.snd.snd.snd.fst, y482.snd.snd.snd.snd.snd.snd.snd.fst,
                              y482.snd.snd.snd.snd.snd.snd.snd.snd.fst, ())).bind
                        fun y481 =>
                        Sum.elim (fun y478 => some (Sum.inr (Sum.inl (y478.fst, ()))))
                          (fun y480 =>
                            (j4_25
                                  (y480.fst, y480.snd.fst, y480.snd.snd.fst, y480.snd.snd.snd.fst, y480.snd.snd.snd.snd.fst,
                                    y480.snd.snd.snd.snd.snd.fst, y480.snd.snd.snd.snd.snd.snd.fst, y480.snd.snd.snd.snd.snd.snd.snd.fst,
                                    y480.snd.snd.snd.snd.snd.snd.snd.snd.fst, y480.snd.snd.snd.snd.snd.snd.snd.snd.snd.fst,
                                    y480.snd.snd.snd.snd.snd.snd.snd.snd.snd.snd.fst, y480.snd.snd.snd.snd.snd.snd.snd.snd.snd.snd.snd.fst,
                                    y480.snd.snd.snd.snd.snd.snd.snd.snd.snd.snd.snd.snd.fst, ())).bind
                              fun y479 =>
                              some
                                (Sum.inl
                                  (y479.fst, y479.snd.fst, y479.snd.snd.fst, y479.snd.snd.snd.fst, y479.snd.snd.snd.snd.fst,
                                    y479.snd.snd.snd.snd.snd.fst, y479.snd.snd.snd.snd.snd.snd.fst, y479.snd.snd.snd.snd.snd.snd.snd.fst,
                                    y479.snd.snd.snd.snd.snd.snd.snd.snd.fst, y479.snd.snd.snd.snd.snd.snd.snd.snd.snd.fst,
                                    y479.snd.snd.snd.snd.snd.snd.snd.snd.snd.snd.fst, y479.snd.snd.snd.snd.snd.snd.snd.snd.snd.snd.snd.fst,
                                    y479.snd.snd.snd.snd.snd.snd.snd.snd.snd.snd.snd.snd.fst, ())))
                          y481)
                    y483
              else none
            else none
else some (Sum.inr (Sum.inr ()))
theorem r4_0_run0 (v0 : List Ac) (v1 : Int) (v2 : Int) (v3 : Int) (v4 : List Int) (v5 : Int) (v6 : Int) (v7 : Nat) (v8 : Int) (v9 : Int) (v10 : Nat) (v11 : List Int) (v12 : List Int) : roundK tC G4 (look [(6, W4_6), (52, W4_52), (25, W4_25)]) c4_0 p4_0 (v0, v1, v2, v3, v4, v5, v6, v7, v8, v9, v10, v11, v12, ()) = r4_0 (v0, v1, v2, v3, v4, v5, v6, v7, v8, v9, v10, v11, v12, ()) := by kernel_rfl
theorem r4_0_run (x : List Ac × Int × Int × Int × List Int × Int × Int × Nat × Int × Int × Nat × List Int × List Int × Unit) : roundK tC G4 (look [(6, W4_6), (52, W4_52), (25, W4_25)]) c4_0 p4_0 x = r4_0 x := r4_0_run0 x.1 x.2.1 x.2.2.1 x.2.2.2.1 x.2.2.2.2.1 x.2.2.2.2.2.1 x.2.2.2.2.2.2.1 x.2.2.2.2.2.2.2.1 x.2.2.2.2.2.2.2.2.1 x.2.2.2.2.2.2.2.2.2.1 x.2.2.2.2.2.2.2.2.2.2.1 x.2.2.2.2.2.2.2.2.2.2.2.1 x.2.2.2.2.2.2.2.2.2.2.2.2.1
noncomputable def l4_0 (x : List Ac × Int × Int × Int × List Int × Int × Int × Nat × Int × Int × Nat × List Int × List Int × Unit) : Option (Bool × Unit ⊕ Unit) := iterO r4_0 x
noncomputable def W4_0 : LF tC := loopW tC p4_0 0 l4_0
theorem W4_0_ok : keyed 0 (bodyOf Try.f4) = [.block 0 (.loop c4_0)] ∧ ∀ n, n ≤ 0 → Snd tC n (.block 0 (.loop c4_0)) W4_0.k := ⟨by kernel_rfl, fun n hn => loopW_ok (p := p4_0) (id := 0) Y4 (lam_le (lam_cons W4_6_ok (lam_cons W4_52_ok (lam_cons W4_25_ok lam_nil))) n hn) hn r4_0_run⟩
def S4 : FS := ⟨[[.v, .v, .s 5], [.v, .v], [.s 47]], [⟨[.one (.agg [.int .i64, .int .i64, .imm 5]), .one (.agg [.int .i64, .int .i64]), .one (.one (.imm 47))], []⟩], [⟨[vO], []⟩], [[.v]], []⟩
noncomputable def f4 (x : Int × Int × List Int × Int × Int × List Ac × Unit) : Option (Bool × Unit) :=
  (f9 ()).bind fun y503 =>
  bif !y503.fst then (f9 ()).bind fun y490 => some (y490.fst, ())
  else
    bif !f20 x.fst x.snd.fst x.snd.snd.fst x.snd.snd.snd.snd.snd.fst then (f9 ()).bind fun y491 => some (y491.fst, ())
    else
      (f10 (x.fst, x.snd.fst, x.snd.snd.fst, x.snd.snd.snd.fst, x.snd.snd.snd.snd.fst, ())).bind fun y502 =>
        Sum.elim
          (fun _x => (f11 (x.fst, x.snd.fst, x.snd.snd.fst, ())).bind fun y492 => bif !y492.fst then some (true, ()) else some (true, ()))
          (fun y501 =>
            Sum.elim
              (fun _x =>
                (f11 (x.fst, x.snd.fst, x.snd.snd.fst, ())).bind fun y494 => bif !y494.fst then some (true, ()) else some (true, ()))
              (fun y500 =>
                (f11 (x.fst, x.snd.fst, x.snd.snd.fst, ())).bind fun y499 =>
                  bif !y499.fst then some (false, ())
                  else
                    (l4_0
                          (x.snd.snd.snd.snd.snd.fst, (0 : Int), x.fst, x.snd.fst, x.snd.snd.fst, y500.fst, y500.snd.fst, y500.snd.snd.fst,
                            y500.snd.snd.snd.fst, y500.snd.snd.snd.snd.fst, y500.snd.snd.snd.snd.snd.fst, y500.snd.snd.snd.snd.snd.snd.fst,
                            y500.snd.snd.snd.snd.snd.snd.snd.fst, ())).bind
                      fun y498 => Sum.elim (fun y496 => some (y496.fst, ())) (fun _x => some (true, ())) y498)
              y501)
          y502
noncomputable def F4 : CF tC := mkF tC S4 f4
theorem f4_run : ∀ a, fnS tC G4 (look [(0, W4_0)]) Try.f4 S4 a = f4 a := fun a => by kernel_rfl
theorem F4_ok : CFOK tC 4 F4 := mkF_ok Y4 (fn := Try.f4) (body := bodyOf Try.f4) (by kernel_rfl) (by kernel_rfl) (by kernel_rfl) (m := 0) rfl (lam_le (lam_cons W4_0_ok lam_nil)) f4_run
end Go.AE
