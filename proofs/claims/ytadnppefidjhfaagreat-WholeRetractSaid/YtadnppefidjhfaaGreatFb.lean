/-
  The plain functions that the seat's Go functions compute, each with the proof that the function keeps it. Printed by the generator (Gen2) and checked by the kernel.
-/
import Derived.Test.YtadnppefidjhfaaGreatLk
import Derived.Test.YtadnppefidjhfaaGreatCl
namespace Go.AE
open Go.Proofs Go.RowKit
set_option maxRecDepth 100000

/-! evidence.Of -/
noncomputable def G19 : FuncId → Option (CF tC) := look [(30, F30), (31, F31), (32, F32), (33, F33), (34, F34), (35, F35), (36, F36)]
theorem Y19 : SysN tC G19 := (sys_cons F30_ok (mkF_nat _ _) (sys_cons F31_ok (mkF_nat _ _) (sys_cons F32_ok (mkF_nat _ _) (sys_cons F33_ok (mkF_nat _ _) (sys_cons F34_ok (mkF_nat _ _) (sys_cons F35_ok (mkF_nat _ _) (sys_cons F36_ok (mkF_nat _ _) (sys_nil tC_ok tC_eq))))))))
noncomputable def c19_64 : Code := subCode (loopOf (subCode (loopOf (bodyOf Tryz.f19) 0) 43) 2) 64
def p19_64 : PS := ⟨0, [2, 6, 7, 12, 48, 49, 50, 78, 79, 80], ⟨[vB, vB, .one (.one (.ptr 0 0 0)), vB, vB, vB, .one (.one (.mp 1)), .one (.one (.ptr 2 0 0))] ++ vBs 4 ++ [.one (.one (.sl 3))] ++ vBs 35 ++ [.one (.one (.imm 49)), vI, vI] ++ vBs 27 ++ [.one (.one (.sl 4)), vI, vI] ++ vBs 16, [.box [.int .i64, .int .i64, .int .i64], .map 66 68, .box [.int .i64, .int .i64], .arr 66, .arr 66]⟩, [⟨.normal, [2, 6, 7, 12, 48, 49, 50, 78, 79, 80], ⟨[vB, vB, .one (.one (.ptr 0 0 0)), vB, vB, vB, .one (.one (.mp 1)), .one (.one (.ptr 2 0 0))] ++ vBs 4 ++ [.one (.one (.sl 3))] ++ vBs 35 ++ [.one (.one (.imm 49)), vI, vI] ++ vBs 27 ++ [.one (.one (.sl 4)), vI, vI] ++ vBs 16, [.box [.int .i64, .int .i64, .int .i64], .map 66 68, .box [.int .i64, .int .i64], .arr 66, .arr 66]⟩, []⟩], []⟩
noncomputable def j19_64 (x : Nat × List Bm × Int × Int × Nat × Int × Int × Int × Int × Int × List (Pt × En) × Int × Int × List Pt × List Pt × Unit) : Option (Nat × List Bm × Int × Int × Nat × Int × Int × Int × Int × Int × List (Pt × En) × Int × Int × List Pt × List Pt × Unit) :=
  some
  (x.fst, x.snd.fst, x.snd.snd.fst, x.snd.snd.snd.fst, x.snd.snd.snd.snd.fst, x.snd.snd.snd.snd.snd.fst,
    IntKind.i64.wrap (x.snd.snd.snd.snd.snd.snd.fst + (1 : Int)), x.snd.snd.snd.snd.snd.snd.snd.fst, x.snd.snd.snd.snd.snd.snd.snd.snd.fst,
    x.snd.snd.snd.snd.snd.snd.snd.snd.snd.fst, x.snd.snd.snd.snd.snd.snd.snd.snd.snd.snd.fst,
    x.snd.snd.snd.snd.snd.snd.snd.snd.snd.snd.snd.fst, x.snd.snd.snd.snd.snd.snd.snd.snd.snd.snd.snd.snd.fst,
    x.snd.snd.snd.snd.snd.snd.snd.snd.snd.snd.snd.snd.snd.fst, x.snd.snd.snd.snd.snd.snd.snd.snd.snd.snd.snd.snd.snd.snd.fst, ())
theorem j19_64_run0 (v0 : Nat) (v1 : List Bm) (v2 : Int) (v3 : Int) (v4 : Nat) (v5 : Int) (v6 : Int) (v7 : Int) (v8 : Int) (v9 : Int) (v10 : List (Pt × En)) (v11 : Int) (v12 : Int) (v13 : List Pt) (v14 : List Pt) : pieceK tC G19 (look []) c19_64 p19_64 (v0, v1, v2, v3, v4, v5, v6, v7, v8, v9, v10, v11, v12, v13, v14, ()) = j19_64 (v0, v1, v2, v3, v4, v5, v6, v7, v8, v9, v10, v11, v12, v13, v14, ()) := by kernel_rfl
theorem j19_64_run (x : Nat × List Bm × Int × Int × Nat × Int × Int × Int × Int × Int × List (Pt × En) × Int × Int × List Pt × List Pt × Unit) : pieceK tC G19 (look []) c19_64 p19_64 x = j19_64 x := j19_64_run0 x.1 x.2.1 x.2.2.1 x.2.2.2.1 x.2.2.2.2.1 x.2.2.2.2.2.1 x.2.2.2.2.2.2.1 x.2.2.2.2.2.2.2.1 x.2.2.2.2.2.2.2.2.1 x.2.2.2.2.2.2.2.2.2.1 x.2.2.2.2.2.2.2.2.2.2.1 x.2.2.2.2.2.2.2.2.2.2.2.1 x.2.2.2.2.2.2.2.2.2.2.2.2.1 x.2.2.2.2.2.2.2.2.2.2.2.2.2.1 x.2.2.2.2.2.2.2.2.2.2.2.2.2.2.1
noncomputable def W19_64 : LF tC := cutLF tC p19_64 j19_64
theorem W19_64_ok : keyed 64 (loopOf (subCode (loopOf (bodyOf Tryz.f19) 0) 43) 2) = [c19_64] ∧ ∀ n, n ≤ 0 → Snd tC n c19_64 W19_64.k := ⟨by kernel_rfl, fun n hn => cut_ok (p := p19_64) Y19 (lam_le lam_nil n hn) hn j19_64_run⟩
noncomputable def c19_6 : Code := loopOf (subCode (loopOf (bodyOf Tryz.f19) 0) 43) 2
def p19_6 : LS := ⟨0, [2, 6, 7, 12, 48, 49, 50, 78, 79, 80], ⟨[vB, vB, .one (.one (.ptr 0 0 0)), vB, vB, vB, .one (.one (.mp 1)), .one (.one (.ptr 2 0 0))] ++ vBs 4 ++ [.one (.one (.sl 3))] ++ vBs 35 ++ [.one (.one (.imm 49)), vI, vI] ++ vBs 27 ++ [.one (.one (.sl 4)), vI, vI] ++ vBs 16, [.box [.int .i64, .int .i64, .int .i64], .map 66 68, .box [.int .i64, .int .i64], .arr 66, .arr 66]⟩, [⟨.exit 2, [2, 6, 7, 48, 49, 50], ⟨[vB, vB, .one (.one (.ptr 0 0 0)), vB, vB, vB, .one (.one (.mp 1)), .one (.one (.ptr 2 0 0))] ++ vBs 40 ++ [.one (.one (.imm 49)), vI, vI] ++ vBs 46, [.box [.int .i64, .int .i64, .int .i64], .map 66 68, .box [.int .i64, .int .i64]]⟩, []⟩], []⟩
noncomputable def r19_6 (x : Nat × List Bm × Int × Int × Nat × Int × Int × Int × Int × Int × List (Pt × En) × Int × Int × List Pt × List Pt × Unit) : Option
  (Nat × List Bm × Int × Int × Nat × Int × Int × Int × Int × Int × List (Pt × En) × Int × Int × List Pt × List Pt × Unit ⊕
    List Bm × Int × Int × Int × Int × Int × List (Pt × En) × Int × Int × Unit) :=
  bif decide (x.snd.snd.snd.snd.snd.snd.fst < x.snd.snd.snd.snd.snd.fst) then
  bif decide ((0 : Int) ≤ x.snd.snd.snd.snd.snd.snd.fst) && decide (x.snd.snd.snd.snd.snd.snd.fst < (↑x.snd.snd.snd.snd.fst : Int)) then
    x.snd.snd.snd.snd.snd.snd.snd.snd.snd.snd.snd.snd.snd.snd.fst[(0 : Nat) + x.snd.snd.snd.snd.snd.snd.fst.toNat]?.bind fun y129 =>
      bif decide ((0 : Nat) + x.fst ≤ x.snd.snd.snd.snd.snd.snd.snd.snd.snd.snd.snd.snd.snd.fst.length) then
        (f34 (List.take x.fst (List.drop (0 : Nat) x.snd.snd.snd.snd.snd.snd.snd.snd.snd.snd.snd.snd.snd.fst), y129.X, y129.Y, ())).bind
          fun y128 =>
          bif y128.fst then
            (j19_64
                  (x.fst, x.snd.fst, x.snd.snd.fst, x.snd.snd.snd.fst, x.snd.snd.snd.snd.fst, x.snd.snd.snd.snd.snd.fst,
                    x.snd.snd.snd.snd.snd.snd.fst, x.snd.snd.snd.snd.snd.snd.snd.fst, x.snd.snd.snd.snd.snd.snd.snd.snd.fst,
                    x.snd.snd.snd.snd.snd.snd.snd.snd.snd.fst,
                    f35 y129.X y129.Y (1 : Int) (0 : Int) x.snd.snd.snd.snd.snd.snd.snd.snd.snd.snd.fst,
                    x.snd.snd.snd.snd.snd.snd.snd.snd.snd.snd.snd.fst, x.snd.snd.snd.snd.snd.snd.snd.snd.snd.snd.snd.snd.fst,
                    x.snd.snd.snd.snd.snd.snd.snd.snd.snd.snd.snd.snd.snd.fst,
                    x.snd.snd.snd.snd.snd.snd.snd.snd.snd.snd.snd.snd.snd.snd.fst, ())).bind
              fun y126 =>
              some
                (Sum.inl
                  (y126.fst, y126.snd.fst, y126.snd.snd.fst, y126.snd.snd.snd.fst, y126.snd.snd.snd.snd.fst, y126.snd.snd.snd.snd.snd.fst,
                    y126.snd.snd.snd.snd.snd.snd.fst, y126.snd.snd.snd.snd.snd.snd.snd.fst, y126.snd.snd.snd.snd.snd.snd.snd.snd.fst,
                    y126.snd.snd.snd.snd.snd.snd.snd.snd.snd.fst, y126.snd.snd.snd.snd.snd.snd.snd.snd.snd.snd.fst,
                    y126.snd.snd.snd.snd.snd.snd.snd.snd.snd.snd.snd.fst, y126.snd.snd.snd.snd.snd.snd.snd.snd.snd.snd.snd.snd.fst,
                    y126.snd.snd.snd.snd.snd.snd.snd.snd.snd.snd.snd.snd.snd.fst,
                    y126.snd.snd.snd.snd.snd.snd.snd.snd.snd.snd.snd.snd.snd.snd.fst, ()))
          else
            (j19_64
                  (x.fst, x.snd.fst, x.snd.snd.fst, x.snd.snd.snd.fst, x.snd.snd.snd.snd.fst, x.snd.snd.snd.snd.snd.fst,
                    x.snd.snd.snd.snd.snd.snd.fst, x.snd.snd.snd.snd.snd.snd.snd.fst, x.snd.snd.snd.snd.snd.snd.snd.snd.fst,
                    x.snd.snd.snd.snd.snd.snd.snd.snd.snd.fst,
                    f35 y129.X y129.Y (0 : Int) (1 : Int) x.snd.snd.snd.snd.snd.snd.snd.snd.snd.snd.fst,
                    x.snd.snd.snd.snd.snd.snd.snd.snd.snd.snd.snd.fst, x.snd.snd.snd.snd.snd.snd.snd.snd.snd.snd.snd.snd.fst,
                    x.snd.snd.snd.snd.snd.snd.snd.snd.snd.snd.snd.snd.snd.fst,
                    x.snd.snd.snd.snd.snd.snd.snd.snd.snd.snd.snd.snd.snd.snd.fst, ())).bind
              fun y127 =>
              some
                (Sum.inl
                  (y127.fst, y127.snd.fst, y127.snd.snd.fst, y127.snd.snd.snd.fst, y127.snd.snd.snd.snd.fst, y127.snd.snd.snd.snd.snd.fst,
                    y127.snd.snd.snd.snd.snd.snd.fst, y127.snd.snd.snd.snd.snd.snd.snd.fst, y127.snd.snd.snd.snd.snd.snd.snd.snd.fst,
                    y127.snd.snd.snd.snd.snd.snd.snd.snd.snd.fst, y127.snd.snd.snd.snd.snd.snd.snd.snd.snd.snd.fst,
                    y127.snd.snd.snd.snd.snd.snd.snd.snd.snd.snd.snd.fst, y127.snd.snd.snd.snd.snd.snd.snd.snd.snd.snd.snd.snd.fst,
                    y127.snd.snd.snd.snd.snd.snd.snd.snd.snd.snd.snd.snd.snd.fst,
                    y127.snd.snd.snd.snd.snd.snd.snd.snd.snd.snd.snd.snd.snd.snd.fst, ()))
      else none
  else none
else
  some
    (Sum.inr
      (x.snd.fst, x.snd.snd.fst, x.snd.snd.snd.fst, x.snd.snd.snd.snd.snd.snd.snd.fst, x.snd.snd.snd.snd.snd.snd.snd.snd.fst,
        x.snd.snd.snd.snd.snd.snd.snd.snd.snd.fst, x.snd.snd.snd.snd.snd.snd.snd.snd.snd.snd.fst,
        x.snd.snd.snd.snd.snd.snd.snd.snd.snd.snd.snd.fst, x.snd.snd.snd.snd.snd.snd.snd.snd.snd.snd.snd.snd.fst, ()))
theorem r19_6_run0 (v0 : Nat) (v1 : List Bm) (v2 : Int) (v3 : Int) (v4 : Nat) (v5 : Int) (v6 : Int) (v7 : Int) (v8 : Int) (v9 : Int) (v10 : List (Pt × En)) (v11 : Int) (v12 : Int) (v13 : List Pt) (v14 : List Pt) : roundK tC G19 (look [(64, W19_64)]) c19_6 p19_6 (v0, v1, v2, v3, v4, v5, v6, v7, v8, v9, v10, v11, v12, v13, v14, ()) = r19_6 (v0, v1, v2, v3, v4, v5, v6, v7, v8, v9, v10, v11, v12, v13, v14, ()) := by kernel_rfl
theorem r19_6_run (x : Nat × List Bm × Int × Int × Nat × Int × Int × Int × Int × Int × List (Pt × En) × Int × Int × List Pt × List Pt × Unit) : roundK tC G19 (look [(64, W19_64)]) c19_6 p19_6 x = r19_6 x := r19_6_run0 x.1 x.2.1 x.2.2.1 x.2.2.2.1 x.2.2.2.2.1 x.2.2.2.2.2.1 x.2.2.2.2.2.2.1 x.2.2.2.2.2.2.2.1 x.2.2.2.2.2.2.2.2.1 x.2.2.2.2.2.2.2.2.2.1 x.2.2.2.2.2.2.2.2.2.2.1 x.2.2.2.2.2.2.2.2.2.2.2.1 x.2.2.2.2.2.2.2.2.2.2.2.2.1 x.2.2.2.2.2.2.2.2.2.2.2.2.2.1 x.2.2.2.2.2.2.2.2.2.2.2.2.2.2.1
noncomputable def l19_6 (x : Nat × List Bm × Int × Int × Nat × Int × Int × Int × Int × Int × List (Pt × En) × Int × Int × List Pt × List Pt × Unit) : Option (List Bm × Int × Int × Int × Int × Int × List (Pt × En) × Int × Int × Unit) := iterO r19_6 x
noncomputable def W19_6 : LF tC := loopW tC p19_6 2 l19_6
theorem W19_6_ok : keyed 6 (subCode (loopOf (bodyOf Tryz.f19) 0) 43) = [.block 2 (.loop c19_6)] ∧ ∀ n, n ≤ 0 → Snd tC n (.block 2 (.loop c19_6)) W19_6.k := ⟨by kernel_rfl, fun n hn => loopW_ok (p := p19_6) (id := 2) Y19 (lam_le (lam_cons W19_64_ok lam_nil) n hn) hn r19_6_run⟩
noncomputable def c19_43 : Code := subCode (loopOf (bodyOf Tryz.f19) 0) 43
def p19_43 : PS := ⟨0, [2, 6, 7, 10, 11, 12, 48, 49, 50], ⟨[vB, vB, .one (.one (.ptr 0 0 0)), vB, vB, vB, .one (.one (.mp 1)), .one (.one (.ptr 2 0 0)), vB, vB, .one (.one (.ptr 3 0 0)), vI, .one (.one (.sl 4))] ++ vBs 35 ++ [.one (.one (.imm 49)), vI, vI] ++ vBs 46, [.box [.int .i64, .int .i64, .int .i64], .map 66 68, .box [.int .i64, .int .i64], .box [.int .i64, .int .i64, .int .i64], .arr 66]⟩, [⟨.normal, [2, 6, 7, 48, 49, 50], ⟨[vB, vB, .one (.one (.ptr 0 0 0)), vB, vB, vB, .one (.one (.mp 1)), .one (.one (.ptr 2 0 0))] ++ vBs 40 ++ [.one (.one (.imm 49)), vI, vI] ++ vBs 46, [.box [.int .i64, .int .i64, .int .i64], .map 66 68, .box [.int .i64, .int .i64]]⟩, []⟩], [(12, 66)]⟩
noncomputable def j19_43 (x : Int × Nat × List Bm × Int × Int × Int × Int × Int × List (Pt × En) × Int × Int × Int × Int × Int × List Pt × Unit) : Option (List Bm × Int × Int × Int × Int × Int × List (Pt × En) × Int × Int × Unit) :=
  (f33
      (x.snd.snd.snd.snd.snd.snd.snd.snd.snd.fst, x.snd.snd.snd.snd.snd.snd.snd.snd.snd.snd.fst,
        x.snd.snd.snd.snd.snd.snd.snd.snd.snd.snd.snd.fst, x.snd.snd.snd.snd.snd.snd.snd.snd.snd.snd.snd.snd.fst,
        x.snd.snd.snd.snd.snd.snd.snd.snd.snd.snd.snd.snd.snd.fst, (0 : Int), x.fst, ())).bind
  fun y149 =>
  (l19_6
        (x.snd.fst, x.snd.snd.fst, x.snd.snd.snd.fst, x.snd.snd.snd.snd.fst, y149.fst, (↑y149.fst : Int), (0 : Int),
          x.snd.snd.snd.snd.snd.fst, x.snd.snd.snd.snd.snd.snd.fst, x.snd.snd.snd.snd.snd.snd.snd.fst,
          x.snd.snd.snd.snd.snd.snd.snd.snd.fst, x.snd.snd.snd.snd.snd.snd.snd.snd.snd.fst, x.snd.snd.snd.snd.snd.snd.snd.snd.snd.snd.fst,
          x.snd.snd.snd.snd.snd.snd.snd.snd.snd.snd.snd.snd.snd.snd.fst, y149.snd.snd.fst, ())).bind
    fun y148 =>
    some
      (y148.fst, y148.snd.fst, y148.snd.snd.fst, y148.snd.snd.snd.fst, y148.snd.snd.snd.snd.fst, y148.snd.snd.snd.snd.snd.fst,
        y148.snd.snd.snd.snd.snd.snd.fst, y148.snd.snd.snd.snd.snd.snd.snd.fst, y148.snd.snd.snd.snd.snd.snd.snd.snd.fst, ())
theorem j19_43_run0 (v0 : Int) (v1 : Nat) (v2 : List Bm) (v3 : Int) (v4 : Int) (v5 : Int) (v6 : Int) (v7 : Int) (v8 : List (Pt × En)) (v9 : Int) (v10 : Int) (v11 : Int) (v12 : Int) (v13 : Int) (v14 : List Pt) : pieceK tC G19 (look [(6, W19_6)]) c19_43 p19_43 (v0, v1, v2, v3, v4, v5, v6, v7, v8, v9, v10, v11, v12, v13, v14, ()) = j19_43 (v0, v1, v2, v3, v4, v5, v6, v7, v8, v9, v10, v11, v12, v13, v14, ()) := by kernel_rfl
theorem j19_43_run (x : Int × Nat × List Bm × Int × Int × Int × Int × Int × List (Pt × En) × Int × Int × Int × Int × Int × List Pt × Unit) : pieceK tC G19 (look [(6, W19_6)]) c19_43 p19_43 x = j19_43 x := j19_43_run0 x.1 x.2.1 x.2.2.1 x.2.2.2.1 x.2.2.2.2.1 x.2.2.2.2.2.1 x.2.2.2.2.2.2.1 x.2.2.2.2.2.2.2.1 x.2.2.2.2.2.2.2.2.1 x.2.2.2.2.2.2.2.2.2.1 x.2.2.2.2.2.2.2.2.2.2.1 x.2.2.2.2.2.2.2.2.2.2.2.1 x.2.2.2.2.2.2.2.2.2.2.2.2.1 x.2.2.2.2.2.2.2.2.2.2.2.2.2.1 x.2.2.2.2.2.2.2.2.2.2.2.2.2.2.1
noncomputable def W19_43 : LF tC := cutLF tC p19_43 j19_43
theorem W19_43_ok : keyed 43 (loopOf (bodyOf Tryz.f19) 0) = [c19_43] ∧ ∀ n, n ≤ 0 → Snd tC n c19_43 W19_43.k := ⟨by kernel_rfl, fun n hn => cut_ok (p := p19_43) Y19 (lam_le (lam_cons W19_6_ok lam_nil) n hn) hn j19_43_run⟩
noncomputable def c19_67 : Code := subCode (loopOf (bodyOf Tryz.f19) 0) 67
def p19_67 : PS := ⟨0, [2, 6, 7, 48, 49, 50], ⟨[vB, vB, .one (.one (.ptr 0 0 0)), vB, vB, vB, .one (.one (.mp 1)), .one (.one (.ptr 2 0 0))] ++ vBs 40 ++ [.one (.one (.imm 49)), vI, vI] ++ vBs 46, [.box [.int .i64, .int .i64, .int .i64], .map 66 68, .box [.int .i64, .int .i64]]⟩, [⟨.normal, [2, 6, 7, 48, 49, 50], ⟨[vB, vB, .one (.one (.ptr 0 0 0)), vB, vB, vB, .one (.one (.mp 1)), .one (.one (.ptr 2 0 0))] ++ vBs 40 ++ [.one (.one (.imm 49)), vI, vI] ++ vBs 46, [.box [.int .i64, .int .i64, .int .i64], .map 66 68, .box [.int .i64, .int .i64]]⟩, []⟩], []⟩
noncomputable def j19_67 (x : List Bm × Int × Int × Int × Int × Int × List (Pt × En) × Int × Int × Unit) : Option (List Bm × Int × Int × Int × Int × Int × List (Pt × En) × Int × Int × Unit) :=
  some
  (x.fst, x.snd.fst, IntKind.i64.wrap (x.snd.snd.fst + (1 : Int)), x.snd.snd.snd.fst, x.snd.snd.snd.snd.fst, x.snd.snd.snd.snd.snd.fst,
    x.snd.snd.snd.snd.snd.snd.fst, x.snd.snd.snd.snd.snd.snd.snd.fst, x.snd.snd.snd.snd.snd.snd.snd.snd.fst, ())
theorem j19_67_run0 (v0 : List Bm) (v1 : Int) (v2 : Int) (v3 : Int) (v4 : Int) (v5 : Int) (v6 : List (Pt × En)) (v7 : Int) (v8 : Int) : pieceK tC G19 (look []) c19_67 p19_67 (v0, v1, v2, v3, v4, v5, v6, v7, v8, ()) = j19_67 (v0, v1, v2, v3, v4, v5, v6, v7, v8, ()) := by kernel_rfl
theorem j19_67_run (x : List Bm × Int × Int × Int × Int × Int × List (Pt × En) × Int × Int × Unit) : pieceK tC G19 (look []) c19_67 p19_67 x = j19_67 x := j19_67_run0 x.1 x.2.1 x.2.2.1 x.2.2.2.1 x.2.2.2.2.1 x.2.2.2.2.2.1 x.2.2.2.2.2.2.1 x.2.2.2.2.2.2.2.1 x.2.2.2.2.2.2.2.2.1
noncomputable def W19_67 : LF tC := cutLF tC p19_67 j19_67
theorem W19_67_ok : keyed 67 (loopOf (bodyOf Tryz.f19) 0) = [c19_67] ∧ ∀ n, n ≤ 0 → Snd tC n c19_67 W19_67.k := ⟨by kernel_rfl, fun n hn => cut_ok (p := p19_67) Y19 (lam_le lam_nil n hn) hn j19_67_run⟩
noncomputable def c19_0 : Code := loopOf (bodyOf Tryz.f19) 0
def p19_0 : LS := ⟨0, [2, 6, 7, 48, 49, 50], ⟨[vB, vB, .one (.one (.ptr 0 0 0)), vB, vB, vB, .one (.one (.mp 1)), .one (.one (.ptr 2 0 0))] ++ vBs 40 ++ [.one (.one (.imm 49)), vI, vI] ++ vBs 46, [.box [.int .i64, .int .i64, .int .i64], .map 66 68, .box [.int .i64, .int .i64]]⟩, [⟨.exit 0, [6], ⟨vBs 6 ++ [.one (.one (.mp 0))] ++ vBs 90, [.map 66 68]⟩, []⟩], []⟩
noncomputable def r19_0 (x : List Bm × Int × Int × Int × Int × Int × List (Pt × En) × Int × Int × Unit) : Option (List Bm × Int × Int × Int × Int × Int × List (Pt × En) × Int × Int × Unit ⊕ List (Pt × En) × Unit) :=
  bif decide (x.snd.snd.fst < x.snd.fst) then
  (idxO x.fst x.snd.snd.fst).bind fun y211 =>
    (f32 (x.snd.snd.snd.snd.snd.fst, y211.M, ())).bind fun y210 =>
      bif decide (y211.R < (0 : Int)) then
        (j19_43
              ((1024 : Int), (0 : Nat), x.fst, x.snd.fst, x.snd.snd.fst, x.snd.snd.snd.fst, x.snd.snd.snd.snd.fst,
                x.snd.snd.snd.snd.snd.fst, x.snd.snd.snd.snd.snd.snd.fst, x.snd.snd.snd.snd.snd.snd.snd.fst,
                x.snd.snd.snd.snd.snd.snd.snd.snd.fst, y210.fst, y210.snd.fst, y210.snd.snd.fst, [], ())).bind
          fun y206 =>
          (j19_67
                (y206.fst, y206.snd.fst, y206.snd.snd.fst, y206.snd.snd.snd.fst, y206.snd.snd.snd.snd.fst, y206.snd.snd.snd.snd.snd.fst,
                  y206.snd.snd.snd.snd.snd.snd.fst, y206.snd.snd.snd.snd.snd.snd.snd.fst, y206.snd.snd.snd.snd.snd.snd.snd.snd.fst,
                  ())).bind
            fun y205 =>
            some
              (Sum.inl
                (y205.fst, y205.snd.fst, y205.snd.snd.fst, y205.snd.snd.snd.fst, y205.snd.snd.snd.snd.fst, y205.snd.snd.snd.snd.snd.fst,
                  y205.snd.snd.snd.snd.snd.snd.fst, y205.snd.snd.snd.snd.snd.snd.snd.fst, y205.snd.snd.snd.snd.snd.snd.snd.snd.fst, ()))
      else
        (f33
              (x.snd.snd.snd.snd.snd.snd.snd.fst, x.snd.snd.snd.snd.snd.snd.snd.snd.fst, y210.fst, y210.snd.fst, y210.snd.snd.fst, y211.R,
                y211.R, ())).bind
          fun y209 =>
          (j19_43
                (y211.R, y209.fst, x.fst, x.snd.fst, x.snd.snd.fst, x.snd.snd.snd.fst, x.snd.snd.snd.snd.fst, x.snd.snd.snd.snd.snd.fst,
                  x.snd.snd.snd.snd.snd.snd.fst, x.snd.snd.snd.snd.snd.snd.snd.fst, x.snd.snd.snd.snd.snd.snd.snd.snd.fst, y210.fst,
                  y210.snd.fst, y210.snd.snd.fst, y209.snd.snd.fst, ())).bind
            fun y208 =>
            (j19_67
                  (y208.fst, y208.snd.fst, y208.snd.snd.fst, y208.snd.snd.snd.fst, y208.snd.snd.snd.snd.fst, y208.snd.snd.snd.snd.snd.fst,
                    y208.snd.snd.snd.snd.snd.snd.fst, y208.snd.snd.snd.snd.snd.snd.snd.fst, y208.snd.snd.snd.snd.snd.snd.snd.snd.fst,
                    ())).bind
              fun y207 =>
              some
                (Sum.inl
                  (y207.fst, y207.snd.fst, y207.snd.snd.fst, y207.snd.snd.snd.fst, y207.snd.snd.snd.snd.fst, y207.snd.snd.snd.snd.snd.fst,
                    y207.snd.snd.snd.snd.snd.snd.fst, y207.snd.snd.snd.snd.snd.snd.snd.fst, y207.snd.snd.snd.snd.snd.snd.snd.snd.fst, ()))
else some (Sum.inr (x.snd.snd.snd.snd.snd.snd.fst, ()))
theorem r19_0_run0 (v0 : List Bm) (v1 : Int) (v2 : Int) (v3 : Int) (v4 : Int) (v5 : Int) (v6 : List (Pt × En)) (v7 : Int) (v8 : Int) : roundK tC G19 (look [(43, W19_43), (67, W19_67)]) c19_0 p19_0 (v0, v1, v2, v3, v4, v5, v6, v7, v8, ()) = r19_0 (v0, v1, v2, v3, v4, v5, v6, v7, v8, ()) := by kernel_rfl
theorem r19_0_run (x : List Bm × Int × Int × Int × Int × Int × List (Pt × En) × Int × Int × Unit) : roundK tC G19 (look [(43, W19_43), (67, W19_67)]) c19_0 p19_0 x = r19_0 x := r19_0_run0 x.1 x.2.1 x.2.2.1 x.2.2.2.1 x.2.2.2.2.1 x.2.2.2.2.2.1 x.2.2.2.2.2.2.1 x.2.2.2.2.2.2.2.1 x.2.2.2.2.2.2.2.2.1
noncomputable def l19_0 (x : List Bm × Int × Int × Int × Int × Int × List (Pt × En) × Int × Int × Unit) : Option (List (Pt × En) × Unit) := iterO r19_0 x
noncomputable def W19_0 : LF tC := loopW tC p19_0 0 l19_0
theorem W19_0_ok : keyed 0 (bodyOf Tryz.f19) = [.block 0 (.loop c19_0)] ∧ ∀ n, n ≤ 0 → Snd tC n (.block 0 (.loop c19_0)) W19_0.k := ⟨by kernel_rfl, fun n hn => loopW_ok (p := p19_0) (id := 0) Y19 (lam_le (lam_cons W19_43_ok (lam_cons W19_67_ok lam_nil)) n hn) hn r19_0_run⟩
def S19 : FS := ⟨[[.v, .v, .v], [.s 49]], [⟨[.one (.agg [.int .i64, .int .i64, .int .i64]), .one (.one (.imm 49))], []⟩], [⟨[.tup [.one (.sl 0), .one (.int .i64)]], [.arr 68]⟩], [[.v], [.v]], [(4, 68)]⟩
noncomputable def f19 (x : Int × Int × Int × List Bm × Unit) : Option (Nat × Int × List En × Unit) :=
  bif !f30 x.fst (262144 : Int) then some ((0 : Nat), (1 : Int), [], ())
else
  bif !f30 x.snd.fst (262144 : Int) then some ((0 : Nat), (1 : Int), [], ())
  else
    bif decide (x.snd.snd.fst < (0 : Int)) then some ((0 : Nat), (1 : Int), [], ())
    else
      bif decide (x.snd.snd.fst ≥ (256 : Int)) then some ((0 : Nat), (1 : Int), [], ())
      else
        (f31 (x.snd.snd.snd.fst, ())).bind fun y221 =>
          bif !y221.fst then some ((0 : Nat), (1 : Int), [], ())
          else
            (l19_0
                  (x.snd.snd.snd.fst, (↑x.snd.snd.snd.fst.length : Int), (0 : Int), x.fst, x.snd.fst, x.snd.snd.fst, [], x.fst, x.snd.fst,
                    ())).bind
              fun y220 => (f36 (y220.fst, ())).bind fun y219 => some (y219.fst, (0 : Int), y219.snd.snd.fst, ())
noncomputable def F19 : CF tC := mkF tC S19 f19
theorem f19_run : ∀ a, fnS tC G19 (look [(0, W19_0)]) Tryz.f19 S19 a = f19 a := fun a => by kernel_rfl
theorem F19_ok : CFOK tC 19 F19 := mkF_ok Y19 (fn := Tryz.f19) (body := bodyOf Tryz.f19) (by kernel_rfl) (by kernel_rfl) (by kernel_rfl) (m := 0) rfl (lam_le (lam_cons W19_0_ok lam_nil)) f19_run

/-! evidence.combine -/
noncomputable def G24 : FuncId → Option (CF tC) := look [(28, F28), (35, F35), (36, F36), (41, F41), (42, F42)]
theorem Y24 : SysN tC G24 := (sys_cons F28_ok (mkF_nat _ _) (sys_cons F35_ok (mkF_nat _ _) (sys_cons F36_ok (mkF_nat _ _) (sys_cons F41_ok (mkF_nat _ _) (sys_cons F42_ok (mkF_nat _ _) (sys_nil tC_ok tC_eq))))))
noncomputable def c24_0 : Code := loopOf (bodyOf Tryz.f24) 0
def p24_0 : LS := ⟨0, [1, 2, 8, 23, 24, 25], ⟨[vB, .one (.one (.imm 68)), vI] ++ vBs 5 ++ [.one (.one (.mp 0))] ++ vBs 14 ++ [.one (.one (.imm 68)), vI, vI] ++ vBs 39, [.map 66 68]⟩, [⟨.exit 0, [1, 2, 8], ⟨[vB, .one (.one (.imm 68)), vI] ++ vBs 5 ++ [.one (.one (.mp 0))] ++ vBs 56, [.map 66 68]⟩, []⟩], []⟩
noncomputable def r24_0 (x : List En × Int × List En × Int × Int × List (Pt × En) × Unit) : Option (List En × Int × List En × Int × Int × List (Pt × En) × Unit ⊕ List En × Int × List (Pt × En) × Unit) :=
  bif decide (x.snd.snd.snd.snd.fst < x.snd.snd.snd.fst) then
  (idxO x.snd.snd.fst x.snd.snd.snd.snd.fst).bind fun y16 =>
    some
      (Sum.inl
        (x.fst, x.snd.fst, x.snd.snd.fst, x.snd.snd.snd.fst, IntKind.i64.wrap (x.snd.snd.snd.snd.fst + (1 : Int)),
          f35 y16.X y16.Y y16.A y16.B x.snd.snd.snd.snd.snd.fst, ()))
else some (Sum.inr (x.fst, x.snd.fst, x.snd.snd.snd.snd.snd.fst, ()))
theorem r24_0_run0 (v0 : List En) (v1 : Int) (v2 : List En) (v3 : Int) (v4 : Int) (v5 : List (Pt × En)) : roundK tC G24 (look []) c24_0 p24_0 (v0, v1, v2, v3, v4, v5, ()) = r24_0 (v0, v1, v2, v3, v4, v5, ()) := by kernel_rfl
theorem r24_0_run (x : List En × Int × List En × Int × Int × List (Pt × En) × Unit) : roundK tC G24 (look []) c24_0 p24_0 x = r24_0 x := r24_0_run0 x.1 x.2.1 x.2.2.1 x.2.2.2.1 x.2.2.2.2.1 x.2.2.2.2.2.1
noncomputable def l24_0 (x : List En × Int × List En × Int × Int × List (Pt × En) × Unit) : Option (List En × Int × List (Pt × En) × Unit) := iterO r24_0 x
noncomputable def W24_0 : LF tC := loopW tC p24_0 0 l24_0
theorem W24_0_ok : keyed 0 (bodyOf Tryz.f24) = [.block 0 (.loop c24_0)] ∧ ∀ n, n ≤ 0 → Snd tC n (.block 0 (.loop c24_0)) W24_0.k := ⟨by kernel_rfl, fun n hn => loopW_ok (p := p24_0) (id := 0) Y24 (lam_le lam_nil n hn) hn r24_0_run⟩
noncomputable def c24_6 : Code := loopOf (bodyOf Tryz.f24) 2
def p24_6 : LS := ⟨0, [2, 8, 38, 39, 40], ⟨[vB, vB, vI] ++ vBs 5 ++ [.one (.one (.mp 0))] ++ vBs 29 ++ [.one (.one (.imm 68)), vI, vI] ++ vBs 24, [.map 66 68]⟩, [⟨.exit 2, [8], ⟨vBs 8 ++ [.one (.one (.mp 0))] ++ vBs 56, [.map 66 68]⟩, []⟩], []⟩
noncomputable def r24_6 (x : Int × List En × Int × Int × List (Pt × En) × Unit) : Option (Int × List En × Int × Int × List (Pt × En) × Unit ⊕ List (Pt × En) × Unit) :=
  bif decide (x.snd.snd.snd.fst < x.snd.snd.fst) then
  (idxO x.snd.fst x.snd.snd.snd.fst).bind fun y27 =>
    some
      (Sum.inl
        (x.fst, x.snd.fst, x.snd.snd.fst, IntKind.i64.wrap (x.snd.snd.snd.fst + (1 : Int)),
          f35 y27.X y27.Y (IntKind.i64.wrap (x.fst * y27.A)) (IntKind.i64.wrap (x.fst * y27.B)) x.snd.snd.snd.snd.fst, ()))
else some (Sum.inr (x.snd.snd.snd.snd.fst, ()))
theorem r24_6_run0 (v0 : Int) (v1 : List En) (v2 : Int) (v3 : Int) (v4 : List (Pt × En)) : roundK tC G24 (look []) c24_6 p24_6 (v0, v1, v2, v3, v4, ()) = r24_6 (v0, v1, v2, v3, v4, ()) := by kernel_rfl
theorem r24_6_run (x : Int × List En × Int × Int × List (Pt × En) × Unit) : roundK tC G24 (look []) c24_6 p24_6 x = r24_6 x := r24_6_run0 x.1 x.2.1 x.2.2.1 x.2.2.2.1 x.2.2.2.2.1
noncomputable def l24_6 (x : Int × List En × Int × Int × List (Pt × En) × Unit) : Option (List (Pt × En) × Unit) := iterO r24_6 x
noncomputable def W24_6 : LF tC := loopW tC p24_6 2 l24_6
theorem W24_6_ok : keyed 6 (bodyOf Tryz.f24) = [.block 2 (.loop c24_6)] ∧ ∀ n, n ≤ 0 → Snd tC n (.block 2 (.loop c24_6)) W24_6.k := ⟨by kernel_rfl, fun n hn => loopW_ok (p := p24_6) (id := 2) Y24 (lam_le lam_nil n hn) hn r24_6_run⟩
def S24 : FS := ⟨[[.s 68], [.s 68], [.v]], [⟨[.one (.one (.imm 68)), .one (.one (.imm 68)), vI], []⟩], [⟨[.tup [.one (.sl 0), .one (.int .i64)]], [.arr 68]⟩], [[.v], [.v]], [(6, 68)]⟩
noncomputable def f24 (x : List En × List En × Int × Unit) : Option (Nat × Int × List En × Unit) :=
  (f28 (x.fst, ())).bind fun y41 =>
  bif !y41.fst then some ((0 : Nat), (1 : Int), [], ())
  else
    (f28 (x.snd.fst, ())).bind fun y40 =>
      bif !y40.fst then some ((0 : Nat), (1 : Int), [], ())
      else
        (l24_0 (x.snd.fst, x.snd.snd.fst, x.fst, (↑x.fst.length : Int), (0 : Int), [], ())).bind fun y39 =>
          (l24_6 (y39.snd.fst, y39.fst, (↑y39.fst.length : Int), (0 : Int), y39.snd.snd.fst, ())).bind fun y38 =>
            (f36 (y38.fst, ())).bind fun y37 =>
              bif decide ((0 : Nat) + y37.fst ≤ y37.snd.snd.fst.length) then
                (f41 (List.take y37.fst (List.drop (0 : Nat) y37.snd.snd.fst), ())).bind fun y36 =>
                  bif y36.fst then some ((0 : Nat), (2 : Int), [], ())
                  else
                    bif decide ((↑y37.fst : Int) > (1048576 : Int)) then some ((0 : Nat), (6 : Int), [], ())
                    else some (y37.fst, (0 : Int), y37.snd.snd.fst, ())
              else none
noncomputable def F24 : CF tC := mkF tC S24 f24
theorem f24_run : ∀ a, fnS tC G24 (look [(0, W24_0), (6, W24_6)]) Tryz.f24 S24 a = f24 a := fun a => by kernel_rfl
theorem F24_ok : CFOK tC 24 F24 := mkF_ok Y24 (fn := Tryz.f24) (body := bodyOf Tryz.f24) (by kernel_rfl) (by kernel_rfl) (by kernel_rfl) (m := 0) rfl (lam_le (lam_cons W24_0_ok (lam_cons W24_6_ok lam_nil))) f24_run

/-! evidence.Sub -/
noncomputable def G14 : FuncId → Option (CF tC) := look [(24, F24)]
theorem Y14 : SysN tC G14 := (sys_cons F24_ok (mkF_nat _ _) (sys_nil tC_ok tC_eq))
def S14 : FS := ⟨[[.s 68], [.s 68]], [⟨[.one (.one (.imm 68)), .one (.one (.imm 68))], []⟩], [⟨[.tup [.one (.sl 0), .one (.int .i64)]], [.arr 68]⟩], [[.v], [.v]], [(4, 68)]⟩
noncomputable def f14 (x : List En × List En × Unit) : Option (Nat × Int × List En × Unit) :=
  (f24 (x.fst, x.snd.fst, (-1 : Int), ())).bind fun y9 => some (y9.fst, y9.snd.fst, y9.snd.snd.fst, ())
noncomputable def F14 : CF tC := mkF tC S14 f14
theorem f14_run : ∀ a, fnS tC G14 (look []) Tryz.f14 S14 a = f14 a := fun a => by kernel_rfl
theorem F14_ok : CFOK tC 14 F14 := mkF_ok Y14 (fn := Tryz.f14) (body := bodyOf Tryz.f14) (by kernel_rfl) (by kernel_rfl) (by kernel_rfl) (m := 0) rfl (lam_le lam_nil) f14_run

/-! evidence.Add -/
noncomputable def G15 : FuncId → Option (CF tC) := look [(24, F24)]
theorem Y15 : SysN tC G15 := (sys_cons F24_ok (mkF_nat _ _) (sys_nil tC_ok tC_eq))
def S15 : FS := ⟨[[.s 68], [.s 68]], [⟨[.one (.one (.imm 68)), .one (.one (.imm 68))], []⟩], [⟨[.tup [.one (.sl 0), .one (.int .i64)]], [.arr 68]⟩], [[.v], [.v]], [(4, 68)]⟩
noncomputable def f15 (x : List En × List En × Unit) : Option (Nat × Int × List En × Unit) :=
  (f24 (x.fst, x.snd.fst, (1 : Int), ())).bind fun y9 => some (y9.fst, y9.snd.fst, y9.snd.snd.fst, ())
noncomputable def F15 : CF tC := mkF tC S15 f15
theorem f15_run : ∀ a, fnS tC G15 (look []) Tryz.f15 S15 a = f15 a := fun a => by kernel_rfl
theorem F15_ok : CFOK tC 15 F15 := mkF_ok Y15 (fn := Tryz.f15) (body := bodyOf Tryz.f15) (by kernel_rfl) (by kernel_rfl) (by kernel_rfl) (m := 0) rfl (lam_le lam_nil) f15_run

/-! atlas.New -/
noncomputable def G6 : FuncId → Option (CF tC) := look []
theorem Y6 : SysN tC G6 := (sys_nil tC_ok tC_eq)
def S6 : FS := ⟨[], [⟨[], []⟩], [⟨[.one (.one (.ptr 0 0 0))], [.box [.mp 1, .mp 2], .map 3 33, .map 3 26]⟩], [[.v]], []⟩
def f6  : List (Int × List Bm) × List (Int × Pm) :=
  ([], [])
noncomputable def F6 : CF tC := mkF tC S6 (fun _ => some (f6.1, f6.2, ()))
theorem f6_run : ∀ a, fnS tC G6 (look []) Tryz.f6 S6 a = (fun _ => some (f6.1, f6.2, ())) a := fun a => by kernel_rfl
theorem F6_ok : CFOK tC 6 F6 := mkF_ok Y6 (fn := Tryz.f6) (body := bodyOf Tryz.f6) (by kernel_rfl) (by kernel_rfl) (by kernel_rfl) (m := 0) rfl (lam_le lam_nil) f6_run

/-! atlas.validId -/
noncomputable def G22 : FuncId → Option (CF tC) := look []
theorem Y22 : SysN tC G22 := (sys_nil tC_ok tC_eq)
def S22 : FS := ⟨[[.v]], [⟨[vI], []⟩], [⟨[vO], []⟩], [[.v]], []⟩
def f22 (n1 : Int) : Bool :=
  bif decide (n1 ≥ (0 : Int)) then decide (n1 < (64 : Int)) else false
noncomputable def F22 : CF tC := mkF tC S22 (fun a => some ((f22 a.1), ()))
def h22 (r : Bool) : Option (altTy tE S22.outs) := some (r, ())
theorem f22_run : ∀ a, fnS tC G22 (look []) Tryz.f22 S22 a = (fun a => some ((f22 a.1), ())) a := fun a => by
  have key : ∀ (n1 : Int), (bif decide (n1 ≥ (0 : Int)) then h22 (decide (n1 < (64 : Int))) else h22 false) = h22 (f22 n1) := by
    intros
    unfold f22
    repeat' first | rfl | refine cond_h (g := h22) ?_ ?_
  exact Eq.trans (by kernel_rfl) (key a.1)
theorem F22_ok : CFOK tC 22 F22 := mkF_ok Y22 (fn := Tryz.f22) (body := bodyOf Tryz.f22) (by kernel_rfl) (by kernel_rfl) (by kernel_rfl) (m := 0) rfl (lam_le lam_nil) f22_run

/-! atlas.within -/
noncomputable def G37 : FuncId → Option (CF tC) := look []
theorem Y37 : SysN tC G37 := (sys_nil tC_ok tC_eq)
def S37 : FS := ⟨[[.v]], [⟨[vI], []⟩], [⟨[vO], []⟩], [[.v]], []⟩
def f37 (n1 : Int) : Bool :=
  bif decide (n1 ≥ (-262144 : Int)) then decide (n1 ≤ (262144 : Int)) else false
noncomputable def F37 : CF tC := mkF tC S37 (fun a => some ((f37 a.1), ()))
def h37 (r : Bool) : Option (altTy tE S37.outs) := some (r, ())
theorem f37_run : ∀ a, fnS tC G37 (look []) Tryz.f37 S37 a = (fun a => some ((f37 a.1), ())) a := fun a => by
  have key : ∀ (n1 : Int), (bif decide (n1 ≥ (-262144 : Int)) then h37 (decide (n1 ≤ (262144 : Int))) else h37 false) = h37 (f37 n1) := by
    intros
    unfold f37
    repeat' first | rfl | refine cond_h (g := h37) ?_ ?_
  exact Eq.trans (by kernel_rfl) (key a.1)
theorem F37_ok : CFOK tC 37 F37 := mkF_ok Y37 (fn := Tryz.f37) (body := bodyOf Tryz.f37) (by kernel_rfl) (by kernel_rfl) (by kernel_rfl) (m := 0) rfl (lam_le lam_nil) f37_run

/-! atlas.validPlacement -/
noncomputable def G21 : FuncId → Option (CF tC) := look [(37, F37)]
theorem Y21 : SysN tC G21 := (sys_cons F37_ok (mkF_nat _ _) (sys_nil tC_ok tC_eq))
def S21 : FS := ⟨[[.v, .v, .v, .v, .v]], [⟨[.one (.agg [.int .i64, .bool, .int .i64, .int .i64, .int .i64])], []⟩], [⟨[vO], []⟩], [[.v]], []⟩
def f21 (n1 : Int) (b2 : Bool) (n3 : Int) (n4 : Int) (n5 : Int) : Bool :=
  bif decide (n1 < (1 : Int)) then false
else
  bif decide (n1 > (1073741824 : Int)) then false
  else
    bif b2 then bif n3 == (0 : Int) then bif n4 == (0 : Int) then bif n5 == (0 : Int) then true else false else false else false
    else bif f37 n3 then bif f37 n4 then bif decide (n5 ≥ (0 : Int)) then decide (n5 < (256 : Int)) else false else false else false
noncomputable def F21 : CF tC := mkF tC S21 (fun a => some ((f21 a.1 a.2.1 a.2.2.1 a.2.2.2.1 a.2.2.2.2.1), ()))
def h21 (r : Bool) : Option (altTy tE S21.outs) := some (r, ())
theorem f21_run : ∀ a, fnS tC G21 (look []) Tryz.f21 S21 a = (fun a => some ((f21 a.1 a.2.1 a.2.2.1 a.2.2.2.1 a.2.2.2.2.1), ())) a := fun a => by
  have key : ∀ (n1 : Int) (b2 : Bool) (n3 : Int) (n4 : Int) (n5 : Int), (bif decide (n1 < (1 : Int)) then h21 false
else
  bif decide (n1 > (1073741824 : Int)) then h21 false
  else
    bif b2 then h21 (bif n3 == (0 : Int) then bif n4 == (0 : Int) then bif n5 == (0 : Int) then true else false else false else false)
    else
      bif f37 n3 then bif f37 n4 then bif decide (n5 ≥ (0 : Int)) then h21 (decide (n5 < (256 : Int))) else h21 false else h21 false
      else h21 false) = h21 (f21 n1 b2 n3 n4 n5) := by
    intros
    unfold f21
    repeat' first | rfl | refine cond_h (g := h21) ?_ ?_
  exact Eq.trans (by kernel_rfl) (key a.1 a.2.1 a.2.2.1 a.2.2.2.1 a.2.2.2.2.1)
theorem F21_ok : CFOK tC 21 F21 := mkF_ok Y21 (fn := Tryz.f21) (body := bodyOf Tryz.f21) (by kernel_rfl) (by kernel_rfl) (by kernel_rfl) (m := 0) rfl (lam_le lam_nil) f21_run

/-! atlas.number -/
noncomputable def G40 : FuncId → Option (CF tC) := look []
theorem Y40 : SysN tC G40 := (sys_nil tC_ok tC_eq)
def S40 : FS := ⟨[[.v]], [⟨[vO], []⟩], [⟨[vI], []⟩], [[.v]], []⟩
def f40 (b1 : Bool) : Int :=
  bif b1 then (1 : Int) else (0 : Int)
noncomputable def F40 : CF tC := mkF tC S40 (fun a => some ((f40 a.1), ()))
def h40 (r : Int) : Option (altTy tE S40.outs) := some (r, ())
theorem f40_run : ∀ a, fnS tC G40 (look []) Tryz.f40 S40 a = (fun a => some ((f40 a.1), ())) a := fun a => by
  have key : ∀ (b1 : Bool), (bif b1 then h40 (1 : Int) else h40 (0 : Int)) = h40 (f40 b1) := by
    intros
    unfold f40
    repeat' first | rfl | refine cond_h (g := h40) ?_ ?_
  exact Eq.trans (by kernel_rfl) (key a.1)
theorem F40_ok : CFOK tC 40 F40 := mkF_ok Y40 (fn := Tryz.f40) (body := bodyOf Tryz.f40) (by kernel_rfl) (by kernel_rfl) (by kernel_rfl) (m := 0) rfl (lam_le lam_nil) f40_run

/-! compareScans$1 -/
noncomputable def G47 : FuncId → Option (CF tC) := look [(39, F39), (38, F38)]
theorem Y47 : SysN tC G47 := (sys_cons F39_ok (mkF_nat _ _) (sys_cons F38_ok (mkF_nat _ _) (sys_nil tC_ok tC_eq)))
def S47 : FS := ⟨[[.v, .v], [.v, .v]], [⟨[.one (.agg [.int .i64, .int .i64]), .one (.agg [.int .i64, .int .i64])], []⟩], [⟨[vI], []⟩], [[.v]], []⟩
noncomputable def f47 (x : Int × Int × Int × Int × Unit) : Option (Int × Unit) :=
  (f38 ([f39 x.fst x.snd.snd.fst, f39 x.snd.fst x.snd.snd.snd.fst], ())).bind fun y7 => some (y7.fst, ())
noncomputable def F47 : CF tC := mkF tC S47 f47
theorem f47_run : ∀ a, fnS tC G47 (look []) Tryz.f47 S47 a = f47 a := fun a => by kernel_rfl
theorem F47_ok : CFOK tC 47 F47 := mkF_ok Y47 (fn := Tryz.f47) (body := bodyOf Tryz.f47) (by kernel_rfl) (by kernel_rfl) (by kernel_rfl) (m := 0) rfl (lam_le lam_nil) f47_run

/-! slices.CompareFunc -/
noncomputable def G46 : FuncId → Option (CF tC) := look [(47, F47)]
theorem Y46 : SysN tC G46 := (sys_cons F47_ok (mkF_nat _ _) (sys_nil tC_ok tC_eq))
noncomputable def c46_0 : Code := loopOf (bodyOf Tryz.f46) 0
def p46_0 : LS := ⟨0, [0, 1, 2, 11, 12, 13], ⟨[.one (.one (.imm 49)), .one (.one (.imm 49)), .one (.fn 47 [])] ++ vBs 8 ++ [.one (.one (.imm 49)), vI, vI] ++ vBs 25, []⟩, [⟨.ret, [6], ⟨vBs 6 ++ [vI] ++ vBs 32, []⟩, []⟩, ⟨.exit 0, [0, 1], ⟨[.one (.one (.imm 49)), .one (.one (.imm 49))] ++ vBs 37, []⟩, []⟩], []⟩
noncomputable def r46_0 (x : List Bm × List Bm × List Bm × Int × Int × Unit) : Option (List Bm × List Bm × List Bm × Int × Int × Unit ⊕ Int × Unit ⊕ List Bm × List Bm × Unit) :=
  bif decide (x.snd.snd.snd.snd.fst < x.snd.snd.snd.fst) then
  (idxO x.snd.snd.fst x.snd.snd.snd.snd.fst).bind fun y16 =>
    bif decide (x.snd.snd.snd.snd.fst ≥ (↑x.snd.fst.length : Int)) then some (Sum.inr (Sum.inl ((1 : Int), ())))
    else
      (idxO x.snd.fst x.snd.snd.snd.snd.fst).bind fun y15 =>
        (f47 (y16.M, y16.R, y15.M, y15.R, ())).bind fun y14 =>
          bif y14.fst != (0 : Int) then some (Sum.inr (Sum.inl (y14.fst, ())))
          else some (Sum.inl (x.fst, x.snd.fst, x.snd.snd.fst, x.snd.snd.snd.fst, IntKind.i64.wrap (x.snd.snd.snd.snd.fst + (1 : Int)), ()))
else some (Sum.inr (Sum.inr (x.fst, x.snd.fst, ())))
theorem r46_0_run0 (v0 : List Bm) (v1 : List Bm) (v2 : List Bm) (v3 : Int) (v4 : Int) : roundK tC G46 (look []) c46_0 p46_0 (v0, v1, v2, v3, v4, ()) = r46_0 (v0, v1, v2, v3, v4, ()) := by kernel_rfl
theorem r46_0_run (x : List Bm × List Bm × List Bm × Int × Int × Unit) : roundK tC G46 (look []) c46_0 p46_0 x = r46_0 x := r46_0_run0 x.1 x.2.1 x.2.2.1 x.2.2.2.1 x.2.2.2.2.1
noncomputable def l46_0 (x : List Bm × List Bm × List Bm × Int × Int × Unit) : Option (Int × Unit ⊕ List Bm × List Bm × Unit) := iterO r46_0 x
noncomputable def W46_0 : LF tC := loopW tC p46_0 0 l46_0
theorem W46_0_ok : keyed 0 (bodyOf Tryz.f46) = [.block 0 (.loop c46_0)] ∧ ∀ n, n ≤ 0 → Snd tC n (.block 0 (.loop c46_0)) W46_0.k := ⟨by kernel_rfl, fun n hn => loopW_ok (p := p46_0) (id := 0) Y46 (lam_le lam_nil n hn) hn r46_0_run⟩
def S46 : FS := ⟨[[.s 49], [.s 49], [.f]], [⟨[.one (.one (.imm 49)), .one (.one (.imm 49)), .one (.fn 47 [])], []⟩], [⟨[vI], []⟩], [[.v]], []⟩
noncomputable def f46 (x : List Bm × List Bm × Unit) : Option (Int × Unit) :=
  (l46_0 (x.fst, x.snd.fst, x.fst, (↑x.fst.length : Int), (0 : Int), ())).bind fun y23 =>
  Sum.elim (fun y21 => some (y21.fst, ()))
    (fun y22 => bif decide ((↑y22.fst.length : Int) < (↑y22.snd.fst.length : Int)) then some ((-1 : Int), ()) else some ((0 : Int), ())) y23
noncomputable def F46 : CF tC := mkF tC S46 f46
theorem f46_run : ∀ a, fnS tC G46 (look [(0, W46_0)]) Tryz.f46 S46 a = f46 a := fun a => by kernel_rfl
theorem F46_ok : CFOK tC 46 F46 := mkF_ok Y46 (fn := Tryz.f46) (body := bodyOf Tryz.f46) (by kernel_rfl) (by kernel_rfl) (by kernel_rfl) (m := 0) rfl (lam_le (lam_cons W46_0_ok lam_nil)) f46_run

/-! atlas.compareScans -/
noncomputable def G26 : FuncId → Option (CF tC) := look [(39, F39), (46, F46), (47, F47)]
theorem Y26 : SysN tC G26 := (sys_cons F39_ok (mkF_nat _ _) (sys_cons F46_ok (mkF_nat _ _) (sys_cons F47_ok (mkF_nat _ _) (sys_nil tC_ok tC_eq))))
def S26 : FS := ⟨[[.s 49], [.s 49]], [⟨[.one (.one (.imm 49)), .one (.one (.imm 49))], []⟩], [⟨[vI], []⟩], [[.v]], []⟩
noncomputable def f26 (x : List Bm × List Bm × Unit) : Option (Int × Unit) :=
  bif f39 (↑x.fst.length : Int) (↑x.snd.fst.length : Int) != (0 : Int) then some (f39 (↑x.fst.length : Int) (↑x.snd.fst.length : Int), ())
else (f46 (x.fst, x.snd.fst, ())).bind fun y5 => some (y5.fst, ())
noncomputable def F26 : CF tC := mkF tC S26 f26
theorem f26_run : ∀ a, fnS tC G26 (look []) Tryz.f26 S26 a = f26 a := fun a => by kernel_rfl
theorem F26_ok : CFOK tC 26 F26 := mkF_ok Y26 (fn := Tryz.f26) (body := bodyOf Tryz.f26) (by kernel_rfl) (by kernel_rfl) (by kernel_rfl) (m := 0) rfl (lam_le lam_nil) f26_run

/-! atlas.comparePlacements -/
noncomputable def G23 : FuncId → Option (CF tC) := look [(39, F39), (40, F40), (38, F38)]
theorem Y23 : SysN tC G23 := (sys_cons F39_ok (mkF_nat _ _) (sys_cons F40_ok (mkF_nat _ _) (sys_cons F38_ok (mkF_nat _ _) (sys_nil tC_ok tC_eq))))
def S23 : FS := ⟨[[.v, .v, .v, .v, .v], [.v, .v, .v, .v, .v]], [⟨[.one (.agg [.int .i64, .bool, .int .i64, .int .i64, .int .i64]), .one (.agg [.int .i64, .bool, .int .i64, .int .i64, .int .i64])], []⟩], [⟨[vI], []⟩], [[.v]], []⟩
noncomputable def f23 (x : Int × Bool × Int × Int × Int × Int × Bool × Int × Int × Int × Unit) : Option (Int × Unit) :=
  (f38
      ([f39 x.fst x.snd.snd.snd.snd.snd.fst, f39 (f40 x.snd.fst) (f40 x.snd.snd.snd.snd.snd.snd.fst),
          f39 x.snd.snd.fst x.snd.snd.snd.snd.snd.snd.snd.fst, f39 x.snd.snd.snd.fst x.snd.snd.snd.snd.snd.snd.snd.snd.fst,
          f39 x.snd.snd.snd.snd.fst x.snd.snd.snd.snd.snd.snd.snd.snd.snd.fst],
        ())).bind
  fun y13 => some (y13.fst, ())
noncomputable def F23 : CF tC := mkF tC S23 f23
theorem f23_run : ∀ a, fnS tC G23 (look []) Tryz.f23 S23 a = f23 a := fun a => by kernel_rfl
theorem F23_ok : CFOK tC 23 F23 := mkF_ok Y23 (fn := Tryz.f23) (body := bodyOf Tryz.f23) (by kernel_rfl) (by kernel_rfl) (by kernel_rfl) (m := 0) rfl (lam_le lam_nil) f23_run

/-! atlas.Put -/
noncomputable def G16 : FuncId → Option (CF tC) := look [(25, F25), (44, F944), (22, F22), (26, F26), (27, F27)]
theorem Y16 : SysN tC G16 := (sys_cons F25_ok (mkF_nat _ _) (sys_cons F944_ok (mkF_nat _ _) (sys_cons F22_ok (mkF_nat _ _) (sys_cons F26_ok (mkF_nat _ _) (sys_cons F27_ok (mkF_nat _ _) (sys_nil tC_ok tC_eq))))))
noncomputable def c16_25 : Code := subCode (bodyOf Tryz.f16) 25
def p16_25 : PS := ⟨3, [], ⟨vBs 43, [.map 3 33, .map 3 26, .box [.mp 0, .mp 1]]⟩, [⟨.ret, [6], ⟨vBs 6 ++ [vI] ++ vBs 36, [.map 3 33, .map 3 26, .box [.mp 0, .mp 1]]⟩, []⟩], []⟩
noncomputable def j16_25 (x : List (Int × List Bm) × List (Int × Pm) × Unit) : Option (Int × List (Int × List Bm) × List (Int × Pm) × Unit) :=
  some ((0 : Int), x.fst, x.snd.fst, ())
theorem j16_25_run0 (v0 : List (Int × List Bm)) (v1 : List (Int × Pm)) : pieceK tC G16 (look []) c16_25 p16_25 (v0, v1, ()) = j16_25 (v0, v1, ()) := by kernel_rfl
theorem j16_25_run (x : List (Int × List Bm) × List (Int × Pm) × Unit) : pieceK tC G16 (look []) c16_25 p16_25 x = j16_25 x := j16_25_run0 x.1 x.2.1
noncomputable def W16_25 : LF tC := cutLF tC p16_25 j16_25
theorem W16_25_ok : keyed 25 (bodyOf Tryz.f16) = [c16_25] ∧ ∀ n, n ≤ 3 → Snd tC n c16_25 W16_25.k := ⟨by kernel_rfl, fun n hn => cut_ok (p := p16_25) Y16 (lam_le lam_nil n hn) hn j16_25_run⟩
def S16 : FS := ⟨[[.p], [.v], [.s 49]], [⟨[.one (.one (.ptr 2 0 0)), vI, .one (.one (.imm 49))], [.map 3 33, .map 3 26, .box [.mp 0, .mp 1]]⟩], [⟨[vI], [.map 3 33, .map 3 26, .box [.mp 0, .mp 1]]⟩], [[.v]], []⟩
noncomputable def f16 (x : Int × List Bm × List (Int × List Bm) × List (Int × Pm) × Unit) : Option (Int × List (Int × List Bm) × List (Int × Pm) × Unit) :=
  (f25 (x.snd.fst, ())).bind fun y32 =>
  bif !y32.fst then some ((1 : Int), x.snd.snd.fst, x.snd.snd.snd.fst, ())
  else
    bif !f22 x.fst then some ((2 : Int), x.snd.snd.fst, x.snd.snd.snd.fst, ())
    else
      bif !(mget (keyB tC (3 : TypeId)) x.snd.snd.fst x.fst).isSome then
        (f27 (x.snd.fst, ())).bind fun y27 =>
          (j16_25 (mput (keyB tC (3 : TypeId)) x.snd.snd.fst x.fst y27.fst, x.snd.snd.snd.fst, ())).bind fun y26 =>
            some (y26.fst, y26.snd.fst, y26.snd.snd.fst, ())
      else
        (f26 (x.snd.fst, (mget (keyB tC (3 : TypeId)) x.snd.snd.fst x.fst).getD [], ())).bind fun y31 =>
          bif decide (y31.fst > (0 : Int)) then
            (f27 (x.snd.fst, ())).bind fun y29 =>
              (j16_25 (mput (keyB tC (3 : TypeId)) x.snd.snd.fst x.fst y29.fst, x.snd.snd.snd.fst, ())).bind fun y28 =>
                some (y28.fst, y28.snd.fst, y28.snd.snd.fst, ())
          else (j16_25 (x.snd.snd.fst, x.snd.snd.snd.fst, ())).bind fun y30 => some (y30.fst, y30.snd.fst, y30.snd.snd.fst, ())
noncomputable def F16 : CF tC := mkF tC S16 f16
theorem f16_run : ∀ a, fnS tC G16 (look [(25, W16_25)]) Tryz.f16 S16 a = f16 a := fun a => by kernel_rfl
theorem F16_ok : CFOK tC 16 F16 := mkF_ok Y16 (fn := Tryz.f16) (body := bodyOf Tryz.f16) (by kernel_rfl) (by kernel_rfl) (by kernel_rfl) (m := 3) rfl (lam_le (lam_cons W16_25_ok lam_nil)) f16_run

/-! atlas.Place -/
noncomputable def G12 : FuncId → Option (CF tC) := look [(21, F21), (22, F22), (23, F23)]
theorem Y12 : SysN tC G12 := (sys_cons F21_ok (mkF_nat _ _) (sys_cons F22_ok (mkF_nat _ _) (sys_cons F23_ok (mkF_nat _ _) (sys_nil tC_ok tC_eq))))
noncomputable def c12_25 : Code := subCode (bodyOf Tryz.f12) 25
def p12_25 : PS := ⟨3, [], ⟨vBs 42, [.map 3 33, .map 3 26, .box [.mp 0, .mp 1]]⟩, [⟨.ret, [6], ⟨vBs 6 ++ [vI] ++ vBs 35, [.map 3 33, .map 3 26, .box [.mp 0, .mp 1]]⟩, []⟩], []⟩
noncomputable def j12_25 (x : List (Int × List Bm) × List (Int × Pm) × Unit) : Option (Int × List (Int × List Bm) × List (Int × Pm) × Unit) :=
  some ((0 : Int), x.fst, x.snd.fst, ())
theorem j12_25_run0 (v0 : List (Int × List Bm)) (v1 : List (Int × Pm)) : pieceK tC G12 (look []) c12_25 p12_25 (v0, v1, ()) = j12_25 (v0, v1, ()) := by kernel_rfl
theorem j12_25_run (x : List (Int × List Bm) × List (Int × Pm) × Unit) : pieceK tC G12 (look []) c12_25 p12_25 x = j12_25 x := j12_25_run0 x.1 x.2.1
noncomputable def W12_25 : LF tC := cutLF tC p12_25 j12_25
theorem W12_25_ok : keyed 25 (bodyOf Tryz.f12) = [c12_25] ∧ ∀ n, n ≤ 3 → Snd tC n c12_25 W12_25.k := ⟨by kernel_rfl, fun n hn => cut_ok (p := p12_25) Y12 (lam_le lam_nil n hn) hn j12_25_run⟩
def S12 : FS := ⟨[[.p], [.v], [.v, .v, .v, .v, .v]], [⟨[.one (.one (.ptr 2 0 0)), vI, .one (.agg [.int .i64, .bool, .int .i64, .int .i64, .int .i64])], [.map 3 33, .map 3 26, .box [.mp 0, .mp 1]]⟩], [⟨[vI], [.map 3 33, .map 3 26, .box [.mp 0, .mp 1]]⟩], [[.v]], []⟩
noncomputable def f12 (x : Int × Int × Bool × Int × Int × Int × List (Int × List Bm) × List (Int × Pm) × Unit) : Option (Int × List (Int × List Bm) × List (Int × Pm) × Unit) :=
  bif !f21 x.snd.fst x.snd.snd.fst x.snd.snd.snd.fst x.snd.snd.snd.snd.fst x.snd.snd.snd.snd.snd.fst then
  some ((1 : Int), x.snd.snd.snd.snd.snd.snd.fst, x.snd.snd.snd.snd.snd.snd.snd.fst, ())
else
  bif !f22 x.fst then some ((2 : Int), x.snd.snd.snd.snd.snd.snd.fst, x.snd.snd.snd.snd.snd.snd.snd.fst, ())
  else
    bif !(mget (keyB tC (3 : TypeId)) x.snd.snd.snd.snd.snd.snd.snd.fst x.fst).isSome then
      (j12_25
            (x.snd.snd.snd.snd.snd.snd.fst,
              mput (keyB tC (3 : TypeId)) x.snd.snd.snd.snd.snd.snd.snd.fst x.fst
                (Pm.mk x.snd.fst x.snd.snd.fst x.snd.snd.snd.fst x.snd.snd.snd.snd.fst x.snd.snd.snd.snd.snd.fst),
              ())).bind
        fun y27 => some (y27.fst, y27.snd.fst, y27.snd.snd.fst, ())
    else
      (f23
            (x.snd.fst, x.snd.snd.fst, x.snd.snd.snd.fst, x.snd.snd.snd.snd.fst, x.snd.snd.snd.snd.snd.fst,
              ((mget (keyB tC (3 : TypeId)) x.snd.snd.snd.snd.snd.snd.snd.fst x.fst).getD
                  (Pm.mk (0 : Int) false (0 : Int) (0 : Int) (0 : Int))).V,
              ((mget (keyB tC (3 : TypeId)) x.snd.snd.snd.snd.snd.snd.snd.fst x.fst).getD
                  (Pm.mk (0 : Int) false (0 : Int) (0 : Int) (0 : Int))).G,
              ((mget (keyB tC (3 : TypeId)) x.snd.snd.snd.snd.snd.snd.snd.fst x.fst).getD
                  (Pm.mk (0 : Int) false (0 : Int) (0 : Int) (0 : Int))).X,
              ((mget (keyB tC (3 : TypeId)) x.snd.snd.snd.snd.snd.snd.snd.fst x.fst).getD
                  (Pm.mk (0 : Int) false (0 : Int) (0 : Int) (0 : Int))).Y,
              ((mget (keyB tC (3 : TypeId)) x.snd.snd.snd.snd.snd.snd.snd.fst x.fst).getD
                  (Pm.mk (0 : Int) false (0 : Int) (0 : Int) (0 : Int))).H,
              ())).bind
        fun y30 =>
        bif decide (y30.fst > (0 : Int)) then
          (j12_25
                (x.snd.snd.snd.snd.snd.snd.fst,
                  mput (keyB tC (3 : TypeId)) x.snd.snd.snd.snd.snd.snd.snd.fst x.fst
                    (Pm.mk x.snd.fst x.snd.snd.fst x.snd.snd.snd.fst x.snd.snd.snd.snd.fst x.snd.snd.snd.snd.snd.fst),
                  ())).bind
            fun y28 => some (y28.fst, y28.snd.fst, y28.snd.snd.fst, ())
        else
          (j12_25 (x.snd.snd.snd.snd.snd.snd.fst, x.snd.snd.snd.snd.snd.snd.snd.fst, ())).bind fun y29 =>
            some (y29.fst, y29.snd.fst, y29.snd.snd.fst, ())
noncomputable def F12 : CF tC := mkF tC S12 f12
theorem f12_run : ∀ a, fnS tC G12 (look [(25, W12_25)]) Tryz.f12 S12 a = f12 a := fun a => by kernel_rfl
theorem F12_ok : CFOK tC 12 F12 := mkF_ok Y12 (fn := Tryz.f12) (body := bodyOf Tryz.f12) (by kernel_rfl) (by kernel_rfl) (by kernel_rfl) (m := 3) rfl (lam_le (lam_cons W12_25_ok lam_nil)) f12_run

/-! atlas.Scan -/
noncomputable def G18 : FuncId → Option (CF tC) := look [(27, F27)]
theorem Y18 : SysN tC G18 := (sys_cons F27_ok (mkF_nat _ _) (sys_nil tC_ok tC_eq))
def S18 : FS := ⟨[[.p], [.v]], [⟨[.one (.one (.ptr 2 0 0)), vI], [.map 3 33, .map 3 26, .box [.mp 0, .mp 1]]⟩], [⟨[.tup [.one (.him 49), .one .bool]], [.map 3 33, .map 3 26, .box [.mp 0, .mp 1]]⟩], [[.h 49], [.v]], []⟩
noncomputable def f18 (x : Int × List (Int × List Bm) × List (Int × Pm) × Unit) : Option (List Bm × Bool × List (Int × List Bm) × List (Int × Pm) × Unit) :=
  (f27 ((mget (keyB tC (3 : TypeId)) x.snd.fst x.fst).getD [], ())).bind fun y9 =>
  some (y9.fst, (mget (keyB tC (3 : TypeId)) x.snd.fst x.fst).isSome, x.snd.fst, x.snd.snd.fst, ())
noncomputable def F18 : CF tC := mkF tC S18 f18
theorem f18_run : ∀ a, fnS tC G18 (look []) Tryz.f18 S18 a = f18 a := fun a => by kernel_rfl
theorem F18_ok : CFOK tC 18 F18 := mkF_ok Y18 (fn := Tryz.f18) (body := bodyOf Tryz.f18) (by kernel_rfl) (by kernel_rfl) (by kernel_rfl) (m := 3) rfl (lam_le lam_nil) f18_run

/-! atlas.Where -/
noncomputable def G11 : FuncId → Option (CF tC) := look []
theorem Y11 : SysN tC G11 := (sys_nil tC_ok tC_eq)
def S11 : FS := ⟨[[.p], [.v]], [⟨[.one (.one (.ptr 2 0 0)), vI], [.map 3 33, .map 3 26, .box [.mp 0, .mp 1]]⟩], [⟨[.tup [.agg [.int .i64, .bool, .int .i64, .int .i64, .int .i64], .one .bool]], [.map 3 33, .map 3 26, .box [.mp 0, .mp 1]]⟩], [[.v, .v, .v, .v, .v], [.v]], []⟩
noncomputable def f11 (n1 : Int) (l2 : List (Int × List Bm)) (l3 : List (Int × Pm)) : Int × Bool × Int × Int × Int × Bool × List (Int × List Bm) × List (Int × Pm) :=
  (((mget (keyB tC (3 : TypeId)) l3 n1).getD (Pm.mk (0 : Int) false (0 : Int) (0 : Int) (0 : Int))).V,
  ((mget (keyB tC (3 : TypeId)) l3 n1).getD (Pm.mk (0 : Int) false (0 : Int) (0 : Int) (0 : Int))).G,
  ((mget (keyB tC (3 : TypeId)) l3 n1).getD (Pm.mk (0 : Int) false (0 : Int) (0 : Int) (0 : Int))).X,
  ((mget (keyB tC (3 : TypeId)) l3 n1).getD (Pm.mk (0 : Int) false (0 : Int) (0 : Int) (0 : Int))).Y,
  ((mget (keyB tC (3 : TypeId)) l3 n1).getD (Pm.mk (0 : Int) false (0 : Int) (0 : Int) (0 : Int))).H,
  (mget (keyB tC (3 : TypeId)) l3 n1).isSome, l2, l3)
noncomputable def F11 : CF tC := mkF tC S11 (fun a => some ((f11 a.1 a.2.1 a.2.2.1).1, (f11 a.1 a.2.1 a.2.2.1).2.1, (f11 a.1 a.2.1 a.2.2.1).2.2.1, (f11 a.1 a.2.1 a.2.2.1).2.2.2.1, (f11 a.1 a.2.1 a.2.2.1).2.2.2.2.1, (f11 a.1 a.2.1 a.2.2.1).2.2.2.2.2.1, (f11 a.1 a.2.1 a.2.2.1).2.2.2.2.2.2.1, (f11 a.1 a.2.1 a.2.2.1).2.2.2.2.2.2.2, ()))
def h11 (r : Int × Bool × Int × Int × Int × Bool × List (Int × List Bm) × List (Int × Pm)) : Option (altTy tE S11.outs) := some (r.1, r.2.1, r.2.2.1, r.2.2.2.1, r.2.2.2.2.1, r.2.2.2.2.2.1, r.2.2.2.2.2.2.1, r.2.2.2.2.2.2.2, ())
theorem f11_run : ∀ a, fnS tC G11 (look []) Tryz.f11 S11 a = (fun a => some ((f11 a.1 a.2.1 a.2.2.1).1, (f11 a.1 a.2.1 a.2.2.1).2.1, (f11 a.1 a.2.1 a.2.2.1).2.2.1, (f11 a.1 a.2.1 a.2.2.1).2.2.2.1, (f11 a.1 a.2.1 a.2.2.1).2.2.2.2.1, (f11 a.1 a.2.1 a.2.2.1).2.2.2.2.2.1, (f11 a.1 a.2.1 a.2.2.1).2.2.2.2.2.2.1, (f11 a.1 a.2.1 a.2.2.1).2.2.2.2.2.2.2, ())) a := fun a => by
  have key : ∀ (n1 : Int) (l2 : List (Int × List Bm)) (l3 : List (Int × Pm)), (h11
  (((mget (keyB tC (3 : TypeId)) l3 n1).getD (Pm.mk (0 : Int) false (0 : Int) (0 : Int) (0 : Int))).V,
    ((mget (keyB tC (3 : TypeId)) l3 n1).getD (Pm.mk (0 : Int) false (0 : Int) (0 : Int) (0 : Int))).G,
    ((mget (keyB tC (3 : TypeId)) l3 n1).getD (Pm.mk (0 : Int) false (0 : Int) (0 : Int) (0 : Int))).X,
    ((mget (keyB tC (3 : TypeId)) l3 n1).getD (Pm.mk (0 : Int) false (0 : Int) (0 : Int) (0 : Int))).Y,
    ((mget (keyB tC (3 : TypeId)) l3 n1).getD (Pm.mk (0 : Int) false (0 : Int) (0 : Int) (0 : Int))).H,
    (mget (keyB tC (3 : TypeId)) l3 n1).isSome, l2, l3)) = h11 (f11 n1 l2 l3) := by
    intros
    unfold f11
    repeat' first | rfl | refine cond_h (g := h11) ?_ ?_
  exact Eq.trans (by kernel_rfl) (key a.1 a.2.1 a.2.2.1)
theorem F11_ok : CFOK tC 11 F11 := mkF_ok Y11 (fn := Tryz.f11) (body := bodyOf Tryz.f11) (by kernel_rfl) (by kernel_rfl) (by kernel_rfl) (m := 3) rfl (lam_le lam_nil) f11_run

/-! atlas.Part -/
noncomputable def G9 : FuncId → Option (CF tC) := look [(18, F18), (11, F11), (19, F19)]
theorem Y9 : SysN tC G9 := (sys_cons F18_ok (mkF_nat _ _) (sys_cons F11_ok (mkF_nat _ _) (sys_cons F19_ok (mkF_nat _ _) (sys_nil tC_ok tC_eq))))
def S9 : FS := ⟨[[.p], [.v]], [⟨[.one (.one (.ptr 2 0 0)), vI], [.map 3 33, .map 3 26, .box [.mp 0, .mp 1]]⟩], [⟨[.one (.one (.sl 3))], [.map 3 33, .map 3 26, .box [.mp 0, .mp 1], .arr 68]⟩], [[.v]], [(4, 68)]⟩
noncomputable def f9 (x : Int × List (Int × List Bm) × List (Int × Pm) × Unit) : Option (Nat × List (Int × List Bm) × List (Int × Pm) × List En × Unit) :=
  (f18 (x.fst, x.snd.fst, x.snd.snd.fst, ())).bind fun y16 =>
  bif !y16.snd.fst then
    some
      ((0 : Nat), (f11 x.fst y16.snd.snd.fst y16.snd.snd.snd.fst).snd.snd.snd.snd.snd.snd.fst,
        (f11 x.fst y16.snd.snd.fst y16.snd.snd.snd.fst).snd.snd.snd.snd.snd.snd.snd, [], ())
  else
    bif !(f11 x.fst y16.snd.snd.fst y16.snd.snd.snd.fst).snd.snd.snd.snd.snd.fst then
      some
        ((0 : Nat), (f11 x.fst y16.snd.snd.fst y16.snd.snd.snd.fst).snd.snd.snd.snd.snd.snd.fst,
          (f11 x.fst y16.snd.snd.fst y16.snd.snd.snd.fst).snd.snd.snd.snd.snd.snd.snd, [], ())
    else
      bif (f11 x.fst y16.snd.snd.fst y16.snd.snd.snd.fst).snd.fst then
        some
          ((0 : Nat), (f11 x.fst y16.snd.snd.fst y16.snd.snd.snd.fst).snd.snd.snd.snd.snd.snd.fst,
            (f11 x.fst y16.snd.snd.fst y16.snd.snd.snd.fst).snd.snd.snd.snd.snd.snd.snd, [], ())
      else
        (f19
              ((f11 x.fst y16.snd.snd.fst y16.snd.snd.snd.fst).snd.snd.fst, (f11 x.fst y16.snd.snd.fst y16.snd.snd.snd.fst).snd.snd.snd.fst,
                (f11 x.fst y16.snd.snd.fst y16.snd.snd.snd.fst).snd.snd.snd.snd.fst, y16.fst, ())).bind
          fun y15 =>
          some
            (y15.fst, (f11 x.fst y16.snd.snd.fst y16.snd.snd.snd.fst).snd.snd.snd.snd.snd.snd.fst,
              (f11 x.fst y16.snd.snd.fst y16.snd.snd.snd.fst).snd.snd.snd.snd.snd.snd.snd, y15.snd.snd.fst, ())
noncomputable def F9 : CF tC := mkF tC S9 f9
theorem f9_run : ∀ a, fnS tC G9 (look []) Tryz.f9 S9 a = f9 a := fun a => by kernel_rfl
theorem F9_ok : CFOK tC 9 F9 := mkF_ok Y9 (fn := Tryz.f9) (body := bodyOf Tryz.f9) (by kernel_rfl) (by kernel_rfl) (by kernel_rfl) (m := 3) rfl (lam_le lam_nil) f9_run

/-! atlas.Ids -/
noncomputable def G20 : FuncId → Option (CF tC) := look []
theorem Y20 : SysN tC G20 := (sys_nil tC_ok tC_eq)
noncomputable def c20_34 : Code := subCode (loopOf (bodyOf Tryz.f20) 0) 34
def p20_34 : PS := ⟨3, [0, 3, 12], ⟨[.one (.one (.ptr 2 0 0)), vB, vB, .one (.one (.sl 3))] ++ vBs 8 ++ [vI] ++ vBs 30, [.map 3 33, .map 3 26, .box [.mp 0, .mp 1], .arr 3]⟩, [⟨.normal, [0, 3, 12], ⟨[.one (.one (.ptr 2 0 0)), vB, vB, .one (.one (.sl 3))] ++ vBs 8 ++ [vI] ++ vBs 30, [.map 3 33, .map 3 26, .box [.mp 0, .mp 1], .arr 3]⟩, []⟩], []⟩
noncomputable def j20_34 (x : Nat × Int × List (Int × List Bm) × List (Int × Pm) × List Int × Unit) : Option (Nat × Int × List (Int × List Bm) × List (Int × Pm) × List Int × Unit) :=
  some (x.fst, IntKind.i64.wrap (x.snd.fst + (1 : Int)), x.snd.snd.fst, x.snd.snd.snd.fst, x.snd.snd.snd.snd.fst, ())
theorem j20_34_run0 (v0 : Nat) (v1 : Int) (v2 : List (Int × List Bm)) (v3 : List (Int × Pm)) (v4 : List Int) : pieceK tC G20 (look []) c20_34 p20_34 (v0, v1, v2, v3, v4, ()) = j20_34 (v0, v1, v2, v3, v4, ()) := by kernel_rfl
theorem j20_34_run (x : Nat × Int × List (Int × List Bm) × List (Int × Pm) × List Int × Unit) : pieceK tC G20 (look []) c20_34 p20_34 x = j20_34 x := j20_34_run0 x.1 x.2.1 x.2.2.1 x.2.2.2.1 x.2.2.2.2.1
noncomputable def W20_34 : LF tC := cutLF tC p20_34 j20_34
theorem W20_34_ok : keyed 34 (loopOf (bodyOf Tryz.f20) 0) = [c20_34] ∧ ∀ n, n ≤ 3 → Snd tC n c20_34 W20_34.k := ⟨by kernel_rfl, fun n hn => cut_ok (p := p20_34) Y20 (lam_le lam_nil n hn) hn j20_34_run⟩
noncomputable def c20_0 : Code := loopOf (bodyOf Tryz.f20) 0
def p20_0 : LS := ⟨3, [0, 3, 12], ⟨[.one (.one (.ptr 2 0 0)), vB, vB, .one (.one (.sl 3))] ++ vBs 8 ++ [vI] ++ vBs 30, [.map 3 33, .map 3 26, .box [.mp 0, .mp 1], .arr 3]⟩, [⟨.exit 0, [3], ⟨[vB, vB, vB, .one (.one (.sl 3))] ++ vBs 39, [.map 3 33, .map 3 26, .box [.mp 0, .mp 1], .arr 3]⟩, []⟩], [(3, 3)]⟩
noncomputable def r20_0 (x : Nat × Int × List (Int × List Bm) × List (Int × Pm) × List Int × Unit) : Option
  (Nat × Int × List (Int × List Bm) × List (Int × Pm) × List Int × Unit ⊕ Nat × List (Int × List Bm) × List (Int × Pm) × List Int × Unit) :=
  bif decide (x.snd.fst < (64 : Int)) then
  bif (mget (keyB tC (3 : TypeId)) x.snd.snd.fst x.snd.fst).isSome then
    bif decide ((0 : Nat) + x.fst ≤ x.snd.snd.snd.snd.fst.length) then
      bif roomy (x.fst + (1 : Nat)) (8 : Nat) then
        (j20_34
              (x.fst + (1 : Nat), x.snd.fst, x.snd.snd.fst, x.snd.snd.snd.fst,
                List.take x.fst (List.drop (0 : Nat) x.snd.snd.snd.snd.fst) ++ [x.snd.fst], ())).bind
          fun y65 => some (Sum.inl (y65.fst, y65.snd.fst, y65.snd.snd.fst, y65.snd.snd.snd.fst, y65.snd.snd.snd.snd.fst, ()))
      else none
    else none
  else
    bif (mget (keyB tC (3 : TypeId)) x.snd.snd.snd.fst x.snd.fst).isSome then
      bif decide ((0 : Nat) + x.fst ≤ x.snd.snd.snd.snd.fst.length) then
        bif roomy (x.fst + (1 : Nat)) (8 : Nat) then
          (j20_34
                (x.fst + (1 : Nat), x.snd.fst, x.snd.snd.fst, x.snd.snd.snd.fst,
                  List.take x.fst (List.drop (0 : Nat) x.snd.snd.snd.snd.fst) ++ [x.snd.fst], ())).bind
            fun y66 => some (Sum.inl (y66.fst, y66.snd.fst, y66.snd.snd.fst, y66.snd.snd.snd.fst, y66.snd.snd.snd.snd.fst, ()))
        else none
      else none
    else
      (j20_34 (x.fst, x.snd.fst, x.snd.snd.fst, x.snd.snd.snd.fst, x.snd.snd.snd.snd.fst, ())).bind fun y67 =>
        some (Sum.inl (y67.fst, y67.snd.fst, y67.snd.snd.fst, y67.snd.snd.snd.fst, y67.snd.snd.snd.snd.fst, ()))
else some (Sum.inr (x.fst, x.snd.snd.fst, x.snd.snd.snd.fst, x.snd.snd.snd.snd.fst, ()))
theorem r20_0_run0 (v0 : Nat) (v1 : Int) (v2 : List (Int × List Bm)) (v3 : List (Int × Pm)) (v4 : List Int) : roundK tC G20 (look [(34, W20_34)]) c20_0 p20_0 (v0, v1, v2, v3, v4, ()) = r20_0 (v0, v1, v2, v3, v4, ()) := by kernel_rfl
theorem r20_0_run (x : Nat × Int × List (Int × List Bm) × List (Int × Pm) × List Int × Unit) : roundK tC G20 (look [(34, W20_34)]) c20_0 p20_0 x = r20_0 x := r20_0_run0 x.1 x.2.1 x.2.2.1 x.2.2.2.1 x.2.2.2.2.1
noncomputable def l20_0 (x : Nat × Int × List (Int × List Bm) × List (Int × Pm) × List Int × Unit) : Option (Nat × List (Int × List Bm) × List (Int × Pm) × List Int × Unit) := iterO r20_0 x
noncomputable def W20_0 : LF tC := loopW tC p20_0 0 l20_0
theorem W20_0_ok : keyed 0 (bodyOf Tryz.f20) = [.block 0 (.loop c20_0)] ∧ ∀ n, n ≤ 3 → Snd tC n (.block 0 (.loop c20_0)) W20_0.k := ⟨by kernel_rfl, fun n hn => loopW_ok (p := p20_0) (id := 0) Y20 (lam_le (lam_cons W20_34_ok lam_nil) n hn) hn r20_0_run⟩
def S20 : FS := ⟨[[.p]], [⟨[.one (.one (.ptr 2 0 0))], [.map 3 33, .map 3 26, .box [.mp 0, .mp 1]]⟩], [⟨[.one (.one (.sl 3))], [.map 3 33, .map 3 26, .box [.mp 0, .mp 1], .arr 3]⟩], [[.v]], [(2, 3)]⟩
noncomputable def f20 (x : List (Int × List Bm) × List (Int × Pm) × Unit) : Option (Nat × List (Int × List Bm) × List (Int × Pm) × List Int × Unit) :=
  (l20_0 ((0 : Nat), (0 : Int), x.fst, x.snd.fst, [], ())).bind fun y76 =>
  some (y76.fst, y76.snd.fst, y76.snd.snd.fst, y76.snd.snd.snd.fst, ())
noncomputable def F20 : CF tC := mkF tC S20 f20
theorem f20_run : ∀ a, fnS tC G20 (look [(0, W20_0)]) Tryz.f20 S20 a = f20 a := fun a => by kernel_rfl
theorem F20_ok : CFOK tC 20 F20 := mkF_ok Y20 (fn := Tryz.f20) (body := bodyOf Tryz.f20) (by kernel_rfl) (by kernel_rfl) (by kernel_rfl) (m := 3) rfl (lam_le (lam_cons W20_0_ok lam_nil)) f20_run

/-! atlas.Map -/
noncomputable def G10 : FuncId → Option (CF tC) := look [(20, F20), (9, F9), (15, F15)]
theorem Y10 : SysN tC G10 := (sys_cons F20_ok (mkF_nat _ _) (sys_cons F9_ok (mkF_nat _ _) (sys_cons F15_ok (mkF_nat _ _) (sys_nil tC_ok tC_eq))))
noncomputable def c10_0 : Code := loopOf (bodyOf Tryz.f10) 0
def p10_0 : LS := ⟨3, [0, 3, 7, 8, 9], ⟨[.one (.one (.ptr 2 0 0)), vB, vB, .one (.one (.sl 3)), vB, vB, vB, .one (.one (.sl 4)), vI, vI] ++ vBs 13, [.map 3 33, .map 3 26, .box [.mp 0, .mp 1], .arr 68, .arr 3]⟩, [⟨.exit 0, [3], ⟨[vB, vB, vB, .one (.one (.sl 3))] ++ vBs 19, [.map 3 33, .map 3 26, .box [.mp 0, .mp 1], .arr 68]⟩, []⟩], [(3, 68)]⟩
noncomputable def r10_0 (x : Nat × Nat × Int × Int × List (Int × List Bm) × List (Int × Pm) × List En × List Int × Unit) : Option
  (Nat × Nat × Int × Int × List (Int × List Bm) × List (Int × Pm) × List En × List Int × Unit ⊕
    Nat × List (Int × List Bm) × List (Int × Pm) × List En × Unit) :=
  bif decide (x.snd.snd.snd.fst < x.snd.snd.fst) then
  bif decide ((0 : Int) ≤ x.snd.snd.snd.fst) && decide (x.snd.snd.snd.fst < (↑x.snd.fst : Int)) then
    x.snd.snd.snd.snd.snd.snd.snd.fst[(0 : Nat) + x.snd.snd.snd.fst.toNat]?.bind fun y43 =>
      (f9 (y43, x.snd.snd.snd.snd.fst, x.snd.snd.snd.snd.snd.fst, ())).bind fun y42 =>
        bif decide ((0 : Nat) + x.fst ≤ x.snd.snd.snd.snd.snd.snd.fst.length) then
          bif decide ((0 : Nat) + y42.fst ≤ y42.snd.snd.snd.fst.length) then
            (f15
                  (List.take x.fst (List.drop (0 : Nat) x.snd.snd.snd.snd.snd.snd.fst),
                    List.take y42.fst (List.drop (0 : Nat) y42.snd.snd.snd.fst), ())).bind
              fun y41 =>
              some
                (Sum.inl
                  (y41.fst, x.snd.fst, x.snd.snd.fst, IntKind.i64.wrap (x.snd.snd.snd.fst + (1 : Int)), y42.snd.fst, y42.snd.snd.fst,
                    y41.snd.snd.fst, x.snd.snd.snd.snd.snd.snd.snd.fst, ()))
          else none
        else none
  else none
else some (Sum.inr (x.fst, x.snd.snd.snd.snd.fst, x.snd.snd.snd.snd.snd.fst, x.snd.snd.snd.snd.snd.snd.fst, ()))
theorem r10_0_run0 (v0 : Nat) (v1 : Nat) (v2 : Int) (v3 : Int) (v4 : List (Int × List Bm)) (v5 : List (Int × Pm)) (v6 : List En) (v7 : List Int) : roundK tC G10 (look []) c10_0 p10_0 (v0, v1, v2, v3, v4, v5, v6, v7, ()) = r10_0 (v0, v1, v2, v3, v4, v5, v6, v7, ()) := by kernel_rfl
theorem r10_0_run (x : Nat × Nat × Int × Int × List (Int × List Bm) × List (Int × Pm) × List En × List Int × Unit) : roundK tC G10 (look []) c10_0 p10_0 x = r10_0 x := r10_0_run0 x.1 x.2.1 x.2.2.1 x.2.2.2.1 x.2.2.2.2.1 x.2.2.2.2.2.1 x.2.2.2.2.2.2.1 x.2.2.2.2.2.2.2.1
noncomputable def l10_0 (x : Nat × Nat × Int × Int × List (Int × List Bm) × List (Int × Pm) × List En × List Int × Unit) : Option (Nat × List (Int × List Bm) × List (Int × Pm) × List En × Unit) := iterO r10_0 x
noncomputable def W10_0 : LF tC := loopW tC p10_0 0 l10_0
theorem W10_0_ok : keyed 0 (bodyOf Tryz.f10) = [.block 0 (.loop c10_0)] ∧ ∀ n, n ≤ 3 → Snd tC n (.block 0 (.loop c10_0)) W10_0.k := ⟨by kernel_rfl, fun n hn => loopW_ok (p := p10_0) (id := 0) Y10 (lam_le lam_nil n hn) hn r10_0_run⟩
def S10 : FS := ⟨[[.p]], [⟨[.one (.one (.ptr 2 0 0))], [.map 3 33, .map 3 26, .box [.mp 0, .mp 1]]⟩], [⟨[.one (.one (.sl 3))], [.map 3 33, .map 3 26, .box [.mp 0, .mp 1], .arr 68]⟩], [[.v]], [(2, 68)]⟩
noncomputable def f10 (x : List (Int × List Bm) × List (Int × Pm) × Unit) : Option (Nat × List (Int × List Bm) × List (Int × Pm) × List En × Unit) :=
  (f20 (x.fst, x.snd.fst, ())).bind fun y53 =>
  (l10_0 ((0 : Nat), y53.fst, (↑y53.fst : Int), (0 : Int), y53.snd.fst, y53.snd.snd.fst, [], y53.snd.snd.snd.fst, ())).bind fun y52 =>
    some (y52.fst, y52.snd.fst, y52.snd.snd.fst, y52.snd.snd.snd.fst, ())
noncomputable def F10 : CF tC := mkF tC S10 f10
theorem f10_run : ∀ a, fnS tC G10 (look [(0, W10_0)]) Tryz.f10 S10 a = f10 a := fun a => by kernel_rfl
theorem F10_ok : CFOK tC 10 F10 := mkF_ok Y10 (fn := Tryz.f10) (body := bodyOf Tryz.f10) (by kernel_rfl) (by kernel_rfl) (by kernel_rfl) (m := 3) rfl (lam_le (lam_cons W10_0_ok lam_nil)) f10_run

/-! tell -/
noncomputable def G7 : FuncId → Option (CF tC) := look [(16, F16), (12, F12)]
theorem Y7 : SysN tC G7 := (sys_cons F16_ok (mkF_nat _ _) (sys_cons F12_ok (mkF_nat _ _) (sys_nil tC_ok tC_eq)))
def S7 : FS := ⟨[[.p], [.v, .v, .v, .v, .v, .v, .v, .v]], [⟨[.one (.one (.ptr 2 0 0)), .one (.agg [.bool, .int .i64, .him 49, .int .i64, .bool, .int .i64, .int .i64, .int .i64])], [.map 3 33, .map 3 26, .box [.mp 0, .mp 1]]⟩], [⟨[vI], [.map 3 33, .map 3 26, .box [.mp 0, .mp 1]]⟩], [[.v]], []⟩
noncomputable def f7 (x : Bool × Int × List Bm × Int × Bool × Int × Int × Int × List (Int × List Bm) × List (Int × Pm) × Unit) : Option (Int × List (Int × List Bm) × List (Int × Pm) × Unit) :=
  bif x.fst then
  (f16 (x.snd.fst, x.snd.snd.fst, x.snd.snd.snd.snd.snd.snd.snd.snd.fst, x.snd.snd.snd.snd.snd.snd.snd.snd.snd.fst, ())).bind fun y20 =>
    some (y20.fst, y20.snd.fst, y20.snd.snd.fst, ())
else
  (f12
        (x.snd.fst, x.snd.snd.snd.fst, x.snd.snd.snd.snd.fst, x.snd.snd.snd.snd.snd.fst, x.snd.snd.snd.snd.snd.snd.fst,
          x.snd.snd.snd.snd.snd.snd.snd.fst, x.snd.snd.snd.snd.snd.snd.snd.snd.fst, x.snd.snd.snd.snd.snd.snd.snd.snd.snd.fst, ())).bind
    fun y21 => some (y21.fst, y21.snd.fst, y21.snd.snd.fst, ())
noncomputable def F7 : CF tC := mkF tC S7 f7
theorem f7_run : ∀ a, fnS tC G7 (look []) Tryz.f7 S7 a = f7 a := fun a => by kernel_rfl
theorem F7_ok : CFOK tC 7 F7 := mkF_ok Y7 (fn := Tryz.f7) (body := bodyOf Tryz.f7) (by kernel_rfl) (by kernel_rfl) (by kernel_rfl) (m := 3) rfl (lam_le lam_nil) f7_run
end Go.AE
