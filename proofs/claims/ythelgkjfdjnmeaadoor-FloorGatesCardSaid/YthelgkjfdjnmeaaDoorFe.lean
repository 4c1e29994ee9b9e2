/-
  The plain functions that the seat's Go functions compute, each with the proof that the function keeps it. Printed by the generator (Gen2) and checked by the kernel.
-/
import Derived.Test.YthelgkjfdjnmeaaDoorMr
namespace Go.AE
open Go.Proofs Go.RowKit
set_option maxRecDepth 100000

/-! floor.Maze$2 -/
noncomputable def G48 : FuncId → Option (CF tC) := look []
theorem Y48 : SysN tC G48 := (sys_nil tC_ok tC_eq)
def S48 : FS := ⟨[[.v, .v], [.p], [.q]], [⟨[.one (.agg [.int .i64, .int .i64]), .one (.one (.ptr 1 0 0)), .one (.ro [.int .i64])], [.arr 5, .box [.int .i64, .int .i64, .sl 0]]⟩], [⟨[.one (.one (.prow 0 0))], [.arr 5, .box [.int .i64, .int .i64, .sl 0]]⟩], [[.v]], []⟩
noncomputable def f48 (x : Int × Int × Int × List Int × Int × Int × Nat × Unit) : Option (Nat × List Int × Int × Int × Nat × Unit) :=
  bif
    decide ((0 : Int) ≤ IntKind.i64.wrap (IntKind.i64.wrap (x.snd.fst * x.snd.snd.fst) + x.fst)) &&
      decide (IntKind.i64.wrap (IntKind.i64.wrap (x.snd.fst * x.snd.snd.fst) + x.fst) < (↑x.snd.snd.snd.snd.snd.snd.fst : Int)) then
  some
    ((0 : Nat) + (IntKind.i64.wrap (IntKind.i64.wrap (x.snd.fst * x.snd.snd.fst) + x.fst)).toNat, x.snd.snd.snd.fst, x.snd.snd.snd.snd.fst,
      x.snd.snd.snd.snd.snd.fst, x.snd.snd.snd.snd.snd.snd.fst, ())
else none
noncomputable def F48 : CF tC := mkF tC S48 f48
theorem f48_run : ∀ a, fnS tC G48 (look []) Tryd.f48 S48 a = f48 a := fun a => by kernel_rfl
theorem F48_ok : CFOK tC 48 F48 := mkF_ok Y48 (fn := Tryd.f48) (body := bodyOf Tryd.f48) (by kernel_rfl) (by kernel_rfl) (by kernel_rfl) (m := 2) rfl (lam_le lam_nil) f48_run

/-! below -/
noncomputable def G49 : FuncId → Option (CF tC) := look []
theorem Y49 : SysN tC G49 := (sys_nil tC_ok tC_eq)
def S49 : FS := ⟨[[.p], [.v]], [⟨[.one (.one (.ptr 0 0 0)), vI], [.box [.int .u64]]⟩], [⟨[vI], [.box [.int .u64]]⟩], [[.v]], []⟩
noncomputable def f49 (x : Int × Int × Unit) : Option (Int × Int × Unit) :=
  bif IntKind.u64.wrap x.fst == (0 : Int) then none
else
  some
    (IntKind.i64.wrap
        (((IntKind.u64.wrap (IntKind.u64.wrap (x.snd.fst * (6364136223846793005 : Int)) + (1442695040888963407 : Int))).fdiv
              (8589934592 : Int)).tmod
          (IntKind.u64.wrap x.fst)),
      IntKind.u64.wrap (IntKind.u64.wrap (x.snd.fst * (6364136223846793005 : Int)) + (1442695040888963407 : Int)), ())
noncomputable def F49 : CF tC := mkF tC S49 f49
theorem f49_run : ∀ a, fnS tC G49 (look []) Tryd.f49 S49 a = f49 a := fun a => by kernel_rfl
theorem F49_ok : CFOK tC 49 F49 := mkF_ok Y49 (fn := Tryd.f49) (body := bodyOf Tryd.f49) (by kernel_rfl) (by kernel_rfl) (by kernel_rfl) (m := 1) rfl (lam_le lam_nil) f49_run

/-! floor.Maze -/
noncomputable def G31 : FuncId → Option (CF tC) := look [(46, F46), (47, F47), (48, F48), (49, F49)]
theorem Y31 : SysN tC G31 := (sys_cons F46_ok (mkF_nat _ _) (sys_cons F47_ok (mkF_nat _ _) (sys_cons F48_ok (mkF_nat _ _) (sys_cons F49_ok (mkF_nat _ _) (sys_nil tC_ok tC_eq)))))
noncomputable def c31_6 : Code := loopOf (loopOf (bodyOf Tryd.f31) 0) 2
def p31_6 : LS := ⟨0, [1, 3, 6, 9, 10, 11, 12, 13, 14, 59, 60], ⟨[vB, vI, vB, .one (.one (.ptr 0 0 0)), vB, vB, .one (.one (.ptr 1 0 0)), vB, vB, .one (.one (.ptr 2 0 0)), .one (.fn 48 [.ptr 2 0 0, .ptr 0 0 0]), .one (.one (.ptr 3 0 0)), .one (.one (.sl 4)), .one (.one (.ptr 5 0 0)), .one (.one (.sl 6))] ++ vBs 44 ++ [.one (.agg [.lit .i64 1, .lit .i64 0, .lit .i64 0, .lit .i64 1, .lit .i64 (-1), .lit .i64 0, .lit .i64 0, .lit .i64 (-1)]), vI] ++ vBs 98, [.box [.int .i64], .box [.int .i64, .int .i64, .nils], .box [.int .i64, .int .i64, .sl 7], .box [.int .u64], .arr 39, .box [.int .i64, .int .i64], .arr 39, .arr 5]⟩, [⟨.exit 2, [1, 3, 6, 9, 10, 11, 12, 13, 14], ⟨[vB, vI, vB, .one (.one (.ptr 0 0 0)), vB, vB, .one (.one (.ptr 1 0 0)), vB, vB, .one (.one (.ptr 2 0 0)), .one (.fn 48 [.ptr 2 0 0, .ptr 0 0 0]), .one (.one (.ptr 3 0 0)), .one (.one (.sl 4)), .one (.one (.ptr 5 0 0)), .one (.one (.sl 6))] ++ vBs 144, [.box [.int .i64], .box [.int .i64, .int .i64, .nils], .box [.int .i64, .int .i64, .sl 7], .box [.int .u64], .arr 39, .box [.int .i64, .int .i64], .arr 39, .arr 5]⟩, []⟩], [(14, 39)]⟩
noncomputable def r31_6 (x : Int × Nat × Nat × Int × Int × Int × Int × Int × Int × Nat × Int × List Pt × Int × Int × List Pt × List Int × Unit) : Option
  (Int × Nat × Nat × Int × Int × Int × Int × Int × Int × Nat × Int × List Pt × Int × Int × List Pt × List Int × Unit ⊕
    Int × Nat × Nat × Int × Int × Int × Int × Int × Nat × Int × List Pt × Int × Int × List Pt × List Int × Unit) :=
  bif decide (x.snd.snd.snd.fst < (4 : Int)) then
  bif decide ((0 : Int) ≤ x.snd.snd.snd.fst) && decide (x.snd.snd.snd.fst < (4 : Int)) then
    (idxO [Pt.mk (1 : Int) (0 : Int), Pt.mk (0 : Int) (1 : Int), Pt.mk (-1 : Int) (0 : Int), Pt.mk (0 : Int) (-1 : Int)]
          x.snd.snd.snd.fst).bind
      fun y85 =>
      bif
          decide
            (IntKind.i64.wrap (x.snd.snd.snd.snd.snd.snd.snd.snd.snd.snd.snd.snd.fst + IntKind.i64.wrap ((2 : Int) * y85.X)) >
              (0 : Int)) then
        bif
            decide
              (IntKind.i64.wrap (x.snd.snd.snd.snd.snd.snd.snd.snd.snd.snd.snd.snd.snd.fst + IntKind.i64.wrap ((2 : Int) * y85.Y)) >
                (0 : Int)) then
          bif
              decide
                (IntKind.i64.wrap (x.snd.snd.snd.snd.snd.snd.snd.snd.snd.snd.snd.snd.fst + IntKind.i64.wrap ((2 : Int) * y85.X)) <
                  x.snd.snd.snd.snd.fst) then
            bif
                decide
                  (IntKind.i64.wrap (x.snd.snd.snd.snd.snd.snd.snd.snd.snd.snd.snd.snd.snd.fst + IntKind.i64.wrap ((2 : Int) * y85.Y)) <
                    x.fst) then
              bif
                  decide
                    ((0 : Nat) + x.snd.snd.snd.snd.snd.snd.snd.snd.snd.fst ≤
                      x.snd.snd.snd.snd.snd.snd.snd.snd.snd.snd.snd.snd.snd.snd.snd.fst.length) then
                (f48
                      (IntKind.i64.wrap (x.snd.snd.snd.snd.snd.snd.snd.snd.snd.snd.snd.snd.fst + IntKind.i64.wrap ((2 : Int) * y85.X)),
                        IntKind.i64.wrap (x.snd.snd.snd.snd.snd.snd.snd.snd.snd.snd.snd.snd.snd.fst + IntKind.i64.wrap ((2 : Int) * y85.Y)),
                        x.snd.snd.snd.snd.fst,
                        List.take x.snd.snd.snd.snd.snd.snd.snd.snd.snd.fst
                          (List.drop (0 : Nat) x.snd.snd.snd.snd.snd.snd.snd.snd.snd.snd.snd.snd.snd.snd.snd.fst),
                        x.snd.snd.snd.snd.snd.snd.snd.fst, x.snd.snd.snd.snd.snd.snd.snd.snd.fst, x.snd.snd.snd.snd.snd.snd.snd.snd.snd.fst,
                        ())).bind
                  fun y84 =>
                  y84.snd.fst[y84.fst]?.bind fun y83 =>
                    bif y83 == (2 : Int) then
                      bif decide ((0 : Nat) + x.snd.snd.fst ≤ x.snd.snd.snd.snd.snd.snd.snd.snd.snd.snd.snd.snd.snd.snd.fst.length) then
                        bif roomy (x.snd.snd.fst + (1 : Nat)) (16 : Nat) then
                          some
                            (Sum.inl
                              (x.fst, x.snd.fst, x.snd.snd.fst + (1 : Nat), IntKind.i64.wrap (x.snd.snd.snd.fst + (1 : Int)),
                                x.snd.snd.snd.snd.fst, x.snd.snd.snd.snd.snd.fst, x.snd.snd.snd.snd.snd.snd.fst, y84.snd.snd.fst,
                                y84.snd.snd.snd.fst, y84.snd.snd.snd.snd.fst, x.snd.snd.snd.snd.snd.snd.snd.snd.snd.snd.fst,
                                x.snd.snd.snd.snd.snd.snd.snd.snd.snd.snd.snd.fst, x.snd.snd.snd.snd.snd.snd.snd.snd.snd.snd.snd.snd.fst,
                                x.snd.snd.snd.snd.snd.snd.snd.snd.snd.snd.snd.snd.snd.fst,
                                List.take x.snd.snd.fst
                                    (List.drop (0 : Nat) x.snd.snd.snd.snd.snd.snd.snd.snd.snd.snd.snd.snd.snd.snd.fst) ++
                                  [Pt.mk y85.X y85.Y],
                                y84.snd.fst, ()))
                        else none
                      else none
                    else
                      some
                        (Sum.inl
                          (x.fst, x.snd.fst, x.snd.snd.fst, IntKind.i64.wrap (x.snd.snd.snd.fst + (1 : Int)), x.snd.snd.snd.snd.fst,
                            x.snd.snd.snd.snd.snd.fst, x.snd.snd.snd.snd.snd.snd.fst, y84.snd.snd.fst, y84.snd.snd.snd.fst,
                            y84.snd.snd.snd.snd.fst, x.snd.snd.snd.snd.snd.snd.snd.snd.snd.snd.fst,
                            x.snd.snd.snd.snd.snd.snd.snd.snd.snd.snd.snd.fst, x.snd.snd.snd.snd.snd.snd.snd.snd.snd.snd.snd.snd.fst,
                            x.snd.snd.snd.snd.snd.snd.snd.snd.snd.snd.snd.snd.snd.fst,
                            x.snd.snd.snd.snd.snd.snd.snd.snd.snd.snd.snd.snd.snd.snd.fst, y84.snd.fst, ()))
              else none
            else
              some
                (Sum.inl
                  (x.fst, x.snd.fst, x.snd.snd.fst, IntKind.i64.wrap (x.snd.snd.snd.fst + (1 : Int)), x.snd.snd.snd.snd.fst,
                    x.snd.snd.snd.snd.snd.fst, x.snd.snd.snd.snd.snd.snd.fst, x.snd.snd.snd.snd.snd.snd.snd.fst,
                    x.snd.snd.snd.snd.snd.snd.snd.snd.fst, x.snd.snd.snd.snd.snd.snd.snd.snd.snd.fst,
                    x.snd.snd.snd.snd.snd.snd.snd.snd.snd.snd.fst, x.snd.snd.snd.snd.snd.snd.snd.snd.snd.snd.snd.fst,
                    x.snd.snd.snd.snd.snd.snd.snd.snd.snd.snd.snd.snd.fst, x.snd.snd.snd.snd.snd.snd.snd.snd.snd.snd.snd.snd.snd.fst,
                    x.snd.snd.snd.snd.snd.snd.snd.snd.snd.snd.snd.snd.snd.snd.fst,
                    x.snd.snd.snd.snd.snd.snd.snd.snd.snd.snd.snd.snd.snd.snd.snd.fst, ()))
          else
            some
              (Sum.inl
                (x.fst, x.snd.fst, x.snd.snd.fst, IntKind.i64.wrap (x.snd.snd.snd.fst + (1 : Int)), x.snd.snd.snd.snd.fst,
                  x.snd.snd.snd.snd.snd.fst, x.snd.snd.snd.snd.snd.snd.fst, x.snd.snd.snd.snd.snd.snd.snd.fst,
                  x.snd.snd.snd.snd.snd.snd.snd.snd.fst, x.snd.snd.snd.snd.snd.snd.snd.snd.snd.fst,
                  x.snd.snd.snd.snd.snd.snd.snd.snd.snd.snd.fst, x.snd.snd.snd.snd.snd.snd.snd.snd.snd.snd.snd.fst,
                  x.snd.snd.snd.snd.snd.snd.snd.snd.snd.snd.snd.snd.fst, x.snd.snd.snd.snd.snd.snd.snd.snd.snd.snd.snd.snd.snd.fst,
                  x.snd.snd.snd.snd.snd.snd.snd.snd.snd.snd.snd.snd.snd.snd.fst,
                  x.snd.snd.snd.snd.snd.snd.snd.snd.snd.snd.snd.snd.snd.snd.snd.fst, ()))
        else
          some
            (Sum.inl
              (x.fst, x.snd.fst, x.snd.snd.fst, IntKind.i64.wrap (x.snd.snd.snd.fst + (1 : Int)), x.snd.snd.snd.snd.fst,
                x.snd.snd.snd.snd.snd.fst, x.snd.snd.snd.snd.snd.snd.fst, x.snd.snd.snd.snd.snd.snd.snd.fst,
                x.snd.snd.snd.snd.snd.snd.snd.snd.fst, x.snd.snd.snd.snd.snd.snd.snd.snd.snd.fst,
                x.snd.snd.snd.snd.snd.snd.snd.snd.snd.snd.fst, x.snd.snd.snd.snd.snd.snd.snd.snd.snd.snd.snd.fst,
                x.snd.snd.snd.snd.snd.snd.snd.snd.snd.snd.snd.snd.fst, x.snd.snd.snd.snd.snd.snd.snd.snd.snd.snd.snd.snd.snd.fst,
                x.snd.snd.snd.snd.snd.snd.snd.snd.snd.snd.snd.snd.snd.snd.fst,
                x.snd.snd.snd.snd.snd.snd.snd.snd.snd.snd.snd.snd.snd.snd.snd.fst, ()))
      else
        some
          (Sum.inl
            (x.fst, x.snd.fst, x.snd.snd.fst, IntKind.i64.wrap (x.snd.snd.snd.fst + (1 : Int)), x.snd.snd.snd.snd.fst,
              x.snd.snd.snd.snd.snd.fst, x.snd.snd.snd.snd.snd.snd.fst, x.snd.snd.snd.snd.snd.snd.snd.fst,
              x.snd.snd.snd.snd.snd.snd.snd.snd.fst, x.snd.snd.snd.snd.snd.snd.snd.snd.snd.fst,
              x.snd.snd.snd.snd.snd.snd.snd.snd.snd.snd.fst, x.snd.snd.snd.snd.snd.snd.snd.snd.snd.snd.snd.fst,
              x.snd.snd.snd.snd.snd.snd.snd.snd.snd.snd.snd.snd.fst, x.snd.snd.snd.snd.snd.snd.snd.snd.snd.snd.snd.snd.snd.fst,
              x.snd.snd.snd.snd.snd.snd.snd.snd.snd.snd.snd.snd.snd.snd.fst,
              x.snd.snd.snd.snd.snd.snd.snd.snd.snd.snd.snd.snd.snd.snd.snd.fst, ()))
  else none
else
  some
    (Sum.inr
      (x.fst, x.snd.fst, x.snd.snd.fst, x.snd.snd.snd.snd.fst, x.snd.snd.snd.snd.snd.fst, x.snd.snd.snd.snd.snd.snd.fst,
        x.snd.snd.snd.snd.snd.snd.snd.fst, x.snd.snd.snd.snd.snd.snd.snd.snd.fst, x.snd.snd.snd.snd.snd.snd.snd.snd.snd.fst,
        x.snd.snd.snd.snd.snd.snd.snd.snd.snd.snd.fst, x.snd.snd.snd.snd.snd.snd.snd.snd.snd.snd.snd.fst,
        x.snd.snd.snd.snd.snd.snd.snd.snd.snd.snd.snd.snd.fst, x.snd.snd.snd.snd.snd.snd.snd.snd.snd.snd.snd.snd.snd.fst,
        x.snd.snd.snd.snd.snd.snd.snd.snd.snd.snd.snd.snd.snd.snd.fst, x.snd.snd.snd.snd.snd.snd.snd.snd.snd.snd.snd.snd.snd.snd.snd.fst,
        ()))
theorem r31_6_run0 (v0 : Int) (v1 : Nat) (v2 : Nat) (v3 : Int) (v4 : Int) (v5 : Int) (v6 : Int) (v7 : Int) (v8 : Int) (v9 : Nat) (v10 : Int) (v11 : List Pt) (v12 : Int) (v13 : Int) (v14 : List Pt) (v15 : List Int) : roundK tC G31 (look []) c31_6 p31_6 (v0, v1, v2, v3, v4, v5, v6, v7, v8, v9, v10, v11, v12, v13, v14, v15, ()) = r31_6 (v0, v1, v2, v3, v4, v5, v6, v7, v8, v9, v10, v11, v12, v13, v14, v15, ()) := by kernel_rfl
theorem r31_6_run (x : Int × Nat × Nat × Int × Int × Int × Int × Int × Int × Nat × Int × List Pt × Int × Int × List Pt × List Int × Unit) : roundK tC G31 (look []) c31_6 p31_6 x = r31_6 x := r31_6_run0 x.1 x.2.1 x.2.2.1 x.2.2.2.1 x.2.2.2.2.1 x.2.2.2.2.2.1 x.2.2.2.2.2.2.1 x.2.2.2.2.2.2.2.1 x.2.2.2.2.2.2.2.2.1 x.2.2.2.2.2.2.2.2.2.1 x.2.2.2.2.2.2.2.2.2.2.1 x.2.2.2.2.2.2.2.2.2.2.2.1 x.2.2.2.2.2.2.2.2.2.2.2.2.1 x.2.2.2.2.2.2.2.2.2.2.2.2.2.1 x.2.2.2.2.2.2.2.2.2.2.2.2.2.2.1 x.2.2.2.2.2.2.2.2.2.2.2.2.2.2.2.1
noncomputable def l31_6 (x : Int × Nat × Nat × Int × Int × Int × Int × Int × Int × Nat × Int × List Pt × Int × Int × List Pt × List Int × Unit) : Option (Int × Nat × Nat × Int × Int × Int × Int × Int × Nat × Int × List Pt × Int × Int × List Pt × List Int × Unit) := iterO r31_6 x
noncomputable def W31_6 : LF tC := loopW tC p31_6 2 l31_6
theorem W31_6_ok : keyed 6 (loopOf (bodyOf Tryd.f31) 0) = [.block 2 (.loop c31_6)] ∧ ∀ n, n ≤ 0 → Snd tC n (.block 2 (.loop c31_6)) W31_6.k := ⟨by kernel_rfl, fun n hn => loopW_ok (p := p31_6) (id := 2) Y31 (lam_le lam_nil n hn) hn r31_6_run⟩
noncomputable def c31_0 : Code := loopOf (bodyOf Tryd.f31) 0
def p31_0 : LS := ⟨0, [1, 3, 6, 9, 10, 11, 12], ⟨[vB, vI, vB, .one (.one (.ptr 0 0 0)), vB, vB, .one (.one (.ptr 1 0 0)), vB, vB, .one (.one (.ptr 2 0 0)), .one (.fn 48 [.ptr 2 0 0, .ptr 0 0 0]), .one (.one (.ptr 3 0 0)), .one (.one (.sl 4))] ++ vBs 146, [.box [.int .i64], .box [.int .i64, .int .i64, .nils], .box [.int .i64, .int .i64, .sl 5], .box [.int .u64], .arr 39, .arr 5]⟩, [⟨.exit 0, [6, 9], ⟨vBs 6 ++ [.one (.one (.ptr 0 0 0)), vB, vB, .one (.one (.ptr 1 0 0))] ++ vBs 149, [.box [.int .i64, .int .i64, .nils], .box [.int .i64, .int .i64, .sl 2], .arr 5]⟩, []⟩], []⟩
noncomputable def r31_0 (x : Int × Nat × Int × Int × Int × Int × Int × Nat × Int × List Pt × List Int × Unit) : Option (Int × Nat × Int × Int × Int × Int × Int × Nat × Int × List Pt × List Int × Unit ⊕ Int × Int × Int × Int × Nat × List Int × Unit) :=
  bif decide ((↑x.snd.fst : Int) > (0 : Int)) then
  bif
      decide ((0 : Int) ≤ IntKind.i64.wrap ((↑x.snd.fst : Int) - (1 : Int))) &&
        decide (IntKind.i64.wrap ((↑x.snd.fst : Int) - (1 : Int)) < (↑x.snd.fst : Int)) then
    x.snd.snd.snd.snd.snd.snd.snd.snd.snd.fst[(0 : Nat) + (IntKind.i64.wrap ((↑x.snd.fst : Int) - (1 : Int))).toNat]?.bind fun y129 =>
      (l31_6
            (x.fst, x.snd.fst, (0 : Nat), (0 : Int), x.snd.snd.fst, x.snd.snd.snd.fst, x.snd.snd.snd.snd.fst, x.snd.snd.snd.snd.snd.fst,
              x.snd.snd.snd.snd.snd.snd.fst, x.snd.snd.snd.snd.snd.snd.snd.fst, x.snd.snd.snd.snd.snd.snd.snd.snd.fst,
              x.snd.snd.snd.snd.snd.snd.snd.snd.snd.fst, y129.X, y129.Y, [], x.snd.snd.snd.snd.snd.snd.snd.snd.snd.snd.fst, ())).bind
        fun y128 =>
        bif (↑y128.snd.snd.fst : Int) == (0 : Int) then
          bif
              true && decide ((0 : Int) ≤ IntKind.i64.wrap ((↑y128.snd.fst : Int) - (1 : Int))) &&
                  decide (IntKind.i64.wrap ((↑y128.snd.fst : Int) - (1 : Int)) ≤ (↑y128.snd.fst : Int)) &&
                decide ((↑y128.snd.fst : Int) ≤ (↑y128.snd.fst : Int)) then
            some
              (Sum.inl
                (y128.fst, (IntKind.i64.wrap ((↑y128.snd.fst : Int) - (1 : Int))).toNat - (0 : Nat), y128.snd.snd.snd.fst,
                  y128.snd.snd.snd.snd.fst, y128.snd.snd.snd.snd.snd.fst, y128.snd.snd.snd.snd.snd.snd.fst,
                  y128.snd.snd.snd.snd.snd.snd.snd.fst, y128.snd.snd.snd.snd.snd.snd.snd.snd.fst,
                  y128.snd.snd.snd.snd.snd.snd.snd.snd.snd.fst, y128.snd.snd.snd.snd.snd.snd.snd.snd.snd.snd.fst,
                  y128.snd.snd.snd.snd.snd.snd.snd.snd.snd.snd.snd.snd.snd.snd.fst, ()))
          else none
        else
          (f49 ((↑y128.snd.snd.fst : Int), y128.snd.snd.snd.snd.snd.snd.snd.snd.snd.fst, ())).bind fun y127 =>
            bif decide ((0 : Int) ≤ y127.fst) && decide (y127.fst < (↑y128.snd.snd.fst : Int)) then
              y128.snd.snd.snd.snd.snd.snd.snd.snd.snd.snd.snd.snd.snd.fst[(0 : Nat) + y127.fst.toNat]?.bind fun y126 =>
                bif
                    decide
                      ((0 : Nat) + y128.snd.snd.snd.snd.snd.snd.snd.snd.fst ≤
                        y128.snd.snd.snd.snd.snd.snd.snd.snd.snd.snd.snd.snd.snd.snd.fst.length) then
                  (f48
                        (IntKind.i64.wrap (y128.snd.snd.snd.snd.snd.snd.snd.snd.snd.snd.snd.fst + y126.X),
                          IntKind.i64.wrap (y128.snd.snd.snd.snd.snd.snd.snd.snd.snd.snd.snd.snd.fst + y126.Y), y128.snd.snd.snd.fst,
                          List.take y128.snd.snd.snd.snd.snd.snd.snd.snd.fst
                            (List.drop (0 : Nat) y128.snd.snd.snd.snd.snd.snd.snd.snd.snd.snd.snd.snd.snd.snd.fst),
                          y128.snd.snd.snd.snd.snd.snd.fst, y128.snd.snd.snd.snd.snd.snd.snd.fst, y128.snd.snd.snd.snd.snd.snd.snd.snd.fst,
                          ())).bind
                    fun y125 =>
                    y125.snd.fst[y125.fst]?.bind fun _x =>
                      bif decide ((0 : Nat) + y125.snd.snd.snd.snd.fst ≤ (y125.snd.fst.set y125.fst (1 : Int)).length) then
                        (f48
                              (IntKind.i64.wrap
                                  (y128.snd.snd.snd.snd.snd.snd.snd.snd.snd.snd.snd.fst + IntKind.i64.wrap ((2 : Int) * y126.X)),
                                IntKind.i64.wrap
                                  (y128.snd.snd.snd.snd.snd.snd.snd.snd.snd.snd.snd.snd.fst + IntKind.i64.wrap ((2 : Int) * y126.Y)),
                                y128.snd.snd.snd.fst,
                                List.take y125.snd.snd.snd.snd.fst (List.drop (0 : Nat) (y125.snd.fst.set y125.fst (1 : Int))),
                                y125.snd.snd.fst, y125.snd.snd.snd.fst, y125.snd.snd.snd.snd.fst, ())).bind
                          fun y123 =>
                          y123.snd.fst[y123.fst]?.bind fun _x =>
                            bif decide ((0 : Nat) + y128.snd.fst ≤ y128.snd.snd.snd.snd.snd.snd.snd.snd.snd.snd.fst.length) then
                              bif roomy (y128.snd.fst + (1 : Nat)) (16 : Nat) then
                                some
                                  (Sum.inl
                                    (y128.fst, y128.snd.fst + (1 : Nat), y128.snd.snd.snd.fst, y128.snd.snd.snd.snd.fst,
                                      y128.snd.snd.snd.snd.snd.fst, y123.snd.snd.fst, y123.snd.snd.snd.fst, y123.snd.snd.snd.snd.fst,
                                      y127.snd.fst,
                                      List.take y128.snd.fst (List.drop (0 : Nat) y128.snd.snd.snd.snd.snd.snd.snd.snd.snd.snd.fst) ++
                                        [Pt.mk
                                            (IntKind.i64.wrap
                                              (y128.snd.snd.snd.snd.snd.snd.snd.snd.snd.snd.snd.fst +
                                                IntKind.i64.wrap ((2 : Int) * y126.X)))
                                            (IntKind.i64.wrap
                                              (y128.snd.snd.snd.snd.snd.snd.snd.snd.snd.snd.snd.snd.fst +
                                                IntKind.i64.wrap ((2 : Int) * y126.Y)))],
                                      y123.snd.fst.set y123.fst (1 : Int), ()))
                              else none
                            else none
                      else none
                else none
            else none
  else none
else
  some
    (Sum.inr
      (x.snd.snd.snd.fst, x.snd.snd.snd.snd.fst, x.snd.snd.snd.snd.snd.fst, x.snd.snd.snd.snd.snd.snd.fst,
        x.snd.snd.snd.snd.snd.snd.snd.fst, x.snd.snd.snd.snd.snd.snd.snd.snd.snd.snd.fst, ()))
theorem r31_0_run0 (v0 : Int) (v1 : Nat) (v2 : Int) (v3 : Int) (v4 : Int) (v5 : Int) (v6 : Int) (v7 : Nat) (v8 : Int) (v9 : List Pt) (v10 : List Int) : roundK tC G31 (look [(6, W31_6)]) c31_0 p31_0 (v0, v1, v2, v3, v4, v5, v6, v7, v8, v9, v10, ()) = r31_0 (v0, v1, v2, v3, v4, v5, v6, v7, v8, v9, v10, ()) := by kernel_rfl
theorem r31_0_run (x : Int × Nat × Int × Int × Int × Int × Int × Nat × Int × List Pt × List Int × Unit) : roundK tC G31 (look [(6, W31_6)]) c31_0 p31_0 x = r31_0 x := r31_0_run0 x.1 x.2.1 x.2.2.1 x.2.2.2.1 x.2.2.2.2.1 x.2.2.2.2.2.1 x.2.2.2.2.2.2.1 x.2.2.2.2.2.2.2.1 x.2.2.2.2.2.2.2.2.1 x.2.2.2.2.2.2.2.2.2.1 x.2.2.2.2.2.2.2.2.2.2.1
noncomputable def l31_0 (x : Int × Nat × Int × Int × Int × Int × Int × Nat × Int × List Pt × List Int × Unit) : Option (Int × Int × Int × Int × Nat × List Int × Unit) := iterO r31_0 x
noncomputable def W31_0 : LF tC := loopW tC p31_0 0 l31_0
theorem W31_0_ok : keyed 0 (bodyOf Tryd.f31) = [.block 0 (.loop c31_0)] ∧ ∀ n, n ≤ 0 → Snd tC n (.block 0 (.loop c31_0)) W31_0.k := ⟨by kernel_rfl, fun n hn => loopW_ok (p := p31_0) (id := 0) Y31 (lam_le (lam_cons W31_6_ok lam_nil) n hn) hn r31_0_run⟩
def S31 : FS := ⟨[[.v], [.v], [.v]], [⟨[vI, vI, vI], []⟩], [⟨[.tup [.agg [.int .i64, .int .i64, .imm 5], .one (.int .i64)]], []⟩], [[.v, .v, .s 5], [.v]], []⟩
noncomputable def f31 (x : Int × Int × Int × Unit) : Option (Int × Int × List Int × Int × Unit) :=
  bif !f46 x.fst then some ((0 : Int), (0 : Int), [], (2 : Int), ())
else
  bif !f46 x.snd.fst then some ((0 : Int), (0 : Int), [], (2 : Int), ())
  else
    (f47 ([(2 : Int)], IntKind.i64.wrap (x.fst * x.snd.fst), ())).bind fun y143 =>
      bif decide ((0 : Nat) + y143.fst ≤ y143.snd.fst.length) then
        (f48 ((1 : Int), (1 : Int), x.fst, List.take y143.fst (List.drop (0 : Nat) y143.snd.fst), x.fst, x.snd.fst, y143.fst, ())).bind
          fun y142 =>
          y142.snd.fst[y142.fst]?.bind fun _x =>
            (l31_0
                  (x.snd.fst, (1 : Nat), x.fst, (0 : Int), (0 : Int), y142.snd.snd.fst, y142.snd.snd.snd.fst, y142.snd.snd.snd.snd.fst,
                    IntKind.u64.wrap x.snd.snd.fst, [Pt.mk (1 : Int) (1 : Int)], y142.snd.fst.set y142.fst (1 : Int), ())).bind
              fun y140 =>
              bif decide ((0 : Nat) + y140.snd.snd.snd.snd.fst ≤ y140.snd.snd.snd.snd.snd.fst.length) then
                some
                  (y140.snd.snd.fst, y140.snd.snd.snd.fst,
                    List.take y140.snd.snd.snd.snd.fst (List.drop (0 : Nat) y140.snd.snd.snd.snd.snd.fst), (0 : Int), ())
              else none
      else none
noncomputable def F31 : CF tC := mkF tC S31 f31
theorem f31_run : ∀ a, fnS tC G31 (look [(0, W31_0)]) Tryd.f31 S31 a = f31 a := fun a => by kernel_rfl
theorem F31_ok : CFOK tC 31 F31 := mkF_ok Y31 (fn := Tryd.f31) (body := bodyOf Tryd.f31) (by kernel_rfl) (by kernel_rfl) (by kernel_rfl) (m := 0) rfl (lam_le (lam_cons W31_0_ok lam_nil)) f31_run
end Go.AE
