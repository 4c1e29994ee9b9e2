/-
  The plain functions that the seat's Go functions compute, each with the proof that the function keeps it. Printed by the generator (Gen2) and checked by the kernel.
-/
import Derived.Test.YtilmnpkjlaamlaaFb
namespace Go.AE
open Go.Proofs Go.RowKit
set_option maxRecDepth 100000

/-! RepairClones -/
noncomputable def G8 : FuncId → Option (CF tC) := look [(9, F9), (20, F20), (10, F10), (27, F27), (15, F15), (22, F22), (17, F17), (18, F18), (19, F19), (23, F23), (14, F14)]
theorem Y8 : SysN tC G8 := (sys_cons F9_ok (mkF_nat _ _) (sys_cons F20_ok (mkF_nat _ _) (sys_cons F10_ok (mkF_nat _ _) (sys_cons F27_ok (mkF_nat _ _) (sys_cons F15_ok (mkF_nat _ _) (sys_cons F22_ok (mkF_nat _ _) (sys_cons F17_ok (mkF_nat _ _) (sys_cons F18_ok (mkF_nat _ _) (sys_cons F19_ok (mkF_nat _ _) (sys_cons F23_ok (mkF_nat _ _) (sys_cons F14_ok (mkF_nat _ _) (sys_nil tC_ok tC_eq))))))))))))
noncomputable def c8_0 : Code := loopOf (bodyOf Try.f8) 0
def p8_0 : LS := ⟨0, [2, 3, 4, 7, 8, 10, 11, 12, 13, 14], ⟨[vB, vB, .one (.one (.imm 47)), .one (.one (.ptr 0 0 0)), .one (.one (.ptr 1 0 0)), vB, vB, .one (.one (.ptr 2 0 0)), .one (.one (.ptr 3 0 0)), vB, .one (.one (.ptr 4 0 0)), .one (.one (.sl 5)), vI, vI, vI] ++ vBs 131, [.box [.int .i64, .int .i64, .imm 5], .box [.int .i64, .int .i64], .box [.int .i64, .int .i64, .sl 6], .box [.int .i64, .int .i64, .sl 7, .int .i64, .int .i64, .sl 8], .box [.int .i64, .int .i64, .sl 9, .int .i64, .int .i64, .sl 10], .arr 26, .arr 5, .arr 5, .arr 3, .arr 5, .arr 3]⟩, [⟨.exit 0, [2, 3, 4, 7, 8, 10, 11, 12, 13], ⟨[vB, vB, .one (.one (.imm 47)), .one (.one (.ptr 0 0 0)), .one (.one (.ptr 1 0 0)), vB, vB, .one (.one (.ptr 2 0 0)), .one (.one (.ptr 3 0 0)), vB, .one (.one (.ptr 4 0 0)), .one (.one (.sl 5)), vI, vI] ++ vBs 132, [.box [.int .i64, .int .i64, .imm 5], .box [.int .i64, .int .i64], .box [.int .i64, .int .i64, .sl 6], .box [.int .i64, .int .i64, .sl 7, .int .i64, .int .i64, .sl 8], .box [.int .i64, .int .i64, .sl 9, .int .i64, .int .i64, .sl 10], .arr 26, .arr 5, .arr 5, .arr 3, .arr 5, .arr 3]⟩, []⟩], []⟩
noncomputable def r8_0 (x : List Ac ×
  Nat ×
    Int ×
      Int ×
        Int ×
          Int ×
            Int ×
              List Int ×
                Int ×
                  Int ×
                    Int ×
                      Int ×
                        Nat ×
                          Int ×
                            Int ×
                              Nat ×
                                Int ×
                                  Int ×
                                    Nat ×
                                      Int ×
                                        Int × Nat × Int × Int × Nat × List Pt × List Int × List Int × List Int × List Int × List Int × Unit) : Option
  (List Ac ×
      Nat ×
        Int ×
          Int ×
            Int ×
              Int ×
                Int ×
                  List Int ×
                    Int ×
                      Int ×
                        Int ×
                          Int ×
                            Nat ×
                              Int ×
                                Int ×
                                  Nat ×
                                    Int ×
                                      Int ×
                                        Nat ×
                                          Int ×
                                            Int ×
                                              Nat ×
                                                Int × Int × Nat × List Pt × List Int × List Int × List Int × List Int × List Int × Unit ⊕
    List Ac ×
      Nat ×
        Int ×
          Int ×
            Int ×
              Int ×
                List Int ×
                  Int ×
                    Int ×
                      Int ×
                        Int ×
                          Nat ×
                            Int ×
                              Int ×
                                Nat ×
                                  Int ×
                                    Int ×
                                      Nat ×
                                        Int ×
                                          Int ×
                                            Nat × Int × Int × Nat × List Pt × List Int × List Int × List Int × List Int × List Int × Unit) :=
  bif decide (x.snd.snd.snd.snd.fst < (↑x.fst.length : Int)) then
  (idxO x.fst x.snd.snd.snd.snd.fst).bind fun y102 =>
    bif
        decide
          ((0 : Nat) + x.snd.snd.snd.snd.snd.snd.snd.snd.snd.snd.snd.snd.snd.snd.snd.fst ≤
            x.snd.snd.snd.snd.snd.snd.snd.snd.snd.snd.snd.snd.snd.snd.snd.snd.snd.snd.snd.snd.snd.snd.snd.snd.snd.snd.snd.fst.length) then
      bif
          decide
            ((0 : Nat) + x.snd.snd.snd.snd.snd.snd.snd.snd.snd.snd.snd.snd.snd.snd.snd.snd.snd.snd.fst ≤
              x.snd.snd.snd.snd.snd.snd.snd.snd.snd.snd.snd.snd.snd.snd.snd.snd.snd.snd.snd.snd.snd.snd.snd.snd.snd.snd.snd.snd.fst.length) then
        (f22
              (y102.K, y102.X, y102.Y,
                List.take x.snd.snd.snd.snd.snd.snd.snd.snd.snd.snd.snd.snd.snd.snd.snd.fst
                  (List.drop (0 : Nat)
                    x.snd.snd.snd.snd.snd.snd.snd.snd.snd.snd.snd.snd.snd.snd.snd.snd.snd.snd.snd.snd.snd.snd.snd.snd.snd.snd.snd.fst),
                List.take x.snd.snd.snd.snd.snd.snd.snd.snd.snd.snd.snd.snd.snd.snd.snd.snd.snd.snd.fst
                  (List.drop (0 : Nat)
                    x.snd.snd.snd.snd.snd.snd.snd.snd.snd.snd.snd.snd.snd.snd.snd.snd.snd.snd.snd.snd.snd.snd.snd.snd.snd.snd.snd.snd.fst),
                x.snd.snd.snd.snd.snd.snd.snd.snd.snd.snd.snd.snd.snd.fst, x.snd.snd.snd.snd.snd.snd.snd.snd.snd.snd.snd.snd.snd.snd.fst,
                x.snd.snd.snd.snd.snd.snd.snd.snd.snd.snd.snd.snd.snd.snd.snd.fst,
                x.snd.snd.snd.snd.snd.snd.snd.snd.snd.snd.snd.snd.snd.snd.snd.snd.fst,
                x.snd.snd.snd.snd.snd.snd.snd.snd.snd.snd.snd.snd.snd.snd.snd.snd.snd.fst,
                x.snd.snd.snd.snd.snd.snd.snd.snd.snd.snd.snd.snd.snd.snd.snd.snd.snd.snd.fst, ())).bind
          fun y101 =>
          some
            (Sum.inl
              (x.fst, x.snd.fst, x.snd.snd.fst, x.snd.snd.snd.fst, IntKind.i64.wrap (x.snd.snd.snd.snd.fst + (1 : Int)),
                x.snd.snd.snd.snd.snd.fst, x.snd.snd.snd.snd.snd.snd.fst, x.snd.snd.snd.snd.snd.snd.snd.fst,
                x.snd.snd.snd.snd.snd.snd.snd.snd.fst, x.snd.snd.snd.snd.snd.snd.snd.snd.snd.fst,
                x.snd.snd.snd.snd.snd.snd.snd.snd.snd.snd.fst, x.snd.snd.snd.snd.snd.snd.snd.snd.snd.snd.snd.fst,
                x.snd.snd.snd.snd.snd.snd.snd.snd.snd.snd.snd.snd.fst, y101.snd.fst, y101.snd.snd.fst, y101.snd.snd.snd.fst,
                y101.snd.snd.snd.snd.fst, y101.snd.snd.snd.snd.snd.fst, y101.snd.snd.snd.snd.snd.snd.fst,
                x.snd.snd.snd.snd.snd.snd.snd.snd.snd.snd.snd.snd.snd.snd.snd.snd.snd.snd.snd.fst,
                x.snd.snd.snd.snd.snd.snd.snd.snd.snd.snd.snd.snd.snd.snd.snd.snd.snd.snd.snd.snd.fst,
                x.snd.snd.snd.snd.snd.snd.snd.snd.snd.snd.snd.snd.snd.snd.snd.snd.snd.snd.snd.snd.snd.fst,
                x.snd.snd.snd.snd.snd.snd.snd.snd.snd.snd.snd.snd.snd.snd.snd.snd.snd.snd.snd.snd.snd.snd.fst,
                x.snd.snd.snd.snd.snd.snd.snd.snd.snd.snd.snd.snd.snd.snd.snd.snd.snd.snd.snd.snd.snd.snd.snd.fst,
                x.snd.snd.snd.snd.snd.snd.snd.snd.snd.snd.snd.snd.snd.snd.snd.snd.snd.snd.snd.snd.snd.snd.snd.snd.fst,
                x.snd.snd.snd.snd.snd.snd.snd.snd.snd.snd.snd.snd.snd.snd.snd.snd.snd.snd.snd.snd.snd.snd.snd.snd.snd.fst,
                x.snd.snd.snd.snd.snd.snd.snd.snd.snd.snd.snd.snd.snd.snd.snd.snd.snd.snd.snd.snd.snd.snd.snd.snd.snd.snd.fst,
                y101.snd.snd.snd.snd.snd.snd.snd.fst, y101.snd.snd.snd.snd.snd.snd.snd.snd.fst,
                x.snd.snd.snd.snd.snd.snd.snd.snd.snd.snd.snd.snd.snd.snd.snd.snd.snd.snd.snd.snd.snd.snd.snd.snd.snd.snd.snd.snd.snd.fst,
                x.snd.snd.snd.snd.snd.snd.snd.snd.snd.snd.snd.snd.snd.snd.snd.snd.snd.snd.snd.snd.snd.snd.snd.snd.snd.snd.snd.snd.snd.snd.fst,
                ()))
      else none
    else none
else
  some
    (Sum.inr
      (x.fst, x.snd.fst, x.snd.snd.fst, x.snd.snd.snd.fst, x.snd.snd.snd.snd.snd.fst, x.snd.snd.snd.snd.snd.snd.fst,
        x.snd.snd.snd.snd.snd.snd.snd.fst, x.snd.snd.snd.snd.snd.snd.snd.snd.fst, x.snd.snd.snd.snd.snd.snd.snd.snd.snd.fst,
        x.snd.snd.snd.snd.snd.snd.snd.snd.snd.snd.fst, x.snd.snd.snd.snd.snd.snd.snd.snd.snd.snd.snd.fst,
        x.snd.snd.snd.snd.snd.snd.snd.snd.snd.snd.snd.snd.fst, x.snd.snd.snd.snd.snd.snd.snd.snd.snd.snd.snd.snd.snd.fst,
        x.snd.snd.snd.snd.snd.snd.snd.snd.snd.snd.snd.snd.snd.snd.fst, x.snd.snd.snd.snd.snd.snd.snd.snd.snd.snd.snd.snd.snd.snd.snd.fst,
        x.snd.snd.snd.snd.snd.snd.snd.snd.snd.snd.snd.snd.snd.snd.snd.snd.fst,
        x.snd.snd.snd.snd.snd.snd.snd.snd.snd.snd.snd.snd.snd.snd.snd.snd.snd.fst,
        x.snd.snd.snd.snd.snd.snd.snd.snd.snd.snd.snd.snd.snd.snd.snd.snd.snd.snd.fst,
        x.snd.snd.snd.snd.snd.snd.snd.snd.snd.snd.snd.snd.snd.snd.snd.snd.snd.snd.snd.fst,
        x.snd.snd.snd.snd.snd.snd.snd.snd.snd.snd.snd.snd.snd.snd.snd.snd.snd.snd.snd.snd.fst,
        x.snd.snd.snd.snd.snd.snd.snd.snd.snd.snd.snd.snd.snd.snd.snd.snd.snd.snd.snd.snd.snd.fst,
        x.snd.snd.snd.snd.snd.snd.snd.snd.snd.snd.snd.snd.snd.snd.snd.snd.snd.snd.snd.snd.snd.snd.fst,
        x.snd.snd.snd.snd.snd.snd.snd.snd.snd.snd.snd.snd.snd.snd.snd.snd.snd.snd.snd.snd.snd.snd.snd.fst,
        x.snd.snd.snd.snd.snd.snd.snd.snd.snd.snd.snd.snd.snd.snd.snd.snd.snd.snd.snd.snd.snd.snd.snd.snd.fst,
        x.snd.snd.snd.snd.snd.snd.snd.snd.snd.snd.snd.snd.snd.snd.snd.snd.snd.snd.snd.snd.snd.snd.snd.snd.snd.fst,
        x.snd.snd.snd.snd.snd.snd.snd.snd.snd.snd.snd.snd.snd.snd.snd.snd.snd.snd.snd.snd.snd.snd.snd.snd.snd.snd.fst,
        x.snd.snd.snd.snd.snd.snd.snd.snd.snd.snd.snd.snd.snd.snd.snd.snd.snd.snd.snd.snd.snd.snd.snd.snd.snd.snd.snd.fst,
        x.snd.snd.snd.snd.snd.snd.snd.snd.snd.snd.snd.snd.snd.snd.snd.snd.snd.snd.snd.snd.snd.snd.snd.snd.snd.snd.snd.snd.fst,
        x.snd.snd.snd.snd.snd.snd.snd.snd.snd.snd.snd.snd.snd.snd.snd.snd.snd.snd.snd.snd.snd.snd.snd.snd.snd.snd.snd.snd.snd.fst,
        x.snd.snd.snd.snd.snd.snd.snd.snd.snd.snd.snd.snd.snd.snd.snd.snd.snd.snd.snd.snd.snd.snd.snd.snd.snd.snd.snd.snd.snd.snd.fst, ()))
theorem r8_0_run0 (v0 : List Ac) (v1 : Nat) (v2 : Int) (v3 : Int) (v4 : Int) (v5 : Int) (v6 : Int) (v7 : List Int) (v8 : Int) (v9 : Int) (v10 : Int) (v11 : Int) (v12 : Nat) (v13 : Int) (v14 : Int) (v15 : Nat) (v16 : Int) (v17 : Int) (v18 : Nat) (v19 : Int) (v20 : Int) (v21 : Nat) (v22 : Int) (v23 : Int) (v24 : Nat) (v25 : List Pt) (v26 : List Int) (v27 : List Int) (v28 : List Int) (v29 : List Int) (v30 : List Int) : roundK tC G8 (look []) c8_0 p8_0 (v0, v1, v2, v3, v4, v5, v6, v7, v8, v9, v10, v11, v12, v13, v14, v15, v16, v17, v18, v19, v20, v21, v22, v23, v24, v25, v26, v27, v28, v29, v30, ()) = r8_0 (v0, v1, v2, v3, v4, v5, v6, v7, v8, v9, v10, v11, v12, v13, v14, v15, v16, v17, v18, v19, v20, v21, v22, v23, v24, v25, v26, v27, v28, v29, v30, ()) := by kernel_rfl
theorem r8_0_run (x : List Ac ×
  Nat ×
    Int ×
      Int ×
        Int ×
          Int ×
            Int ×
              List Int ×
                Int ×
                  Int ×
                    Int ×
                      Int ×
                        Nat ×
                          Int ×
                            Int ×
                              Nat ×
                                Int ×
                                  Int ×
                                    Nat ×
                                      Int ×
                                        Int × Nat × Int × Int × Nat × List Pt × List Int × List Int × List Int × List Int × List Int × Unit) : roundK tC G8 (look []) c8_0 p8_0 x = r8_0 x := r8_0_run0 x.1 x.2.1 x.2.2.1 x.2.2.2.1 x.2.2.2.2.1 x.2.2.2.2.2.1 x.2.2.2.2.2.2.1 x.2.2.2.2.2.2.2.1 x.2.2.2.2.2.2.2.2.1 x.2.2.2.2.2.2.2.2.2.1 x.2.2.2.2.2.2.2.2.2.2.1 x.2.2.2.2.2.2.2.2.2.2.2.1 x.2.2.2.2.2.2.2.2.2.2.2.2.1 x.2.2.2.2.2.2.2.2.2.2.2.2.2.1 x.2.2.2.2.2.2.2.2.2.2.2.2.2.2.1 x.2.2.2.2.2.2.2.2.2.2.2.2.2.2.2.1 x.2.2.2.2.2.2.2.2.2.2.2.2.2.2.2.2.1 x.2.2.2.2.2.2.2.2.2.2.2.2.2.2.2.2.2.1 x.2.2.2.2.2.2.2.2.2.2.2.2.2.2.2.2.2.2.1 x.2.2.2.2.2.2.2.2.2.2.2.2.2.2.2.2.2.2.2.1 x.2.2.2.2.2.2.2.2.2.2.2.2.2.2.2.2.2.2.2.2.1 x.2.2.2.2.2.2.2.2.2.2.2.2.2.2.2.2.2.2.2.2.2.1 x.2.2.2.2.2.2.2.2.2.2.2.2.2.2.2.2.2.2.2.2.2.2.1 x.2.2.2.2.2.2.2.2.2.2.2.2.2.2.2.2.2.2.2.2.2.2.2.1 x.2.2.2.2.2.2.2.2.2.2.2.2.2.2.2.2.2.2.2.2.2.2.2.2.1 x.2.2.2.2.2.2.2.2.2.2.2.2.2.2.2.2.2.2.2.2.2.2.2.2.2.1 x.2.2.2.2.2.2.2.2.2.2.2.2.2.2.2.2.2.2.2.2.2.2.2.2.2.2.1 x.2.2.2.2.2.2.2.2.2.2.2.2.2.2.2.2.2.2.2.2.2.2.2.2.2.2.2.1 x.2.2.2.2.2.2.2.2.2.2.2.2.2.2.2.2.2.2.2.2.2.2.2.2.2.2.2.2.1 x.2.2.2.2.2.2.2.2.2.2.2.2.2.2.2.2.2.2.2.2.2.2.2.2.2.2.2.2.2.1 x.2.2.2.2.2.2.2.2.2.2.2.2.2.2.2.2.2.2.2.2.2.2.2.2.2.2.2.2.2.2.1
noncomputable def l8_0 (x : List Ac ×
  Nat ×
    Int ×
      Int ×
        Int ×
          Int ×
            Int ×
              List Int ×
                Int ×
                  Int ×
                    Int ×
                      Int ×
                        Nat ×
                          Int ×
                            Int ×
                              Nat ×
                                Int ×
                                  Int ×
                                    Nat ×
                                      Int ×
                                        Int × Nat × Int × Int × Nat × List Pt × List Int × List Int × List Int × List Int × List Int × Unit) : Option
  (List Ac ×
    Nat ×
      Int ×
        Int ×
          Int ×
            Int ×
              List Int ×
                Int ×
                  Int ×
                    Int ×
                      Int ×
                        Nat ×
                          Int ×
                            Int ×
                              Nat ×
                                Int ×
                                  Int ×
                                    Nat ×
                                      Int ×
                                        Int × Nat × Int × Int × Nat × List Pt × List Int × List Int × List Int × List Int × List Int × Unit) := iterO r8_0 x
noncomputable def W8_0 : LF tC := loopW tC p8_0 0 l8_0
theorem W8_0_ok : keyed 0 (bodyOf Try.f8) = [.block 0 (.loop c8_0)] ∧ ∀ n, n ≤ 0 → Snd tC n (.block 0 (.loop c8_0)) W8_0.k := ⟨by kernel_rfl, fun n hn => loopW_ok (p := p8_0) (id := 0) Y8 (lam_le lam_nil n hn) hn r8_0_run⟩
noncomputable def c8_6 : Code := loopOf (bodyOf Try.f8) 2
def p8_6 : LS := ⟨0, [2, 4, 8, 10, 18], ⟨[vB, vB, .one (.one (.imm 47)), vB, .one (.one (.ptr 0 0 0)), vB, vB, vB, .one (.one (.ptr 1 0 0)), vB, .one (.one (.ptr 2 0 0))] ++ vBs 7 ++ [vI] ++ vBs 127, [.box [.int .i64, .int .i64], .box [.int .i64, .int .i64, .sl 3, .int .i64, .int .i64, .sl 4], .box [.int .i64, .int .i64, .sl 5, .int .i64, .int .i64, .sl 6], .arr 5, .arr 3, .arr 5, .arr 3]⟩, [⟨.exit 2, [4, 8, 10], ⟨vBs 4 ++ [.one (.one (.ptr 0 0 0)), vB, vB, vB, .one (.one (.ptr 1 0 0)), vB, .one (.one (.ptr 2 0 0))] ++ vBs 135, [.box [.int .i64, .int .i64], .box [.int .i64, .int .i64, .sl 3, .int .i64, .int .i64, .sl 4], .box [.int .i64, .int .i64, .sl 5, .int .i64, .int .i64, .sl 6], .arr 5, .arr 3, .arr 5, .arr 3]⟩, []⟩], []⟩
noncomputable def r8_6 (x : List Ac ×
  Int × Int × Int × Int × Int × Nat × Int × Int × Nat × Int × Int × Nat × Int × Int × Nat × List Int × List Int × List Int × List Int × Unit) : Option
  (List Ac ×
      Int ×
        Int ×
          Int × Int × Int × Nat × Int × Int × Nat × Int × Int × Nat × Int × Int × Nat × List Int × List Int × List Int × List Int × Unit ⊕
    Int × Int × Int × Int × Nat × Int × Int × Nat × Int × Int × Nat × Int × Int × Nat × List Int × List Int × List Int × List Int × Unit) :=
  bif decide (x.snd.fst < (↑x.fst.length : Int)) then
  (idxO x.fst x.snd.fst).bind fun y191 =>
    bif
        decide
          ((0 : Nat) + x.snd.snd.snd.snd.snd.snd.snd.snd.snd.snd.snd.snd.fst ≤
            x.snd.snd.snd.snd.snd.snd.snd.snd.snd.snd.snd.snd.snd.snd.snd.snd.snd.snd.fst.length) then
      bif
          decide
            ((0 : Nat) + x.snd.snd.snd.snd.snd.snd.snd.snd.snd.snd.snd.snd.snd.snd.snd.fst ≤
              x.snd.snd.snd.snd.snd.snd.snd.snd.snd.snd.snd.snd.snd.snd.snd.snd.snd.snd.snd.fst.length) then
        (f22
              (y191.K, y191.X, y191.Y,
                List.take x.snd.snd.snd.snd.snd.snd.snd.snd.snd.snd.snd.snd.fst
                  (List.drop (0 : Nat) x.snd.snd.snd.snd.snd.snd.snd.snd.snd.snd.snd.snd.snd.snd.snd.snd.snd.snd.fst),
                List.take x.snd.snd.snd.snd.snd.snd.snd.snd.snd.snd.snd.snd.snd.snd.snd.fst
                  (List.drop (0 : Nat) x.snd.snd.snd.snd.snd.snd.snd.snd.snd.snd.snd.snd.snd.snd.snd.snd.snd.snd.snd.fst),
                x.snd.snd.snd.snd.snd.snd.snd.snd.snd.snd.fst, x.snd.snd.snd.snd.snd.snd.snd.snd.snd.snd.snd.fst,
                x.snd.snd.snd.snd.snd.snd.snd.snd.snd.snd.snd.snd.fst, x.snd.snd.snd.snd.snd.snd.snd.snd.snd.snd.snd.snd.snd.fst,
                x.snd.snd.snd.snd.snd.snd.snd.snd.snd.snd.snd.snd.snd.snd.fst,
                x.snd.snd.snd.snd.snd.snd.snd.snd.snd.snd.snd.snd.snd.snd.snd.fst, ())).bind
          fun y190 =>
          some
            (Sum.inl
              (x.fst, IntKind.i64.wrap (x.snd.fst + (1 : Int)), x.snd.snd.fst, x.snd.snd.snd.fst, x.snd.snd.snd.snd.fst,
                x.snd.snd.snd.snd.snd.fst, x.snd.snd.snd.snd.snd.snd.fst, x.snd.snd.snd.snd.snd.snd.snd.fst,
                x.snd.snd.snd.snd.snd.snd.snd.snd.fst, x.snd.snd.snd.snd.snd.snd.snd.snd.snd.fst, y190.snd.fst, y190.snd.snd.fst,
                y190.snd.snd.snd.fst, y190.snd.snd.snd.snd.fst, y190.snd.snd.snd.snd.snd.fst, y190.snd.snd.snd.snd.snd.snd.fst,
                x.snd.snd.snd.snd.snd.snd.snd.snd.snd.snd.snd.snd.snd.snd.snd.snd.fst,
                x.snd.snd.snd.snd.snd.snd.snd.snd.snd.snd.snd.snd.snd.snd.snd.snd.snd.fst, y190.snd.snd.snd.snd.snd.snd.snd.fst,
                y190.snd.snd.snd.snd.snd.snd.snd.snd.fst, ()))
      else none
    else none
else
  some
    (Sum.inr
      (x.snd.snd.fst, x.snd.snd.snd.fst, x.snd.snd.snd.snd.fst, x.snd.snd.snd.snd.snd.fst, x.snd.snd.snd.snd.snd.snd.fst,
        x.snd.snd.snd.snd.snd.snd.snd.fst, x.snd.snd.snd.snd.snd.snd.snd.snd.fst, x.snd.snd.snd.snd.snd.snd.snd.snd.snd.fst,
        x.snd.snd.snd.snd.snd.snd.snd.snd.snd.snd.fst, x.snd.snd.snd.snd.snd.snd.snd.snd.snd.snd.snd.fst,
        x.snd.snd.snd.snd.snd.snd.snd.snd.snd.snd.snd.snd.fst, x.snd.snd.snd.snd.snd.snd.snd.snd.snd.snd.snd.snd.snd.fst,
        x.snd.snd.snd.snd.snd.snd.snd.snd.snd.snd.snd.snd.snd.snd.fst, x.snd.snd.snd.snd.snd.snd.snd.snd.snd.snd.snd.snd.snd.snd.snd.fst,
        x.snd.snd.snd.snd.snd.snd.snd.snd.snd.snd.snd.snd.snd.snd.snd.snd.fst,
        x.snd.snd.snd.snd.snd.snd.snd.snd.snd.snd.snd.snd.snd.snd.snd.snd.snd.fst,
        x.snd.snd.snd.snd.snd.snd.snd.snd.snd.snd.snd.snd.snd.snd.snd.snd.snd.snd.fst,
        x.snd.snd.snd.snd.snd.snd.snd.snd.snd.snd.snd.snd.snd.snd.snd.snd.snd.snd.snd.fst, ()))
theorem r8_6_run0 (v0 : List Ac) (v1 : Int) (v2 : Int) (v3 : Int) (v4 : Int) (v5 : Int) (v6 : Nat) (v7 : Int) (v8 : Int) (v9 : Nat) (v10 : Int) (v11 : Int) (v12 : Nat) (v13 : Int) (v14 : Int) (v15 : Nat) (v16 : List Int) (v17 : List Int) (v18 : List Int) (v19 : List Int) : roundK tC G8 (look []) c8_6 p8_6 (v0, v1, v2, v3, v4, v5, v6, v7, v8, v9, v10, v11, v12, v13, v14, v15, v16, v17, v18, v19, ()) = r8_6 (v0, v1, v2, v3, v4, v5, v6, v7, v8, v9, v10, v11, v12, v13, v14, v15, v16, v17, v18, v19, ()) := by kernel_rfl
theorem r8_6_run (x : List Ac ×
  Int × Int × Int × Int × Int × Nat × Int × Int × Nat × Int × Int × Nat × Int × Int × Nat × List Int × List Int × List Int × List Int × Unit) : roundK tC G8 (look []) c8_6 p8_6 x = r8_6 x := r8_6_run0 x.1 x.2.1 x.2.2.1 x.2.2.2.1 x.2.2.2.2.1 x.2.2.2.2.2.1 x.2.2.2.2.2.2.1 x.2.2.2.2.2.2.2.1 x.2.2.2.2.2.2.2.2.1 x.2.2.2.2.2.2.2.2.2.1 x.2.2.2.2.2.2.2.2.2.2.1 x.2.2.2.2.2.2.2.2.2.2.2.1 x.2.2.2.2.2.2.2.2.2.2.2.2.1 x.2.2.2.2.2.2.2.2.2.2.2.2.2.1 x.2.2.2.2.2.2.2.2.2.2.2.2.2.2.1 x.2.2.2.2.2.2.2.2.2.2.2.2.2.2.2.1 x.2.2.2.2.2.2.2.2.2.2.2.2.2.2.2.2.1 x.2.2.2.2.2.2.2.2.2.2.2.2.2.2.2.2.2.1 x.2.2.2.2.2.2.2.2.2.2.2.2.2.2.2.2.2.2.1 x.2.2.2.2.2.2.2.2.2.2.2.2.2.2.2.2.2.2.2.1
noncomputable def l8_6 (x : List Ac ×
  Int × Int × Int × Int × Int × Nat × Int × Int × Nat × Int × Int × Nat × Int × Int × Nat × List Int × List Int × List Int × List Int × Unit) : Option
  (Int × Int × Int × Int × Nat × Int × Int × Nat × Int × Int × Nat × Int × Int × Nat × List Int × List Int × List Int × List Int × Unit) := iterO r8_6 x
noncomputable def W8_6 : LF tC := loopW tC p8_6 2 l8_6
theorem W8_6_ok : keyed 6 (bodyOf Try.f8) = [.block 2 (.loop c8_6)] ∧ ∀ n, n ≤ 0 → Snd tC n (.block 2 (.loop c8_6)) W8_6.k := ⟨by kernel_rfl, fun n hn => loopW_ok (p := p8_6) (id := 2) Y8 (lam_le lam_nil n hn) hn r8_6_run⟩
def S8 : FS := ⟨[[.v, .v, .s 5], [.v, .v], [.s 47]], [⟨[.one (.agg [.int .i64, .int .i64, .imm 5]), .one (.agg [.int .i64, .int .i64]), .one (.one (.imm 47))], []⟩], [⟨[vO], []⟩], [[.v]], []⟩
noncomputable def f8 (x : Int × Int × List Int × Int × Int × List Ac × Unit) : Option (Bool × Unit) :=
  (f9 ()).bind fun y239 =>
  bif !y239.fst then (f9 ()).bind fun y221 => some (y221.fst, ())
  else
    bif !f20 x.fst x.snd.fst x.snd.snd.fst x.snd.snd.snd.snd.snd.fst then (f9 ()).bind fun y222 => some (y222.fst, ())
    else
      bif roomy ((0 : Nat) + x.snd.snd.fst.length) (1 : Nat) then
        bif decide ((0 : Nat) + ((0 : Nat) + x.snd.snd.fst.length) ≤ ([] ++ x.snd.snd.fst).length) then
          (f10
                (x.fst, x.snd.fst, List.take ((0 : Nat) + x.snd.snd.fst.length) (List.drop (0 : Nat) ([] ++ x.snd.snd.fst)),
                  x.snd.snd.snd.fst, x.snd.snd.snd.snd.fst, ())).bind
            fun y238 =>
            Sum.elim
              (fun _x =>
                bif decide ((0 : Nat) + ((0 : Nat) + x.snd.snd.fst.length) ≤ ([] ++ x.snd.snd.fst).length) then
                  some
                    (f18 x.fst x.snd.fst (List.take ((0 : Nat) + x.snd.snd.fst.length) (List.drop (0 : Nat) ([] ++ x.snd.snd.fst))) x.fst
                        x.snd.fst x.snd.snd.fst,
                      ())
                else none)
              (fun y237 =>
                Sum.elim
                  (fun _x =>
                    bif decide ((0 : Nat) + ((0 : Nat) + x.snd.snd.fst.length) ≤ ([] ++ x.snd.snd.fst).length) then
                      some
                        (f18 x.fst x.snd.fst (List.take ((0 : Nat) + x.snd.snd.fst.length) (List.drop (0 : Nat) ([] ++ x.snd.snd.fst)))
                            x.fst x.snd.fst x.snd.snd.fst,
                          ())
                    else none)
                  (fun y236 =>
                    bif decide ((0 : Nat) + y236.snd.snd.fst ≤ y236.snd.snd.snd.snd.snd.snd.fst.length) then
                      bif decide ((0 : Nat) + y236.snd.snd.snd.snd.snd.fst ≤ y236.snd.snd.snd.snd.snd.snd.snd.fst.length) then
                        (f27
                              (y236.fst, y236.snd.fst, List.take y236.snd.snd.fst (List.drop (0 : Nat) y236.snd.snd.snd.snd.snd.snd.fst),
                                y236.snd.snd.snd.fst, y236.snd.snd.snd.snd.fst,
                                List.take y236.snd.snd.snd.snd.snd.fst (List.drop (0 : Nat) y236.snd.snd.snd.snd.snd.snd.snd.fst), ())).bind
                          fun y235 =>
                          bif decide ((0 : Nat) + y235.snd.snd.fst ≤ y235.snd.snd.snd.snd.snd.snd.fst.length) then
                            bif decide ((0 : Nat) + y235.snd.snd.snd.snd.snd.fst ≤ y235.snd.snd.snd.snd.snd.snd.snd.fst.length) then
                              (f15
                                    (y235.fst, y235.snd.fst,
                                      List.take y235.snd.snd.fst (List.drop (0 : Nat) y235.snd.snd.snd.snd.snd.snd.fst),
                                      y235.snd.snd.snd.fst, y235.snd.snd.snd.snd.fst,
                                      List.take y235.snd.snd.snd.snd.snd.fst (List.drop (0 : Nat) y235.snd.snd.snd.snd.snd.snd.snd.fst),
                                      x.snd.snd.snd.fst, x.snd.snd.snd.snd.fst, ())).bind
                                fun y234 =>
                                (l8_0
                                      (x.snd.snd.snd.snd.snd.fst, y234.fst, y234.snd.fst, y234.snd.snd.fst, (0 : Int), x.fst, x.snd.fst,
                                        x.snd.snd.fst, x.snd.snd.snd.fst, x.snd.snd.snd.snd.fst, x.fst, x.snd.fst,
                                        (0 : Nat) + x.snd.snd.fst.length, y236.fst, y236.snd.fst, y236.snd.snd.fst, y236.snd.snd.snd.fst,
                                        y236.snd.snd.snd.snd.fst, y236.snd.snd.snd.snd.snd.fst, y235.fst, y235.snd.fst, y235.snd.snd.fst,
                                        y235.snd.snd.snd.fst, y235.snd.snd.snd.snd.fst, y235.snd.snd.snd.snd.snd.fst, y234.snd.snd.snd.fst,
                                        [] ++ x.snd.snd.fst, y236.snd.snd.snd.snd.snd.snd.fst, y236.snd.snd.snd.snd.snd.snd.snd.fst,
                                        y235.snd.snd.snd.snd.snd.snd.fst, y235.snd.snd.snd.snd.snd.snd.snd.fst, ())).bind
                                  fun y233 =>
                                  bif
                                      decide
                                        ((0 : Nat) +
                                            y233.snd.snd.snd.snd.snd.snd.snd.snd.snd.snd.snd.snd.snd.snd.snd.snd.snd.snd.snd.snd.fst ≤
                                          y233.snd.snd.snd.snd.snd.snd.snd.snd.snd.snd.snd.snd.snd.snd.snd.snd.snd.snd.snd.snd.snd.snd.snd.snd.snd.snd.snd.snd.fst.length) then
                                    bif
                                        decide
                                          ((0 : Nat) +
                                              y233.snd.snd.snd.snd.snd.snd.snd.snd.snd.snd.snd.snd.snd.snd.snd.snd.snd.snd.snd.snd.snd.snd.snd.fst ≤
                                            y233.snd.snd.snd.snd.snd.snd.snd.snd.snd.snd.snd.snd.snd.snd.snd.snd.snd.snd.snd.snd.snd.snd.snd.snd.snd.snd.snd.snd.snd.fst.length) then
                                      (f15
                                            (y233.snd.snd.snd.snd.snd.snd.snd.snd.snd.snd.snd.snd.snd.snd.snd.snd.snd.snd.fst,
                                              y233.snd.snd.snd.snd.snd.snd.snd.snd.snd.snd.snd.snd.snd.snd.snd.snd.snd.snd.snd.fst,
                                              List.take
                                                y233.snd.snd.snd.snd.snd.snd.snd.snd.snd.snd.snd.snd.snd.snd.snd.snd.snd.snd.snd.snd.fst
                                                (List.drop (0 : Nat)
                                                  y233.snd.snd.snd.snd.snd.snd.snd.snd.snd.snd.snd.snd.snd.snd.snd.snd.snd.snd.snd.snd.snd.snd.snd.snd.snd.snd.snd.snd.fst),
                                              y233.snd.snd.snd.snd.snd.snd.snd.snd.snd.snd.snd.snd.snd.snd.snd.snd.snd.snd.snd.snd.snd.fst,
                                              y233.snd.snd.snd.snd.snd.snd.snd.snd.snd.snd.snd.snd.snd.snd.snd.snd.snd.snd.snd.snd.snd.snd.fst,
                                              List.take
                                                y233.snd.snd.snd.snd.snd.snd.snd.snd.snd.snd.snd.snd.snd.snd.snd.snd.snd.snd.snd.snd.snd.snd.snd.fst
                                                (List.drop (0 : Nat)
                                                  y233.snd.snd.snd.snd.snd.snd.snd.snd.snd.snd.snd.snd.snd.snd.snd.snd.snd.snd.snd.snd.snd.snd.snd.snd.snd.snd.snd.snd.snd.fst),
                                              y233.snd.snd.snd.snd.snd.snd.snd.fst, y233.snd.snd.snd.snd.snd.snd.snd.snd.fst, ())).bind
                                        fun y232 =>
                                        bif
                                            decide
                                              ((0 : Nat) + y233.snd.fst ≤
                                                y233.snd.snd.snd.snd.snd.snd.snd.snd.snd.snd.snd.snd.snd.snd.snd.snd.snd.snd.snd.snd.snd.snd.snd.snd.fst.length) then
                                          bif decide ((0 : Nat) + y232.fst ≤ y232.snd.snd.snd.fst.length) then
                                            (f17
                                                  (List.take y233.snd.fst
                                                      (List.drop (0 : Nat)
                                                        y233.snd.snd.snd.snd.snd.snd.snd.snd.snd.snd.snd.snd.snd.snd.snd.snd.snd.snd.snd.snd.snd.snd.snd.snd.fst),
                                                    List.take y232.fst (List.drop (0 : Nat) y232.snd.snd.snd.fst), ())).bind
                                              fun y231 =>
                                              bif !y231.fst then some (false, ())
                                              else
                                                bif y233.snd.snd.fst != y232.snd.fst then some (false, ())
                                                else
                                                  bif y233.snd.snd.snd.fst != y232.snd.snd.fst then some (false, ())
                                                  else
                                                    bif
                                                        decide
                                                          ((0 : Nat) +
                                                              y233.snd.snd.snd.snd.snd.snd.snd.snd.snd.snd.snd.snd.snd.snd.snd.snd.snd.snd.snd.snd.fst ≤
                                                            y233.snd.snd.snd.snd.snd.snd.snd.snd.snd.snd.snd.snd.snd.snd.snd.snd.snd.snd.snd.snd.snd.snd.snd.snd.snd.snd.snd.snd.fst.length) then
                                                      bif
                                                          decide
                                                            ((0 : Nat) +
                                                                y233.snd.snd.snd.snd.snd.snd.snd.snd.snd.snd.snd.snd.snd.snd.snd.snd.snd.snd.snd.snd.snd.snd.snd.fst ≤
                                                              y233.snd.snd.snd.snd.snd.snd.snd.snd.snd.snd.snd.snd.snd.snd.snd.snd.snd.snd.snd.snd.snd.snd.snd.snd.snd.snd.snd.snd.snd.fst.length) then
                                                        bif
                                                            !bif
                                                                  (f23
                                                                        y233.snd.snd.snd.snd.snd.snd.snd.snd.snd.snd.snd.snd.snd.snd.snd.snd.snd.snd.fst
                                                                        y233.snd.snd.snd.snd.snd.snd.snd.snd.snd.snd.snd.snd.snd.snd.snd.snd.snd.snd.snd.fst
                                                                        (List.take
                                                                          y233.snd.snd.snd.snd.snd.snd.snd.snd.snd.snd.snd.snd.snd.snd.snd.snd.snd.snd.snd.snd.fst
                                                                          (List.drop (0 : Nat)
                                                                            y233.snd.snd.snd.snd.snd.snd.snd.snd.snd.snd.snd.snd.snd.snd.snd.snd.snd.snd.snd.snd.snd.snd.snd.snd.snd.snd.snd.snd.fst))
                                                                        y233.snd.snd.snd.snd.snd.snd.snd.snd.snd.snd.snd.snd.snd.snd.snd.snd.snd.snd.snd.snd.snd.fst
                                                                        y233.snd.snd.snd.snd.snd.snd.snd.snd.snd.snd.snd.snd.snd.snd.snd.snd.snd.snd.snd.snd.snd.snd.fst
                                                                        (List.take
                                                                          y233.snd.snd.snd.snd.snd.snd.snd.snd.snd.snd.snd.snd.snd.snd.snd.snd.snd.snd.snd.snd.snd.snd.snd.fst
                                                                          (List.drop (0 : Nat)
                                                                            y233.snd.snd.snd.snd.snd.snd.snd.snd.snd.snd.snd.snd.snd.snd.snd.snd.snd.snd.snd.snd.snd.snd.snd.snd.snd.snd.snd.snd.snd.fst))).fst ==
                                                                    y233.snd.snd.snd.snd.snd.snd.snd.fst then
                                                                bif
                                                                    (f23
                                                                          y233.snd.snd.snd.snd.snd.snd.snd.snd.snd.snd.snd.snd.snd.snd.snd.snd.snd.snd.fst
                                                                          y233.snd.snd.snd.snd.snd.snd.snd.snd.snd.snd.snd.snd.snd.snd.snd.snd.snd.snd.snd.fst
                                                                          (List.take
                                                                            y233.snd.snd.snd.snd.snd.snd.snd.snd.snd.snd.snd.snd.snd.snd.snd.snd.snd.snd.snd.snd.fst
                                                                            (List.drop (0 : Nat)
                                                                              y233.snd.snd.snd.snd.snd.snd.snd.snd.snd.snd.snd.snd.snd.snd.snd.snd.snd.snd.snd.snd.snd.snd.snd.snd.snd.snd.snd.snd.fst))
                                                                          y233.snd.snd.snd.snd.snd.snd.snd.snd.snd.snd.snd.snd.snd.snd.snd.snd.snd.snd.snd.snd.snd.fst
                                                                          y233.snd.snd.snd.snd.snd.snd.snd.snd.snd.snd.snd.snd.snd.snd.snd.snd.snd.snd.snd.snd.snd.snd.fst
                                                                          (List.take
                                                                            y233.snd.snd.snd.snd.snd.snd.snd.snd.snd.snd.snd.snd.snd.snd.snd.snd.snd.snd.snd.snd.snd.snd.snd.fst
                                                                            (List.drop (0 : Nat)
                                                                              y233.snd.snd.snd.snd.snd.snd.snd.snd.snd.snd.snd.snd.snd.snd.snd.snd.snd.snd.snd.snd.snd.snd.snd.snd.snd.snd.snd.snd.snd.fst))).snd ==
                                                                      y233.snd.snd.snd.snd.snd.snd.snd.snd.fst then
                                                                  true
                                                                else false
                                                              else false then
                                                          some (false, ())
                                                        else
                                                          bif
                                                              decide
                                                                ((0 : Nat) + y233.snd.snd.snd.snd.snd.snd.snd.snd.snd.snd.snd.fst ≤
                                                                  y233.snd.snd.snd.snd.snd.snd.snd.snd.snd.snd.snd.snd.snd.snd.snd.snd.snd.snd.snd.snd.snd.snd.snd.snd.snd.fst.length) then
                                                            bif
                                                                !f18 y233.snd.snd.snd.snd.snd.snd.snd.snd.snd.fst
                                                                    y233.snd.snd.snd.snd.snd.snd.snd.snd.snd.snd.fst
                                                                    (List.take y233.snd.snd.snd.snd.snd.snd.snd.snd.snd.snd.snd.fst
                                                                      (List.drop (0 : Nat)
                                                                        y233.snd.snd.snd.snd.snd.snd.snd.snd.snd.snd.snd.snd.snd.snd.snd.snd.snd.snd.snd.snd.snd.snd.snd.snd.snd.fst))
                                                                    y233.snd.snd.snd.snd.fst y233.snd.snd.snd.snd.snd.fst
                                                                    y233.snd.snd.snd.snd.snd.snd.fst then
                                                              some (false, ())
                                                            else
                                                              bif
                                                                  decide
                                                                    ((0 : Nat) +
                                                                        y233.snd.snd.snd.snd.snd.snd.snd.snd.snd.snd.snd.snd.snd.snd.snd.snd.snd.snd.snd.snd.fst ≤
                                                                      y233.snd.snd.snd.snd.snd.snd.snd.snd.snd.snd.snd.snd.snd.snd.snd.snd.snd.snd.snd.snd.snd.snd.snd.snd.snd.snd.snd.snd.fst.length) then
                                                                bif
                                                                    decide
                                                                      ((0 : Nat) +
                                                                          y233.snd.snd.snd.snd.snd.snd.snd.snd.snd.snd.snd.snd.snd.snd.snd.snd.snd.snd.snd.snd.snd.snd.snd.fst ≤
                                                                        y233.snd.snd.snd.snd.snd.snd.snd.snd.snd.snd.snd.snd.snd.snd.snd.snd.snd.snd.snd.snd.snd.snd.snd.snd.snd.snd.snd.snd.snd.fst.length) then
                                                                  (f19
                                                                        (y233.snd.snd.snd.snd.snd.snd.snd.snd.snd.snd.snd.snd.snd.snd.snd.snd.snd.snd.fst,
                                                                          y233.snd.snd.snd.snd.snd.snd.snd.snd.snd.snd.snd.snd.snd.snd.snd.snd.snd.snd.snd.fst,
                                                                          List.take
                                                                            y233.snd.snd.snd.snd.snd.snd.snd.snd.snd.snd.snd.snd.snd.snd.snd.snd.snd.snd.snd.snd.fst
                                                                            (List.drop (0 : Nat)
                                                                              y233.snd.snd.snd.snd.snd.snd.snd.snd.snd.snd.snd.snd.snd.snd.snd.snd.snd.snd.snd.snd.snd.snd.snd.snd.snd.snd.snd.snd.fst),
                                                                          y233.snd.snd.snd.snd.snd.snd.snd.snd.snd.snd.snd.snd.snd.snd.snd.snd.snd.snd.snd.snd.snd.fst,
                                                                          y233.snd.snd.snd.snd.snd.snd.snd.snd.snd.snd.snd.snd.snd.snd.snd.snd.snd.snd.snd.snd.snd.snd.fst,
                                                                          List.take
                                                                            y233.snd.snd.snd.snd.snd.snd.snd.snd.snd.snd.snd.snd.snd.snd.snd.snd.snd.snd.snd.snd.snd.snd.snd.fst
                                                                            (List.drop (0 : Nat)
                                                                              y233.snd.snd.snd.snd.snd.snd.snd.snd.snd.snd.snd.snd.snd.snd.snd.snd.snd.snd.snd.snd.snd.snd.snd.snd.snd.snd.snd.snd.snd.fst),
                                                                          ())).bind
                                                                    fun y230 =>
                                                                    bif
                                                                        decide
                                                                          ((0 : Nat) + y230.snd.snd.fst ≤ y230.snd.snd.snd.fst.length) then
                                                                      bif
                                                                          !f18 y230.fst y230.snd.fst
                                                                              (List.take y230.snd.snd.fst
                                                                                (List.drop (0 : Nat) y230.snd.snd.snd.fst))
                                                                              y233.snd.snd.snd.snd.fst y233.snd.snd.snd.snd.snd.fst
                                                                              y233.snd.snd.snd.snd.snd.snd.fst then
                                                                        some (false, ())
                                                                      else
                                                                        (l8_6
                                                                              (y233.fst, (0 : Int), y233.snd.snd.snd.snd.snd.snd.snd.fst,
                                                                                y233.snd.snd.snd.snd.snd.snd.snd.snd.fst,
                                                                                y233.snd.snd.snd.snd.snd.snd.snd.snd.snd.snd.snd.snd.fst,
                                                                                y233.snd.snd.snd.snd.snd.snd.snd.snd.snd.snd.snd.snd.snd.fst,
                                                                                y233.snd.snd.snd.snd.snd.snd.snd.snd.snd.snd.snd.snd.snd.snd.fst,
                                                                                y233.snd.snd.snd.snd.snd.snd.snd.snd.snd.snd.snd.snd.snd.snd.snd.fst,
                                                                                y233.snd.snd.snd.snd.snd.snd.snd.snd.snd.snd.snd.snd.snd.snd.snd.snd.fst,
                                                                                y233.snd.snd.snd.snd.snd.snd.snd.snd.snd.snd.snd.snd.snd.snd.snd.snd.snd.fst,
                                                                                y233.snd.snd.snd.snd.snd.snd.snd.snd.snd.snd.snd.snd.snd.snd.snd.snd.snd.snd.fst,
                                                                                y233.snd.snd.snd.snd.snd.snd.snd.snd.snd.snd.snd.snd.snd.snd.snd.snd.snd.snd.snd.fst,
                                                                                y233.snd.snd.snd.snd.snd.snd.snd.snd.snd.snd.snd.snd.snd.snd.snd.snd.snd.snd.snd.snd.fst,
                                                                                y233.snd.snd.snd.snd.snd.snd.snd.snd.snd.snd.snd.snd.snd.snd.snd.snd.snd.snd.snd.snd.snd.fst,
                                                                                y233.snd.snd.snd.snd.snd.snd.snd.snd.snd.snd.snd.snd.snd.snd.snd.snd.snd.snd.snd.snd.snd.snd.fst,
                                                                                y233.snd.snd.snd.snd.snd.snd.snd.snd.snd.snd.snd.snd.snd.snd.snd.snd.snd.snd.snd.snd.snd.snd.snd.fst,
                                                                                y233.snd.snd.snd.snd.snd.snd.snd.snd.snd.snd.snd.snd.snd.snd.snd.snd.snd.snd.snd.snd.snd.snd.snd.snd.snd.snd.fst,
                                                                                y233.snd.snd.snd.snd.snd.snd.snd.snd.snd.snd.snd.snd.snd.snd.snd.snd.snd.snd.snd.snd.snd.snd.snd.snd.snd.snd.snd.fst,
                                                                                y233.snd.snd.snd.snd.snd.snd.snd.snd.snd.snd.snd.snd.snd.snd.snd.snd.snd.snd.snd.snd.snd.snd.snd.snd.snd.snd.snd.snd.fst,
                                                                                y233.snd.snd.snd.snd.snd.snd.snd.snd.snd.snd.snd.snd.snd.snd.snd.snd.snd.snd.snd.snd.snd.snd.snd.snd.snd.snd.snd.snd.snd.fst,
                                                                                ())).bind
                                                                          fun y229 =>
                                                                          bif
                                                                              decide
                                                                                ((0 : Nat) +
                                                                                    y229.snd.snd.snd.snd.snd.snd.snd.snd.snd.snd.fst ≤
                                                                                  y229.snd.snd.snd.snd.snd.snd.snd.snd.snd.snd.snd.snd.snd.snd.snd.snd.fst.length) then
                                                                            bif
                                                                                decide
                                                                                  ((0 : Nat) +
                                                                                      y229.snd.snd.snd.snd.snd.snd.snd.snd.snd.snd.snd.snd.snd.fst ≤
                                                                                    y229.snd.snd.snd.snd.snd.snd.snd.snd.snd.snd.snd.snd.snd.snd.snd.snd.snd.fst.length) then
                                                                              (f19
                                                                                    (y229.snd.snd.snd.snd.snd.snd.snd.snd.fst,
                                                                                      y229.snd.snd.snd.snd.snd.snd.snd.snd.snd.fst,
                                                                                      List.take
                                                                                        y229.snd.snd.snd.snd.snd.snd.snd.snd.snd.snd.fst
                                                                                        (List.drop (0 : Nat)
                                                                                          y229.snd.snd.snd.snd.snd.snd.snd.snd.snd.snd.snd.snd.snd.snd.snd.snd.fst),
                                                                                      y229.snd.snd.snd.snd.snd.snd.snd.snd.snd.snd.snd.fst,
                                                                                      y229.snd.snd.snd.snd.snd.snd.snd.snd.snd.snd.snd.snd.fst,
                                                                                      List.take
                                                                                        y229.snd.snd.snd.snd.snd.snd.snd.snd.snd.snd.snd.snd.snd.fst
                                                                                        (List.drop (0 : Nat)
                                                                                          y229.snd.snd.snd.snd.snd.snd.snd.snd.snd.snd.snd.snd.snd.snd.snd.snd.snd.fst),
                                                                                      ())).bind
                                                                                fun y228 =>
                                                                                bif
                                                                                    decide
                                                                                      ((0 : Nat) + y229.snd.snd.snd.snd.fst ≤
                                                                                        y229.snd.snd.snd.snd.snd.snd.snd.snd.snd.snd.snd.snd.snd.snd.fst.length) then
                                                                                  bif
                                                                                      decide
                                                                                        ((0 : Nat) + y229.snd.snd.snd.snd.snd.snd.snd.fst ≤
                                                                                          y229.snd.snd.snd.snd.snd.snd.snd.snd.snd.snd.snd.snd.snd.snd.snd.fst.length) then
                                                                                    (f19
                                                                                          (y229.snd.snd.fst, y229.snd.snd.snd.fst,
                                                                                            List.take y229.snd.snd.snd.snd.fst
                                                                                              (List.drop (0 : Nat)
                                                                                                y229.snd.snd.snd.snd.snd.snd.snd.snd.snd.snd.snd.snd.snd.snd.fst),
                                                                                            y229.snd.snd.snd.snd.snd.fst,
                                                                                            y229.snd.snd.snd.snd.snd.snd.fst,
                                                                                            List.take y229.snd.snd.snd.snd.snd.snd.snd.fst
                                                                                              (List.drop (0 : Nat)
                                                                                                y229.snd.snd.snd.snd.snd.snd.snd.snd.snd.snd.snd.snd.snd.snd.snd.fst),
                                                                                            ())).bind
                                                                                      fun y227 =>
                                                                                      bif
                                                                                          decide
                                                                                            ((0 : Nat) + y228.snd.snd.fst ≤
                                                                                              y228.snd.snd.snd.fst.length) then
                                                                                        bif
                                                                                            decide
                                                                                              ((0 : Nat) + y227.snd.snd.fst ≤
                                                                                                y227.snd.snd.snd.fst.length) then
                                                                                          bif
                                                                                              f18 y228.fst y228.snd.fst
                                                                                                (List.take y228.snd.snd.fst
                                                                                                  (List.drop (0 : Nat)
                                                                                                    y228.snd.snd.snd.fst))
                                                                                                y227.fst y227.snd.fst
                                                                                                (List.take y227.snd.snd.fst
                                                                                                  (List.drop (0 : Nat)
                                                                                                    y227.snd.snd.snd.fst)) then
                                                                                            bif
                                                                                                decide
                                                                                                  ((0 : Nat) +
                                                                                                      y229.snd.snd.snd.snd.snd.snd.snd.snd.snd.snd.fst ≤
                                                                                                    y229.snd.snd.snd.snd.snd.snd.snd.snd.snd.snd.snd.snd.snd.snd.snd.snd.fst.length) then
                                                                                              bif
                                                                                                  decide
                                                                                                    ((0 : Nat) +
                                                                                                        y229.snd.snd.snd.snd.snd.snd.snd.snd.snd.snd.snd.snd.snd.fst ≤
                                                                                                      y229.snd.snd.snd.snd.snd.snd.snd.snd.snd.snd.snd.snd.snd.snd.snd.snd.snd.fst.length) then
                                                                                                bif
                                                                                                    decide
                                                                                                      ((0 : Nat) +
                                                                                                          y229.snd.snd.snd.snd.fst ≤
                                                                                                        y229.snd.snd.snd.snd.snd.snd.snd.snd.snd.snd.snd.snd.snd.snd.fst.length) then
                                                                                                  bif
                                                                                                      decide
                                                                                                        ((0 : Nat) +
                                                                                                            y229.snd.snd.snd.snd.snd.snd.snd.fst ≤
                                                                                                          y229.snd.snd.snd.snd.snd.snd.snd.snd.snd.snd.snd.snd.snd.snd.snd.fst.length) then
                                                                                                    bif
                                                                                                        bif
                                                                                                            (f23
                                                                                                                  y229.snd.snd.snd.snd.snd.snd.snd.snd.fst
                                                                                                                  y229.snd.snd.snd.snd.snd.snd.snd.snd.snd.fst
                                                                                                                  (List.take
                                                                                                                    y229.snd.snd.snd.snd.snd.snd.snd.snd.snd.snd.fst
                                                                                                                    (List.drop (0 : Nat)
                                                                                                                      y229.snd.snd.snd.snd.snd.snd.snd.snd.snd.snd.snd.snd.snd.snd.snd.snd.fst))
                                                                                                                  y229.snd.snd.snd.snd.snd.snd.snd.snd.snd.snd.snd.fst
                                                                                                                  y229.snd.snd.snd.snd.snd.snd.snd.snd.snd.snd.snd.snd.fst
                                                                                                                  (List.take
                                                                                                                    y229.snd.snd.snd.snd.snd.snd.snd.snd.snd.snd.snd.snd.snd.fst
                                                                                                                    (List.drop (0 : Nat)
                                                                                                                      y229.snd.snd.snd.snd.snd.snd.snd.snd.snd.snd.snd.snd.snd.snd.snd.snd.snd.fst))).fst ==
                                                                                                              (f23 y229.snd.snd.fst
                                                                                                                  y229.snd.snd.snd.fst
                                                                                                                  (List.take
                                                                                                                    y229.snd.snd.snd.snd.fst
                                                                                                                    (List.drop (0 : Nat)
                                                                                                                      y229.snd.snd.snd.snd.snd.snd.snd.snd.snd.snd.snd.snd.snd.snd.fst))
                                                                                                                  y229.snd.snd.snd.snd.snd.fst
                                                                                                                  y229.snd.snd.snd.snd.snd.snd.fst
                                                                                                                  (List.take
                                                                                                                    y229.snd.snd.snd.snd.snd.snd.snd.fst
                                                                                                                    (List.drop (0 : Nat)
                                                                                                                      y229.snd.snd.snd.snd.snd.snd.snd.snd.snd.snd.snd.snd.snd.snd.snd.fst))).fst then
                                                                                                          bif
                                                                                                              (f23
                                                                                                                    y229.snd.snd.snd.snd.snd.snd.snd.snd.fst
                                                                                                                    y229.snd.snd.snd.snd.snd.snd.snd.snd.snd.fst
                                                                                                                    (List.take
                                                                                                                      y229.snd.snd.snd.snd.snd.snd.snd.snd.snd.snd.fst
                                                                                                                      (List.drop (0 : Nat)
                                                                                                                        y229.snd.snd.snd.snd.snd.snd.snd.snd.snd.snd.snd.snd.snd.snd.snd.snd.fst))
                                                                                                                    y229.snd.snd.snd.snd.snd.snd.snd.snd.snd.snd.snd.fst
                                                                                                                    y229.snd.snd.snd.snd.snd.snd.snd.snd.snd.snd.snd.snd.fst
                                                                                                                    (List.take
                                                                                                                      y229.snd.snd.snd.snd.snd.snd.snd.snd.snd.snd.snd.snd.snd.fst
                                                                                                                      (List.drop (0 : Nat)
                                                                                                                        y229.snd.snd.snd.snd.snd.snd.snd.snd.snd.snd.snd.snd.snd.snd.snd.snd.snd.fst))).snd ==
                                                                                                                (f23 y229.snd.snd.fst
                                                                                                                    y229.snd.snd.snd.fst
                                                                                                                    (List.take
                                                                                                                      y229.snd.snd.snd.snd.fst
                                                                                                                      (List.drop (0 : Nat)
                                                                                                                        y229.snd.snd.snd.snd.snd.snd.snd.snd.snd.snd.snd.snd.snd.snd.fst))
                                                                                                                    y229.snd.snd.snd.snd.snd.fst
                                                                                                                    y229.snd.snd.snd.snd.snd.snd.fst
                                                                                                                    (List.take
                                                                                                                      y229.snd.snd.snd.snd.snd.snd.snd.fst
                                                                                                                      (List.drop (0 : Nat)
                                                                                                                        y229.snd.snd.snd.snd.snd.snd.snd.snd.snd.snd.snd.snd.snd.snd.snd.fst))).snd then
                                                                                                            true
                                                                                                          else false
                                                                                                        else false then
                                                                                                      bif
                                                                                                          decide
                                                                                                            ((0 : Nat) +
                                                                                                                y229.snd.snd.snd.snd.snd.snd.snd.snd.snd.snd.fst ≤
                                                                                                              y229.snd.snd.snd.snd.snd.snd.snd.snd.snd.snd.snd.snd.snd.snd.snd.snd.fst.length) then
                                                                                                        bif
                                                                                                            decide
                                                                                                              ((0 : Nat) +
                                                                                                                  y229.snd.snd.snd.snd.snd.snd.snd.snd.snd.snd.snd.snd.snd.fst ≤
                                                                                                                y229.snd.snd.snd.snd.snd.snd.snd.snd.snd.snd.snd.snd.snd.snd.snd.snd.snd.fst.length) then
                                                                                                          (f14
                                                                                                                (y229.snd.snd.snd.snd.snd.snd.snd.snd.fst,
                                                                                                                  y229.snd.snd.snd.snd.snd.snd.snd.snd.snd.fst,
                                                                                                                  List.take
                                                                                                                    y229.snd.snd.snd.snd.snd.snd.snd.snd.snd.snd.fst
                                                                                                                    (List.drop (0 : Nat)
                                                                                                                      y229.snd.snd.snd.snd.snd.snd.snd.snd.snd.snd.snd.snd.snd.snd.snd.snd.fst),
                                                                                                                  y229.snd.snd.snd.snd.snd.snd.snd.snd.snd.snd.snd.fst,
                                                                                                                  y229.snd.snd.snd.snd.snd.snd.snd.snd.snd.snd.snd.snd.fst,
                                                                                                                  List.take
                                                                                                                    y229.snd.snd.snd.snd.snd.snd.snd.snd.snd.snd.snd.snd.snd.fst
                                                                                                                    (List.drop (0 : Nat)
                                                                                                                      y229.snd.snd.snd.snd.snd.snd.snd.snd.snd.snd.snd.snd.snd.snd.snd.snd.snd.fst),
                                                                                                                  y229.fst, y229.snd.fst,
                                                                                                                  ())).bind
                                                                                                            fun y226 =>
                                                                                                            bif
                                                                                                                decide
                                                                                                                  ((0 : Nat) +
                                                                                                                      y229.snd.snd.snd.snd.fst ≤
                                                                                                                    y229.snd.snd.snd.snd.snd.snd.snd.snd.snd.snd.snd.snd.snd.snd.fst.length) then
                                                                                                              bif
                                                                                                                  decide
                                                                                                                    ((0 : Nat) +
                                                                                                                        y229.snd.snd.snd.snd.snd.snd.snd.fst ≤
                                                                                                                      y229.snd.snd.snd.snd.snd.snd.snd.snd.snd.snd.snd.snd.snd.snd.snd.fst.length) then
                                                                                                                (f14
                                                                                                                      (y229.snd.snd.fst,
                                                                                                                        y229.snd.snd.snd.fst,
                                                                                                                        List.take
                                                                                                                          y229.snd.snd.snd.snd.fst
                                                                                                                          (List.drop
                                                                                                                            (0 : Nat)
                                                                                                                            y229.snd.snd.snd.snd.snd.snd.snd.snd.snd.snd.snd.snd.snd.snd.fst),
                                                                                                                        y229.snd.snd.snd.snd.snd.fst,
                                                                                                                        y229.snd.snd.snd.snd.snd.snd.fst,
                                                                                                                        List.take
                                                                                                                          y229.snd.snd.snd.snd.snd.snd.snd.fst
                                                                                                                          (List.drop
                                                                                                                            (0 : Nat)
                                                                                                                            y229.snd.snd.snd.snd.snd.snd.snd.snd.snd.snd.snd.snd.snd.snd.snd.fst),
                                                                                                                        y229.fst,
                                                                                                                        y229.snd.fst,
                                                                                                                        ())).bind
                                                                                                                  fun y225 =>
                                                                                                                  some
                                                                                                                    (y226.fst == y225.fst,
                                                                                                                      ())
                                                                                                              else none
                                                                                                            else none
                                                                                                        else none
                                                                                                      else none
                                                                                                    else some (false, ())
                                                                                                  else none
                                                                                                else none
                                                                                              else none
                                                                                            else none
                                                                                          else some (false, ())
                                                                                        else none
                                                                                      else none
                                                                                  else none
                                                                                else none
                                                                            else none
                                                                          else none
                                                                    else none
                                                                else none
                                                              else none
                                                          else none
                                                      else none
                                                    else none
                                          else none
                                        else none
                                    else none
                                  else none
                            else none
                          else none
                      else none
                    else none)
                  y237)
              y238
        else none
      else none
noncomputable def F8 : CF tC := mkF tC S8 f8
theorem f8_run : ∀ a, fnS tC G8 (look [(0, W8_0), (6, W8_6)]) Try.f8 S8 a = f8 a := fun a => by kernel_rfl
theorem F8_ok : CFOK tC 8 F8 := mkF_ok Y8 (fn := Try.f8) (body := bodyOf Try.f8) (by kernel_rfl) (by kernel_rfl) (by kernel_rfl) (m := 0) rfl (lam_le (lam_cons W8_0_ok (lam_cons W8_6_ok lam_nil))) f8_run
end Go.AE
