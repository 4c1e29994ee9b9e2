/-
  The plain functions that the seat's Go functions compute, each with the proof that the function keeps it. Printed by the generator (Gen2) and checked by the kernel.
-/
import Derived.Test.YtilmnpkjlaamlaaFb
namespace Go.AE
open Go.Proofs Go.RowKit
set_option maxRecDepth 100000

/-! RepairOrder -/
noncomputable def G5 : FuncId → Option (CF tC) := look [(9, F9), (20, F20), (10, F10), (22, F22), (14, F14), (15, F15), (17, F17), (18, F18), (19, F19)]
theorem Y5 : SysN tC G5 := (sys_cons F9_ok (mkF_nat _ _) (sys_cons F20_ok (mkF_nat _ _) (sys_cons F10_ok (mkF_nat _ _) (sys_cons F22_ok (mkF_nat _ _) (sys_cons F14_ok (mkF_nat _ _) (sys_cons F15_ok (mkF_nat _ _) (sys_cons F17_ok (mkF_nat _ _) (sys_cons F18_ok (mkF_nat _ _) (sys_cons F19_ok (mkF_nat _ _) (sys_nil tC_ok tC_eq))))))))))
noncomputable def c5_49 : Code := subCode (loopOf (loopOf (bodyOf Try.f5) 0) 2) 49
def p5_49 : PS := ⟨0, [2, 4, 7, 9, 11, 12, 13, 14], ⟨[vB, vB, .one (.one (.imm 47)), vB, .one (.one (.ptr 0 0 0)), vB, vB, .one (.one (.ptr 1 0 0)), vB, .one (.one (.ptr 2 0 0)), vB, .one (.one (.sl 3)), vI, vO, vI] ++ vBs 177, [.box [.int .i64, .int .i64], .box [.int .i64, .int .i64, .sl 4, .int .i64, .int .i64, .sl 5], .box [.int .i64, .int .i64, .sl 6, .int .i64, .int .i64, .sl 7], .arr 47, .arr 5, .arr 3, .arr 5, .arr 3]⟩, [⟨.normal, [2, 4, 7, 9, 11, 12, 13, 14], ⟨[vB, vB, .one (.one (.imm 47)), vB, .one (.one (.ptr 0 0 0)), vB, vB, .one (.one (.ptr 1 0 0)), vB, .one (.one (.ptr 2 0 0)), vB, .one (.one (.sl 3)), vI, vO, vI] ++ vBs 177, [.box [.int .i64, .int .i64], .box [.int .i64, .int .i64, .sl 4, .int .i64, .int .i64, .sl 5], .box [.int .i64, .int .i64, .sl 6, .int .i64, .int .i64, .sl 7], .arr 47, .arr 5, .arr 3, .arr 5, .arr 3]⟩, []⟩], []⟩
noncomputable def j5_49 (x : List Ac ×
  Nat ×
    Int ×
      Bool ×
        Int ×
          Int ×
            Int ×
              Int ×
                Int × Nat × Int × Int × Nat × Int × Int × Nat × Int × Int × Nat × List Ac × List Int × List Int × List Int × List Int × Unit) : Option
  (List Ac ×
    Nat ×
      Int ×
        Bool ×
          Int ×
            Int ×
              Int ×
                Int ×
                  Int ×
                    Nat × Int × Int × Nat × Int × Int × Nat × Int × Int × Nat × List Ac × List Int × List Int × List Int × List Int × Unit) :=
  some
  (x.fst, x.snd.fst, x.snd.snd.fst, x.snd.snd.snd.fst, IntKind.i64.wrap (x.snd.snd.snd.snd.fst + (1 : Int)), x.snd.snd.snd.snd.snd.fst,
    x.snd.snd.snd.snd.snd.snd.fst, x.snd.snd.snd.snd.snd.snd.snd.fst, x.snd.snd.snd.snd.snd.snd.snd.snd.fst,
    x.snd.snd.snd.snd.snd.snd.snd.snd.snd.fst, x.snd.snd.snd.snd.snd.snd.snd.snd.snd.snd.fst,
    x.snd.snd.snd.snd.snd.snd.snd.snd.snd.snd.snd.fst, x.snd.snd.snd.snd.snd.snd.snd.snd.snd.snd.snd.snd.fst,
    x.snd.snd.snd.snd.snd.snd.snd.snd.snd.snd.snd.snd.snd.fst, x.snd.snd.snd.snd.snd.snd.snd.snd.snd.snd.snd.snd.snd.snd.fst,
    x.snd.snd.snd.snd.snd.snd.snd.snd.snd.snd.snd.snd.snd.snd.snd.fst,
    x.snd.snd.snd.snd.snd.snd.snd.snd.snd.snd.snd.snd.snd.snd.snd.snd.fst,
    x.snd.snd.snd.snd.snd.snd.snd.snd.snd.snd.snd.snd.snd.snd.snd.snd.snd.fst,
    x.snd.snd.snd.snd.snd.snd.snd.snd.snd.snd.snd.snd.snd.snd.snd.snd.snd.snd.fst,
    x.snd.snd.snd.snd.snd.snd.snd.snd.snd.snd.snd.snd.snd.snd.snd.snd.snd.snd.snd.fst,
    x.snd.snd.snd.snd.snd.snd.snd.snd.snd.snd.snd.snd.snd.snd.snd.snd.snd.snd.snd.snd.fst,
    x.snd.snd.snd.snd.snd.snd.snd.snd.snd.snd.snd.snd.snd.snd.snd.snd.snd.snd.snd.snd.snd.fst,
    x.snd.snd.snd.snd.snd.snd.snd.snd.snd.snd.snd.snd.snd.snd.snd.snd.snd.snd.snd.snd.snd.snd.fst,
    x.snd.snd.snd.snd.snd.snd.snd.snd.snd.snd.snd.snd.snd.snd.snd.snd.snd.snd.snd.snd.snd.snd.snd.fst, ())
theorem j5_49_run0 (v0 : List Ac) (v1 : Nat) (v2 : Int) (v3 : Bool) (v4 : Int) (v5 : Int) (v6 : Int) (v7 : Int) (v8 : Int) (v9 : Nat) (v10 : Int) (v11 : Int) (v12 : Nat) (v13 : Int) (v14 : Int) (v15 : Nat) (v16 : Int) (v17 : Int) (v18 : Nat) (v19 : List Ac) (v20 : List Int) (v21 : List Int) (v22 : List Int) (v23 : List Int) : pieceK tC G5 (look []) c5_49 p5_49 (v0, v1, v2, v3, v4, v5, v6, v7, v8, v9, v10, v11, v12, v13, v14, v15, v16, v17, v18, v19, v20, v21, v22, v23, ()) = j5_49 (v0, v1, v2, v3, v4, v5, v6, v7, v8, v9, v10, v11, v12, v13, v14, v15, v16, v17, v18, v19, v20, v21, v22, v23, ()) := by kernel_rfl
theorem j5_49_run (x : List Ac ×
  Nat ×
    Int ×
      Bool ×
        Int ×
          Int ×
            Int ×
              Int ×
                Int × Nat × Int × Int × Nat × Int × Int × Nat × Int × Int × Nat × List Ac × List Int × List Int × List Int × List Int × Unit) : pieceK tC G5 (look []) c5_49 p5_49 x = j5_49 x := j5_49_run0 x.1 x.2.1 x.2.2.1 x.2.2.2.1 x.2.2.2.2.1 x.2.2.2.2.2.1 x.2.2.2.2.2.2.1 x.2.2.2.2.2.2.2.1 x.2.2.2.2.2.2.2.2.1 x.2.2.2.2.2.2.2.2.2.1 x.2.2.2.2.2.2.2.2.2.2.1 x.2.2.2.2.2.2.2.2.2.2.2.1 x.2.2.2.2.2.2.2.2.2.2.2.2.1 x.2.2.2.2.2.2.2.2.2.2.2.2.2.1 x.2.2.2.2.2.2.2.2.2.2.2.2.2.2.1 x.2.2.2.2.2.2.2.2.2.2.2.2.2.2.2.1 x.2.2.2.2.2.2.2.2.2.2.2.2.2.2.2.2.1 x.2.2.2.2.2.2.2.2.2.2.2.2.2.2.2.2.2.1 x.2.2.2.2.2.2.2.2.2.2.2.2.2.2.2.2.2.2.1 x.2.2.2.2.2.2.2.2.2.2.2.2.2.2.2.2.2.2.2.1 x.2.2.2.2.2.2.2.2.2.2.2.2.2.2.2.2.2.2.2.2.1 x.2.2.2.2.2.2.2.2.2.2.2.2.2.2.2.2.2.2.2.2.2.1 x.2.2.2.2.2.2.2.2.2.2.2.2.2.2.2.2.2.2.2.2.2.2.1 x.2.2.2.2.2.2.2.2.2.2.2.2.2.2.2.2.2.2.2.2.2.2.2.1
noncomputable def W5_49 : LF tC := cutLF tC p5_49 j5_49
theorem W5_49_ok : keyed 49 (loopOf (loopOf (bodyOf Try.f5) 0) 2) = [c5_49] ∧ ∀ n, n ≤ 0 → Snd tC n c5_49 W5_49.k := ⟨by kernel_rfl, fun n hn => cut_ok (p := p5_49) Y5 (lam_le lam_nil n hn) hn j5_49_run⟩
noncomputable def c5_6 : Code := loopOf (loopOf (bodyOf Try.f5) 0) 2
def p5_6 : LS := ⟨0, [2, 4, 7, 9, 11, 12, 13, 14], ⟨[vB, vB, .one (.one (.imm 47)), vB, .one (.one (.ptr 0 0 0)), vB, vB, .one (.one (.ptr 1 0 0)), vB, .one (.one (.ptr 2 0 0)), vB, .one (.one (.sl 3)), vI, vO, vI] ++ vBs 177, [.box [.int .i64, .int .i64], .box [.int .i64, .int .i64, .sl 4, .int .i64, .int .i64, .sl 5], .box [.int .i64, .int .i64, .sl 6, .int .i64, .int .i64, .sl 7], .arr 47, .arr 5, .arr 3, .arr 5, .arr 3]⟩, [⟨.exit 2, [2, 4, 7, 9, 11, 12, 13], ⟨[vB, vB, .one (.one (.imm 47)), vB, .one (.one (.ptr 0 0 0)), vB, vB, .one (.one (.ptr 1 0 0)), vB, .one (.one (.ptr 2 0 0)), vB, .one (.one (.sl 3)), vI, vO] ++ vBs 178, [.box [.int .i64, .int .i64], .box [.int .i64, .int .i64, .sl 4, .int .i64, .int .i64, .sl 5], .box [.int .i64, .int .i64, .sl 6, .int .i64, .int .i64, .sl 7], .arr 47, .arr 5, .arr 3, .arr 5, .arr 3]⟩, []⟩], []⟩
noncomputable def r5_6 (x : List Ac ×
  Nat ×
    Int ×
      Bool ×
        Int ×
          Int ×
            Int ×
              Int ×
                Int × Nat × Int × Int × Nat × Int × Int × Nat × Int × Int × Nat × List Ac × List Int × List Int × List Int × List Int × Unit) : Option
  (List Ac ×
      Nat ×
        Int ×
          Bool ×
            Int ×
              Int ×
                Int ×
                  Int ×
                    Int ×
                      Nat ×
                        Int × Int × Nat × Int × Int × Nat × Int × Int × Nat × List Ac × List Int × List Int × List Int × List Int × Unit ⊕
    List Ac ×
      Nat ×
        Int ×
          Bool ×
            Int ×
              Int ×
                Int ×
                  Int ×
                    Nat × Int × Int × Nat × Int × Int × Nat × Int × Int × Nat × List Ac × List Int × List Int × List Int × List Int × Unit) :=
  bif decide (x.snd.snd.snd.snd.fst < (↑x.snd.fst : Int)) then
  bif x.snd.snd.snd.fst then
    (j5_49
          (x.fst, x.snd.fst, x.snd.snd.fst, true, x.snd.snd.snd.snd.fst, x.snd.snd.snd.snd.snd.fst, x.snd.snd.snd.snd.snd.snd.fst,
            x.snd.snd.snd.snd.snd.snd.snd.fst, x.snd.snd.snd.snd.snd.snd.snd.snd.fst, x.snd.snd.snd.snd.snd.snd.snd.snd.snd.fst,
            x.snd.snd.snd.snd.snd.snd.snd.snd.snd.snd.fst, x.snd.snd.snd.snd.snd.snd.snd.snd.snd.snd.snd.fst,
            x.snd.snd.snd.snd.snd.snd.snd.snd.snd.snd.snd.snd.fst, x.snd.snd.snd.snd.snd.snd.snd.snd.snd.snd.snd.snd.snd.fst,
            x.snd.snd.snd.snd.snd.snd.snd.snd.snd.snd.snd.snd.snd.snd.fst,
            x.snd.snd.snd.snd.snd.snd.snd.snd.snd.snd.snd.snd.snd.snd.snd.fst,
            x.snd.snd.snd.snd.snd.snd.snd.snd.snd.snd.snd.snd.snd.snd.snd.snd.fst,
            x.snd.snd.snd.snd.snd.snd.snd.snd.snd.snd.snd.snd.snd.snd.snd.snd.snd.fst,
            x.snd.snd.snd.snd.snd.snd.snd.snd.snd.snd.snd.snd.snd.snd.snd.snd.snd.snd.fst,
            x.snd.snd.snd.snd.snd.snd.snd.snd.snd.snd.snd.snd.snd.snd.snd.snd.snd.snd.snd.fst,
            x.snd.snd.snd.snd.snd.snd.snd.snd.snd.snd.snd.snd.snd.snd.snd.snd.snd.snd.snd.snd.fst,
            x.snd.snd.snd.snd.snd.snd.snd.snd.snd.snd.snd.snd.snd.snd.snd.snd.snd.snd.snd.snd.snd.fst,
            x.snd.snd.snd.snd.snd.snd.snd.snd.snd.snd.snd.snd.snd.snd.snd.snd.snd.snd.snd.snd.snd.snd.fst,
            x.snd.snd.snd.snd.snd.snd.snd.snd.snd.snd.snd.snd.snd.snd.snd.snd.snd.snd.snd.snd.snd.snd.snd.fst, ())).bind
      fun y384 =>
      some
        (Sum.inl
          (y384.fst, y384.snd.fst, y384.snd.snd.fst, y384.snd.snd.snd.fst, y384.snd.snd.snd.snd.fst, y384.snd.snd.snd.snd.snd.fst,
            y384.snd.snd.snd.snd.snd.snd.fst, y384.snd.snd.snd.snd.snd.snd.snd.fst, y384.snd.snd.snd.snd.snd.snd.snd.snd.fst,
            y384.snd.snd.snd.snd.snd.snd.snd.snd.snd.fst, y384.snd.snd.snd.snd.snd.snd.snd.snd.snd.snd.fst,
            y384.snd.snd.snd.snd.snd.snd.snd.snd.snd.snd.snd.fst, y384.snd.snd.snd.snd.snd.snd.snd.snd.snd.snd.snd.snd.fst,
            y384.snd.snd.snd.snd.snd.snd.snd.snd.snd.snd.snd.snd.snd.fst, y384.snd.snd.snd.snd.snd.snd.snd.snd.snd.snd.snd.snd.snd.snd.fst,
            y384.snd.snd.snd.snd.snd.snd.snd.snd.snd.snd.snd.snd.snd.snd.snd.fst,
            y384.snd.snd.snd.snd.snd.snd.snd.snd.snd.snd.snd.snd.snd.snd.snd.snd.fst,
            y384.snd.snd.snd.snd.snd.snd.snd.snd.snd.snd.snd.snd.snd.snd.snd.snd.snd.fst,
            y384.snd.snd.snd.snd.snd.snd.snd.snd.snd.snd.snd.snd.snd.snd.snd.snd.snd.snd.fst,
            y384.snd.snd.snd.snd.snd.snd.snd.snd.snd.snd.snd.snd.snd.snd.snd.snd.snd.snd.snd.fst,
            y384.snd.snd.snd.snd.snd.snd.snd.snd.snd.snd.snd.snd.snd.snd.snd.snd.snd.snd.snd.snd.fst,
            y384.snd.snd.snd.snd.snd.snd.snd.snd.snd.snd.snd.snd.snd.snd.snd.snd.snd.snd.snd.snd.snd.fst,
            y384.snd.snd.snd.snd.snd.snd.snd.snd.snd.snd.snd.snd.snd.snd.snd.snd.snd.snd.snd.snd.snd.snd.fst,
            y384.snd.snd.snd.snd.snd.snd.snd.snd.snd.snd.snd.snd.snd.snd.snd.snd.snd.snd.snd.snd.snd.snd.snd.fst, ()))
  else
    bif decide ((0 : Int) ≤ x.snd.snd.snd.snd.fst) && decide (x.snd.snd.snd.snd.fst < (↑x.snd.fst : Int)) then
      x.snd.snd.snd.snd.snd.snd.snd.snd.snd.snd.snd.snd.snd.snd.snd.snd.snd.snd.snd.fst[(0 : Nat) + x.snd.snd.snd.snd.fst.toNat]?.bind
        fun y387 =>
        (idxO x.fst x.snd.snd.fst).bind fun y386 =>
          (j5_49
                (x.fst, x.snd.fst, x.snd.snd.fst, bif y387.X == y386.X then bif y387.Y == y386.Y then true else false else false,
                  x.snd.snd.snd.snd.fst, x.snd.snd.snd.snd.snd.fst, x.snd.snd.snd.snd.snd.snd.fst, x.snd.snd.snd.snd.snd.snd.snd.fst,
                  x.snd.snd.snd.snd.snd.snd.snd.snd.fst, x.snd.snd.snd.snd.snd.snd.snd.snd.snd.fst,
                  x.snd.snd.snd.snd.snd.snd.snd.snd.snd.snd.fst, x.snd.snd.snd.snd.snd.snd.snd.snd.snd.snd.snd.fst,
                  x.snd.snd.snd.snd.snd.snd.snd.snd.snd.snd.snd.snd.fst, x.snd.snd.snd.snd.snd.snd.snd.snd.snd.snd.snd.snd.snd.fst,
                  x.snd.snd.snd.snd.snd.snd.snd.snd.snd.snd.snd.snd.snd.snd.fst,
                  x.snd.snd.snd.snd.snd.snd.snd.snd.snd.snd.snd.snd.snd.snd.snd.fst,
                  x.snd.snd.snd.snd.snd.snd.snd.snd.snd.snd.snd.snd.snd.snd.snd.snd.fst,
                  x.snd.snd.snd.snd.snd.snd.snd.snd.snd.snd.snd.snd.snd.snd.snd.snd.snd.fst,
                  x.snd.snd.snd.snd.snd.snd.snd.snd.snd.snd.snd.snd.snd.snd.snd.snd.snd.snd.fst,
                  x.snd.snd.snd.snd.snd.snd.snd.snd.snd.snd.snd.snd.snd.snd.snd.snd.snd.snd.snd.fst,
                  x.snd.snd.snd.snd.snd.snd.snd.snd.snd.snd.snd.snd.snd.snd.snd.snd.snd.snd.snd.snd.fst,
                  x.snd.snd.snd.snd.snd.snd.snd.snd.snd.snd.snd.snd.snd.snd.snd.snd.snd.snd.snd.snd.snd.fst,
                  x.snd.snd.snd.snd.snd.snd.snd.snd.snd.snd.snd.snd.snd.snd.snd.snd.snd.snd.snd.snd.snd.snd.fst,
                  x.snd.snd.snd.snd.snd.snd.snd.snd.snd.snd.snd.snd.snd.snd.snd.snd.snd.snd.snd.snd.snd.snd.snd.fst, ())).bind
            fun y385 =>
            some
              (Sum.inl
                (y385.fst, y385.snd.fst, y385.snd.snd.fst, y385.snd.snd.snd.fst, y385.snd.snd.snd.snd.fst, y385.snd.snd.snd.snd.snd.fst,
                  y385.snd.snd.snd.snd.snd.snd.fst, y385.snd.snd.snd.snd.snd.snd.snd.fst, y385.snd.snd.snd.snd.snd.snd.snd.snd.fst,
                  y385.snd.snd.snd.snd.snd.snd.snd.snd.snd.fst, y385.snd.snd.snd.snd.snd.snd.snd.snd.snd.snd.fst,
                  y385.snd.snd.snd.snd.snd.snd.snd.snd.snd.snd.snd.fst, y385.snd.snd.snd.snd.snd.snd.snd.snd.snd.snd.snd.snd.fst,
                  y385.snd.snd.snd.snd.snd.snd.snd.snd.snd.snd.snd.snd.snd.fst,
                  y385.snd.snd.snd.snd.snd.snd.snd.snd.snd.snd.snd.snd.snd.snd.fst,
                  y385.snd.snd.snd.snd.snd.snd.snd.snd.snd.snd.snd.snd.snd.snd.snd.fst,
                  y385.snd.snd.snd.snd.snd.snd.snd.snd.snd.snd.snd.snd.snd.snd.snd.snd.fst,
                  y385.snd.snd.snd.snd.snd.snd.snd.snd.snd.snd.snd.snd.snd.snd.snd.snd.snd.fst,
                  y385.snd.snd.snd.snd.snd.snd.snd.snd.snd.snd.snd.snd.snd.snd.snd.snd.snd.snd.fst,
                  y385.snd.snd.snd.snd.snd.snd.snd.snd.snd.snd.snd.snd.snd.snd.snd.snd.snd.snd.snd.fst,
                  y385.snd.snd.snd.snd.snd.snd.snd.snd.snd.snd.snd.snd.snd.snd.snd.snd.snd.snd.snd.snd.fst,
                  y385.snd.snd.snd.snd.snd.snd.snd.snd.snd.snd.snd.snd.snd.snd.snd.snd.snd.snd.snd.snd.snd.fst,
                  y385.snd.snd.snd.snd.snd.snd.snd.snd.snd.snd.snd.snd.snd.snd.snd.snd.snd.snd.snd.snd.snd.snd.fst,
                  y385.snd.snd.snd.snd.snd.snd.snd.snd.snd.snd.snd.snd.snd.snd.snd.snd.snd.snd.snd.snd.snd.snd.snd.fst, ()))
    else none
else
  some
    (Sum.inr
      (x.fst, x.snd.fst, x.snd.snd.fst, x.snd.snd.snd.fst, x.snd.snd.snd.snd.snd.fst, x.snd.snd.snd.snd.snd.snd.fst,
        x.snd.snd.snd.snd.snd.snd.snd.fst, x.snd.snd.snd.snd.snd.snd.snd.snd.fst, x.snd.snd.snd.snd.snd.snd.snd.snd.snd.fst,
        x.snd.snd.snd.snd.snd.snd.snd.snd.snd.snd.fst, x.snd.snd.snd.snd.snd.snd.snd.snd.snd.snd.snd.fst,
        x.snd.snd.snd.snd.snd.snd.snd.snd.snd.snd.snd.snd.fst, x.snd.snd.snd.snd.snd.snd.snd.snd.snd.snd.snd.snd.snd.fst,
        x.snd.snd.snd.snd.snd.snd.snd.snd.snd.snd.snd.snd.snd.snd.fst, x.snd.snd.snd.snd.snd.snd.snd.snd.snd.snd.snd.snd.snd.snd.snd.fst,
        x.snd.snd.snd.snd.snd.snd.snd.snd.snd.snd.snd.snd.snd.snd.snd.snd.fst,
        x.snd.snd.snd.snd.snd.snd.snd.snd.snd.snd.snd.snd.snd.snd.snd.snd.snd.fst,
        x.snd.snd.snd.snd.snd.snd.snd.snd.snd.snd.snd.snd.snd.snd.snd.snd.snd.snd.fst,
        x.snd.snd.snd.snd.snd.snd.snd.snd.snd.snd.snd.snd.snd.snd.snd.snd.snd.snd.snd.fst,
        x.snd.snd.snd.snd.snd.snd.snd.snd.snd.snd.snd.snd.snd.snd.snd.snd.snd.snd.snd.snd.fst,
        x.snd.snd.snd.snd.snd.snd.snd.snd.snd.snd.snd.snd.snd.snd.snd.snd.snd.snd.snd.snd.snd.fst,
        x.snd.snd.snd.snd.snd.snd.snd.snd.snd.snd.snd.snd.snd.snd.snd.snd.snd.snd.snd.snd.snd.snd.fst,
        x.snd.snd.snd.snd.snd.snd.snd.snd.snd.snd.snd.snd.snd.snd.snd.snd.snd.snd.snd.snd.snd.snd.snd.fst, ()))
theorem r5_6_run0 (v0 : List Ac) (v1 : Nat) (v2 : Int) (v3 : Bool) (v4 : Int) (v5 : Int) (v6 : Int) (v7 : Int) (v8 : Int) (v9 : Nat) (v10 : Int) (v11 : Int) (v12 : Nat) (v13 : Int) (v14 : Int) (v15 : Nat) (v16 : Int) (v17 : Int) (v18 : Nat) (v19 : List Ac) (v20 : List Int) (v21 : List Int) (v22 : List Int) (v23 : List Int) : roundK tC G5 (look [(49, W5_49)]) c5_6 p5_6 (v0, v1, v2, v3, v4, v5, v6, v7, v8, v9, v10, v11, v12, v13, v14, v15, v16, v17, v18, v19, v20, v21, v22, v23, ()) = r5_6 (v0, v1, v2, v3, v4, v5, v6, v7, v8, v9, v10, v11, v12, v13, v14, v15, v16, v17, v18, v19, v20, v21, v22, v23, ()) := by kernel_rfl
theorem r5_6_run (x : List Ac ×
  Nat ×
    Int ×
      Bool ×
        Int ×
          Int ×
            Int ×
              Int ×
                Int × Nat × Int × Int × Nat × Int × Int × Nat × Int × Int × Nat × List Ac × List Int × List Int × List Int × List Int × Unit) : roundK tC G5 (look [(49, W5_49)]) c5_6 p5_6 x = r5_6 x := r5_6_run0 x.1 x.2.1 x.2.2.1 x.2.2.2.1 x.2.2.2.2.1 x.2.2.2.2.2.1 x.2.2.2.2.2.2.1 x.2.2.2.2.2.2.2.1 x.2.2.2.2.2.2.2.2.1 x.2.2.2.2.2.2.2.2.2.1 x.2.2.2.2.2.2.2.2.2.2.1 x.2.2.2.2.2.2.2.2.2.2.2.1 x.2.2.2.2.2.2.2.2.2.2.2.2.1 x.2.2.2.2.2.2.2.2.2.2.2.2.2.1 x.2.2.2.2.2.2.2.2.2.2.2.2.2.2.1 x.2.2.2.2.2.2.2.2.2.2.2.2.2.2.2.1 x.2.2.2.2.2.2.2.2.2.2.2.2.2.2.2.2.1 x.2.2.2.2.2.2.2.2.2.2.2.2.2.2.2.2.2.1 x.2.2.2.2.2.2.2.2.2.2.2.2.2.2.2.2.2.2.1 x.2.2.2.2.2.2.2.2.2.2.2.2.2.2.2.2.2.2.2.1 x.2.2.2.2.2.2.2.2.2.2.2.2.2.2.2.2.2.2.2.2.1 x.2.2.2.2.2.2.2.2.2.2.2.2.2.2.2.2.2.2.2.2.2.1 x.2.2.2.2.2.2.2.2.2.2.2.2.2.2.2.2.2.2.2.2.2.2.1 x.2.2.2.2.2.2.2.2.2.2.2.2.2.2.2.2.2.2.2.2.2.2.2.1
noncomputable def l5_6 (x : List Ac ×
  Nat ×
    Int ×
      Bool ×
        Int ×
          Int ×
            Int ×
              Int ×
                Int × Nat × Int × Int × Nat × Int × Int × Nat × Int × Int × Nat × List Ac × List Int × List Int × List Int × List Int × Unit) : Option
  (List Ac ×
    Nat ×
      Int ×
        Bool ×
          Int ×
            Int ×
              Int ×
                Int ×
                  Nat × Int × Int × Nat × Int × Int × Nat × Int × Int × Nat × List Ac × List Int × List Int × List Int × List Int × Unit) := iterO r5_6 x
noncomputable def W5_6 : LF tC := loopW tC p5_6 2 l5_6
theorem W5_6_ok : keyed 6 (loopOf (bodyOf Try.f5) 0) = [.block 2 (.loop c5_6)] ∧ ∀ n, n ≤ 0 → Snd tC n (.block 2 (.loop c5_6)) W5_6.k := ⟨by kernel_rfl, fun n hn => loopW_ok (p := p5_6) (id := 2) Y5 (lam_le (lam_cons W5_49_ok lam_nil) n hn) hn r5_6_run⟩
noncomputable def c5_37 : Code := subCode (loopOf (bodyOf Try.f5) 0) 37
def p5_37 : PS := ⟨0, [2, 4, 7, 9, 11, 12], ⟨[vB, vB, .one (.one (.imm 47)), vB, .one (.one (.ptr 0 0 0)), vB, vB, .one (.one (.ptr 1 0 0)), vB, .one (.one (.ptr 2 0 0)), vB, .one (.one (.sl 3)), vI] ++ vBs 179, [.box [.int .i64, .int .i64], .box [.int .i64, .int .i64, .sl 4, .int .i64, .int .i64, .sl 5], .box [.int .i64, .int .i64, .sl 6, .int .i64, .int .i64, .sl 7], .arr 47, .arr 5, .arr 3, .arr 5, .arr 3]⟩, [⟨.normal, [2, 4, 7, 9, 11, 12], ⟨[vB, vB, .one (.one (.imm 47)), vB, .one (.one (.ptr 0 0 0)), vB, vB, .one (.one (.ptr 1 0 0)), vB, .one (.one (.ptr 2 0 0)), vB, .one (.one (.sl 3)), vI] ++ vBs 179, [.box [.int .i64, .int .i64], .box [.int .i64, .int .i64, .sl 4, .int .i64, .int .i64, .sl 5], .box [.int .i64, .int .i64, .sl 6, .int .i64, .int .i64, .sl 7], .arr 47, .arr 5, .arr 3, .arr 5, .arr 3]⟩, []⟩], []⟩
noncomputable def j5_37 (x : List Ac ×
  Nat ×
    Int ×
      Int ×
        Int ×
          Int × Int × Nat × Int × Int × Nat × Int × Int × Nat × Int × Int × Nat × List Ac × List Int × List Int × List Int × List Int × Unit) : Option
  (List Ac ×
    Nat ×
      Int ×
        Int ×
          Int ×
            Int ×
              Int × Nat × Int × Int × Nat × Int × Int × Nat × Int × Int × Nat × List Ac × List Int × List Int × List Int × List Int × Unit) :=
  some
  (x.fst, x.snd.fst, IntKind.i64.wrap (x.snd.snd.fst + (1 : Int)), x.snd.snd.snd.fst, x.snd.snd.snd.snd.fst, x.snd.snd.snd.snd.snd.fst,
    x.snd.snd.snd.snd.snd.snd.fst, x.snd.snd.snd.snd.snd.snd.snd.fst, x.snd.snd.snd.snd.snd.snd.snd.snd.fst,
    x.snd.snd.snd.snd.snd.snd.snd.snd.snd.fst, x.snd.snd.snd.snd.snd.snd.snd.snd.snd.snd.fst,
    x.snd.snd.snd.snd.snd.snd.snd.snd.snd.snd.snd.fst, x.snd.snd.snd.snd.snd.snd.snd.snd.snd.snd.snd.snd.fst,
    x.snd.snd.snd.snd.snd.snd.snd.snd.snd.snd.snd.snd.snd.fst, x.snd.snd.snd.snd.snd.snd.snd.snd.snd.snd.snd.snd.snd.snd.fst,
    x.snd.snd.snd.snd.snd.snd.snd.snd.snd.snd.snd.snd.snd.snd.snd.fst,
    x.snd.snd.snd.snd.snd.snd.snd.snd.snd.snd.snd.snd.snd.snd.snd.snd.fst,
    x.snd.snd.snd.snd.snd.snd.snd.snd.snd.snd.snd.snd.snd.snd.snd.snd.snd.fst,
    x.snd.snd.snd.snd.snd.snd.snd.snd.snd.snd.snd.snd.snd.snd.snd.snd.snd.snd.fst,
    x.snd.snd.snd.snd.snd.snd.snd.snd.snd.snd.snd.snd.snd.snd.snd.snd.snd.snd.snd.fst,
    x.snd.snd.snd.snd.snd.snd.snd.snd.snd.snd.snd.snd.snd.snd.snd.snd.snd.snd.snd.snd.fst,
    x.snd.snd.snd.snd.snd.snd.snd.snd.snd.snd.snd.snd.snd.snd.snd.snd.snd.snd.snd.snd.snd.fst, ())
theorem j5_37_run0 (v0 : List Ac) (v1 : Nat) (v2 : Int) (v3 : Int) (v4 : Int) (v5 : Int) (v6 : Int) (v7 : Nat) (v8 : Int) (v9 : Int) (v10 : Nat) (v11 : Int) (v12 : Int) (v13 : Nat) (v14 : Int) (v15 : Int) (v16 : Nat) (v17 : List Ac) (v18 : List Int) (v19 : List Int) (v20 : List Int) (v21 : List Int) : pieceK tC G5 (look []) c5_37 p5_37 (v0, v1, v2, v3, v4, v5, v6, v7, v8, v9, v10, v11, v12, v13, v14, v15, v16, v17, v18, v19, v20, v21, ()) = j5_37 (v0, v1, v2, v3, v4, v5, v6, v7, v8, v9, v10, v11, v12, v13, v14, v15, v16, v17, v18, v19, v20, v21, ()) := by kernel_rfl
theorem j5_37_run (x : List Ac ×
  Nat ×
    Int ×
      Int ×
        Int ×
          Int × Int × Nat × Int × Int × Nat × Int × Int × Nat × Int × Int × Nat × List Ac × List Int × List Int × List Int × List Int × Unit) : pieceK tC G5 (look []) c5_37 p5_37 x = j5_37 x := j5_37_run0 x.1 x.2.1 x.2.2.1 x.2.2.2.1 x.2.2.2.2.1 x.2.2.2.2.2.1 x.2.2.2.2.2.2.1 x.2.2.2.2.2.2.2.1 x.2.2.2.2.2.2.2.2.1 x.2.2.2.2.2.2.2.2.2.1 x.2.2.2.2.2.2.2.2.2.2.1 x.2.2.2.2.2.2.2.2.2.2.2.1 x.2.2.2.2.2.2.2.2.2.2.2.2.1 x.2.2.2.2.2.2.2.2.2.2.2.2.2.1 x.2.2.2.2.2.2.2.2.2.2.2.2.2.2.1 x.2.2.2.2.2.2.2.2.2.2.2.2.2.2.2.1 x.2.2.2.2.2.2.2.2.2.2.2.2.2.2.2.2.1 x.2.2.2.2.2.2.2.2.2.2.2.2.2.2.2.2.2.1 x.2.2.2.2.2.2.2.2.2.2.2.2.2.2.2.2.2.2.1 x.2.2.2.2.2.2.2.2.2.2.2.2.2.2.2.2.2.2.2.1 x.2.2.2.2.2.2.2.2.2.2.2.2.2.2.2.2.2.2.2.2.1 x.2.2.2.2.2.2.2.2.2.2.2.2.2.2.2.2.2.2.2.2.2.1
noncomputable def W5_37 : LF tC := cutLF tC p5_37 j5_37
theorem W5_37_ok : keyed 37 (loopOf (bodyOf Try.f5) 0) = [c5_37] ∧ ∀ n, n ≤ 0 → Snd tC n c5_37 W5_37.k := ⟨by kernel_rfl, fun n hn => cut_ok (p := p5_37) Y5 (lam_le lam_nil n hn) hn j5_37_run⟩
noncomputable def c5_0 : Code := loopOf (bodyOf Try.f5) 0
def p5_0 : LS := ⟨0, [2, 4, 7, 9, 11, 12], ⟨[vB, vB, .one (.one (.imm 47)), vB, .one (.one (.ptr 0 0 0)), vB, vB, .one (.one (.ptr 1 0 0)), vB, .one (.one (.ptr 2 0 0)), vB, .one (.one (.sl 3)), vI] ++ vBs 179, [.box [.int .i64, .int .i64], .box [.int .i64, .int .i64, .sl 4, .int .i64, .int .i64, .sl 5], .box [.int .i64, .int .i64, .sl 6, .int .i64, .int .i64, .sl 7], .arr 47, .arr 5, .arr 3, .arr 5, .arr 3]⟩, [⟨.exit 0, [4, 7, 9, 11], ⟨vBs 4 ++ [.one (.one (.ptr 0 0 0)), vB, vB, .one (.one (.ptr 1 0 0)), vB, .one (.one (.ptr 2 0 0)), vB, .one (.one (.sl 3))] ++ vBs 180, [.box [.int .i64, .int .i64], .box [.int .i64, .int .i64, .sl 4, .int .i64, .int .i64, .sl 5], .box [.int .i64, .int .i64, .sl 6, .int .i64, .int .i64, .sl 7], .arr 47, .arr 5, .arr 3, .arr 5, .arr 3]⟩, []⟩], [(11, 47)]⟩
noncomputable def r5_0 (x : List Ac ×
  Nat ×
    Int ×
      Int ×
        Int ×
          Int × Int × Nat × Int × Int × Nat × Int × Int × Nat × Int × Int × Nat × List Ac × List Int × List Int × List Int × List Int × Unit) : Option
  (List Ac ×
      Nat ×
        Int ×
          Int ×
            Int ×
              Int ×
                Int ×
                  Nat × Int × Int × Nat × Int × Int × Nat × Int × Int × Nat × List Ac × List Int × List Int × List Int × List Int × Unit ⊕
    Nat ×
      Int ×
        Int ×
          Int ×
            Int × Nat × Int × Int × Nat × Int × Int × Nat × Int × Int × Nat × List Ac × List Int × List Int × List Int × List Int × Unit) :=
  bif decide (x.snd.snd.fst < (↑x.fst.length : Int)) then
  (idxO x.fst x.snd.snd.fst).bind fun y524 =>
    (l5_6
          (x.fst, x.snd.fst, x.snd.snd.fst, y524.K.tmod (3 : Int) == (2 : Int), (0 : Int), x.snd.snd.snd.fst, x.snd.snd.snd.snd.fst,
            x.snd.snd.snd.snd.snd.fst, x.snd.snd.snd.snd.snd.snd.fst, x.snd.snd.snd.snd.snd.snd.snd.fst,
            x.snd.snd.snd.snd.snd.snd.snd.snd.fst, x.snd.snd.snd.snd.snd.snd.snd.snd.snd.fst, x.snd.snd.snd.snd.snd.snd.snd.snd.snd.snd.fst,
            x.snd.snd.snd.snd.snd.snd.snd.snd.snd.snd.snd.fst, x.snd.snd.snd.snd.snd.snd.snd.snd.snd.snd.snd.snd.fst,
            x.snd.snd.snd.snd.snd.snd.snd.snd.snd.snd.snd.snd.snd.fst, x.snd.snd.snd.snd.snd.snd.snd.snd.snd.snd.snd.snd.snd.snd.fst,
            x.snd.snd.snd.snd.snd.snd.snd.snd.snd.snd.snd.snd.snd.snd.snd.fst,
            x.snd.snd.snd.snd.snd.snd.snd.snd.snd.snd.snd.snd.snd.snd.snd.snd.fst,
            x.snd.snd.snd.snd.snd.snd.snd.snd.snd.snd.snd.snd.snd.snd.snd.snd.snd.fst,
            x.snd.snd.snd.snd.snd.snd.snd.snd.snd.snd.snd.snd.snd.snd.snd.snd.snd.snd.fst,
            x.snd.snd.snd.snd.snd.snd.snd.snd.snd.snd.snd.snd.snd.snd.snd.snd.snd.snd.snd.fst,
            x.snd.snd.snd.snd.snd.snd.snd.snd.snd.snd.snd.snd.snd.snd.snd.snd.snd.snd.snd.snd.fst,
            x.snd.snd.snd.snd.snd.snd.snd.snd.snd.snd.snd.snd.snd.snd.snd.snd.snd.snd.snd.snd.snd.fst, ())).bind
      fun y523 =>
      bif !y523.snd.snd.snd.fst then
        (idxO y523.fst y523.snd.snd.fst).bind fun y521 =>
          bif
              decide
                ((0 : Nat) + y523.snd.fst ≤ y523.snd.snd.snd.snd.snd.snd.snd.snd.snd.snd.snd.snd.snd.snd.snd.snd.snd.snd.fst.length) then
            bif roomy (y523.snd.fst + (1 : Nat)) (24 : Nat) then
              (j5_37
                    (y523.fst, y523.snd.fst + (1 : Nat), y523.snd.snd.fst, y523.snd.snd.snd.snd.fst, y523.snd.snd.snd.snd.snd.fst,
                      y523.snd.snd.snd.snd.snd.snd.fst, y523.snd.snd.snd.snd.snd.snd.snd.fst, y523.snd.snd.snd.snd.snd.snd.snd.snd.fst,
                      y523.snd.snd.snd.snd.snd.snd.snd.snd.snd.fst, y523.snd.snd.snd.snd.snd.snd.snd.snd.snd.snd.fst,
                      y523.snd.snd.snd.snd.snd.snd.snd.snd.snd.snd.snd.fst, y523.snd.snd.snd.snd.snd.snd.snd.snd.snd.snd.snd.snd.fst,
                      y523.snd.snd.snd.snd.snd.snd.snd.snd.snd.snd.snd.snd.snd.fst,
                      y523.snd.snd.snd.snd.snd.snd.snd.snd.snd.snd.snd.snd.snd.snd.fst,
                      y523.snd.snd.snd.snd.snd.snd.snd.snd.snd.snd.snd.snd.snd.snd.snd.fst,
                      y523.snd.snd.snd.snd.snd.snd.snd.snd.snd.snd.snd.snd.snd.snd.snd.snd.fst,
                      y523.snd.snd.snd.snd.snd.snd.snd.snd.snd.snd.snd.snd.snd.snd.snd.snd.snd.fst,
                      List.take y523.snd.fst
                          (List.drop (0 : Nat) y523.snd.snd.snd.snd.snd.snd.snd.snd.snd.snd.snd.snd.snd.snd.snd.snd.snd.snd.fst) ++
                        [Ac.mk y521.K y521.X y521.Y],
                      y523.snd.snd.snd.snd.snd.snd.snd.snd.snd.snd.snd.snd.snd.snd.snd.snd.snd.snd.snd.fst,
                      y523.snd.snd.snd.snd.snd.snd.snd.snd.snd.snd.snd.snd.snd.snd.snd.snd.snd.snd.snd.snd.fst,
                      y523.snd.snd.snd.snd.snd.snd.snd.snd.snd.snd.snd.snd.snd.snd.snd.snd.snd.snd.snd.snd.snd.fst,
                      y523.snd.snd.snd.snd.snd.snd.snd.snd.snd.snd.snd.snd.snd.snd.snd.snd.snd.snd.snd.snd.snd.snd.fst, ())).bind
                fun y520 =>
                some
                  (Sum.inl
                    (y520.fst, y520.snd.fst, y520.snd.snd.fst, y520.snd.snd.snd.fst, y520.snd.snd.snd.snd.fst, y520.snd.snd.snd.snd.snd.fst,
                      y520.snd.snd.snd.snd.snd.snd.fst, y520.snd.snd.snd.snd.snd.snd.snd.fst, y520.snd.snd.snd.snd.snd.snd.snd.snd.fst,
                      y520.snd.snd.snd.snd.snd.snd.snd.snd.snd.fst, y520.snd.snd.snd.snd.snd.snd.snd.snd.snd.snd.fst,
                      y520.snd.snd.snd.snd.snd.snd.snd.snd.snd.snd.snd.fst, y520.snd.snd.snd.snd.snd.snd.snd.snd.snd.snd.snd.snd.fst,
                      y520.snd.snd.snd.snd.snd.snd.snd.snd.snd.snd.snd.snd.snd.fst,
                      y520.snd.snd.snd.snd.snd.snd.snd.snd.snd.snd.snd.snd.snd.snd.fst,
                      y520.snd.snd.snd.snd.snd.snd.snd.snd.snd.snd.snd.snd.snd.snd.snd.fst,
                      y520.snd.snd.snd.snd.snd.snd.snd.snd.snd.snd.snd.snd.snd.snd.snd.snd.fst,
                      y520.snd.snd.snd.snd.snd.snd.snd.snd.snd.snd.snd.snd.snd.snd.snd.snd.snd.fst,
                      y520.snd.snd.snd.snd.snd.snd.snd.snd.snd.snd.snd.snd.snd.snd.snd.snd.snd.snd.fst,
                      y520.snd.snd.snd.snd.snd.snd.snd.snd.snd.snd.snd.snd.snd.snd.snd.snd.snd.snd.snd.fst,
                      y520.snd.snd.snd.snd.snd.snd.snd.snd.snd.snd.snd.snd.snd.snd.snd.snd.snd.snd.snd.snd.fst,
                      y520.snd.snd.snd.snd.snd.snd.snd.snd.snd.snd.snd.snd.snd.snd.snd.snd.snd.snd.snd.snd.snd.fst, ()))
            else none
          else none
      else
        (j5_37
              (y523.fst, y523.snd.fst, y523.snd.snd.fst, y523.snd.snd.snd.snd.fst, y523.snd.snd.snd.snd.snd.fst,
                y523.snd.snd.snd.snd.snd.snd.fst, y523.snd.snd.snd.snd.snd.snd.snd.fst, y523.snd.snd.snd.snd.snd.snd.snd.snd.fst,
                y523.snd.snd.snd.snd.snd.snd.snd.snd.snd.fst, y523.snd.snd.snd.snd.snd.snd.snd.snd.snd.snd.fst,
                y523.snd.snd.snd.snd.snd.snd.snd.snd.snd.snd.snd.fst, y523.snd.snd.snd.snd.snd.snd.snd.snd.snd.snd.snd.snd.fst,
                y523.snd.snd.snd.snd.snd.snd.snd.snd.snd.snd.snd.snd.snd.fst,
                y523.snd.snd.snd.snd.snd.snd.snd.snd.snd.snd.snd.snd.snd.snd.fst,
                y523.snd.snd.snd.snd.snd.snd.snd.snd.snd.snd.snd.snd.snd.snd.snd.fst,
                y523.snd.snd.snd.snd.snd.snd.snd.snd.snd.snd.snd.snd.snd.snd.snd.snd.fst,
                y523.snd.snd.snd.snd.snd.snd.snd.snd.snd.snd.snd.snd.snd.snd.snd.snd.snd.fst,
                y523.snd.snd.snd.snd.snd.snd.snd.snd.snd.snd.snd.snd.snd.snd.snd.snd.snd.snd.fst,
                y523.snd.snd.snd.snd.snd.snd.snd.snd.snd.snd.snd.snd.snd.snd.snd.snd.snd.snd.snd.fst,
                y523.snd.snd.snd.snd.snd.snd.snd.snd.snd.snd.snd.snd.snd.snd.snd.snd.snd.snd.snd.snd.fst,
                y523.snd.snd.snd.snd.snd.snd.snd.snd.snd.snd.snd.snd.snd.snd.snd.snd.snd.snd.snd.snd.snd.fst,
                y523.snd.snd.snd.snd.snd.snd.snd.snd.snd.snd.snd.snd.snd.snd.snd.snd.snd.snd.snd.snd.snd.snd.fst, ())).bind
          fun y522 =>
          some
            (Sum.inl
              (y522.fst, y522.snd.fst, y522.snd.snd.fst, y522.snd.snd.snd.fst, y522.snd.snd.snd.snd.fst, y522.snd.snd.snd.snd.snd.fst,
                y522.snd.snd.snd.snd.snd.snd.fst, y522.snd.snd.snd.snd.snd.snd.snd.fst, y522.snd.snd.snd.snd.snd.snd.snd.snd.fst,
                y522.snd.snd.snd.snd.snd.snd.snd.snd.snd.fst, y522.snd.snd.snd.snd.snd.snd.snd.snd.snd.snd.fst,
                y522.snd.snd.snd.snd.snd.snd.snd.snd.snd.snd.snd.fst, y522.snd.snd.snd.snd.snd.snd.snd.snd.snd.snd.snd.snd.fst,
                y522.snd.snd.snd.snd.snd.snd.snd.snd.snd.snd.snd.snd.snd.fst,
                y522.snd.snd.snd.snd.snd.snd.snd.snd.snd.snd.snd.snd.snd.snd.fst,
                y522.snd.snd.snd.snd.snd.snd.snd.snd.snd.snd.snd.snd.snd.snd.snd.fst,
                y522.snd.snd.snd.snd.snd.snd.snd.snd.snd.snd.snd.snd.snd.snd.snd.snd.fst,
                y522.snd.snd.snd.snd.snd.snd.snd.snd.snd.snd.snd.snd.snd.snd.snd.snd.snd.fst,
                y522.snd.snd.snd.snd.snd.snd.snd.snd.snd.snd.snd.snd.snd.snd.snd.snd.snd.snd.fst,
                y522.snd.snd.snd.snd.snd.snd.snd.snd.snd.snd.snd.snd.snd.snd.snd.snd.snd.snd.snd.fst,
                y522.snd.snd.snd.snd.snd.snd.snd.snd.snd.snd.snd.snd.snd.snd.snd.snd.snd.snd.snd.snd.fst,
                y522.snd.snd.snd.snd.snd.snd.snd.snd.snd.snd.snd.snd.snd.snd.snd.snd.snd.snd.snd.snd.snd.fst, ()))
else
  some
    (Sum.inr
      (x.snd.fst, x.snd.snd.snd.fst, x.snd.snd.snd.snd.fst, x.snd.snd.snd.snd.snd.fst, x.snd.snd.snd.snd.snd.snd.fst,
        x.snd.snd.snd.snd.snd.snd.snd.fst, x.snd.snd.snd.snd.snd.snd.snd.snd.fst, x.snd.snd.snd.snd.snd.snd.snd.snd.snd.fst,
        x.snd.snd.snd.snd.snd.snd.snd.snd.snd.snd.fst, x.snd.snd.snd.snd.snd.snd.snd.snd.snd.snd.snd.fst,
        x.snd.snd.snd.snd.snd.snd.snd.snd.snd.snd.snd.snd.fst, x.snd.snd.snd.snd.snd.snd.snd.snd.snd.snd.snd.snd.snd.fst,
        x.snd.snd.snd.snd.snd.snd.snd.snd.snd.snd.snd.snd.snd.snd.fst, x.snd.snd.snd.snd.snd.snd.snd.snd.snd.snd.snd.snd.snd.snd.snd.fst,
        x.snd.snd.snd.snd.snd.snd.snd.snd.snd.snd.snd.snd.snd.snd.snd.snd.fst,
        x.snd.snd.snd.snd.snd.snd.snd.snd.snd.snd.snd.snd.snd.snd.snd.snd.snd.fst,
        x.snd.snd.snd.snd.snd.snd.snd.snd.snd.snd.snd.snd.snd.snd.snd.snd.snd.snd.fst,
        x.snd.snd.snd.snd.snd.snd.snd.snd.snd.snd.snd.snd.snd.snd.snd.snd.snd.snd.snd.fst,
        x.snd.snd.snd.snd.snd.snd.snd.snd.snd.snd.snd.snd.snd.snd.snd.snd.snd.snd.snd.snd.fst,
        x.snd.snd.snd.snd.snd.snd.snd.snd.snd.snd.snd.snd.snd.snd.snd.snd.snd.snd.snd.snd.snd.fst, ()))
theorem r5_0_run0 (v0 : List Ac) (v1 : Nat) (v2 : Int) (v3 : Int) (v4 : Int) (v5 : Int) (v6 : Int) (v7 : Nat) (v8 : Int) (v9 : Int) (v10 : Nat) (v11 : Int) (v12 : Int) (v13 : Nat) (v14 : Int) (v15 : Int) (v16 : Nat) (v17 : List Ac) (v18 : List Int) (v19 : List Int) (v20 : List Int) (v21 : List Int) : roundK tC G5 (look [(6, W5_6), (37, W5_37)]) c5_0 p5_0 (v0, v1, v2, v3, v4, v5, v6, v7, v8, v9, v10, v11, v12, v13, v14, v15, v16, v17, v18, v19, v20, v21, ()) = r5_0 (v0, v1, v2, v3, v4, v5, v6, v7, v8, v9, v10, v11, v12, v13, v14, v15, v16, v17, v18, v19, v20, v21, ()) := by kernel_rfl
theorem r5_0_run (x : List Ac ×
  Nat ×
    Int ×
      Int ×
        Int ×
          Int × Int × Nat × Int × Int × Nat × Int × Int × Nat × Int × Int × Nat × List Ac × List Int × List Int × List Int × List Int × Unit) : roundK tC G5 (look [(6, W5_6), (37, W5_37)]) c5_0 p5_0 x = r5_0 x := r5_0_run0 x.1 x.2.1 x.2.2.1 x.2.2.2.1 x.2.2.2.2.1 x.2.2.2.2.2.1 x.2.2.2.2.2.2.1 x.2.2.2.2.2.2.2.1 x.2.2.2.2.2.2.2.2.1 x.2.2.2.2.2.2.2.2.2.1 x.2.2.2.2.2.2.2.2.2.2.1 x.2.2.2.2.2.2.2.2.2.2.2.1 x.2.2.2.2.2.2.2.2.2.2.2.2.1 x.2.2.2.2.2.2.2.2.2.2.2.2.2.1 x.2.2.2.2.2.2.2.2.2.2.2.2.2.2.1 x.2.2.2.2.2.2.2.2.2.2.2.2.2.2.2.1 x.2.2.2.2.2.2.2.2.2.2.2.2.2.2.2.2.1 x.2.2.2.2.2.2.2.2.2.2.2.2.2.2.2.2.2.1 x.2.2.2.2.2.2.2.2.2.2.2.2.2.2.2.2.2.2.1 x.2.2.2.2.2.2.2.2.2.2.2.2.2.2.2.2.2.2.2.1 x.2.2.2.2.2.2.2.2.2.2.2.2.2.2.2.2.2.2.2.2.1 x.2.2.2.2.2.2.2.2.2.2.2.2.2.2.2.2.2.2.2.2.2.1
noncomputable def l5_0 (x : List Ac ×
  Nat ×
    Int ×
      Int ×
        Int ×
          Int × Int × Nat × Int × Int × Nat × Int × Int × Nat × Int × Int × Nat × List Ac × List Int × List Int × List Int × List Int × Unit) : Option
  (Nat ×
    Int ×
      Int ×
        Int × Int × Nat × Int × Int × Nat × Int × Int × Nat × Int × Int × Nat × List Ac × List Int × List Int × List Int × List Int × Unit) := iterO r5_0 x
noncomputable def W5_0 : LF tC := loopW tC p5_0 0 l5_0
theorem W5_0_ok : keyed 0 (bodyOf Try.f5) = [.block 0 (.loop c5_0)] ∧ ∀ n, n ≤ 0 → Snd tC n (.block 0 (.loop c5_0)) W5_0.k := ⟨by kernel_rfl, fun n hn => loopW_ok (p := p5_0) (id := 0) Y5 (lam_le (lam_cons W5_6_ok (lam_cons W5_37_ok lam_nil)) n hn) hn r5_0_run⟩
noncomputable def c5_67 : Code := subCode (loopOf (bodyOf Try.f5) 4) 67
def p5_67 : PS := ⟨0, [4, 7, 9, 11, 15], ⟨vBs 4 ++ [.one (.one (.ptr 0 0 0)), vB, vB, .one (.one (.ptr 1 0 0)), vB, .one (.one (.ptr 2 0 0)), vB, .one (.one (.sl 3)), vB, vB, vB, vI] ++ vBs 176, [.box [.int .i64, .int .i64], .box [.int .i64, .int .i64, .sl 4, .int .i64, .int .i64, .sl 5], .box [.int .i64, .int .i64, .sl 6, .int .i64, .int .i64, .sl 7], .arr 47, .arr 5, .arr 3, .arr 5, .arr 3]⟩, [⟨.normal, [4, 7, 9, 11, 15], ⟨vBs 4 ++ [.one (.one (.ptr 0 0 0)), vB, vB, .one (.one (.ptr 1 0 0)), vB, .one (.one (.ptr 2 0 0)), vB, .one (.one (.sl 3)), vB, vB, vB, vI] ++ vBs 176, [.box [.int .i64, .int .i64], .box [.int .i64, .int .i64, .sl 4, .int .i64, .int .i64, .sl 5], .box [.int .i64, .int .i64, .sl 6, .int .i64, .int .i64, .sl 7], .arr 47, .arr 5, .arr 3, .arr 5, .arr 3]⟩, []⟩], []⟩
noncomputable def j5_67 (x : Nat ×
  Int ×
    Int ×
      Int ×
        Int × Int × Nat × Int × Int × Nat × Int × Int × Nat × Int × Int × Nat × List Ac × List Int × List Int × List Int × List Int × Unit) : Option
  (Nat ×
    Int ×
      Int ×
        Int ×
          Int ×
            Int × Nat × Int × Int × Nat × Int × Int × Nat × Int × Int × Nat × List Ac × List Int × List Int × List Int × List Int × Unit) :=
  some
  (x.fst, IntKind.i64.wrap (x.snd.fst + (1 : Int)), x.snd.snd.fst, x.snd.snd.snd.fst, x.snd.snd.snd.snd.fst, x.snd.snd.snd.snd.snd.fst,
    x.snd.snd.snd.snd.snd.snd.fst, x.snd.snd.snd.snd.snd.snd.snd.fst, x.snd.snd.snd.snd.snd.snd.snd.snd.fst,
    x.snd.snd.snd.snd.snd.snd.snd.snd.snd.fst, x.snd.snd.snd.snd.snd.snd.snd.snd.snd.snd.fst,
    x.snd.snd.snd.snd.snd.snd.snd.snd.snd.snd.snd.fst, x.snd.snd.snd.snd.snd.snd.snd.snd.snd.snd.snd.snd.fst,
    x.snd.snd.snd.snd.snd.snd.snd.snd.snd.snd.snd.snd.snd.fst, x.snd.snd.snd.snd.snd.snd.snd.snd.snd.snd.snd.snd.snd.snd.fst,
    x.snd.snd.snd.snd.snd.snd.snd.snd.snd.snd.snd.snd.snd.snd.snd.fst,
    x.snd.snd.snd.snd.snd.snd.snd.snd.snd.snd.snd.snd.snd.snd.snd.snd.fst,
    x.snd.snd.snd.snd.snd.snd.snd.snd.snd.snd.snd.snd.snd.snd.snd.snd.snd.fst,
    x.snd.snd.snd.snd.snd.snd.snd.snd.snd.snd.snd.snd.snd.snd.snd.snd.snd.snd.fst,
    x.snd.snd.snd.snd.snd.snd.snd.snd.snd.snd.snd.snd.snd.snd.snd.snd.snd.snd.snd.fst,
    x.snd.snd.snd.snd.snd.snd.snd.snd.snd.snd.snd.snd.snd.snd.snd.snd.snd.snd.snd.snd.fst, ())
theorem j5_67_run0 (v0 : Nat) (v1 : Int) (v2 : Int) (v3 : Int) (v4 : Int) (v5 : Int) (v6 : Nat) (v7 : Int) (v8 : Int) (v9 : Nat) (v10 : Int) (v11 : Int) (v12 : Nat) (v13 : Int) (v14 : Int) (v15 : Nat) (v16 : List Ac) (v17 : List Int) (v18 : List Int) (v19 : List Int) (v20 : List Int) : pieceK tC G5 (look []) c5_67 p5_67 (v0, v1, v2, v3, v4, v5, v6, v7, v8, v9, v10, v11, v12, v13, v14, v15, v16, v17, v18, v19, v20, ()) = j5_67 (v0, v1, v2, v3, v4, v5, v6, v7, v8, v9, v10, v11, v12, v13, v14, v15, v16, v17, v18, v19, v20, ()) := by kernel_rfl
theorem j5_67_run (x : Nat ×
  Int ×
    Int ×
      Int ×
        Int × Int × Nat × Int × Int × Nat × Int × Int × Nat × Int × Int × Nat × List Ac × List Int × List Int × List Int × List Int × Unit) : pieceK tC G5 (look []) c5_67 p5_67 x = j5_67 x := j5_67_run0 x.1 x.2.1 x.2.2.1 x.2.2.2.1 x.2.2.2.2.1 x.2.2.2.2.2.1 x.2.2.2.2.2.2.1 x.2.2.2.2.2.2.2.1 x.2.2.2.2.2.2.2.2.1 x.2.2.2.2.2.2.2.2.2.1 x.2.2.2.2.2.2.2.2.2.2.1 x.2.2.2.2.2.2.2.2.2.2.2.1 x.2.2.2.2.2.2.2.2.2.2.2.2.1 x.2.2.2.2.2.2.2.2.2.2.2.2.2.1 x.2.2.2.2.2.2.2.2.2.2.2.2.2.2.1 x.2.2.2.2.2.2.2.2.2.2.2.2.2.2.2.1 x.2.2.2.2.2.2.2.2.2.2.2.2.2.2.2.2.1 x.2.2.2.2.2.2.2.2.2.2.2.2.2.2.2.2.2.1 x.2.2.2.2.2.2.2.2.2.2.2.2.2.2.2.2.2.2.1 x.2.2.2.2.2.2.2.2.2.2.2.2.2.2.2.2.2.2.2.1 x.2.2.2.2.2.2.2.2.2.2.2.2.2.2.2.2.2.2.2.2.1
noncomputable def W5_67 : LF tC := cutLF tC p5_67 j5_67
theorem W5_67_ok : keyed 67 (loopOf (bodyOf Try.f5) 4) = [c5_67] ∧ ∀ n, n ≤ 0 → Snd tC n c5_67 W5_67.k := ⟨by kernel_rfl, fun n hn => cut_ok (p := p5_67) Y5 (lam_le lam_nil n hn) hn j5_67_run⟩
noncomputable def c5_12 : Code := loopOf (bodyOf Try.f5) 4
def p5_12 : LS := ⟨0, [4, 7, 9, 11, 15], ⟨vBs 4 ++ [.one (.one (.ptr 0 0 0)), vB, vB, .one (.one (.ptr 1 0 0)), vB, .one (.one (.ptr 2 0 0)), vB, .one (.one (.sl 3)), vB, vB, vB, vI] ++ vBs 176, [.box [.int .i64, .int .i64], .box [.int .i64, .int .i64, .sl 4, .int .i64, .int .i64, .sl 5], .box [.int .i64, .int .i64, .sl 6, .int .i64, .int .i64, .sl 7], .arr 47, .arr 5, .arr 3, .arr 5, .arr 3]⟩, [⟨.ret, [6], ⟨vBs 6 ++ [vO] ++ vBs 185, []⟩, []⟩, ⟨.exit 4, [4, 7, 9, 11], ⟨vBs 4 ++ [.one (.one (.ptr 0 0 0)), vB, vB, .one (.one (.ptr 1 0 0)), vB, .one (.one (.ptr 2 0 0)), vB, .one (.one (.sl 3))] ++ vBs 180, [.box [.int .i64, .int .i64], .box [.int .i64, .int .i64, .sl 4, .int .i64, .int .i64, .sl 5], .box [.int .i64, .int .i64, .sl 6, .int .i64, .int .i64, .sl 7], .arr 47, .arr 5, .arr 3, .arr 5, .arr 3]⟩, []⟩], []⟩
noncomputable def r5_12 (x : Nat ×
  Int ×
    Int ×
      Int ×
        Int × Int × Nat × Int × Int × Nat × Int × Int × Nat × Int × Int × Nat × List Ac × List Int × List Int × List Int × List Int × Unit) : Option
  (Nat ×
      Int ×
        Int ×
          Int ×
            Int ×
              Int × Nat × Int × Int × Nat × Int × Int × Nat × Int × Int × Nat × List Ac × List Int × List Int × List Int × List Int × Unit ⊕
    Bool × Unit ⊕
      Nat ×
        Int ×
          Int ×
            Int ×
              Int × Nat × Int × Int × Nat × Int × Int × Nat × Int × Int × Nat × List Ac × List Int × List Int × List Int × List Int × Unit) :=
  bif decide (x.snd.fst < (↑x.fst : Int)) then
  bif decide ((0 : Int) ≤ x.snd.fst) && decide (x.snd.fst < (↑x.fst : Int)) then
    x.snd.snd.snd.snd.snd.snd.snd.snd.snd.snd.snd.snd.snd.snd.snd.snd.fst[(0 : Nat) + x.snd.fst.toNat]?.bind fun y700 =>
      bif
          decide
            ((0 : Nat) + x.snd.snd.snd.snd.snd.snd.fst ≤
              x.snd.snd.snd.snd.snd.snd.snd.snd.snd.snd.snd.snd.snd.snd.snd.snd.snd.fst.length) then
        bif
            decide
              ((0 : Nat) + x.snd.snd.snd.snd.snd.snd.snd.snd.snd.fst ≤
                x.snd.snd.snd.snd.snd.snd.snd.snd.snd.snd.snd.snd.snd.snd.snd.snd.snd.snd.fst.length) then
          (f22
                (y700.K, y700.X, y700.Y,
                  List.take x.snd.snd.snd.snd.snd.snd.fst
                    (List.drop (0 : Nat) x.snd.snd.snd.snd.snd.snd.snd.snd.snd.snd.snd.snd.snd.snd.snd.snd.snd.fst),
                  List.take x.snd.snd.snd.snd.snd.snd.snd.snd.snd.fst
                    (List.drop (0 : Nat) x.snd.snd.snd.snd.snd.snd.snd.snd.snd.snd.snd.snd.snd.snd.snd.snd.snd.snd.fst),
                  x.snd.snd.snd.snd.fst, x.snd.snd.snd.snd.snd.fst, x.snd.snd.snd.snd.snd.snd.fst, x.snd.snd.snd.snd.snd.snd.snd.fst,
                  x.snd.snd.snd.snd.snd.snd.snd.snd.fst, x.snd.snd.snd.snd.snd.snd.snd.snd.snd.fst, ())).bind
            fun y699 =>
            bif
                decide ((0 : Int) ≤ IntKind.i64.wrap (IntKind.i64.wrap ((↑x.fst : Int) - (1 : Int)) - x.snd.fst)) &&
                  decide (IntKind.i64.wrap (IntKind.i64.wrap ((↑x.fst : Int) - (1 : Int)) - x.snd.fst) < (↑x.fst : Int)) then
              x.snd.snd.snd.snd.snd.snd.snd.snd.snd.snd.snd.snd.snd.snd.snd.snd.fst[(0 : Nat) +
                      (IntKind.i64.wrap (IntKind.i64.wrap ((↑x.fst : Int) - (1 : Int)) - x.snd.fst)).toNat]?.bind
                fun y698 =>
                bif
                    decide
                      ((0 : Nat) + x.snd.snd.snd.snd.snd.snd.snd.snd.snd.snd.snd.snd.fst ≤
                        x.snd.snd.snd.snd.snd.snd.snd.snd.snd.snd.snd.snd.snd.snd.snd.snd.snd.snd.snd.fst.length) then
                  bif
                      decide
                        ((0 : Nat) + x.snd.snd.snd.snd.snd.snd.snd.snd.snd.snd.snd.snd.snd.snd.snd.fst ≤
                          x.snd.snd.snd.snd.snd.snd.snd.snd.snd.snd.snd.snd.snd.snd.snd.snd.snd.snd.snd.snd.fst.length) then
                    (f22
                          (y698.K, y698.X, y698.Y,
                            List.take x.snd.snd.snd.snd.snd.snd.snd.snd.snd.snd.snd.snd.fst
                              (List.drop (0 : Nat) x.snd.snd.snd.snd.snd.snd.snd.snd.snd.snd.snd.snd.snd.snd.snd.snd.snd.snd.snd.fst),
                            List.take x.snd.snd.snd.snd.snd.snd.snd.snd.snd.snd.snd.snd.snd.snd.snd.fst
                              (List.drop (0 : Nat) x.snd.snd.snd.snd.snd.snd.snd.snd.snd.snd.snd.snd.snd.snd.snd.snd.snd.snd.snd.snd.fst),
                            x.snd.snd.snd.snd.snd.snd.snd.snd.snd.snd.fst, x.snd.snd.snd.snd.snd.snd.snd.snd.snd.snd.snd.fst,
                            x.snd.snd.snd.snd.snd.snd.snd.snd.snd.snd.snd.snd.fst,
                            x.snd.snd.snd.snd.snd.snd.snd.snd.snd.snd.snd.snd.snd.fst,
                            x.snd.snd.snd.snd.snd.snd.snd.snd.snd.snd.snd.snd.snd.snd.fst,
                            x.snd.snd.snd.snd.snd.snd.snd.snd.snd.snd.snd.snd.snd.snd.snd.fst, ())).bind
                      fun y697 =>
                      bif y699.fst != y697.fst then
                        bif decide ((0 : Int) ≤ x.snd.fst) && decide (x.snd.fst < (↑x.fst : Int)) then
                          x.snd.snd.snd.snd.snd.snd.snd.snd.snd.snd.snd.snd.snd.snd.snd.snd.fst[(0 : Nat) + x.snd.fst.toNat]?.bind
                            fun y695 =>
                            bif
                                decide ((0 : Int) ≤ IntKind.i64.wrap (IntKind.i64.wrap ((↑x.fst : Int) - (1 : Int)) - x.snd.fst)) &&
                                  decide
                                    (IntKind.i64.wrap (IntKind.i64.wrap ((↑x.fst : Int) - (1 : Int)) - x.snd.fst) < (↑x.fst : Int)) then
                              x.snd.snd.snd.snd.snd.snd.snd.snd.snd.snd.snd.snd.snd.snd.snd.snd.fst[(0 : Nat) +
                                      (IntKind.i64.wrap (IntKind.i64.wrap ((↑x.fst : Int) - (1 : Int)) - x.snd.fst)).toNat]?.bind
                                fun y694 =>
                                bif bif y695.X == y694.X then bif y695.Y == y694.Y then true else false else false then
                                  some (Sum.inr (Sum.inl (false, ())))
                                else
                                  (j5_67
                                        (x.fst, x.snd.fst, x.snd.snd.fst, x.snd.snd.snd.fst, y699.snd.fst, y699.snd.snd.fst,
                                          y699.snd.snd.snd.fst, y699.snd.snd.snd.snd.fst, y699.snd.snd.snd.snd.snd.fst,
                                          y699.snd.snd.snd.snd.snd.snd.fst, y697.snd.fst, y697.snd.snd.fst, y697.snd.snd.snd.fst,
                                          y697.snd.snd.snd.snd.fst, y697.snd.snd.snd.snd.snd.fst, y697.snd.snd.snd.snd.snd.snd.fst,
                                          x.snd.snd.snd.snd.snd.snd.snd.snd.snd.snd.snd.snd.snd.snd.snd.snd.fst,
                                          y699.snd.snd.snd.snd.snd.snd.snd.fst, y699.snd.snd.snd.snd.snd.snd.snd.snd.fst,
                                          y697.snd.snd.snd.snd.snd.snd.snd.fst, y697.snd.snd.snd.snd.snd.snd.snd.snd.fst, ())).bind
                                    fun y693 =>
                                    some
                                      (Sum.inl
                                        (y693.fst, y693.snd.fst, y693.snd.snd.fst, y693.snd.snd.snd.fst, y693.snd.snd.snd.snd.fst,
                                          y693.snd.snd.snd.snd.snd.fst, y693.snd.snd.snd.snd.snd.snd.fst,
                                          y693.snd.snd.snd.snd.snd.snd.snd.fst, y693.snd.snd.snd.snd.snd.snd.snd.snd.fst,
                                          y693.snd.snd.snd.snd.snd.snd.snd.snd.snd.fst, y693.snd.snd.snd.snd.snd.snd.snd.snd.snd.snd.fst,
                                          y693.snd.snd.snd.snd.snd.snd.snd.snd.snd.snd.snd.fst,
                                          y693.snd.snd.snd.snd.snd.snd.snd.snd.snd.snd.snd.snd.fst,
                                          y693.snd.snd.snd.snd.snd.snd.snd.snd.snd.snd.snd.snd.snd.fst,
                                          y693.snd.snd.snd.snd.snd.snd.snd.snd.snd.snd.snd.snd.snd.snd.fst,
                                          y693.snd.snd.snd.snd.snd.snd.snd.snd.snd.snd.snd.snd.snd.snd.snd.fst,
                                          y693.snd.snd.snd.snd.snd.snd.snd.snd.snd.snd.snd.snd.snd.snd.snd.snd.fst,
                                          y693.snd.snd.snd.snd.snd.snd.snd.snd.snd.snd.snd.snd.snd.snd.snd.snd.snd.fst,
                                          y693.snd.snd.snd.snd.snd.snd.snd.snd.snd.snd.snd.snd.snd.snd.snd.snd.snd.snd.fst,
                                          y693.snd.snd.snd.snd.snd.snd.snd.snd.snd.snd.snd.snd.snd.snd.snd.snd.snd.snd.snd.fst,
                                          y693.snd.snd.snd.snd.snd.snd.snd.snd.snd.snd.snd.snd.snd.snd.snd.snd.snd.snd.snd.snd.fst, ()))
                            else none
                        else none
                      else
                        (j5_67
                              (x.fst, x.snd.fst, x.snd.snd.fst, x.snd.snd.snd.fst, y699.snd.fst, y699.snd.snd.fst, y699.snd.snd.snd.fst,
                                y699.snd.snd.snd.snd.fst, y699.snd.snd.snd.snd.snd.fst, y699.snd.snd.snd.snd.snd.snd.fst, y697.snd.fst,
                                y697.snd.snd.fst, y697.snd.snd.snd.fst, y697.snd.snd.snd.snd.fst, y697.snd.snd.snd.snd.snd.fst,
                                y697.snd.snd.snd.snd.snd.snd.fst, x.snd.snd.snd.snd.snd.snd.snd.snd.snd.snd.snd.snd.snd.snd.snd.snd.fst,
                                y699.snd.snd.snd.snd.snd.snd.snd.fst, y699.snd.snd.snd.snd.snd.snd.snd.snd.fst,
                                y697.snd.snd.snd.snd.snd.snd.snd.fst, y697.snd.snd.snd.snd.snd.snd.snd.snd.fst, ())).bind
                          fun y696 =>
                          some
                            (Sum.inl
                              (y696.fst, y696.snd.fst, y696.snd.snd.fst, y696.snd.snd.snd.fst, y696.snd.snd.snd.snd.fst,
                                y696.snd.snd.snd.snd.snd.fst, y696.snd.snd.snd.snd.snd.snd.fst, y696.snd.snd.snd.snd.snd.snd.snd.fst,
                                y696.snd.snd.snd.snd.snd.snd.snd.snd.fst, y696.snd.snd.snd.snd.snd.snd.snd.snd.snd.fst,
                                y696.snd.snd.snd.snd.snd.snd.snd.snd.snd.snd.fst, y696.snd.snd.snd.snd.snd.snd.snd.snd.snd.snd.snd.fst,
                                y696.snd.snd.snd.snd.snd.snd.snd.snd.snd.snd.snd.snd.fst,
                                y696.snd.snd.snd.snd.snd.snd.snd.snd.snd.snd.snd.snd.snd.fst,
                                y696.snd.snd.snd.snd.snd.snd.snd.snd.snd.snd.snd.snd.snd.snd.fst,
                                y696.snd.snd.snd.snd.snd.snd.snd.snd.snd.snd.snd.snd.snd.snd.snd.fst,
                                y696.snd.snd.snd.snd.snd.snd.snd.snd.snd.snd.snd.snd.snd.snd.snd.snd.fst,
                                y696.snd.snd.snd.snd.snd.snd.snd.snd.snd.snd.snd.snd.snd.snd.snd.snd.snd.fst,
                                y696.snd.snd.snd.snd.snd.snd.snd.snd.snd.snd.snd.snd.snd.snd.snd.snd.snd.snd.fst,
                                y696.snd.snd.snd.snd.snd.snd.snd.snd.snd.snd.snd.snd.snd.snd.snd.snd.snd.snd.snd.fst,
                                y696.snd.snd.snd.snd.snd.snd.snd.snd.snd.snd.snd.snd.snd.snd.snd.snd.snd.snd.snd.snd.fst, ()))
                  else none
                else none
            else none
        else none
      else none
  else none
else
  some
    (Sum.inr
      (Sum.inr
        (x.fst, x.snd.snd.fst, x.snd.snd.snd.fst, x.snd.snd.snd.snd.fst, x.snd.snd.snd.snd.snd.fst, x.snd.snd.snd.snd.snd.snd.fst,
          x.snd.snd.snd.snd.snd.snd.snd.fst, x.snd.snd.snd.snd.snd.snd.snd.snd.fst, x.snd.snd.snd.snd.snd.snd.snd.snd.snd.fst,
          x.snd.snd.snd.snd.snd.snd.snd.snd.snd.snd.fst, x.snd.snd.snd.snd.snd.snd.snd.snd.snd.snd.snd.fst,
          x.snd.snd.snd.snd.snd.snd.snd.snd.snd.snd.snd.snd.fst, x.snd.snd.snd.snd.snd.snd.snd.snd.snd.snd.snd.snd.snd.fst,
          x.snd.snd.snd.snd.snd.snd.snd.snd.snd.snd.snd.snd.snd.snd.fst, x.snd.snd.snd.snd.snd.snd.snd.snd.snd.snd.snd.snd.snd.snd.snd.fst,
          x.snd.snd.snd.snd.snd.snd.snd.snd.snd.snd.snd.snd.snd.snd.snd.snd.fst,
          x.snd.snd.snd.snd.snd.snd.snd.snd.snd.snd.snd.snd.snd.snd.snd.snd.snd.fst,
          x.snd.snd.snd.snd.snd.snd.snd.snd.snd.snd.snd.snd.snd.snd.snd.snd.snd.snd.fst,
          x.snd.snd.snd.snd.snd.snd.snd.snd.snd.snd.snd.snd.snd.snd.snd.snd.snd.snd.snd.fst,
          x.snd.snd.snd.snd.snd.snd.snd.snd.snd.snd.snd.snd.snd.snd.snd.snd.snd.snd.snd.snd.fst, ())))
theorem r5_12_run0 (v0 : Nat) (v1 : Int) (v2 : Int) (v3 : Int) (v4 : Int) (v5 : Int) (v6 : Nat) (v7 : Int) (v8 : Int) (v9 : Nat) (v10 : Int) (v11 : Int) (v12 : Nat) (v13 : Int) (v14 : Int) (v15 : Nat) (v16 : List Ac) (v17 : List Int) (v18 : List Int) (v19 : List Int) (v20 : List Int) : roundK tC G5 (look [(67, W5_67)]) c5_12 p5_12 (v0, v1, v2, v3, v4, v5, v6, v7, v8, v9, v10, v11, v12, v13, v14, v15, v16, v17, v18, v19, v20, ()) = r5_12 (v0, v1, v2, v3, v4, v5, v6, v7, v8, v9, v10, v11, v12, v13, v14, v15, v16, v17, v18, v19, v20, ()) := by kernel_rfl
theorem r5_12_run (x : Nat ×
  Int ×
    Int ×
      Int ×
        Int × Int × Nat × Int × Int × Nat × Int × Int × Nat × Int × Int × Nat × List Ac × List Int × List Int × List Int × List Int × Unit) : roundK tC G5 (look [(67, W5_67)]) c5_12 p5_12 x = r5_12 x := r5_12_run0 x.1 x.2.1 x.2.2.1 x.2.2.2.1 x.2.2.2.2.1 x.2.2.2.2.2.1 x.2.2.2.2.2.2.1 x.2.2.2.2.2.2.2.1 x.2.2.2.2.2.2.2.2.1 x.2.2.2.2.2.2.2.2.2.1 x.2.2.2.2.2.2.2.2.2.2.1 x.2.2.2.2.2.2.2.2.2.2.2.1 x.2.2.2.2.2.2.2.2.2.2.2.2.1 x.2.2.2.2.2.2.2.2.2.2.2.2.2.1 x.2.2.2.2.2.2.2.2.2.2.2.2.2.2.1 x.2.2.2.2.2.2.2.2.2.2.2.2.2.2.2.1 x.2.2.2.2.2.2.2.2.2.2.2.2.2.2.2.2.1 x.2.2.2.2.2.2.2.2.2.2.2.2.2.2.2.2.2.1 x.2.2.2.2.2.2.2.2.2.2.2.2.2.2.2.2.2.2.1 x.2.2.2.2.2.2.2.2.2.2.2.2.2.2.2.2.2.2.2.1 x.2.2.2.2.2.2.2.2.2.2.2.2.2.2.2.2.2.2.2.2.1
noncomputable def l5_12 (x : Nat ×
  Int ×
    Int ×
      Int ×
        Int × Int × Nat × Int × Int × Nat × Int × Int × Nat × Int × Int × Nat × List Ac × List Int × List Int × List Int × List Int × Unit) : Option
  (Bool × Unit ⊕
    Nat ×
      Int ×
        Int ×
          Int ×
            Int × Nat × Int × Int × Nat × Int × Int × Nat × Int × Int × Nat × List Ac × List Int × List Int × List Int × List Int × Unit) := iterO r5_12 x
noncomputable def W5_12 : LF tC := loopW tC p5_12 4 l5_12
theorem W5_12_ok : keyed 12 (bodyOf Try.f5) = [.block 4 (.loop c5_12)] ∧ ∀ n, n ≤ 0 → Snd tC n (.block 4 (.loop c5_12)) W5_12.k := ⟨by kernel_rfl, fun n hn => loopW_ok (p := p5_12) (id := 4) Y5 (lam_le (lam_cons W5_67_ok lam_nil) n hn) hn r5_12_run⟩
noncomputable def c5_18 : Code := loopOf (bodyOf Try.f5) 6
def p5_18 : LS := ⟨0, [4, 7, 9, 11, 16], ⟨vBs 4 ++ [.one (.one (.ptr 0 0 0)), vB, vB, .one (.one (.ptr 1 0 0)), vB, .one (.one (.ptr 2 0 0)), vB, .one (.one (.sl 3))] ++ vBs 4 ++ [vI] ++ vBs 175, [.box [.int .i64, .int .i64], .box [.int .i64, .int .i64, .sl 4, .int .i64, .int .i64, .sl 5], .box [.int .i64, .int .i64, .sl 6, .int .i64, .int .i64, .sl 7], .arr 47, .arr 5, .arr 3, .arr 5, .arr 3]⟩, [⟨.ret, [6], ⟨vBs 6 ++ [vO] ++ vBs 185, []⟩, []⟩, ⟨.exit 6, [4, 7, 9], ⟨vBs 4 ++ [.one (.one (.ptr 0 0 0)), vB, vB, .one (.one (.ptr 1 0 0)), vB, .one (.one (.ptr 2 0 0))] ++ vBs 182, [.box [.int .i64, .int .i64], .box [.int .i64, .int .i64, .sl 3, .int .i64, .int .i64, .sl 4], .box [.int .i64, .int .i64, .sl 5, .int .i64, .int .i64, .sl 6], .arr 5, .arr 3, .arr 5, .arr 3]⟩, []⟩], []⟩
noncomputable def r5_18 (x : Nat ×
  Int ×
    Int ×
      Int ×
        Int × Int × Nat × Int × Int × Nat × Int × Int × Nat × Int × Int × Nat × List Ac × List Int × List Int × List Int × List Int × Unit) : Option
  (Nat ×
      Int ×
        Int ×
          Int ×
            Int ×
              Int × Nat × Int × Int × Nat × Int × Int × Nat × Int × Int × Nat × List Ac × List Int × List Int × List Int × List Int × Unit ⊕
    Bool × Unit ⊕
      Int × Int × Int × Int × Nat × Int × Int × Nat × Int × Int × Nat × Int × Int × Nat × List Int × List Int × List Int × List Int × Unit) :=
  bif decide (x.snd.fst < (↑x.fst : Int)) then
  bif decide ((0 : Int) ≤ x.snd.fst) && decide (x.snd.fst < (↑x.fst : Int)) then
    x.snd.snd.snd.snd.snd.snd.snd.snd.snd.snd.snd.snd.snd.snd.snd.snd.fst[(0 : Nat) + x.snd.fst.toNat]?.bind fun y769 =>
      bif
          decide
            ((0 : Nat) + x.snd.snd.snd.snd.snd.snd.fst ≤
              x.snd.snd.snd.snd.snd.snd.snd.snd.snd.snd.snd.snd.snd.snd.snd.snd.snd.fst.length) then
        bif
            decide
              ((0 : Nat) + x.snd.snd.snd.snd.snd.snd.snd.snd.snd.fst ≤
                x.snd.snd.snd.snd.snd.snd.snd.snd.snd.snd.snd.snd.snd.snd.snd.snd.snd.snd.fst.length) then
          (f14
                (x.snd.snd.snd.snd.fst, x.snd.snd.snd.snd.snd.fst,
                  List.take x.snd.snd.snd.snd.snd.snd.fst
                    (List.drop (0 : Nat) x.snd.snd.snd.snd.snd.snd.snd.snd.snd.snd.snd.snd.snd.snd.snd.snd.snd.fst),
                  x.snd.snd.snd.snd.snd.snd.snd.fst, x.snd.snd.snd.snd.snd.snd.snd.snd.fst,
                  List.take x.snd.snd.snd.snd.snd.snd.snd.snd.snd.fst
                    (List.drop (0 : Nat) x.snd.snd.snd.snd.snd.snd.snd.snd.snd.snd.snd.snd.snd.snd.snd.snd.snd.snd.fst),
                  y769.X, y769.Y, ())).bind
            fun y768 =>
            bif decide ((0 : Int) ≤ x.snd.fst) && decide (x.snd.fst < (↑x.fst : Int)) then
              x.snd.snd.snd.snd.snd.snd.snd.snd.snd.snd.snd.snd.snd.snd.snd.snd.fst[(0 : Nat) + x.snd.fst.toNat]?.bind fun y767 =>
                bif
                    decide
                      ((0 : Nat) + x.snd.snd.snd.snd.snd.snd.snd.snd.snd.snd.snd.snd.fst ≤
                        x.snd.snd.snd.snd.snd.snd.snd.snd.snd.snd.snd.snd.snd.snd.snd.snd.snd.snd.snd.fst.length) then
                  bif
                      decide
                        ((0 : Nat) + x.snd.snd.snd.snd.snd.snd.snd.snd.snd.snd.snd.snd.snd.snd.snd.fst ≤
                          x.snd.snd.snd.snd.snd.snd.snd.snd.snd.snd.snd.snd.snd.snd.snd.snd.snd.snd.snd.snd.fst.length) then
                    (f14
                          (x.snd.snd.snd.snd.snd.snd.snd.snd.snd.snd.fst, x.snd.snd.snd.snd.snd.snd.snd.snd.snd.snd.snd.fst,
                            List.take x.snd.snd.snd.snd.snd.snd.snd.snd.snd.snd.snd.snd.fst
                              (List.drop (0 : Nat) x.snd.snd.snd.snd.snd.snd.snd.snd.snd.snd.snd.snd.snd.snd.snd.snd.snd.snd.snd.fst),
                            x.snd.snd.snd.snd.snd.snd.snd.snd.snd.snd.snd.snd.snd.fst,
                            x.snd.snd.snd.snd.snd.snd.snd.snd.snd.snd.snd.snd.snd.snd.fst,
                            List.take x.snd.snd.snd.snd.snd.snd.snd.snd.snd.snd.snd.snd.snd.snd.snd.fst
                              (List.drop (0 : Nat) x.snd.snd.snd.snd.snd.snd.snd.snd.snd.snd.snd.snd.snd.snd.snd.snd.snd.snd.snd.snd.fst),
                            y767.X, y767.Y, ())).bind
                      fun y766 =>
                      bif y768.fst != y766.fst then some (Sum.inr (Sum.inl (false, ())))
                      else
                        some
                          (Sum.inl
                            (x.fst, IntKind.i64.wrap (x.snd.fst + (1 : Int)), x.snd.snd.fst, x.snd.snd.snd.fst, x.snd.snd.snd.snd.fst,
                              x.snd.snd.snd.snd.snd.fst, x.snd.snd.snd.snd.snd.snd.fst, x.snd.snd.snd.snd.snd.snd.snd.fst,
                              x.snd.snd.snd.snd.snd.snd.snd.snd.fst, x.snd.snd.snd.snd.snd.snd.snd.snd.snd.fst,
                              x.snd.snd.snd.snd.snd.snd.snd.snd.snd.snd.fst, x.snd.snd.snd.snd.snd.snd.snd.snd.snd.snd.snd.fst,
                              x.snd.snd.snd.snd.snd.snd.snd.snd.snd.snd.snd.snd.fst,
                              x.snd.snd.snd.snd.snd.snd.snd.snd.snd.snd.snd.snd.snd.fst,
                              x.snd.snd.snd.snd.snd.snd.snd.snd.snd.snd.snd.snd.snd.snd.fst,
                              x.snd.snd.snd.snd.snd.snd.snd.snd.snd.snd.snd.snd.snd.snd.snd.fst,
                              x.snd.snd.snd.snd.snd.snd.snd.snd.snd.snd.snd.snd.snd.snd.snd.snd.fst,
                              x.snd.snd.snd.snd.snd.snd.snd.snd.snd.snd.snd.snd.snd.snd.snd.snd.snd.fst,
                              x.snd.snd.snd.snd.snd.snd.snd.snd.snd.snd.snd.snd.snd.snd.snd.snd.snd.snd.fst,
                              x.snd.snd.snd.snd.snd.snd.snd.snd.snd.snd.snd.snd.snd.snd.snd.snd.snd.snd.snd.fst,
                              x.snd.snd.snd.snd.snd.snd.snd.snd.snd.snd.snd.snd.snd.snd.snd.snd.snd.snd.snd.snd.fst, ()))
                  else none
                else none
            else none
        else none
      else none
  else none
else
  some
    (Sum.inr
      (Sum.inr
        (x.snd.snd.fst, x.snd.snd.snd.fst, x.snd.snd.snd.snd.fst, x.snd.snd.snd.snd.snd.fst, x.snd.snd.snd.snd.snd.snd.fst,
          x.snd.snd.snd.snd.snd.snd.snd.fst, x.snd.snd.snd.snd.snd.snd.snd.snd.fst, x.snd.snd.snd.snd.snd.snd.snd.snd.snd.fst,
          x.snd.snd.snd.snd.snd.snd.snd.snd.snd.snd.fst, x.snd.snd.snd.snd.snd.snd.snd.snd.snd.snd.snd.fst,
          x.snd.snd.snd.snd.snd.snd.snd.snd.snd.snd.snd.snd.fst, x.snd.snd.snd.snd.snd.snd.snd.snd.snd.snd.snd.snd.snd.fst,
          x.snd.snd.snd.snd.snd.snd.snd.snd.snd.snd.snd.snd.snd.snd.fst, x.snd.snd.snd.snd.snd.snd.snd.snd.snd.snd.snd.snd.snd.snd.snd.fst,
          x.snd.snd.snd.snd.snd.snd.snd.snd.snd.snd.snd.snd.snd.snd.snd.snd.snd.fst,
          x.snd.snd.snd.snd.snd.snd.snd.snd.snd.snd.snd.snd.snd.snd.snd.snd.snd.snd.fst,
          x.snd.snd.snd.snd.snd.snd.snd.snd.snd.snd.snd.snd.snd.snd.snd.snd.snd.snd.snd.fst,
          x.snd.snd.snd.snd.snd.snd.snd.snd.snd.snd.snd.snd.snd.snd.snd.snd.snd.snd.snd.snd.fst, ())))
theorem r5_18_run0 (v0 : Nat) (v1 : Int) (v2 : Int) (v3 : Int) (v4 : Int) (v5 : Int) (v6 : Nat) (v7 : Int) (v8 : Int) (v9 : Nat) (v10 : Int) (v11 : Int) (v12 : Nat) (v13 : Int) (v14 : Int) (v15 : Nat) (v16 : List Ac) (v17 : List Int) (v18 : List Int) (v19 : List Int) (v20 : List Int) : roundK tC G5 (look []) c5_18 p5_18 (v0, v1, v2, v3, v4, v5, v6, v7, v8, v9, v10, v11, v12, v13, v14, v15, v16, v17, v18, v19, v20, ()) = r5_18 (v0, v1, v2, v3, v4, v5, v6, v7, v8, v9, v10, v11, v12, v13, v14, v15, v16, v17, v18, v19, v20, ()) := by kernel_rfl
theorem r5_18_run (x : Nat ×
  Int ×
    Int ×
      Int ×
        Int × Int × Nat × Int × Int × Nat × Int × Int × Nat × Int × Int × Nat × List Ac × List Int × List Int × List Int × List Int × Unit) : roundK tC G5 (look []) c5_18 p5_18 x = r5_18 x := r5_18_run0 x.1 x.2.1 x.2.2.1 x.2.2.2.1 x.2.2.2.2.1 x.2.2.2.2.2.1 x.2.2.2.2.2.2.1 x.2.2.2.2.2.2.2.1 x.2.2.2.2.2.2.2.2.1 x.2.2.2.2.2.2.2.2.2.1 x.2.2.2.2.2.2.2.2.2.2.1 x.2.2.2.2.2.2.2.2.2.2.2.1 x.2.2.2.2.2.2.2.2.2.2.2.2.1 x.2.2.2.2.2.2.2.2.2.2.2.2.2.1 x.2.2.2.2.2.2.2.2.2.2.2.2.2.2.1 x.2.2.2.2.2.2.2.2.2.2.2.2.2.2.2.1 x.2.2.2.2.2.2.2.2.2.2.2.2.2.2.2.2.1 x.2.2.2.2.2.2.2.2.2.2.2.2.2.2.2.2.2.1 x.2.2.2.2.2.2.2.2.2.2.2.2.2.2.2.2.2.2.1 x.2.2.2.2.2.2.2.2.2.2.2.2.2.2.2.2.2.2.2.1 x.2.2.2.2.2.2.2.2.2.2.2.2.2.2.2.2.2.2.2.2.1
noncomputable def l5_18 (x : Nat ×
  Int ×
    Int ×
      Int ×
        Int × Int × Nat × Int × Int × Nat × Int × Int × Nat × Int × Int × Nat × List Ac × List Int × List Int × List Int × List Int × Unit) : Option
  (Bool × Unit ⊕
    Int × Int × Int × Int × Nat × Int × Int × Nat × Int × Int × Nat × Int × Int × Nat × List Int × List Int × List Int × List Int × Unit) := iterO r5_18 x
noncomputable def W5_18 : LF tC := loopW tC p5_18 6 l5_18
theorem W5_18_ok : keyed 18 (bodyOf Try.f5) = [.block 6 (.loop c5_18)] ∧ ∀ n, n ≤ 0 → Snd tC n (.block 6 (.loop c5_18)) W5_18.k := ⟨by kernel_rfl, fun n hn => loopW_ok (p := p5_18) (id := 6) Y5 (lam_le lam_nil n hn) hn r5_18_run⟩
def S5 : FS := ⟨[[.v, .v, .s 5], [.v, .v], [.s 47]], [⟨[.one (.agg [.int .i64, .int .i64, .imm 5]), .one (.agg [.int .i64, .int .i64]), .one (.one (.imm 47))], []⟩], [⟨[vO], []⟩], [[.v]], []⟩
noncomputable def f5 (x : Int × Int × List Int × Int × Int × List Ac × Unit) : Option (Bool × Unit) :=
  (f9 ()).bind fun y841 =>
  bif !y841.fst then (f9 ()).bind fun y807 => some (y807.fst, ())
  else
    bif !f20 x.fst x.snd.fst x.snd.snd.fst x.snd.snd.snd.snd.snd.fst then (f9 ()).bind fun y808 => some (y808.fst, ())
    else
      (f10 (x.fst, x.snd.fst, x.snd.snd.fst, x.snd.snd.snd.fst, x.snd.snd.snd.snd.fst, ())).bind fun y840 =>
        Sum.elim
          (fun _x =>
            (f10 (x.fst, x.snd.fst, x.snd.snd.fst, x.snd.snd.snd.fst, x.snd.snd.snd.snd.fst, ())).bind fun y813 =>
              Sum.elim (fun _x => some (true, ())) (fun y812 => Sum.elim (fun _x => some (false, ())) (fun _x => some (false, ())) y812)
                y813)
          (fun y839 =>
            Sum.elim
              (fun _x =>
                (f10 (x.fst, x.snd.fst, x.snd.snd.fst, x.snd.snd.snd.fst, x.snd.snd.snd.snd.fst, ())).bind fun y819 =>
                  Sum.elim (fun _x => some (false, ())) (fun y818 => Sum.elim (fun _x => some (true, ())) (fun _x => some (false, ())) y818)
                    y819)
              (fun y838 =>
                (f10 (x.fst, x.snd.fst, x.snd.snd.fst, x.snd.snd.snd.fst, x.snd.snd.snd.snd.fst, ())).bind fun y837 =>
                  Sum.elim (fun _x => some (false, ()))
                    (fun y836 =>
                      Sum.elim (fun _x => some (false, ()))
                        (fun y835 =>
                          (l5_0
                                (x.snd.snd.snd.snd.snd.fst, (0 : Nat), (0 : Int), x.snd.snd.snd.fst, x.snd.snd.snd.snd.fst, y838.fst,
                                  y838.snd.fst, y838.snd.snd.fst, y838.snd.snd.snd.fst, y838.snd.snd.snd.snd.fst,
                                  y838.snd.snd.snd.snd.snd.fst, y835.fst, y835.snd.fst, y835.snd.snd.fst, y835.snd.snd.snd.fst,
                                  y835.snd.snd.snd.snd.fst, y835.snd.snd.snd.snd.snd.fst, [], y838.snd.snd.snd.snd.snd.snd.fst,
                                  y838.snd.snd.snd.snd.snd.snd.snd.fst, y835.snd.snd.snd.snd.snd.snd.fst,
                                  y835.snd.snd.snd.snd.snd.snd.snd.fst, ())).bind
                            fun y834 =>
                            (l5_12
                                  (y834.fst, (0 : Int), y834.snd.fst, y834.snd.snd.fst, y834.snd.snd.snd.fst, y834.snd.snd.snd.snd.fst,
                                    y834.snd.snd.snd.snd.snd.fst, y834.snd.snd.snd.snd.snd.snd.fst, y834.snd.snd.snd.snd.snd.snd.snd.fst,
                                    y834.snd.snd.snd.snd.snd.snd.snd.snd.fst, y834.snd.snd.snd.snd.snd.snd.snd.snd.snd.fst,
                                    y834.snd.snd.snd.snd.snd.snd.snd.snd.snd.snd.fst, y834.snd.snd.snd.snd.snd.snd.snd.snd.snd.snd.snd.fst,
                                    y834.snd.snd.snd.snd.snd.snd.snd.snd.snd.snd.snd.snd.fst,
                                    y834.snd.snd.snd.snd.snd.snd.snd.snd.snd.snd.snd.snd.snd.fst,
                                    y834.snd.snd.snd.snd.snd.snd.snd.snd.snd.snd.snd.snd.snd.snd.fst,
                                    y834.snd.snd.snd.snd.snd.snd.snd.snd.snd.snd.snd.snd.snd.snd.snd.fst,
                                    y834.snd.snd.snd.snd.snd.snd.snd.snd.snd.snd.snd.snd.snd.snd.snd.snd.fst,
                                    y834.snd.snd.snd.snd.snd.snd.snd.snd.snd.snd.snd.snd.snd.snd.snd.snd.snd.fst,
                                    y834.snd.snd.snd.snd.snd.snd.snd.snd.snd.snd.snd.snd.snd.snd.snd.snd.snd.snd.fst,
                                    y834.snd.snd.snd.snd.snd.snd.snd.snd.snd.snd.snd.snd.snd.snd.snd.snd.snd.snd.snd.fst, ())).bind
                              fun y833 =>
                              Sum.elim (fun y823 => some (y823.fst, ()))
                                (fun y832 =>
                                  (l5_18
                                        (y832.fst, (0 : Int), y832.snd.fst, y832.snd.snd.fst, y832.snd.snd.snd.fst,
                                          y832.snd.snd.snd.snd.fst, y832.snd.snd.snd.snd.snd.fst, y832.snd.snd.snd.snd.snd.snd.fst,
                                          y832.snd.snd.snd.snd.snd.snd.snd.fst, y832.snd.snd.snd.snd.snd.snd.snd.snd.fst,
                                          y832.snd.snd.snd.snd.snd.snd.snd.snd.snd.fst, y832.snd.snd.snd.snd.snd.snd.snd.snd.snd.snd.fst,
                                          y832.snd.snd.snd.snd.snd.snd.snd.snd.snd.snd.snd.fst,
                                          y832.snd.snd.snd.snd.snd.snd.snd.snd.snd.snd.snd.snd.fst,
                                          y832.snd.snd.snd.snd.snd.snd.snd.snd.snd.snd.snd.snd.snd.fst,
                                          y832.snd.snd.snd.snd.snd.snd.snd.snd.snd.snd.snd.snd.snd.snd.fst,
                                          y832.snd.snd.snd.snd.snd.snd.snd.snd.snd.snd.snd.snd.snd.snd.snd.fst,
                                          y832.snd.snd.snd.snd.snd.snd.snd.snd.snd.snd.snd.snd.snd.snd.snd.snd.fst,
                                          y832.snd.snd.snd.snd.snd.snd.snd.snd.snd.snd.snd.snd.snd.snd.snd.snd.snd.fst,
                                          y832.snd.snd.snd.snd.snd.snd.snd.snd.snd.snd.snd.snd.snd.snd.snd.snd.snd.snd.fst,
                                          y832.snd.snd.snd.snd.snd.snd.snd.snd.snd.snd.snd.snd.snd.snd.snd.snd.snd.snd.snd.fst, ())).bind
                                    fun y831 =>
                                    Sum.elim (fun y824 => some (y824.fst, ()))
                                      (fun y830 =>
                                        bif
                                            decide
                                              ((0 : Nat) + y830.snd.snd.snd.snd.fst ≤
                                                y830.snd.snd.snd.snd.snd.snd.snd.snd.snd.snd.snd.snd.snd.snd.fst.length) then
                                          bif
                                              decide
                                                ((0 : Nat) + y830.snd.snd.snd.snd.snd.snd.snd.fst ≤
                                                  y830.snd.snd.snd.snd.snd.snd.snd.snd.snd.snd.snd.snd.snd.snd.snd.fst.length) then
                                            (f15
                                                  (y830.snd.snd.fst, y830.snd.snd.snd.fst,
                                                    List.take y830.snd.snd.snd.snd.fst
                                                      (List.drop (0 : Nat)
                                                        y830.snd.snd.snd.snd.snd.snd.snd.snd.snd.snd.snd.snd.snd.snd.fst),
                                                    y830.snd.snd.snd.snd.snd.fst, y830.snd.snd.snd.snd.snd.snd.fst,
                                                    List.take y830.snd.snd.snd.snd.snd.snd.snd.fst
                                                      (List.drop (0 : Nat)
                                                        y830.snd.snd.snd.snd.snd.snd.snd.snd.snd.snd.snd.snd.snd.snd.snd.fst),
                                                    y830.fst, y830.snd.fst, ())).bind
                                              fun y829 =>
                                              bif
                                                  decide
                                                    ((0 : Nat) + y830.snd.snd.snd.snd.snd.snd.snd.snd.snd.snd.fst ≤
                                                      y830.snd.snd.snd.snd.snd.snd.snd.snd.snd.snd.snd.snd.snd.snd.snd.snd.fst.length) then
                                                bif
                                                    decide
                                                      ((0 : Nat) + y830.snd.snd.snd.snd.snd.snd.snd.snd.snd.snd.snd.snd.snd.fst ≤
                                                        y830.snd.snd.snd.snd.snd.snd.snd.snd.snd.snd.snd.snd.snd.snd.snd.snd.snd.fst.length) then
                                                  (f15
                                                        (y830.snd.snd.snd.snd.snd.snd.snd.snd.fst,
                                                          y830.snd.snd.snd.snd.snd.snd.snd.snd.snd.fst,
                                                          List.take y830.snd.snd.snd.snd.snd.snd.snd.snd.snd.snd.fst
                                                            (List.drop (0 : Nat)
                                                              y830.snd.snd.snd.snd.snd.snd.snd.snd.snd.snd.snd.snd.snd.snd.snd.snd.fst),
                                                          y830.snd.snd.snd.snd.snd.snd.snd.snd.snd.snd.snd.fst,
                                                          y830.snd.snd.snd.snd.snd.snd.snd.snd.snd.snd.snd.snd.fst,
                                                          List.take y830.snd.snd.snd.snd.snd.snd.snd.snd.snd.snd.snd.snd.snd.fst
                                                            (List.drop (0 : Nat)
                                                              y830.snd.snd.snd.snd.snd.snd.snd.snd.snd.snd.snd.snd.snd.snd.snd.snd.snd.fst),
                                                          y830.fst, y830.snd.fst, ())).bind
                                                    fun y828 =>
                                                    bif
                                                        decide
                                                          ((0 : Nat) + y830.snd.snd.snd.snd.fst ≤
                                                            y830.snd.snd.snd.snd.snd.snd.snd.snd.snd.snd.snd.snd.snd.snd.fst.length) then
                                                      bif
                                                          decide
                                                            ((0 : Nat) + y830.snd.snd.snd.snd.snd.snd.snd.fst ≤
                                                              y830.snd.snd.snd.snd.snd.snd.snd.snd.snd.snd.snd.snd.snd.snd.snd.fst.length) then
                                                        (f19
                                                              (y830.snd.snd.fst, y830.snd.snd.snd.fst,
                                                                List.take y830.snd.snd.snd.snd.fst
                                                                  (List.drop (0 : Nat)
                                                                    y830.snd.snd.snd.snd.snd.snd.snd.snd.snd.snd.snd.snd.snd.snd.fst),
                                                                y830.snd.snd.snd.snd.snd.fst, y830.snd.snd.snd.snd.snd.snd.fst,
                                                                List.take y830.snd.snd.snd.snd.snd.snd.snd.fst
                                                                  (List.drop (0 : Nat)
                                                                    y830.snd.snd.snd.snd.snd.snd.snd.snd.snd.snd.snd.snd.snd.snd.snd.fst),
                                                                ())).bind
                                                          fun y827 =>
                                                          bif
                                                              decide
                                                                ((0 : Nat) + y830.snd.snd.snd.snd.snd.snd.snd.snd.snd.snd.fst ≤
                                                                  y830.snd.snd.snd.snd.snd.snd.snd.snd.snd.snd.snd.snd.snd.snd.snd.snd.fst.length) then
                                                            bif
                                                                decide
                                                                  ((0 : Nat) +
                                                                      y830.snd.snd.snd.snd.snd.snd.snd.snd.snd.snd.snd.snd.snd.fst ≤
                                                                    y830.snd.snd.snd.snd.snd.snd.snd.snd.snd.snd.snd.snd.snd.snd.snd.snd.snd.fst.length) then
                                                              (f19
                                                                    (y830.snd.snd.snd.snd.snd.snd.snd.snd.fst,
                                                                      y830.snd.snd.snd.snd.snd.snd.snd.snd.snd.fst,
                                                                      List.take y830.snd.snd.snd.snd.snd.snd.snd.snd.snd.snd.fst
                                                                        (List.drop (0 : Nat)
                                                                          y830.snd.snd.snd.snd.snd.snd.snd.snd.snd.snd.snd.snd.snd.snd.snd.snd.fst),
                                                                      y830.snd.snd.snd.snd.snd.snd.snd.snd.snd.snd.snd.fst,
                                                                      y830.snd.snd.snd.snd.snd.snd.snd.snd.snd.snd.snd.snd.fst,
                                                                      List.take y830.snd.snd.snd.snd.snd.snd.snd.snd.snd.snd.snd.snd.snd.fst
                                                                        (List.drop (0 : Nat)
                                                                          y830.snd.snd.snd.snd.snd.snd.snd.snd.snd.snd.snd.snd.snd.snd.snd.snd.snd.fst),
                                                                      ())).bind
                                                                fun y826 =>
                                                                bif decide ((0 : Nat) + y827.snd.snd.fst ≤ y827.snd.snd.snd.fst.length) then
                                                                  bif
                                                                      decide
                                                                        ((0 : Nat) + y826.snd.snd.fst ≤ y826.snd.snd.snd.fst.length) then
                                                                    bif
                                                                        f18 y827.fst y827.snd.fst
                                                                          (List.take y827.snd.snd.fst
                                                                            (List.drop (0 : Nat) y827.snd.snd.snd.fst))
                                                                          y826.fst y826.snd.fst
                                                                          (List.take y826.snd.snd.fst
                                                                            (List.drop (0 : Nat) y826.snd.snd.snd.fst)) then
                                                                      bif decide ((0 : Nat) + y829.fst ≤ y829.snd.snd.snd.fst.length) then
                                                                        bif decide ((0 : Nat) + y828.fst ≤ y828.snd.snd.snd.fst.length) then
                                                                          (f17
                                                                                (List.take y829.fst
                                                                                    (List.drop (0 : Nat) y829.snd.snd.snd.fst),
                                                                                  List.take y828.fst
                                                                                    (List.drop (0 : Nat) y828.snd.snd.snd.fst),
                                                                                  ())).bind
                                                                            fun y825 =>
                                                                            bif y825.fst then
                                                                              bif y829.snd.fst == y828.snd.fst then
                                                                                some (y829.snd.snd.fst == y828.snd.snd.fst, ())
                                                                              else some (false, ())
                                                                            else some (false, ())
                                                                        else none
                                                                      else none
                                                                    else some (false, ())
                                                                  else none
                                                                else none
                                                            else none
                                                          else none
                                                      else none
                                                    else none
                                                else none
                                              else none
                                          else none
                                        else none)
                                      y831)
                                y833)
                        y836)
                    y837)
              y839)
          y840
noncomputable def F5 : CF tC := mkF tC S5 f5
theorem f5_run : ∀ a, fnS tC G5 (look [(0, W5_0), (12, W5_12), (18, W5_18)]) Try.f5 S5 a = f5 a := fun a => by kernel_rfl
theorem F5_ok : CFOK tC 5 F5 := mkF_ok Y5 (fn := Try.f5) (body := bodyOf Try.f5) (by kernel_rfl) (by kernel_rfl) (by kernel_rfl) (m := 0) rfl (lam_le (lam_cons W5_0_ok (lam_cons W5_12_ok (lam_cons W5_18_ok lam_nil)))) f5_run
end Go.AE
