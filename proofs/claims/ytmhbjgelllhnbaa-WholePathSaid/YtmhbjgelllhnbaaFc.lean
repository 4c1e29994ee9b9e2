/-
  The plain functions that the seat's Go functions compute, each with the proof that the function keeps it. Printed by the generator (Gen2) and checked by the kernel.
-/
import Derived.Test.YtmhbjgelllhnbaaFb
namespace Go.AE
open Go.Proofs Go.RowKit
set_option maxRecDepth 100000

/-! WholePath -/
noncomputable def G3 : FuncId → Option (CF tC) := look [(4, F4), (5, F5), (6, F6), (7, F7), (8, F8), (9, F9), (10, F10), (11, F11), (12, F12), (13, F13), (14, F14), (15, F15), (16, F16), (17, F17), (19, F19), (18, F18), (20, F20)]
theorem Y3 : SysN tC G3 := (sys_cons F4_ok (mkF_nat _ _) (sys_cons F5_ok (mkF_nat _ _) (sys_cons F6_ok (mkF_nat _ _) (sys_cons F7_ok (mkF_nat _ _) (sys_cons F8_ok (mkF_nat _ _) (sys_cons F9_ok (mkF_nat _ _) (sys_cons F10_ok (mkF_nat _ _) (sys_cons F11_ok (mkF_nat _ _) (sys_cons F12_ok (mkF_nat _ _) (sys_cons F13_ok (mkF_nat _ _) (sys_cons F14_ok (mkF_nat _ _) (sys_cons F15_ok (mkF_nat _ _) (sys_cons F16_ok (mkF_nat _ _) (sys_cons F17_ok (mkF_nat _ _) (sys_cons F19_ok (mkF_nat _ _) (sys_cons F18_ok (mkF_nat _ _) (sys_cons F20_ok (mkF_nat _ _) (sys_nil tC_ok tC_eq))))))))))))))))))
noncomputable def c3_0 : Code := loopOf (subCode (subCode (bodyOf Try.f3) 19) 61) 0
def p3_0 : LS := ⟨0, [2, 3, 7, 8, 9, 11, 13, 14, 15, 18], ⟨[vB, vB, vI, .one (.one (.ptr 0 0 0)), vB, vB, vB, .one (.one (.ptr 1 0 0)), .one (.one (.ptr 2 0 0)), .one (.one (.ptr 3 0 0)), vB, .one (.one (.sl 4)), vB, .one (.one (.sl 5)), vI, vI, vB, vB, vI] ++ vBs 261, [.box [.int .i64, .int .i64, .imm 5], .box [.int .i64, .int .i64], .box [.int .i64, .int .i64], .box [.int .i64, .int .i64, .sl 6], .arr 3, .arr 26, .arr 5]⟩, [⟨.ret, [6], ⟨vBs 6 ++ [vO] ++ vBs 273, []⟩, []⟩, ⟨.exit 0, [3, 7, 8, 9, 13, 14, 15], ⟨[vB, vB, vB, .one (.one (.ptr 0 0 0)), vB, vB, vB, .one (.one (.ptr 1 0 0)), .one (.one (.ptr 2 0 0)), .one (.one (.ptr 3 0 0)), vB, vB, vB, .one (.one (.sl 4)), vI, vI] ++ vBs 264, [.box [.int .i64, .int .i64, .imm 5], .box [.int .i64, .int .i64], .box [.int .i64, .int .i64], .box [.int .i64, .int .i64, .sl 5], .arr 26, .arr 5]⟩, []⟩], []⟩
noncomputable def r3_0 (x : Int × Nat × Nat × Int × Int × Int × Int × Int × List Int × Int × Int × Int × Int × Int × Int × Nat × List Int × List Pt × List Int × Unit) : Option
  (Int ×
      Nat × Nat × Int × Int × Int × Int × Int × List Int × Int × Int × Int × Int × Int × Int × Nat × List Int × List Pt × List Int × Unit ⊕
    Bool × Unit ⊕ Nat × Int × Int × Int × Int × List Int × Int × Int × Int × Int × Int × Int × Nat × List Pt × List Int × Unit) :=
  bif decide (x.snd.snd.snd.snd.snd.fst < (↑x.snd.snd.fst : Int)) then
  bif decide ((0 : Int) ≤ x.snd.snd.snd.snd.snd.fst) && decide (x.snd.snd.snd.snd.snd.fst < (↑x.snd.snd.fst : Int)) then
    x.snd.snd.snd.snd.snd.snd.snd.snd.snd.snd.snd.snd.snd.snd.snd.snd.snd.fst[(0 : Nat) + x.snd.snd.snd.snd.snd.fst.toNat]?.bind fun y107 =>
      bif !f12 x.snd.snd.snd.snd.snd.snd.fst x.snd.snd.snd.snd.snd.snd.snd.fst x.snd.snd.snd.snd.snd.snd.snd.snd.fst y107.X y107.Y then
        some (Sum.inr (Sum.inl (false, ())))
      else
        bif decide ((0 : Int) ≤ x.snd.snd.snd.snd.snd.fst) && decide (x.snd.snd.snd.snd.snd.fst < (↑x.snd.snd.fst : Int)) then
          x.snd.snd.snd.snd.snd.snd.snd.snd.snd.snd.snd.snd.snd.snd.snd.snd.snd.fst[(0 : Nat) + x.snd.snd.snd.snd.snd.fst.toNat]?.bind
            fun y106 =>
            bif decide ((0 : Int) ≤ x.snd.snd.snd.snd.snd.fst) && decide (x.snd.snd.snd.snd.snd.fst < (↑x.snd.snd.fst : Int)) then
              x.snd.snd.snd.snd.snd.snd.snd.snd.snd.snd.snd.snd.snd.snd.snd.snd.snd.fst[(0 : Nat) + x.snd.snd.snd.snd.snd.fst.toNat]?.bind
                fun y105 =>
                bif
                    decide ((0 : Int) ≤ IntKind.i64.wrap (IntKind.i64.wrap (y106.Y * x.snd.snd.snd.snd.snd.snd.fst) + y105.X)) &&
                      decide
                        (IntKind.i64.wrap (IntKind.i64.wrap (y106.Y * x.snd.snd.snd.snd.snd.snd.fst) + y105.X) < (↑x.snd.fst : Int)) then
                  x.snd.snd.snd.snd.snd.snd.snd.snd.snd.snd.snd.snd.snd.snd.snd.snd.fst[(0 : Nat) +
                          (IntKind.i64.wrap (IntKind.i64.wrap (y106.Y * x.snd.snd.snd.snd.snd.snd.fst) + y105.X)).toNat]?.bind
                    fun y104 =>
                    bif decide (y104 ≤ x.fst) then some (Sum.inr (Sum.inl (false, ())))
                    else
                      some
                        (Sum.inl
                          (x.fst, x.snd.fst, x.snd.snd.fst, x.snd.snd.snd.fst, x.snd.snd.snd.snd.fst,
                            IntKind.i64.wrap (x.snd.snd.snd.snd.snd.fst + (1 : Int)), x.snd.snd.snd.snd.snd.snd.fst,
                            x.snd.snd.snd.snd.snd.snd.snd.fst, x.snd.snd.snd.snd.snd.snd.snd.snd.fst,
                            x.snd.snd.snd.snd.snd.snd.snd.snd.snd.fst, x.snd.snd.snd.snd.snd.snd.snd.snd.snd.snd.fst,
                            x.snd.snd.snd.snd.snd.snd.snd.snd.snd.snd.snd.fst, x.snd.snd.snd.snd.snd.snd.snd.snd.snd.snd.snd.snd.fst,
                            x.snd.snd.snd.snd.snd.snd.snd.snd.snd.snd.snd.snd.snd.fst,
                            x.snd.snd.snd.snd.snd.snd.snd.snd.snd.snd.snd.snd.snd.snd.fst,
                            x.snd.snd.snd.snd.snd.snd.snd.snd.snd.snd.snd.snd.snd.snd.snd.fst,
                            x.snd.snd.snd.snd.snd.snd.snd.snd.snd.snd.snd.snd.snd.snd.snd.snd.fst,
                            x.snd.snd.snd.snd.snd.snd.snd.snd.snd.snd.snd.snd.snd.snd.snd.snd.snd.fst,
                            x.snd.snd.snd.snd.snd.snd.snd.snd.snd.snd.snd.snd.snd.snd.snd.snd.snd.snd.fst, ()))
                else none
            else none
        else none
  else none
else
  some
    (Sum.inr
      (Sum.inr
        (x.snd.snd.fst, x.snd.snd.snd.fst, x.snd.snd.snd.snd.fst, x.snd.snd.snd.snd.snd.snd.fst, x.snd.snd.snd.snd.snd.snd.snd.fst,
          x.snd.snd.snd.snd.snd.snd.snd.snd.fst, x.snd.snd.snd.snd.snd.snd.snd.snd.snd.fst, x.snd.snd.snd.snd.snd.snd.snd.snd.snd.snd.fst,
          x.snd.snd.snd.snd.snd.snd.snd.snd.snd.snd.snd.fst, x.snd.snd.snd.snd.snd.snd.snd.snd.snd.snd.snd.snd.fst,
          x.snd.snd.snd.snd.snd.snd.snd.snd.snd.snd.snd.snd.snd.fst, x.snd.snd.snd.snd.snd.snd.snd.snd.snd.snd.snd.snd.snd.snd.fst,
          x.snd.snd.snd.snd.snd.snd.snd.snd.snd.snd.snd.snd.snd.snd.snd.fst,
          x.snd.snd.snd.snd.snd.snd.snd.snd.snd.snd.snd.snd.snd.snd.snd.snd.snd.fst,
          x.snd.snd.snd.snd.snd.snd.snd.snd.snd.snd.snd.snd.snd.snd.snd.snd.snd.snd.fst, ())))
theorem r3_0_run0 (v0 : Int) (v1 : Nat) (v2 : Nat) (v3 : Int) (v4 : Int) (v5 : Int) (v6 : Int) (v7 : Int) (v8 : List Int) (v9 : Int) (v10 : Int) (v11 : Int) (v12 : Int) (v13 : Int) (v14 : Int) (v15 : Nat) (v16 : List Int) (v17 : List Pt) (v18 : List Int) : roundK tC G3 (look []) c3_0 p3_0 (v0, v1, v2, v3, v4, v5, v6, v7, v8, v9, v10, v11, v12, v13, v14, v15, v16, v17, v18, ()) = r3_0 (v0, v1, v2, v3, v4, v5, v6, v7, v8, v9, v10, v11, v12, v13, v14, v15, v16, v17, v18, ()) := by kernel_rfl
theorem r3_0_run (x : Int × Nat × Nat × Int × Int × Int × Int × Int × List Int × Int × Int × Int × Int × Int × Int × Nat × List Int × List Pt × List Int × Unit) : roundK tC G3 (look []) c3_0 p3_0 x = r3_0 x := r3_0_run0 x.1 x.2.1 x.2.2.1 x.2.2.2.1 x.2.2.2.2.1 x.2.2.2.2.2.1 x.2.2.2.2.2.2.1 x.2.2.2.2.2.2.2.1 x.2.2.2.2.2.2.2.2.1 x.2.2.2.2.2.2.2.2.2.1 x.2.2.2.2.2.2.2.2.2.2.1 x.2.2.2.2.2.2.2.2.2.2.2.1 x.2.2.2.2.2.2.2.2.2.2.2.2.1 x.2.2.2.2.2.2.2.2.2.2.2.2.2.1 x.2.2.2.2.2.2.2.2.2.2.2.2.2.2.1 x.2.2.2.2.2.2.2.2.2.2.2.2.2.2.2.1 x.2.2.2.2.2.2.2.2.2.2.2.2.2.2.2.2.1 x.2.2.2.2.2.2.2.2.2.2.2.2.2.2.2.2.2.1 x.2.2.2.2.2.2.2.2.2.2.2.2.2.2.2.2.2.2.1
noncomputable def l3_0 (x : Int × Nat × Nat × Int × Int × Int × Int × Int × List Int × Int × Int × Int × Int × Int × Int × Nat × List Int × List Pt × List Int × Unit) : Option (Bool × Unit ⊕ Nat × Int × Int × Int × Int × List Int × Int × Int × Int × Int × Int × Int × Nat × List Pt × List Int × Unit) := iterO r3_0 x
noncomputable def W3_0 : LF tC := loopW tC p3_0 0 l3_0
theorem W3_0_ok : keyed 0 (subCode (subCode (bodyOf Try.f3) 19) 61) = [.block 0 (.loop c3_0)] ∧ ∀ n, n ≤ 0 → Snd tC n (.block 0 (.loop c3_0)) W3_0.k := ⟨by kernel_rfl, fun n hn => loopW_ok (p := p3_0) (id := 0) Y3 (lam_le lam_nil n hn) hn r3_0_run⟩
noncomputable def c3_103 : Code := subCode (loopOf (subCode (subCode (subCode (bodyOf Try.f3) 19) 61) 88) 2) 103
def p3_103 : PS := ⟨0, [3, 7, 9, 13, 14, 15, 21, 23], ⟨[vB, vB, vB, .one (.one (.ptr 0 0 0)), vB, vB, vB, .one (.one (.ptr 1 0 0)), vB, .one (.one (.ptr 2 0 0)), vB, vB, vB, .one (.one (.sl 3)), vI, vI] ++ vBs 5 ++ [.one (.one (.ptr 4 0 0)), vB, vI] ++ vBs 256, [.box [.int .i64, .int .i64, .imm 5], .box [.int .i64, .int .i64], .box [.int .i64, .int .i64, .sl 5], .arr 26, .box [.int .i64, .int .i64, .sl 6, .int .i64, .int .i64, .sl 7], .arr 5, .arr 5, .arr 3]⟩, [⟨.normal, [3, 7, 9, 13, 14, 15, 21, 23], ⟨[vB, vB, vB, .one (.one (.ptr 0 0 0)), vB, vB, vB, .one (.one (.ptr 1 0 0)), vB, .one (.one (.ptr 2 0 0)), vB, vB, vB, .one (.one (.sl 3)), vI, vI] ++ vBs 5 ++ [.one (.one (.ptr 4 0 0)), vB, vI] ++ vBs 256, [.box [.int .i64, .int .i64, .imm 5], .box [.int .i64, .int .i64], .box [.int .i64, .int .i64, .sl 5], .arr 26, .box [.int .i64, .int .i64, .sl 6, .int .i64, .int .i64, .sl 7], .arr 5, .arr 5, .arr 3]⟩, []⟩], []⟩
noncomputable def j3_103 (x : Nat ×
  Int ×
    Int ×
      Int ×
        Int ×
          Int × List Int × Int × Int × Int × Int × Nat × List Pt × Int × Int × Nat × Int × Int × Nat × List Int × List Int × List Int × Unit) : Option
  (Nat ×
    Int ×
      Int ×
        Int ×
          Int ×
            Int ×
              List Int × Int × Int × Int × Int × Nat × List Pt × Int × Int × Nat × Int × Int × Nat × List Int × List Int × List Int × Unit) :=
  some
  (x.fst, x.snd.fst, x.snd.snd.fst, IntKind.i64.wrap (x.snd.snd.snd.fst + (1 : Int)), x.snd.snd.snd.snd.fst, x.snd.snd.snd.snd.snd.fst,
    x.snd.snd.snd.snd.snd.snd.fst, x.snd.snd.snd.snd.snd.snd.snd.fst, x.snd.snd.snd.snd.snd.snd.snd.snd.fst,
    x.snd.snd.snd.snd.snd.snd.snd.snd.snd.fst, x.snd.snd.snd.snd.snd.snd.snd.snd.snd.snd.fst,
    x.snd.snd.snd.snd.snd.snd.snd.snd.snd.snd.snd.fst, x.snd.snd.snd.snd.snd.snd.snd.snd.snd.snd.snd.snd.fst,
    x.snd.snd.snd.snd.snd.snd.snd.snd.snd.snd.snd.snd.snd.fst, x.snd.snd.snd.snd.snd.snd.snd.snd.snd.snd.snd.snd.snd.snd.fst,
    x.snd.snd.snd.snd.snd.snd.snd.snd.snd.snd.snd.snd.snd.snd.snd.fst,
    x.snd.snd.snd.snd.snd.snd.snd.snd.snd.snd.snd.snd.snd.snd.snd.snd.fst,
    x.snd.snd.snd.snd.snd.snd.snd.snd.snd.snd.snd.snd.snd.snd.snd.snd.snd.fst,
    x.snd.snd.snd.snd.snd.snd.snd.snd.snd.snd.snd.snd.snd.snd.snd.snd.snd.snd.fst,
    x.snd.snd.snd.snd.snd.snd.snd.snd.snd.snd.snd.snd.snd.snd.snd.snd.snd.snd.snd.fst,
    x.snd.snd.snd.snd.snd.snd.snd.snd.snd.snd.snd.snd.snd.snd.snd.snd.snd.snd.snd.snd.fst,
    x.snd.snd.snd.snd.snd.snd.snd.snd.snd.snd.snd.snd.snd.snd.snd.snd.snd.snd.snd.snd.snd.fst, ())
theorem j3_103_run0 (v0 : Nat) (v1 : Int) (v2 : Int) (v3 : Int) (v4 : Int) (v5 : Int) (v6 : List Int) (v7 : Int) (v8 : Int) (v9 : Int) (v10 : Int) (v11 : Nat) (v12 : List Pt) (v13 : Int) (v14 : Int) (v15 : Nat) (v16 : Int) (v17 : Int) (v18 : Nat) (v19 : List Int) (v20 : List Int) (v21 : List Int) : pieceK tC G3 (look []) c3_103 p3_103 (v0, v1, v2, v3, v4, v5, v6, v7, v8, v9, v10, v11, v12, v13, v14, v15, v16, v17, v18, v19, v20, v21, ()) = j3_103 (v0, v1, v2, v3, v4, v5, v6, v7, v8, v9, v10, v11, v12, v13, v14, v15, v16, v17, v18, v19, v20, v21, ()) := by kernel_rfl
theorem j3_103_run (x : Nat ×
  Int ×
    Int ×
      Int ×
        Int ×
          Int × List Int × Int × Int × Int × Int × Nat × List Pt × Int × Int × Nat × Int × Int × Nat × List Int × List Int × List Int × Unit) : pieceK tC G3 (look []) c3_103 p3_103 x = j3_103 x := j3_103_run0 x.1 x.2.1 x.2.2.1 x.2.2.2.1 x.2.2.2.2.1 x.2.2.2.2.2.1 x.2.2.2.2.2.2.1 x.2.2.2.2.2.2.2.1 x.2.2.2.2.2.2.2.2.1 x.2.2.2.2.2.2.2.2.2.1 x.2.2.2.2.2.2.2.2.2.2.1 x.2.2.2.2.2.2.2.2.2.2.2.1 x.2.2.2.2.2.2.2.2.2.2.2.2.1 x.2.2.2.2.2.2.2.2.2.2.2.2.2.1 x.2.2.2.2.2.2.2.2.2.2.2.2.2.2.1 x.2.2.2.2.2.2.2.2.2.2.2.2.2.2.2.1 x.2.2.2.2.2.2.2.2.2.2.2.2.2.2.2.2.1 x.2.2.2.2.2.2.2.2.2.2.2.2.2.2.2.2.2.1 x.2.2.2.2.2.2.2.2.2.2.2.2.2.2.2.2.2.2.1 x.2.2.2.2.2.2.2.2.2.2.2.2.2.2.2.2.2.2.2.1 x.2.2.2.2.2.2.2.2.2.2.2.2.2.2.2.2.2.2.2.2.1 x.2.2.2.2.2.2.2.2.2.2.2.2.2.2.2.2.2.2.2.2.2.1
noncomputable def W3_103 : LF tC := cutLF tC p3_103 j3_103
theorem W3_103_ok : keyed 103 (loopOf (subCode (subCode (subCode (bodyOf Try.f3) 19) 61) 88) 2) = [c3_103] ∧ ∀ n, n ≤ 0 → Snd tC n c3_103 W3_103.k := ⟨by kernel_rfl, fun n hn => cut_ok (p := p3_103) Y3 (lam_le lam_nil n hn) hn j3_103_run⟩
noncomputable def c3_6 : Code := loopOf (subCode (subCode (subCode (bodyOf Try.f3) 19) 61) 88) 2
def p3_6 : LS := ⟨0, [3, 7, 9, 13, 14, 15, 21, 23], ⟨[vB, vB, vB, .one (.one (.ptr 0 0 0)), vB, vB, vB, .one (.one (.ptr 1 0 0)), vB, .one (.one (.ptr 2 0 0)), vB, vB, vB, .one (.one (.sl 3)), vI, vI] ++ vBs 5 ++ [.one (.one (.ptr 4 0 0)), vB, vI] ++ vBs 256, [.box [.int .i64, .int .i64, .imm 5], .box [.int .i64, .int .i64], .box [.int .i64, .int .i64, .sl 5], .arr 26, .box [.int .i64, .int .i64, .sl 6, .int .i64, .int .i64, .sl 7], .arr 5, .arr 5, .arr 3]⟩, [⟨.ret, [6], ⟨vBs 6 ++ [vO] ++ vBs 273, []⟩, []⟩, ⟨.exit 2, [7, 9, 13, 14, 15, 21], ⟨vBs 7 ++ [.one (.one (.ptr 0 0 0)), vB, .one (.one (.ptr 1 0 0)), vB, vB, vB, .one (.one (.sl 2)), vI, vI] ++ vBs 5 ++ [.one (.one (.ptr 3 0 0))] ++ vBs 258, [.box [.int .i64, .int .i64], .box [.int .i64, .int .i64, .sl 4], .arr 26, .box [.int .i64, .int .i64, .sl 5, .int .i64, .int .i64, .sl 6], .arr 5, .arr 5, .arr 3]⟩, []⟩], []⟩
noncomputable def r3_6 (x : Nat ×
  Int ×
    Int ×
      Int ×
        Int ×
          Int × List Int × Int × Int × Int × Int × Nat × List Pt × Int × Int × Nat × Int × Int × Nat × List Int × List Int × List Int × Unit) : Option
  (Nat ×
      Int ×
        Int ×
          Int ×
            Int ×
              Int ×
                List Int ×
                  Int × Int × Int × Int × Nat × List Pt × Int × Int × Nat × Int × Int × Nat × List Int × List Int × List Int × Unit ⊕
    Bool × Unit ⊕
      Nat × Int × Int × Int × Int × Int × Int × Nat × List Pt × Int × Int × Nat × Int × Int × Nat × List Int × List Int × List Int × Unit) :=
  bif decide (x.snd.snd.snd.fst < (↑x.snd.snd.snd.snd.snd.snd.snd.snd.snd.snd.snd.fst : Int)) then
  bif x.snd.snd.snd.snd.fst == (0 : Int) then none
  else
    bif x.snd.snd.snd.snd.fst == (0 : Int) then none
    else
      bif
          decide ((0 : Int) ≤ x.snd.snd.snd.fst) &&
            decide (x.snd.snd.snd.fst < (↑x.snd.snd.snd.snd.snd.snd.snd.snd.snd.snd.snd.fst : Int)) then
        x.snd.snd.snd.snd.snd.snd.snd.snd.snd.snd.snd.snd.snd.snd.snd.snd.snd.snd.snd.fst[(0 : Nat) + x.snd.snd.snd.fst.toNat]?.bind
          fun y305 =>
          bif
              decide
                ((0 : Nat) + x.snd.snd.snd.snd.snd.snd.snd.snd.snd.snd.snd.snd.snd.snd.snd.fst ≤
                  x.snd.snd.snd.snd.snd.snd.snd.snd.snd.snd.snd.snd.snd.snd.snd.snd.snd.snd.snd.snd.fst.length) then
            bif
                decide
                  ((0 : Nat) + x.snd.snd.snd.snd.snd.snd.snd.snd.snd.snd.snd.snd.snd.snd.snd.snd.snd.snd.fst ≤
                    x.snd.snd.snd.snd.snd.snd.snd.snd.snd.snd.snd.snd.snd.snd.snd.snd.snd.snd.snd.snd.snd.fst.length) then
              (f16
                    (x.snd.snd.snd.fst.tmod x.snd.snd.snd.snd.fst, IntKind.i64.wrap (x.snd.snd.snd.fst.tdiv x.snd.snd.snd.snd.fst),
                      y305 == (1 : Int),
                      List.take x.snd.snd.snd.snd.snd.snd.snd.snd.snd.snd.snd.snd.snd.snd.snd.fst
                        (List.drop (0 : Nat) x.snd.snd.snd.snd.snd.snd.snd.snd.snd.snd.snd.snd.snd.snd.snd.snd.snd.snd.snd.snd.fst),
                      List.take x.snd.snd.snd.snd.snd.snd.snd.snd.snd.snd.snd.snd.snd.snd.snd.snd.snd.snd.fst
                        (List.drop (0 : Nat) x.snd.snd.snd.snd.snd.snd.snd.snd.snd.snd.snd.snd.snd.snd.snd.snd.snd.snd.snd.snd.snd.fst),
                      x.snd.snd.snd.snd.snd.snd.snd.snd.snd.snd.snd.snd.snd.fst,
                      x.snd.snd.snd.snd.snd.snd.snd.snd.snd.snd.snd.snd.snd.snd.fst,
                      x.snd.snd.snd.snd.snd.snd.snd.snd.snd.snd.snd.snd.snd.snd.snd.fst,
                      x.snd.snd.snd.snd.snd.snd.snd.snd.snd.snd.snd.snd.snd.snd.snd.snd.fst,
                      x.snd.snd.snd.snd.snd.snd.snd.snd.snd.snd.snd.snd.snd.snd.snd.snd.snd.fst,
                      x.snd.snd.snd.snd.snd.snd.snd.snd.snd.snd.snd.snd.snd.snd.snd.snd.snd.snd.fst, ())).bind
                fun y304 =>
                Sum.elim
                  (fun y301 =>
                    bif y301.fst != (0 : Int) then some (Sum.inr (Sum.inl (false, ())))
                    else
                      (j3_103
                            (x.fst, x.snd.fst, x.snd.snd.fst, x.snd.snd.snd.fst, x.snd.snd.snd.snd.fst, x.snd.snd.snd.snd.snd.fst,
                              x.snd.snd.snd.snd.snd.snd.fst, x.snd.snd.snd.snd.snd.snd.snd.fst, x.snd.snd.snd.snd.snd.snd.snd.snd.fst,
                              x.snd.snd.snd.snd.snd.snd.snd.snd.snd.fst, x.snd.snd.snd.snd.snd.snd.snd.snd.snd.snd.fst,
                              x.snd.snd.snd.snd.snd.snd.snd.snd.snd.snd.snd.fst, x.snd.snd.snd.snd.snd.snd.snd.snd.snd.snd.snd.snd.fst,
                              y301.snd.snd.snd.fst, y301.snd.snd.snd.snd.fst, y301.snd.snd.snd.snd.snd.fst,
                              y301.snd.snd.snd.snd.snd.snd.fst, y301.snd.snd.snd.snd.snd.snd.snd.fst,
                              y301.snd.snd.snd.snd.snd.snd.snd.snd.fst,
                              x.snd.snd.snd.snd.snd.snd.snd.snd.snd.snd.snd.snd.snd.snd.snd.snd.snd.snd.snd.fst, y301.snd.fst,
                              y301.snd.snd.fst, ())).bind
                        fun y300 =>
                        some
                          (Sum.inl
                            (y300.fst, y300.snd.fst, y300.snd.snd.fst, y300.snd.snd.snd.fst, y300.snd.snd.snd.snd.fst,
                              y300.snd.snd.snd.snd.snd.fst, y300.snd.snd.snd.snd.snd.snd.fst, y300.snd.snd.snd.snd.snd.snd.snd.fst,
                              y300.snd.snd.snd.snd.snd.snd.snd.snd.fst, y300.snd.snd.snd.snd.snd.snd.snd.snd.snd.fst,
                              y300.snd.snd.snd.snd.snd.snd.snd.snd.snd.snd.fst, y300.snd.snd.snd.snd.snd.snd.snd.snd.snd.snd.snd.fst,
                              y300.snd.snd.snd.snd.snd.snd.snd.snd.snd.snd.snd.snd.fst,
                              y300.snd.snd.snd.snd.snd.snd.snd.snd.snd.snd.snd.snd.snd.fst,
                              y300.snd.snd.snd.snd.snd.snd.snd.snd.snd.snd.snd.snd.snd.snd.fst,
                              y300.snd.snd.snd.snd.snd.snd.snd.snd.snd.snd.snd.snd.snd.snd.snd.fst,
                              y300.snd.snd.snd.snd.snd.snd.snd.snd.snd.snd.snd.snd.snd.snd.snd.snd.fst,
                              y300.snd.snd.snd.snd.snd.snd.snd.snd.snd.snd.snd.snd.snd.snd.snd.snd.snd.fst,
                              y300.snd.snd.snd.snd.snd.snd.snd.snd.snd.snd.snd.snd.snd.snd.snd.snd.snd.snd.fst,
                              y300.snd.snd.snd.snd.snd.snd.snd.snd.snd.snd.snd.snd.snd.snd.snd.snd.snd.snd.snd.fst,
                              y300.snd.snd.snd.snd.snd.snd.snd.snd.snd.snd.snd.snd.snd.snd.snd.snd.snd.snd.snd.snd.fst,
                              y300.snd.snd.snd.snd.snd.snd.snd.snd.snd.snd.snd.snd.snd.snd.snd.snd.snd.snd.snd.snd.snd.fst, ())))
                  (fun y303 =>
                    bif y303.fst != (0 : Int) then some (Sum.inr (Sum.inl (false, ())))
                    else
                      (j3_103
                            (x.fst, x.snd.fst, x.snd.snd.fst, x.snd.snd.snd.fst, x.snd.snd.snd.snd.fst, x.snd.snd.snd.snd.snd.fst,
                              x.snd.snd.snd.snd.snd.snd.fst, x.snd.snd.snd.snd.snd.snd.snd.fst, x.snd.snd.snd.snd.snd.snd.snd.snd.fst,
                              x.snd.snd.snd.snd.snd.snd.snd.snd.snd.fst, x.snd.snd.snd.snd.snd.snd.snd.snd.snd.snd.fst,
                              x.snd.snd.snd.snd.snd.snd.snd.snd.snd.snd.snd.fst, x.snd.snd.snd.snd.snd.snd.snd.snd.snd.snd.snd.snd.fst,
                              y303.snd.fst, y303.snd.snd.fst, y303.snd.snd.snd.fst, y303.snd.snd.snd.snd.fst, y303.snd.snd.snd.snd.snd.fst,
                              y303.snd.snd.snd.snd.snd.snd.fst,
                              x.snd.snd.snd.snd.snd.snd.snd.snd.snd.snd.snd.snd.snd.snd.snd.snd.snd.snd.snd.fst,
                              y303.snd.snd.snd.snd.snd.snd.snd.fst, y303.snd.snd.snd.snd.snd.snd.snd.snd.fst, ())).bind
                        fun y302 =>
                        some
                          (Sum.inl
                            (y302.fst, y302.snd.fst, y302.snd.snd.fst, y302.snd.snd.snd.fst, y302.snd.snd.snd.snd.fst,
                              y302.snd.snd.snd.snd.snd.fst, y302.snd.snd.snd.snd.snd.snd.fst, y302.snd.snd.snd.snd.snd.snd.snd.fst,
                              y302.snd.snd.snd.snd.snd.snd.snd.snd.fst, y302.snd.snd.snd.snd.snd.snd.snd.snd.snd.fst,
                              y302.snd.snd.snd.snd.snd.snd.snd.snd.snd.snd.fst, y302.snd.snd.snd.snd.snd.snd.snd.snd.snd.snd.snd.fst,
                              y302.snd.snd.snd.snd.snd.snd.snd.snd.snd.snd.snd.snd.fst,
                              y302.snd.snd.snd.snd.snd.snd.snd.snd.snd.snd.snd.snd.snd.fst,
                              y302.snd.snd.snd.snd.snd.snd.snd.snd.snd.snd.snd.snd.snd.snd.fst,
                              y302.snd.snd.snd.snd.snd.snd.snd.snd.snd.snd.snd.snd.snd.snd.snd.fst,
                              y302.snd.snd.snd.snd.snd.snd.snd.snd.snd.snd.snd.snd.snd.snd.snd.snd.fst,
                              y302.snd.snd.snd.snd.snd.snd.snd.snd.snd.snd.snd.snd.snd.snd.snd.snd.snd.fst,
                              y302.snd.snd.snd.snd.snd.snd.snd.snd.snd.snd.snd.snd.snd.snd.snd.snd.snd.snd.fst,
                              y302.snd.snd.snd.snd.snd.snd.snd.snd.snd.snd.snd.snd.snd.snd.snd.snd.snd.snd.snd.fst,
                              y302.snd.snd.snd.snd.snd.snd.snd.snd.snd.snd.snd.snd.snd.snd.snd.snd.snd.snd.snd.snd.fst,
                              y302.snd.snd.snd.snd.snd.snd.snd.snd.snd.snd.snd.snd.snd.snd.snd.snd.snd.snd.snd.snd.snd.fst, ())))
                  y304
            else none
          else none
      else none
else
  some
    (Sum.inr
      (Sum.inr
        (x.fst, x.snd.fst, x.snd.snd.fst, x.snd.snd.snd.snd.snd.snd.snd.fst, x.snd.snd.snd.snd.snd.snd.snd.snd.fst,
          x.snd.snd.snd.snd.snd.snd.snd.snd.snd.fst, x.snd.snd.snd.snd.snd.snd.snd.snd.snd.snd.fst,
          x.snd.snd.snd.snd.snd.snd.snd.snd.snd.snd.snd.fst, x.snd.snd.snd.snd.snd.snd.snd.snd.snd.snd.snd.snd.fst,
          x.snd.snd.snd.snd.snd.snd.snd.snd.snd.snd.snd.snd.snd.fst, x.snd.snd.snd.snd.snd.snd.snd.snd.snd.snd.snd.snd.snd.snd.fst,
          x.snd.snd.snd.snd.snd.snd.snd.snd.snd.snd.snd.snd.snd.snd.snd.fst,
          x.snd.snd.snd.snd.snd.snd.snd.snd.snd.snd.snd.snd.snd.snd.snd.snd.fst,
          x.snd.snd.snd.snd.snd.snd.snd.snd.snd.snd.snd.snd.snd.snd.snd.snd.snd.fst,
          x.snd.snd.snd.snd.snd.snd.snd.snd.snd.snd.snd.snd.snd.snd.snd.snd.snd.snd.fst,
          x.snd.snd.snd.snd.snd.snd.snd.snd.snd.snd.snd.snd.snd.snd.snd.snd.snd.snd.snd.fst,
          x.snd.snd.snd.snd.snd.snd.snd.snd.snd.snd.snd.snd.snd.snd.snd.snd.snd.snd.snd.snd.fst,
          x.snd.snd.snd.snd.snd.snd.snd.snd.snd.snd.snd.snd.snd.snd.snd.snd.snd.snd.snd.snd.snd.fst, ())))
theorem r3_6_run0 (v0 : Nat) (v1 : Int) (v2 : Int) (v3 : Int) (v4 : Int) (v5 : Int) (v6 : List Int) (v7 : Int) (v8 : Int) (v9 : Int) (v10 : Int) (v11 : Nat) (v12 : List Pt) (v13 : Int) (v14 : Int) (v15 : Nat) (v16 : Int) (v17 : Int) (v18 : Nat) (v19 : List Int) (v20 : List Int) (v21 : List Int) : roundK tC G3 (look [(103, W3_103)]) c3_6 p3_6 (v0, v1, v2, v3, v4, v5, v6, v7, v8, v9, v10, v11, v12, v13, v14, v15, v16, v17, v18, v19, v20, v21, ()) = r3_6 (v0, v1, v2, v3, v4, v5, v6, v7, v8, v9, v10, v11, v12, v13, v14, v15, v16, v17, v18, v19, v20, v21, ()) := by kernel_rfl
theorem r3_6_run (x : Nat ×
  Int ×
    Int ×
      Int ×
        Int ×
          Int × List Int × Int × Int × Int × Int × Nat × List Pt × Int × Int × Nat × Int × Int × Nat × List Int × List Int × List Int × Unit) : roundK tC G3 (look [(103, W3_103)]) c3_6 p3_6 x = r3_6 x := r3_6_run0 x.1 x.2.1 x.2.2.1 x.2.2.2.1 x.2.2.2.2.1 x.2.2.2.2.2.1 x.2.2.2.2.2.2.1 x.2.2.2.2.2.2.2.1 x.2.2.2.2.2.2.2.2.1 x.2.2.2.2.2.2.2.2.2.1 x.2.2.2.2.2.2.2.2.2.2.1 x.2.2.2.2.2.2.2.2.2.2.2.1 x.2.2.2.2.2.2.2.2.2.2.2.2.1 x.2.2.2.2.2.2.2.2.2.2.2.2.2.1 x.2.2.2.2.2.2.2.2.2.2.2.2.2.2.1 x.2.2.2.2.2.2.2.2.2.2.2.2.2.2.2.1 x.2.2.2.2.2.2.2.2.2.2.2.2.2.2.2.2.1 x.2.2.2.2.2.2.2.2.2.2.2.2.2.2.2.2.2.1 x.2.2.2.2.2.2.2.2.2.2.2.2.2.2.2.2.2.2.1 x.2.2.2.2.2.2.2.2.2.2.2.2.2.2.2.2.2.2.2.1 x.2.2.2.2.2.2.2.2.2.2.2.2.2.2.2.2.2.2.2.2.1 x.2.2.2.2.2.2.2.2.2.2.2.2.2.2.2.2.2.2.2.2.2.1
noncomputable def l3_6 (x : Nat ×
  Int ×
    Int ×
      Int ×
        Int ×
          Int × List Int × Int × Int × Int × Int × Nat × List Pt × Int × Int × Nat × Int × Int × Nat × List Int × List Int × List Int × Unit) : Option
  (Bool × Unit ⊕
    Nat × Int × Int × Int × Int × Int × Int × Nat × List Pt × Int × Int × Nat × Int × Int × Nat × List Int × List Int × List Int × Unit) := iterO r3_6 x
noncomputable def W3_6 : LF tC := loopW tC p3_6 2 l3_6
theorem W3_6_ok : keyed 6 (subCode (subCode (subCode (bodyOf Try.f3) 19) 61) 88) = [.block 2 (.loop c3_6)] ∧ ∀ n, n ≤ 0 → Snd tC n (.block 2 (.loop c3_6)) W3_6.k := ⟨by kernel_rfl, fun n hn => loopW_ok (p := p3_6) (id := 2) Y3 (lam_le (lam_cons W3_103_ok lam_nil) n hn) hn r3_6_run⟩
noncomputable def c3_88 : Code := subCode (subCode (subCode (bodyOf Try.f3) 19) 61) 88
def p3_88 : PS := ⟨0, [3, 7, 8, 9, 13, 14, 15], ⟨[vB, vB, vB, .one (.one (.ptr 0 0 0)), vB, vB, vB, .one (.one (.ptr 1 0 0)), .one (.one (.ptr 2 0 0)), .one (.one (.ptr 3 0 0)), vB, vB, vB, .one (.one (.sl 4)), vI, vI] ++ vBs 264, [.box [.int .i64, .int .i64, .imm 5], .box [.int .i64, .int .i64], .box [.int .i64, .int .i64], .box [.int .i64, .int .i64, .sl 5], .arr 26, .arr 5]⟩, [⟨.ret, [6], ⟨vBs 6 ++ [vO] ++ vBs 273, []⟩, []⟩], []⟩
noncomputable def j3_88 (x : Nat × Int × Int × Int × Int × List Int × Int × Int × Int × Int × Int × Int × Nat × List Pt × List Int × Unit) : Option (Bool × Unit) :=
  (f15
      (x.snd.snd.snd.fst, x.snd.snd.snd.snd.fst, x.snd.snd.snd.snd.snd.fst, x.snd.snd.snd.snd.snd.snd.snd.snd.fst,
        x.snd.snd.snd.snd.snd.snd.snd.snd.snd.fst, ())).bind
  fun y345 =>
  Sum.elim (fun _x => some (false, ()))
    (fun y344 =>
      Sum.elim
        (fun _x =>
          bif
              !f12 x.snd.snd.snd.fst x.snd.snd.snd.snd.fst x.snd.snd.snd.snd.snd.fst x.snd.snd.snd.snd.snd.snd.snd.snd.fst
                  x.snd.snd.snd.snd.snd.snd.snd.snd.snd.fst then
            some (x.snd.snd.fst == (7 : Int), ())
          else some (false, ()))
        (fun y343 =>
          (l3_6
                (x.fst, x.snd.fst, x.snd.snd.fst, (0 : Int), x.snd.snd.snd.fst, x.snd.snd.snd.snd.fst, x.snd.snd.snd.snd.snd.fst,
                  x.snd.snd.snd.snd.snd.snd.fst, x.snd.snd.snd.snd.snd.snd.snd.fst, x.snd.snd.snd.snd.snd.snd.snd.snd.snd.snd.fst,
                  x.snd.snd.snd.snd.snd.snd.snd.snd.snd.snd.snd.fst, x.snd.snd.snd.snd.snd.snd.snd.snd.snd.snd.snd.snd.fst,
                  x.snd.snd.snd.snd.snd.snd.snd.snd.snd.snd.snd.snd.snd.fst, y343.fst, y343.snd.fst, y343.snd.snd.fst, y343.snd.snd.snd.fst,
                  y343.snd.snd.snd.snd.fst, y343.snd.snd.snd.snd.snd.fst, x.snd.snd.snd.snd.snd.snd.snd.snd.snd.snd.snd.snd.snd.snd.fst,
                  y343.snd.snd.snd.snd.snd.snd.fst, y343.snd.snd.snd.snd.snd.snd.snd.fst, ())).bind
            fun y342 =>
            Sum.elim (fun y337 => some (y337.fst, ()))
              (fun y341 =>
                bif
                    decide
                      ((0 : Nat) + y341.snd.snd.snd.snd.snd.snd.snd.snd.snd.snd.snd.fst ≤
                        y341.snd.snd.snd.snd.snd.snd.snd.snd.snd.snd.snd.snd.snd.snd.snd.snd.fst.length) then
                  bif
                      decide
                        ((0 : Nat) + y341.snd.snd.snd.snd.snd.snd.snd.snd.snd.snd.snd.snd.snd.snd.fst ≤
                          y341.snd.snd.snd.snd.snd.snd.snd.snd.snd.snd.snd.snd.snd.snd.snd.snd.snd.fst.length) then
                    (f17
                          (y341.snd.snd.snd.snd.snd.snd.snd.snd.snd.fst, y341.snd.snd.snd.snd.snd.snd.snd.snd.snd.snd.fst,
                            List.take y341.snd.snd.snd.snd.snd.snd.snd.snd.snd.snd.snd.fst
                              (List.drop (0 : Nat) y341.snd.snd.snd.snd.snd.snd.snd.snd.snd.snd.snd.snd.snd.snd.snd.snd.fst),
                            y341.snd.snd.snd.snd.snd.snd.snd.snd.snd.snd.snd.snd.fst,
                            y341.snd.snd.snd.snd.snd.snd.snd.snd.snd.snd.snd.snd.snd.fst,
                            List.take y341.snd.snd.snd.snd.snd.snd.snd.snd.snd.snd.snd.snd.snd.snd.fst
                              (List.drop (0 : Nat) y341.snd.snd.snd.snd.snd.snd.snd.snd.snd.snd.snd.snd.snd.snd.snd.snd.snd.fst),
                            y341.snd.snd.snd.fst, y341.snd.snd.snd.snd.fst, ())).bind
                      fun y340 =>
                      bif
                          decide
                            ((0 : Nat) + y341.snd.snd.snd.snd.snd.snd.snd.snd.snd.snd.snd.fst ≤
                              y341.snd.snd.snd.snd.snd.snd.snd.snd.snd.snd.snd.snd.snd.snd.snd.snd.fst.length) then
                        bif
                            decide
                              ((0 : Nat) + y341.snd.snd.snd.snd.snd.snd.snd.snd.snd.snd.snd.snd.snd.snd.fst ≤
                                y341.snd.snd.snd.snd.snd.snd.snd.snd.snd.snd.snd.snd.snd.snd.snd.snd.snd.fst.length) then
                          (f19
                                (y341.snd.snd.snd.snd.snd.snd.snd.snd.snd.fst, y341.snd.snd.snd.snd.snd.snd.snd.snd.snd.snd.fst,
                                  List.take y341.snd.snd.snd.snd.snd.snd.snd.snd.snd.snd.snd.fst
                                    (List.drop (0 : Nat) y341.snd.snd.snd.snd.snd.snd.snd.snd.snd.snd.snd.snd.snd.snd.snd.snd.fst),
                                  y341.snd.snd.snd.snd.snd.snd.snd.snd.snd.snd.snd.snd.fst,
                                  y341.snd.snd.snd.snd.snd.snd.snd.snd.snd.snd.snd.snd.snd.fst,
                                  List.take y341.snd.snd.snd.snd.snd.snd.snd.snd.snd.snd.snd.snd.snd.snd.fst
                                    (List.drop (0 : Nat) y341.snd.snd.snd.snd.snd.snd.snd.snd.snd.snd.snd.snd.snd.snd.snd.snd.snd.fst),
                                  ())).bind
                            fun y339 =>
                            bif decide ((0 : Nat) + y339.snd.snd.fst ≤ y339.snd.snd.snd.fst.length) then
                              bif
                                  decide
                                    ((0 : Nat) + y341.snd.snd.snd.snd.snd.snd.snd.fst ≤
                                      y341.snd.snd.snd.snd.snd.snd.snd.snd.snd.snd.snd.snd.snd.snd.snd.fst.length) then
                                bif
                                    f18 y339.fst y339.snd.fst (List.take y339.snd.snd.fst (List.drop (0 : Nat) y339.snd.snd.snd.fst))
                                      y341.snd.snd.snd.snd.snd.fst y341.snd.snd.snd.snd.snd.snd.fst
                                      (List.take y341.snd.snd.snd.snd.snd.snd.snd.fst
                                        (List.drop (0 : Nat) y341.snd.snd.snd.snd.snd.snd.snd.snd.snd.snd.snd.snd.snd.snd.snd.fst)) then
                                  bif decide ((0 : Nat) + y340.fst ≤ y340.snd.snd.snd.fst.length) then
                                    bif decide ((0 : Nat) + y341.fst ≤ y341.snd.snd.snd.snd.snd.snd.snd.snd.fst.length) then
                                      (f20
                                            (List.take y340.fst (List.drop (0 : Nat) y340.snd.snd.snd.fst),
                                              List.take y341.fst (List.drop (0 : Nat) y341.snd.snd.snd.snd.snd.snd.snd.snd.fst), ())).bind
                                        fun y338 =>
                                        bif y338.fst then
                                          bif y340.snd.fst == y341.snd.fst then some (y340.snd.snd.fst == y341.snd.snd.fst, ())
                                          else some (false, ())
                                        else some (false, ())
                                    else none
                                  else none
                                else some (false, ())
                              else none
                            else none
                        else none
                      else none
                  else none
                else none)
              y342)
        y344)
    y345
theorem j3_88_run0 (v0 : Nat) (v1 : Int) (v2 : Int) (v3 : Int) (v4 : Int) (v5 : List Int) (v6 : Int) (v7 : Int) (v8 : Int) (v9 : Int) (v10 : Int) (v11 : Int) (v12 : Nat) (v13 : List Pt) (v14 : List Int) : pieceK tC G3 (look [(6, W3_6)]) c3_88 p3_88 (v0, v1, v2, v3, v4, v5, v6, v7, v8, v9, v10, v11, v12, v13, v14, ()) = j3_88 (v0, v1, v2, v3, v4, v5, v6, v7, v8, v9, v10, v11, v12, v13, v14, ()) := by kernel_rfl
theorem j3_88_run (x : Nat × Int × Int × Int × Int × List Int × Int × Int × Int × Int × Int × Int × Nat × List Pt × List Int × Unit) : pieceK tC G3 (look [(6, W3_6)]) c3_88 p3_88 x = j3_88 x := j3_88_run0 x.1 x.2.1 x.2.2.1 x.2.2.2.1 x.2.2.2.2.1 x.2.2.2.2.2.1 x.2.2.2.2.2.2.1 x.2.2.2.2.2.2.2.1 x.2.2.2.2.2.2.2.2.1 x.2.2.2.2.2.2.2.2.2.1 x.2.2.2.2.2.2.2.2.2.2.1 x.2.2.2.2.2.2.2.2.2.2.2.1 x.2.2.2.2.2.2.2.2.2.2.2.2.1 x.2.2.2.2.2.2.2.2.2.2.2.2.2.1 x.2.2.2.2.2.2.2.2.2.2.2.2.2.2.1
noncomputable def W3_88 : LF tC := cutLF tC p3_88 j3_88
theorem W3_88_ok : keyed 88 (subCode (subCode (bodyOf Try.f3) 19) 61) = [c3_88] ∧ ∀ n, n ≤ 0 → Snd tC n c3_88 W3_88.k := ⟨by kernel_rfl, fun n hn => cut_ok (p := p3_88) Y3 (lam_le (lam_cons W3_6_ok lam_nil) n hn) hn j3_88_run⟩
noncomputable def c3_61 : Code := subCode (subCode (bodyOf Try.f3) 19) 61
def p3_61 : PS := ⟨0, [2, 3, 7, 8, 9, 11, 13, 14, 15], ⟨[vB, vB, vI, .one (.one (.ptr 0 0 0)), vB, vB, vB, .one (.one (.ptr 1 0 0)), .one (.one (.ptr 2 0 0)), .one (.one (.ptr 3 0 0)), vB, .one (.one (.sl 4)), vB, .one (.one (.sl 5)), vI, vI] ++ vBs 264, [.box [.int .i64, .int .i64, .imm 5], .box [.int .i64, .int .i64], .box [.int .i64, .int .i64], .box [.int .i64, .int .i64, .sl 6], .arr 3, .arr 26, .arr 5]⟩, [⟨.ret, [6], ⟨vBs 6 ++ [vO] ++ vBs 273, []⟩, []⟩], []⟩
noncomputable def j3_61 (x : Int × Nat × Nat × Int × Int × Int × Int × List Int × Int × Int × Int × Int × Int × Int × Nat × List Int × List Pt × List Int × Unit) : Option (Bool × Unit) :=
  (l3_0
      (x.fst, x.snd.fst, x.snd.snd.fst, x.snd.snd.snd.fst, x.snd.snd.snd.snd.fst, (0 : Int), x.snd.snd.snd.snd.snd.fst,
        x.snd.snd.snd.snd.snd.snd.fst, x.snd.snd.snd.snd.snd.snd.snd.fst, x.snd.snd.snd.snd.snd.snd.snd.snd.fst,
        x.snd.snd.snd.snd.snd.snd.snd.snd.snd.fst, x.snd.snd.snd.snd.snd.snd.snd.snd.snd.snd.fst,
        x.snd.snd.snd.snd.snd.snd.snd.snd.snd.snd.snd.fst, x.snd.snd.snd.snd.snd.snd.snd.snd.snd.snd.snd.snd.fst,
        x.snd.snd.snd.snd.snd.snd.snd.snd.snd.snd.snd.snd.snd.fst, x.snd.snd.snd.snd.snd.snd.snd.snd.snd.snd.snd.snd.snd.snd.fst,
        x.snd.snd.snd.snd.snd.snd.snd.snd.snd.snd.snd.snd.snd.snd.snd.fst,
        x.snd.snd.snd.snd.snd.snd.snd.snd.snd.snd.snd.snd.snd.snd.snd.snd.fst,
        x.snd.snd.snd.snd.snd.snd.snd.snd.snd.snd.snd.snd.snd.snd.snd.snd.snd.fst, ())).bind
  fun y356 =>
  Sum.elim (fun y349 => some (y349.fst, ()))
    (fun y355 =>
      bif y355.snd.snd.fst == (0 : Int) then
        bif
            decide
              ((0 : Nat) + y355.snd.snd.snd.snd.snd.snd.snd.snd.snd.snd.snd.snd.fst ≤
                y355.snd.snd.snd.snd.snd.snd.snd.snd.snd.snd.snd.snd.snd.snd.fst.length) then
          (f13
                (y355.snd.snd.snd.snd.snd.snd.snd.snd.snd.snd.fst, y355.snd.snd.snd.snd.snd.snd.snd.snd.snd.snd.snd.fst,
                  List.take y355.snd.snd.snd.snd.snd.snd.snd.snd.snd.snd.snd.snd.fst
                    (List.drop (0 : Nat) y355.snd.snd.snd.snd.snd.snd.snd.snd.snd.snd.snd.snd.snd.snd.fst),
                  y355.snd.snd.snd.snd.snd.snd.snd.snd.fst, y355.snd.snd.snd.snd.snd.snd.snd.snd.snd.fst, ())).bind
            fun y353 =>
            bif y353.snd.fst != (0 : Int) then some (false, ())
            else
              bif
                  decide
                    ((0 : Nat) + y355.snd.snd.snd.snd.snd.snd.snd.snd.snd.snd.snd.snd.fst ≤
                      y355.snd.snd.snd.snd.snd.snd.snd.snd.snd.snd.snd.snd.snd.snd.fst.length) then
                bif decide ((0 : Nat) + y353.fst ≤ y353.snd.snd.fst.length) then
                  (f14
                        (y355.snd.snd.snd.snd.snd.snd.snd.snd.snd.snd.fst, y355.snd.snd.snd.snd.snd.snd.snd.snd.snd.snd.snd.fst,
                          List.take y355.snd.snd.snd.snd.snd.snd.snd.snd.snd.snd.snd.snd.fst
                            (List.drop (0 : Nat) y355.snd.snd.snd.snd.snd.snd.snd.snd.snd.snd.snd.snd.snd.snd.fst),
                          y355.snd.snd.snd.snd.snd.snd.snd.snd.fst, y355.snd.snd.snd.snd.snd.snd.snd.snd.snd.fst,
                          List.take y353.fst (List.drop (0 : Nat) y353.snd.snd.fst), ())).bind
                    fun y352 =>
                    bif y352.fst != (0 : Int) then some (false, ())
                    else
                      bif (↑y353.fst : Int) != (↑y355.snd.snd.snd.snd.snd.fst.length : Int) then some (false, ())
                      else
                        bif
                            decide
                                ((0 : Int) ≤
                                  IntKind.i64.wrap
                                    (IntKind.i64.wrap (y355.snd.snd.snd.snd.snd.snd.snd.fst * y355.snd.snd.snd.fst) +
                                      y355.snd.snd.snd.snd.snd.snd.fst)) &&
                              decide
                                (IntKind.i64.wrap
                                    (IntKind.i64.wrap (y355.snd.snd.snd.snd.snd.snd.snd.fst * y355.snd.snd.snd.fst) +
                                      y355.snd.snd.snd.snd.snd.snd.fst) <
                                  (↑y353.fst : Int)) then
                          y353.snd.snd.fst[(0 : Nat) +
                                  (IntKind.i64.wrap
                                      (IntKind.i64.wrap (y355.snd.snd.snd.snd.snd.snd.snd.fst * y355.snd.snd.snd.fst) +
                                        y355.snd.snd.snd.snd.snd.snd.fst)).toNat]?.bind
                            fun y351 =>
                            bif y351 != y355.snd.fst then some (false, ())
                            else
                              (j3_88
                                    (y355.fst, y355.snd.fst, y355.snd.snd.fst, y355.snd.snd.snd.fst, y355.snd.snd.snd.snd.fst,
                                      y355.snd.snd.snd.snd.snd.fst, y355.snd.snd.snd.snd.snd.snd.fst, y355.snd.snd.snd.snd.snd.snd.snd.fst,
                                      y355.snd.snd.snd.snd.snd.snd.snd.snd.fst, y355.snd.snd.snd.snd.snd.snd.snd.snd.snd.fst,
                                      y355.snd.snd.snd.snd.snd.snd.snd.snd.snd.snd.fst,
                                      y355.snd.snd.snd.snd.snd.snd.snd.snd.snd.snd.snd.fst,
                                      y355.snd.snd.snd.snd.snd.snd.snd.snd.snd.snd.snd.snd.fst,
                                      y355.snd.snd.snd.snd.snd.snd.snd.snd.snd.snd.snd.snd.snd.fst,
                                      y355.snd.snd.snd.snd.snd.snd.snd.snd.snd.snd.snd.snd.snd.snd.fst, ())).bind
                                fun y350 => some (y350.fst, ())
                        else none
                else none
              else none
        else none
      else
        (j3_88
              (y355.fst, y355.snd.fst, y355.snd.snd.fst, y355.snd.snd.snd.fst, y355.snd.snd.snd.snd.fst, y355.snd.snd.snd.snd.snd.fst,
                y355.snd.snd.snd.snd.snd.snd.fst, y355.snd.snd.snd.snd.snd.snd.snd.fst, y355.snd.snd.snd.snd.snd.snd.snd.snd.fst,
                y355.snd.snd.snd.snd.snd.snd.snd.snd.snd.fst, y355.snd.snd.snd.snd.snd.snd.snd.snd.snd.snd.fst,
                y355.snd.snd.snd.snd.snd.snd.snd.snd.snd.snd.snd.fst, y355.snd.snd.snd.snd.snd.snd.snd.snd.snd.snd.snd.snd.fst,
                y355.snd.snd.snd.snd.snd.snd.snd.snd.snd.snd.snd.snd.snd.fst,
                y355.snd.snd.snd.snd.snd.snd.snd.snd.snd.snd.snd.snd.snd.snd.fst, ())).bind
          fun y354 => some (y354.fst, ()))
    y356
theorem j3_61_run0 (v0 : Int) (v1 : Nat) (v2 : Nat) (v3 : Int) (v4 : Int) (v5 : Int) (v6 : Int) (v7 : List Int) (v8 : Int) (v9 : Int) (v10 : Int) (v11 : Int) (v12 : Int) (v13 : Int) (v14 : Nat) (v15 : List Int) (v16 : List Pt) (v17 : List Int) : pieceK tC G3 (look [(0, W3_0), (88, W3_88)]) c3_61 p3_61 (v0, v1, v2, v3, v4, v5, v6, v7, v8, v9, v10, v11, v12, v13, v14, v15, v16, v17, ()) = j3_61 (v0, v1, v2, v3, v4, v5, v6, v7, v8, v9, v10, v11, v12, v13, v14, v15, v16, v17, ()) := by kernel_rfl
theorem j3_61_run (x : Int × Nat × Nat × Int × Int × Int × Int × List Int × Int × Int × Int × Int × Int × Int × Nat × List Int × List Pt × List Int × Unit) : pieceK tC G3 (look [(0, W3_0), (88, W3_88)]) c3_61 p3_61 x = j3_61 x := j3_61_run0 x.1 x.2.1 x.2.2.1 x.2.2.2.1 x.2.2.2.2.1 x.2.2.2.2.2.1 x.2.2.2.2.2.2.1 x.2.2.2.2.2.2.2.1 x.2.2.2.2.2.2.2.2.1 x.2.2.2.2.2.2.2.2.2.1 x.2.2.2.2.2.2.2.2.2.2.1 x.2.2.2.2.2.2.2.2.2.2.2.1 x.2.2.2.2.2.2.2.2.2.2.2.2.1 x.2.2.2.2.2.2.2.2.2.2.2.2.2.1 x.2.2.2.2.2.2.2.2.2.2.2.2.2.2.1 x.2.2.2.2.2.2.2.2.2.2.2.2.2.2.2.1 x.2.2.2.2.2.2.2.2.2.2.2.2.2.2.2.2.1 x.2.2.2.2.2.2.2.2.2.2.2.2.2.2.2.2.2.1
noncomputable def W3_61 : LF tC := cutLF tC p3_61 j3_61
theorem W3_61_ok : keyed 61 (subCode (bodyOf Try.f3) 19) = [c3_61] ∧ ∀ n, n ≤ 0 → Snd tC n c3_61 W3_61.k := ⟨by kernel_rfl, fun n hn => cut_ok (p := p3_61) Y3 (lam_le (lam_cons W3_0_ok (lam_cons W3_88_ok lam_nil)) n hn) hn j3_61_run⟩
noncomputable def c3_19 : Code := subCode (bodyOf Try.f3) 19
def p3_19 : PS := ⟨0, [2, 3, 7, 8, 9, 10], ⟨[vB, vB, vI, .one (.one (.ptr 0 0 0)), vB, vB, vB, .one (.one (.ptr 1 0 0)), .one (.one (.ptr 2 0 0)), .one (.one (.ptr 3 0 0)), vI] ++ vBs 269, [.box [.int .i64, .int .i64, .imm 5], .box [.int .i64, .int .i64], .box [.int .i64, .int .i64], .box [.int .i64, .int .i64, .sl 4], .arr 5]⟩, [⟨.ret, [6], ⟨vBs 6 ++ [vO] ++ vBs 273, []⟩, []⟩], [(2009002, 5)]⟩
noncomputable def j3_19 (x : Int × Int × Int × Int × List Int × Int × Int × Int × Int × Int × Int × Nat × List Int × Unit) : Option (Bool × Unit) :=
  bif x.snd.fst != (0 : Int) then
  bif x.snd.fst == (1 : Int) then (f7 (x.snd.snd.fst, x.snd.snd.snd.fst, x.snd.snd.snd.snd.fst, ())).bind fun y362 => some (!y362.fst, ())
  else some (false, ())
else
  (f7 (x.snd.snd.fst, x.snd.snd.snd.fst, x.snd.snd.snd.snd.fst, ())).bind fun y372 =>
    bif !y372.fst then some (false, ())
    else
      bif x.snd.snd.snd.snd.snd.snd.snd.snd.snd.fst != x.snd.snd.fst then some (false, ())
      else
        bif x.snd.snd.snd.snd.snd.snd.snd.snd.snd.snd.fst != x.snd.snd.snd.fst then some (false, ())
        else
          bif (↑x.snd.snd.snd.snd.snd.snd.snd.snd.snd.snd.snd.fst : Int) != (↑x.snd.snd.snd.snd.fst.length : Int) then some (false, ())
          else
            (f8 (x.snd.snd.fst, x.snd.snd.snd.fst, x.snd.snd.snd.snd.fst, ())).bind fun y371 =>
              bif
                  decide
                    ((0 : Nat) + x.snd.snd.snd.snd.snd.snd.snd.snd.snd.snd.snd.fst ≤
                      x.snd.snd.snd.snd.snd.snd.snd.snd.snd.snd.snd.snd.fst.length) then
                (f9
                      (x.snd.snd.snd.snd.snd.snd.snd.snd.snd.fst, x.snd.snd.snd.snd.snd.snd.snd.snd.snd.snd.fst,
                        List.take x.snd.snd.snd.snd.snd.snd.snd.snd.snd.snd.snd.fst
                          (List.drop (0 : Nat) x.snd.snd.snd.snd.snd.snd.snd.snd.snd.snd.snd.snd.fst),
                        x.snd.snd.snd.snd.snd.fst, x.snd.snd.snd.snd.snd.snd.fst, x.snd.snd.snd.snd.snd.snd.snd.fst,
                        x.snd.snd.snd.snd.snd.snd.snd.snd.fst, ())).bind
                  fun y370 =>
                  (f10
                        (x.snd.snd.fst, x.snd.snd.snd.fst, x.snd.snd.snd.snd.fst, x.snd.snd.snd.snd.snd.fst, x.snd.snd.snd.snd.snd.snd.fst,
                          x.snd.snd.snd.snd.snd.snd.snd.fst, x.snd.snd.snd.snd.snd.snd.snd.snd.fst, ())).bind
                    fun y369 =>
                    bif y371.snd.fst != (0 : Int) then some (false, ())
                    else
                      bif (↑y371.fst : Int) != (↑x.snd.snd.snd.snd.fst.length : Int) then some (false, ())
                      else
                        bif
                            decide
                              ((0 : Nat) + x.snd.snd.snd.snd.snd.snd.snd.snd.snd.snd.snd.fst ≤
                                x.snd.snd.snd.snd.snd.snd.snd.snd.snd.snd.snd.snd.fst.length) then
                          (f11
                                (x.snd.snd.snd.snd.snd.snd.snd.snd.snd.fst, x.snd.snd.snd.snd.snd.snd.snd.snd.snd.snd.fst,
                                  List.take x.snd.snd.snd.snd.snd.snd.snd.snd.snd.snd.snd.fst
                                    (List.drop (0 : Nat) x.snd.snd.snd.snd.snd.snd.snd.snd.snd.snd.snd.snd.fst),
                                  x.snd.snd.snd.snd.snd.fst, x.snd.snd.snd.snd.snd.snd.fst, ())).bind
                            fun y368 =>
                            bif y368.fst == (1 : Int) then
                              bif
                                  decide
                                    ((0 : Nat) + x.snd.snd.snd.snd.snd.snd.snd.snd.snd.snd.snd.fst ≤
                                      x.snd.snd.snd.snd.snd.snd.snd.snd.snd.snd.snd.snd.fst.length) then
                                (f11
                                      (x.snd.snd.snd.snd.snd.snd.snd.snd.snd.fst, x.snd.snd.snd.snd.snd.snd.snd.snd.snd.snd.fst,
                                        List.take x.snd.snd.snd.snd.snd.snd.snd.snd.snd.snd.snd.fst
                                          (List.drop (0 : Nat) x.snd.snd.snd.snd.snd.snd.snd.snd.snd.snd.snd.snd.fst),
                                        x.snd.snd.snd.snd.snd.snd.snd.fst, x.snd.snd.snd.snd.snd.snd.snd.snd.fst, ())).bind
                                  fun y366 =>
                                  bif y366.fst == (1 : Int) then
                                    bif y369.snd.fst == (0 : Int) then
                                      bif !(y370.snd.snd.fst == (0 : Int)) == decide (y369.fst > x.fst) then some (false, ())
                                      else
                                        (j3_61
                                              (x.fst, y371.fst, y370.fst, y370.snd.fst, y370.snd.snd.fst, x.snd.snd.fst, x.snd.snd.snd.fst,
                                                x.snd.snd.snd.snd.fst, x.snd.snd.snd.snd.snd.fst, x.snd.snd.snd.snd.snd.snd.fst,
                                                x.snd.snd.snd.snd.snd.snd.snd.fst, x.snd.snd.snd.snd.snd.snd.snd.snd.fst,
                                                x.snd.snd.snd.snd.snd.snd.snd.snd.snd.fst, x.snd.snd.snd.snd.snd.snd.snd.snd.snd.snd.fst,
                                                x.snd.snd.snd.snd.snd.snd.snd.snd.snd.snd.snd.fst, y371.snd.snd.fst, y370.snd.snd.snd.fst,
                                                x.snd.snd.snd.snd.snd.snd.snd.snd.snd.snd.snd.snd.fst, ())).bind
                                          fun y363 => some (y363.fst, ())
                                    else
                                      bif !(y370.snd.snd.fst == (0 : Int)) == false then some (false, ())
                                      else
                                        (j3_61
                                              (x.fst, y371.fst, y370.fst, y370.snd.fst, y370.snd.snd.fst, x.snd.snd.fst, x.snd.snd.snd.fst,
                                                x.snd.snd.snd.snd.fst, x.snd.snd.snd.snd.snd.fst, x.snd.snd.snd.snd.snd.snd.fst,
                                                x.snd.snd.snd.snd.snd.snd.snd.fst, x.snd.snd.snd.snd.snd.snd.snd.snd.fst,
                                                x.snd.snd.snd.snd.snd.snd.snd.snd.snd.fst, x.snd.snd.snd.snd.snd.snd.snd.snd.snd.snd.fst,
                                                x.snd.snd.snd.snd.snd.snd.snd.snd.snd.snd.snd.fst, y371.snd.snd.fst, y370.snd.snd.snd.fst,
                                                x.snd.snd.snd.snd.snd.snd.snd.snd.snd.snd.snd.snd.fst, ())).bind
                                          fun y364 => some (y364.fst, ())
                                  else
                                    bif y370.snd.snd.fst != (7 : Int) then some (false, ())
                                    else
                                      (j3_61
                                            (x.fst, y371.fst, y370.fst, y370.snd.fst, y370.snd.snd.fst, x.snd.snd.fst, x.snd.snd.snd.fst,
                                              x.snd.snd.snd.snd.fst, x.snd.snd.snd.snd.snd.fst, x.snd.snd.snd.snd.snd.snd.fst,
                                              x.snd.snd.snd.snd.snd.snd.snd.fst, x.snd.snd.snd.snd.snd.snd.snd.snd.fst,
                                              x.snd.snd.snd.snd.snd.snd.snd.snd.snd.fst, x.snd.snd.snd.snd.snd.snd.snd.snd.snd.snd.fst,
                                              x.snd.snd.snd.snd.snd.snd.snd.snd.snd.snd.snd.fst, y371.snd.snd.fst, y370.snd.snd.snd.fst,
                                              x.snd.snd.snd.snd.snd.snd.snd.snd.snd.snd.snd.snd.fst, ())).bind
                                        fun y365 => some (y365.fst, ())
                              else none
                            else
                              bif y370.snd.snd.fst != (7 : Int) then some (false, ())
                              else
                                (j3_61
                                      (x.fst, y371.fst, y370.fst, y370.snd.fst, y370.snd.snd.fst, x.snd.snd.fst, x.snd.snd.snd.fst,
                                        x.snd.snd.snd.snd.fst, x.snd.snd.snd.snd.snd.fst, x.snd.snd.snd.snd.snd.snd.fst,
                                        x.snd.snd.snd.snd.snd.snd.snd.fst, x.snd.snd.snd.snd.snd.snd.snd.snd.fst,
                                        x.snd.snd.snd.snd.snd.snd.snd.snd.snd.fst, x.snd.snd.snd.snd.snd.snd.snd.snd.snd.snd.fst,
                                        x.snd.snd.snd.snd.snd.snd.snd.snd.snd.snd.snd.fst, y371.snd.snd.fst, y370.snd.snd.snd.fst,
                                        x.snd.snd.snd.snd.snd.snd.snd.snd.snd.snd.snd.snd.fst, ())).bind
                                  fun y367 => some (y367.fst, ())
                        else none
              else none
theorem j3_19_run0 (v0 : Int) (v1 : Int) (v2 : Int) (v3 : Int) (v4 : List Int) (v5 : Int) (v6 : Int) (v7 : Int) (v8 : Int) (v9 : Int) (v10 : Int) (v11 : Nat) (v12 : List Int) : pieceK tC G3 (look [(61, W3_61)]) c3_19 p3_19 (v0, v1, v2, v3, v4, v5, v6, v7, v8, v9, v10, v11, v12, ()) = j3_19 (v0, v1, v2, v3, v4, v5, v6, v7, v8, v9, v10, v11, v12, ()) := by kernel_rfl
theorem j3_19_run (x : Int × Int × Int × Int × List Int × Int × Int × Int × Int × Int × Int × Nat × List Int × Unit) : pieceK tC G3 (look [(61, W3_61)]) c3_19 p3_19 x = j3_19 x := j3_19_run0 x.1 x.2.1 x.2.2.1 x.2.2.2.1 x.2.2.2.2.1 x.2.2.2.2.2.1 x.2.2.2.2.2.2.1 x.2.2.2.2.2.2.2.1 x.2.2.2.2.2.2.2.2.1 x.2.2.2.2.2.2.2.2.2.1 x.2.2.2.2.2.2.2.2.2.2.1 x.2.2.2.2.2.2.2.2.2.2.2.1 x.2.2.2.2.2.2.2.2.2.2.2.2.1
noncomputable def W3_19 : LF tC := cutLF tC p3_19 j3_19
theorem W3_19_ok : keyed 19 (bodyOf Try.f3) = [c3_19] ∧ ∀ n, n ≤ 0 → Snd tC n c3_19 W3_19.k := ⟨by kernel_rfl, fun n hn => cut_ok (p := p3_19) Y3 (lam_le (lam_cons W3_61_ok lam_nil) n hn) hn j3_19_run⟩
def S3 : FS := ⟨[[.v, .v, .s 5], [.v, .v, .v, .v], [.v]], [⟨[.one (.agg [.int .i64, .int .i64, .imm 5]), .one (.agg [.int .i64, .int .i64, .int .i64, .int .i64]), vI], []⟩], [⟨[vO], []⟩], [[.v]], []⟩
noncomputable def f3 (x : Int × Int × List Int × Int × Int × Int × Int × Int × Unit) : Option (Bool × Unit) :=
  (f4 ()).bind fun y384 =>
  bif !y384.fst then (f4 ()).bind fun y376 => some (y376.fst, ())
  else
    bif decide ((↑x.snd.snd.fst.length : Int) > (100 : Int)) then (f4 ()).bind fun y377 => some (y377.fst, ())
    else
      (f5 (x.snd.snd.snd.snd.snd.snd.snd.fst, (40 : Int), ())).bind fun y383 =>
        (f6 (x.fst, x.snd.fst, x.snd.snd.fst, y383.fst, ())).bind fun y382 =>
          Sum.elim
            (fun y379 =>
              (j3_19
                    (y383.fst, y379.snd.snd.fst, x.fst, x.snd.fst, x.snd.snd.fst, x.snd.snd.snd.fst, x.snd.snd.snd.snd.fst,
                      x.snd.snd.snd.snd.snd.fst, x.snd.snd.snd.snd.snd.snd.fst, y379.fst, y379.snd.fst, (0 : Nat), [], ())).bind
                fun y378 => some (y378.fst, ()))
            (fun y381 =>
              (j3_19
                    (y383.fst, y381.snd.snd.snd.fst, x.fst, x.snd.fst, x.snd.snd.fst, x.snd.snd.snd.fst, x.snd.snd.snd.snd.fst,
                      x.snd.snd.snd.snd.snd.fst, x.snd.snd.snd.snd.snd.snd.fst, y381.fst, y381.snd.fst, y381.snd.snd.fst,
                      y381.snd.snd.snd.snd.fst, ())).bind
                fun y380 => some (y380.fst, ()))
            y382
noncomputable def F3 : CF tC := mkF tC S3 f3
theorem f3_run : ∀ a, fnS tC G3 (look [(19, W3_19)]) Try.f3 S3 a = f3 a := fun a => by kernel_rfl
theorem F3_ok : CFOK tC 3 F3 := mkF_ok Y3 (fn := Try.f3) (body := bodyOf Try.f3) (by kernel_rfl) (by kernel_rfl) (by kernel_rfl) (m := 0) rfl (lam_le (lam_cons W3_19_ok lam_nil)) f3_run
end Go.AE
