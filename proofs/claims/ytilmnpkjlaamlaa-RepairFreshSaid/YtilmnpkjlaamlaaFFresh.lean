/-
  The plain functions that the seat's Go functions compute, each with the proof that the function keeps it. Printed by the generator (Gen2) and checked by the kernel.
-/
import Derived.Test.YtilmnpkjlaamlaaFb
namespace Go.AE
open Go.Proofs Go.RowKit
set_option maxRecDepth 100000

/-! RepairFresh -/
noncomputable def G6 : FuncId → Option (CF tC) := look [(9, F9), (20, F20), (10, F10), (22, F22), (19, F19), (23, F23), (24, F24), (25, F25), (12, F12), (14, F14), (15, F15), (17, F17)]
theorem Y6 : SysN tC G6 := (sys_cons F9_ok (mkF_nat _ _) (sys_cons F20_ok (mkF_nat _ _) (sys_cons F10_ok (mkF_nat _ _) (sys_cons F22_ok (mkF_nat _ _) (sys_cons F19_ok (mkF_nat _ _) (sys_cons F23_ok (mkF_nat _ _) (sys_cons F24_ok (mkF_nat _ _) (sys_cons F25_ok (mkF_nat _ _) (sys_cons F12_ok (mkF_nat _ _) (sys_cons F14_ok (mkF_nat _ _) (sys_cons F15_ok (mkF_nat _ _) (sys_cons F17_ok (mkF_nat _ _) (sys_nil tC_ok tC_eq)))))))))))))
noncomputable def c6_0 : Code := loopOf (bodyOf Try.f6) 0
def p6_0 : LS := ⟨0, [2, 4, 7, 9], ⟨[vB, vB, .one (.one (.imm 47)), vB, .one (.one (.ptr 0 0 0)), vB, vB, .one (.one (.ptr 1 0 0)), vB, vI] ++ vBs 136, [.box [.int .i64, .int .i64], .box [.int .i64, .int .i64, .sl 2, .int .i64, .int .i64, .sl 3], .arr 5, .arr 3]⟩, [⟨.exit 0, [4, 7], ⟨vBs 4 ++ [.one (.one (.ptr 0 0 0)), vB, vB, .one (.one (.ptr 1 0 0))] ++ vBs 138, [.box [.int .i64, .int .i64], .box [.int .i64, .int .i64, .sl 2, .int .i64, .int .i64, .sl 3], .arr 5, .arr 3]⟩, []⟩], []⟩
noncomputable def r6_0 (x : List Ac × Int × Int × Int × Int × Int × Nat × Int × Int × Nat × List Int × List Int × Unit) : Option
  (List Ac × Int × Int × Int × Int × Int × Nat × Int × Int × Nat × List Int × List Int × Unit ⊕
    Int × Int × Int × Int × Nat × Int × Int × Nat × List Int × List Int × Unit) :=
  bif decide (x.snd.fst < (↑x.fst.length : Int)) then
  (idxO x.fst x.snd.fst).bind fun y51 =>
    bif decide ((0 : Nat) + x.snd.snd.snd.snd.snd.snd.fst ≤ x.snd.snd.snd.snd.snd.snd.snd.snd.snd.snd.fst.length) then
      bif decide ((0 : Nat) + x.snd.snd.snd.snd.snd.snd.snd.snd.snd.fst ≤ x.snd.snd.snd.snd.snd.snd.snd.snd.snd.snd.snd.fst.length) then
        (f22
              (y51.K, y51.X, y51.Y,
                List.take x.snd.snd.snd.snd.snd.snd.fst (List.drop (0 : Nat) x.snd.snd.snd.snd.snd.snd.snd.snd.snd.snd.fst),
                List.take x.snd.snd.snd.snd.snd.snd.snd.snd.snd.fst (List.drop (0 : Nat) x.snd.snd.snd.snd.snd.snd.snd.snd.snd.snd.snd.fst),
                x.snd.snd.snd.snd.fst, x.snd.snd.snd.snd.snd.fst, x.snd.snd.snd.snd.snd.snd.fst, x.snd.snd.snd.snd.snd.snd.snd.fst,
                x.snd.snd.snd.snd.snd.snd.snd.snd.fst, x.snd.snd.snd.snd.snd.snd.snd.snd.snd.fst, ())).bind
          fun y50 =>
          some
            (Sum.inl
              (x.fst, IntKind.i64.wrap (x.snd.fst + (1 : Int)), x.snd.snd.fst, x.snd.snd.snd.fst, y50.snd.fst, y50.snd.snd.fst,
                y50.snd.snd.snd.fst, y50.snd.snd.snd.snd.fst, y50.snd.snd.snd.snd.snd.fst, y50.snd.snd.snd.snd.snd.snd.fst,
                y50.snd.snd.snd.snd.snd.snd.snd.fst, y50.snd.snd.snd.snd.snd.snd.snd.snd.fst, ()))
      else none
    else none
else
  some
    (Sum.inr
      (x.snd.snd.fst, x.snd.snd.snd.fst, x.snd.snd.snd.snd.fst, x.snd.snd.snd.snd.snd.fst, x.snd.snd.snd.snd.snd.snd.fst,
        x.snd.snd.snd.snd.snd.snd.snd.fst, x.snd.snd.snd.snd.snd.snd.snd.snd.fst, x.snd.snd.snd.snd.snd.snd.snd.snd.snd.fst,
        x.snd.snd.snd.snd.snd.snd.snd.snd.snd.snd.fst, x.snd.snd.snd.snd.snd.snd.snd.snd.snd.snd.snd.fst, ()))
theorem r6_0_run0 (v0 : List Ac) (v1 : Int) (v2 : Int) (v3 : Int) (v4 : Int) (v5 : Int) (v6 : Nat) (v7 : Int) (v8 : Int) (v9 : Nat) (v10 : List Int) (v11 : List Int) : roundK tC G6 (look []) c6_0 p6_0 (v0, v1, v2, v3, v4, v5, v6, v7, v8, v9, v10, v11, ()) = r6_0 (v0, v1, v2, v3, v4, v5, v6, v7, v8, v9, v10, v11, ()) := by kernel_rfl
theorem r6_0_run (x : List Ac × Int × Int × Int × Int × Int × Nat × Int × Int × Nat × List Int × List Int × Unit) : roundK tC G6 (look []) c6_0 p6_0 x = r6_0 x := r6_0_run0 x.1 x.2.1 x.2.2.1 x.2.2.2.1 x.2.2.2.2.1 x.2.2.2.2.2.1 x.2.2.2.2.2.2.1 x.2.2.2.2.2.2.2.1 x.2.2.2.2.2.2.2.2.1 x.2.2.2.2.2.2.2.2.2.1 x.2.2.2.2.2.2.2.2.2.2.1 x.2.2.2.2.2.2.2.2.2.2.2.1
noncomputable def l6_0 (x : List Ac × Int × Int × Int × Int × Int × Nat × Int × Int × Nat × List Int × List Int × Unit) : Option (Int × Int × Int × Int × Nat × Int × Int × Nat × List Int × List Int × Unit) := iterO r6_0 x
noncomputable def W6_0 : LF tC := loopW tC p6_0 0 l6_0
theorem W6_0_ok : keyed 0 (bodyOf Try.f6) = [.block 0 (.loop c6_0)] ∧ ∀ n, n ≤ 0 → Snd tC n (.block 0 (.loop c6_0)) W6_0.k := ⟨by kernel_rfl, fun n hn => loopW_ok (p := p6_0) (id := 0) Y6 (lam_le lam_nil n hn) hn r6_0_run⟩
noncomputable def c6_73 : Code := subCode (loopOf (loopOf (bodyOf Try.f6) 2) 4) 73
def p6_73 : PS := ⟨0, [4, 7, 10, 11, 12, 13, 14, 15, 16, 17], ⟨vBs 4 ++ [.one (.one (.ptr 0 0 0)), vB, vB, .one (.one (.ptr 1 0 0)), vB, vB, .one (.one (.ptr 2 0 0)), .one (.one (.ptr 3 0 0)), .one (.one (.sl 4)), vI, vI, vI, .one (.one (.ptr 5 0 0)), vI] ++ vBs 128, [.box [.int .i64, .int .i64], .box [.int .i64, .int .i64, .sl 6, .int .i64, .int .i64, .sl 7], .box [.int .i64, .int .i64, .sl 8], .box [.int .i64, .int .i64], .arr 3, .box [.int .i64, .int .i64], .arr 5, .arr 3, .arr 5]⟩, [⟨.ret, [6], ⟨vBs 6 ++ [vO] ++ vBs 139, []⟩, []⟩, ⟨.normal, [4, 7, 10, 11, 12, 13, 14, 15], ⟨vBs 4 ++ [.one (.one (.ptr 0 0 0)), vB, vB, .one (.one (.ptr 1 0 0)), vB, vB, .one (.one (.ptr 2 0 0)), .one (.one (.ptr 3 0 0)), .one (.one (.sl 4)), vI, vI, vI] ++ vBs 130, [.box [.int .i64, .int .i64], .box [.int .i64, .int .i64, .sl 5, .int .i64, .int .i64, .sl 6], .box [.int .i64, .int .i64, .sl 7], .box [.int .i64, .int .i64], .arr 3, .arr 5, .arr 3, .arr 5]⟩, []⟩], []⟩
noncomputable def j6_73 (x : Nat ×
  Int ×
    Int ×
      Int ×
        Int ×
          Int ×
            Int ×
              Int × Int × Nat × Int × Int × Nat × Int × Int × Nat × Int × Int × List Int × Int × Int × List Int × List Int × List Int × Unit) : Option
  (Bool × Unit ⊕
    Nat ×
      Int ×
        Int ×
          Int ×
            Int × Int × Int × Int × Nat × Int × Int × Nat × Int × Int × Nat × Int × Int × List Int × List Int × List Int × List Int × Unit) :=
  bif
    decide
      ((0 : Nat) + x.snd.snd.snd.snd.snd.snd.snd.snd.snd.fst ≤
        x.snd.snd.snd.snd.snd.snd.snd.snd.snd.snd.snd.snd.snd.snd.snd.snd.snd.snd.snd.snd.snd.fst.length) then
  bif
      decide
        ((0 : Nat) + x.snd.snd.snd.snd.snd.snd.snd.snd.snd.snd.snd.snd.fst ≤
          x.snd.snd.snd.snd.snd.snd.snd.snd.snd.snd.snd.snd.snd.snd.snd.snd.snd.snd.snd.snd.snd.snd.fst.length) then
    (f14
          (x.snd.snd.snd.snd.snd.snd.snd.fst, x.snd.snd.snd.snd.snd.snd.snd.snd.fst,
            List.take x.snd.snd.snd.snd.snd.snd.snd.snd.snd.fst
              (List.drop (0 : Nat) x.snd.snd.snd.snd.snd.snd.snd.snd.snd.snd.snd.snd.snd.snd.snd.snd.snd.snd.snd.snd.snd.fst),
            x.snd.snd.snd.snd.snd.snd.snd.snd.snd.snd.fst, x.snd.snd.snd.snd.snd.snd.snd.snd.snd.snd.snd.fst,
            List.take x.snd.snd.snd.snd.snd.snd.snd.snd.snd.snd.snd.snd.fst
              (List.drop (0 : Nat) x.snd.snd.snd.snd.snd.snd.snd.snd.snd.snd.snd.snd.snd.snd.snd.snd.snd.snd.snd.snd.snd.snd.fst),
            x.snd.snd.snd.snd.snd.snd.snd.snd.snd.snd.snd.snd.snd.snd.snd.snd.snd.snd.snd.fst,
            x.snd.snd.snd.snd.snd.snd.snd.snd.snd.snd.snd.snd.snd.snd.snd.snd.snd.snd.snd.snd.fst, ())).bind
      fun y158 =>
      bif y158.fst != x.snd.snd.snd.snd.fst then some (Sum.inl (false, ()))
      else
        some
          (Sum.inr
            (x.fst, x.snd.fst, x.snd.snd.fst, x.snd.snd.snd.fst, x.snd.snd.snd.snd.snd.fst, x.snd.snd.snd.snd.snd.snd.fst,
              x.snd.snd.snd.snd.snd.snd.snd.fst, x.snd.snd.snd.snd.snd.snd.snd.snd.fst, x.snd.snd.snd.snd.snd.snd.snd.snd.snd.fst,
              x.snd.snd.snd.snd.snd.snd.snd.snd.snd.snd.fst, x.snd.snd.snd.snd.snd.snd.snd.snd.snd.snd.snd.fst,
              x.snd.snd.snd.snd.snd.snd.snd.snd.snd.snd.snd.snd.fst, x.snd.snd.snd.snd.snd.snd.snd.snd.snd.snd.snd.snd.snd.fst,
              x.snd.snd.snd.snd.snd.snd.snd.snd.snd.snd.snd.snd.snd.snd.fst,
              x.snd.snd.snd.snd.snd.snd.snd.snd.snd.snd.snd.snd.snd.snd.snd.fst,
              x.snd.snd.snd.snd.snd.snd.snd.snd.snd.snd.snd.snd.snd.snd.snd.snd.fst,
              x.snd.snd.snd.snd.snd.snd.snd.snd.snd.snd.snd.snd.snd.snd.snd.snd.snd.fst,
              x.snd.snd.snd.snd.snd.snd.snd.snd.snd.snd.snd.snd.snd.snd.snd.snd.snd.snd.fst,
              x.snd.snd.snd.snd.snd.snd.snd.snd.snd.snd.snd.snd.snd.snd.snd.snd.snd.snd.snd.snd.snd.fst,
              x.snd.snd.snd.snd.snd.snd.snd.snd.snd.snd.snd.snd.snd.snd.snd.snd.snd.snd.snd.snd.snd.snd.fst,
              x.snd.snd.snd.snd.snd.snd.snd.snd.snd.snd.snd.snd.snd.snd.snd.snd.snd.snd.snd.snd.snd.snd.snd.fst, ()))
  else none
else none
theorem j6_73_run0 (v0 : Nat) (v1 : Int) (v2 : Int) (v3 : Int) (v4 : Int) (v5 : Int) (v6 : Int) (v7 : Int) (v8 : Int) (v9 : Nat) (v10 : Int) (v11 : Int) (v12 : Nat) (v13 : Int) (v14 : Int) (v15 : Nat) (v16 : Int) (v17 : Int) (v18 : List Int) (v19 : Int) (v20 : Int) (v21 : List Int) (v22 : List Int) (v23 : List Int) : pieceK tC G6 (look []) c6_73 p6_73 (v0, v1, v2, v3, v4, v5, v6, v7, v8, v9, v10, v11, v12, v13, v14, v15, v16, v17, v18, v19, v20, v21, v22, v23, ()) = j6_73 (v0, v1, v2, v3, v4, v5, v6, v7, v8, v9, v10, v11, v12, v13, v14, v15, v16, v17, v18, v19, v20, v21, v22, v23, ()) := by kernel_rfl
theorem j6_73_run (x : Nat ×
  Int ×
    Int ×
      Int ×
        Int ×
          Int ×
            Int ×
              Int × Int × Nat × Int × Int × Nat × Int × Int × Nat × Int × Int × List Int × Int × Int × List Int × List Int × List Int × Unit) : pieceK tC G6 (look []) c6_73 p6_73 x = j6_73 x := j6_73_run0 x.1 x.2.1 x.2.2.1 x.2.2.2.1 x.2.2.2.2.1 x.2.2.2.2.2.1 x.2.2.2.2.2.2.1 x.2.2.2.2.2.2.2.1 x.2.2.2.2.2.2.2.2.1 x.2.2.2.2.2.2.2.2.2.1 x.2.2.2.2.2.2.2.2.2.2.1 x.2.2.2.2.2.2.2.2.2.2.2.1 x.2.2.2.2.2.2.2.2.2.2.2.2.1 x.2.2.2.2.2.2.2.2.2.2.2.2.2.1 x.2.2.2.2.2.2.2.2.2.2.2.2.2.2.1 x.2.2.2.2.2.2.2.2.2.2.2.2.2.2.2.1 x.2.2.2.2.2.2.2.2.2.2.2.2.2.2.2.2.1 x.2.2.2.2.2.2.2.2.2.2.2.2.2.2.2.2.2.1 x.2.2.2.2.2.2.2.2.2.2.2.2.2.2.2.2.2.2.1 x.2.2.2.2.2.2.2.2.2.2.2.2.2.2.2.2.2.2.2.1 x.2.2.2.2.2.2.2.2.2.2.2.2.2.2.2.2.2.2.2.2.1 x.2.2.2.2.2.2.2.2.2.2.2.2.2.2.2.2.2.2.2.2.2.1 x.2.2.2.2.2.2.2.2.2.2.2.2.2.2.2.2.2.2.2.2.2.2.1 x.2.2.2.2.2.2.2.2.2.2.2.2.2.2.2.2.2.2.2.2.2.2.2.1
noncomputable def W6_73 : LF tC := cutLF tC p6_73 j6_73
theorem W6_73_ok : keyed 73 (loopOf (loopOf (bodyOf Try.f6) 2) 4) = [c6_73] ∧ ∀ n, n ≤ 0 → Snd tC n c6_73 W6_73.k := ⟨by kernel_rfl, fun n hn => cut_ok (p := p6_73) Y6 (lam_le lam_nil n hn) hn j6_73_run⟩
noncomputable def c6_52 : Code := subCode (loopOf (loopOf (bodyOf Try.f6) 2) 4) 52
def p6_52 : PS := ⟨0, [4, 7, 10, 11, 12, 13, 14, 15], ⟨vBs 4 ++ [.one (.one (.ptr 0 0 0)), vB, vB, .one (.one (.ptr 1 0 0)), vB, vB, .one (.one (.ptr 2 0 0)), .one (.one (.ptr 3 0 0)), .one (.one (.sl 4)), vI, vI, vI] ++ vBs 130, [.box [.int .i64, .int .i64], .box [.int .i64, .int .i64, .sl 5, .int .i64, .int .i64, .sl 6], .box [.int .i64, .int .i64, .sl 7], .box [.int .i64, .int .i64], .arr 3, .arr 5, .arr 3, .arr 5]⟩, [⟨.normal, [4, 7, 10, 11, 12, 13, 14, 15], ⟨vBs 4 ++ [.one (.one (.ptr 0 0 0)), vB, vB, .one (.one (.ptr 1 0 0)), vB, vB, .one (.one (.ptr 2 0 0)), .one (.one (.ptr 3 0 0)), .one (.one (.sl 4)), vI, vI, vI] ++ vBs 130, [.box [.int .i64, .int .i64], .box [.int .i64, .int .i64, .sl 5, .int .i64, .int .i64, .sl 6], .box [.int .i64, .int .i64, .sl 7], .box [.int .i64, .int .i64], .arr 3, .arr 5, .arr 3, .arr 5]⟩, []⟩], []⟩
noncomputable def j6_52 (x : Nat ×
  Int ×
    Int ×
      Int × Int × Int × Int × Int × Nat × Int × Int × Nat × Int × Int × Nat × Int × Int × List Int × List Int × List Int × List Int × Unit) : Option
  (Nat ×
    Int ×
      Int ×
        Int ×
          Int × Int × Int × Int × Nat × Int × Int × Nat × Int × Int × Nat × Int × Int × List Int × List Int × List Int × List Int × Unit) :=
  some
  (x.fst, x.snd.fst, x.snd.snd.fst, IntKind.i64.wrap (x.snd.snd.snd.fst + (1 : Int)), x.snd.snd.snd.snd.fst, x.snd.snd.snd.snd.snd.fst,
    x.snd.snd.snd.snd.snd.snd.fst, x.snd.snd.snd.snd.snd.snd.snd.fst, x.snd.snd.snd.snd.snd.snd.snd.snd.fst,
    x.snd.snd.snd.snd.snd.snd.snd.snd.snd.fst, x.snd.snd.snd.snd.snd.snd.snd.snd.snd.snd.fst,
    x.snd.snd.snd.snd.snd.snd.snd.snd.snd.snd.snd.fst, x.snd.snd.snd.snd.snd.snd.snd.snd.snd.snd.snd.snd.fst,
    x.snd.snd.snd.snd.snd.snd.snd.snd.snd.snd.snd.snd.snd.fst, x.snd.snd.snd.snd.snd.snd.snd.snd.snd.snd.snd.snd.snd.snd.fst,
    x.snd.snd.snd.snd.snd.snd.snd.snd.snd.snd.snd.snd.snd.snd.snd.fst,
    x.snd.snd.snd.snd.snd.snd.snd.snd.snd.snd.snd.snd.snd.snd.snd.snd.fst,
    x.snd.snd.snd.snd.snd.snd.snd.snd.snd.snd.snd.snd.snd.snd.snd.snd.snd.fst,
    x.snd.snd.snd.snd.snd.snd.snd.snd.snd.snd.snd.snd.snd.snd.snd.snd.snd.snd.fst,
    x.snd.snd.snd.snd.snd.snd.snd.snd.snd.snd.snd.snd.snd.snd.snd.snd.snd.snd.snd.fst,
    x.snd.snd.snd.snd.snd.snd.snd.snd.snd.snd.snd.snd.snd.snd.snd.snd.snd.snd.snd.snd.fst, ())
theorem j6_52_run0 (v0 : Nat) (v1 : Int) (v2 : Int) (v3 : Int) (v4 : Int) (v5 : Int) (v6 : Int) (v7 : Int) (v8 : Nat) (v9 : Int) (v10 : Int) (v11 : Nat) (v12 : Int) (v13 : Int) (v14 : Nat) (v15 : Int) (v16 : Int) (v17 : List Int) (v18 : List Int) (v19 : List Int) (v20 : List Int) : pieceK tC G6 (look []) c6_52 p6_52 (v0, v1, v2, v3, v4, v5, v6, v7, v8, v9, v10, v11, v12, v13, v14, v15, v16, v17, v18, v19, v20, ()) = j6_52 (v0, v1, v2, v3, v4, v5, v6, v7, v8, v9, v10, v11, v12, v13, v14, v15, v16, v17, v18, v19, v20, ()) := by kernel_rfl
theorem j6_52_run (x : Nat ×
  Int ×
    Int ×
      Int × Int × Int × Int × Int × Nat × Int × Int × Nat × Int × Int × Nat × Int × Int × List Int × List Int × List Int × List Int × Unit) : pieceK tC G6 (look []) c6_52 p6_52 x = j6_52 x := j6_52_run0 x.1 x.2.1 x.2.2.1 x.2.2.2.1 x.2.2.2.2.1 x.2.2.2.2.2.1 x.2.2.2.2.2.2.1 x.2.2.2.2.2.2.2.1 x.2.2.2.2.2.2.2.2.1 x.2.2.2.2.2.2.2.2.2.1 x.2.2.2.2.2.2.2.2.2.2.1 x.2.2.2.2.2.2.2.2.2.2.2.1 x.2.2.2.2.2.2.2.2.2.2.2.2.1 x.2.2.2.2.2.2.2.2.2.2.2.2.2.1 x.2.2.2.2.2.2.2.2.2.2.2.2.2.2.1 x.2.2.2.2.2.2.2.2.2.2.2.2.2.2.2.1 x.2.2.2.2.2.2.2.2.2.2.2.2.2.2.2.2.1 x.2.2.2.2.2.2.2.2.2.2.2.2.2.2.2.2.2.1 x.2.2.2.2.2.2.2.2.2.2.2.2.2.2.2.2.2.2.1 x.2.2.2.2.2.2.2.2.2.2.2.2.2.2.2.2.2.2.2.1 x.2.2.2.2.2.2.2.2.2.2.2.2.2.2.2.2.2.2.2.2.1
noncomputable def W6_52 : LF tC := cutLF tC p6_52 j6_52
theorem W6_52_ok : keyed 52 (loopOf (loopOf (bodyOf Try.f6) 2) 4) = [c6_52] ∧ ∀ n, n ≤ 0 → Snd tC n c6_52 W6_52.k := ⟨by kernel_rfl, fun n hn => cut_ok (p := p6_52) Y6 (lam_le lam_nil n hn) hn j6_52_run⟩
noncomputable def c6_12 : Code := loopOf (loopOf (bodyOf Try.f6) 2) 4
def p6_12 : LS := ⟨0, [4, 7, 10, 11, 12, 13, 14, 15], ⟨vBs 4 ++ [.one (.one (.ptr 0 0 0)), vB, vB, .one (.one (.ptr 1 0 0)), vB, vB, .one (.one (.ptr 2 0 0)), .one (.one (.ptr 3 0 0)), .one (.one (.sl 4)), vI, vI, vI] ++ vBs 130, [.box [.int .i64, .int .i64], .box [.int .i64, .int .i64, .sl 5, .int .i64, .int .i64, .sl 6], .box [.int .i64, .int .i64, .sl 7], .box [.int .i64, .int .i64], .arr 3, .arr 5, .arr 3, .arr 5]⟩, [⟨.ret, [6], ⟨vBs 6 ++ [vO] ++ vBs 139, []⟩, []⟩, ⟨.exit 4, [4, 7, 10, 11, 12, 13, 14], ⟨vBs 4 ++ [.one (.one (.ptr 0 0 0)), vB, vB, .one (.one (.ptr 1 0 0)), vB, vB, .one (.one (.ptr 2 0 0)), .one (.one (.ptr 3 0 0)), .one (.one (.sl 4)), vI, vI] ++ vBs 131, [.box [.int .i64, .int .i64], .box [.int .i64, .int .i64, .sl 5, .int .i64, .int .i64, .sl 6], .box [.int .i64, .int .i64, .sl 7], .box [.int .i64, .int .i64], .arr 3, .arr 5, .arr 3, .arr 5]⟩, []⟩], []⟩
noncomputable def r6_12 (x : Nat ×
  Int ×
    Int ×
      Int × Int × Int × Int × Int × Nat × Int × Int × Nat × Int × Int × Nat × Int × Int × List Int × List Int × List Int × List Int × Unit) : Option
  (Nat ×
      Int ×
        Int ×
          Int ×
            Int × Int × Int × Int × Nat × Int × Int × Nat × Int × Int × Nat × Int × Int × List Int × List Int × List Int × List Int × Unit ⊕
    Bool × Unit ⊕
      Nat ×
        Int ×
          Int ×
            Int × Int × Int × Int × Nat × Int × Int × Nat × Int × Int × Nat × Int × Int × List Int × List Int × List Int × List Int × Unit) :=
  bif decide (x.snd.snd.snd.fst ≤ x.snd.snd.snd.snd.snd.snd.snd.snd.snd.snd.snd.snd.fst) then
  bif decide (x.snd.snd.snd.fst < (101 : Int)) then
    bif x.snd.fst == (0 : Int) then
      bif
          decide
            ((0 : Nat) + x.snd.snd.snd.snd.snd.snd.snd.snd.snd.snd.snd.snd.snd.snd.fst ≤
              x.snd.snd.snd.snd.snd.snd.snd.snd.snd.snd.snd.snd.snd.snd.snd.snd.snd.snd.snd.snd.fst.length) then
        bif
            f12 x.snd.snd.snd.snd.snd.snd.snd.snd.snd.snd.snd.snd.fst x.snd.snd.snd.snd.snd.snd.snd.snd.snd.snd.snd.snd.snd.fst
              (List.take x.snd.snd.snd.snd.snd.snd.snd.snd.snd.snd.snd.snd.snd.snd.fst
                (List.drop (0 : Nat) x.snd.snd.snd.snd.snd.snd.snd.snd.snd.snd.snd.snd.snd.snd.snd.snd.snd.snd.snd.snd.fst))
              x.snd.snd.snd.fst x.snd.snd.fst then
          bif
              decide
                (IntKind.i64.wrap
                    (IntKind.i64.wrap (x.snd.snd.fst * x.snd.snd.snd.snd.snd.snd.snd.snd.snd.snd.snd.snd.fst) + x.snd.snd.snd.fst) ≥
                  (↑x.fst : Int)) then
            some (Sum.inr (Sum.inl (false, ())))
          else
            bif
                decide
                    ((0 : Int) ≤
                      IntKind.i64.wrap
                        (IntKind.i64.wrap (x.snd.snd.fst * x.snd.snd.snd.snd.snd.snd.snd.snd.snd.snd.snd.snd.fst) + x.snd.snd.snd.fst)) &&
                  decide
                    (IntKind.i64.wrap
                        (IntKind.i64.wrap (x.snd.snd.fst * x.snd.snd.snd.snd.snd.snd.snd.snd.snd.snd.snd.snd.fst) + x.snd.snd.snd.fst) <
                      (↑x.fst : Int)) then
              x.snd.snd.snd.snd.snd.snd.snd.snd.snd.snd.snd.snd.snd.snd.snd.snd.snd.fst[(0 : Nat) +
                      (IntKind.i64.wrap
                          (IntKind.i64.wrap (x.snd.snd.fst * x.snd.snd.snd.snd.snd.snd.snd.snd.snd.snd.snd.snd.fst) +
                            x.snd.snd.snd.fst)).toNat]?.bind
                fun y355 =>
                (j6_73
                      (x.fst, x.snd.fst, x.snd.snd.fst, x.snd.snd.snd.fst, y355, x.snd.snd.snd.snd.fst, x.snd.snd.snd.snd.snd.fst,
                        x.snd.snd.snd.snd.snd.snd.fst, x.snd.snd.snd.snd.snd.snd.snd.fst, x.snd.snd.snd.snd.snd.snd.snd.snd.fst,
                        x.snd.snd.snd.snd.snd.snd.snd.snd.snd.fst, x.snd.snd.snd.snd.snd.snd.snd.snd.snd.snd.fst,
                        x.snd.snd.snd.snd.snd.snd.snd.snd.snd.snd.snd.fst, x.snd.snd.snd.snd.snd.snd.snd.snd.snd.snd.snd.snd.fst,
                        x.snd.snd.snd.snd.snd.snd.snd.snd.snd.snd.snd.snd.snd.fst,
                        x.snd.snd.snd.snd.snd.snd.snd.snd.snd.snd.snd.snd.snd.snd.fst,
                        x.snd.snd.snd.snd.snd.snd.snd.snd.snd.snd.snd.snd.snd.snd.snd.fst,
                        x.snd.snd.snd.snd.snd.snd.snd.snd.snd.snd.snd.snd.snd.snd.snd.snd.fst,
                        x.snd.snd.snd.snd.snd.snd.snd.snd.snd.snd.snd.snd.snd.snd.snd.snd.snd.fst, x.snd.snd.snd.fst, x.snd.snd.fst,
                        x.snd.snd.snd.snd.snd.snd.snd.snd.snd.snd.snd.snd.snd.snd.snd.snd.snd.snd.fst,
                        x.snd.snd.snd.snd.snd.snd.snd.snd.snd.snd.snd.snd.snd.snd.snd.snd.snd.snd.snd.fst,
                        x.snd.snd.snd.snd.snd.snd.snd.snd.snd.snd.snd.snd.snd.snd.snd.snd.snd.snd.snd.snd.fst, ())).bind
                  fun y354 =>
                  Sum.elim (fun y351 => some (Sum.inr (Sum.inl (y351.fst, ()))))
                    (fun y353 =>
                      (j6_52
                            (y353.fst, y353.snd.fst, y353.snd.snd.fst, y353.snd.snd.snd.fst, y353.snd.snd.snd.snd.fst,
                              y353.snd.snd.snd.snd.snd.fst, y353.snd.snd.snd.snd.snd.snd.fst, y353.snd.snd.snd.snd.snd.snd.snd.fst,
                              y353.snd.snd.snd.snd.snd.snd.snd.snd.fst, y353.snd.snd.snd.snd.snd.snd.snd.snd.snd.fst,
                              y353.snd.snd.snd.snd.snd.snd.snd.snd.snd.snd.fst, y353.snd.snd.snd.snd.snd.snd.snd.snd.snd.snd.snd.fst,
                              y353.snd.snd.snd.snd.snd.snd.snd.snd.snd.snd.snd.snd.fst,
                              y353.snd.snd.snd.snd.snd.snd.snd.snd.snd.snd.snd.snd.snd.fst,
                              y353.snd.snd.snd.snd.snd.snd.snd.snd.snd.snd.snd.snd.snd.snd.fst,
                              y353.snd.snd.snd.snd.snd.snd.snd.snd.snd.snd.snd.snd.snd.snd.snd.fst,
                              y353.snd.snd.snd.snd.snd.snd.snd.snd.snd.snd.snd.snd.snd.snd.snd.snd.fst,
                              y353.snd.snd.snd.snd.snd.snd.snd.snd.snd.snd.snd.snd.snd.snd.snd.snd.snd.fst,
                              y353.snd.snd.snd.snd.snd.snd.snd.snd.snd.snd.snd.snd.snd.snd.snd.snd.snd.snd.fst,
                              y353.snd.snd.snd.snd.snd.snd.snd.snd.snd.snd.snd.snd.snd.snd.snd.snd.snd.snd.snd.fst,
                              y353.snd.snd.snd.snd.snd.snd.snd.snd.snd.snd.snd.snd.snd.snd.snd.snd.snd.snd.snd.snd.fst, ())).bind
                        fun y352 =>
                        some
                          (Sum.inl
                            (y352.fst, y352.snd.fst, y352.snd.snd.fst, y352.snd.snd.snd.fst, y352.snd.snd.snd.snd.fst,
                              y352.snd.snd.snd.snd.snd.fst, y352.snd.snd.snd.snd.snd.snd.fst, y352.snd.snd.snd.snd.snd.snd.snd.fst,
                              y352.snd.snd.snd.snd.snd.snd.snd.snd.fst, y352.snd.snd.snd.snd.snd.snd.snd.snd.snd.fst,
                              y352.snd.snd.snd.snd.snd.snd.snd.snd.snd.snd.fst, y352.snd.snd.snd.snd.snd.snd.snd.snd.snd.snd.snd.fst,
                              y352.snd.snd.snd.snd.snd.snd.snd.snd.snd.snd.snd.snd.fst,
                              y352.snd.snd.snd.snd.snd.snd.snd.snd.snd.snd.snd.snd.snd.fst,
                              y352.snd.snd.snd.snd.snd.snd.snd.snd.snd.snd.snd.snd.snd.snd.fst,
                              y352.snd.snd.snd.snd.snd.snd.snd.snd.snd.snd.snd.snd.snd.snd.snd.fst,
                              y352.snd.snd.snd.snd.snd.snd.snd.snd.snd.snd.snd.snd.snd.snd.snd.snd.fst,
                              y352.snd.snd.snd.snd.snd.snd.snd.snd.snd.snd.snd.snd.snd.snd.snd.snd.snd.fst,
                              y352.snd.snd.snd.snd.snd.snd.snd.snd.snd.snd.snd.snd.snd.snd.snd.snd.snd.snd.fst,
                              y352.snd.snd.snd.snd.snd.snd.snd.snd.snd.snd.snd.snd.snd.snd.snd.snd.snd.snd.snd.fst,
                              y352.snd.snd.snd.snd.snd.snd.snd.snd.snd.snd.snd.snd.snd.snd.snd.snd.snd.snd.snd.snd.fst, ())))
                    y354
            else none
        else
          (j6_73
                (x.fst, x.snd.fst, x.snd.snd.fst, x.snd.snd.snd.fst, (-1 : Int), x.snd.snd.snd.snd.fst, x.snd.snd.snd.snd.snd.fst,
                  x.snd.snd.snd.snd.snd.snd.fst, x.snd.snd.snd.snd.snd.snd.snd.fst, x.snd.snd.snd.snd.snd.snd.snd.snd.fst,
                  x.snd.snd.snd.snd.snd.snd.snd.snd.snd.fst, x.snd.snd.snd.snd.snd.snd.snd.snd.snd.snd.fst,
                  x.snd.snd.snd.snd.snd.snd.snd.snd.snd.snd.snd.fst, x.snd.snd.snd.snd.snd.snd.snd.snd.snd.snd.snd.snd.fst,
                  x.snd.snd.snd.snd.snd.snd.snd.snd.snd.snd.snd.snd.snd.fst, x.snd.snd.snd.snd.snd.snd.snd.snd.snd.snd.snd.snd.snd.snd.fst,
                  x.snd.snd.snd.snd.snd.snd.snd.snd.snd.snd.snd.snd.snd.snd.snd.fst,
                  x.snd.snd.snd.snd.snd.snd.snd.snd.snd.snd.snd.snd.snd.snd.snd.snd.fst,
                  x.snd.snd.snd.snd.snd.snd.snd.snd.snd.snd.snd.snd.snd.snd.snd.snd.snd.fst, x.snd.snd.snd.fst, x.snd.snd.fst,
                  x.snd.snd.snd.snd.snd.snd.snd.snd.snd.snd.snd.snd.snd.snd.snd.snd.snd.snd.fst,
                  x.snd.snd.snd.snd.snd.snd.snd.snd.snd.snd.snd.snd.snd.snd.snd.snd.snd.snd.snd.fst,
                  x.snd.snd.snd.snd.snd.snd.snd.snd.snd.snd.snd.snd.snd.snd.snd.snd.snd.snd.snd.snd.fst, ())).bind
            fun y359 =>
            Sum.elim (fun y356 => some (Sum.inr (Sum.inl (y356.fst, ()))))
              (fun y358 =>
                (j6_52
                      (y358.fst, y358.snd.fst, y358.snd.snd.fst, y358.snd.snd.snd.fst, y358.snd.snd.snd.snd.fst,
                        y358.snd.snd.snd.snd.snd.fst, y358.snd.snd.snd.snd.snd.snd.fst, y358.snd.snd.snd.snd.snd.snd.snd.fst,
                        y358.snd.snd.snd.snd.snd.snd.snd.snd.fst, y358.snd.snd.snd.snd.snd.snd.snd.snd.snd.fst,
                        y358.snd.snd.snd.snd.snd.snd.snd.snd.snd.snd.fst, y358.snd.snd.snd.snd.snd.snd.snd.snd.snd.snd.snd.fst,
                        y358.snd.snd.snd.snd.snd.snd.snd.snd.snd.snd.snd.snd.fst,
                        y358.snd.snd.snd.snd.snd.snd.snd.snd.snd.snd.snd.snd.snd.fst,
                        y358.snd.snd.snd.snd.snd.snd.snd.snd.snd.snd.snd.snd.snd.snd.fst,
                        y358.snd.snd.snd.snd.snd.snd.snd.snd.snd.snd.snd.snd.snd.snd.snd.fst,
                        y358.snd.snd.snd.snd.snd.snd.snd.snd.snd.snd.snd.snd.snd.snd.snd.snd.fst,
                        y358.snd.snd.snd.snd.snd.snd.snd.snd.snd.snd.snd.snd.snd.snd.snd.snd.snd.fst,
                        y358.snd.snd.snd.snd.snd.snd.snd.snd.snd.snd.snd.snd.snd.snd.snd.snd.snd.snd.fst,
                        y358.snd.snd.snd.snd.snd.snd.snd.snd.snd.snd.snd.snd.snd.snd.snd.snd.snd.snd.snd.fst,
                        y358.snd.snd.snd.snd.snd.snd.snd.snd.snd.snd.snd.snd.snd.snd.snd.snd.snd.snd.snd.snd.fst, ())).bind
                  fun y357 =>
                  some
                    (Sum.inl
                      (y357.fst, y357.snd.fst, y357.snd.snd.fst, y357.snd.snd.snd.fst, y357.snd.snd.snd.snd.fst,
                        y357.snd.snd.snd.snd.snd.fst, y357.snd.snd.snd.snd.snd.snd.fst, y357.snd.snd.snd.snd.snd.snd.snd.fst,
                        y357.snd.snd.snd.snd.snd.snd.snd.snd.fst, y357.snd.snd.snd.snd.snd.snd.snd.snd.snd.fst,
                        y357.snd.snd.snd.snd.snd.snd.snd.snd.snd.snd.fst, y357.snd.snd.snd.snd.snd.snd.snd.snd.snd.snd.snd.fst,
                        y357.snd.snd.snd.snd.snd.snd.snd.snd.snd.snd.snd.snd.fst,
                        y357.snd.snd.snd.snd.snd.snd.snd.snd.snd.snd.snd.snd.snd.fst,
                        y357.snd.snd.snd.snd.snd.snd.snd.snd.snd.snd.snd.snd.snd.snd.fst,
                        y357.snd.snd.snd.snd.snd.snd.snd.snd.snd.snd.snd.snd.snd.snd.snd.fst,
                        y357.snd.snd.snd.snd.snd.snd.snd.snd.snd.snd.snd.snd.snd.snd.snd.snd.fst,
                        y357.snd.snd.snd.snd.snd.snd.snd.snd.snd.snd.snd.snd.snd.snd.snd.snd.snd.fst,
                        y357.snd.snd.snd.snd.snd.snd.snd.snd.snd.snd.snd.snd.snd.snd.snd.snd.snd.snd.fst,
                        y357.snd.snd.snd.snd.snd.snd.snd.snd.snd.snd.snd.snd.snd.snd.snd.snd.snd.snd.snd.fst,
                        y357.snd.snd.snd.snd.snd.snd.snd.snd.snd.snd.snd.snd.snd.snd.snd.snd.snd.snd.snd.snd.fst, ())))
              y359
      else none
    else
      (j6_73
            (x.fst, x.snd.fst, x.snd.snd.fst, x.snd.snd.snd.fst, (-1 : Int), x.snd.snd.snd.snd.fst, x.snd.snd.snd.snd.snd.fst,
              x.snd.snd.snd.snd.snd.snd.fst, x.snd.snd.snd.snd.snd.snd.snd.fst, x.snd.snd.snd.snd.snd.snd.snd.snd.fst,
              x.snd.snd.snd.snd.snd.snd.snd.snd.snd.fst, x.snd.snd.snd.snd.snd.snd.snd.snd.snd.snd.fst,
              x.snd.snd.snd.snd.snd.snd.snd.snd.snd.snd.snd.fst, x.snd.snd.snd.snd.snd.snd.snd.snd.snd.snd.snd.snd.fst,
              x.snd.snd.snd.snd.snd.snd.snd.snd.snd.snd.snd.snd.snd.fst, x.snd.snd.snd.snd.snd.snd.snd.snd.snd.snd.snd.snd.snd.snd.fst,
              x.snd.snd.snd.snd.snd.snd.snd.snd.snd.snd.snd.snd.snd.snd.snd.fst,
              x.snd.snd.snd.snd.snd.snd.snd.snd.snd.snd.snd.snd.snd.snd.snd.snd.fst,
              x.snd.snd.snd.snd.snd.snd.snd.snd.snd.snd.snd.snd.snd.snd.snd.snd.snd.fst, x.snd.snd.snd.fst, x.snd.snd.fst,
              x.snd.snd.snd.snd.snd.snd.snd.snd.snd.snd.snd.snd.snd.snd.snd.snd.snd.snd.fst,
              x.snd.snd.snd.snd.snd.snd.snd.snd.snd.snd.snd.snd.snd.snd.snd.snd.snd.snd.snd.fst,
              x.snd.snd.snd.snd.snd.snd.snd.snd.snd.snd.snd.snd.snd.snd.snd.snd.snd.snd.snd.snd.fst, ())).bind
        fun y363 =>
        Sum.elim (fun y360 => some (Sum.inr (Sum.inl (y360.fst, ()))))
          (fun y362 =>
            (j6_52
                  (y362.fst, y362.snd.fst, y362.snd.snd.fst, y362.snd.snd.snd.fst, y362.snd.snd.snd.snd.fst, y362.snd.snd.snd.snd.snd.fst,
                    y362.snd.snd.snd.snd.snd.snd.fst, y362.snd.snd.snd.snd.snd.snd.snd.fst, y362.snd.snd.snd.snd.snd.snd.snd.snd.fst,
                    y362.snd.snd.snd.snd.snd.snd.snd.snd.snd.fst, y362.snd.snd.snd.snd.snd.snd.snd.snd.snd.snd.fst,
                    y362.snd.snd.snd.snd.snd.snd.snd.snd.snd.snd.snd.fst, y362.snd.snd.snd.snd.snd.snd.snd.snd.snd.snd.snd.snd.fst,
                    y362.snd.snd.snd.snd.snd.snd.snd.snd.snd.snd.snd.snd.snd.fst,
                    y362.snd.snd.snd.snd.snd.snd.snd.snd.snd.snd.snd.snd.snd.snd.fst,
                    y362.snd.snd.snd.snd.snd.snd.snd.snd.snd.snd.snd.snd.snd.snd.snd.fst,
                    y362.snd.snd.snd.snd.snd.snd.snd.snd.snd.snd.snd.snd.snd.snd.snd.snd.fst,
                    y362.snd.snd.snd.snd.snd.snd.snd.snd.snd.snd.snd.snd.snd.snd.snd.snd.snd.fst,
                    y362.snd.snd.snd.snd.snd.snd.snd.snd.snd.snd.snd.snd.snd.snd.snd.snd.snd.snd.fst,
                    y362.snd.snd.snd.snd.snd.snd.snd.snd.snd.snd.snd.snd.snd.snd.snd.snd.snd.snd.snd.fst,
                    y362.snd.snd.snd.snd.snd.snd.snd.snd.snd.snd.snd.snd.snd.snd.snd.snd.snd.snd.snd.snd.fst, ())).bind
              fun y361 =>
              some
                (Sum.inl
                  (y361.fst, y361.snd.fst, y361.snd.snd.fst, y361.snd.snd.snd.fst, y361.snd.snd.snd.snd.fst, y361.snd.snd.snd.snd.snd.fst,
                    y361.snd.snd.snd.snd.snd.snd.fst, y361.snd.snd.snd.snd.snd.snd.snd.fst, y361.snd.snd.snd.snd.snd.snd.snd.snd.fst,
                    y361.snd.snd.snd.snd.snd.snd.snd.snd.snd.fst, y361.snd.snd.snd.snd.snd.snd.snd.snd.snd.snd.fst,
                    y361.snd.snd.snd.snd.snd.snd.snd.snd.snd.snd.snd.fst, y361.snd.snd.snd.snd.snd.snd.snd.snd.snd.snd.snd.snd.fst,
                    y361.snd.snd.snd.snd.snd.snd.snd.snd.snd.snd.snd.snd.snd.fst,
                    y361.snd.snd.snd.snd.snd.snd.snd.snd.snd.snd.snd.snd.snd.snd.fst,
                    y361.snd.snd.snd.snd.snd.snd.snd.snd.snd.snd.snd.snd.snd.snd.snd.fst,
                    y361.snd.snd.snd.snd.snd.snd.snd.snd.snd.snd.snd.snd.snd.snd.snd.snd.fst,
                    y361.snd.snd.snd.snd.snd.snd.snd.snd.snd.snd.snd.snd.snd.snd.snd.snd.snd.fst,
                    y361.snd.snd.snd.snd.snd.snd.snd.snd.snd.snd.snd.snd.snd.snd.snd.snd.snd.snd.fst,
                    y361.snd.snd.snd.snd.snd.snd.snd.snd.snd.snd.snd.snd.snd.snd.snd.snd.snd.snd.snd.fst,
                    y361.snd.snd.snd.snd.snd.snd.snd.snd.snd.snd.snd.snd.snd.snd.snd.snd.snd.snd.snd.snd.fst, ())))
          y363
  else
    some
      (Sum.inr
        (Sum.inr
          (x.fst, x.snd.fst, x.snd.snd.fst, x.snd.snd.snd.snd.fst, x.snd.snd.snd.snd.snd.fst, x.snd.snd.snd.snd.snd.snd.fst,
            x.snd.snd.snd.snd.snd.snd.snd.fst, x.snd.snd.snd.snd.snd.snd.snd.snd.fst, x.snd.snd.snd.snd.snd.snd.snd.snd.snd.fst,
            x.snd.snd.snd.snd.snd.snd.snd.snd.snd.snd.fst, x.snd.snd.snd.snd.snd.snd.snd.snd.snd.snd.snd.fst,
            x.snd.snd.snd.snd.snd.snd.snd.snd.snd.snd.snd.snd.fst, x.snd.snd.snd.snd.snd.snd.snd.snd.snd.snd.snd.snd.snd.fst,
            x.snd.snd.snd.snd.snd.snd.snd.snd.snd.snd.snd.snd.snd.snd.fst,
            x.snd.snd.snd.snd.snd.snd.snd.snd.snd.snd.snd.snd.snd.snd.snd.fst,
            x.snd.snd.snd.snd.snd.snd.snd.snd.snd.snd.snd.snd.snd.snd.snd.snd.fst,
            x.snd.snd.snd.snd.snd.snd.snd.snd.snd.snd.snd.snd.snd.snd.snd.snd.snd.fst,
            x.snd.snd.snd.snd.snd.snd.snd.snd.snd.snd.snd.snd.snd.snd.snd.snd.snd.snd.fst,
            x.snd.snd.snd.snd.snd.snd.snd.snd.snd.snd.snd.snd.snd.snd.snd.snd.snd.snd.snd.fst,
            x.snd.snd.snd.snd.snd.snd.snd.snd.snd.snd.snd.snd.snd.snd.snd.snd.snd.snd.snd.snd.fst, ())))
else
  some
    (Sum.inr
      (Sum.inr
        (x.fst, x.snd.fst, x.snd.snd.fst, x.snd.snd.snd.snd.fst, x.snd.snd.snd.snd.snd.fst, x.snd.snd.snd.snd.snd.snd.fst,
          x.snd.snd.snd.snd.snd.snd.snd.fst, x.snd.snd.snd.snd.snd.snd.snd.snd.fst, x.snd.snd.snd.snd.snd.snd.snd.snd.snd.fst,
          x.snd.snd.snd.snd.snd.snd.snd.snd.snd.snd.fst, x.snd.snd.snd.snd.snd.snd.snd.snd.snd.snd.snd.fst,
          x.snd.snd.snd.snd.snd.snd.snd.snd.snd.snd.snd.snd.fst, x.snd.snd.snd.snd.snd.snd.snd.snd.snd.snd.snd.snd.snd.fst,
          x.snd.snd.snd.snd.snd.snd.snd.snd.snd.snd.snd.snd.snd.snd.fst, x.snd.snd.snd.snd.snd.snd.snd.snd.snd.snd.snd.snd.snd.snd.snd.fst,
          x.snd.snd.snd.snd.snd.snd.snd.snd.snd.snd.snd.snd.snd.snd.snd.snd.fst,
          x.snd.snd.snd.snd.snd.snd.snd.snd.snd.snd.snd.snd.snd.snd.snd.snd.snd.fst,
          x.snd.snd.snd.snd.snd.snd.snd.snd.snd.snd.snd.snd.snd.snd.snd.snd.snd.snd.fst,
          x.snd.snd.snd.snd.snd.snd.snd.snd.snd.snd.snd.snd.snd.snd.snd.snd.snd.snd.snd.fst,
          x.snd.snd.snd.snd.snd.snd.snd.snd.snd.snd.snd.snd.snd.snd.snd.snd.snd.snd.snd.snd.fst, ())))
theorem r6_12_run0 (v0 : Nat) (v1 : Int) (v2 : Int) (v3 : Int) (v4 : Int) (v5 : Int) (v6 : Int) (v7 : Int) (v8 : Nat) (v9 : Int) (v10 : Int) (v11 : Nat) (v12 : Int) (v13 : Int) (v14 : Nat) (v15 : Int) (v16 : Int) (v17 : List Int) (v18 : List Int) (v19 : List Int) (v20 : List Int) : roundK tC G6 (look [(73, W6_73), (52, W6_52)]) c6_12 p6_12 (v0, v1, v2, v3, v4, v5, v6, v7, v8, v9, v10, v11, v12, v13, v14, v15, v16, v17, v18, v19, v20, ()) = r6_12 (v0, v1, v2, v3, v4, v5, v6, v7, v8, v9, v10, v11, v12, v13, v14, v15, v16, v17, v18, v19, v20, ()) := by kernel_rfl
theorem r6_12_run (x : Nat ×
  Int ×
    Int ×
      Int × Int × Int × Int × Int × Nat × Int × Int × Nat × Int × Int × Nat × Int × Int × List Int × List Int × List Int × List Int × Unit) : roundK tC G6 (look [(73, W6_73), (52, W6_52)]) c6_12 p6_12 x = r6_12 x := r6_12_run0 x.1 x.2.1 x.2.2.1 x.2.2.2.1 x.2.2.2.2.1 x.2.2.2.2.2.1 x.2.2.2.2.2.2.1 x.2.2.2.2.2.2.2.1 x.2.2.2.2.2.2.2.2.1 x.2.2.2.2.2.2.2.2.2.1 x.2.2.2.2.2.2.2.2.2.2.1 x.2.2.2.2.2.2.2.2.2.2.2.1 x.2.2.2.2.2.2.2.2.2.2.2.2.1 x.2.2.2.2.2.2.2.2.2.2.2.2.2.1 x.2.2.2.2.2.2.2.2.2.2.2.2.2.2.1 x.2.2.2.2.2.2.2.2.2.2.2.2.2.2.2.1 x.2.2.2.2.2.2.2.2.2.2.2.2.2.2.2.2.1 x.2.2.2.2.2.2.2.2.2.2.2.2.2.2.2.2.2.1 x.2.2.2.2.2.2.2.2.2.2.2.2.2.2.2.2.2.2.1 x.2.2.2.2.2.2.2.2.2.2.2.2.2.2.2.2.2.2.2.1 x.2.2.2.2.2.2.2.2.2.2.2.2.2.2.2.2.2.2.2.2.1
noncomputable def l6_12 (x : Nat ×
  Int ×
    Int ×
      Int × Int × Int × Int × Int × Nat × Int × Int × Nat × Int × Int × Nat × Int × Int × List Int × List Int × List Int × List Int × Unit) : Option
  (Bool × Unit ⊕
    Nat ×
      Int ×
        Int ×
          Int × Int × Int × Int × Nat × Int × Int × Nat × Int × Int × Nat × Int × Int × List Int × List Int × List Int × List Int × Unit) := iterO r6_12 x
noncomputable def W6_12 : LF tC := loopW tC p6_12 4 l6_12
theorem W6_12_ok : keyed 12 (loopOf (bodyOf Try.f6) 2) = [.block 4 (.loop c6_12)] ∧ ∀ n, n ≤ 0 → Snd tC n (.block 4 (.loop c6_12)) W6_12.k := ⟨by kernel_rfl, fun n hn => loopW_ok (p := p6_12) (id := 4) Y6 (lam_le (lam_cons W6_73_ok (lam_cons W6_52_ok lam_nil)) n hn) hn r6_12_run⟩
noncomputable def c6_6 : Code := loopOf (bodyOf Try.f6) 2
def p6_6 : LS := ⟨0, [4, 7, 10, 11, 12, 13, 14], ⟨vBs 4 ++ [.one (.one (.ptr 0 0 0)), vB, vB, .one (.one (.ptr 1 0 0)), vB, vB, .one (.one (.ptr 2 0 0)), .one (.one (.ptr 3 0 0)), .one (.one (.sl 4)), vI, vI] ++ vBs 131, [.box [.int .i64, .int .i64], .box [.int .i64, .int .i64, .sl 5, .int .i64, .int .i64, .sl 6], .box [.int .i64, .int .i64, .sl 7], .box [.int .i64, .int .i64], .arr 3, .arr 5, .arr 3, .arr 5]⟩, [⟨.ret, [6], ⟨vBs 6 ++ [vO] ++ vBs 139, []⟩, []⟩, ⟨.exit 2, [4, 7, 10, 11], ⟨vBs 4 ++ [.one (.one (.ptr 0 0 0)), vB, vB, .one (.one (.ptr 1 0 0)), vB, vB, .one (.one (.ptr 2 0 0)), .one (.one (.ptr 3 0 0))] ++ vBs 134, [.box [.int .i64, .int .i64], .box [.int .i64, .int .i64, .sl 4, .int .i64, .int .i64, .sl 5], .box [.int .i64, .int .i64, .sl 6], .box [.int .i64, .int .i64], .arr 5, .arr 3, .arr 5]⟩, []⟩], []⟩
noncomputable def r6_6 (x : Nat ×
  Int × Int × Int × Int × Int × Int × Nat × Int × Int × Nat × Int × Int × Nat × Int × Int × List Int × List Int × List Int × List Int × Unit) : Option
  (Nat ×
      Int ×
        Int ×
          Int × Int × Int × Int × Nat × Int × Int × Nat × Int × Int × Nat × Int × Int × List Int × List Int × List Int × List Int × Unit ⊕
    Bool × Unit ⊕ Int × Int × Int × Int × Nat × Int × Int × Nat × Int × Int × Nat × Int × Int × List Int × List Int × List Int × Unit) :=
  bif decide (x.snd.snd.fst ≤ x.snd.snd.snd.snd.snd.snd.snd.snd.snd.snd.snd.snd.fst) then
  bif decide (x.snd.snd.fst < (12 : Int)) then
    (l6_12
          (x.fst, x.snd.fst, x.snd.snd.fst, (-1 : Int), x.snd.snd.snd.fst, x.snd.snd.snd.snd.fst, x.snd.snd.snd.snd.snd.fst,
            x.snd.snd.snd.snd.snd.snd.fst, x.snd.snd.snd.snd.snd.snd.snd.fst, x.snd.snd.snd.snd.snd.snd.snd.snd.fst,
            x.snd.snd.snd.snd.snd.snd.snd.snd.snd.fst, x.snd.snd.snd.snd.snd.snd.snd.snd.snd.snd.fst,
            x.snd.snd.snd.snd.snd.snd.snd.snd.snd.snd.snd.fst, x.snd.snd.snd.snd.snd.snd.snd.snd.snd.snd.snd.snd.fst,
            x.snd.snd.snd.snd.snd.snd.snd.snd.snd.snd.snd.snd.snd.fst, x.snd.snd.snd.snd.snd.snd.snd.snd.snd.snd.snd.snd.snd.snd.fst,
            x.snd.snd.snd.snd.snd.snd.snd.snd.snd.snd.snd.snd.snd.snd.snd.fst,
            x.snd.snd.snd.snd.snd.snd.snd.snd.snd.snd.snd.snd.snd.snd.snd.snd.fst,
            x.snd.snd.snd.snd.snd.snd.snd.snd.snd.snd.snd.snd.snd.snd.snd.snd.snd.fst,
            x.snd.snd.snd.snd.snd.snd.snd.snd.snd.snd.snd.snd.snd.snd.snd.snd.snd.snd.fst,
            x.snd.snd.snd.snd.snd.snd.snd.snd.snd.snd.snd.snd.snd.snd.snd.snd.snd.snd.snd.fst, ())).bind
      fun y404 =>
      Sum.elim (fun y402 => some (Sum.inr (Sum.inl (y402.fst, ()))))
        (fun y403 =>
          some
            (Sum.inl
              (y403.fst, y403.snd.fst, IntKind.i64.wrap (y403.snd.snd.fst + (1 : Int)), y403.snd.snd.snd.fst, y403.snd.snd.snd.snd.fst,
                y403.snd.snd.snd.snd.snd.fst, y403.snd.snd.snd.snd.snd.snd.fst, y403.snd.snd.snd.snd.snd.snd.snd.fst,
                y403.snd.snd.snd.snd.snd.snd.snd.snd.fst, y403.snd.snd.snd.snd.snd.snd.snd.snd.snd.fst,
                y403.snd.snd.snd.snd.snd.snd.snd.snd.snd.snd.fst, y403.snd.snd.snd.snd.snd.snd.snd.snd.snd.snd.snd.fst,
                y403.snd.snd.snd.snd.snd.snd.snd.snd.snd.snd.snd.snd.fst, y403.snd.snd.snd.snd.snd.snd.snd.snd.snd.snd.snd.snd.snd.fst,
                y403.snd.snd.snd.snd.snd.snd.snd.snd.snd.snd.snd.snd.snd.snd.fst,
                y403.snd.snd.snd.snd.snd.snd.snd.snd.snd.snd.snd.snd.snd.snd.snd.fst,
                y403.snd.snd.snd.snd.snd.snd.snd.snd.snd.snd.snd.snd.snd.snd.snd.snd.fst,
                y403.snd.snd.snd.snd.snd.snd.snd.snd.snd.snd.snd.snd.snd.snd.snd.snd.snd.fst,
                y403.snd.snd.snd.snd.snd.snd.snd.snd.snd.snd.snd.snd.snd.snd.snd.snd.snd.snd.fst,
                y403.snd.snd.snd.snd.snd.snd.snd.snd.snd.snd.snd.snd.snd.snd.snd.snd.snd.snd.snd.fst, ())))
        y404
  else
    some
      (Sum.inr
        (Sum.inr
          (x.snd.snd.snd.fst, x.snd.snd.snd.snd.fst, x.snd.snd.snd.snd.snd.fst, x.snd.snd.snd.snd.snd.snd.fst,
            x.snd.snd.snd.snd.snd.snd.snd.fst, x.snd.snd.snd.snd.snd.snd.snd.snd.fst, x.snd.snd.snd.snd.snd.snd.snd.snd.snd.fst,
            x.snd.snd.snd.snd.snd.snd.snd.snd.snd.snd.fst, x.snd.snd.snd.snd.snd.snd.snd.snd.snd.snd.snd.fst,
            x.snd.snd.snd.snd.snd.snd.snd.snd.snd.snd.snd.snd.fst, x.snd.snd.snd.snd.snd.snd.snd.snd.snd.snd.snd.snd.snd.fst,
            x.snd.snd.snd.snd.snd.snd.snd.snd.snd.snd.snd.snd.snd.snd.fst,
            x.snd.snd.snd.snd.snd.snd.snd.snd.snd.snd.snd.snd.snd.snd.snd.fst,
            x.snd.snd.snd.snd.snd.snd.snd.snd.snd.snd.snd.snd.snd.snd.snd.snd.snd.fst,
            x.snd.snd.snd.snd.snd.snd.snd.snd.snd.snd.snd.snd.snd.snd.snd.snd.snd.snd.fst,
            x.snd.snd.snd.snd.snd.snd.snd.snd.snd.snd.snd.snd.snd.snd.snd.snd.snd.snd.snd.fst, ())))
else
  some
    (Sum.inr
      (Sum.inr
        (x.snd.snd.snd.fst, x.snd.snd.snd.snd.fst, x.snd.snd.snd.snd.snd.fst, x.snd.snd.snd.snd.snd.snd.fst,
          x.snd.snd.snd.snd.snd.snd.snd.fst, x.snd.snd.snd.snd.snd.snd.snd.snd.fst, x.snd.snd.snd.snd.snd.snd.snd.snd.snd.fst,
          x.snd.snd.snd.snd.snd.snd.snd.snd.snd.snd.fst, x.snd.snd.snd.snd.snd.snd.snd.snd.snd.snd.snd.fst,
          x.snd.snd.snd.snd.snd.snd.snd.snd.snd.snd.snd.snd.fst, x.snd.snd.snd.snd.snd.snd.snd.snd.snd.snd.snd.snd.snd.fst,
          x.snd.snd.snd.snd.snd.snd.snd.snd.snd.snd.snd.snd.snd.snd.fst, x.snd.snd.snd.snd.snd.snd.snd.snd.snd.snd.snd.snd.snd.snd.snd.fst,
          x.snd.snd.snd.snd.snd.snd.snd.snd.snd.snd.snd.snd.snd.snd.snd.snd.snd.fst,
          x.snd.snd.snd.snd.snd.snd.snd.snd.snd.snd.snd.snd.snd.snd.snd.snd.snd.snd.fst,
          x.snd.snd.snd.snd.snd.snd.snd.snd.snd.snd.snd.snd.snd.snd.snd.snd.snd.snd.snd.fst, ())))
theorem r6_6_run0 (v0 : Nat) (v1 : Int) (v2 : Int) (v3 : Int) (v4 : Int) (v5 : Int) (v6 : Int) (v7 : Nat) (v8 : Int) (v9 : Int) (v10 : Nat) (v11 : Int) (v12 : Int) (v13 : Nat) (v14 : Int) (v15 : Int) (v16 : List Int) (v17 : List Int) (v18 : List Int) (v19 : List Int) : roundK tC G6 (look [(12, W6_12)]) c6_6 p6_6 (v0, v1, v2, v3, v4, v5, v6, v7, v8, v9, v10, v11, v12, v13, v14, v15, v16, v17, v18, v19, ()) = r6_6 (v0, v1, v2, v3, v4, v5, v6, v7, v8, v9, v10, v11, v12, v13, v14, v15, v16, v17, v18, v19, ()) := by kernel_rfl
theorem r6_6_run (x : Nat ×
  Int × Int × Int × Int × Int × Int × Nat × Int × Int × Nat × Int × Int × Nat × Int × Int × List Int × List Int × List Int × List Int × Unit) : roundK tC G6 (look [(12, W6_12)]) c6_6 p6_6 x = r6_6 x := r6_6_run0 x.1 x.2.1 x.2.2.1 x.2.2.2.1 x.2.2.2.2.1 x.2.2.2.2.2.1 x.2.2.2.2.2.2.1 x.2.2.2.2.2.2.2.1 x.2.2.2.2.2.2.2.2.1 x.2.2.2.2.2.2.2.2.2.1 x.2.2.2.2.2.2.2.2.2.2.1 x.2.2.2.2.2.2.2.2.2.2.2.1 x.2.2.2.2.2.2.2.2.2.2.2.2.1 x.2.2.2.2.2.2.2.2.2.2.2.2.2.1 x.2.2.2.2.2.2.2.2.2.2.2.2.2.2.1 x.2.2.2.2.2.2.2.2.2.2.2.2.2.2.2.1 x.2.2.2.2.2.2.2.2.2.2.2.2.2.2.2.2.1 x.2.2.2.2.2.2.2.2.2.2.2.2.2.2.2.2.2.1 x.2.2.2.2.2.2.2.2.2.2.2.2.2.2.2.2.2.2.1 x.2.2.2.2.2.2.2.2.2.2.2.2.2.2.2.2.2.2.2.1
noncomputable def l6_6 (x : Nat ×
  Int × Int × Int × Int × Int × Int × Nat × Int × Int × Nat × Int × Int × Nat × Int × Int × List Int × List Int × List Int × List Int × Unit) : Option (Bool × Unit ⊕ Int × Int × Int × Int × Nat × Int × Int × Nat × Int × Int × Nat × Int × Int × List Int × List Int × List Int × Unit) := iterO r6_6 x
noncomputable def W6_6 : LF tC := loopW tC p6_6 2 l6_6
theorem W6_6_ok : keyed 6 (bodyOf Try.f6) = [.block 2 (.loop c6_6)] ∧ ∀ n, n ≤ 0 → Snd tC n (.block 2 (.loop c6_6)) W6_6.k := ⟨by kernel_rfl, fun n hn => loopW_ok (p := p6_6) (id := 2) Y6 (lam_le (lam_cons W6_12_ok lam_nil) n hn) hn r6_6_run⟩
def S6 : FS := ⟨[[.v, .v, .s 5], [.v, .v], [.s 47]], [⟨[.one (.agg [.int .i64, .int .i64, .imm 5]), .one (.agg [.int .i64, .int .i64]), .one (.one (.imm 47))], []⟩], [⟨[vO], []⟩], [[.v]], []⟩
noncomputable def f6 (x : Int × Int × List Int × Int × Int × List Ac × Unit) : Option (Bool × Unit) :=
  (f9 ()).bind fun y448 =>
  bif !y448.fst then (f9 ()).bind fun y432 => some (y432.fst, ())
  else
    bif !f20 x.fst x.snd.fst x.snd.snd.fst x.snd.snd.snd.snd.snd.fst then (f9 ()).bind fun y433 => some (y433.fst, ())
    else
      (f10 (x.fst, x.snd.fst, x.snd.snd.fst, x.snd.snd.snd.fst, x.snd.snd.snd.snd.fst, ())).bind fun y447 =>
        Sum.elim (fun _x => some (true, ()))
          (fun y446 =>
            Sum.elim (fun _x => some (true, ()))
              (fun y445 =>
                (l6_0
                      (x.snd.snd.snd.snd.snd.fst, (0 : Int), x.snd.snd.snd.fst, x.snd.snd.snd.snd.fst, y445.fst, y445.snd.fst,
                        y445.snd.snd.fst, y445.snd.snd.snd.fst, y445.snd.snd.snd.snd.fst, y445.snd.snd.snd.snd.snd.fst,
                        y445.snd.snd.snd.snd.snd.snd.fst, y445.snd.snd.snd.snd.snd.snd.snd.fst, ())).bind
                  fun y444 =>
                  bif decide ((0 : Nat) + y444.snd.snd.snd.snd.fst ≤ y444.snd.snd.snd.snd.snd.snd.snd.snd.fst.length) then
                    bif decide ((0 : Nat) + y444.snd.snd.snd.snd.snd.snd.snd.fst ≤ y444.snd.snd.snd.snd.snd.snd.snd.snd.snd.fst.length) then
                      (f19
                            (y444.snd.snd.fst, y444.snd.snd.snd.fst,
                              List.take y444.snd.snd.snd.snd.fst (List.drop (0 : Nat) y444.snd.snd.snd.snd.snd.snd.snd.snd.fst),
                              y444.snd.snd.snd.snd.snd.fst, y444.snd.snd.snd.snd.snd.snd.fst,
                              List.take y444.snd.snd.snd.snd.snd.snd.snd.fst
                                (List.drop (0 : Nat) y444.snd.snd.snd.snd.snd.snd.snd.snd.snd.fst),
                              ())).bind
                        fun y443 =>
                        bif decide ((0 : Nat) + y444.snd.snd.snd.snd.fst ≤ y444.snd.snd.snd.snd.snd.snd.snd.snd.fst.length) then
                          bif
                              decide
                                ((0 : Nat) + y444.snd.snd.snd.snd.snd.snd.snd.fst ≤
                                  y444.snd.snd.snd.snd.snd.snd.snd.snd.snd.fst.length) then
                            bif decide ((0 : Nat) + y443.snd.snd.fst ≤ y443.snd.snd.snd.fst.length) then
                              (f24
                                    (y443.fst, y443.snd.fst, List.take y443.snd.snd.fst (List.drop (0 : Nat) y443.snd.snd.snd.fst),
                                      (f23 y444.snd.snd.fst y444.snd.snd.snd.fst
                                          (List.take y444.snd.snd.snd.snd.fst
                                            (List.drop (0 : Nat) y444.snd.snd.snd.snd.snd.snd.snd.snd.fst))
                                          y444.snd.snd.snd.snd.snd.fst y444.snd.snd.snd.snd.snd.snd.fst
                                          (List.take y444.snd.snd.snd.snd.snd.snd.snd.fst
                                            (List.drop (0 : Nat) y444.snd.snd.snd.snd.snd.snd.snd.snd.snd.fst))).fst,
                                      (f23 y444.snd.snd.fst y444.snd.snd.snd.fst
                                          (List.take y444.snd.snd.snd.snd.fst
                                            (List.drop (0 : Nat) y444.snd.snd.snd.snd.snd.snd.snd.snd.fst))
                                          y444.snd.snd.snd.snd.snd.fst y444.snd.snd.snd.snd.snd.snd.fst
                                          (List.take y444.snd.snd.snd.snd.snd.snd.snd.fst
                                            (List.drop (0 : Nat) y444.snd.snd.snd.snd.snd.snd.snd.snd.snd.fst))).snd,
                                      ())).bind
                                fun y442 =>
                                (l6_6
                                      (y442.fst, y442.snd.fst, (-1 : Int), y444.fst, y444.snd.fst, y444.snd.snd.fst, y444.snd.snd.snd.fst,
                                        y444.snd.snd.snd.snd.fst, y444.snd.snd.snd.snd.snd.fst, y444.snd.snd.snd.snd.snd.snd.fst,
                                        y444.snd.snd.snd.snd.snd.snd.snd.fst, y443.fst, y443.snd.fst, y443.snd.snd.fst,
                                        (f23 y444.snd.snd.fst y444.snd.snd.snd.fst
                                            (List.take y444.snd.snd.snd.snd.fst
                                              (List.drop (0 : Nat) y444.snd.snd.snd.snd.snd.snd.snd.snd.fst))
                                            y444.snd.snd.snd.snd.snd.fst y444.snd.snd.snd.snd.snd.snd.fst
                                            (List.take y444.snd.snd.snd.snd.snd.snd.snd.fst
                                              (List.drop (0 : Nat) y444.snd.snd.snd.snd.snd.snd.snd.snd.snd.fst))).fst,
                                        (f23 y444.snd.snd.fst y444.snd.snd.snd.fst
                                            (List.take y444.snd.snd.snd.snd.fst
                                              (List.drop (0 : Nat) y444.snd.snd.snd.snd.snd.snd.snd.snd.fst))
                                            y444.snd.snd.snd.snd.snd.fst y444.snd.snd.snd.snd.snd.snd.fst
                                            (List.take y444.snd.snd.snd.snd.snd.snd.snd.fst
                                              (List.drop (0 : Nat) y444.snd.snd.snd.snd.snd.snd.snd.snd.snd.fst))).snd,
                                        y442.snd.snd.fst, y444.snd.snd.snd.snd.snd.snd.snd.snd.fst,
                                        y444.snd.snd.snd.snd.snd.snd.snd.snd.snd.fst, y443.snd.snd.snd.fst, ())).bind
                                  fun y441 =>
                                  Sum.elim (fun y436 => some (y436.fst, ()))
                                    (fun y440 =>
                                      bif
                                          decide
                                            ((0 : Nat) + y440.snd.snd.snd.snd.fst ≤
                                              y440.snd.snd.snd.snd.snd.snd.snd.snd.snd.snd.snd.snd.snd.fst.length) then
                                        bif
                                            decide
                                              ((0 : Nat) + y440.snd.snd.snd.snd.snd.snd.snd.fst ≤
                                                y440.snd.snd.snd.snd.snd.snd.snd.snd.snd.snd.snd.snd.snd.snd.fst.length) then
                                          (f15
                                                (y440.snd.snd.fst, y440.snd.snd.snd.fst,
                                                  List.take y440.snd.snd.snd.snd.fst
                                                    (List.drop (0 : Nat) y440.snd.snd.snd.snd.snd.snd.snd.snd.snd.snd.snd.snd.snd.fst),
                                                  y440.snd.snd.snd.snd.snd.fst, y440.snd.snd.snd.snd.snd.snd.fst,
                                                  List.take y440.snd.snd.snd.snd.snd.snd.snd.fst
                                                    (List.drop (0 : Nat) y440.snd.snd.snd.snd.snd.snd.snd.snd.snd.snd.snd.snd.snd.snd.fst),
                                                  y440.fst, y440.snd.fst, ())).bind
                                            fun y439 =>
                                            bif
                                                decide
                                                  ((0 : Nat) + y440.snd.snd.snd.snd.snd.snd.snd.snd.snd.snd.fst ≤
                                                    y440.snd.snd.snd.snd.snd.snd.snd.snd.snd.snd.snd.snd.snd.snd.snd.fst.length) then
                                              (f25
                                                    (y440.snd.snd.snd.snd.snd.snd.snd.snd.fst, y440.snd.snd.snd.snd.snd.snd.snd.snd.snd.fst,
                                                      List.take y440.snd.snd.snd.snd.snd.snd.snd.snd.snd.snd.fst
                                                        (List.drop (0 : Nat)
                                                          y440.snd.snd.snd.snd.snd.snd.snd.snd.snd.snd.snd.snd.snd.snd.snd.fst),
                                                      y440.fst, y440.snd.fst, y440.snd.snd.snd.snd.snd.snd.snd.snd.snd.snd.snd.fst,
                                                      y440.snd.snd.snd.snd.snd.snd.snd.snd.snd.snd.snd.snd.fst, ())).bind
                                                fun y438 =>
                                                bif decide ((0 : Nat) + y439.fst ≤ y439.snd.snd.snd.fst.length) then
                                                  bif decide ((0 : Nat) + y438.fst ≤ y438.snd.snd.snd.fst.length) then
                                                    (f17
                                                          (List.take y439.fst (List.drop (0 : Nat) y439.snd.snd.snd.fst),
                                                            List.take y438.fst (List.drop (0 : Nat) y438.snd.snd.snd.fst), ())).bind
                                                      fun y437 =>
                                                      bif y437.fst then
                                                        bif y439.snd.fst == y438.snd.fst then
                                                          some (y439.snd.snd.fst == y438.snd.snd.fst, ())
                                                        else some (false, ())
                                                      else some (false, ())
                                                  else none
                                                else none
                                            else none
                                        else none
                                      else none)
                                    y441
                            else none
                          else none
                        else none
                    else none
                  else none)
              y446)
          y447
noncomputable def F6 : CF tC := mkF tC S6 f6
theorem f6_run : ∀ a, fnS tC G6 (look [(0, W6_0), (6, W6_6)]) Try.f6 S6 a = f6 a := fun a => by kernel_rfl
theorem F6_ok : CFOK tC 6 F6 := mkF_ok Y6 (fn := Try.f6) (body := bodyOf Try.f6) (by kernel_rfl) (by kernel_rfl) (by kernel_rfl) (m := 0) rfl (lam_le (lam_cons W6_0_ok (lam_cons W6_6_ok lam_nil))) f6_run
end Go.AE
