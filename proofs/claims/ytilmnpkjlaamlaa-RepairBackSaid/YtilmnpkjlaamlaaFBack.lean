/-
  The plain functions that the seat's Go functions compute, each with the proof that the function keeps it. Printed by the generator (Gen2) and checked by the kernel.
-/
import Derived.Test.YtilmnpkjlaamlaaFb
namespace Go.AE
open Go.Proofs Go.RowKit
set_option maxRecDepth 100000

/-! RepairBack -/
noncomputable def G3 : FuncId → Option (CF tC) := look [(9, F9), (10, F10), (11, F11), (12, F12), (13, F13), (14, F14), (15, F15), (16, F16), (17, F17), (18, F18), (19, F19)]
theorem Y3 : SysN tC G3 := (sys_cons F9_ok (mkF_nat _ _) (sys_cons F10_ok (mkF_nat _ _) (sys_cons F11_ok (mkF_nat _ _) (sys_cons F12_ok (mkF_nat _ _) (sys_cons F13_ok (mkF_nat _ _) (sys_cons F14_ok (mkF_nat _ _) (sys_cons F15_ok (mkF_nat _ _) (sys_cons F16_ok (mkF_nat _ _) (sys_cons F17_ok (mkF_nat _ _) (sys_cons F18_ok (mkF_nat _ _) (sys_cons F19_ok (mkF_nat _ _) (sys_nil tC_ok tC_eq))))))))))))
noncomputable def c3_49 : Code := subCode (loopOf (bodyOf Try.f3) 0) 49
def p3_49 : PS := ⟨0, [2, 3, 7, 9, 10, 12, 13, 14, 15], ⟨[vB, vB, .one (.one (.imm 26)), .one (.one (.ptr 0 0 0)), vB, vB, vB, .one (.one (.ptr 1 0 0)), vB, vI, .one (.one (.ptr 2 0 0)), vB, vI, .one (.one (.sl 3)), vI, vI] ++ vBs 119, [.box [.int .i64, .int .i64, .imm 5], .box [.int .i64, .int .i64, .sl 4, .int .i64, .int .i64, .sl 5], .box [.int .i64, .int .i64], .arr 26, .arr 5, .arr 3]⟩, [⟨.ret, [6], ⟨vBs 6 ++ [vO] ++ vBs 128, []⟩, []⟩, ⟨.normal, [2, 3, 7, 9], ⟨[vB, vB, .one (.one (.imm 26)), .one (.one (.ptr 0 0 0)), vB, vB, vB, .one (.one (.ptr 1 0 0)), vB, vI] ++ vBs 125, [.box [.int .i64, .int .i64, .imm 5], .box [.int .i64, .int .i64, .sl 2, .int .i64, .int .i64, .sl 3], .arr 5, .arr 3]⟩, []⟩], []⟩
noncomputable def j3_49 (x : List Pt ×
  Int × Int × Nat × Int × Int × Int × Int × List Int × Int × Int × Nat × Int × Int × Nat × Int × Int × List Pt × List Int × List Int × Unit) : Option (Bool × Unit ⊕ List Pt × Int × Int × Int × List Int × Int × Int × Nat × Int × Int × Nat × List Int × List Int × Unit) :=
  bif
    decide
      ((0 : Nat) + x.snd.snd.snd.snd.snd.snd.snd.snd.snd.snd.snd.fst ≤
        x.snd.snd.snd.snd.snd.snd.snd.snd.snd.snd.snd.snd.snd.snd.snd.snd.snd.snd.fst.length) then
  bif
      decide
        ((0 : Nat) + x.snd.snd.snd.snd.snd.snd.snd.snd.snd.snd.snd.snd.snd.snd.fst ≤
          x.snd.snd.snd.snd.snd.snd.snd.snd.snd.snd.snd.snd.snd.snd.snd.snd.snd.snd.snd.fst.length) then
    (f15
          (x.snd.snd.snd.snd.snd.snd.snd.snd.snd.fst, x.snd.snd.snd.snd.snd.snd.snd.snd.snd.snd.fst,
            List.take x.snd.snd.snd.snd.snd.snd.snd.snd.snd.snd.snd.fst
              (List.drop (0 : Nat) x.snd.snd.snd.snd.snd.snd.snd.snd.snd.snd.snd.snd.snd.snd.snd.snd.snd.snd.fst),
            x.snd.snd.snd.snd.snd.snd.snd.snd.snd.snd.snd.snd.fst, x.snd.snd.snd.snd.snd.snd.snd.snd.snd.snd.snd.snd.snd.fst,
            List.take x.snd.snd.snd.snd.snd.snd.snd.snd.snd.snd.snd.snd.snd.snd.fst
              (List.drop (0 : Nat) x.snd.snd.snd.snd.snd.snd.snd.snd.snd.snd.snd.snd.snd.snd.snd.snd.snd.snd.snd.fst),
            x.snd.snd.snd.snd.snd.snd.snd.snd.snd.snd.snd.snd.snd.snd.snd.fst,
            x.snd.snd.snd.snd.snd.snd.snd.snd.snd.snd.snd.snd.snd.snd.snd.snd.fst, ())).bind
      fun y142 =>
      bif decide ((0 : Nat) + x.snd.snd.snd.fst ≤ x.snd.snd.snd.snd.snd.snd.snd.snd.snd.snd.snd.snd.snd.snd.snd.snd.snd.fst.length) then
        bif decide ((0 : Nat) + y142.fst ≤ y142.snd.snd.snd.fst.length) then
          (f17
                (List.take x.snd.snd.snd.fst
                    (List.drop (0 : Nat) x.snd.snd.snd.snd.snd.snd.snd.snd.snd.snd.snd.snd.snd.snd.snd.snd.snd.fst),
                  List.take y142.fst (List.drop (0 : Nat) y142.snd.snd.snd.fst), ())).bind
            fun y141 =>
            bif !y141.fst then some (Sum.inl (false, ()))
            else
              bif x.snd.snd.snd.snd.fst != y142.snd.fst then some (Sum.inl (false, ()))
              else
                bif x.snd.snd.snd.snd.snd.fst != y142.snd.snd.fst then some (Sum.inl (false, ()))
                else
                  (idxO x.fst (0 : Int)).bind fun y140 =>
                    bif
                        decide
                          ((0 : Nat) + x.snd.snd.snd.snd.snd.snd.snd.snd.snd.snd.snd.fst ≤
                            x.snd.snd.snd.snd.snd.snd.snd.snd.snd.snd.snd.snd.snd.snd.snd.snd.snd.snd.fst.length) then
                      bif
                          decide
                            ((0 : Nat) + x.snd.snd.snd.snd.snd.snd.snd.snd.snd.snd.snd.snd.snd.snd.fst ≤
                              x.snd.snd.snd.snd.snd.snd.snd.snd.snd.snd.snd.snd.snd.snd.snd.snd.snd.snd.snd.fst.length) then
                        (f14
                              (x.snd.snd.snd.snd.snd.snd.snd.snd.snd.fst, x.snd.snd.snd.snd.snd.snd.snd.snd.snd.snd.fst,
                                List.take x.snd.snd.snd.snd.snd.snd.snd.snd.snd.snd.snd.fst
                                  (List.drop (0 : Nat) x.snd.snd.snd.snd.snd.snd.snd.snd.snd.snd.snd.snd.snd.snd.snd.snd.snd.snd.fst),
                                x.snd.snd.snd.snd.snd.snd.snd.snd.snd.snd.snd.snd.fst,
                                x.snd.snd.snd.snd.snd.snd.snd.snd.snd.snd.snd.snd.snd.fst,
                                List.take x.snd.snd.snd.snd.snd.snd.snd.snd.snd.snd.snd.snd.snd.snd.fst
                                  (List.drop (0 : Nat) x.snd.snd.snd.snd.snd.snd.snd.snd.snd.snd.snd.snd.snd.snd.snd.snd.snd.snd.snd.fst),
                                y140.X, y140.Y, ())).bind
                          fun y139 =>
                          bif y139.fst != x.snd.snd.fst then some (Sum.inl (false, ()))
                          else
                            some
                              (Sum.inr
                                (x.fst, x.snd.fst, x.snd.snd.snd.snd.snd.snd.fst, x.snd.snd.snd.snd.snd.snd.snd.fst,
                                  x.snd.snd.snd.snd.snd.snd.snd.snd.fst, x.snd.snd.snd.snd.snd.snd.snd.snd.snd.fst,
                                  x.snd.snd.snd.snd.snd.snd.snd.snd.snd.snd.fst, x.snd.snd.snd.snd.snd.snd.snd.snd.snd.snd.snd.fst,
                                  x.snd.snd.snd.snd.snd.snd.snd.snd.snd.snd.snd.snd.fst,
                                  x.snd.snd.snd.snd.snd.snd.snd.snd.snd.snd.snd.snd.snd.fst,
                                  x.snd.snd.snd.snd.snd.snd.snd.snd.snd.snd.snd.snd.snd.snd.fst,
                                  x.snd.snd.snd.snd.snd.snd.snd.snd.snd.snd.snd.snd.snd.snd.snd.snd.snd.snd.fst,
                                  x.snd.snd.snd.snd.snd.snd.snd.snd.snd.snd.snd.snd.snd.snd.snd.snd.snd.snd.snd.fst, ()))
                      else none
                    else none
        else none
      else none
  else none
else none
theorem j3_49_run0 (v0 : List Pt) (v1 : Int) (v2 : Int) (v3 : Nat) (v4 : Int) (v5 : Int) (v6 : Int) (v7 : Int) (v8 : List Int) (v9 : Int) (v10 : Int) (v11 : Nat) (v12 : Int) (v13 : Int) (v14 : Nat) (v15 : Int) (v16 : Int) (v17 : List Pt) (v18 : List Int) (v19 : List Int) : pieceK tC G3 (look []) c3_49 p3_49 (v0, v1, v2, v3, v4, v5, v6, v7, v8, v9, v10, v11, v12, v13, v14, v15, v16, v17, v18, v19, ()) = j3_49 (v0, v1, v2, v3, v4, v5, v6, v7, v8, v9, v10, v11, v12, v13, v14, v15, v16, v17, v18, v19, ()) := by kernel_rfl
theorem j3_49_run (x : List Pt ×
  Int × Int × Nat × Int × Int × Int × Int × List Int × Int × Int × Nat × Int × Int × Nat × Int × Int × List Pt × List Int × List Int × Unit) : pieceK tC G3 (look []) c3_49 p3_49 x = j3_49 x := j3_49_run0 x.1 x.2.1 x.2.2.1 x.2.2.2.1 x.2.2.2.2.1 x.2.2.2.2.2.1 x.2.2.2.2.2.2.1 x.2.2.2.2.2.2.2.1 x.2.2.2.2.2.2.2.2.1 x.2.2.2.2.2.2.2.2.2.1 x.2.2.2.2.2.2.2.2.2.2.1 x.2.2.2.2.2.2.2.2.2.2.2.1 x.2.2.2.2.2.2.2.2.2.2.2.2.1 x.2.2.2.2.2.2.2.2.2.2.2.2.2.1 x.2.2.2.2.2.2.2.2.2.2.2.2.2.2.1 x.2.2.2.2.2.2.2.2.2.2.2.2.2.2.2.1 x.2.2.2.2.2.2.2.2.2.2.2.2.2.2.2.2.1 x.2.2.2.2.2.2.2.2.2.2.2.2.2.2.2.2.2.1 x.2.2.2.2.2.2.2.2.2.2.2.2.2.2.2.2.2.2.1 x.2.2.2.2.2.2.2.2.2.2.2.2.2.2.2.2.2.2.2.1
noncomputable def W3_49 : LF tC := cutLF tC p3_49 j3_49
theorem W3_49_ok : keyed 49 (loopOf (bodyOf Try.f3) 0) = [c3_49] ∧ ∀ n, n ≤ 0 → Snd tC n c3_49 W3_49.k := ⟨by kernel_rfl, fun n hn => cut_ok (p := p3_49) Y3 (lam_le lam_nil n hn) hn j3_49_run⟩
noncomputable def c3_25 : Code := subCode (loopOf (bodyOf Try.f3) 0) 25
def p3_25 : PS := ⟨0, [2, 3, 7, 9], ⟨[vB, vB, .one (.one (.imm 26)), .one (.one (.ptr 0 0 0)), vB, vB, vB, .one (.one (.ptr 1 0 0)), vB, vI] ++ vBs 125, [.box [.int .i64, .int .i64, .imm 5], .box [.int .i64, .int .i64, .sl 2, .int .i64, .int .i64, .sl 3], .arr 5, .arr 3]⟩, [⟨.normal, [2, 3, 7, 9], ⟨[vB, vB, .one (.one (.imm 26)), .one (.one (.ptr 0 0 0)), vB, vB, vB, .one (.one (.ptr 1 0 0)), vB, vI] ++ vBs 125, [.box [.int .i64, .int .i64, .imm 5], .box [.int .i64, .int .i64, .sl 2, .int .i64, .int .i64, .sl 3], .arr 5, .arr 3]⟩, []⟩], []⟩
noncomputable def j3_25 (x : List Pt × Int × Int × Int × List Int × Int × Int × Nat × Int × Int × Nat × List Int × List Int × Unit) : Option (List Pt × Int × Int × Int × List Int × Int × Int × Nat × Int × Int × Nat × List Int × List Int × Unit) :=
  some
  (x.fst, IntKind.i64.wrap (x.snd.fst + (1 : Int)), x.snd.snd.fst, x.snd.snd.snd.fst, x.snd.snd.snd.snd.fst, x.snd.snd.snd.snd.snd.fst,
    x.snd.snd.snd.snd.snd.snd.fst, x.snd.snd.snd.snd.snd.snd.snd.fst, x.snd.snd.snd.snd.snd.snd.snd.snd.fst,
    x.snd.snd.snd.snd.snd.snd.snd.snd.snd.fst, x.snd.snd.snd.snd.snd.snd.snd.snd.snd.snd.fst,
    x.snd.snd.snd.snd.snd.snd.snd.snd.snd.snd.snd.fst, x.snd.snd.snd.snd.snd.snd.snd.snd.snd.snd.snd.snd.fst, ())
theorem j3_25_run0 (v0 : List Pt) (v1 : Int) (v2 : Int) (v3 : Int) (v4 : List Int) (v5 : Int) (v6 : Int) (v7 : Nat) (v8 : Int) (v9 : Int) (v10 : Nat) (v11 : List Int) (v12 : List Int) : pieceK tC G3 (look []) c3_25 p3_25 (v0, v1, v2, v3, v4, v5, v6, v7, v8, v9, v10, v11, v12, ()) = j3_25 (v0, v1, v2, v3, v4, v5, v6, v7, v8, v9, v10, v11, v12, ()) := by kernel_rfl
theorem j3_25_run (x : List Pt × Int × Int × Int × List Int × Int × Int × Nat × Int × Int × Nat × List Int × List Int × Unit) : pieceK tC G3 (look []) c3_25 p3_25 x = j3_25 x := j3_25_run0 x.1 x.2.1 x.2.2.1 x.2.2.2.1 x.2.2.2.2.1 x.2.2.2.2.2.1 x.2.2.2.2.2.2.1 x.2.2.2.2.2.2.2.1 x.2.2.2.2.2.2.2.2.1 x.2.2.2.2.2.2.2.2.2.1 x.2.2.2.2.2.2.2.2.2.2.1 x.2.2.2.2.2.2.2.2.2.2.2.1 x.2.2.2.2.2.2.2.2.2.2.2.2.1
noncomputable def W3_25 : LF tC := cutLF tC p3_25 j3_25
theorem W3_25_ok : keyed 25 (loopOf (bodyOf Try.f3) 0) = [c3_25] ∧ ∀ n, n ≤ 0 → Snd tC n c3_25 W3_25.k := ⟨by kernel_rfl, fun n hn => cut_ok (p := p3_25) Y3 (lam_le lam_nil n hn) hn j3_25_run⟩
noncomputable def c3_0 : Code := loopOf (bodyOf Try.f3) 0
def p3_0 : LS := ⟨0, [2, 3, 7, 9], ⟨[vB, vB, .one (.one (.imm 26)), .one (.one (.ptr 0 0 0)), vB, vB, vB, .one (.one (.ptr 1 0 0)), vB, vI] ++ vBs 125, [.box [.int .i64, .int .i64, .imm 5], .box [.int .i64, .int .i64, .sl 2, .int .i64, .int .i64, .sl 3], .arr 5, .arr 3]⟩, [⟨.ret, [6], ⟨vBs 6 ++ [vO] ++ vBs 128, []⟩, []⟩, ⟨.exit 0, [3, 7], ⟨[vB, vB, vB, .one (.one (.ptr 0 0 0)), vB, vB, vB, .one (.one (.ptr 1 0 0))] ++ vBs 127, [.box [.int .i64, .int .i64, .imm 5], .box [.int .i64, .int .i64, .sl 2, .int .i64, .int .i64, .sl 3], .arr 5, .arr 3]⟩, []⟩], []⟩
noncomputable def r3_0 (x : List Pt × Int × Int × Int × List Int × Int × Int × Nat × Int × Int × Nat × List Int × List Int × Unit) : Option
  (List Pt × Int × Int × Int × List Int × Int × Int × Nat × Int × Int × Nat × List Int × List Int × Unit ⊕
    Bool × Unit ⊕ Int × Int × List Int × Int × Int × Nat × Int × Int × Nat × List Int × List Int × Unit) :=
  bif decide (x.snd.fst < (↑x.fst.length : Int)) then
  (idxO x.fst x.snd.fst).bind fun y347 =>
    bif !f12 x.snd.snd.fst x.snd.snd.snd.fst x.snd.snd.snd.snd.fst y347.X y347.Y then
      (j3_25
            (x.fst, x.snd.fst, x.snd.snd.fst, x.snd.snd.snd.fst, x.snd.snd.snd.snd.fst, x.snd.snd.snd.snd.snd.fst,
              x.snd.snd.snd.snd.snd.snd.fst, x.snd.snd.snd.snd.snd.snd.snd.fst, x.snd.snd.snd.snd.snd.snd.snd.snd.fst,
              x.snd.snd.snd.snd.snd.snd.snd.snd.snd.fst, x.snd.snd.snd.snd.snd.snd.snd.snd.snd.snd.fst,
              x.snd.snd.snd.snd.snd.snd.snd.snd.snd.snd.snd.fst, x.snd.snd.snd.snd.snd.snd.snd.snd.snd.snd.snd.snd.fst, ())).bind
        fun y315 =>
        some
          (Sum.inl
            (y315.fst, y315.snd.fst, y315.snd.snd.fst, y315.snd.snd.snd.fst, y315.snd.snd.snd.snd.fst, y315.snd.snd.snd.snd.snd.fst,
              y315.snd.snd.snd.snd.snd.snd.fst, y315.snd.snd.snd.snd.snd.snd.snd.fst, y315.snd.snd.snd.snd.snd.snd.snd.snd.fst,
              y315.snd.snd.snd.snd.snd.snd.snd.snd.snd.fst, y315.snd.snd.snd.snd.snd.snd.snd.snd.snd.snd.fst,
              y315.snd.snd.snd.snd.snd.snd.snd.snd.snd.snd.snd.fst, y315.snd.snd.snd.snd.snd.snd.snd.snd.snd.snd.snd.snd.fst, ()))
    else
      (f13 (x.snd.snd.fst, x.snd.snd.snd.fst, x.snd.snd.snd.snd.fst, y347.X, y347.Y, ())).bind fun y346 =>
        bif y346.fst == (0 : Int) then
          (j3_25
                (x.fst, x.snd.fst, x.snd.snd.fst, x.snd.snd.snd.fst, x.snd.snd.snd.snd.fst, x.snd.snd.snd.snd.snd.fst,
                  x.snd.snd.snd.snd.snd.snd.fst, x.snd.snd.snd.snd.snd.snd.snd.fst, x.snd.snd.snd.snd.snd.snd.snd.snd.fst,
                  x.snd.snd.snd.snd.snd.snd.snd.snd.snd.fst, x.snd.snd.snd.snd.snd.snd.snd.snd.snd.snd.fst,
                  x.snd.snd.snd.snd.snd.snd.snd.snd.snd.snd.snd.fst, x.snd.snd.snd.snd.snd.snd.snd.snd.snd.snd.snd.snd.fst, ())).bind
            fun y316 =>
            some
              (Sum.inl
                (y316.fst, y316.snd.fst, y316.snd.snd.fst, y316.snd.snd.snd.fst, y316.snd.snd.snd.snd.fst, y316.snd.snd.snd.snd.snd.fst,
                  y316.snd.snd.snd.snd.snd.snd.fst, y316.snd.snd.snd.snd.snd.snd.snd.fst, y316.snd.snd.snd.snd.snd.snd.snd.snd.fst,
                  y316.snd.snd.snd.snd.snd.snd.snd.snd.snd.fst, y316.snd.snd.snd.snd.snd.snd.snd.snd.snd.snd.fst,
                  y316.snd.snd.snd.snd.snd.snd.snd.snd.snd.snd.snd.fst, y316.snd.snd.snd.snd.snd.snd.snd.snd.snd.snd.snd.snd.fst, ()))
        else
          (f13 (x.snd.snd.fst, x.snd.snd.snd.fst, x.snd.snd.snd.snd.fst, y347.X, y347.Y, ())).bind fun y345 =>
            (idxO x.fst (0 : Int)).bind fun y344 =>
              bif decide ((0 : Nat) + x.snd.snd.snd.snd.snd.snd.snd.fst ≤ x.snd.snd.snd.snd.snd.snd.snd.snd.snd.snd.snd.fst.length) then
                bif
                    decide
                      ((0 : Nat) + x.snd.snd.snd.snd.snd.snd.snd.snd.snd.snd.fst ≤
                        x.snd.snd.snd.snd.snd.snd.snd.snd.snd.snd.snd.snd.fst.length) then
                  (f14
                        (x.snd.snd.snd.snd.snd.fst, x.snd.snd.snd.snd.snd.snd.fst,
                          List.take x.snd.snd.snd.snd.snd.snd.snd.fst
                            (List.drop (0 : Nat) x.snd.snd.snd.snd.snd.snd.snd.snd.snd.snd.snd.fst),
                          x.snd.snd.snd.snd.snd.snd.snd.snd.fst, x.snd.snd.snd.snd.snd.snd.snd.snd.snd.fst,
                          List.take x.snd.snd.snd.snd.snd.snd.snd.snd.snd.snd.fst
                            (List.drop (0 : Nat) x.snd.snd.snd.snd.snd.snd.snd.snd.snd.snd.snd.snd.fst),
                          y344.X, y344.Y, ())).bind
                    fun y343 =>
                    bif
                        decide
                          ((0 : Nat) + x.snd.snd.snd.snd.snd.snd.snd.fst ≤ x.snd.snd.snd.snd.snd.snd.snd.snd.snd.snd.snd.fst.length) then
                      bif
                          decide
                            ((0 : Nat) + x.snd.snd.snd.snd.snd.snd.snd.snd.snd.snd.fst ≤
                              x.snd.snd.snd.snd.snd.snd.snd.snd.snd.snd.snd.snd.fst.length) then
                        (f15
                              (x.snd.snd.snd.snd.snd.fst, x.snd.snd.snd.snd.snd.snd.fst,
                                List.take x.snd.snd.snd.snd.snd.snd.snd.fst
                                  (List.drop (0 : Nat) x.snd.snd.snd.snd.snd.snd.snd.snd.snd.snd.snd.fst),
                                x.snd.snd.snd.snd.snd.snd.snd.snd.fst, x.snd.snd.snd.snd.snd.snd.snd.snd.snd.fst,
                                List.take x.snd.snd.snd.snd.snd.snd.snd.snd.snd.snd.fst
                                  (List.drop (0 : Nat) x.snd.snd.snd.snd.snd.snd.snd.snd.snd.snd.snd.snd.fst),
                                y347.X, y347.Y, ())).bind
                          fun y342 =>
                          bif
                              decide
                                ((0 : Nat) + x.snd.snd.snd.snd.snd.snd.snd.fst ≤
                                  x.snd.snd.snd.snd.snd.snd.snd.snd.snd.snd.snd.fst.length) then
                            bif
                                decide
                                  ((0 : Nat) + x.snd.snd.snd.snd.snd.snd.snd.snd.snd.snd.fst ≤
                                    x.snd.snd.snd.snd.snd.snd.snd.snd.snd.snd.snd.snd.fst.length) then
                              (f16
                                    (y347.X, y347.Y, !y345.fst == (1 : Int),
                                      List.take x.snd.snd.snd.snd.snd.snd.snd.fst
                                        (List.drop (0 : Nat) x.snd.snd.snd.snd.snd.snd.snd.snd.snd.snd.snd.fst),
                                      List.take x.snd.snd.snd.snd.snd.snd.snd.snd.snd.snd.fst
                                        (List.drop (0 : Nat) x.snd.snd.snd.snd.snd.snd.snd.snd.snd.snd.snd.snd.fst),
                                      x.snd.snd.snd.snd.snd.fst, x.snd.snd.snd.snd.snd.snd.fst, x.snd.snd.snd.snd.snd.snd.snd.fst,
                                      x.snd.snd.snd.snd.snd.snd.snd.snd.fst, x.snd.snd.snd.snd.snd.snd.snd.snd.snd.fst,
                                      x.snd.snd.snd.snd.snd.snd.snd.snd.snd.snd.fst, ())).bind
                                fun y341 =>
                                Sum.elim
                                  (fun y328 =>
                                    bif y328.fst != (0 : Int) then some (Sum.inr (Sum.inl (false, ())))
                                    else
                                      bif decide ((0 : Nat) + y328.snd.snd.snd.snd.snd.fst ≤ y328.snd.fst.length) then
                                        bif decide ((0 : Nat) + y328.snd.snd.snd.snd.snd.snd.snd.snd.fst ≤ y328.snd.snd.fst.length) then
                                          (f16
                                                (y347.X, y347.Y, y345.fst == (1 : Int),
                                                  List.take y328.snd.snd.snd.snd.snd.fst (List.drop (0 : Nat) y328.snd.fst),
                                                  List.take y328.snd.snd.snd.snd.snd.snd.snd.snd.fst (List.drop (0 : Nat) y328.snd.snd.fst),
                                                  y328.snd.snd.snd.fst, y328.snd.snd.snd.snd.fst, y328.snd.snd.snd.snd.snd.fst,
                                                  y328.snd.snd.snd.snd.snd.snd.fst, y328.snd.snd.snd.snd.snd.snd.snd.fst,
                                                  y328.snd.snd.snd.snd.snd.snd.snd.snd.fst, ())).bind
                                            fun y327 =>
                                            Sum.elim
                                              (fun y321 =>
                                                bif y321.fst != (0 : Int) then some (Sum.inr (Sum.inl (false, ())))
                                                else
                                                  (j3_49
                                                        (x.fst, x.snd.fst, y343.fst, y342.fst, y342.snd.fst, y342.snd.snd.fst,
                                                          x.snd.snd.fst, x.snd.snd.snd.fst, x.snd.snd.snd.snd.fst, y321.snd.snd.snd.fst,
                                                          y321.snd.snd.snd.snd.fst, y321.snd.snd.snd.snd.snd.fst,
                                                          y321.snd.snd.snd.snd.snd.snd.fst, y321.snd.snd.snd.snd.snd.snd.snd.fst,
                                                          y321.snd.snd.snd.snd.snd.snd.snd.snd.fst, y347.X, y347.Y, y342.snd.snd.snd.fst,
                                                          y321.snd.fst, y321.snd.snd.fst, ())).bind
                                                    fun y320 =>
                                                    Sum.elim (fun y317 => some (Sum.inr (Sum.inl (y317.fst, ()))))
                                                      (fun y319 =>
                                                        (j3_25
                                                              (y319.fst, y319.snd.fst, y319.snd.snd.fst, y319.snd.snd.snd.fst,
                                                                y319.snd.snd.snd.snd.fst, y319.snd.snd.snd.snd.snd.fst,
                                                                y319.snd.snd.snd.snd.snd.snd.fst, y319.snd.snd.snd.snd.snd.snd.snd.fst,
                                                                y319.snd.snd.snd.snd.snd.snd.snd.snd.fst,
                                                                y319.snd.snd.snd.snd.snd.snd.snd.snd.snd.fst,
                                                                y319.snd.snd.snd.snd.snd.snd.snd.snd.snd.snd.fst,
                                                                y319.snd.snd.snd.snd.snd.snd.snd.snd.snd.snd.snd.fst,
                                                                y319.snd.snd.snd.snd.snd.snd.snd.snd.snd.snd.snd.snd.fst, ())).bind
                                                          fun y318 =>
                                                          some
                                                            (Sum.inl
                                                              (y318.fst, y318.snd.fst, y318.snd.snd.fst, y318.snd.snd.snd.fst,
                                                                y318.snd.snd.snd.snd.fst, y318.snd.snd.snd.snd.snd.fst,
                                                                y318.snd.snd.snd.snd.snd.snd.fst, y318.snd.snd.snd.snd.snd.snd.snd.fst,
                                                                y318.snd.snd.snd.snd.snd.snd.snd.snd.fst,
                                                                y318.snd.snd.snd.snd.snd.snd.snd.snd.snd.fst,
                                                                y318.snd.snd.snd.snd.snd.snd.snd.snd.snd.snd.fst,
                                                                y318.snd.snd.snd.snd.snd.snd.snd.snd.snd.snd.snd.fst,
                                                                y318.snd.snd.snd.snd.snd.snd.snd.snd.snd.snd.snd.snd.fst, ())))
                                                      y320)
                                              (fun y326 =>
                                                bif y326.fst != (0 : Int) then some (Sum.inr (Sum.inl (false, ())))
                                                else
                                                  (j3_49
                                                        (x.fst, x.snd.fst, y343.fst, y342.fst, y342.snd.fst, y342.snd.snd.fst,
                                                          x.snd.snd.fst, x.snd.snd.snd.fst, x.snd.snd.snd.snd.fst, y326.snd.fst,
                                                          y326.snd.snd.fst, y326.snd.snd.snd.fst, y326.snd.snd.snd.snd.fst,
                                                          y326.snd.snd.snd.snd.snd.fst, y326.snd.snd.snd.snd.snd.snd.fst, y347.X, y347.Y,
                                                          y342.snd.snd.snd.fst, y326.snd.snd.snd.snd.snd.snd.snd.fst,
                                                          y326.snd.snd.snd.snd.snd.snd.snd.snd.fst, ())).bind
                                                    fun y325 =>
                                                    Sum.elim (fun y322 => some (Sum.inr (Sum.inl (y322.fst, ()))))
                                                      (fun y324 =>
                                                        (j3_25
                                                              (y324.fst, y324.snd.fst, y324.snd.snd.fst, y324.snd.snd.snd.fst,
                                                                y324.snd.snd.snd.snd.fst, y324.snd.snd.snd.snd.snd.fst,
                                                                y324.snd.snd.snd.snd.snd.snd.fst, y324.snd.snd.snd.snd.snd.snd.snd.fst,
                                                                y324.snd.snd.snd.snd.snd.snd.snd.snd.fst,
                                                                y324.snd.snd.snd.snd.snd.snd.snd.snd.snd.fst,
                                                                y324.snd.snd.snd.snd.snd.snd.snd.snd.snd.snd.fst,
                                                                y324.snd.snd.snd.snd.snd.snd.snd.snd.snd.snd.snd.fst,
                                                                y324.snd.snd.snd.snd.snd.snd.snd.snd.snd.snd.snd.snd.fst, ())).bind
                                                          fun y323 =>
                                                          some
                                                            (Sum.inl
                                                              (y323.fst, y323.snd.fst, y323.snd.snd.fst, y323.snd.snd.snd.fst,
                                                                y323.snd.snd.snd.snd.fst, y323.snd.snd.snd.snd.snd.fst,
                                                                y323.snd.snd.snd.snd.snd.snd.fst, y323.snd.snd.snd.snd.snd.snd.snd.fst,
                                                                y323.snd.snd.snd.snd.snd.snd.snd.snd.fst,
                                                                y323.snd.snd.snd.snd.snd.snd.snd.snd.snd.fst,
                                                                y323.snd.snd.snd.snd.snd.snd.snd.snd.snd.snd.fst,
                                                                y323.snd.snd.snd.snd.snd.snd.snd.snd.snd.snd.snd.fst,
                                                                y323.snd.snd.snd.snd.snd.snd.snd.snd.snd.snd.snd.snd.fst, ())))
                                                      y325)
                                              y327
                                        else none
                                      else none)
                                  (fun y340 =>
                                    bif y340.fst != (0 : Int) then some (Sum.inr (Sum.inl (false, ())))
                                    else
                                      bif decide ((0 : Nat) + y340.snd.snd.snd.fst ≤ y340.snd.snd.snd.snd.snd.snd.snd.fst.length) then
                                        bif
                                            decide
                                              ((0 : Nat) + y340.snd.snd.snd.snd.snd.snd.fst ≤
                                                y340.snd.snd.snd.snd.snd.snd.snd.snd.fst.length) then
                                          (f16
                                                (y347.X, y347.Y, y345.fst == (1 : Int),
                                                  List.take y340.snd.snd.snd.fst (List.drop (0 : Nat) y340.snd.snd.snd.snd.snd.snd.snd.fst),
                                                  List.take y340.snd.snd.snd.snd.snd.snd.fst
                                                    (List.drop (0 : Nat) y340.snd.snd.snd.snd.snd.snd.snd.snd.fst),
                                                  y340.snd.fst, y340.snd.snd.fst, y340.snd.snd.snd.fst, y340.snd.snd.snd.snd.fst,
                                                  y340.snd.snd.snd.snd.snd.fst, y340.snd.snd.snd.snd.snd.snd.fst, ())).bind
                                            fun y339 =>
                                            Sum.elim
                                              (fun y333 =>
                                                bif y333.fst != (0 : Int) then some (Sum.inr (Sum.inl (false, ())))
                                                else
                                                  (j3_49
                                                        (x.fst, x.snd.fst, y343.fst, y342.fst, y342.snd.fst, y342.snd.snd.fst,
                                                          x.snd.snd.fst, x.snd.snd.snd.fst, x.snd.snd.snd.snd.fst, y333.snd.snd.snd.fst,
                                                          y333.snd.snd.snd.snd.fst, y333.snd.snd.snd.snd.snd.fst,
                                                          y333.snd.snd.snd.snd.snd.snd.fst, y333.snd.snd.snd.snd.snd.snd.snd.fst,
                                                          y333.snd.snd.snd.snd.snd.snd.snd.snd.fst, y347.X, y347.Y, y342.snd.snd.snd.fst,
                                                          y333.snd.fst, y333.snd.snd.fst, ())).bind
                                                    fun y332 =>
                                                    Sum.elim (fun y329 => some (Sum.inr (Sum.inl (y329.fst, ()))))
                                                      (fun y331 =>
                                                        (j3_25
                                                              (y331.fst, y331.snd.fst, y331.snd.snd.fst, y331.snd.snd.snd.fst,
                                                                y331.snd.snd.snd.snd.fst, y331.snd.snd.snd.snd.snd.fst,
                                                                y331.snd.snd.snd.snd.snd.snd.fst, y331.snd.snd.snd.snd.snd.snd.snd.fst,
                                                                y331.snd.snd.snd.snd.snd.snd.snd.snd.fst,
                                                                y331.snd.snd.snd.snd.snd.snd.snd.snd.snd.fst,
                                                                y331.snd.snd.snd.snd.snd.snd.snd.snd.snd.snd.fst,
                                                                y331.snd.snd.snd.snd.snd.snd.snd.snd.snd.snd.snd.fst,
                                                                y331.snd.snd.snd.snd.snd.snd.snd.snd.snd.snd.snd.snd.fst, ())).bind
                                                          fun y330 =>
                                                          some
                                                            (Sum.inl
                                                              (y330.fst, y330.snd.fst, y330.snd.snd.fst, y330.snd.snd.snd.fst,
                                                                y330.snd.snd.snd.snd.fst, y330.snd.snd.snd.snd.snd.fst,
                                                                y330.snd.snd.snd.snd.snd.snd.fst, y330.snd.snd.snd.snd.snd.snd.snd.fst,
                                                                y330.snd.snd.snd.snd.snd.snd.snd.snd.fst,
                                                                y330.snd.snd.snd.snd.snd.snd.snd.snd.snd.fst,
                                                                y330.snd.snd.snd.snd.snd.snd.snd.snd.snd.snd.fst,
                                                                y330.snd.snd.snd.snd.snd.snd.snd.snd.snd.snd.snd.fst,
                                                                y330.snd.snd.snd.snd.snd.snd.snd.snd.snd.snd.snd.snd.fst, ())))
                                                      y332)
                                              (fun y338 =>
                                                bif y338.fst != (0 : Int) then some (Sum.inr (Sum.inl (false, ())))
                                                else
                                                  (j3_49
                                                        (x.fst, x.snd.fst, y343.fst, y342.fst, y342.snd.fst, y342.snd.snd.fst,
                                                          x.snd.snd.fst, x.snd.snd.snd.fst, x.snd.snd.snd.snd.fst, y338.snd.fst,
                                                          y338.snd.snd.fst, y338.snd.snd.snd.fst, y338.snd.snd.snd.snd.fst,
                                                          y338.snd.snd.snd.snd.snd.fst, y338.snd.snd.snd.snd.snd.snd.fst, y347.X, y347.Y,
                                                          y342.snd.snd.snd.fst, y338.snd.snd.snd.snd.snd.snd.snd.fst,
                                                          y338.snd.snd.snd.snd.snd.snd.snd.snd.fst, ())).bind
                                                    fun y337 =>
                                                    Sum.elim (fun y334 => some (Sum.inr (Sum.inl (y334.fst, ()))))
                                                      (fun y336 =>
                                                        (j3_25
                                                              (y336.fst, y336.snd.fst, y336.snd.snd.fst, y336.snd.snd.snd.fst,
                                                                y336.snd.snd.snd.snd.fst, y336.snd.snd.snd.snd.snd.fst,
                                                                y336.snd.snd.snd.snd.snd.snd.fst, y336.snd.snd.snd.snd.snd.snd.snd.fst,
                                                                y336.snd.snd.snd.snd.snd.snd.snd.snd.fst,
                                                                y336.snd.snd.snd.snd.snd.snd.snd.snd.snd.fst,
                                                                y336.snd.snd.snd.snd.snd.snd.snd.snd.snd.snd.fst,
                                                                y336.snd.snd.snd.snd.snd.snd.snd.snd.snd.snd.snd.fst,
                                                                y336.snd.snd.snd.snd.snd.snd.snd.snd.snd.snd.snd.snd.fst, ())).bind
                                                          fun y335 =>
                                                          some
                                                            (Sum.inl
                                                              (y335.fst, y335.snd.fst, y335.snd.snd.fst, y335.snd.snd.snd.fst,
                                                                y335.snd.snd.snd.snd.fst, y335.snd.snd.snd.snd.snd.fst,
                                                                y335.snd.snd.snd.snd.snd.snd.fst, y335.snd.snd.snd.snd.snd.snd.snd.fst,
                                                                y335.snd.snd.snd.snd.snd.snd.snd.snd.fst,
                                                                y335.snd.snd.snd.snd.snd.snd.snd.snd.snd.fst,
                                                                y335.snd.snd.snd.snd.snd.snd.snd.snd.snd.snd.fst,
                                                                y335.snd.snd.snd.snd.snd.snd.snd.snd.snd.snd.snd.fst,
                                                                y335.snd.snd.snd.snd.snd.snd.snd.snd.snd.snd.snd.snd.fst, ())))
                                                      y337)
                                              y339
                                        else none
                                      else none)
                                  y341
                            else none
                          else none
                      else none
                    else none
                else none
              else none
else
  some
    (Sum.inr
      (Sum.inr
        (x.snd.snd.fst, x.snd.snd.snd.fst, x.snd.snd.snd.snd.fst, x.snd.snd.snd.snd.snd.fst, x.snd.snd.snd.snd.snd.snd.fst,
          x.snd.snd.snd.snd.snd.snd.snd.fst, x.snd.snd.snd.snd.snd.snd.snd.snd.fst, x.snd.snd.snd.snd.snd.snd.snd.snd.snd.fst,
          x.snd.snd.snd.snd.snd.snd.snd.snd.snd.snd.fst, x.snd.snd.snd.snd.snd.snd.snd.snd.snd.snd.snd.fst,
          x.snd.snd.snd.snd.snd.snd.snd.snd.snd.snd.snd.snd.fst, ())))
theorem r3_0_run0 (v0 : List Pt) (v1 : Int) (v2 : Int) (v3 : Int) (v4 : List Int) (v5 : Int) (v6 : Int) (v7 : Nat) (v8 : Int) (v9 : Int) (v10 : Nat) (v11 : List Int) (v12 : List Int) : roundK tC G3 (look [(49, W3_49), (25, W3_25)]) c3_0 p3_0 (v0, v1, v2, v3, v4, v5, v6, v7, v8, v9, v10, v11, v12, ()) = r3_0 (v0, v1, v2, v3, v4, v5, v6, v7, v8, v9, v10, v11, v12, ()) := by kernel_rfl
theorem r3_0_run (x : List Pt × Int × Int × Int × List Int × Int × Int × Nat × Int × Int × Nat × List Int × List Int × Unit) : roundK tC G3 (look [(49, W3_49), (25, W3_25)]) c3_0 p3_0 x = r3_0 x := r3_0_run0 x.1 x.2.1 x.2.2.1 x.2.2.2.1 x.2.2.2.2.1 x.2.2.2.2.2.1 x.2.2.2.2.2.2.1 x.2.2.2.2.2.2.2.1 x.2.2.2.2.2.2.2.2.1 x.2.2.2.2.2.2.2.2.2.1 x.2.2.2.2.2.2.2.2.2.2.1 x.2.2.2.2.2.2.2.2.2.2.2.1 x.2.2.2.2.2.2.2.2.2.2.2.2.1
noncomputable def l3_0 (x : List Pt × Int × Int × Int × List Int × Int × Int × Nat × Int × Int × Nat × List Int × List Int × Unit) : Option (Bool × Unit ⊕ Int × Int × List Int × Int × Int × Nat × Int × Int × Nat × List Int × List Int × Unit) := iterO r3_0 x
noncomputable def W3_0 : LF tC := loopW tC p3_0 0 l3_0
theorem W3_0_ok : keyed 0 (bodyOf Try.f3) = [.block 0 (.loop c3_0)] ∧ ∀ n, n ≤ 0 → Snd tC n (.block 0 (.loop c3_0)) W3_0.k := ⟨by kernel_rfl, fun n hn => loopW_ok (p := p3_0) (id := 0) Y3 (lam_le (lam_cons W3_49_ok (lam_cons W3_25_ok lam_nil)) n hn) hn r3_0_run⟩
def S3 : FS := ⟨[[.v, .v, .s 5], [.v, .v], [.s 26]], [⟨[.one (.agg [.int .i64, .int .i64, .imm 5]), .one (.agg [.int .i64, .int .i64]), .one (.one (.imm 26))], []⟩], [⟨[vO], []⟩], [[.v]], []⟩
noncomputable def f3 (x : Int × Int × List Int × Int × Int × List Pt × Unit) : Option (Bool × Unit) :=
  (f9 ()).bind fun y380 =>
  bif !y380.fst then (f9 ()).bind fun y365 => some (y365.fst, ())
  else
    bif decide ((↑x.snd.snd.fst.length : Int) > (100 : Int)) then (f9 ()).bind fun y366 => some (y366.fst, ())
    else
      bif decide ((↑x.snd.snd.snd.snd.snd.fst.length : Int) > (12 : Int)) then (f9 ()).bind fun y367 => some (y367.fst, ())
      else
        (f10 (x.fst, x.snd.fst, x.snd.snd.fst, x.snd.snd.snd.fst, x.snd.snd.snd.snd.fst, ())).bind fun y379 =>
          Sum.elim
            (fun _x => (f11 (x.fst, x.snd.fst, x.snd.snd.fst, ())).bind fun y368 => bif !y368.fst then some (true, ()) else some (true, ()))
            (fun y378 =>
              Sum.elim
                (fun _x =>
                  (f11 (x.fst, x.snd.fst, x.snd.snd.fst, ())).bind fun y370 => bif !y370.fst then some (true, ()) else some (true, ()))
                (fun y377 =>
                  (f11 (x.fst, x.snd.fst, x.snd.snd.fst, ())).bind fun y376 =>
                    bif !y376.fst then some (false, ())
                    else
                      (l3_0
                            (x.snd.snd.snd.snd.snd.fst, (0 : Int), x.fst, x.snd.fst, x.snd.snd.fst, y377.fst, y377.snd.fst,
                              y377.snd.snd.fst, y377.snd.snd.snd.fst, y377.snd.snd.snd.snd.fst, y377.snd.snd.snd.snd.snd.fst,
                              y377.snd.snd.snd.snd.snd.snd.fst, y377.snd.snd.snd.snd.snd.snd.snd.fst, ())).bind
                        fun y375 =>
                        Sum.elim (fun y372 => some (y372.fst, ()))
                          (fun y374 =>
                            bif decide ((0 : Nat) + y374.snd.snd.snd.snd.snd.fst ≤ y374.snd.snd.snd.snd.snd.snd.snd.snd.snd.fst.length) then
                              bif
                                  decide
                                    ((0 : Nat) + y374.snd.snd.snd.snd.snd.snd.snd.snd.fst ≤
                                      y374.snd.snd.snd.snd.snd.snd.snd.snd.snd.snd.fst.length) then
                                (f19
                                      (y374.snd.snd.snd.fst, y374.snd.snd.snd.snd.fst,
                                        List.take y374.snd.snd.snd.snd.snd.fst
                                          (List.drop (0 : Nat) y374.snd.snd.snd.snd.snd.snd.snd.snd.snd.fst),
                                        y374.snd.snd.snd.snd.snd.snd.fst, y374.snd.snd.snd.snd.snd.snd.snd.fst,
                                        List.take y374.snd.snd.snd.snd.snd.snd.snd.snd.fst
                                          (List.drop (0 : Nat) y374.snd.snd.snd.snd.snd.snd.snd.snd.snd.snd.fst),
                                        ())).bind
                                  fun y373 =>
                                  bif decide ((0 : Nat) + y373.snd.snd.fst ≤ y373.snd.snd.snd.fst.length) then
                                    some
                                      (f18 y373.fst y373.snd.fst (List.take y373.snd.snd.fst (List.drop (0 : Nat) y373.snd.snd.snd.fst))
                                          y374.fst y374.snd.fst y374.snd.snd.fst,
                                        ())
                                  else none
                              else none
                            else none)
                          y375)
                y378)
            y379
noncomputable def F3 : CF tC := mkF tC S3 f3
theorem f3_run : ∀ a, fnS tC G3 (look [(0, W3_0)]) Try.f3 S3 a = f3 a := fun a => by kernel_rfl
theorem F3_ok : CFOK tC 3 F3 := mkF_ok Y3 (fn := Try.f3) (body := bodyOf Try.f3) (by kernel_rfl) (by kernel_rfl) (by kernel_rfl) (m := 0) rfl (lam_le (lam_cons W3_0_ok lam_nil)) f3_run
end Go.AE
