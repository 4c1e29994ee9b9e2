/-
  The plain functions that the seat's Go functions compute, each with the proof that the function keeps it. Printed by the generator (Gen2) and checked by the kernel.
-/
import Derived.Test.YtmhbjgelllhnbaaF
namespace Go.AE
open Go.Proofs Go.RowKit
set_option maxRecDepth 100000

/-! joined$1 -/
noncomputable def G50 : FuncId → Option (CF tC) := look []
theorem Y50 : SysN tC G50 := (sys_nil tC_ok tC_eq)
def S50 : FS := ⟨[[.v, .v], [.p]], [⟨[.one (.agg [.int .i64, .int .i64]), .one (.one (.ptr 0 0 0))], [.box [.int .i64, .int .i64, .imm 5]]⟩], [⟨[vI], [.box [.int .i64, .int .i64, .imm 5]]⟩], [[.v]], []⟩
def f50 (n1 : Int) (n2 : Int) (n3 : Int) (n4 : Int) (l5 : List Int) : Int × Int × Int × List Int :=
  (IntKind.i64.wrap (IntKind.i64.wrap (n2 * n3) + n1), n3, n4, l5)
noncomputable def F50 : CF tC := mkF tC S50 (fun a => some ((f50 a.1 a.2.1 a.2.2.1 a.2.2.2.1 a.2.2.2.2.1).1, (f50 a.1 a.2.1 a.2.2.1 a.2.2.2.1 a.2.2.2.2.1).2.1, (f50 a.1 a.2.1 a.2.2.1 a.2.2.2.1 a.2.2.2.2.1).2.2.1, (f50 a.1 a.2.1 a.2.2.1 a.2.2.2.1 a.2.2.2.2.1).2.2.2, ()))
def h50 (r : Int × Int × Int × List Int) : Option (altTy tE S50.outs) := some (r.1, r.2.1, r.2.2.1, r.2.2.2, ())
theorem f50_run : ∀ a, fnS tC G50 (look []) Try.f50 S50 a = (fun a => some ((f50 a.1 a.2.1 a.2.2.1 a.2.2.2.1 a.2.2.2.2.1).1, (f50 a.1 a.2.1 a.2.2.1 a.2.2.2.1 a.2.2.2.2.1).2.1, (f50 a.1 a.2.1 a.2.2.1 a.2.2.2.1 a.2.2.2.2.1).2.2.1, (f50 a.1 a.2.1 a.2.2.1 a.2.2.2.1 a.2.2.2.2.1).2.2.2, ())) a := fun a => by
  have key : ∀ (n1 : Int) (n2 : Int) (n3 : Int) (n4 : Int) (l5 : List Int), (h50 (IntKind.i64.wrap (IntKind.i64.wrap (n2 * n3) + n1), n3, n4, l5)) = h50 (f50 n1 n2 n3 n4 l5) := by
    intros
    unfold f50
    repeat' first | rfl | refine cond_h (g := h50) ?_ ?_
  exact Eq.trans (by kernel_rfl) (key a.1 a.2.1 a.2.2.1 a.2.2.2.1 a.2.2.2.2.1)
theorem F50_ok : CFOK tC 50 F50 := mkF_ok Y50 (fn := Try.f50) (body := bodyOf Try.f50) (by kernel_rfl) (by kernel_rfl) (by kernel_rfl) (m := 1) rfl (lam_le lam_nil) f50_run

/-! joined -/
noncomputable def G32 : FuncId → Option (CF tC) := look [(47, F47), (50, F50)]
theorem Y32 : SysN tC G32 := (sys_cons F47_ok (mkF_nat _ _) (sys_cons F50_ok (mkF_nat _ _) (sys_nil tC_ok tC_eq)))
noncomputable def c32_55 : Code := subCode (loopOf (loopOf (bodyOf Try.f32) 0) 2) 55
def p32_55 : PS := ⟨0, [1, 4, 5, 8, 11, 12, 13, 77, 78, 79], ⟨[vB, .one (.one (.imm 3)), vB, vB, vI, .one (.one (.ptr 0 0 0)), vB, vB, .one (.one (.ptr 1 0 0)), vB, vB, .one (.fn 50 [.ptr 0 0 0]), .one (.one (.sl 2)), .one (.one (.sl 3))] ++ vBs 63 ++ [.one (.one (.sl 4)), vI, vI] ++ vBs 35, [.box [.int .i64, .int .i64, .imm 5], .box [.int .i64, .int .i64], .arr 4, .arr 26, .arr 26]⟩, [⟨.normal, [1, 4, 5, 8, 11, 12, 13, 77, 78, 79], ⟨[vB, .one (.one (.imm 3)), vB, vB, vI, .one (.one (.ptr 0 0 0)), vB, vB, .one (.one (.ptr 1 0 0)), vB, vB, .one (.fn 50 [.ptr 0 0 0]), .one (.one (.sl 2)), .one (.one (.sl 3))] ++ vBs 63 ++ [.one (.one (.sl 4)), vI, vI] ++ vBs 35, [.box [.int .i64, .int .i64, .imm 5], .box [.int .i64, .int .i64], .arr 4, .arr 26, .arr 26]⟩, []⟩], []⟩
noncomputable def j32_55 (x : List Int × Int × Nat × Nat × Nat × Int × Int × Int × Int × List Int × Int × Int × List Bool × List Pt × List Pt × Unit) : Option (List Int × Int × Nat × Nat × Nat × Int × Int × Int × Int × List Int × Int × Int × List Bool × List Pt × List Pt × Unit) :=
  some
  (x.fst, x.snd.fst, x.snd.snd.fst, x.snd.snd.snd.fst, x.snd.snd.snd.snd.fst, x.snd.snd.snd.snd.snd.fst,
    IntKind.i64.wrap (x.snd.snd.snd.snd.snd.snd.fst + (1 : Int)), x.snd.snd.snd.snd.snd.snd.snd.fst, x.snd.snd.snd.snd.snd.snd.snd.snd.fst,
    x.snd.snd.snd.snd.snd.snd.snd.snd.snd.fst, x.snd.snd.snd.snd.snd.snd.snd.snd.snd.snd.fst,
    x.snd.snd.snd.snd.snd.snd.snd.snd.snd.snd.snd.fst, x.snd.snd.snd.snd.snd.snd.snd.snd.snd.snd.snd.snd.fst,
    x.snd.snd.snd.snd.snd.snd.snd.snd.snd.snd.snd.snd.snd.fst, x.snd.snd.snd.snd.snd.snd.snd.snd.snd.snd.snd.snd.snd.snd.fst, ())
theorem j32_55_run0 (v0 : List Int) (v1 : Int) (v2 : Nat) (v3 : Nat) (v4 : Nat) (v5 : Int) (v6 : Int) (v7 : Int) (v8 : Int) (v9 : List Int) (v10 : Int) (v11 : Int) (v12 : List Bool) (v13 : List Pt) (v14 : List Pt) : pieceK tC G32 (look []) c32_55 p32_55 (v0, v1, v2, v3, v4, v5, v6, v7, v8, v9, v10, v11, v12, v13, v14, ()) = j32_55 (v0, v1, v2, v3, v4, v5, v6, v7, v8, v9, v10, v11, v12, v13, v14, ()) := by kernel_rfl
theorem j32_55_run (x : List Int × Int × Nat × Nat × Nat × Int × Int × Int × Int × List Int × Int × Int × List Bool × List Pt × List Pt × Unit) : pieceK tC G32 (look []) c32_55 p32_55 x = j32_55 x := j32_55_run0 x.1 x.2.1 x.2.2.1 x.2.2.2.1 x.2.2.2.2.1 x.2.2.2.2.2.1 x.2.2.2.2.2.2.1 x.2.2.2.2.2.2.2.1 x.2.2.2.2.2.2.2.2.1 x.2.2.2.2.2.2.2.2.2.1 x.2.2.2.2.2.2.2.2.2.2.1 x.2.2.2.2.2.2.2.2.2.2.2.1 x.2.2.2.2.2.2.2.2.2.2.2.2.1 x.2.2.2.2.2.2.2.2.2.2.2.2.2.1 x.2.2.2.2.2.2.2.2.2.2.2.2.2.2.1
noncomputable def W32_55 : LF tC := cutLF tC p32_55 j32_55
theorem W32_55_ok : keyed 55 (loopOf (loopOf (bodyOf Try.f32) 0) 2) = [c32_55] ∧ ∀ n, n ≤ 0 → Snd tC n c32_55 W32_55.k := ⟨by kernel_rfl, fun n hn => cut_ok (p := p32_55) Y32 (lam_le lam_nil n hn) hn j32_55_run⟩
noncomputable def c32_6 : Code := loopOf (loopOf (bodyOf Try.f32) 0) 2
def p32_6 : LS := ⟨0, [1, 4, 5, 8, 11, 12, 13, 77, 78, 79], ⟨[vB, .one (.one (.imm 3)), vB, vB, vI, .one (.one (.ptr 0 0 0)), vB, vB, .one (.one (.ptr 1 0 0)), vB, vB, .one (.fn 50 [.ptr 0 0 0]), .one (.one (.sl 2)), .one (.one (.sl 3))] ++ vBs 63 ++ [.one (.one (.sl 4)), vI, vI] ++ vBs 35, [.box [.int .i64, .int .i64, .imm 5], .box [.int .i64, .int .i64], .arr 4, .arr 26, .arr 26]⟩, [⟨.exit 2, [1, 4, 5, 8, 11, 12, 13], ⟨[vB, .one (.one (.imm 3)), vB, vB, vI, .one (.one (.ptr 0 0 0)), vB, vB, .one (.one (.ptr 1 0 0)), vB, vB, .one (.fn 50 [.ptr 0 0 0]), .one (.one (.sl 2)), .one (.one (.sl 3))] ++ vBs 101, [.box [.int .i64, .int .i64, .imm 5], .box [.int .i64, .int .i64], .arr 4, .arr 26]⟩, []⟩], []⟩
noncomputable def r32_6 (x : List Int × Int × Nat × Nat × Nat × Int × Int × Int × Int × List Int × Int × Int × List Bool × List Pt × List Pt × Unit) : Option
  (List Int × Int × Nat × Nat × Nat × Int × Int × Int × Int × List Int × Int × Int × List Bool × List Pt × List Pt × Unit ⊕
    List Int × Int × Nat × Nat × Int × Int × List Int × Int × Int × List Bool × List Pt × Unit) :=
  bif decide (x.snd.snd.snd.snd.snd.snd.fst < x.snd.snd.snd.snd.snd.fst) then
  bif decide ((0 : Int) ≤ x.snd.snd.snd.snd.snd.snd.fst) && decide (x.snd.snd.snd.snd.snd.snd.fst < (↑x.snd.snd.snd.snd.fst : Int)) then
    x.snd.snd.snd.snd.snd.snd.snd.snd.snd.snd.snd.snd.snd.snd.fst[(0 : Nat) + x.snd.snd.snd.snd.snd.snd.fst.toNat]?.bind fun y151 =>
      bif
          f47 x.snd.snd.snd.snd.snd.snd.snd.fst x.snd.snd.snd.snd.snd.snd.snd.snd.fst x.snd.snd.snd.snd.snd.snd.snd.snd.snd.fst y151.X
            y151.Y then
        bif
            decide
                ((0 : Int) ≤
                  (f50 y151.X y151.Y x.snd.snd.snd.snd.snd.snd.snd.fst x.snd.snd.snd.snd.snd.snd.snd.snd.fst
                      x.snd.snd.snd.snd.snd.snd.snd.snd.snd.fst).fst) &&
              decide
                ((f50 y151.X y151.Y x.snd.snd.snd.snd.snd.snd.snd.fst x.snd.snd.snd.snd.snd.snd.snd.snd.fst
                      x.snd.snd.snd.snd.snd.snd.snd.snd.snd.fst).fst <
                  (↑x.snd.snd.fst : Int)) then
          x.snd.snd.snd.snd.snd.snd.snd.snd.snd.snd.snd.snd.fst[(0 : Nat) +
                  (f50 y151.X y151.Y x.snd.snd.snd.snd.snd.snd.snd.fst x.snd.snd.snd.snd.snd.snd.snd.snd.fst
                        x.snd.snd.snd.snd.snd.snd.snd.snd.snd.fst).fst.toNat]?.bind
            fun y149 =>
            bif !y149 then
              (idxO x.fst
                    (f50 y151.X y151.Y
                        (f50 y151.X y151.Y x.snd.snd.snd.snd.snd.snd.snd.fst x.snd.snd.snd.snd.snd.snd.snd.snd.fst
                              x.snd.snd.snd.snd.snd.snd.snd.snd.snd.fst).snd.fst
                        (f50 y151.X y151.Y x.snd.snd.snd.snd.snd.snd.snd.fst x.snd.snd.snd.snd.snd.snd.snd.snd.fst
                                x.snd.snd.snd.snd.snd.snd.snd.snd.snd.fst).snd.snd.fst
                        (f50 y151.X y151.Y x.snd.snd.snd.snd.snd.snd.snd.fst x.snd.snd.snd.snd.snd.snd.snd.snd.fst
                                x.snd.snd.snd.snd.snd.snd.snd.snd.snd.fst).snd.snd.snd).fst).bind
                fun y147 =>
                bif decide (y147 ≥ x.snd.fst) then
                  bif
                      decide
                          ((0 : Int) ≤
                            (f50 y151.X y151.Y
                                (f50 y151.X y151.Y
                                      (f50 y151.X y151.Y x.snd.snd.snd.snd.snd.snd.snd.fst x.snd.snd.snd.snd.snd.snd.snd.snd.fst
                                            x.snd.snd.snd.snd.snd.snd.snd.snd.snd.fst).snd.fst
                                      (f50 y151.X y151.Y x.snd.snd.snd.snd.snd.snd.snd.fst x.snd.snd.snd.snd.snd.snd.snd.snd.fst
                                              x.snd.snd.snd.snd.snd.snd.snd.snd.snd.fst).snd.snd.fst
                                      (f50 y151.X y151.Y x.snd.snd.snd.snd.snd.snd.snd.fst x.snd.snd.snd.snd.snd.snd.snd.snd.fst
                                              x.snd.snd.snd.snd.snd.snd.snd.snd.snd.fst).snd.snd.snd).snd.fst
                                (f50 y151.X y151.Y
                                        (f50 y151.X y151.Y x.snd.snd.snd.snd.snd.snd.snd.fst x.snd.snd.snd.snd.snd.snd.snd.snd.fst
                                              x.snd.snd.snd.snd.snd.snd.snd.snd.snd.fst).snd.fst
                                        (f50 y151.X y151.Y x.snd.snd.snd.snd.snd.snd.snd.fst x.snd.snd.snd.snd.snd.snd.snd.snd.fst
                                                x.snd.snd.snd.snd.snd.snd.snd.snd.snd.fst).snd.snd.fst
                                        (f50 y151.X y151.Y x.snd.snd.snd.snd.snd.snd.snd.fst x.snd.snd.snd.snd.snd.snd.snd.snd.fst
                                                x.snd.snd.snd.snd.snd.snd.snd.snd.snd.fst).snd.snd.snd).snd.snd.fst
                                (f50 y151.X y151.Y
                                        (f50 y151.X y151.Y x.snd.snd.snd.snd.snd.snd.snd.fst x.snd.snd.snd.snd.snd.snd.snd.snd.fst
                                              x.snd.snd.snd.snd.snd.snd.snd.snd.snd.fst).snd.fst
                                        (f50 y151.X y151.Y x.snd.snd.snd.snd.snd.snd.snd.fst x.snd.snd.snd.snd.snd.snd.snd.snd.fst
                                                x.snd.snd.snd.snd.snd.snd.snd.snd.snd.fst).snd.snd.fst
                                        (f50 y151.X y151.Y x.snd.snd.snd.snd.snd.snd.snd.fst x.snd.snd.snd.snd.snd.snd.snd.snd.fst
                                                x.snd.snd.snd.snd.snd.snd.snd.snd.snd.fst).snd.snd.snd).snd.snd.snd).fst) &&
                        decide
                          ((f50 y151.X y151.Y
                                (f50 y151.X y151.Y
                                      (f50 y151.X y151.Y x.snd.snd.snd.snd.snd.snd.snd.fst x.snd.snd.snd.snd.snd.snd.snd.snd.fst
                                            x.snd.snd.snd.snd.snd.snd.snd.snd.snd.fst).snd.fst
                                      (f50 y151.X y151.Y x.snd.snd.snd.snd.snd.snd.snd.fst x.snd.snd.snd.snd.snd.snd.snd.snd.fst
                                              x.snd.snd.snd.snd.snd.snd.snd.snd.snd.fst).snd.snd.fst
                                      (f50 y151.X y151.Y x.snd.snd.snd.snd.snd.snd.snd.fst x.snd.snd.snd.snd.snd.snd.snd.snd.fst
                                              x.snd.snd.snd.snd.snd.snd.snd.snd.snd.fst).snd.snd.snd).snd.fst
                                (f50 y151.X y151.Y
                                        (f50 y151.X y151.Y x.snd.snd.snd.snd.snd.snd.snd.fst x.snd.snd.snd.snd.snd.snd.snd.snd.fst
                                              x.snd.snd.snd.snd.snd.snd.snd.snd.snd.fst).snd.fst
                                        (f50 y151.X y151.Y x.snd.snd.snd.snd.snd.snd.snd.fst x.snd.snd.snd.snd.snd.snd.snd.snd.fst
                                                x.snd.snd.snd.snd.snd.snd.snd.snd.snd.fst).snd.snd.fst
                                        (f50 y151.X y151.Y x.snd.snd.snd.snd.snd.snd.snd.fst x.snd.snd.snd.snd.snd.snd.snd.snd.fst
                                                x.snd.snd.snd.snd.snd.snd.snd.snd.snd.fst).snd.snd.snd).snd.snd.fst
                                (f50 y151.X y151.Y
                                        (f50 y151.X y151.Y x.snd.snd.snd.snd.snd.snd.snd.fst x.snd.snd.snd.snd.snd.snd.snd.snd.fst
                                              x.snd.snd.snd.snd.snd.snd.snd.snd.snd.fst).snd.fst
                                        (f50 y151.X y151.Y x.snd.snd.snd.snd.snd.snd.snd.fst x.snd.snd.snd.snd.snd.snd.snd.snd.fst
                                                x.snd.snd.snd.snd.snd.snd.snd.snd.snd.fst).snd.snd.fst
                                        (f50 y151.X y151.Y x.snd.snd.snd.snd.snd.snd.snd.fst x.snd.snd.snd.snd.snd.snd.snd.snd.fst
                                                x.snd.snd.snd.snd.snd.snd.snd.snd.snd.fst).snd.snd.snd).snd.snd.snd).fst <
                            (↑x.snd.snd.fst : Int)) then
                    x.snd.snd.snd.snd.snd.snd.snd.snd.snd.snd.snd.snd.fst[(0 : Nat) +
                            (f50 y151.X y151.Y
                                  (f50 y151.X y151.Y
                                        (f50 y151.X y151.Y x.snd.snd.snd.snd.snd.snd.snd.fst x.snd.snd.snd.snd.snd.snd.snd.snd.fst
                                              x.snd.snd.snd.snd.snd.snd.snd.snd.snd.fst).snd.fst
                                        (f50 y151.X y151.Y x.snd.snd.snd.snd.snd.snd.snd.fst x.snd.snd.snd.snd.snd.snd.snd.snd.fst
                                                x.snd.snd.snd.snd.snd.snd.snd.snd.snd.fst).snd.snd.fst
                                        (f50 y151.X y151.Y x.snd.snd.snd.snd.snd.snd.snd.fst x.snd.snd.snd.snd.snd.snd.snd.snd.fst
                                                x.snd.snd.snd.snd.snd.snd.snd.snd.snd.fst).snd.snd.snd).snd.fst
                                  (f50 y151.X y151.Y
                                          (f50 y151.X y151.Y x.snd.snd.snd.snd.snd.snd.snd.fst x.snd.snd.snd.snd.snd.snd.snd.snd.fst
                                                x.snd.snd.snd.snd.snd.snd.snd.snd.snd.fst).snd.fst
                                          (f50 y151.X y151.Y x.snd.snd.snd.snd.snd.snd.snd.fst x.snd.snd.snd.snd.snd.snd.snd.snd.fst
                                                  x.snd.snd.snd.snd.snd.snd.snd.snd.snd.fst).snd.snd.fst
                                          (f50 y151.X y151.Y x.snd.snd.snd.snd.snd.snd.snd.fst x.snd.snd.snd.snd.snd.snd.snd.snd.fst
                                                  x.snd.snd.snd.snd.snd.snd.snd.snd.snd.fst).snd.snd.snd).snd.snd.fst
                                  (f50 y151.X y151.Y
                                          (f50 y151.X y151.Y x.snd.snd.snd.snd.snd.snd.snd.fst x.snd.snd.snd.snd.snd.snd.snd.snd.fst
                                                x.snd.snd.snd.snd.snd.snd.snd.snd.snd.fst).snd.fst
                                          (f50 y151.X y151.Y x.snd.snd.snd.snd.snd.snd.snd.fst x.snd.snd.snd.snd.snd.snd.snd.snd.fst
                                                  x.snd.snd.snd.snd.snd.snd.snd.snd.snd.fst).snd.snd.fst
                                          (f50 y151.X y151.Y x.snd.snd.snd.snd.snd.snd.snd.fst x.snd.snd.snd.snd.snd.snd.snd.snd.fst
                                                  x.snd.snd.snd.snd.snd.snd.snd.snd.snd.fst).snd.snd.snd).snd.snd.snd).fst.toNat]?.bind
                      fun _x =>
                      bif decide ((0 : Nat) + x.snd.snd.snd.fst ≤ x.snd.snd.snd.snd.snd.snd.snd.snd.snd.snd.snd.snd.snd.fst.length) then
                        bif roomy (x.snd.snd.snd.fst + (1 : Nat)) (16 : Nat) then
                          (j32_55
                                (x.fst, x.snd.fst, x.snd.snd.fst, x.snd.snd.snd.fst + (1 : Nat), x.snd.snd.snd.snd.fst,
                                  x.snd.snd.snd.snd.snd.fst, x.snd.snd.snd.snd.snd.snd.fst,
                                  (f50 y151.X y151.Y
                                        (f50 y151.X y151.Y
                                              (f50 y151.X y151.Y x.snd.snd.snd.snd.snd.snd.snd.fst x.snd.snd.snd.snd.snd.snd.snd.snd.fst
                                                    x.snd.snd.snd.snd.snd.snd.snd.snd.snd.fst).snd.fst
                                              (f50 y151.X y151.Y x.snd.snd.snd.snd.snd.snd.snd.fst x.snd.snd.snd.snd.snd.snd.snd.snd.fst
                                                      x.snd.snd.snd.snd.snd.snd.snd.snd.snd.fst).snd.snd.fst
                                              (f50 y151.X y151.Y x.snd.snd.snd.snd.snd.snd.snd.fst x.snd.snd.snd.snd.snd.snd.snd.snd.fst
                                                      x.snd.snd.snd.snd.snd.snd.snd.snd.snd.fst).snd.snd.snd).snd.fst
                                        (f50 y151.X y151.Y
                                                (f50 y151.X y151.Y x.snd.snd.snd.snd.snd.snd.snd.fst x.snd.snd.snd.snd.snd.snd.snd.snd.fst
                                                      x.snd.snd.snd.snd.snd.snd.snd.snd.snd.fst).snd.fst
                                                (f50 y151.X y151.Y x.snd.snd.snd.snd.snd.snd.snd.fst x.snd.snd.snd.snd.snd.snd.snd.snd.fst
                                                        x.snd.snd.snd.snd.snd.snd.snd.snd.snd.fst).snd.snd.fst
                                                (f50 y151.X y151.Y x.snd.snd.snd.snd.snd.snd.snd.fst x.snd.snd.snd.snd.snd.snd.snd.snd.fst
                                                        x.snd.snd.snd.snd.snd.snd.snd.snd.snd.fst).snd.snd.snd).snd.snd.fst
                                        (f50 y151.X y151.Y
                                                (f50 y151.X y151.Y x.snd.snd.snd.snd.snd.snd.snd.fst x.snd.snd.snd.snd.snd.snd.snd.snd.fst
                                                      x.snd.snd.snd.snd.snd.snd.snd.snd.snd.fst).snd.fst
                                                (f50 y151.X y151.Y x.snd.snd.snd.snd.snd.snd.snd.fst x.snd.snd.snd.snd.snd.snd.snd.snd.fst
                                                        x.snd.snd.snd.snd.snd.snd.snd.snd.snd.fst).snd.snd.fst
                                                (f50 y151.X y151.Y x.snd.snd.snd.snd.snd.snd.snd.fst x.snd.snd.snd.snd.snd.snd.snd.snd.fst
                                                        x.snd.snd.snd.snd.snd.snd.snd.snd.snd.fst).snd.snd.snd).snd.snd.snd).snd.fst,
                                  (f50 y151.X y151.Y
                                          (f50 y151.X y151.Y
                                                (f50 y151.X y151.Y x.snd.snd.snd.snd.snd.snd.snd.fst x.snd.snd.snd.snd.snd.snd.snd.snd.fst
                                                      x.snd.snd.snd.snd.snd.snd.snd.snd.snd.fst).snd.fst
                                                (f50 y151.X y151.Y x.snd.snd.snd.snd.snd.snd.snd.fst x.snd.snd.snd.snd.snd.snd.snd.snd.fst
                                                        x.snd.snd.snd.snd.snd.snd.snd.snd.snd.fst).snd.snd.fst
                                                (f50 y151.X y151.Y x.snd.snd.snd.snd.snd.snd.snd.fst x.snd.snd.snd.snd.snd.snd.snd.snd.fst
                                                        x.snd.snd.snd.snd.snd.snd.snd.snd.snd.fst).snd.snd.snd).snd.fst
                                          (f50 y151.X y151.Y
                                                  (f50 y151.X y151.Y x.snd.snd.snd.snd.snd.snd.snd.fst x.snd.snd.snd.snd.snd.snd.snd.snd.fst
                                                        x.snd.snd.snd.snd.snd.snd.snd.snd.snd.fst).snd.fst
                                                  (f50 y151.X y151.Y x.snd.snd.snd.snd.snd.snd.snd.fst x.snd.snd.snd.snd.snd.snd.snd.snd.fst
                                                          x.snd.snd.snd.snd.snd.snd.snd.snd.snd.fst).snd.snd.fst
                                                  (f50 y151.X y151.Y x.snd.snd.snd.snd.snd.snd.snd.fst x.snd.snd.snd.snd.snd.snd.snd.snd.fst
                                                          x.snd.snd.snd.snd.snd.snd.snd.snd.snd.fst).snd.snd.snd).snd.snd.fst
                                          (f50 y151.X y151.Y
                                                  (f50 y151.X y151.Y x.snd.snd.snd.snd.snd.snd.snd.fst x.snd.snd.snd.snd.snd.snd.snd.snd.fst
                                                        x.snd.snd.snd.snd.snd.snd.snd.snd.snd.fst).snd.fst
                                                  (f50 y151.X y151.Y x.snd.snd.snd.snd.snd.snd.snd.fst x.snd.snd.snd.snd.snd.snd.snd.snd.fst
                                                          x.snd.snd.snd.snd.snd.snd.snd.snd.snd.fst).snd.snd.fst
                                                  (f50 y151.X y151.Y x.snd.snd.snd.snd.snd.snd.snd.fst x.snd.snd.snd.snd.snd.snd.snd.snd.fst
                                                          x.snd.snd.snd.snd.snd.snd.snd.snd.snd.fst).snd.snd.snd).snd.snd.snd).snd.snd.fst,
                                  (f50 y151.X y151.Y
                                          (f50 y151.X y151.Y
                                                (f50 y151.X y151.Y x.snd.snd.snd.snd.snd.snd.snd.fst x.snd.snd.snd.snd.snd.snd.snd.snd.fst
                                                      x.snd.snd.snd.snd.snd.snd.snd.snd.snd.fst).snd.fst
                                                (f50 y151.X y151.Y x.snd.snd.snd.snd.snd.snd.snd.fst x.snd.snd.snd.snd.snd.snd.snd.snd.fst
                                                        x.snd.snd.snd.snd.snd.snd.snd.snd.snd.fst).snd.snd.fst
                                                (f50 y151.X y151.Y x.snd.snd.snd.snd.snd.snd.snd.fst x.snd.snd.snd.snd.snd.snd.snd.snd.fst
                                                        x.snd.snd.snd.snd.snd.snd.snd.snd.snd.fst).snd.snd.snd).snd.fst
                                          (f50 y151.X y151.Y
                                                  (f50 y151.X y151.Y x.snd.snd.snd.snd.snd.snd.snd.fst x.snd.snd.snd.snd.snd.snd.snd.snd.fst
                                                        x.snd.snd.snd.snd.snd.snd.snd.snd.snd.fst).snd.fst
                                                  (f50 y151.X y151.Y x.snd.snd.snd.snd.snd.snd.snd.fst x.snd.snd.snd.snd.snd.snd.snd.snd.fst
                                                          x.snd.snd.snd.snd.snd.snd.snd.snd.snd.fst).snd.snd.fst
                                                  (f50 y151.X y151.Y x.snd.snd.snd.snd.snd.snd.snd.fst x.snd.snd.snd.snd.snd.snd.snd.snd.fst
                                                          x.snd.snd.snd.snd.snd.snd.snd.snd.snd.fst).snd.snd.snd).snd.snd.fst
                                          (f50 y151.X y151.Y
                                                  (f50 y151.X y151.Y x.snd.snd.snd.snd.snd.snd.snd.fst x.snd.snd.snd.snd.snd.snd.snd.snd.fst
                                                        x.snd.snd.snd.snd.snd.snd.snd.snd.snd.fst).snd.fst
                                                  (f50 y151.X y151.Y x.snd.snd.snd.snd.snd.snd.snd.fst x.snd.snd.snd.snd.snd.snd.snd.snd.fst
                                                          x.snd.snd.snd.snd.snd.snd.snd.snd.snd.fst).snd.snd.fst
                                                  (f50 y151.X y151.Y x.snd.snd.snd.snd.snd.snd.snd.fst x.snd.snd.snd.snd.snd.snd.snd.snd.fst
                                                          x.snd.snd.snd.snd.snd.snd.snd.snd.snd.fst).snd.snd.snd).snd.snd.snd).snd.snd.snd,
                                  x.snd.snd.snd.snd.snd.snd.snd.snd.snd.snd.fst, x.snd.snd.snd.snd.snd.snd.snd.snd.snd.snd.snd.fst,
                                  x.snd.snd.snd.snd.snd.snd.snd.snd.snd.snd.snd.snd.fst.set
                                    ((0 : Nat) +
                                      (f50 y151.X y151.Y
                                            (f50 y151.X y151.Y
                                                  (f50 y151.X y151.Y x.snd.snd.snd.snd.snd.snd.snd.fst x.snd.snd.snd.snd.snd.snd.snd.snd.fst
                                                        x.snd.snd.snd.snd.snd.snd.snd.snd.snd.fst).snd.fst
                                                  (f50 y151.X y151.Y x.snd.snd.snd.snd.snd.snd.snd.fst x.snd.snd.snd.snd.snd.snd.snd.snd.fst
                                                          x.snd.snd.snd.snd.snd.snd.snd.snd.snd.fst).snd.snd.fst
                                                  (f50 y151.X y151.Y x.snd.snd.snd.snd.snd.snd.snd.fst x.snd.snd.snd.snd.snd.snd.snd.snd.fst
                                                          x.snd.snd.snd.snd.snd.snd.snd.snd.snd.fst).snd.snd.snd).snd.fst
                                            (f50 y151.X y151.Y
                                                    (f50 y151.X y151.Y x.snd.snd.snd.snd.snd.snd.snd.fst
                                                          x.snd.snd.snd.snd.snd.snd.snd.snd.fst
                                                          x.snd.snd.snd.snd.snd.snd.snd.snd.snd.fst).snd.fst
                                                    (f50 y151.X y151.Y x.snd.snd.snd.snd.snd.snd.snd.fst
                                                            x.snd.snd.snd.snd.snd.snd.snd.snd.fst
                                                            x.snd.snd.snd.snd.snd.snd.snd.snd.snd.fst).snd.snd.fst
                                                    (f50 y151.X y151.Y x.snd.snd.snd.snd.snd.snd.snd.fst
                                                            x.snd.snd.snd.snd.snd.snd.snd.snd.fst
                                                            x.snd.snd.snd.snd.snd.snd.snd.snd.snd.fst).snd.snd.snd).snd.snd.fst
                                            (f50 y151.X y151.Y
                                                    (f50 y151.X y151.Y x.snd.snd.snd.snd.snd.snd.snd.fst
                                                          x.snd.snd.snd.snd.snd.snd.snd.snd.fst
                                                          x.snd.snd.snd.snd.snd.snd.snd.snd.snd.fst).snd.fst
                                                    (f50 y151.X y151.Y x.snd.snd.snd.snd.snd.snd.snd.fst
                                                            x.snd.snd.snd.snd.snd.snd.snd.snd.fst
                                                            x.snd.snd.snd.snd.snd.snd.snd.snd.snd.fst).snd.snd.fst
                                                    (f50 y151.X y151.Y x.snd.snd.snd.snd.snd.snd.snd.fst
                                                            x.snd.snd.snd.snd.snd.snd.snd.snd.fst
                                                            x.snd.snd.snd.snd.snd.snd.snd.snd.snd.fst).snd.snd.snd).snd.snd.snd).fst.toNat)
                                    true,
                                  List.take x.snd.snd.snd.fst
                                      (List.drop (0 : Nat) x.snd.snd.snd.snd.snd.snd.snd.snd.snd.snd.snd.snd.snd.fst) ++
                                    [Pt.mk y151.X y151.Y],
                                  x.snd.snd.snd.snd.snd.snd.snd.snd.snd.snd.snd.snd.snd.snd.fst, ())).bind
                            fun y144 =>
                            some
                              (Sum.inl
                                (y144.fst, y144.snd.fst, y144.snd.snd.fst, y144.snd.snd.snd.fst, y144.snd.snd.snd.snd.fst,
                                  y144.snd.snd.snd.snd.snd.fst, y144.snd.snd.snd.snd.snd.snd.fst, y144.snd.snd.snd.snd.snd.snd.snd.fst,
                                  y144.snd.snd.snd.snd.snd.snd.snd.snd.fst, y144.snd.snd.snd.snd.snd.snd.snd.snd.snd.fst,
                                  y144.snd.snd.snd.snd.snd.snd.snd.snd.snd.snd.fst, y144.snd.snd.snd.snd.snd.snd.snd.snd.snd.snd.snd.fst,
                                  y144.snd.snd.snd.snd.snd.snd.snd.snd.snd.snd.snd.snd.fst,
                                  y144.snd.snd.snd.snd.snd.snd.snd.snd.snd.snd.snd.snd.snd.fst,
                                  y144.snd.snd.snd.snd.snd.snd.snd.snd.snd.snd.snd.snd.snd.snd.fst, ()))
                        else none
                      else none
                  else none
                else
                  (j32_55
                        (x.fst, x.snd.fst, x.snd.snd.fst, x.snd.snd.snd.fst, x.snd.snd.snd.snd.fst, x.snd.snd.snd.snd.snd.fst,
                          x.snd.snd.snd.snd.snd.snd.fst,
                          (f50 y151.X y151.Y
                                (f50 y151.X y151.Y x.snd.snd.snd.snd.snd.snd.snd.fst x.snd.snd.snd.snd.snd.snd.snd.snd.fst
                                      x.snd.snd.snd.snd.snd.snd.snd.snd.snd.fst).snd.fst
                                (f50 y151.X y151.Y x.snd.snd.snd.snd.snd.snd.snd.fst x.snd.snd.snd.snd.snd.snd.snd.snd.fst
                                        x.snd.snd.snd.snd.snd.snd.snd.snd.snd.fst).snd.snd.fst
                                (f50 y151.X y151.Y x.snd.snd.snd.snd.snd.snd.snd.fst x.snd.snd.snd.snd.snd.snd.snd.snd.fst
                                        x.snd.snd.snd.snd.snd.snd.snd.snd.snd.fst).snd.snd.snd).snd.fst,
                          (f50 y151.X y151.Y
                                  (f50 y151.X y151.Y x.snd.snd.snd.snd.snd.snd.snd.fst x.snd.snd.snd.snd.snd.snd.snd.snd.fst
                                        x.snd.snd.snd.snd.snd.snd.snd.snd.snd.fst).snd.fst
                                  (f50 y151.X y151.Y x.snd.snd.snd.snd.snd.snd.snd.fst x.snd.snd.snd.snd.snd.snd.snd.snd.fst
                                          x.snd.snd.snd.snd.snd.snd.snd.snd.snd.fst).snd.snd.fst
                                  (f50 y151.X y151.Y x.snd.snd.snd.snd.snd.snd.snd.fst x.snd.snd.snd.snd.snd.snd.snd.snd.fst
                                          x.snd.snd.snd.snd.snd.snd.snd.snd.snd.fst).snd.snd.snd).snd.snd.fst,
                          (f50 y151.X y151.Y
                                  (f50 y151.X y151.Y x.snd.snd.snd.snd.snd.snd.snd.fst x.snd.snd.snd.snd.snd.snd.snd.snd.fst
                                        x.snd.snd.snd.snd.snd.snd.snd.snd.snd.fst).snd.fst
                                  (f50 y151.X y151.Y x.snd.snd.snd.snd.snd.snd.snd.fst x.snd.snd.snd.snd.snd.snd.snd.snd.fst
                                          x.snd.snd.snd.snd.snd.snd.snd.snd.snd.fst).snd.snd.fst
                                  (f50 y151.X y151.Y x.snd.snd.snd.snd.snd.snd.snd.fst x.snd.snd.snd.snd.snd.snd.snd.snd.fst
                                          x.snd.snd.snd.snd.snd.snd.snd.snd.snd.fst).snd.snd.snd).snd.snd.snd,
                          x.snd.snd.snd.snd.snd.snd.snd.snd.snd.snd.fst, x.snd.snd.snd.snd.snd.snd.snd.snd.snd.snd.snd.fst,
                          x.snd.snd.snd.snd.snd.snd.snd.snd.snd.snd.snd.snd.fst, x.snd.snd.snd.snd.snd.snd.snd.snd.snd.snd.snd.snd.snd.fst,
                          x.snd.snd.snd.snd.snd.snd.snd.snd.snd.snd.snd.snd.snd.snd.fst, ())).bind
                    fun y146 =>
                    some
                      (Sum.inl
                        (y146.fst, y146.snd.fst, y146.snd.snd.fst, y146.snd.snd.snd.fst, y146.snd.snd.snd.snd.fst,
                          y146.snd.snd.snd.snd.snd.fst, y146.snd.snd.snd.snd.snd.snd.fst, y146.snd.snd.snd.snd.snd.snd.snd.fst,
                          y146.snd.snd.snd.snd.snd.snd.snd.snd.fst, y146.snd.snd.snd.snd.snd.snd.snd.snd.snd.fst,
                          y146.snd.snd.snd.snd.snd.snd.snd.snd.snd.snd.fst, y146.snd.snd.snd.snd.snd.snd.snd.snd.snd.snd.snd.fst,
                          y146.snd.snd.snd.snd.snd.snd.snd.snd.snd.snd.snd.snd.fst,
                          y146.snd.snd.snd.snd.snd.snd.snd.snd.snd.snd.snd.snd.snd.fst,
                          y146.snd.snd.snd.snd.snd.snd.snd.snd.snd.snd.snd.snd.snd.snd.fst, ()))
            else
              (j32_55
                    (x.fst, x.snd.fst, x.snd.snd.fst, x.snd.snd.snd.fst, x.snd.snd.snd.snd.fst, x.snd.snd.snd.snd.snd.fst,
                      x.snd.snd.snd.snd.snd.snd.fst,
                      (f50 y151.X y151.Y x.snd.snd.snd.snd.snd.snd.snd.fst x.snd.snd.snd.snd.snd.snd.snd.snd.fst
                            x.snd.snd.snd.snd.snd.snd.snd.snd.snd.fst).snd.fst,
                      (f50 y151.X y151.Y x.snd.snd.snd.snd.snd.snd.snd.fst x.snd.snd.snd.snd.snd.snd.snd.snd.fst
                              x.snd.snd.snd.snd.snd.snd.snd.snd.snd.fst).snd.snd.fst,
                      (f50 y151.X y151.Y x.snd.snd.snd.snd.snd.snd.snd.fst x.snd.snd.snd.snd.snd.snd.snd.snd.fst
                              x.snd.snd.snd.snd.snd.snd.snd.snd.snd.fst).snd.snd.snd,
                      x.snd.snd.snd.snd.snd.snd.snd.snd.snd.snd.fst, x.snd.snd.snd.snd.snd.snd.snd.snd.snd.snd.snd.fst,
                      x.snd.snd.snd.snd.snd.snd.snd.snd.snd.snd.snd.snd.fst, x.snd.snd.snd.snd.snd.snd.snd.snd.snd.snd.snd.snd.snd.fst,
                      x.snd.snd.snd.snd.snd.snd.snd.snd.snd.snd.snd.snd.snd.snd.fst, ())).bind
                fun y148 =>
                some
                  (Sum.inl
                    (y148.fst, y148.snd.fst, y148.snd.snd.fst, y148.snd.snd.snd.fst, y148.snd.snd.snd.snd.fst, y148.snd.snd.snd.snd.snd.fst,
                      y148.snd.snd.snd.snd.snd.snd.fst, y148.snd.snd.snd.snd.snd.snd.snd.fst, y148.snd.snd.snd.snd.snd.snd.snd.snd.fst,
                      y148.snd.snd.snd.snd.snd.snd.snd.snd.snd.fst, y148.snd.snd.snd.snd.snd.snd.snd.snd.snd.snd.fst,
                      y148.snd.snd.snd.snd.snd.snd.snd.snd.snd.snd.snd.fst, y148.snd.snd.snd.snd.snd.snd.snd.snd.snd.snd.snd.snd.fst,
                      y148.snd.snd.snd.snd.snd.snd.snd.snd.snd.snd.snd.snd.snd.fst,
                      y148.snd.snd.snd.snd.snd.snd.snd.snd.snd.snd.snd.snd.snd.snd.fst, ()))
        else none
      else
        (j32_55
              (x.fst, x.snd.fst, x.snd.snd.fst, x.snd.snd.snd.fst, x.snd.snd.snd.snd.fst, x.snd.snd.snd.snd.snd.fst,
                x.snd.snd.snd.snd.snd.snd.fst, x.snd.snd.snd.snd.snd.snd.snd.fst, x.snd.snd.snd.snd.snd.snd.snd.snd.fst,
                x.snd.snd.snd.snd.snd.snd.snd.snd.snd.fst, x.snd.snd.snd.snd.snd.snd.snd.snd.snd.snd.fst,
                x.snd.snd.snd.snd.snd.snd.snd.snd.snd.snd.snd.fst, x.snd.snd.snd.snd.snd.snd.snd.snd.snd.snd.snd.snd.fst,
                x.snd.snd.snd.snd.snd.snd.snd.snd.snd.snd.snd.snd.snd.fst, x.snd.snd.snd.snd.snd.snd.snd.snd.snd.snd.snd.snd.snd.snd.fst,
                ())).bind
          fun y150 =>
          some
            (Sum.inl
              (y150.fst, y150.snd.fst, y150.snd.snd.fst, y150.snd.snd.snd.fst, y150.snd.snd.snd.snd.fst, y150.snd.snd.snd.snd.snd.fst,
                y150.snd.snd.snd.snd.snd.snd.fst, y150.snd.snd.snd.snd.snd.snd.snd.fst, y150.snd.snd.snd.snd.snd.snd.snd.snd.fst,
                y150.snd.snd.snd.snd.snd.snd.snd.snd.snd.fst, y150.snd.snd.snd.snd.snd.snd.snd.snd.snd.snd.fst,
                y150.snd.snd.snd.snd.snd.snd.snd.snd.snd.snd.snd.fst, y150.snd.snd.snd.snd.snd.snd.snd.snd.snd.snd.snd.snd.fst,
                y150.snd.snd.snd.snd.snd.snd.snd.snd.snd.snd.snd.snd.snd.fst,
                y150.snd.snd.snd.snd.snd.snd.snd.snd.snd.snd.snd.snd.snd.snd.fst, ()))
  else none
else
  some
    (Sum.inr
      (x.fst, x.snd.fst, x.snd.snd.fst, x.snd.snd.snd.fst, x.snd.snd.snd.snd.snd.snd.snd.fst, x.snd.snd.snd.snd.snd.snd.snd.snd.fst,
        x.snd.snd.snd.snd.snd.snd.snd.snd.snd.fst, x.snd.snd.snd.snd.snd.snd.snd.snd.snd.snd.fst,
        x.snd.snd.snd.snd.snd.snd.snd.snd.snd.snd.snd.fst, x.snd.snd.snd.snd.snd.snd.snd.snd.snd.snd.snd.snd.fst,
        x.snd.snd.snd.snd.snd.snd.snd.snd.snd.snd.snd.snd.snd.fst, ()))
theorem r32_6_run0 (v0 : List Int) (v1 : Int) (v2 : Nat) (v3 : Nat) (v4 : Nat) (v5 : Int) (v6 : Int) (v7 : Int) (v8 : Int) (v9 : List Int) (v10 : Int) (v11 : Int) (v12 : List Bool) (v13 : List Pt) (v14 : List Pt) : roundK tC G32 (look [(55, W32_55)]) c32_6 p32_6 (v0, v1, v2, v3, v4, v5, v6, v7, v8, v9, v10, v11, v12, v13, v14, ()) = r32_6 (v0, v1, v2, v3, v4, v5, v6, v7, v8, v9, v10, v11, v12, v13, v14, ()) := by kernel_rfl
theorem r32_6_run (x : List Int × Int × Nat × Nat × Nat × Int × Int × Int × Int × List Int × Int × Int × List Bool × List Pt × List Pt × Unit) : roundK tC G32 (look [(55, W32_55)]) c32_6 p32_6 x = r32_6 x := r32_6_run0 x.1 x.2.1 x.2.2.1 x.2.2.2.1 x.2.2.2.2.1 x.2.2.2.2.2.1 x.2.2.2.2.2.2.1 x.2.2.2.2.2.2.2.1 x.2.2.2.2.2.2.2.2.1 x.2.2.2.2.2.2.2.2.2.1 x.2.2.2.2.2.2.2.2.2.2.1 x.2.2.2.2.2.2.2.2.2.2.2.1 x.2.2.2.2.2.2.2.2.2.2.2.2.1 x.2.2.2.2.2.2.2.2.2.2.2.2.2.1 x.2.2.2.2.2.2.2.2.2.2.2.2.2.2.1
noncomputable def l32_6 (x : List Int × Int × Nat × Nat × Nat × Int × Int × Int × Int × List Int × Int × Int × List Bool × List Pt × List Pt × Unit) : Option (List Int × Int × Nat × Nat × Int × Int × List Int × Int × Int × List Bool × List Pt × Unit) := iterO r32_6 x
noncomputable def W32_6 : LF tC := loopW tC p32_6 2 l32_6
theorem W32_6_ok : keyed 6 (loopOf (bodyOf Try.f32) 0) = [.block 2 (.loop c32_6)] ∧ ∀ n, n ≤ 0 → Snd tC n (.block 2 (.loop c32_6)) W32_6.k := ⟨by kernel_rfl, fun n hn => loopW_ok (p := p32_6) (id := 2) Y32 (lam_le (lam_cons W32_55_ok lam_nil) n hn) hn r32_6_run⟩
noncomputable def c32_0 : Code := loopOf (bodyOf Try.f32) 0
def p32_0 : LS := ⟨0, [1, 4, 5, 8, 11, 12, 13], ⟨[vB, .one (.one (.imm 3)), vB, vB, vI, .one (.one (.ptr 0 0 0)), vB, vB, .one (.one (.ptr 1 0 0)), vB, vB, .one (.fn 50 [.ptr 0 0 0]), .one (.one (.sl 2)), .one (.one (.sl 3))] ++ vBs 101, [.box [.int .i64, .int .i64, .imm 5], .box [.int .i64, .int .i64], .arr 4, .arr 26]⟩, [⟨.ret, [10], ⟨vBs 10 ++ [vO] ++ vBs 104, []⟩, []⟩, ⟨.exit 0, [], ⟨vBs 115, []⟩, []⟩], []⟩
noncomputable def r32_0 (x : List Int × Int × Nat × Nat × Int × Int × List Int × Int × Int × List Bool × List Pt × Unit) : Option (List Int × Int × Nat × Nat × Int × Int × List Int × Int × Int × List Bool × List Pt × Unit ⊕ Bool × Unit ⊕ Unit) :=
  bif decide ((↑x.snd.snd.snd.fst : Int) > (0 : Int)) then
  bif
      decide ((0 : Int) ≤ IntKind.i64.wrap ((↑x.snd.snd.snd.fst : Int) - (1 : Int))) &&
        decide (IntKind.i64.wrap ((↑x.snd.snd.snd.fst : Int) - (1 : Int)) < (↑x.snd.snd.snd.fst : Int)) then
    x.snd.snd.snd.snd.snd.snd.snd.snd.snd.snd.fst[(0 : Nat) + (IntKind.i64.wrap ((↑x.snd.snd.snd.fst : Int) - (1 : Int))).toNat]?.bind
      fun y165 =>
      bif
          true && decide ((0 : Int) ≤ IntKind.i64.wrap ((↑x.snd.snd.snd.fst : Int) - (1 : Int))) &&
              decide (IntKind.i64.wrap ((↑x.snd.snd.snd.fst : Int) - (1 : Int)) ≤ (↑x.snd.snd.snd.fst : Int)) &&
            decide ((↑x.snd.snd.snd.fst : Int) ≤ (↑x.snd.snd.snd.fst : Int)) then
        bif
            bif y165.X == x.snd.snd.snd.snd.snd.snd.snd.fst then bif y165.Y == x.snd.snd.snd.snd.snd.snd.snd.snd.fst then true else false
            else false then
          some (Sum.inr (Sum.inl (true, ())))
        else
          (l32_6
                (x.fst, x.snd.fst, x.snd.snd.fst, (IntKind.i64.wrap ((↑x.snd.snd.snd.fst : Int) - (1 : Int))).toNat - (0 : Nat), (4 : Nat),
                  (4 : Int), (0 : Int), x.snd.snd.snd.snd.fst, x.snd.snd.snd.snd.snd.fst, x.snd.snd.snd.snd.snd.snd.fst,
                  x.snd.snd.snd.snd.snd.snd.snd.fst, x.snd.snd.snd.snd.snd.snd.snd.snd.fst, x.snd.snd.snd.snd.snd.snd.snd.snd.snd.fst,
                  x.snd.snd.snd.snd.snd.snd.snd.snd.snd.snd.fst,
                  [Pt.mk (IntKind.i64.wrap (y165.X + (1 : Int))) y165.Y, Pt.mk y165.X (IntKind.i64.wrap (y165.Y + (1 : Int))),
                    Pt.mk (IntKind.i64.wrap (y165.X - (1 : Int))) y165.Y, Pt.mk y165.X (IntKind.i64.wrap (y165.Y - (1 : Int)))],
                  ())).bind
            fun y164 =>
            some
              (Sum.inl
                (y164.fst, y164.snd.fst, y164.snd.snd.fst, y164.snd.snd.snd.fst, y164.snd.snd.snd.snd.fst, y164.snd.snd.snd.snd.snd.fst,
                  y164.snd.snd.snd.snd.snd.snd.fst, y164.snd.snd.snd.snd.snd.snd.snd.fst, y164.snd.snd.snd.snd.snd.snd.snd.snd.fst,
                  y164.snd.snd.snd.snd.snd.snd.snd.snd.snd.fst, y164.snd.snd.snd.snd.snd.snd.snd.snd.snd.snd.fst, ()))
      else none
  else none
else some (Sum.inr (Sum.inr ()))
theorem r32_0_run0 (v0 : List Int) (v1 : Int) (v2 : Nat) (v3 : Nat) (v4 : Int) (v5 : Int) (v6 : List Int) (v7 : Int) (v8 : Int) (v9 : List Bool) (v10 : List Pt) : roundK tC G32 (look [(6, W32_6)]) c32_0 p32_0 (v0, v1, v2, v3, v4, v5, v6, v7, v8, v9, v10, ()) = r32_0 (v0, v1, v2, v3, v4, v5, v6, v7, v8, v9, v10, ()) := by kernel_rfl
theorem r32_0_run (x : List Int × Int × Nat × Nat × Int × Int × List Int × Int × Int × List Bool × List Pt × Unit) : roundK tC G32 (look [(6, W32_6)]) c32_0 p32_0 x = r32_0 x := r32_0_run0 x.1 x.2.1 x.2.2.1 x.2.2.2.1 x.2.2.2.2.1 x.2.2.2.2.2.1 x.2.2.2.2.2.2.1 x.2.2.2.2.2.2.2.1 x.2.2.2.2.2.2.2.2.1 x.2.2.2.2.2.2.2.2.2.1 x.2.2.2.2.2.2.2.2.2.2.1
noncomputable def l32_0 (x : List Int × Int × Nat × Nat × Int × Int × List Int × Int × Int × List Bool × List Pt × Unit) : Option (Bool × Unit ⊕ Unit) := iterO r32_0 x
noncomputable def W32_0 : LF tC := loopW tC p32_0 0 l32_0
theorem W32_0_ok : keyed 0 (bodyOf Try.f32) = [.block 0 (.loop c32_0)] ∧ ∀ n, n ≤ 0 → Snd tC n (.block 0 (.loop c32_0)) W32_0.k := ⟨by kernel_rfl, fun n hn => loopW_ok (p := p32_0) (id := 0) Y32 (lam_le (lam_cons W32_6_ok lam_nil) n hn) hn r32_0_run⟩
def S32 : FS := ⟨[[.v, .v, .s 5], [.s 3], [.v, .v], [.v, .v], [.v]], [⟨[.one (.agg [.int .i64, .int .i64, .imm 5]), .one (.one (.imm 3)), .one (.agg [.int .i64, .int .i64]), .one (.agg [.int .i64, .int .i64]), vI], []⟩], [⟨[vO], []⟩], [[.v]], []⟩
noncomputable def f32 (x : Int × Int × List Int × List Int × Int × Int × Int × Int × Int × Unit) : Option (Bool × Unit) :=
  (idxO x.snd.snd.snd.fst (f50 x.snd.snd.snd.snd.fst x.snd.snd.snd.snd.snd.fst x.fst x.snd.fst x.snd.snd.fst).fst).bind fun y172 =>
  bif decide (y172 < x.snd.snd.snd.snd.snd.snd.snd.snd.fst) then some (false, ())
  else
    bif
        true && decide ((↑x.snd.snd.snd.fst.length : Int) ≤ (↑x.snd.snd.snd.fst.length : Int)) &&
            decide ((↑x.snd.snd.snd.fst.length : Int) * (1 : Int) ≤ (140737488355328 : Int)) &&
          decide ((↑x.snd.snd.snd.fst.length : Int) ≤ (140737488355328 : Int)) then
      bif
          decide
              ((0 : Int) ≤
                (f50 x.snd.snd.snd.snd.fst x.snd.snd.snd.snd.snd.fst
                    (f50 x.snd.snd.snd.snd.fst x.snd.snd.snd.snd.snd.fst x.fst x.snd.fst x.snd.snd.fst).snd.fst
                    (f50 x.snd.snd.snd.snd.fst x.snd.snd.snd.snd.snd.fst x.fst x.snd.fst x.snd.snd.fst).snd.snd.fst
                    (f50 x.snd.snd.snd.snd.fst x.snd.snd.snd.snd.snd.fst x.fst x.snd.fst x.snd.snd.fst).snd.snd.snd).fst) &&
            decide
              ((f50 x.snd.snd.snd.snd.fst x.snd.snd.snd.snd.snd.fst
                    (f50 x.snd.snd.snd.snd.fst x.snd.snd.snd.snd.snd.fst x.fst x.snd.fst x.snd.snd.fst).snd.fst
                    (f50 x.snd.snd.snd.snd.fst x.snd.snd.snd.snd.snd.fst x.fst x.snd.fst x.snd.snd.fst).snd.snd.fst
                    (f50 x.snd.snd.snd.snd.fst x.snd.snd.snd.snd.snd.fst x.fst x.snd.fst x.snd.snd.fst).snd.snd.snd).fst <
                (↑(↑x.snd.snd.snd.fst.length : Int).toNat : Int)) then
        (List.replicate (↑x.snd.snd.snd.fst.length : Int).toNat
                false)[(0 : Nat) +
                (f50 x.snd.snd.snd.snd.fst x.snd.snd.snd.snd.snd.fst
                      (f50 x.snd.snd.snd.snd.fst x.snd.snd.snd.snd.snd.fst x.fst x.snd.fst x.snd.snd.fst).snd.fst
                      (f50 x.snd.snd.snd.snd.fst x.snd.snd.snd.snd.snd.fst x.fst x.snd.fst x.snd.snd.fst).snd.snd.fst
                      (f50 x.snd.snd.snd.snd.fst x.snd.snd.snd.snd.snd.fst x.fst x.snd.fst x.snd.snd.fst).snd.snd.snd).fst.toNat]?.bind
          fun _x =>
          (l32_0
                (x.snd.snd.snd.fst, x.snd.snd.snd.snd.snd.snd.snd.snd.fst, (↑x.snd.snd.snd.fst.length : Int).toNat, (1 : Nat),
                  (f50 x.snd.snd.snd.snd.fst x.snd.snd.snd.snd.snd.fst
                        (f50 x.snd.snd.snd.snd.fst x.snd.snd.snd.snd.snd.fst x.fst x.snd.fst x.snd.snd.fst).snd.fst
                        (f50 x.snd.snd.snd.snd.fst x.snd.snd.snd.snd.snd.fst x.fst x.snd.fst x.snd.snd.fst).snd.snd.fst
                        (f50 x.snd.snd.snd.snd.fst x.snd.snd.snd.snd.snd.fst x.fst x.snd.fst x.snd.snd.fst).snd.snd.snd).snd.fst,
                  (f50 x.snd.snd.snd.snd.fst x.snd.snd.snd.snd.snd.fst
                          (f50 x.snd.snd.snd.snd.fst x.snd.snd.snd.snd.snd.fst x.fst x.snd.fst x.snd.snd.fst).snd.fst
                          (f50 x.snd.snd.snd.snd.fst x.snd.snd.snd.snd.snd.fst x.fst x.snd.fst x.snd.snd.fst).snd.snd.fst
                          (f50 x.snd.snd.snd.snd.fst x.snd.snd.snd.snd.snd.fst x.fst x.snd.fst x.snd.snd.fst).snd.snd.snd).snd.snd.fst,
                  (f50 x.snd.snd.snd.snd.fst x.snd.snd.snd.snd.snd.fst
                          (f50 x.snd.snd.snd.snd.fst x.snd.snd.snd.snd.snd.fst x.fst x.snd.fst x.snd.snd.fst).snd.fst
                          (f50 x.snd.snd.snd.snd.fst x.snd.snd.snd.snd.snd.fst x.fst x.snd.fst x.snd.snd.fst).snd.snd.fst
                          (f50 x.snd.snd.snd.snd.fst x.snd.snd.snd.snd.snd.fst x.fst x.snd.fst x.snd.snd.fst).snd.snd.snd).snd.snd.snd,
                  x.snd.snd.snd.snd.snd.snd.fst, x.snd.snd.snd.snd.snd.snd.snd.fst,
                  (List.replicate (↑x.snd.snd.snd.fst.length : Int).toNat false).set
                    ((0 : Nat) +
                      (f50 x.snd.snd.snd.snd.fst x.snd.snd.snd.snd.snd.fst
                            (f50 x.snd.snd.snd.snd.fst x.snd.snd.snd.snd.snd.fst x.fst x.snd.fst x.snd.snd.fst).snd.fst
                            (f50 x.snd.snd.snd.snd.fst x.snd.snd.snd.snd.snd.fst x.fst x.snd.fst x.snd.snd.fst).snd.snd.fst
                            (f50 x.snd.snd.snd.snd.fst x.snd.snd.snd.snd.snd.fst x.fst x.snd.fst x.snd.snd.fst).snd.snd.snd).fst.toNat)
                    true,
                  [Pt.mk x.snd.snd.snd.snd.fst x.snd.snd.snd.snd.snd.fst], ())).bind
            fun y170 => Sum.elim (fun y168 => some (y168.fst, ())) (fun _x => some (false, ())) y170
      else none
    else none
noncomputable def F32 : CF tC := mkF tC S32 f32
theorem f32_run : ∀ a, fnS tC G32 (look [(0, W32_0)]) Try.f32 S32 a = f32 a := fun a => by kernel_rfl
theorem F32_ok : CFOK tC 32 F32 := mkF_ok Y32 (fn := Try.f32) (body := bodyOf Try.f32) (by kernel_rfl) (by kernel_rfl) (by kernel_rfl) (m := 0) rfl (lam_le (lam_cons W32_0_ok lam_nil)) f32_run

/-! Widest -/
noncomputable def G10 : FuncId → Option (CF tC) := look [(22, F22), (28, F28), (23, F23), (29, F29), (30, F30), (31, F31), (32, F32)]
theorem Y10 : SysN tC G10 := (sys_cons F22_ok (mkF_nat _ _) (sys_cons F28_ok (mkF_nat _ _) (sys_cons F23_ok (mkF_nat _ _) (sys_cons F29_ok (mkF_nat _ _) (sys_cons F30_ok (mkF_nat _ _) (sys_cons F31_ok (mkF_nat _ _) (sys_cons F32_ok (mkF_nat _ _) (sys_nil tC_ok tC_eq))))))))
noncomputable def c10_0 : Code := loopOf (subCode (bodyOf Try.f10) 34) 0
def p10_0 : LS := ⟨0, [3, 4, 5, 8, 9, 10, 11], ⟨[vB, vB, vB, .one (.one (.ptr 0 0 0)), .one (.one (.ptr 1 0 0)), .one (.one (.ptr 2 0 0)), vB, vB, .one (.one (.sl 3)), .one (.one (.slw 4)), vI, vI] ++ vBs 62, [.box [.int .i64, .int .i64, .imm 5], .box [.int .i64, .int .i64], .box [.int .i64, .int .i64], .arr 3, .arr 3]⟩, [⟨.exit 0, [9, 10], ⟨vBs 9 ++ [.one (.one (.slw 0)), vI] ++ vBs 63, [.arr 3]⟩, []⟩], []⟩
noncomputable def r10_0 (x : Nat × Nat × Nat × Int × Int × Int × Int × List Int × Int × Int × Int × Int × List Int × List Int × Unit) : Option
  (Nat × Nat × Nat × Int × Int × Int × Int × List Int × Int × Int × Int × Int × List Int × List Int × Unit ⊕
    Nat × Nat × Int × List Int × Unit) :=
  bif decide (IntKind.i64.wrap (x.snd.snd.snd.snd.fst - x.snd.snd.snd.fst) > (1 : Int)) then
  bif
      decide ((0 : Int) ≤ IntKind.i64.wrap ((IntKind.i64.wrap (x.snd.snd.snd.fst + x.snd.snd.snd.snd.fst)).tdiv (2 : Int))) &&
        decide
          (IntKind.i64.wrap ((IntKind.i64.wrap (x.snd.snd.snd.fst + x.snd.snd.snd.snd.fst)).tdiv (2 : Int)) < (↑x.snd.snd.fst : Int)) then
    x.snd.snd.snd.snd.snd.snd.snd.snd.snd.snd.snd.snd.snd.fst[x.snd.fst +
            (IntKind.i64.wrap ((IntKind.i64.wrap (x.snd.snd.snd.fst + x.snd.snd.snd.snd.fst)).tdiv (2 : Int))).toNat]?.bind
      fun y54 =>
      bif decide ((0 : Nat) + x.fst ≤ x.snd.snd.snd.snd.snd.snd.snd.snd.snd.snd.snd.snd.fst.length) then
        (f32
              (x.snd.snd.snd.snd.snd.fst, x.snd.snd.snd.snd.snd.snd.fst, x.snd.snd.snd.snd.snd.snd.snd.fst,
                List.take x.fst (List.drop (0 : Nat) x.snd.snd.snd.snd.snd.snd.snd.snd.snd.snd.snd.snd.fst),
                x.snd.snd.snd.snd.snd.snd.snd.snd.fst, x.snd.snd.snd.snd.snd.snd.snd.snd.snd.fst,
                x.snd.snd.snd.snd.snd.snd.snd.snd.snd.snd.fst, x.snd.snd.snd.snd.snd.snd.snd.snd.snd.snd.snd.fst, y54, ())).bind
          fun y53 =>
          bif y53.fst then
            some
              (Sum.inl
                (x.fst, x.snd.fst, x.snd.snd.fst,
                  IntKind.i64.wrap ((IntKind.i64.wrap (x.snd.snd.snd.fst + x.snd.snd.snd.snd.fst)).tdiv (2 : Int)), x.snd.snd.snd.snd.fst,
                  x.snd.snd.snd.snd.snd.fst, x.snd.snd.snd.snd.snd.snd.fst, x.snd.snd.snd.snd.snd.snd.snd.fst,
                  x.snd.snd.snd.snd.snd.snd.snd.snd.fst, x.snd.snd.snd.snd.snd.snd.snd.snd.snd.fst,
                  x.snd.snd.snd.snd.snd.snd.snd.snd.snd.snd.fst, x.snd.snd.snd.snd.snd.snd.snd.snd.snd.snd.snd.fst,
                  x.snd.snd.snd.snd.snd.snd.snd.snd.snd.snd.snd.snd.fst, x.snd.snd.snd.snd.snd.snd.snd.snd.snd.snd.snd.snd.snd.fst, ()))
          else
            some
              (Sum.inl
                (x.fst, x.snd.fst, x.snd.snd.fst, x.snd.snd.snd.fst,
                  IntKind.i64.wrap ((IntKind.i64.wrap (x.snd.snd.snd.fst + x.snd.snd.snd.snd.fst)).tdiv (2 : Int)),
                  x.snd.snd.snd.snd.snd.fst, x.snd.snd.snd.snd.snd.snd.fst, x.snd.snd.snd.snd.snd.snd.snd.fst,
                  x.snd.snd.snd.snd.snd.snd.snd.snd.fst, x.snd.snd.snd.snd.snd.snd.snd.snd.snd.fst,
                  x.snd.snd.snd.snd.snd.snd.snd.snd.snd.snd.fst, x.snd.snd.snd.snd.snd.snd.snd.snd.snd.snd.snd.fst,
                  x.snd.snd.snd.snd.snd.snd.snd.snd.snd.snd.snd.snd.fst, x.snd.snd.snd.snd.snd.snd.snd.snd.snd.snd.snd.snd.snd.fst, ()))
      else none
  else none
else some (Sum.inr (x.snd.fst, x.snd.snd.fst, x.snd.snd.snd.fst, x.snd.snd.snd.snd.snd.snd.snd.snd.snd.snd.snd.snd.snd.fst, ()))
theorem r10_0_run0 (v0 : Nat) (v1 : Nat) (v2 : Nat) (v3 : Int) (v4 : Int) (v5 : Int) (v6 : Int) (v7 : List Int) (v8 : Int) (v9 : Int) (v10 : Int) (v11 : Int) (v12 : List Int) (v13 : List Int) : roundK tC G10 (look []) c10_0 p10_0 (v0, v1, v2, v3, v4, v5, v6, v7, v8, v9, v10, v11, v12, v13, ()) = r10_0 (v0, v1, v2, v3, v4, v5, v6, v7, v8, v9, v10, v11, v12, v13, ()) := by kernel_rfl
theorem r10_0_run (x : Nat × Nat × Nat × Int × Int × Int × Int × List Int × Int × Int × Int × Int × List Int × List Int × Unit) : roundK tC G10 (look []) c10_0 p10_0 x = r10_0 x := r10_0_run0 x.1 x.2.1 x.2.2.1 x.2.2.2.1 x.2.2.2.2.1 x.2.2.2.2.2.1 x.2.2.2.2.2.2.1 x.2.2.2.2.2.2.2.1 x.2.2.2.2.2.2.2.2.1 x.2.2.2.2.2.2.2.2.2.1 x.2.2.2.2.2.2.2.2.2.2.1 x.2.2.2.2.2.2.2.2.2.2.2.1 x.2.2.2.2.2.2.2.2.2.2.2.2.1 x.2.2.2.2.2.2.2.2.2.2.2.2.2.1
noncomputable def l10_0 (x : Nat × Nat × Nat × Int × Int × Int × Int × List Int × Int × Int × Int × Int × List Int × List Int × Unit) : Option (Nat × Nat × Int × List Int × Unit) := iterO r10_0 x
noncomputable def W10_0 : LF tC := loopW tC p10_0 0 l10_0
theorem W10_0_ok : keyed 0 (subCode (bodyOf Try.f10) 34) = [.block 0 (.loop c10_0)] ∧ ∀ n, n ≤ 0 → Snd tC n (.block 0 (.loop c10_0)) W10_0.k := ⟨by kernel_rfl, fun n hn => loopW_ok (p := p10_0) (id := 0) Y10 (lam_le lam_nil n hn) hn r10_0_run⟩
noncomputable def c10_34 : Code := subCode (bodyOf Try.f10) 34
def p10_34 : PS := ⟨0, [3, 4, 5, 8, 9], ⟨[vB, vB, vB, .one (.one (.ptr 0 0 0)), .one (.one (.ptr 1 0 0)), .one (.one (.ptr 2 0 0)), vB, vB, .one (.one (.sl 3)), .one (.one (.slw 4))] ++ vBs 64, [.box [.int .i64, .int .i64, .imm 5], .box [.int .i64, .int .i64], .box [.int .i64, .int .i64], .arr 3, .arr 3]⟩, [⟨.ret, [6, 7], ⟨vBs 6 ++ [vI, vI] ++ vBs 66, []⟩, []⟩], []⟩
noncomputable def j10_34 (x : Nat × Nat × Nat × Int × Int × List Int × Int × Int × Int × Int × List Int × List Int × Unit) : Option (Int × Int × Unit) :=
  bif true && decide ((0 : Int) < (↑x.snd.snd.fst : Int)) then
  x.snd.snd.snd.snd.snd.snd.snd.snd.snd.snd.snd.fst[x.snd.fst + (0 : Nat)]?.bind fun y65 =>
    bif decide ((0 : Nat) + x.fst ≤ x.snd.snd.snd.snd.snd.snd.snd.snd.snd.snd.fst.length) then
      (f32
            (x.snd.snd.snd.fst, x.snd.snd.snd.snd.fst, x.snd.snd.snd.snd.snd.fst,
              List.take x.fst (List.drop (0 : Nat) x.snd.snd.snd.snd.snd.snd.snd.snd.snd.snd.fst), x.snd.snd.snd.snd.snd.snd.fst,
              x.snd.snd.snd.snd.snd.snd.snd.fst, x.snd.snd.snd.snd.snd.snd.snd.snd.fst, x.snd.snd.snd.snd.snd.snd.snd.snd.snd.fst, y65,
              ())).bind
        fun y64 =>
        bif !y64.fst then some ((0 : Int), (14 : Int), ())
        else
          (l10_0
                (x.fst, x.snd.fst, x.snd.snd.fst, (0 : Int), (↑x.snd.snd.fst : Int), x.snd.snd.snd.fst, x.snd.snd.snd.snd.fst,
                  x.snd.snd.snd.snd.snd.fst, x.snd.snd.snd.snd.snd.snd.fst, x.snd.snd.snd.snd.snd.snd.snd.fst,
                  x.snd.snd.snd.snd.snd.snd.snd.snd.fst, x.snd.snd.snd.snd.snd.snd.snd.snd.snd.fst,
                  x.snd.snd.snd.snd.snd.snd.snd.snd.snd.snd.fst, x.snd.snd.snd.snd.snd.snd.snd.snd.snd.snd.snd.fst, ())).bind
            fun y63 =>
            bif decide ((0 : Int) ≤ y63.snd.snd.fst) && decide (y63.snd.snd.fst < (↑y63.snd.fst : Int)) then
              y63.snd.snd.snd.fst[y63.fst + y63.snd.snd.fst.toNat]?.bind fun y62 => some (y62, (0 : Int), ())
            else none
    else none
else none
theorem j10_34_run0 (v0 : Nat) (v1 : Nat) (v2 : Nat) (v3 : Int) (v4 : Int) (v5 : List Int) (v6 : Int) (v7 : Int) (v8 : Int) (v9 : Int) (v10 : List Int) (v11 : List Int) : pieceK tC G10 (look [(0, W10_0)]) c10_34 p10_34 (v0, v1, v2, v3, v4, v5, v6, v7, v8, v9, v10, v11, ()) = j10_34 (v0, v1, v2, v3, v4, v5, v6, v7, v8, v9, v10, v11, ()) := by kernel_rfl
theorem j10_34_run (x : Nat × Nat × Nat × Int × Int × List Int × Int × Int × Int × Int × List Int × List Int × Unit) : pieceK tC G10 (look [(0, W10_0)]) c10_34 p10_34 x = j10_34 x := j10_34_run0 x.1 x.2.1 x.2.2.1 x.2.2.2.1 x.2.2.2.2.1 x.2.2.2.2.2.1 x.2.2.2.2.2.2.1 x.2.2.2.2.2.2.2.1 x.2.2.2.2.2.2.2.2.1 x.2.2.2.2.2.2.2.2.2.1 x.2.2.2.2.2.2.2.2.2.2.1 x.2.2.2.2.2.2.2.2.2.2.2.1
noncomputable def W10_34 : LF tC := cutLF tC p10_34 j10_34
theorem W10_34_ok : keyed 34 (bodyOf Try.f10) = [c10_34] ∧ ∀ n, n ≤ 0 → Snd tC n c10_34 W10_34.k := ⟨by kernel_rfl, fun n hn => cut_ok (p := p10_34) Y10 (lam_le (lam_cons W10_0_ok lam_nil) n hn) hn j10_34_run⟩
def S10 : FS := ⟨[[.v, .v, .s 5], [.v, .v], [.v, .v]], [⟨[.one (.agg [.int .i64, .int .i64, .imm 5]), .one (.agg [.int .i64, .int .i64]), .one (.agg [.int .i64, .int .i64])], []⟩], [⟨[.tup [.one (.int .i64), .one (.int .i64)]], []⟩], [[.v], [.v]], []⟩
noncomputable def f10 (x : Int × Int × List Int × Int × Int × Int × Int × Unit) : Option (Int × Int × Unit) :=
  (f22 (x.fst, x.snd.fst, x.snd.snd.fst, ())).bind fun y81 =>
  bif !y81.fst then some ((0 : Int), (1 : Int), ())
  else
    (f28 (x.fst, x.snd.fst, x.snd.snd.fst, x.snd.snd.snd.fst, x.snd.snd.snd.snd.fst, ())).bind fun y80 =>
      bif !y80.fst then some ((0 : Int), (7 : Int), ())
      else
        (f28 (x.fst, x.snd.fst, x.snd.snd.fst, x.snd.snd.snd.snd.snd.fst, x.snd.snd.snd.snd.snd.snd.fst, ())).bind fun y79 =>
          bif !y79.fst then some ((0 : Int), (7 : Int), ())
          else
            (f23 (x.fst, x.snd.fst, x.snd.snd.fst, ())).bind fun y78 =>
              bif decide ((0 : Nat) + y78.fst ≤ y78.snd.fst.length) then
                (f29 (List.take y78.fst (List.drop (0 : Nat) y78.snd.fst), ())).bind fun y77 =>
                  (f30 (y77.fst, y77.snd.fst, ())).bind fun y76 =>
                    (f31 (y77.fst, y76.fst, ())).bind fun y75 =>
                      bif true && decide ((0 : Int) < (↑y75.fst : Int)) then
                        y75.snd.fst[(0 : Nat)]?.bind fun y74 =>
                          bif y74 == (0 : Int) then
                            bif
                                true && decide ((1 : Int) ≤ (↑y75.fst : Int)) && decide ((↑y75.fst : Int) ≤ (↑y75.fst : Int)) &&
                                  decide ((↑y75.fst : Int) ≤ (↑y75.fst : Int)) then
                              (j10_34
                                    (y78.fst, (1 : Nat), (↑y75.fst : Int).toNat - (1 : Nat), x.fst, x.snd.fst, x.snd.snd.fst,
                                      x.snd.snd.snd.fst, x.snd.snd.snd.snd.fst, x.snd.snd.snd.snd.snd.fst, x.snd.snd.snd.snd.snd.snd.fst,
                                      y78.snd.fst, y75.snd.fst, ())).bind
                                fun y72 => some (y72.fst, y72.snd.fst, ())
                            else none
                          else
                            (j10_34
                                  (y78.fst, (0 : Nat), y75.fst, x.fst, x.snd.fst, x.snd.snd.fst, x.snd.snd.snd.fst, x.snd.snd.snd.snd.fst,
                                    x.snd.snd.snd.snd.snd.fst, x.snd.snd.snd.snd.snd.snd.fst, y78.snd.fst, y75.snd.fst, ())).bind
                              fun y73 => some (y73.fst, y73.snd.fst, ())
                      else none
              else none
noncomputable def F10 : CF tC := mkF tC S10 f10
theorem f10_run : ∀ a, fnS tC G10 (look [(34, W10_34)]) Try.f10 S10 a = f10 a := fun a => by kernel_rfl
theorem F10_ok : CFOK tC 10 F10 := mkF_ok Y10 (fn := Try.f10) (body := bodyOf Try.f10) (by kernel_rfl) (by kernel_rfl) (by kernel_rfl) (m := 0) rfl (lam_le (lam_cons W10_34_ok lam_nil)) f10_run

/-! Set -/
noncomputable def G16 : FuncId → Option (CF tC) := look [(34, F34), (37, F37), (36, F36), (39, F39), (38, F38), (40, F40)]
theorem Y16 : SysN tC G16 := (sys_cons F34_ok (mkF_nat _ _) (sys_cons F37_ok (mkF_nat _ _) (sys_cons F36_ok (mkF_nat _ _) (sys_cons F39_ok (mkF_nat _ _) (sys_cons F38_ok (mkF_nat _ _) (sys_cons F40_ok (mkF_nat _ _) (sys_nil tC_ok tC_eq)))))))
def S16 : FS := ⟨[[.p], [.v, .v], [.v]], [⟨[.one (.one (.ptr 2 0 0)), .one (.agg [.int .i64, .int .i64]), vO], [.arr 5, .arr 3, .box [.int .i64, .int .i64, .sl 0, .int .i64, .int .i64, .sl 1]]⟩], [⟨[vI], [.arr 5, .arr 3, .box [.int .i64, .int .i64, .sl 0, .int .i64, .int .i64, .sl 1]]⟩, ⟨[vI], [.gone, .gone, .box [.int .i64, .int .i64, .sl 3, .int .i64, .int .i64, .sl 4], .arr 5, .arr 3]⟩], [[.v]], []⟩
noncomputable def f16 (x : Int × Int × Bool × List Int × List Int × Int × Int × Nat × Int × Int × Nat × Unit) : Option
  (Int × List Int × List Int × Int × Int × Nat × Int × Int × Nat × Unit ⊕
    Int × Int × Int × Nat × Int × Int × Nat × List Int × List Int × Unit) :=
  bif decide ((0 : Nat) + x.snd.snd.snd.snd.snd.snd.snd.fst ≤ x.snd.snd.snd.fst.length) then
  bif
      !f34 x.snd.snd.snd.snd.snd.fst x.snd.snd.snd.snd.snd.snd.fst
          (List.take x.snd.snd.snd.snd.snd.snd.snd.fst (List.drop (0 : Nat) x.snd.snd.snd.fst)) x.fst x.snd.fst then
    some
      (Sum.inl
        ((7 : Int), x.snd.snd.snd.fst, x.snd.snd.snd.snd.fst, x.snd.snd.snd.snd.snd.fst, x.snd.snd.snd.snd.snd.snd.fst,
          x.snd.snd.snd.snd.snd.snd.snd.fst, x.snd.snd.snd.snd.snd.snd.snd.snd.fst, x.snd.snd.snd.snd.snd.snd.snd.snd.snd.fst,
          x.snd.snd.snd.snd.snd.snd.snd.snd.snd.snd.fst, ()))
  else
    bif decide ((0 : Nat) + x.snd.snd.snd.snd.snd.snd.snd.fst ≤ x.snd.snd.snd.fst.length) then
      bif decide ((0 : Nat) + x.snd.snd.snd.snd.snd.snd.snd.snd.snd.snd.fst ≤ x.snd.snd.snd.snd.fst.length) then
        bif
            decide
                ((0 : Int) ≤
                  f37 x.snd.snd.snd.snd.snd.fst x.snd.snd.snd.snd.snd.snd.fst
                    (List.take x.snd.snd.snd.snd.snd.snd.snd.fst (List.drop (0 : Nat) x.snd.snd.snd.fst))
                    x.snd.snd.snd.snd.snd.snd.snd.snd.fst x.snd.snd.snd.snd.snd.snd.snd.snd.snd.fst
                    (List.take x.snd.snd.snd.snd.snd.snd.snd.snd.snd.snd.fst (List.drop (0 : Nat) x.snd.snd.snd.snd.fst)) x.fst
                    x.snd.fst) &&
              decide
                (f37 x.snd.snd.snd.snd.snd.fst x.snd.snd.snd.snd.snd.snd.fst
                    (List.take x.snd.snd.snd.snd.snd.snd.snd.fst (List.drop (0 : Nat) x.snd.snd.snd.fst))
                    x.snd.snd.snd.snd.snd.snd.snd.snd.fst x.snd.snd.snd.snd.snd.snd.snd.snd.snd.fst
                    (List.take x.snd.snd.snd.snd.snd.snd.snd.snd.snd.snd.fst (List.drop (0 : Nat) x.snd.snd.snd.snd.fst)) x.fst x.snd.fst <
                  (↑x.snd.snd.snd.snd.snd.snd.snd.fst : Int)) then
          x.snd.snd.snd.fst[(0 : Nat) +
                  (f37 x.snd.snd.snd.snd.snd.fst x.snd.snd.snd.snd.snd.snd.fst
                      (List.take x.snd.snd.snd.snd.snd.snd.snd.fst (List.drop (0 : Nat) x.snd.snd.snd.fst))
                      x.snd.snd.snd.snd.snd.snd.snd.snd.fst x.snd.snd.snd.snd.snd.snd.snd.snd.snd.fst
                      (List.take x.snd.snd.snd.snd.snd.snd.snd.snd.snd.snd.fst (List.drop (0 : Nat) x.snd.snd.snd.snd.fst)) x.fst
                      x.snd.fst).toNat]?.bind
            fun y103 =>
            bif decide ((0 : Nat) + x.snd.snd.snd.snd.snd.snd.snd.fst ≤ x.snd.snd.snd.fst.length) then
              bif decide ((0 : Nat) + x.snd.snd.snd.snd.snd.snd.snd.snd.snd.snd.fst ≤ x.snd.snd.snd.snd.fst.length) then
                bif
                    decide
                        ((0 : Int) ≤
                          f37 x.snd.snd.snd.snd.snd.fst x.snd.snd.snd.snd.snd.snd.fst
                            (List.take x.snd.snd.snd.snd.snd.snd.snd.fst (List.drop (0 : Nat) x.snd.snd.snd.fst))
                            x.snd.snd.snd.snd.snd.snd.snd.snd.fst x.snd.snd.snd.snd.snd.snd.snd.snd.snd.fst
                            (List.take x.snd.snd.snd.snd.snd.snd.snd.snd.snd.snd.fst (List.drop (0 : Nat) x.snd.snd.snd.snd.fst)) x.fst
                            x.snd.fst) &&
                      decide
                        (f37 x.snd.snd.snd.snd.snd.fst x.snd.snd.snd.snd.snd.snd.fst
                            (List.take x.snd.snd.snd.snd.snd.snd.snd.fst (List.drop (0 : Nat) x.snd.snd.snd.fst))
                            x.snd.snd.snd.snd.snd.snd.snd.snd.fst x.snd.snd.snd.snd.snd.snd.snd.snd.snd.fst
                            (List.take x.snd.snd.snd.snd.snd.snd.snd.snd.snd.snd.fst (List.drop (0 : Nat) x.snd.snd.snd.snd.fst)) x.fst
                            x.snd.fst <
                          (↑x.snd.snd.snd.snd.snd.snd.snd.fst : Int)) then
                  x.snd.snd.snd.fst[(0 : Nat) +
                          (f37 x.snd.snd.snd.snd.snd.fst x.snd.snd.snd.snd.snd.snd.fst
                              (List.take x.snd.snd.snd.snd.snd.snd.snd.fst (List.drop (0 : Nat) x.snd.snd.snd.fst))
                              x.snd.snd.snd.snd.snd.snd.snd.snd.fst x.snd.snd.snd.snd.snd.snd.snd.snd.snd.fst
                              (List.take x.snd.snd.snd.snd.snd.snd.snd.snd.snd.snd.fst (List.drop (0 : Nat) x.snd.snd.snd.snd.fst)) x.fst
                              x.snd.fst).toNat]?.bind
                    fun _x =>
                    bif x.snd.snd.fst then
                      bif
                          decide
                            ((0 : Nat) + x.snd.snd.snd.snd.snd.snd.snd.fst ≤
                              (x.snd.snd.snd.fst.set
                                  ((0 : Nat) +
                                    (f37 x.snd.snd.snd.snd.snd.fst x.snd.snd.snd.snd.snd.snd.fst
                                        (List.take x.snd.snd.snd.snd.snd.snd.snd.fst (List.drop (0 : Nat) x.snd.snd.snd.fst))
                                        x.snd.snd.snd.snd.snd.snd.snd.snd.fst x.snd.snd.snd.snd.snd.snd.snd.snd.snd.fst
                                        (List.take x.snd.snd.snd.snd.snd.snd.snd.snd.snd.snd.fst
                                          (List.drop (0 : Nat) x.snd.snd.snd.snd.fst))
                                        x.fst x.snd.fst).toNat)
                                  (2 : Int)).length) then
                        bif decide ((0 : Nat) + x.snd.snd.snd.snd.snd.snd.snd.snd.snd.snd.fst ≤ x.snd.snd.snd.snd.fst.length) then
                          bif
                              decide
                                  ((0 : Int) ≤
                                    f37 x.snd.snd.snd.snd.snd.fst x.snd.snd.snd.snd.snd.snd.fst
                                      (List.take x.snd.snd.snd.snd.snd.snd.snd.fst
                                        (List.drop (0 : Nat)
                                          (x.snd.snd.snd.fst.set
                                            ((0 : Nat) +
                                              (f37 x.snd.snd.snd.snd.snd.fst x.snd.snd.snd.snd.snd.snd.fst
                                                  (List.take x.snd.snd.snd.snd.snd.snd.snd.fst (List.drop (0 : Nat) x.snd.snd.snd.fst))
                                                  x.snd.snd.snd.snd.snd.snd.snd.snd.fst x.snd.snd.snd.snd.snd.snd.snd.snd.snd.fst
                                                  (List.take x.snd.snd.snd.snd.snd.snd.snd.snd.snd.snd.fst
                                                    (List.drop (0 : Nat) x.snd.snd.snd.snd.fst))
                                                  x.fst x.snd.fst).toNat)
                                            (2 : Int))))
                                      x.snd.snd.snd.snd.snd.snd.snd.snd.fst x.snd.snd.snd.snd.snd.snd.snd.snd.snd.fst
                                      (List.take x.snd.snd.snd.snd.snd.snd.snd.snd.snd.snd.fst (List.drop (0 : Nat) x.snd.snd.snd.snd.fst))
                                      x.fst x.snd.fst) &&
                                decide
                                  (f37 x.snd.snd.snd.snd.snd.fst x.snd.snd.snd.snd.snd.snd.fst
                                      (List.take x.snd.snd.snd.snd.snd.snd.snd.fst
                                        (List.drop (0 : Nat)
                                          (x.snd.snd.snd.fst.set
                                            ((0 : Nat) +
                                              (f37 x.snd.snd.snd.snd.snd.fst x.snd.snd.snd.snd.snd.snd.fst
                                                  (List.take x.snd.snd.snd.snd.snd.snd.snd.fst (List.drop (0 : Nat) x.snd.snd.snd.fst))
                                                  x.snd.snd.snd.snd.snd.snd.snd.snd.fst x.snd.snd.snd.snd.snd.snd.snd.snd.snd.fst
                                                  (List.take x.snd.snd.snd.snd.snd.snd.snd.snd.snd.snd.fst
                                                    (List.drop (0 : Nat) x.snd.snd.snd.snd.fst))
                                                  x.fst x.snd.fst).toNat)
                                            (2 : Int))))
                                      x.snd.snd.snd.snd.snd.snd.snd.snd.fst x.snd.snd.snd.snd.snd.snd.snd.snd.snd.fst
                                      (List.take x.snd.snd.snd.snd.snd.snd.snd.snd.snd.snd.fst (List.drop (0 : Nat) x.snd.snd.snd.snd.fst))
                                      x.fst x.snd.fst <
                                    (↑x.snd.snd.snd.snd.snd.snd.snd.fst : Int)) then
                            (x.snd.snd.snd.fst.set
                                    ((0 : Nat) +
                                      (f37 x.snd.snd.snd.snd.snd.fst x.snd.snd.snd.snd.snd.snd.fst
                                          (List.take x.snd.snd.snd.snd.snd.snd.snd.fst (List.drop (0 : Nat) x.snd.snd.snd.fst))
                                          x.snd.snd.snd.snd.snd.snd.snd.snd.fst x.snd.snd.snd.snd.snd.snd.snd.snd.snd.fst
                                          (List.take x.snd.snd.snd.snd.snd.snd.snd.snd.snd.snd.fst
                                            (List.drop (0 : Nat) x.snd.snd.snd.snd.fst))
                                          x.fst x.snd.fst).toNat)
                                    (2 :
                                      Int))[(0 : Nat) +
                                    (f37 x.snd.snd.snd.snd.snd.fst x.snd.snd.snd.snd.snd.snd.fst
                                        (List.take x.snd.snd.snd.snd.snd.snd.snd.fst
                                          (List.drop (0 : Nat)
                                            (x.snd.snd.snd.fst.set
                                              ((0 : Nat) +
                                                (f37 x.snd.snd.snd.snd.snd.fst x.snd.snd.snd.snd.snd.snd.fst
                                                    (List.take x.snd.snd.snd.snd.snd.snd.snd.fst (List.drop (0 : Nat) x.snd.snd.snd.fst))
                                                    x.snd.snd.snd.snd.snd.snd.snd.snd.fst x.snd.snd.snd.snd.snd.snd.snd.snd.snd.fst
                                                    (List.take x.snd.snd.snd.snd.snd.snd.snd.snd.snd.snd.fst
                                                      (List.drop (0 : Nat) x.snd.snd.snd.snd.fst))
                                                    x.fst x.snd.fst).toNat)
                                              (2 : Int))))
                                        x.snd.snd.snd.snd.snd.snd.snd.snd.fst x.snd.snd.snd.snd.snd.snd.snd.snd.snd.fst
                                        (List.take x.snd.snd.snd.snd.snd.snd.snd.snd.snd.snd.fst
                                          (List.drop (0 : Nat) x.snd.snd.snd.snd.fst))
                                        x.fst x.snd.fst).toNat]?.bind
                              fun _x =>
                              bif (y103 == (1 : Int)) == x.snd.snd.fst then
                                some
                                  (Sum.inl
                                    ((0 : Int),
                                      (x.snd.snd.snd.fst.set
                                            ((0 : Nat) +
                                              (f37 x.snd.snd.snd.snd.snd.fst x.snd.snd.snd.snd.snd.snd.fst
                                                  (List.take x.snd.snd.snd.snd.snd.snd.snd.fst (List.drop (0 : Nat) x.snd.snd.snd.fst))
                                                  x.snd.snd.snd.snd.snd.snd.snd.snd.fst x.snd.snd.snd.snd.snd.snd.snd.snd.snd.fst
                                                  (List.take x.snd.snd.snd.snd.snd.snd.snd.snd.snd.snd.fst
                                                    (List.drop (0 : Nat) x.snd.snd.snd.snd.fst))
                                                  x.fst x.snd.fst).toNat)
                                            (2 : Int)).set
                                        ((0 : Nat) +
                                          (f37 x.snd.snd.snd.snd.snd.fst x.snd.snd.snd.snd.snd.snd.fst
                                              (List.take x.snd.snd.snd.snd.snd.snd.snd.fst
                                                (List.drop (0 : Nat)
                                                  (x.snd.snd.snd.fst.set
                                                    ((0 : Nat) +
                                                      (f37 x.snd.snd.snd.snd.snd.fst x.snd.snd.snd.snd.snd.snd.fst
                                                          (List.take x.snd.snd.snd.snd.snd.snd.snd.fst
                                                            (List.drop (0 : Nat) x.snd.snd.snd.fst))
                                                          x.snd.snd.snd.snd.snd.snd.snd.snd.fst x.snd.snd.snd.snd.snd.snd.snd.snd.snd.fst
                                                          (List.take x.snd.snd.snd.snd.snd.snd.snd.snd.snd.snd.fst
                                                            (List.drop (0 : Nat) x.snd.snd.snd.snd.fst))
                                                          x.fst x.snd.fst).toNat)
                                                    (2 : Int))))
                                              x.snd.snd.snd.snd.snd.snd.snd.snd.fst x.snd.snd.snd.snd.snd.snd.snd.snd.snd.fst
                                              (List.take x.snd.snd.snd.snd.snd.snd.snd.snd.snd.snd.fst
                                                (List.drop (0 : Nat) x.snd.snd.snd.snd.fst))
                                              x.fst x.snd.fst).toNat)
                                        (1 : Int),
                                      x.snd.snd.snd.snd.fst, x.snd.snd.snd.snd.snd.fst, x.snd.snd.snd.snd.snd.snd.fst,
                                      x.snd.snd.snd.snd.snd.snd.snd.fst, x.snd.snd.snd.snd.snd.snd.snd.snd.fst,
                                      x.snd.snd.snd.snd.snd.snd.snd.snd.snd.fst, x.snd.snd.snd.snd.snd.snd.snd.snd.snd.snd.fst, ()))
                              else
                                bif
                                    bif x.fst == x.snd.snd.snd.snd.snd.snd.snd.snd.fst then
                                      bif x.snd.fst == x.snd.snd.snd.snd.snd.snd.snd.snd.snd.fst then true else false
                                    else false then
                                  bif
                                      decide
                                        ((0 : Nat) + x.snd.snd.snd.snd.snd.snd.snd.fst ≤
                                          ((x.snd.snd.snd.fst.set
                                                  ((0 : Nat) +
                                                    (f37 x.snd.snd.snd.snd.snd.fst x.snd.snd.snd.snd.snd.snd.fst
                                                        (List.take x.snd.snd.snd.snd.snd.snd.snd.fst
                                                          (List.drop (0 : Nat) x.snd.snd.snd.fst))
                                                        x.snd.snd.snd.snd.snd.snd.snd.snd.fst x.snd.snd.snd.snd.snd.snd.snd.snd.snd.fst
                                                        (List.take x.snd.snd.snd.snd.snd.snd.snd.snd.snd.snd.fst
                                                          (List.drop (0 : Nat) x.snd.snd.snd.snd.fst))
                                                        x.fst x.snd.fst).toNat)
                                                  (2 : Int)).set
                                              ((0 : Nat) +
                                                (f37 x.snd.snd.snd.snd.snd.fst x.snd.snd.snd.snd.snd.snd.fst
                                                    (List.take x.snd.snd.snd.snd.snd.snd.snd.fst
                                                      (List.drop (0 : Nat)
                                                        (x.snd.snd.snd.fst.set
                                                          ((0 : Nat) +
                                                            (f37 x.snd.snd.snd.snd.snd.fst x.snd.snd.snd.snd.snd.snd.fst
                                                                (List.take x.snd.snd.snd.snd.snd.snd.snd.fst
                                                                  (List.drop (0 : Nat) x.snd.snd.snd.fst))
                                                                x.snd.snd.snd.snd.snd.snd.snd.snd.fst
                                                                x.snd.snd.snd.snd.snd.snd.snd.snd.snd.fst
                                                                (List.take x.snd.snd.snd.snd.snd.snd.snd.snd.snd.snd.fst
                                                                  (List.drop (0 : Nat) x.snd.snd.snd.snd.fst))
                                                                x.fst x.snd.fst).toNat)
                                                          (2 : Int))))
                                                    x.snd.snd.snd.snd.snd.snd.snd.snd.fst x.snd.snd.snd.snd.snd.snd.snd.snd.snd.fst
                                                    (List.take x.snd.snd.snd.snd.snd.snd.snd.snd.snd.snd.fst
                                                      (List.drop (0 : Nat) x.snd.snd.snd.snd.fst))
                                                    x.fst x.snd.fst).toNat)
                                              (1 : Int)).length) then
                                    bif
                                        decide
                                          ((0 : Nat) + x.snd.snd.snd.snd.snd.snd.snd.snd.snd.snd.fst ≤ x.snd.snd.snd.snd.fst.length) then
                                      (f36
                                            (List.take x.snd.snd.snd.snd.snd.snd.snd.fst
                                                (List.drop (0 : Nat)
                                                  ((x.snd.snd.snd.fst.set
                                                        ((0 : Nat) +
                                                          (f37 x.snd.snd.snd.snd.snd.fst x.snd.snd.snd.snd.snd.snd.fst
                                                              (List.take x.snd.snd.snd.snd.snd.snd.snd.fst
                                                                (List.drop (0 : Nat) x.snd.snd.snd.fst))
                                                              x.snd.snd.snd.snd.snd.snd.snd.snd.fst
                                                              x.snd.snd.snd.snd.snd.snd.snd.snd.snd.fst
                                                              (List.take x.snd.snd.snd.snd.snd.snd.snd.snd.snd.snd.fst
                                                                (List.drop (0 : Nat) x.snd.snd.snd.snd.fst))
                                                              x.fst x.snd.fst).toNat)
                                                        (2 : Int)).set
                                                    ((0 : Nat) +
                                                      (f37 x.snd.snd.snd.snd.snd.fst x.snd.snd.snd.snd.snd.snd.fst
                                                          (List.take x.snd.snd.snd.snd.snd.snd.snd.fst
                                                            (List.drop (0 : Nat)
                                                              (x.snd.snd.snd.fst.set
                                                                ((0 : Nat) +
                                                                  (f37 x.snd.snd.snd.snd.snd.fst x.snd.snd.snd.snd.snd.snd.fst
                                                                      (List.take x.snd.snd.snd.snd.snd.snd.snd.fst
                                                                        (List.drop (0 : Nat) x.snd.snd.snd.fst))
                                                                      x.snd.snd.snd.snd.snd.snd.snd.snd.fst
                                                                      x.snd.snd.snd.snd.snd.snd.snd.snd.snd.fst
                                                                      (List.take x.snd.snd.snd.snd.snd.snd.snd.snd.snd.snd.fst
                                                                        (List.drop (0 : Nat) x.snd.snd.snd.snd.fst))
                                                                      x.fst x.snd.fst).toNat)
                                                                (2 : Int))))
                                                          x.snd.snd.snd.snd.snd.snd.snd.snd.fst x.snd.snd.snd.snd.snd.snd.snd.snd.snd.fst
                                                          (List.take x.snd.snd.snd.snd.snd.snd.snd.snd.snd.snd.fst
                                                            (List.drop (0 : Nat) x.snd.snd.snd.snd.fst))
                                                          x.fst x.snd.fst).toNat)
                                                    (1 : Int))),
                                              List.take x.snd.snd.snd.snd.snd.snd.snd.snd.snd.snd.fst
                                                (List.drop (0 : Nat) x.snd.snd.snd.snd.fst),
                                              x.snd.snd.snd.snd.snd.fst, x.snd.snd.snd.snd.snd.snd.fst, x.snd.snd.snd.snd.snd.snd.snd.fst,
                                              x.snd.snd.snd.snd.snd.snd.snd.snd.fst, x.snd.snd.snd.snd.snd.snd.snd.snd.snd.fst,
                                              x.snd.snd.snd.snd.snd.snd.snd.snd.snd.snd.fst, ())).bind
                                        fun y91 =>
                                        some
                                          (Sum.inr
                                            ((0 : Int), y91.snd.snd.fst, y91.snd.snd.snd.fst, y91.snd.snd.snd.snd.fst,
                                              y91.snd.snd.snd.snd.snd.fst, y91.snd.snd.snd.snd.snd.snd.fst,
                                              y91.snd.snd.snd.snd.snd.snd.snd.fst, y91.fst, y91.snd.snd.snd.snd.snd.snd.snd.snd.fst, ()))
                                    else none
                                  else none
                                else
                                  bif x.snd.snd.fst then
                                    bif
                                        decide
                                          ((0 : Nat) + x.snd.snd.snd.snd.snd.snd.snd.fst ≤
                                            ((x.snd.snd.snd.fst.set
                                                    ((0 : Nat) +
                                                      (f37 x.snd.snd.snd.snd.snd.fst x.snd.snd.snd.snd.snd.snd.fst
                                                          (List.take x.snd.snd.snd.snd.snd.snd.snd.fst
                                                            (List.drop (0 : Nat) x.snd.snd.snd.fst))
                                                          x.snd.snd.snd.snd.snd.snd.snd.snd.fst x.snd.snd.snd.snd.snd.snd.snd.snd.snd.fst
                                                          (List.take x.snd.snd.snd.snd.snd.snd.snd.snd.snd.snd.fst
                                                            (List.drop (0 : Nat) x.snd.snd.snd.snd.fst))
                                                          x.fst x.snd.fst).toNat)
                                                    (2 : Int)).set
                                                ((0 : Nat) +
                                                  (f37 x.snd.snd.snd.snd.snd.fst x.snd.snd.snd.snd.snd.snd.fst
                                                      (List.take x.snd.snd.snd.snd.snd.snd.snd.fst
                                                        (List.drop (0 : Nat)
                                                          (x.snd.snd.snd.fst.set
                                                            ((0 : Nat) +
                                                              (f37 x.snd.snd.snd.snd.snd.fst x.snd.snd.snd.snd.snd.snd.fst
                                                                  (List.take x.snd.snd.snd.snd.snd.snd.snd.fst
                                                                    (List.drop (0 : Nat) x.snd.snd.snd.fst))
                                                                  x.snd.snd.snd.snd.snd.snd.snd.snd.fst
                                                                  x.snd.snd.snd.snd.snd.snd.snd.snd.snd.fst
                                                                  (List.take x.snd.snd.snd.snd.snd.snd.snd.snd.snd.snd.fst
                                                                    (List.drop (0 : Nat) x.snd.snd.snd.snd.fst))
                                                                  x.fst x.snd.fst).toNat)
                                                            (2 : Int))))
                                                      x.snd.snd.snd.snd.snd.snd.snd.snd.fst x.snd.snd.snd.snd.snd.snd.snd.snd.snd.fst
                                                      (List.take x.snd.snd.snd.snd.snd.snd.snd.snd.snd.snd.fst
                                                        (List.drop (0 : Nat) x.snd.snd.snd.snd.fst))
                                                      x.fst x.snd.fst).toNat)
                                                (1 : Int)).length) then
                                      (f39
                                            (x.snd.snd.snd.snd.snd.fst, x.snd.snd.snd.snd.snd.snd.fst,
                                              List.take x.snd.snd.snd.snd.snd.snd.snd.fst
                                                (List.drop (0 : Nat)
                                                  ((x.snd.snd.snd.fst.set
                                                        ((0 : Nat) +
                                                          (f37 x.snd.snd.snd.snd.snd.fst x.snd.snd.snd.snd.snd.snd.fst
                                                              (List.take x.snd.snd.snd.snd.snd.snd.snd.fst
                                                                (List.drop (0 : Nat) x.snd.snd.snd.fst))
                                                              x.snd.snd.snd.snd.snd.snd.snd.snd.fst
                                                              x.snd.snd.snd.snd.snd.snd.snd.snd.snd.fst
                                                              (List.take x.snd.snd.snd.snd.snd.snd.snd.snd.snd.snd.fst
                                                                (List.drop (0 : Nat) x.snd.snd.snd.snd.fst))
                                                              x.fst x.snd.fst).toNat)
                                                        (2 : Int)).set
                                                    ((0 : Nat) +
                                                      (f37 x.snd.snd.snd.snd.snd.fst x.snd.snd.snd.snd.snd.snd.fst
                                                          (List.take x.snd.snd.snd.snd.snd.snd.snd.fst
                                                            (List.drop (0 : Nat)
                                                              (x.snd.snd.snd.fst.set
                                                                ((0 : Nat) +
                                                                  (f37 x.snd.snd.snd.snd.snd.fst x.snd.snd.snd.snd.snd.snd.fst
                                                                      (List.take x.snd.snd.snd.snd.snd.snd.snd.fst
                                                                        (List.drop (0 : Nat) x.snd.snd.snd.fst))
                                                                      x.snd.snd.snd.snd.snd.snd.snd.snd.fst
                                                                      x.snd.snd.snd.snd.snd.snd.snd.snd.snd.fst
                                                                      (List.take x.snd.snd.snd.snd.snd.snd.snd.snd.snd.snd.fst
                                                                        (List.drop (0 : Nat) x.snd.snd.snd.snd.fst))
                                                                      x.fst x.snd.fst).toNat)
                                                                (2 : Int))))
                                                          x.snd.snd.snd.snd.snd.snd.snd.snd.fst x.snd.snd.snd.snd.snd.snd.snd.snd.snd.fst
                                                          (List.take x.snd.snd.snd.snd.snd.snd.snd.snd.snd.snd.fst
                                                            (List.drop (0 : Nat) x.snd.snd.snd.snd.fst))
                                                          x.fst x.snd.fst).toNat)
                                                    (1 : Int))),
                                              x.fst, x.snd.fst, ())).bind
                                        fun y93 =>
                                        bif
                                            decide
                                              ((0 : Nat) + x.snd.snd.snd.snd.snd.snd.snd.fst ≤
                                                ((x.snd.snd.snd.fst.set
                                                        ((0 : Nat) +
                                                          (f37 x.snd.snd.snd.snd.snd.fst x.snd.snd.snd.snd.snd.snd.fst
                                                              (List.take x.snd.snd.snd.snd.snd.snd.snd.fst
                                                                (List.drop (0 : Nat) x.snd.snd.snd.fst))
                                                              x.snd.snd.snd.snd.snd.snd.snd.snd.fst
                                                              x.snd.snd.snd.snd.snd.snd.snd.snd.snd.fst
                                                              (List.take x.snd.snd.snd.snd.snd.snd.snd.snd.snd.snd.fst
                                                                (List.drop (0 : Nat) x.snd.snd.snd.snd.fst))
                                                              x.fst x.snd.fst).toNat)
                                                        (2 : Int)).set
                                                    ((0 : Nat) +
                                                      (f37 x.snd.snd.snd.snd.snd.fst x.snd.snd.snd.snd.snd.snd.fst
                                                          (List.take x.snd.snd.snd.snd.snd.snd.snd.fst
                                                            (List.drop (0 : Nat)
                                                              (x.snd.snd.snd.fst.set
                                                                ((0 : Nat) +
                                                                  (f37 x.snd.snd.snd.snd.snd.fst x.snd.snd.snd.snd.snd.snd.fst
                                                                      (List.take x.snd.snd.snd.snd.snd.snd.snd.fst
                                                                        (List.drop (0 : Nat) x.snd.snd.snd.fst))
                                                                      x.snd.snd.snd.snd.snd.snd.snd.snd.fst
                                                                      x.snd.snd.snd.snd.snd.snd.snd.snd.snd.fst
                                                                      (List.take x.snd.snd.snd.snd.snd.snd.snd.snd.snd.snd.fst
                                                                        (List.drop (0 : Nat) x.snd.snd.snd.snd.fst))
                                                                      x.fst x.snd.fst).toNat)
                                                                (2 : Int))))
                                                          x.snd.snd.snd.snd.snd.snd.snd.snd.fst x.snd.snd.snd.snd.snd.snd.snd.snd.snd.fst
                                                          (List.take x.snd.snd.snd.snd.snd.snd.snd.snd.snd.snd.fst
                                                            (List.drop (0 : Nat) x.snd.snd.snd.snd.fst))
                                                          x.fst x.snd.fst).toNat)
                                                    (1 : Int)).length) then
                                          bif
                                              decide
                                                ((0 : Nat) + x.snd.snd.snd.snd.snd.snd.snd.snd.snd.snd.fst ≤
                                                  x.snd.snd.snd.snd.fst.length) then
                                            bif decide ((0 : Nat) + y93.fst ≤ y93.snd.fst.length) then
                                              (f38
                                                    (y93.fst,
                                                      List.take x.snd.snd.snd.snd.snd.snd.snd.fst
                                                        (List.drop (0 : Nat)
                                                          ((x.snd.snd.snd.fst.set
                                                                ((0 : Nat) +
                                                                  (f37 x.snd.snd.snd.snd.snd.fst x.snd.snd.snd.snd.snd.snd.fst
                                                                      (List.take x.snd.snd.snd.snd.snd.snd.snd.fst
                                                                        (List.drop (0 : Nat) x.snd.snd.snd.fst))
                                                                      x.snd.snd.snd.snd.snd.snd.snd.snd.fst
                                                                      x.snd.snd.snd.snd.snd.snd.snd.snd.snd.fst
                                                                      (List.take x.snd.snd.snd.snd.snd.snd.snd.snd.snd.snd.fst
                                                                        (List.drop (0 : Nat) x.snd.snd.snd.snd.fst))
                                                                      x.fst x.snd.fst).toNat)
                                                                (2 : Int)).set
                                                            ((0 : Nat) +
                                                              (f37 x.snd.snd.snd.snd.snd.fst x.snd.snd.snd.snd.snd.snd.fst
                                                                  (List.take x.snd.snd.snd.snd.snd.snd.snd.fst
                                                                    (List.drop (0 : Nat)
                                                                      (x.snd.snd.snd.fst.set
                                                                        ((0 : Nat) +
                                                                          (f37 x.snd.snd.snd.snd.snd.fst x.snd.snd.snd.snd.snd.snd.fst
                                                                              (List.take x.snd.snd.snd.snd.snd.snd.snd.fst
                                                                                (List.drop (0 : Nat) x.snd.snd.snd.fst))
                                                                              x.snd.snd.snd.snd.snd.snd.snd.snd.fst
                                                                              x.snd.snd.snd.snd.snd.snd.snd.snd.snd.fst
                                                                              (List.take x.snd.snd.snd.snd.snd.snd.snd.snd.snd.snd.fst
                                                                                (List.drop (0 : Nat) x.snd.snd.snd.snd.fst))
                                                                              x.fst x.snd.fst).toNat)
                                                                        (2 : Int))))
                                                                  x.snd.snd.snd.snd.snd.snd.snd.snd.fst
                                                                  x.snd.snd.snd.snd.snd.snd.snd.snd.snd.fst
                                                                  (List.take x.snd.snd.snd.snd.snd.snd.snd.snd.snd.snd.fst
                                                                    (List.drop (0 : Nat) x.snd.snd.snd.snd.fst))
                                                                  x.fst x.snd.fst).toNat)
                                                            (1 : Int))),
                                                      List.take x.snd.snd.snd.snd.snd.snd.snd.snd.snd.snd.fst
                                                        (List.drop (0 : Nat) x.snd.snd.snd.snd.fst),
                                                      x.snd.snd.snd.snd.snd.fst, x.snd.snd.snd.snd.snd.snd.fst,
                                                      x.snd.snd.snd.snd.snd.snd.snd.fst, x.snd.snd.snd.snd.snd.snd.snd.snd.fst,
                                                      x.snd.snd.snd.snd.snd.snd.snd.snd.snd.fst,
                                                      x.snd.snd.snd.snd.snd.snd.snd.snd.snd.snd.fst,
                                                      List.take y93.fst (List.drop (0 : Nat) y93.snd.fst), ())).bind
                                                fun y92 =>
                                                some
                                                  (Sum.inr
                                                    ((0 : Int), y92.snd.snd.fst, y92.snd.snd.snd.fst, y92.snd.snd.snd.snd.fst,
                                                      y92.snd.snd.snd.snd.snd.fst, y92.snd.snd.snd.snd.snd.snd.fst,
                                                      y92.snd.snd.snd.snd.snd.snd.snd.fst, y92.fst, y92.snd.fst, ()))
                                            else none
                                          else none
                                        else none
                                    else none
                                  else
                                    bif
                                        decide
                                          ((0 : Nat) + x.snd.snd.snd.snd.snd.snd.snd.fst ≤
                                            ((x.snd.snd.snd.fst.set
                                                    ((0 : Nat) +
                                                      (f37 x.snd.snd.snd.snd.snd.fst x.snd.snd.snd.snd.snd.snd.fst
                                                          (List.take x.snd.snd.snd.snd.snd.snd.snd.fst
                                                            (List.drop (0 : Nat) x.snd.snd.snd.fst))
                                                          x.snd.snd.snd.snd.snd.snd.snd.snd.fst x.snd.snd.snd.snd.snd.snd.snd.snd.snd.fst
                                                          (List.take x.snd.snd.snd.snd.snd.snd.snd.snd.snd.snd.fst
                                                            (List.drop (0 : Nat) x.snd.snd.snd.snd.fst))
                                                          x.fst x.snd.fst).toNat)
                                                    (2 : Int)).set
                                                ((0 : Nat) +
                                                  (f37 x.snd.snd.snd.snd.snd.fst x.snd.snd.snd.snd.snd.snd.fst
                                                      (List.take x.snd.snd.snd.snd.snd.snd.snd.fst
                                                        (List.drop (0 : Nat)
                                                          (x.snd.snd.snd.fst.set
                                                            ((0 : Nat) +
                                                              (f37 x.snd.snd.snd.snd.snd.fst x.snd.snd.snd.snd.snd.snd.fst
                                                                  (List.take x.snd.snd.snd.snd.snd.snd.snd.fst
                                                                    (List.drop (0 : Nat) x.snd.snd.snd.fst))
                                                                  x.snd.snd.snd.snd.snd.snd.snd.snd.fst
                                                                  x.snd.snd.snd.snd.snd.snd.snd.snd.snd.fst
                                                                  (List.take x.snd.snd.snd.snd.snd.snd.snd.snd.snd.snd.fst
                                                                    (List.drop (0 : Nat) x.snd.snd.snd.snd.fst))
                                                                  x.fst x.snd.fst).toNat)
                                                            (2 : Int))))
                                                      x.snd.snd.snd.snd.snd.snd.snd.snd.fst x.snd.snd.snd.snd.snd.snd.snd.snd.snd.fst
                                                      (List.take x.snd.snd.snd.snd.snd.snd.snd.snd.snd.snd.fst
                                                        (List.drop (0 : Nat) x.snd.snd.snd.snd.fst))
                                                      x.fst x.snd.fst).toNat)
                                                (1 : Int)).length) then
                                      (f39
                                            (x.snd.snd.snd.snd.snd.fst, x.snd.snd.snd.snd.snd.snd.fst,
                                              List.take x.snd.snd.snd.snd.snd.snd.snd.fst
                                                (List.drop (0 : Nat)
                                                  ((x.snd.snd.snd.fst.set
                                                        ((0 : Nat) +
                                                          (f37 x.snd.snd.snd.snd.snd.fst x.snd.snd.snd.snd.snd.snd.fst
                                                              (List.take x.snd.snd.snd.snd.snd.snd.snd.fst
                                                                (List.drop (0 : Nat) x.snd.snd.snd.fst))
                                                              x.snd.snd.snd.snd.snd.snd.snd.snd.fst
                                                              x.snd.snd.snd.snd.snd.snd.snd.snd.snd.fst
                                                              (List.take x.snd.snd.snd.snd.snd.snd.snd.snd.snd.snd.fst
                                                                (List.drop (0 : Nat) x.snd.snd.snd.snd.fst))
                                                              x.fst x.snd.fst).toNat)
                                                        (2 : Int)).set
                                                    ((0 : Nat) +
                                                      (f37 x.snd.snd.snd.snd.snd.fst x.snd.snd.snd.snd.snd.snd.fst
                                                          (List.take x.snd.snd.snd.snd.snd.snd.snd.fst
                                                            (List.drop (0 : Nat)
                                                              (x.snd.snd.snd.fst.set
                                                                ((0 : Nat) +
                                                                  (f37 x.snd.snd.snd.snd.snd.fst x.snd.snd.snd.snd.snd.snd.fst
                                                                      (List.take x.snd.snd.snd.snd.snd.snd.snd.fst
                                                                        (List.drop (0 : Nat) x.snd.snd.snd.fst))
                                                                      x.snd.snd.snd.snd.snd.snd.snd.snd.fst
                                                                      x.snd.snd.snd.snd.snd.snd.snd.snd.snd.fst
                                                                      (List.take x.snd.snd.snd.snd.snd.snd.snd.snd.snd.snd.fst
                                                                        (List.drop (0 : Nat) x.snd.snd.snd.snd.fst))
                                                                      x.fst x.snd.fst).toNat)
                                                                (2 : Int))))
                                                          x.snd.snd.snd.snd.snd.snd.snd.snd.fst x.snd.snd.snd.snd.snd.snd.snd.snd.snd.fst
                                                          (List.take x.snd.snd.snd.snd.snd.snd.snd.snd.snd.snd.fst
                                                            (List.drop (0 : Nat) x.snd.snd.snd.snd.fst))
                                                          x.fst x.snd.fst).toNat)
                                                    (1 : Int))),
                                              x.fst, x.snd.fst, ())).bind
                                        fun y95 =>
                                        bif
                                            decide
                                              ((0 : Nat) + x.snd.snd.snd.snd.snd.snd.snd.fst ≤
                                                ((x.snd.snd.snd.fst.set
                                                        ((0 : Nat) +
                                                          (f37 x.snd.snd.snd.snd.snd.fst x.snd.snd.snd.snd.snd.snd.fst
                                                              (List.take x.snd.snd.snd.snd.snd.snd.snd.fst
                                                                (List.drop (0 : Nat) x.snd.snd.snd.fst))
                                                              x.snd.snd.snd.snd.snd.snd.snd.snd.fst
                                                              x.snd.snd.snd.snd.snd.snd.snd.snd.snd.fst
                                                              (List.take x.snd.snd.snd.snd.snd.snd.snd.snd.snd.snd.fst
                                                                (List.drop (0 : Nat) x.snd.snd.snd.snd.fst))
                                                              x.fst x.snd.fst).toNat)
                                                        (2 : Int)).set
                                                    ((0 : Nat) +
                                                      (f37 x.snd.snd.snd.snd.snd.fst x.snd.snd.snd.snd.snd.snd.fst
                                                          (List.take x.snd.snd.snd.snd.snd.snd.snd.fst
                                                            (List.drop (0 : Nat)
                                                              (x.snd.snd.snd.fst.set
                                                                ((0 : Nat) +
                                                                  (f37 x.snd.snd.snd.snd.snd.fst x.snd.snd.snd.snd.snd.snd.fst
                                                                      (List.take x.snd.snd.snd.snd.snd.snd.snd.fst
                                                                        (List.drop (0 : Nat) x.snd.snd.snd.fst))
                                                                      x.snd.snd.snd.snd.snd.snd.snd.snd.fst
                                                                      x.snd.snd.snd.snd.snd.snd.snd.snd.snd.fst
                                                                      (List.take x.snd.snd.snd.snd.snd.snd.snd.snd.snd.snd.fst
                                                                        (List.drop (0 : Nat) x.snd.snd.snd.snd.fst))
                                                                      x.fst x.snd.fst).toNat)
                                                                (2 : Int))))
                                                          x.snd.snd.snd.snd.snd.snd.snd.snd.fst x.snd.snd.snd.snd.snd.snd.snd.snd.snd.fst
                                                          (List.take x.snd.snd.snd.snd.snd.snd.snd.snd.snd.snd.fst
                                                            (List.drop (0 : Nat) x.snd.snd.snd.snd.fst))
                                                          x.fst x.snd.fst).toNat)
                                                    (1 : Int)).length) then
                                          bif
                                              decide
                                                ((0 : Nat) + x.snd.snd.snd.snd.snd.snd.snd.snd.snd.snd.fst ≤
                                                  x.snd.snd.snd.snd.fst.length) then
                                            bif decide ((0 : Nat) + y95.fst ≤ y95.snd.fst.length) then
                                              (f40
                                                    (y95.fst,
                                                      List.take x.snd.snd.snd.snd.snd.snd.snd.fst
                                                        (List.drop (0 : Nat)
                                                          ((x.snd.snd.snd.fst.set
                                                                ((0 : Nat) +
                                                                  (f37 x.snd.snd.snd.snd.snd.fst x.snd.snd.snd.snd.snd.snd.fst
                                                                      (List.take x.snd.snd.snd.snd.snd.snd.snd.fst
                                                                        (List.drop (0 : Nat) x.snd.snd.snd.fst))
                                                                      x.snd.snd.snd.snd.snd.snd.snd.snd.fst
                                                                      x.snd.snd.snd.snd.snd.snd.snd.snd.snd.fst
                                                                      (List.take x.snd.snd.snd.snd.snd.snd.snd.snd.snd.snd.fst
                                                                        (List.drop (0 : Nat) x.snd.snd.snd.snd.fst))
                                                                      x.fst x.snd.fst).toNat)
                                                                (2 : Int)).set
                                                            ((0 : Nat) +
                                                              (f37 x.snd.snd.snd.snd.snd.fst x.snd.snd.snd.snd.snd.snd.fst
                                                                  (List.take x.snd.snd.snd.snd.snd.snd.snd.fst
                                                                    (List.drop (0 : Nat)
                                                                      (x.snd.snd.snd.fst.set
                                                                        ((0 : Nat) +
                                                                          (f37 x.snd.snd.snd.snd.snd.fst x.snd.snd.snd.snd.snd.snd.fst
                                                                              (List.take x.snd.snd.snd.snd.snd.snd.snd.fst
                                                                                (List.drop (0 : Nat) x.snd.snd.snd.fst))
                                                                              x.snd.snd.snd.snd.snd.snd.snd.snd.fst
                                                                              x.snd.snd.snd.snd.snd.snd.snd.snd.snd.fst
                                                                              (List.take x.snd.snd.snd.snd.snd.snd.snd.snd.snd.snd.fst
                                                                                (List.drop (0 : Nat) x.snd.snd.snd.snd.fst))
                                                                              x.fst x.snd.fst).toNat)
                                                                        (2 : Int))))
                                                                  x.snd.snd.snd.snd.snd.snd.snd.snd.fst
                                                                  x.snd.snd.snd.snd.snd.snd.snd.snd.snd.fst
                                                                  (List.take x.snd.snd.snd.snd.snd.snd.snd.snd.snd.snd.fst
                                                                    (List.drop (0 : Nat) x.snd.snd.snd.snd.fst))
                                                                  x.fst x.snd.fst).toNat)
                                                            (1 : Int))),
                                                      List.take x.snd.snd.snd.snd.snd.snd.snd.snd.snd.snd.fst
                                                        (List.drop (0 : Nat) x.snd.snd.snd.snd.fst),
                                                      x.snd.snd.snd.snd.snd.fst, x.snd.snd.snd.snd.snd.snd.fst,
                                                      x.snd.snd.snd.snd.snd.snd.snd.fst, x.snd.snd.snd.snd.snd.snd.snd.snd.fst,
                                                      x.snd.snd.snd.snd.snd.snd.snd.snd.snd.fst,
                                                      x.snd.snd.snd.snd.snd.snd.snd.snd.snd.snd.fst,
                                                      List.take y95.fst (List.drop (0 : Nat) y95.snd.fst), ())).bind
                                                fun y94 =>
                                                some
                                                  (Sum.inr
                                                    ((0 : Int), y94.fst, y94.snd.fst, y94.snd.snd.fst, y94.snd.snd.snd.fst,
                                                      y94.snd.snd.snd.snd.fst, y94.snd.snd.snd.snd.snd.fst, y94.snd.snd.snd.snd.snd.snd.fst,
                                                      y94.snd.snd.snd.snd.snd.snd.snd.fst, ()))
                                            else none
                                          else none
                                        else none
                                    else none
                          else none
                        else none
                      else none
                    else
                      bif (y103 == (1 : Int)) == x.snd.snd.fst then
                        some
                          (Sum.inl
                            ((0 : Int),
                              x.snd.snd.snd.fst.set
                                ((0 : Nat) +
                                  (f37 x.snd.snd.snd.snd.snd.fst x.snd.snd.snd.snd.snd.snd.fst
                                      (List.take x.snd.snd.snd.snd.snd.snd.snd.fst (List.drop (0 : Nat) x.snd.snd.snd.fst))
                                      x.snd.snd.snd.snd.snd.snd.snd.snd.fst x.snd.snd.snd.snd.snd.snd.snd.snd.snd.fst
                                      (List.take x.snd.snd.snd.snd.snd.snd.snd.snd.snd.snd.fst (List.drop (0 : Nat) x.snd.snd.snd.snd.fst))
                                      x.fst x.snd.fst).toNat)
                                (2 : Int),
                              x.snd.snd.snd.snd.fst, x.snd.snd.snd.snd.snd.fst, x.snd.snd.snd.snd.snd.snd.fst,
                              x.snd.snd.snd.snd.snd.snd.snd.fst, x.snd.snd.snd.snd.snd.snd.snd.snd.fst,
                              x.snd.snd.snd.snd.snd.snd.snd.snd.snd.fst, x.snd.snd.snd.snd.snd.snd.snd.snd.snd.snd.fst, ()))
                      else
                        bif
                            bif x.fst == x.snd.snd.snd.snd.snd.snd.snd.snd.fst then
                              bif x.snd.fst == x.snd.snd.snd.snd.snd.snd.snd.snd.snd.fst then true else false
                            else false then
                          bif
                              decide
                                ((0 : Nat) + x.snd.snd.snd.snd.snd.snd.snd.fst ≤
                                  (x.snd.snd.snd.fst.set
                                      ((0 : Nat) +
                                        (f37 x.snd.snd.snd.snd.snd.fst x.snd.snd.snd.snd.snd.snd.fst
                                            (List.take x.snd.snd.snd.snd.snd.snd.snd.fst (List.drop (0 : Nat) x.snd.snd.snd.fst))
                                            x.snd.snd.snd.snd.snd.snd.snd.snd.fst x.snd.snd.snd.snd.snd.snd.snd.snd.snd.fst
                                            (List.take x.snd.snd.snd.snd.snd.snd.snd.snd.snd.snd.fst
                                              (List.drop (0 : Nat) x.snd.snd.snd.snd.fst))
                                            x.fst x.snd.fst).toNat)
                                      (2 : Int)).length) then
                            bif decide ((0 : Nat) + x.snd.snd.snd.snd.snd.snd.snd.snd.snd.snd.fst ≤ x.snd.snd.snd.snd.fst.length) then
                              (f36
                                    (List.take x.snd.snd.snd.snd.snd.snd.snd.fst
                                        (List.drop (0 : Nat)
                                          (x.snd.snd.snd.fst.set
                                            ((0 : Nat) +
                                              (f37 x.snd.snd.snd.snd.snd.fst x.snd.snd.snd.snd.snd.snd.fst
                                                  (List.take x.snd.snd.snd.snd.snd.snd.snd.fst (List.drop (0 : Nat) x.snd.snd.snd.fst))
                                                  x.snd.snd.snd.snd.snd.snd.snd.snd.fst x.snd.snd.snd.snd.snd.snd.snd.snd.snd.fst
                                                  (List.take x.snd.snd.snd.snd.snd.snd.snd.snd.snd.snd.fst
                                                    (List.drop (0 : Nat) x.snd.snd.snd.snd.fst))
                                                  x.fst x.snd.fst).toNat)
                                            (2 : Int))),
                                      List.take x.snd.snd.snd.snd.snd.snd.snd.snd.snd.snd.fst (List.drop (0 : Nat) x.snd.snd.snd.snd.fst),
                                      x.snd.snd.snd.snd.snd.fst, x.snd.snd.snd.snd.snd.snd.fst, x.snd.snd.snd.snd.snd.snd.snd.fst,
                                      x.snd.snd.snd.snd.snd.snd.snd.snd.fst, x.snd.snd.snd.snd.snd.snd.snd.snd.snd.fst,
                                      x.snd.snd.snd.snd.snd.snd.snd.snd.snd.snd.fst, ())).bind
                                fun y97 =>
                                some
                                  (Sum.inr
                                    ((0 : Int), y97.snd.snd.fst, y97.snd.snd.snd.fst, y97.snd.snd.snd.snd.fst, y97.snd.snd.snd.snd.snd.fst,
                                      y97.snd.snd.snd.snd.snd.snd.fst, y97.snd.snd.snd.snd.snd.snd.snd.fst, y97.fst,
                                      y97.snd.snd.snd.snd.snd.snd.snd.snd.fst, ()))
                            else none
                          else none
                        else
                          bif x.snd.snd.fst then
                            bif
                                decide
                                  ((0 : Nat) + x.snd.snd.snd.snd.snd.snd.snd.fst ≤
                                    (x.snd.snd.snd.fst.set
                                        ((0 : Nat) +
                                          (f37 x.snd.snd.snd.snd.snd.fst x.snd.snd.snd.snd.snd.snd.fst
                                              (List.take x.snd.snd.snd.snd.snd.snd.snd.fst (List.drop (0 : Nat) x.snd.snd.snd.fst))
                                              x.snd.snd.snd.snd.snd.snd.snd.snd.fst x.snd.snd.snd.snd.snd.snd.snd.snd.snd.fst
                                              (List.take x.snd.snd.snd.snd.snd.snd.snd.snd.snd.snd.fst
                                                (List.drop (0 : Nat) x.snd.snd.snd.snd.fst))
                                              x.fst x.snd.fst).toNat)
                                        (2 : Int)).length) then
                              (f39
                                    (x.snd.snd.snd.snd.snd.fst, x.snd.snd.snd.snd.snd.snd.fst,
                                      List.take x.snd.snd.snd.snd.snd.snd.snd.fst
                                        (List.drop (0 : Nat)
                                          (x.snd.snd.snd.fst.set
                                            ((0 : Nat) +
                                              (f37 x.snd.snd.snd.snd.snd.fst x.snd.snd.snd.snd.snd.snd.fst
                                                  (List.take x.snd.snd.snd.snd.snd.snd.snd.fst (List.drop (0 : Nat) x.snd.snd.snd.fst))
                                                  x.snd.snd.snd.snd.snd.snd.snd.snd.fst x.snd.snd.snd.snd.snd.snd.snd.snd.snd.fst
                                                  (List.take x.snd.snd.snd.snd.snd.snd.snd.snd.snd.snd.fst
                                                    (List.drop (0 : Nat) x.snd.snd.snd.snd.fst))
                                                  x.fst x.snd.fst).toNat)
                                            (2 : Int))),
                                      x.fst, x.snd.fst, ())).bind
                                fun y99 =>
                                bif
                                    decide
                                      ((0 : Nat) + x.snd.snd.snd.snd.snd.snd.snd.fst ≤
                                        (x.snd.snd.snd.fst.set
                                            ((0 : Nat) +
                                              (f37 x.snd.snd.snd.snd.snd.fst x.snd.snd.snd.snd.snd.snd.fst
                                                  (List.take x.snd.snd.snd.snd.snd.snd.snd.fst (List.drop (0 : Nat) x.snd.snd.snd.fst))
                                                  x.snd.snd.snd.snd.snd.snd.snd.snd.fst x.snd.snd.snd.snd.snd.snd.snd.snd.snd.fst
                                                  (List.take x.snd.snd.snd.snd.snd.snd.snd.snd.snd.snd.fst
                                                    (List.drop (0 : Nat) x.snd.snd.snd.snd.fst))
                                                  x.fst x.snd.fst).toNat)
                                            (2 : Int)).length) then
                                  bif decide ((0 : Nat) + x.snd.snd.snd.snd.snd.snd.snd.snd.snd.snd.fst ≤ x.snd.snd.snd.snd.fst.length) then
                                    bif decide ((0 : Nat) + y99.fst ≤ y99.snd.fst.length) then
                                      (f38
                                            (y99.fst,
                                              List.take x.snd.snd.snd.snd.snd.snd.snd.fst
                                                (List.drop (0 : Nat)
                                                  (x.snd.snd.snd.fst.set
                                                    ((0 : Nat) +
                                                      (f37 x.snd.snd.snd.snd.snd.fst x.snd.snd.snd.snd.snd.snd.fst
                                                          (List.take x.snd.snd.snd.snd.snd.snd.snd.fst
                                                            (List.drop (0 : Nat) x.snd.snd.snd.fst))
                                                          x.snd.snd.snd.snd.snd.snd.snd.snd.fst x.snd.snd.snd.snd.snd.snd.snd.snd.snd.fst
                                                          (List.take x.snd.snd.snd.snd.snd.snd.snd.snd.snd.snd.fst
                                                            (List.drop (0 : Nat) x.snd.snd.snd.snd.fst))
                                                          x.fst x.snd.fst).toNat)
                                                    (2 : Int))),
                                              List.take x.snd.snd.snd.snd.snd.snd.snd.snd.snd.snd.fst
                                                (List.drop (0 : Nat) x.snd.snd.snd.snd.fst),
                                              x.snd.snd.snd.snd.snd.fst, x.snd.snd.snd.snd.snd.snd.fst, x.snd.snd.snd.snd.snd.snd.snd.fst,
                                              x.snd.snd.snd.snd.snd.snd.snd.snd.fst, x.snd.snd.snd.snd.snd.snd.snd.snd.snd.fst,
                                              x.snd.snd.snd.snd.snd.snd.snd.snd.snd.snd.fst,
                                              List.take y99.fst (List.drop (0 : Nat) y99.snd.fst), ())).bind
                                        fun y98 =>
                                        some
                                          (Sum.inr
                                            ((0 : Int), y98.snd.snd.fst, y98.snd.snd.snd.fst, y98.snd.snd.snd.snd.fst,
                                              y98.snd.snd.snd.snd.snd.fst, y98.snd.snd.snd.snd.snd.snd.fst,
                                              y98.snd.snd.snd.snd.snd.snd.snd.fst, y98.fst, y98.snd.fst, ()))
                                    else none
                                  else none
                                else none
                            else none
                          else
                            bif
                                decide
                                  ((0 : Nat) + x.snd.snd.snd.snd.snd.snd.snd.fst ≤
                                    (x.snd.snd.snd.fst.set
                                        ((0 : Nat) +
                                          (f37 x.snd.snd.snd.snd.snd.fst x.snd.snd.snd.snd.snd.snd.fst
                                              (List.take x.snd.snd.snd.snd.snd.snd.snd.fst (List.drop (0 : Nat) x.snd.snd.snd.fst))
                                              x.snd.snd.snd.snd.snd.snd.snd.snd.fst x.snd.snd.snd.snd.snd.snd.snd.snd.snd.fst
                                              (List.take x.snd.snd.snd.snd.snd.snd.snd.snd.snd.snd.fst
                                                (List.drop (0 : Nat) x.snd.snd.snd.snd.fst))
                                              x.fst x.snd.fst).toNat)
                                        (2 : Int)).length) then
                              (f39
                                    (x.snd.snd.snd.snd.snd.fst, x.snd.snd.snd.snd.snd.snd.fst,
                                      List.take x.snd.snd.snd.snd.snd.snd.snd.fst
                                        (List.drop (0 : Nat)
                                          (x.snd.snd.snd.fst.set
                                            ((0 : Nat) +
                                              (f37 x.snd.snd.snd.snd.snd.fst x.snd.snd.snd.snd.snd.snd.fst
                                                  (List.take x.snd.snd.snd.snd.snd.snd.snd.fst (List.drop (0 : Nat) x.snd.snd.snd.fst))
                                                  x.snd.snd.snd.snd.snd.snd.snd.snd.fst x.snd.snd.snd.snd.snd.snd.snd.snd.snd.fst
                                                  (List.take x.snd.snd.snd.snd.snd.snd.snd.snd.snd.snd.fst
                                                    (List.drop (0 : Nat) x.snd.snd.snd.snd.fst))
                                                  x.fst x.snd.fst).toNat)
                                            (2 : Int))),
                                      x.fst, x.snd.fst, ())).bind
                                fun y101 =>
                                bif
                                    decide
                                      ((0 : Nat) + x.snd.snd.snd.snd.snd.snd.snd.fst ≤
                                        (x.snd.snd.snd.fst.set
                                            ((0 : Nat) +
                                              (f37 x.snd.snd.snd.snd.snd.fst x.snd.snd.snd.snd.snd.snd.fst
                                                  (List.take x.snd.snd.snd.snd.snd.snd.snd.fst (List.drop (0 : Nat) x.snd.snd.snd.fst))
                                                  x.snd.snd.snd.snd.snd.snd.snd.snd.fst x.snd.snd.snd.snd.snd.snd.snd.snd.snd.fst
                                                  (List.take x.snd.snd.snd.snd.snd.snd.snd.snd.snd.snd.fst
                                                    (List.drop (0 : Nat) x.snd.snd.snd.snd.fst))
                                                  x.fst x.snd.fst).toNat)
                                            (2 : Int)).length) then
                                  bif decide ((0 : Nat) + x.snd.snd.snd.snd.snd.snd.snd.snd.snd.snd.fst ≤ x.snd.snd.snd.snd.fst.length) then
                                    bif decide ((0 : Nat) + y101.fst ≤ y101.snd.fst.length) then
                                      (f40
                                            (y101.fst,
                                              List.take x.snd.snd.snd.snd.snd.snd.snd.fst
                                                (List.drop (0 : Nat)
                                                  (x.snd.snd.snd.fst.set
                                                    ((0 : Nat) +
                                                      (f37 x.snd.snd.snd.snd.snd.fst x.snd.snd.snd.snd.snd.snd.fst
                                                          (List.take x.snd.snd.snd.snd.snd.snd.snd.fst
                                                            (List.drop (0 : Nat) x.snd.snd.snd.fst))
                                                          x.snd.snd.snd.snd.snd.snd.snd.snd.fst x.snd.snd.snd.snd.snd.snd.snd.snd.snd.fst
                                                          (List.take x.snd.snd.snd.snd.snd.snd.snd.snd.snd.snd.fst
                                                            (List.drop (0 : Nat) x.snd.snd.snd.snd.fst))
                                                          x.fst x.snd.fst).toNat)
                                                    (2 : Int))),
                                              List.take x.snd.snd.snd.snd.snd.snd.snd.snd.snd.snd.fst
                                                (List.drop (0 : Nat) x.snd.snd.snd.snd.fst),
                                              x.snd.snd.snd.snd.snd.fst, x.snd.snd.snd.snd.snd.snd.fst, x.snd.snd.snd.snd.snd.snd.snd.fst,
                                              x.snd.snd.snd.snd.snd.snd.snd.snd.fst, x.snd.snd.snd.snd.snd.snd.snd.snd.snd.fst,
                                              x.snd.snd.snd.snd.snd.snd.snd.snd.snd.snd.fst,
                                              List.take y101.fst (List.drop (0 : Nat) y101.snd.fst), ())).bind
                                        fun y100 =>
                                        some
                                          (Sum.inr
                                            ((0 : Int), y100.fst, y100.snd.fst, y100.snd.snd.fst, y100.snd.snd.snd.fst,
                                              y100.snd.snd.snd.snd.fst, y100.snd.snd.snd.snd.snd.fst, y100.snd.snd.snd.snd.snd.snd.fst,
                                              y100.snd.snd.snd.snd.snd.snd.snd.fst, ()))
                                    else none
                                  else none
                                else none
                            else none
                else none
              else none
            else none
        else none
      else none
    else none
else none
noncomputable def F16 : CF tC := mkF tC S16 f16
theorem f16_run : ∀ a, fnS tC G16 (look []) Try.f16 S16 a = f16 a := fun a => by kernel_rfl
theorem F16_ok : CFOK tC 16 F16 := mkF_ok Y16 (fn := Try.f16) (body := bodyOf Try.f16) (by kernel_rfl) (by kernel_rfl) (by kernel_rfl) (m := 3) rfl (lam_le lam_nil) f16_run

/-! Cost -/
noncomputable def G21 : FuncId → Option (CF tC) := look [(34, F34), (37, F37)]
theorem Y21 : SysN tC G21 := (sys_cons F34_ok (mkF_nat _ _) (sys_cons F37_ok (mkF_nat _ _) (sys_nil tC_ok tC_eq)))
def S21 : FS := ⟨[[.q], [.v, .v]], [⟨[.one (.ro [.int .i64, .int .i64, .imm 5, .int .i64, .int .i64, .imm 3]), .one (.agg [.int .i64, .int .i64])], []⟩], [⟨[vI], []⟩], [[.v]], []⟩
noncomputable def f21 (x : Int × Int × List Int × Int × Int × List Int × Int × Int × Unit) : Option (Int × Unit) :=
  bif !f34 x.fst x.snd.fst x.snd.snd.fst x.snd.snd.snd.snd.snd.snd.fst x.snd.snd.snd.snd.snd.snd.snd.fst then some ((-1 : Int), ())
else
  (idxO x.snd.snd.snd.snd.snd.fst
        (f37 x.fst x.snd.fst x.snd.snd.fst x.snd.snd.snd.fst x.snd.snd.snd.snd.fst x.snd.snd.snd.snd.snd.fst x.snd.snd.snd.snd.snd.snd.fst
          x.snd.snd.snd.snd.snd.snd.snd.fst)).bind
    fun y11 => some (y11, ())
noncomputable def F21 : CF tC := mkF tC S21 f21
theorem f21_run : ∀ a, fnS tC G21 (look []) Try.f21 S21 a = f21 a := fun a => by kernel_rfl
theorem F21_ok : CFOK tC 21 F21 := mkF_ok Y21 (fn := Try.f21) (body := bodyOf Try.f21) (by kernel_rfl) (by kernel_rfl) (by kernel_rfl) (m := 0) rfl (lam_le lam_nil) f21_run

/-! Path -/
noncomputable def G17 : FuncId → Option (CF tC) := look [(9, F9)]
theorem Y17 : SysN tC G17 := (sys_cons F9_ok (mkF_nat _ _) (sys_nil tC_ok tC_eq))
def S17 : FS := ⟨[[.q], [.v, .v]], [⟨[.one (.ro [.int .i64, .int .i64, .imm 5, .int .i64, .int .i64, .imm 3]), .one (.agg [.int .i64, .int .i64])], []⟩], [⟨[.tup [.one (.sl 0), .one (.int .i64), .one (.int .i64)]], [.arr 26]⟩], [[.v], [.v], [.v]], [(4, 26)]⟩
noncomputable def f17 (x : Int × Int × List Int × Int × Int × List Int × Int × Int × Unit) : Option (Nat × Int × Int × List Pt × Unit) :=
  (f9
      (x.fst, x.snd.fst, x.snd.snd.fst, x.snd.snd.snd.snd.snd.snd.fst, x.snd.snd.snd.snd.snd.snd.snd.fst, x.snd.snd.snd.fst,
        x.snd.snd.snd.snd.fst, ())).bind
  fun y17 => some (y17.fst, y17.snd.fst, y17.snd.snd.fst, y17.snd.snd.snd.fst, ())
noncomputable def F17 : CF tC := mkF tC S17 f17
theorem f17_run : ∀ a, fnS tC G17 (look []) Try.f17 S17 a = f17 a := fun a => by kernel_rfl
theorem F17_ok : CFOK tC 17 F17 := mkF_ok Y17 (fn := Try.f17) (body := bodyOf Try.f17) (by kernel_rfl) (by kernel_rfl) (by kernel_rfl) (m := 0) rfl (lam_le lam_nil) f17_run

/-! Plan -/
noncomputable def G19 : FuncId → Option (CF tC) := look [(35, F35)]
theorem Y19 : SysN tC G19 := (sys_cons F35_ok (mkF_nat _ _) (sys_nil tC_ok tC_eq))
def S19 : FS := ⟨[[.q]], [⟨[.one (.ro [.int .i64, .int .i64, .imm 5, .int .i64, .int .i64, .imm 3])], []⟩], [⟨[.one (.agg [.int .i64, .int .i64, .sl 0])], [.arr 5]⟩], [[.v, .v, .v]], []⟩
noncomputable def f19 (x : Int × Int × List Int × Int × Int × List Int × Unit) : Option (Int × Int × Nat × List Int × Unit) :=
  (f35 (x.snd.snd.fst, ())).bind fun y13 => some (x.fst, x.snd.fst, y13.fst, y13.snd.fst, ())
noncomputable def F19 : CF tC := mkF tC S19 f19
theorem f19_run : ∀ a, fnS tC G19 (look []) Try.f19 S19 a = f19 a := fun a => by kernel_rfl
theorem F19_ok : CFOK tC 19 F19 := mkF_ok Y19 (fn := Try.f19) (body := bodyOf Try.f19) (by kernel_rfl) (by kernel_rfl) (by kernel_rfl) (m := 0) rfl (lam_le lam_nil) f19_run

/-! pathAwake -/
noncomputable def G4 : FuncId → Option (CF tC) := look [(8, F8), (9, F9), (15, F15), (21, F21)]
theorem Y4 : SysN tC G4 := (sys_cons F8_ok (mkF_nat _ _) (sys_cons F9_ok (mkF_nat _ _) (sys_cons F15_ok (mkF_nat _ _) (sys_cons F21_ok (mkF_nat _ _) (sys_nil tC_ok tC_eq)))))
def S4 : FS := ⟨[], [⟨[], []⟩], [⟨[vO], []⟩], [[.v]], []⟩
noncomputable def f4 (_x : Unit) : Option (Bool × Unit) :=
  (f8 ((3 : Int), (3 : Int), [(1 : Int), (1 : Int), (1 : Int), (1 : Int), (1 : Int), (1 : Int), (1 : Int), (1 : Int), (1 : Int)], ())).bind
  fun y31 =>
  (f9
        ((3 : Int), (3 : Int), [(1 : Int), (1 : Int), (1 : Int), (1 : Int), (1 : Int), (1 : Int), (1 : Int), (1 : Int), (1 : Int)],
          (0 : Int), (0 : Int), (2 : Int), (2 : Int), ())).bind
    fun y30 =>
    (f15
          ((3 : Int), (3 : Int), [(1 : Int), (1 : Int), (1 : Int), (1 : Int), (1 : Int), (1 : Int), (1 : Int), (1 : Int), (1 : Int)],
            (2 : Int), (2 : Int), ())).bind
      fun y29 =>
      Sum.elim
        (fun _x =>
          bif y31.snd.fst == (0 : Int) then
            bif (↑y31.fst : Int) == (9 : Int) then
              bif true && decide ((4 : Int) < (↑y31.fst : Int)) then
                y31.snd.snd.fst[(4 : Nat)]?.bind fun y21 =>
                  bif y21 == (4 : Int) then
                    bif y30.snd.snd.fst == (0 : Int) then bif y30.snd.fst == (198 : Int) then some (false, ()) else some (false, ())
                    else some (false, ())
                  else some (false, ())
              else none
            else some (false, ())
          else some (false, ()))
        (fun y28 =>
          Sum.elim
            (fun _x =>
              bif y31.snd.fst == (0 : Int) then
                bif (↑y31.fst : Int) == (9 : Int) then
                  bif true && decide ((4 : Int) < (↑y31.fst : Int)) then
                    y31.snd.snd.fst[(4 : Nat)]?.bind fun y23 =>
                      bif y23 == (4 : Int) then
                        bif y30.snd.snd.fst == (0 : Int) then bif y30.snd.fst == (198 : Int) then some (false, ()) else some (false, ())
                        else some (false, ())
                      else some (false, ())
                  else none
                else some (false, ())
              else some (false, ()))
            (fun y27 =>
              bif y31.snd.fst == (0 : Int) then
                bif (↑y31.fst : Int) == (9 : Int) then
                  bif true && decide ((4 : Int) < (↑y31.fst : Int)) then
                    y31.snd.snd.fst[(4 : Nat)]?.bind fun y26 =>
                      bif y26 == (4 : Int) then
                        bif y30.snd.snd.fst == (0 : Int) then
                          bif y30.snd.fst == (198 : Int) then
                            bif decide ((0 : Nat) + y27.snd.snd.fst ≤ y27.snd.snd.snd.snd.snd.snd.fst.length) then
                              bif decide ((0 : Nat) + y27.snd.snd.snd.snd.snd.fst ≤ y27.snd.snd.snd.snd.snd.snd.snd.fst.length) then
                                (f21
                                      (y27.fst, y27.snd.fst,
                                        List.take y27.snd.snd.fst (List.drop (0 : Nat) y27.snd.snd.snd.snd.snd.snd.fst),
                                        y27.snd.snd.snd.fst, y27.snd.snd.snd.snd.fst,
                                        List.take y27.snd.snd.snd.snd.snd.fst (List.drop (0 : Nat) y27.snd.snd.snd.snd.snd.snd.snd.fst),
                                        (0 : Int), (0 : Int), ())).bind
                                  fun y25 => some (y25.fst == (198 : Int), ())
                              else none
                            else none
                          else some (false, ())
                        else some (false, ())
                      else some (false, ())
                  else none
                else some (false, ())
              else some (false, ()))
            y28)
        y29
noncomputable def F4 : CF tC := mkF tC S4 f4
theorem f4_run : ∀ a, fnS tC G4 (look []) Try.f4 S4 a = f4 a := fun a => by kernel_rfl
theorem F4_ok : CFOK tC 4 F4 := mkF_ok Y4 (fn := Try.f4) (body := bodyOf Try.f4) (by kernel_rfl) (by kernel_rfl) (by kernel_rfl) (m := 0) rfl (lam_le lam_nil) f4_run

end Go.AE
