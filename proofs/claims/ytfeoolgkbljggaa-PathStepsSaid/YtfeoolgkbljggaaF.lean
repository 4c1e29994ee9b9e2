/-
  The plain functions that the seat's Go functions compute, each with the proof that the function keeps it. Printed by the generator (Gen2) and checked by the kernel.
-/
import Derived.Test.YtfeoolgkbljggaaFa
namespace Go.AE
open Go.Proofs Go.RowKit
set_option maxRecDepth 100000

/-! path.Length -/
noncomputable def G35 : FuncId → Option (CF tC) := look [(37, F37), (47, F47), (32, F32)]
theorem Y35 : SysN tC G35 := (sys_cons F37_ok (mkF_nat _ _) (sys_cons F47_ok (mkF_nat _ _) (sys_cons F32_ok (mkF_nat _ _) (sys_nil tC_ok tC_eq))))
noncomputable def c35_0 : Code := loopOf (bodyOf Try.f35) 0
def p35_0 : LS := ⟨0, [1, 2, 6, 23, 24, 25], ⟨[vB, .one (.one (.imm 26)), .one (.one (.ptr 0 0 0)), vB, vB, vB, vI] ++ vBs 16 ++ [.one (.one (.imm 26)), vI, vI] ++ vBs 21, [.box [.int .i64, .int .i64, .imm 5]]⟩, [⟨.ret, [4, 5], ⟨vBs 4 ++ [vI, vI] ++ vBs 41, []⟩, []⟩, ⟨.exit 0, [6], ⟨vBs 6 ++ [vI] ++ vBs 40, []⟩, []⟩], []⟩
noncomputable def r35_0 (x : List Pt × Int × List Pt × Int × Int × Int × Int × List Int × Unit) : Option (List Pt × Int × List Pt × Int × Int × Int × Int × List Int × Unit ⊕ Int × Int × Unit ⊕ Int × Unit) :=
  bif decide (x.snd.snd.snd.snd.fst < x.snd.snd.snd.fst) then
  (idxO x.snd.snd.fst x.snd.snd.snd.snd.fst).bind fun y27 =>
    (idxO x.fst x.snd.snd.snd.snd.fst).bind fun y26 =>
      (f32
            (x.snd.snd.snd.snd.snd.fst, x.snd.snd.snd.snd.snd.snd.fst, x.snd.snd.snd.snd.snd.snd.snd.fst, y26.X, y26.Y, y27.X, y27.Y,
              ())).bind
        fun y25 =>
        bif !y25.snd.fst then some (Sum.inr (Sum.inl ((0 : Int), (9 : Int), ())))
        else
          some
            (Sum.inl
              (x.fst, IntKind.i64.wrap (x.snd.fst + y25.fst), x.snd.snd.fst, x.snd.snd.snd.fst,
                IntKind.i64.wrap (x.snd.snd.snd.snd.fst + (1 : Int)), x.snd.snd.snd.snd.snd.fst, x.snd.snd.snd.snd.snd.snd.fst,
                x.snd.snd.snd.snd.snd.snd.snd.fst, ()))
else some (Sum.inr (Sum.inr (x.snd.fst, ())))
theorem r35_0_run0 (v0 : List Pt) (v1 : Int) (v2 : List Pt) (v3 : Int) (v4 : Int) (v5 : Int) (v6 : Int) (v7 : List Int) : roundK tC G35 (look []) c35_0 p35_0 (v0, v1, v2, v3, v4, v5, v6, v7, ()) = r35_0 (v0, v1, v2, v3, v4, v5, v6, v7, ()) := by kernel_rfl
theorem r35_0_run (x : List Pt × Int × List Pt × Int × Int × Int × Int × List Int × Unit) : roundK tC G35 (look []) c35_0 p35_0 x = r35_0 x := r35_0_run0 x.1 x.2.1 x.2.2.1 x.2.2.2.1 x.2.2.2.2.1 x.2.2.2.2.2.1 x.2.2.2.2.2.2.1 x.2.2.2.2.2.2.2.1
noncomputable def l35_0 (x : List Pt × Int × List Pt × Int × Int × Int × Int × List Int × Unit) : Option (Int × Int × Unit ⊕ Int × Unit) := iterO r35_0 x
noncomputable def W35_0 : LF tC := loopW tC p35_0 0 l35_0
theorem W35_0_ok : keyed 0 (bodyOf Try.f35) = [.block 0 (.loop c35_0)] ∧ ∀ n, n ≤ 0 → Snd tC n (.block 0 (.loop c35_0)) W35_0.k := ⟨by kernel_rfl, fun n hn => loopW_ok (p := p35_0) (id := 0) Y35 (lam_le lam_nil n hn) hn r35_0_run⟩
def S35 : FS := ⟨[[.v, .v, .s 5], [.s 26]], [⟨[.one (.agg [.int .i64, .int .i64, .imm 5]), .one (.one (.imm 26))], []⟩], [⟨[.tup [.one (.int .i64), .one (.int .i64)]], []⟩], [[.v], [.v]], []⟩
noncomputable def f35 (x : Int × Int × List Int × List Pt × Unit) : Option (Int × Int × Unit) :=
  (f37 (x.fst, x.snd.fst, x.snd.snd.fst, ())).bind fun y37 =>
  bif !y37.fst then some ((0 : Int), (1 : Int), ())
  else
    bif (↑x.snd.snd.snd.fst.length : Int) == (0 : Int) then some ((0 : Int), (7 : Int), ())
    else
      (f47 (x.snd.snd.snd.fst, x.fst, x.snd.fst, x.snd.snd.fst, ())).bind fun y36 =>
        bif y36.fst then some ((0 : Int), (7 : Int), ())
        else
          bif
              true && decide ((1 : Int) ≤ (↑x.snd.snd.snd.fst.length : Int)) &&
                  decide ((↑x.snd.snd.snd.fst.length : Int) ≤ (↑x.snd.snd.snd.fst.length : Int)) &&
                decide ((↑x.snd.snd.snd.fst.length : Int) ≤ (↑x.snd.snd.snd.fst.length : Int)) then
            (l35_0
                  (x.snd.snd.snd.fst, (0 : Int), List.drop (1 : Nat) (List.take (↑x.snd.snd.snd.fst.length : Int).toNat x.snd.snd.snd.fst),
                    (↑(List.drop (1 : Nat) (List.take (↑x.snd.snd.snd.fst.length : Int).toNat x.snd.snd.snd.fst)).length : Int), (0 : Int),
                    y36.snd.fst, y36.snd.snd.fst, y36.snd.snd.snd.fst, ())).bind
              fun y35 => Sum.elim (fun y33 => some (y33.fst, y33.snd.fst, ())) (fun y34 => some (y34.fst, (0 : Int), ())) y35
          else none
noncomputable def F35 : CF tC := mkF tC S35 f35
theorem f35_run : ∀ a, fnS tC G35 (look [(0, W35_0)]) Try.f35 S35 a = f35 a := fun a => by kernel_rfl
theorem F35_ok : CFOK tC 35 F35 := mkF_ok Y35 (fn := Try.f35) (body := bodyOf Try.f35) (by kernel_rfl) (by kernel_rfl) (by kernel_rfl) (m := 0) rfl (lam_le (lam_cons W35_0_ok lam_nil)) f35_run

/-! slices.Equal -/
noncomputable def G43 : FuncId → Option (CF tC) := look []
theorem Y43 : SysN tC G43 := (sys_nil tC_ok tC_eq)
noncomputable def c43_0 : Code := loopOf (bodyOf Try.f43) 0
def p43_0 : LS := ⟨0, [0, 1, 12, 13], ⟨[.one (.one (.imm 3)), .one (.one (.imm 3))] ++ vBs 10 ++ [vI, vI] ++ vBs 12, []⟩, [⟨.ret, [4], ⟨vBs 4 ++ [vO] ++ vBs 21, []⟩, []⟩, ⟨.exit 0, [], ⟨vBs 26, []⟩, []⟩], []⟩
noncomputable def r43_0 (x : List Int × List Int × Int × Int × Unit) : Option (List Int × List Int × Int × Int × Unit ⊕ Bool × Unit ⊕ Unit) :=
  bif decide (x.snd.snd.snd.fst < x.snd.snd.fst) then
  (idxO x.fst x.snd.snd.snd.fst).bind fun y11 =>
    (idxO x.snd.fst x.snd.snd.snd.fst).bind fun y10 =>
      bif y11 != y10 then some (Sum.inr (Sum.inl (false, ())))
      else some (Sum.inl (x.fst, x.snd.fst, x.snd.snd.fst, IntKind.i64.wrap (x.snd.snd.snd.fst + (1 : Int)), ()))
else some (Sum.inr (Sum.inr ()))
theorem r43_0_run0 (v0 : List Int) (v1 : List Int) (v2 : Int) (v3 : Int) : roundK tC G43 (look []) c43_0 p43_0 (v0, v1, v2, v3, ()) = r43_0 (v0, v1, v2, v3, ()) := by kernel_rfl
theorem r43_0_run (x : List Int × List Int × Int × Int × Unit) : roundK tC G43 (look []) c43_0 p43_0 x = r43_0 x := r43_0_run0 x.1 x.2.1 x.2.2.1 x.2.2.2.1
noncomputable def l43_0 (x : List Int × List Int × Int × Int × Unit) : Option (Bool × Unit ⊕ Unit) := iterO r43_0 x
noncomputable def W43_0 : LF tC := loopW tC p43_0 0 l43_0
theorem W43_0_ok : keyed 0 (bodyOf Try.f43) = [.block 0 (.loop c43_0)] ∧ ∀ n, n ≤ 0 → Snd tC n (.block 0 (.loop c43_0)) W43_0.k := ⟨by kernel_rfl, fun n hn => loopW_ok (p := p43_0) (id := 0) Y43 (lam_le lam_nil n hn) hn r43_0_run⟩
def S43 : FS := ⟨[[.s 3], [.s 3]], [⟨[.one (.one (.imm 3)), .one (.one (.imm 3))], []⟩], [⟨[vO], []⟩], [[.v]], []⟩
noncomputable def f43 (x : List Int × List Int × Unit) : Option (Bool × Unit) :=
  bif (↑x.fst.length : Int) != (↑x.snd.fst.length : Int) then some (false, ())
else
  (l43_0 (x.fst, x.snd.fst, (↑x.fst.length : Int), (0 : Int), ())).bind fun y16 =>
    Sum.elim (fun y14 => some (y14.fst, ())) (fun _x => some (true, ())) y16
noncomputable def F43 : CF tC := mkF tC S43 f43
theorem f43_run : ∀ a, fnS tC G43 (look [(0, W43_0)]) Try.f43 S43 a = f43 a := fun a => by kernel_rfl
theorem F43_ok : CFOK tC 43 F43 := mkF_ok Y43 (fn := Try.f43) (body := bodyOf Try.f43) (by kernel_rfl) (by kernel_rfl) (by kernel_rfl) (m := 0) rfl (lam_le (lam_cons W43_0_ok lam_nil)) f43_run

/-! path.Check -/
noncomputable def G28 : FuncId → Option (CF tC) := look [(17, F17), (43, F43)]
theorem Y28 : SysN tC G28 := (sys_cons F17_ok (mkF_nat _ _) (sys_cons F43_ok (mkF_nat _ _) (sys_nil tC_ok tC_eq)))
def S28 : FS := ⟨[[.v, .v, .s 5], [.v, .v], [.s 3]], [⟨[.one (.agg [.int .i64, .int .i64, .imm 5]), .one (.agg [.int .i64, .int .i64]), .one (.one (.imm 3))], []⟩], [⟨[vI], []⟩], [[.v]], []⟩
noncomputable def f28 (x : Int × Int × List Int × Int × Int × List Int × Unit) : Option (Int × Unit) :=
  (f17 (x.fst, x.snd.fst, x.snd.snd.fst, x.snd.snd.snd.fst, x.snd.snd.snd.snd.fst, ())).bind fun y13 =>
  bif y13.snd.fst != (0 : Int) then some (y13.snd.fst, ())
  else
    bif (↑x.snd.snd.snd.snd.snd.fst.length : Int) != (↑y13.fst : Int) then some ((3 : Int), ())
    else
      bif decide ((0 : Nat) + y13.fst ≤ y13.snd.snd.fst.length) then
        (f43 (x.snd.snd.snd.snd.snd.fst, List.take y13.fst (List.drop (0 : Nat) y13.snd.snd.fst), ())).bind fun y12 =>
          bif !y12.fst then some ((9 : Int), ()) else some ((0 : Int), ())
      else none
noncomputable def F28 : CF tC := mkF tC S28 f28
theorem f28_run : ∀ a, fnS tC G28 (look []) Try.f28 S28 a = f28 a := fun a => by kernel_rfl
theorem F28_ok : CFOK tC 28 F28 := mkF_ok Y28 (fn := Try.f28) (body := bodyOf Try.f28) (by kernel_rfl) (by kernel_rfl) (by kernel_rfl) (m := 0) rfl (lam_le lam_nil) f28_run

/-! path.Visible -/
noncomputable def G27 : FuncId → Option (CF tC) := look [(37, F37), (38, F38)]
theorem Y27 : SysN tC G27 := (sys_cons F37_ok (mkF_nat _ _) (sys_cons F38_ok (mkF_nat _ _) (sys_nil tC_ok tC_eq)))
noncomputable def c27_28 : Code := subCode (loopOf (loopOf (bodyOf Try.f27) 0) 2) 28
def p27_28 : PS := ⟨0, [3, 4, 5, 7, 8, 9, 10], ⟨[vB, vB, vB, .one (.one (.ptr 0 0 0)), .one (.one (.ptr 1 0 0)), .one (.one (.ptr 2 0 0)), vB, vI, vI, vI, vI] ++ vBs 91, [.box [.int .i64, .int .i64, .imm 5], .box [.int .i64, .int .i64], .box [.int .i64, .int .i64]]⟩, [⟨.normal, [3, 4, 5, 7, 8, 9, 10], ⟨[vB, vB, vB, .one (.one (.ptr 0 0 0)), .one (.one (.ptr 1 0 0)), .one (.one (.ptr 2 0 0)), vB, vI, vI, vI, vI] ++ vBs 91, [.box [.int .i64, .int .i64, .imm 5], .box [.int .i64, .int .i64], .box [.int .i64, .int .i64]]⟩, []⟩], []⟩
noncomputable def j27_28 (x : Int × Int × Int × Int × Int × Int × List Int × Int × Int × Int × Int × Unit) : Option (Int × Int × Int × Int × Int × Int × List Int × Int × Int × Int × Int × Unit) :=
  some
  (x.fst, x.snd.fst, x.snd.snd.fst, IntKind.i64.wrap (x.snd.snd.snd.fst + (1 : Int)), x.snd.snd.snd.snd.fst, x.snd.snd.snd.snd.snd.fst,
    x.snd.snd.snd.snd.snd.snd.fst, x.snd.snd.snd.snd.snd.snd.snd.fst, x.snd.snd.snd.snd.snd.snd.snd.snd.fst,
    x.snd.snd.snd.snd.snd.snd.snd.snd.snd.fst, x.snd.snd.snd.snd.snd.snd.snd.snd.snd.snd.fst, ())
theorem j27_28_run0 (v0 : Int) (v1 : Int) (v2 : Int) (v3 : Int) (v4 : Int) (v5 : Int) (v6 : List Int) (v7 : Int) (v8 : Int) (v9 : Int) (v10 : Int) : pieceK tC G27 (look []) c27_28 p27_28 (v0, v1, v2, v3, v4, v5, v6, v7, v8, v9, v10, ()) = j27_28 (v0, v1, v2, v3, v4, v5, v6, v7, v8, v9, v10, ()) := by kernel_rfl
theorem j27_28_run (x : Int × Int × Int × Int × Int × Int × List Int × Int × Int × Int × Int × Unit) : pieceK tC G27 (look []) c27_28 p27_28 x = j27_28 x := j27_28_run0 x.1 x.2.1 x.2.2.1 x.2.2.2.1 x.2.2.2.2.1 x.2.2.2.2.2.1 x.2.2.2.2.2.2.1 x.2.2.2.2.2.2.2.1 x.2.2.2.2.2.2.2.2.1 x.2.2.2.2.2.2.2.2.2.1 x.2.2.2.2.2.2.2.2.2.2.1
noncomputable def W27_28 : LF tC := cutLF tC p27_28 j27_28
theorem W27_28_ok : keyed 28 (loopOf (loopOf (bodyOf Try.f27) 0) 2) = [c27_28] ∧ ∀ n, n ≤ 0 → Snd tC n c27_28 W27_28.k := ⟨by kernel_rfl, fun n hn => cut_ok (p := p27_28) Y27 (lam_le lam_nil n hn) hn j27_28_run⟩
noncomputable def c27_6 : Code := loopOf (loopOf (bodyOf Try.f27) 0) 2
def p27_6 : LS := ⟨0, [3, 4, 5, 7, 8, 9, 10], ⟨[vB, vB, vB, .one (.one (.ptr 0 0 0)), .one (.one (.ptr 1 0 0)), .one (.one (.ptr 2 0 0)), vB, vI, vI, vI, vI] ++ vBs 91, [.box [.int .i64, .int .i64, .imm 5], .box [.int .i64, .int .i64], .box [.int .i64, .int .i64]]⟩, [⟨.ret, [6], ⟨vBs 6 ++ [vO] ++ vBs 95, []⟩, []⟩, ⟨.exit 2, [3, 4, 5, 7, 8, 9], ⟨[vB, vB, vB, .one (.one (.ptr 0 0 0)), .one (.one (.ptr 1 0 0)), .one (.one (.ptr 2 0 0)), vB, vI, vI, vI] ++ vBs 92, [.box [.int .i64, .int .i64, .imm 5], .box [.int .i64, .int .i64], .box [.int .i64, .int .i64]]⟩, []⟩], []⟩
noncomputable def r27_6 (x : Int × Int × Int × Int × Int × Int × List Int × Int × Int × Int × Int × Unit) : Option
  (Int × Int × Int × Int × Int × Int × List Int × Int × Int × Int × Int × Unit ⊕
    Bool × Unit ⊕ Int × Int × Int × Int × Int × List Int × Int × Int × Int × Int × Unit) :=
  bif
    decide
      (x.snd.snd.snd.fst ≤
        bif decide (x.snd.snd.snd.snd.snd.snd.snd.snd.snd.fst > x.snd.snd.snd.snd.snd.snd.snd.fst) then
          x.snd.snd.snd.snd.snd.snd.snd.snd.snd.fst
        else x.snd.snd.snd.snd.snd.snd.snd.fst) then
  bif
      decide
        ((bif
              decide
                (IntKind.i64.wrap
                    ((0 : Int) -
                      IntKind.i64.wrap
                        (IntKind.i64.wrap
                            (x.fst *
                              IntKind.i64.wrap ((2 : Int) * IntKind.i64.wrap (x.snd.snd.fst - x.snd.snd.snd.snd.snd.snd.snd.snd.fst))) -
                          IntKind.i64.wrap
                            (x.snd.fst *
                              IntKind.i64.wrap ((2 : Int) * IntKind.i64.wrap (x.snd.snd.snd.fst - x.snd.snd.snd.snd.snd.snd.snd.fst))))) >
                  IntKind.i64.wrap
                    (IntKind.i64.wrap
                        (x.fst * IntKind.i64.wrap ((2 : Int) * IntKind.i64.wrap (x.snd.snd.fst - x.snd.snd.snd.snd.snd.snd.snd.snd.fst))) -
                      IntKind.i64.wrap
                        (x.snd.fst *
                          IntKind.i64.wrap ((2 : Int) * IntKind.i64.wrap (x.snd.snd.snd.fst - x.snd.snd.snd.snd.snd.snd.snd.fst))))) then
            IntKind.i64.wrap
              ((0 : Int) -
                IntKind.i64.wrap
                  (IntKind.i64.wrap
                      (x.fst * IntKind.i64.wrap ((2 : Int) * IntKind.i64.wrap (x.snd.snd.fst - x.snd.snd.snd.snd.snd.snd.snd.snd.fst))) -
                    IntKind.i64.wrap
                      (x.snd.fst *
                        IntKind.i64.wrap ((2 : Int) * IntKind.i64.wrap (x.snd.snd.snd.fst - x.snd.snd.snd.snd.snd.snd.snd.fst)))))
          else
            IntKind.i64.wrap
              (IntKind.i64.wrap
                  (x.fst * IntKind.i64.wrap ((2 : Int) * IntKind.i64.wrap (x.snd.snd.fst - x.snd.snd.snd.snd.snd.snd.snd.snd.fst))) -
                IntKind.i64.wrap
                  (x.snd.fst * IntKind.i64.wrap ((2 : Int) * IntKind.i64.wrap (x.snd.snd.snd.fst - x.snd.snd.snd.snd.snd.snd.snd.fst))))) ≤
          IntKind.i64.wrap
            ((bif decide (IntKind.i64.wrap ((0 : Int) - x.fst) > x.fst) then IntKind.i64.wrap ((0 : Int) - x.fst) else x.fst) +
              bif decide (IntKind.i64.wrap ((0 : Int) - x.snd.fst) > x.snd.fst) then IntKind.i64.wrap ((0 : Int) - x.snd.fst)
              else x.snd.fst)) then
    (f38 (x.snd.snd.snd.snd.fst, x.snd.snd.snd.snd.snd.fst, x.snd.snd.snd.snd.snd.snd.fst, x.snd.snd.snd.fst, x.snd.snd.fst, ())).bind
      fun y89 =>
      bif !y89.fst then some (Sum.inr (Sum.inl (false, ())))
      else
        (j27_28
              (x.fst, x.snd.fst, x.snd.snd.fst, x.snd.snd.snd.fst, x.snd.snd.snd.snd.fst, x.snd.snd.snd.snd.snd.fst,
                x.snd.snd.snd.snd.snd.snd.fst, x.snd.snd.snd.snd.snd.snd.snd.fst, x.snd.snd.snd.snd.snd.snd.snd.snd.fst,
                x.snd.snd.snd.snd.snd.snd.snd.snd.snd.fst, x.snd.snd.snd.snd.snd.snd.snd.snd.snd.snd.fst, ())).bind
          fun y88 =>
          some
            (Sum.inl
              (y88.fst, y88.snd.fst, y88.snd.snd.fst, y88.snd.snd.snd.fst, y88.snd.snd.snd.snd.fst, y88.snd.snd.snd.snd.snd.fst,
                y88.snd.snd.snd.snd.snd.snd.fst, y88.snd.snd.snd.snd.snd.snd.snd.fst, y88.snd.snd.snd.snd.snd.snd.snd.snd.fst,
                y88.snd.snd.snd.snd.snd.snd.snd.snd.snd.fst, y88.snd.snd.snd.snd.snd.snd.snd.snd.snd.snd.fst, ()))
  else
    (j27_28
          (x.fst, x.snd.fst, x.snd.snd.fst, x.snd.snd.snd.fst, x.snd.snd.snd.snd.fst, x.snd.snd.snd.snd.snd.fst,
            x.snd.snd.snd.snd.snd.snd.fst, x.snd.snd.snd.snd.snd.snd.snd.fst, x.snd.snd.snd.snd.snd.snd.snd.snd.fst,
            x.snd.snd.snd.snd.snd.snd.snd.snd.snd.fst, x.snd.snd.snd.snd.snd.snd.snd.snd.snd.snd.fst, ())).bind
      fun y90 =>
      some
        (Sum.inl
          (y90.fst, y90.snd.fst, y90.snd.snd.fst, y90.snd.snd.snd.fst, y90.snd.snd.snd.snd.fst, y90.snd.snd.snd.snd.snd.fst,
            y90.snd.snd.snd.snd.snd.snd.fst, y90.snd.snd.snd.snd.snd.snd.snd.fst, y90.snd.snd.snd.snd.snd.snd.snd.snd.fst,
            y90.snd.snd.snd.snd.snd.snd.snd.snd.snd.fst, y90.snd.snd.snd.snd.snd.snd.snd.snd.snd.snd.fst, ()))
else
  some
    (Sum.inr
      (Sum.inr
        (x.fst, x.snd.fst, x.snd.snd.fst, x.snd.snd.snd.snd.fst, x.snd.snd.snd.snd.snd.fst, x.snd.snd.snd.snd.snd.snd.fst,
          x.snd.snd.snd.snd.snd.snd.snd.fst, x.snd.snd.snd.snd.snd.snd.snd.snd.fst, x.snd.snd.snd.snd.snd.snd.snd.snd.snd.fst,
          x.snd.snd.snd.snd.snd.snd.snd.snd.snd.snd.fst, ())))
theorem r27_6_run0 (v0 : Int) (v1 : Int) (v2 : Int) (v3 : Int) (v4 : Int) (v5 : Int) (v6 : List Int) (v7 : Int) (v8 : Int) (v9 : Int) (v10 : Int) : roundK tC G27 (look [(28, W27_28)]) c27_6 p27_6 (v0, v1, v2, v3, v4, v5, v6, v7, v8, v9, v10, ()) = r27_6 (v0, v1, v2, v3, v4, v5, v6, v7, v8, v9, v10, ()) := by kernel_rfl
theorem r27_6_run (x : Int × Int × Int × Int × Int × Int × List Int × Int × Int × Int × Int × Unit) : roundK tC G27 (look [(28, W27_28)]) c27_6 p27_6 x = r27_6 x := r27_6_run0 x.1 x.2.1 x.2.2.1 x.2.2.2.1 x.2.2.2.2.1 x.2.2.2.2.2.1 x.2.2.2.2.2.2.1 x.2.2.2.2.2.2.2.1 x.2.2.2.2.2.2.2.2.1 x.2.2.2.2.2.2.2.2.2.1 x.2.2.2.2.2.2.2.2.2.2.1
noncomputable def l27_6 (x : Int × Int × Int × Int × Int × Int × List Int × Int × Int × Int × Int × Unit) : Option (Bool × Unit ⊕ Int × Int × Int × Int × Int × List Int × Int × Int × Int × Int × Unit) := iterO r27_6 x
noncomputable def W27_6 : LF tC := loopW tC p27_6 2 l27_6
theorem W27_6_ok : keyed 6 (loopOf (bodyOf Try.f27) 0) = [.block 2 (.loop c27_6)] ∧ ∀ n, n ≤ 0 → Snd tC n (.block 2 (.loop c27_6)) W27_6.k := ⟨by kernel_rfl, fun n hn => loopW_ok (p := p27_6) (id := 2) Y27 (lam_le (lam_cons W27_28_ok lam_nil) n hn) hn r27_6_run⟩
noncomputable def c27_0 : Code := loopOf (bodyOf Try.f27) 0
def p27_0 : LS := ⟨0, [3, 4, 5, 7, 8, 9], ⟨[vB, vB, vB, .one (.one (.ptr 0 0 0)), .one (.one (.ptr 1 0 0)), .one (.one (.ptr 2 0 0)), vB, vI, vI, vI] ++ vBs 92, [.box [.int .i64, .int .i64, .imm 5], .box [.int .i64, .int .i64], .box [.int .i64, .int .i64]]⟩, [⟨.ret, [6], ⟨vBs 6 ++ [vO] ++ vBs 95, []⟩, []⟩, ⟨.exit 0, [], ⟨vBs 102, []⟩, []⟩], []⟩
noncomputable def r27_0 (x : Int × Int × Int × Int × Int × List Int × Int × Int × Int × Int × Unit) : Option (Int × Int × Int × Int × Int × List Int × Int × Int × Int × Int × Unit ⊕ Bool × Unit ⊕ Unit) :=
  bif
    decide
      (x.snd.snd.fst ≤
        bif decide (x.snd.snd.snd.snd.snd.snd.snd.snd.snd.fst > x.snd.snd.snd.snd.snd.snd.snd.fst) then
          x.snd.snd.snd.snd.snd.snd.snd.snd.snd.fst
        else x.snd.snd.snd.snd.snd.snd.snd.fst) then
  (l27_6
        (x.fst, x.snd.fst, x.snd.snd.fst,
          bif decide (x.snd.snd.snd.snd.snd.snd.snd.snd.fst < x.snd.snd.snd.snd.snd.snd.fst) then x.snd.snd.snd.snd.snd.snd.snd.snd.fst
          else x.snd.snd.snd.snd.snd.snd.fst,
          x.snd.snd.snd.fst, x.snd.snd.snd.snd.fst, x.snd.snd.snd.snd.snd.fst, x.snd.snd.snd.snd.snd.snd.fst,
          x.snd.snd.snd.snd.snd.snd.snd.fst, x.snd.snd.snd.snd.snd.snd.snd.snd.fst, x.snd.snd.snd.snd.snd.snd.snd.snd.snd.fst, ())).bind
    fun y105 =>
    Sum.elim (fun y103 => some (Sum.inr (Sum.inl (y103.fst, ()))))
      (fun y104 =>
        some
          (Sum.inl
            (y104.fst, y104.snd.fst, IntKind.i64.wrap (y104.snd.snd.fst + (1 : Int)), y104.snd.snd.snd.fst, y104.snd.snd.snd.snd.fst,
              y104.snd.snd.snd.snd.snd.fst, y104.snd.snd.snd.snd.snd.snd.fst, y104.snd.snd.snd.snd.snd.snd.snd.fst,
              y104.snd.snd.snd.snd.snd.snd.snd.snd.fst, y104.snd.snd.snd.snd.snd.snd.snd.snd.snd.fst, ())))
      y105
else some (Sum.inr (Sum.inr ()))
theorem r27_0_run0 (v0 : Int) (v1 : Int) (v2 : Int) (v3 : Int) (v4 : Int) (v5 : List Int) (v6 : Int) (v7 : Int) (v8 : Int) (v9 : Int) : roundK tC G27 (look [(6, W27_6)]) c27_0 p27_0 (v0, v1, v2, v3, v4, v5, v6, v7, v8, v9, ()) = r27_0 (v0, v1, v2, v3, v4, v5, v6, v7, v8, v9, ()) := by kernel_rfl
theorem r27_0_run (x : Int × Int × Int × Int × Int × List Int × Int × Int × Int × Int × Unit) : roundK tC G27 (look [(6, W27_6)]) c27_0 p27_0 x = r27_0 x := r27_0_run0 x.1 x.2.1 x.2.2.1 x.2.2.2.1 x.2.2.2.2.1 x.2.2.2.2.2.1 x.2.2.2.2.2.2.1 x.2.2.2.2.2.2.2.1 x.2.2.2.2.2.2.2.2.1 x.2.2.2.2.2.2.2.2.2.1
noncomputable def l27_0 (x : Int × Int × Int × Int × Int × List Int × Int × Int × Int × Int × Unit) : Option (Bool × Unit ⊕ Unit) := iterO r27_0 x
noncomputable def W27_0 : LF tC := loopW tC p27_0 0 l27_0
theorem W27_0_ok : keyed 0 (bodyOf Try.f27) = [.block 0 (.loop c27_0)] ∧ ∀ n, n ≤ 0 → Snd tC n (.block 0 (.loop c27_0)) W27_0.k := ⟨by kernel_rfl, fun n hn => loopW_ok (p := p27_0) (id := 0) Y27 (lam_le (lam_cons W27_6_ok lam_nil) n hn) hn r27_0_run⟩
def S27 : FS := ⟨[[.v, .v, .s 5], [.v, .v], [.v, .v]], [⟨[.one (.agg [.int .i64, .int .i64, .imm 5]), .one (.agg [.int .i64, .int .i64]), .one (.agg [.int .i64, .int .i64])], []⟩], [⟨[vO], []⟩], [[.v]], []⟩
noncomputable def f27 (x : Int × Int × List Int × Int × Int × Int × Int × Unit) : Option (Bool × Unit) :=
  (f37 (x.fst, x.snd.fst, x.snd.snd.fst, ())).bind fun y113 =>
  bif !y113.fst then some (false, ())
  else
    (f38 (x.fst, x.snd.fst, x.snd.snd.fst, x.snd.snd.snd.fst, x.snd.snd.snd.snd.fst, ())).bind fun y112 =>
      bif !y112.fst then some (false, ())
      else
        (f38 (x.fst, x.snd.fst, x.snd.snd.fst, x.snd.snd.snd.snd.snd.fst, x.snd.snd.snd.snd.snd.snd.fst, ())).bind fun y111 =>
          bif !y111.fst then some (false, ())
          else
            (l27_0
                  (IntKind.i64.wrap (x.snd.snd.snd.snd.snd.fst - x.snd.snd.snd.fst),
                    IntKind.i64.wrap (x.snd.snd.snd.snd.snd.snd.fst - x.snd.snd.snd.snd.fst),
                    bif decide (x.snd.snd.snd.snd.snd.snd.fst < x.snd.snd.snd.snd.fst) then x.snd.snd.snd.snd.snd.snd.fst
                    else x.snd.snd.snd.snd.fst,
                    x.fst, x.snd.fst, x.snd.snd.fst, x.snd.snd.snd.fst, x.snd.snd.snd.snd.fst, x.snd.snd.snd.snd.snd.fst,
                    x.snd.snd.snd.snd.snd.snd.fst, ())).bind
              fun y110 => Sum.elim (fun y108 => some (y108.fst, ())) (fun _x => some (true, ())) y110
noncomputable def F27 : CF tC := mkF tC S27 f27
theorem f27_run : ∀ a, fnS tC G27 (look [(0, W27_0)]) Try.f27 S27 a = f27 a := fun a => by kernel_rfl
theorem F27_ok : CFOK tC 27 F27 := mkF_ok Y27 (fn := Try.f27) (body := bodyOf Try.f27) (by kernel_rfl) (by kernel_rfl) (by kernel_rfl) (m := 0) rfl (lam_le (lam_cons W27_0_ok lam_nil)) f27_run

/-! base.Plan -/
noncomputable def G24 : FuncId → Option (CF tC) := look []
theorem Y24 : SysN tC G24 := (sys_nil tC_ok tC_eq)
noncomputable def c24_0 : Code := loopOf (bodyOf Try.f24) 0
def p24_0 : LS := ⟨0, [1, 3], ⟨[vB, .one (.one (.ptr 0 0 0)), vB, vI] ++ vBs 42, [.box [.int .i64, .int .i64, .imm 5]]⟩, [⟨.ret, [2], ⟨[vB, vB, vO] ++ vBs 43, []⟩, []⟩, ⟨.exit 0, [], ⟨vBs 46, []⟩, []⟩], []⟩
noncomputable def r24_0 (x : Int × Int × Int × List Int × Unit) : Option (Int × Int × Int × List Int × Unit ⊕ Bool × Unit ⊕ Unit) :=
  bif decide (x.fst < (↑x.snd.snd.snd.fst.length : Int)) then
  (idxO x.snd.snd.snd.fst x.fst).bind fun y10 =>
    bif decide (y10 > (2 : Int)) then some (Sum.inr (Sum.inl (false, ())))
    else some (Sum.inl (IntKind.i64.wrap (x.fst + (1 : Int)), x.snd.fst, x.snd.snd.fst, x.snd.snd.snd.fst, ()))
else some (Sum.inr (Sum.inr ()))
theorem r24_0_run0 (v0 : Int) (v1 : Int) (v2 : Int) (v3 : List Int) : roundK tC G24 (look []) c24_0 p24_0 (v0, v1, v2, v3, ()) = r24_0 (v0, v1, v2, v3, ()) := by kernel_rfl
theorem r24_0_run (x : Int × Int × Int × List Int × Unit) : roundK tC G24 (look []) c24_0 p24_0 x = r24_0 x := r24_0_run0 x.1 x.2.1 x.2.2.1 x.2.2.2.1
noncomputable def l24_0 (x : Int × Int × Int × List Int × Unit) : Option (Bool × Unit ⊕ Unit) := iterO r24_0 x
noncomputable def W24_0 : LF tC := loopW tC p24_0 0 l24_0
theorem W24_0_ok : keyed 0 (bodyOf Try.f24) = [.block 0 (.loop c24_0)] ∧ ∀ n, n ≤ 0 → Snd tC n (.block 0 (.loop c24_0)) W24_0.k := ⟨by kernel_rfl, fun n hn => loopW_ok (p := p24_0) (id := 0) Y24 (lam_le lam_nil n hn) hn r24_0_run⟩
def S24 : FS := ⟨[[.v, .v, .s 5]], [⟨[.one (.agg [.int .i64, .int .i64, .imm 5])], []⟩], [⟨[vO], []⟩], [[.v]], []⟩
noncomputable def f24 (x : Int × Int × List Int × Unit) : Option (Bool × Unit) :=
  bif decide (x.fst < (1 : Int)) then some (false, ())
else
  bif decide (x.fst > (64 : Int)) then some (false, ())
  else
    bif decide (x.snd.fst < (1 : Int)) then some (false, ())
    else
      bif decide (x.snd.fst > (64 : Int)) then some (false, ())
      else
        bif (↑x.snd.snd.fst.length : Int) != IntKind.i64.wrap (x.fst * x.snd.fst) then some (false, ())
        else
          (l24_0 ((0 : Int), x.fst, x.snd.fst, x.snd.snd.fst, ())).bind fun y15 =>
            Sum.elim (fun y13 => some (y13.fst, ())) (fun _x => some (true, ())) y15
noncomputable def F24 : CF tC := mkF tC S24 f24
theorem f24_run : ∀ a, fnS tC G24 (look [(0, W24_0)]) Try.f24 S24 a = f24 a := fun a => by kernel_rfl
theorem F24_ok : CFOK tC 24 F24 := mkF_ok Y24 (fn := Try.f24) (body := bodyOf Try.f24) (by kernel_rfl) (by kernel_rfl) (by kernel_rfl) (m := 0) rfl (lam_le (lam_cons W24_0_ok lam_nil)) f24_run

/-! base.Inside -/
noncomputable def G26 : FuncId → Option (CF tC) := look []
theorem Y26 : SysN tC G26 := (sys_nil tC_ok tC_eq)
def S26 : FS := ⟨[[.v, .v, .s 5], [.v, .v]], [⟨[.one (.agg [.int .i64, .int .i64, .imm 5]), .one (.agg [.int .i64, .int .i64])], []⟩], [⟨[vO], []⟩], [[.v]], []⟩
def f26 (n1 : Int) (n2 : Int) (_l3 : List Int) (n4 : Int) (n5 : Int) : Bool :=
  bif decide (n4 ≥ (0 : Int)) then bif decide (n4 < n1) then bif decide (n5 ≥ (0 : Int)) then decide (n5 < n2) else false else false
else false
noncomputable def F26 : CF tC := mkF tC S26 (fun a => some ((f26 a.1 a.2.1 a.2.2.1 a.2.2.2.1 a.2.2.2.2.1), ()))
def h26 (r : Bool) : Option (altTy tE S26.outs) := some (r, ())
theorem f26_run : ∀ a, fnS tC G26 (look []) Try.f26 S26 a = (fun a => some ((f26 a.1 a.2.1 a.2.2.1 a.2.2.2.1 a.2.2.2.2.1), ())) a := fun a => by
  have key : ∀ (n1 : Int) (n2 : Int) (l3 : List Int) (n4 : Int) (n5 : Int), (bif decide (n4 ≥ (0 : Int)) then
  bif decide (n4 < n1) then bif decide (n5 ≥ (0 : Int)) then h26 (decide (n5 < n2)) else h26 false else h26 false
else h26 false) = h26 (f26 n1 n2 l3 n4 n5) := by
    intros
    unfold f26
    repeat' first | rfl | refine cond_h (g := h26) ?_ ?_
  exact Eq.trans (by kernel_rfl) (key a.1 a.2.1 a.2.2.1 a.2.2.2.1 a.2.2.2.2.1)
theorem F26_ok : CFOK tC 26 F26 := mkF_ok Y26 (fn := Try.f26) (body := bodyOf Try.f26) (by kernel_rfl) (by kernel_rfl) (by kernel_rfl) (m := 0) rfl (lam_le lam_nil) f26_run

/-! base.At -/
noncomputable def G25 : FuncId → Option (CF tC) := look [(26, F26)]
theorem Y25 : SysN tC G25 := (sys_cons F26_ok (mkF_nat _ _) (sys_nil tC_ok tC_eq))
def S25 : FS := ⟨[[.v, .v, .s 5], [.v, .v]], [⟨[.one (.agg [.int .i64, .int .i64, .imm 5]), .one (.agg [.int .i64, .int .i64])], []⟩], [⟨[.one (.one (.int .u8))], []⟩], [[.v]], []⟩
noncomputable def f25 (x : Int × Int × List Int × Int × Int × Unit) : Option (Int × Unit) :=
  bif !f26 x.fst x.snd.fst x.snd.snd.fst x.snd.snd.snd.fst x.snd.snd.snd.snd.fst then some ((2 : Int), ())
else
  (idxO x.snd.snd.fst (IntKind.i64.wrap (IntKind.i64.wrap (x.snd.snd.snd.snd.fst * x.fst) + x.snd.snd.snd.fst))).bind fun y8 =>
    some (y8, ())
noncomputable def F25 : CF tC := mkF tC S25 f25
theorem f25_run : ∀ a, fnS tC G25 (look []) Try.f25 S25 a = f25 a := fun a => by kernel_rfl
theorem F25_ok : CFOK tC 25 F25 := mkF_ok Y25 (fn := Try.f25) (body := bodyOf Try.f25) (by kernel_rfl) (by kernel_rfl) (by kernel_rfl) (m := 0) rfl (lam_le lam_nil) f25_run

/-! base.Size -/
noncomputable def G45 : FuncId → Option (CF tC) := look []
theorem Y45 : SysN tC G45 := (sys_nil tC_ok tC_eq)
def S45 : FS := ⟨[[.v], [.v]], [⟨[vI, vI], []⟩], [⟨[vO], []⟩], [[.v]], []⟩
def f45 (n1 : Int) (n2 : Int) : Bool :=
  bif decide (n1 ≥ IntKind.i64.wrap ((0 : Int) - n2)) then decide (n1 ≤ n2) else false
noncomputable def F45 : CF tC := mkF tC S45 (fun a => some ((f45 a.1 a.2.1), ()))
def h45 (r : Bool) : Option (altTy tE S45.outs) := some (r, ())
theorem f45_run : ∀ a, fnS tC G45 (look []) Try.f45 S45 a = (fun a => some ((f45 a.1 a.2.1), ())) a := fun a => by
  have key : ∀ (n1 : Int) (n2 : Int), (bif decide (n1 ≥ IntKind.i64.wrap ((0 : Int) - n2)) then h45 (decide (n1 ≤ n2)) else h45 false) = h45 (f45 n1 n2) := by
    intros
    unfold f45
    repeat' first | rfl | refine cond_h (g := h45) ?_ ?_
  exact Eq.trans (by kernel_rfl) (key a.1 a.2.1)
theorem F45_ok : CFOK tC 45 F45 := mkF_ok Y45 (fn := Try.f45) (body := bodyOf Try.f45) (by kernel_rfl) (by kernel_rfl) (by kernel_rfl) (m := 0) rfl (lam_le lam_nil) f45_run

/-! base.Square -/
noncomputable def G55 : FuncId → Option (CF tC) := look []
theorem Y55 : SysN tC G55 := (sys_nil tC_ok tC_eq)
def S55 : FS := ⟨[[.v, .v]], [⟨[.one (.agg [.int .i64, .int .i64])], []⟩], [⟨[.one (.agg [.int .i64, .int .i64, .int .i64, .int .i64])], []⟩], [[.v, .v, .v, .v]], []⟩
def f55 (n1 : Int) (n2 : Int) : Int × Int × Int × Int :=
  (IntKind.i64.wrap (n1 * (64 : Int)), IntKind.i64.wrap (n2 * (64 : Int)), IntKind.i64.wrap (IntKind.i64.wrap (n1 * (64 : Int)) + (64 : Int)),
  IntKind.i64.wrap (IntKind.i64.wrap (n2 * (64 : Int)) + (64 : Int)))
noncomputable def F55 : CF tC := mkF tC S55 (fun a => some ((f55 a.1 a.2.1).1, (f55 a.1 a.2.1).2.1, (f55 a.1 a.2.1).2.2.1, (f55 a.1 a.2.1).2.2.2, ()))
def h55 (r : Int × Int × Int × Int) : Option (altTy tE S55.outs) := some (r.1, r.2.1, r.2.2.1, r.2.2.2, ())
theorem f55_run : ∀ a, fnS tC G55 (look []) Try.f55 S55 a = (fun a => some ((f55 a.1 a.2.1).1, (f55 a.1 a.2.1).2.1, (f55 a.1 a.2.1).2.2.1, (f55 a.1 a.2.1).2.2.2, ())) a := fun a => by
  have key : ∀ (n1 : Int) (n2 : Int), (h55
  (IntKind.i64.wrap (n1 * (64 : Int)), IntKind.i64.wrap (n2 * (64 : Int)),
    IntKind.i64.wrap (IntKind.i64.wrap (n1 * (64 : Int)) + (64 : Int)), IntKind.i64.wrap (IntKind.i64.wrap (n2 * (64 : Int)) + (64 : Int)))) = h55 (f55 n1 n2) := by
    intros
    unfold f55
    repeat' first | rfl | refine cond_h (g := h55) ?_ ?_
  exact Eq.trans (by kernel_rfl) (key a.1 a.2.1)
theorem F55_ok : CFOK tC 55 F55 := mkF_ok Y55 (fn := Try.f55) (body := bodyOf Try.f55) (by kernel_rfl) (by kernel_rfl) (by kernel_rfl) (m := 0) rfl (lam_le lam_nil) f55_run

/-! ref.side -/
noncomputable def G56 : FuncId → Option (CF tC) := look []
theorem Y56 : SysN tC G56 := (sys_nil tC_ok tC_eq)
def S56 : FS := ⟨[[.v, .v], [.v, .v], [.v, .v]], [⟨[.one (.agg [.int .i64, .int .i64]), .one (.agg [.int .i64, .int .i64]), .one (.agg [.int .i64, .int .i64])], []⟩], [⟨[vI], []⟩], [[.v]], []⟩
def f56 (n1 : Int) (n2 : Int) (n3 : Int) (n4 : Int) (n5 : Int) (n6 : Int) : Int :=
  bif
    decide
      (IntKind.i64.wrap
          (IntKind.i64.wrap (IntKind.i64.wrap (n3 - n1) * IntKind.i64.wrap (n6 - n2)) -
            IntKind.i64.wrap (IntKind.i64.wrap (n4 - n2) * IntKind.i64.wrap (n5 - n1))) >
        (0 : Int)) then
  (1 : Int)
else
  bif
      decide
        (IntKind.i64.wrap
            (IntKind.i64.wrap (IntKind.i64.wrap (n3 - n1) * IntKind.i64.wrap (n6 - n2)) -
              IntKind.i64.wrap (IntKind.i64.wrap (n4 - n2) * IntKind.i64.wrap (n5 - n1))) <
          (0 : Int)) then
    (-1 : Int)
  else (0 : Int)
noncomputable def F56 : CF tC := mkF tC S56 (fun a => some ((f56 a.1 a.2.1 a.2.2.1 a.2.2.2.1 a.2.2.2.2.1 a.2.2.2.2.2.1), ()))
def h56 (r : Int) : Option (altTy tE S56.outs) := some (r, ())
theorem f56_run : ∀ a, fnS tC G56 (look []) Try.f56 S56 a = (fun a => some ((f56 a.1 a.2.1 a.2.2.1 a.2.2.2.1 a.2.2.2.2.1 a.2.2.2.2.2.1), ())) a := fun a => by
  have key : ∀ (n1 : Int) (n2 : Int) (n3 : Int) (n4 : Int) (n5 : Int) (n6 : Int), (bif
    decide
      (IntKind.i64.wrap
          (IntKind.i64.wrap (IntKind.i64.wrap (n3 - n1) * IntKind.i64.wrap (n6 - n2)) -
            IntKind.i64.wrap (IntKind.i64.wrap (n4 - n2) * IntKind.i64.wrap (n5 - n1))) >
        (0 : Int)) then
  h56 (1 : Int)
else
  bif
      decide
        (IntKind.i64.wrap
            (IntKind.i64.wrap (IntKind.i64.wrap (n3 - n1) * IntKind.i64.wrap (n6 - n2)) -
              IntKind.i64.wrap (IntKind.i64.wrap (n4 - n2) * IntKind.i64.wrap (n5 - n1))) <
          (0 : Int)) then
    h56 (-1 : Int)
  else h56 (0 : Int)) = h56 (f56 n1 n2 n3 n4 n5 n6) := by
    intros
    unfold f56
    repeat' first | rfl | refine cond_h (g := h56) ?_ ?_
  exact Eq.trans (by kernel_rfl) (key a.1 a.2.1 a.2.2.1 a.2.2.2.1 a.2.2.2.2.1 a.2.2.2.2.2.1)
theorem F56_ok : CFOK tC 56 F56 := mkF_ok Y56 (fn := Try.f56) (body := bodyOf Try.f56) (by kernel_rfl) (by kernel_rfl) (by kernel_rfl) (m := 0) rfl (lam_le lam_nil) f56_run

/-! ref.meets -/
noncomputable def G46 : FuncId → Option (CF tC) := look [(55, F55), (56, F56)]
theorem Y46 : SysN tC G46 := (sys_cons F55_ok (mkF_nat _ _) (sys_cons F56_ok (mkF_nat _ _) (sys_nil tC_ok tC_eq)))
def S46 : FS := ⟨[[.v, .v], [.v, .v], [.v, .v]], [⟨[.one (.agg [.int .i64, .int .i64]), .one (.agg [.int .i64, .int .i64]), .one (.agg [.int .i64, .int .i64])], []⟩], [⟨[vO], []⟩], [[.v]], []⟩
def f46 (n1 : Int) (n2 : Int) (n3 : Int) (n4 : Int) (n5 : Int) (n6 : Int) : Bool :=
  bif decide ((bif decide (n3 > n1) then n3 else n1) < (f55 n5 n6).fst) then false
else
  bif decide ((bif decide (n3 < n1) then n3 else n1) > (f55 n5 n6).snd.snd.fst) then false
  else
    bif decide ((bif decide (n4 > n2) then n4 else n2) < (f55 n5 n6).snd.fst) then false
    else
      bif decide ((bif decide (n4 < n2) then n4 else n2) > (f55 n5 n6).snd.snd.snd) then false
      else
        bif
            decide
              ((bif
                    decide
                      (f56 n1 n2 n3 n4 (f55 n5 n6).snd.snd.fst (f55 n5 n6).snd.snd.snd <
                        bif
                            decide
                              (f56 n1 n2 n3 n4 (f55 n5 n6).fst (f55 n5 n6).snd.snd.snd <
                                bif
                                    decide
                                      (f56 n1 n2 n3 n4 (f55 n5 n6).snd.snd.fst (f55 n5 n6).snd.fst <
                                        f56 n1 n2 n3 n4 (f55 n5 n6).fst (f55 n5 n6).snd.fst) then
                                  f56 n1 n2 n3 n4 (f55 n5 n6).snd.snd.fst (f55 n5 n6).snd.fst
                                else f56 n1 n2 n3 n4 (f55 n5 n6).fst (f55 n5 n6).snd.fst) then
                          f56 n1 n2 n3 n4 (f55 n5 n6).fst (f55 n5 n6).snd.snd.snd
                        else
                          bif
                              decide
                                (f56 n1 n2 n3 n4 (f55 n5 n6).snd.snd.fst (f55 n5 n6).snd.fst <
                                  f56 n1 n2 n3 n4 (f55 n5 n6).fst (f55 n5 n6).snd.fst) then
                            f56 n1 n2 n3 n4 (f55 n5 n6).snd.snd.fst (f55 n5 n6).snd.fst
                          else f56 n1 n2 n3 n4 (f55 n5 n6).fst (f55 n5 n6).snd.fst) then
                  f56 n1 n2 n3 n4 (f55 n5 n6).snd.snd.fst (f55 n5 n6).snd.snd.snd
                else
                  bif
                      decide
                        (f56 n1 n2 n3 n4 (f55 n5 n6).fst (f55 n5 n6).snd.snd.snd <
                          bif
                              decide
                                (f56 n1 n2 n3 n4 (f55 n5 n6).snd.snd.fst (f55 n5 n6).snd.fst <
                                  f56 n1 n2 n3 n4 (f55 n5 n6).fst (f55 n5 n6).snd.fst) then
                            f56 n1 n2 n3 n4 (f55 n5 n6).snd.snd.fst (f55 n5 n6).snd.fst
                          else f56 n1 n2 n3 n4 (f55 n5 n6).fst (f55 n5 n6).snd.fst) then
                    f56 n1 n2 n3 n4 (f55 n5 n6).fst (f55 n5 n6).snd.snd.snd
                  else
                    bif
                        decide
                          (f56 n1 n2 n3 n4 (f55 n5 n6).snd.snd.fst (f55 n5 n6).snd.fst <
                            f56 n1 n2 n3 n4 (f55 n5 n6).fst (f55 n5 n6).snd.fst) then
                      f56 n1 n2 n3 n4 (f55 n5 n6).snd.snd.fst (f55 n5 n6).snd.fst
                    else f56 n1 n2 n3 n4 (f55 n5 n6).fst (f55 n5 n6).snd.fst) ≤
                (0 : Int)) then
          decide
            ((bif
                  decide
                    (f56 n1 n2 n3 n4 (f55 n5 n6).snd.snd.fst (f55 n5 n6).snd.snd.snd >
                      bif
                          decide
                            (f56 n1 n2 n3 n4 (f55 n5 n6).fst (f55 n5 n6).snd.snd.snd >
                              bif
                                  decide
                                    (f56 n1 n2 n3 n4 (f55 n5 n6).snd.snd.fst (f55 n5 n6).snd.fst >
                                      f56 n1 n2 n3 n4 (f55 n5 n6).fst (f55 n5 n6).snd.fst) then
                                f56 n1 n2 n3 n4 (f55 n5 n6).snd.snd.fst (f55 n5 n6).snd.fst
                              else f56 n1 n2 n3 n4 (f55 n5 n6).fst (f55 n5 n6).snd.fst) then
                        f56 n1 n2 n3 n4 (f55 n5 n6).fst (f55 n5 n6).snd.snd.snd
                      else
                        bif
                            decide
                              (f56 n1 n2 n3 n4 (f55 n5 n6).snd.snd.fst (f55 n5 n6).snd.fst >
                                f56 n1 n2 n3 n4 (f55 n5 n6).fst (f55 n5 n6).snd.fst) then
                          f56 n1 n2 n3 n4 (f55 n5 n6).snd.snd.fst (f55 n5 n6).snd.fst
                        else f56 n1 n2 n3 n4 (f55 n5 n6).fst (f55 n5 n6).snd.fst) then
                f56 n1 n2 n3 n4 (f55 n5 n6).snd.snd.fst (f55 n5 n6).snd.snd.snd
              else
                bif
                    decide
                      (f56 n1 n2 n3 n4 (f55 n5 n6).fst (f55 n5 n6).snd.snd.snd >
                        bif
                            decide
                              (f56 n1 n2 n3 n4 (f55 n5 n6).snd.snd.fst (f55 n5 n6).snd.fst >
                                f56 n1 n2 n3 n4 (f55 n5 n6).fst (f55 n5 n6).snd.fst) then
                          f56 n1 n2 n3 n4 (f55 n5 n6).snd.snd.fst (f55 n5 n6).snd.fst
                        else f56 n1 n2 n3 n4 (f55 n5 n6).fst (f55 n5 n6).snd.fst) then
                  f56 n1 n2 n3 n4 (f55 n5 n6).fst (f55 n5 n6).snd.snd.snd
                else
                  bif
                      decide
                        (f56 n1 n2 n3 n4 (f55 n5 n6).snd.snd.fst (f55 n5 n6).snd.fst >
                          f56 n1 n2 n3 n4 (f55 n5 n6).fst (f55 n5 n6).snd.fst) then
                    f56 n1 n2 n3 n4 (f55 n5 n6).snd.snd.fst (f55 n5 n6).snd.fst
                  else f56 n1 n2 n3 n4 (f55 n5 n6).fst (f55 n5 n6).snd.fst) ≥
              (0 : Int))
        else false
noncomputable def F46 : CF tC := mkF tC S46 (fun a => some ((f46 a.1 a.2.1 a.2.2.1 a.2.2.2.1 a.2.2.2.2.1 a.2.2.2.2.2.1), ()))
def h46 (r : Bool) : Option (altTy tE S46.outs) := some (r, ())
theorem f46_run : ∀ a, fnS tC G46 (look []) Try.f46 S46 a = (fun a => some ((f46 a.1 a.2.1 a.2.2.1 a.2.2.2.1 a.2.2.2.2.1 a.2.2.2.2.2.1), ())) a := fun a => by
  have key : ∀ (n1 : Int) (n2 : Int) (n3 : Int) (n4 : Int) (n5 : Int) (n6 : Int), (bif decide ((bif decide (n3 > n1) then n3 else n1) < (f55 n5 n6).fst) then h46 false
else
  bif decide ((bif decide (n3 < n1) then n3 else n1) > (f55 n5 n6).snd.snd.fst) then h46 false
  else
    bif decide ((bif decide (n4 > n2) then n4 else n2) < (f55 n5 n6).snd.fst) then h46 false
    else
      bif decide ((bif decide (n4 < n2) then n4 else n2) > (f55 n5 n6).snd.snd.snd) then h46 false
      else
        bif
            decide
              ((bif
                    decide
                      (f56 n1 n2 n3 n4 (f55 n5 n6).snd.snd.fst (f55 n5 n6).snd.snd.snd <
                        bif
                            decide
                              (f56 n1 n2 n3 n4 (f55 n5 n6).fst (f55 n5 n6).snd.snd.snd <
                                bif
                                    decide
                                      (f56 n1 n2 n3 n4 (f55 n5 n6).snd.snd.fst (f55 n5 n6).snd.fst <
                                        f56 n1 n2 n3 n4 (f55 n5 n6).fst (f55 n5 n6).snd.fst) then
                                  f56 n1 n2 n3 n4 (f55 n5 n6).snd.snd.fst (f55 n5 n6).snd.fst
                                else f56 n1 n2 n3 n4 (f55 n5 n6).fst (f55 n5 n6).snd.fst) then
                          f56 n1 n2 n3 n4 (f55 n5 n6).fst (f55 n5 n6).snd.snd.snd
                        else
                          bif
                              decide
                                (f56 n1 n2 n3 n4 (f55 n5 n6).snd.snd.fst (f55 n5 n6).snd.fst <
                                  f56 n1 n2 n3 n4 (f55 n5 n6).fst (f55 n5 n6).snd.fst) then
                            f56 n1 n2 n3 n4 (f55 n5 n6).snd.snd.fst (f55 n5 n6).snd.fst
                          else f56 n1 n2 n3 n4 (f55 n5 n6).fst (f55 n5 n6).snd.fst) then
                  f56 n1 n2 n3 n4 (f55 n5 n6).snd.snd.fst (f55 n5 n6).snd.snd.snd
                else
                  bif
                      decide
                        (f56 n1 n2 n3 n4 (f55 n5 n6).fst (f55 n5 n6).snd.snd.snd <
                          bif
                              decide
                                (f56 n1 n2 n3 n4 (f55 n5 n6).snd.snd.fst (f55 n5 n6).snd.fst <
                                  f56 n1 n2 n3 n4 (f55 n5 n6).fst (f55 n5 n6).snd.fst) then
                            f56 n1 n2 n3 n4 (f55 n5 n6).snd.snd.fst (f55 n5 n6).snd.fst
                          else f56 n1 n2 n3 n4 (f55 n5 n6).fst (f55 n5 n6).snd.fst) then
                    f56 n1 n2 n3 n4 (f55 n5 n6).fst (f55 n5 n6).snd.snd.snd
                  else
                    bif
                        decide
                          (f56 n1 n2 n3 n4 (f55 n5 n6).snd.snd.fst (f55 n5 n6).snd.fst <
                            f56 n1 n2 n3 n4 (f55 n5 n6).fst (f55 n5 n6).snd.fst) then
                      f56 n1 n2 n3 n4 (f55 n5 n6).snd.snd.fst (f55 n5 n6).snd.fst
                    else f56 n1 n2 n3 n4 (f55 n5 n6).fst (f55 n5 n6).snd.fst) ≤
                (0 : Int)) then
          h46
            (decide
              ((bif
                    decide
                      (f56 n1 n2 n3 n4 (f55 n5 n6).snd.snd.fst (f55 n5 n6).snd.snd.snd >
                        bif
                            decide
                              (f56 n1 n2 n3 n4 (f55 n5 n6).fst (f55 n5 n6).snd.snd.snd >
                                bif
                                    decide
                                      (f56 n1 n2 n3 n4 (f55 n5 n6).snd.snd.fst (f55 n5 n6).snd.fst >
                                        f56 n1 n2 n3 n4 (f55 n5 n6).fst (f55 n5 n6).snd.fst) then
                                  f56 n1 n2 n3 n4 (f55 n5 n6).snd.snd.fst (f55 n5 n6).snd.fst
                                else f56 n1 n2 n3 n4 (f55 n5 n6).fst (f55 n5 n6).snd.fst) then
                          f56 n1 n2 n3 n4 (f55 n5 n6).fst (f55 n5 n6).snd.snd.snd
                        else
                          bif
                              decide
                                (f56 n1 n2 n3 n4 (f55 n5 n6).snd.snd.fst (f55 n5 n6).snd.fst >
                                  f56 n1 n2 n3 n4 (f55 n5 n6).fst (f55 n5 n6).snd.fst) then
                            f56 n1 n2 n3 n4 (f55 n5 n6).snd.snd.fst (f55 n5 n6).snd.fst
                          else f56 n1 n2 n3 n4 (f55 n5 n6).fst (f55 n5 n6).snd.fst) then
                  f56 n1 n2 n3 n4 (f55 n5 n6).snd.snd.fst (f55 n5 n6).snd.snd.snd
                else
                  bif
                      decide
                        (f56 n1 n2 n3 n4 (f55 n5 n6).fst (f55 n5 n6).snd.snd.snd >
                          bif
                              decide
                                (f56 n1 n2 n3 n4 (f55 n5 n6).snd.snd.fst (f55 n5 n6).snd.fst >
                                  f56 n1 n2 n3 n4 (f55 n5 n6).fst (f55 n5 n6).snd.fst) then
                            f56 n1 n2 n3 n4 (f55 n5 n6).snd.snd.fst (f55 n5 n6).snd.fst
                          else f56 n1 n2 n3 n4 (f55 n5 n6).fst (f55 n5 n6).snd.fst) then
                    f56 n1 n2 n3 n4 (f55 n5 n6).fst (f55 n5 n6).snd.snd.snd
                  else
                    bif
                        decide
                          (f56 n1 n2 n3 n4 (f55 n5 n6).snd.snd.fst (f55 n5 n6).snd.fst >
                            f56 n1 n2 n3 n4 (f55 n5 n6).fst (f55 n5 n6).snd.fst) then
                      f56 n1 n2 n3 n4 (f55 n5 n6).snd.snd.fst (f55 n5 n6).snd.fst
                    else f56 n1 n2 n3 n4 (f55 n5 n6).fst (f55 n5 n6).snd.fst) ≥
                (0 : Int)))
        else h46 false) = h46 (f46 n1 n2 n3 n4 n5 n6) := by
    intros
    unfold f46
    repeat' first | rfl | refine cond_h (g := h46) ?_ ?_
  exact Eq.trans (by kernel_rfl) (key a.1 a.2.1 a.2.2.1 a.2.2.2.1 a.2.2.2.2.1 a.2.2.2.2.2.1)
theorem F46_ok : CFOK tC 46 F46 := mkF_ok Y46 (fn := Try.f46) (body := bodyOf Try.f46) (by kernel_rfl) (by kernel_rfl) (by kernel_rfl) (m := 0) rfl (lam_le lam_nil) f46_run

/-! ref.Free -/
noncomputable def G40 : FuncId → Option (CF tC) := look [(25, F25)]
theorem Y40 : SysN tC G40 := (sys_cons F25_ok (mkF_nat _ _) (sys_nil tC_ok tC_eq))
def S40 : FS := ⟨[[.v, .v, .s 5], [.v, .v]], [⟨[.one (.agg [.int .i64, .int .i64, .imm 5]), .one (.agg [.int .i64, .int .i64])], []⟩], [⟨[vO], []⟩], [[.v]], []⟩
noncomputable def f40 (x : Int × Int × List Int × Int × Int × Unit) : Option (Bool × Unit) :=
  (f25 (x.fst, x.snd.fst, x.snd.snd.fst, x.snd.snd.snd.fst, x.snd.snd.snd.snd.fst, ())).bind fun y8 => some (y8.fst == (1 : Int), ())
noncomputable def F40 : CF tC := mkF tC S40 f40
theorem f40_run : ∀ a, fnS tC G40 (look []) Try.f40 S40 a = f40 a := fun a => by kernel_rfl
theorem F40_ok : CFOK tC 40 F40 := mkF_ok Y40 (fn := Try.f40) (body := bodyOf Try.f40) (by kernel_rfl) (by kernel_rfl) (by kernel_rfl) (m := 0) rfl (lam_le lam_nil) f40_run

/-! ref.Turns -/
noncomputable def G31 : FuncId → Option (CF tC) := look []
theorem Y31 : SysN tC G31 := (sys_nil tC_ok tC_eq)
def S31 : FS := ⟨[], [⟨[], []⟩], [⟨[.one (.one (.sl 0))], [.arr 26]⟩], [[.v]], [(0, 26)]⟩
def f31  : Nat × List Pt :=
  ((8 : Nat),
  [Pt.mk (1 : Int) (0 : Int), Pt.mk (1 : Int) (1 : Int), Pt.mk (0 : Int) (1 : Int), Pt.mk (-1 : Int) (1 : Int), Pt.mk (-1 : Int) (0 : Int),
    Pt.mk (-1 : Int) (-1 : Int), Pt.mk (0 : Int) (-1 : Int), Pt.mk (1 : Int) (-1 : Int)])
noncomputable def F31 : CF tC := mkF tC S31 (fun _ => some (f31.1, f31.2, ()))
theorem f31_run : ∀ a, fnS tC G31 (look []) Try.f31 S31 a = (fun _ => some (f31.1, f31.2, ())) a := fun a => by kernel_rfl
theorem F31_ok : CFOK tC 31 F31 := mkF_ok Y31 (fn := Try.f31) (body := bodyOf Try.f31) (by kernel_rfl) (by kernel_rfl) (by kernel_rfl) (m := 0) rfl (lam_le lam_nil) f31_run

/-! ref.Step -/
noncomputable def G33 : FuncId → Option (CF tC) := look [(40, F40), (45, F45)]
theorem Y33 : SysN tC G33 := (sys_cons F40_ok (mkF_nat _ _) (sys_cons F45_ok (mkF_nat _ _) (sys_nil tC_ok tC_eq)))
noncomputable def c33_31 : Code := subCode (bodyOf Try.f33) 31
def p33_31 : PS := ⟨0, [], ⟨vBs 74, []⟩, [⟨.ret, [6], ⟨vBs 6 ++ [vI] ++ vBs 67, []⟩, []⟩], []⟩
noncomputable def j33_31 (_x : Unit) : Option (Int × Unit) :=
  some ((-1 : Int), ())
theorem j33_31_run0  : pieceK tC G33 (look []) c33_31 p33_31 (()) = j33_31 (()) := by kernel_rfl
theorem j33_31_run (x : Unit) : pieceK tC G33 (look []) c33_31 p33_31 x = j33_31 x := j33_31_run0 
noncomputable def W33_31 : LF tC := cutLF tC p33_31 j33_31
theorem W33_31_ok : keyed 31 (bodyOf Try.f33) = [c33_31] ∧ ∀ n, n ≤ 0 → Snd tC n c33_31 W33_31.k := ⟨by kernel_rfl, fun n hn => cut_ok (p := p33_31) Y33 (lam_le lam_nil n hn) hn j33_31_run⟩
def S33 : FS := ⟨[[.v, .v, .s 5], [.v, .v], [.v, .v]], [⟨[.one (.agg [.int .i64, .int .i64, .imm 5]), .one (.agg [.int .i64, .int .i64]), .one (.agg [.int .i64, .int .i64])], []⟩], [⟨[vI], []⟩], [[.v]], []⟩
noncomputable def f33 (x : Int × Int × List Int × Int × Int × Int × Int × Unit) : Option (Int × Unit) :=
  (f40 (x.fst, x.snd.fst, x.snd.snd.fst, x.snd.snd.snd.fst, x.snd.snd.snd.snd.fst, ())).bind fun y29 =>
  bif !y29.fst then some ((-1 : Int), ())
  else
    (f40 (x.fst, x.snd.fst, x.snd.snd.fst, x.snd.snd.snd.snd.snd.fst, x.snd.snd.snd.snd.snd.snd.fst, ())).bind fun y28 =>
      bif !y28.fst then some ((-1 : Int), ())
      else
        bif IntKind.i64.wrap (x.snd.snd.snd.snd.snd.fst - x.snd.snd.snd.fst) == (0 : Int) then
          bif IntKind.i64.wrap (x.snd.snd.snd.snd.snd.snd.fst - x.snd.snd.snd.snd.fst) == (0 : Int) then some ((-1 : Int), ())
          else
            bif !f45 (IntKind.i64.wrap (x.snd.snd.snd.snd.snd.fst - x.snd.snd.snd.fst)) (1 : Int) then some ((-1 : Int), ())
            else
              bif !f45 (IntKind.i64.wrap (x.snd.snd.snd.snd.snd.snd.fst - x.snd.snd.snd.snd.fst)) (1 : Int) then some ((-1 : Int), ())
              else
                bif IntKind.i64.wrap (x.snd.snd.snd.snd.snd.fst - x.snd.snd.snd.fst) == (0 : Int) then some ((70 : Int), ())
                else
                  bif IntKind.i64.wrap (x.snd.snd.snd.snd.snd.snd.fst - x.snd.snd.snd.snd.fst) == (0 : Int) then some ((70 : Int), ())
                  else
                    (f40
                          (x.fst, x.snd.fst, x.snd.snd.fst,
                            IntKind.i64.wrap (x.snd.snd.snd.fst + IntKind.i64.wrap (x.snd.snd.snd.snd.snd.fst - x.snd.snd.snd.fst)),
                            x.snd.snd.snd.snd.fst, ())).bind
                      fun y23 =>
                      bif y23.fst then
                        (f40
                              (x.fst, x.snd.fst, x.snd.snd.fst, x.snd.snd.snd.fst,
                                IntKind.i64.wrap
                                  (x.snd.snd.snd.snd.fst + IntKind.i64.wrap (x.snd.snd.snd.snd.snd.snd.fst - x.snd.snd.snd.snd.fst)),
                                ())).bind
                          fun y21 => bif y21.fst then some ((99 : Int), ()) else (j33_31 ()).bind fun y20 => some (y20.fst, ())
                      else (j33_31 ()).bind fun y22 => some (y22.fst, ())
        else
          bif !f45 (IntKind.i64.wrap (x.snd.snd.snd.snd.snd.fst - x.snd.snd.snd.fst)) (1 : Int) then some ((-1 : Int), ())
          else
            bif !f45 (IntKind.i64.wrap (x.snd.snd.snd.snd.snd.snd.fst - x.snd.snd.snd.snd.fst)) (1 : Int) then some ((-1 : Int), ())
            else
              bif IntKind.i64.wrap (x.snd.snd.snd.snd.snd.fst - x.snd.snd.snd.fst) == (0 : Int) then some ((70 : Int), ())
              else
                bif IntKind.i64.wrap (x.snd.snd.snd.snd.snd.snd.fst - x.snd.snd.snd.snd.fst) == (0 : Int) then some ((70 : Int), ())
                else
                  (f40
                        (x.fst, x.snd.fst, x.snd.snd.fst,
                          IntKind.i64.wrap (x.snd.snd.snd.fst + IntKind.i64.wrap (x.snd.snd.snd.snd.snd.fst - x.snd.snd.snd.fst)),
                          x.snd.snd.snd.snd.fst, ())).bind
                    fun y27 =>
                    bif y27.fst then
                      (f40
                            (x.fst, x.snd.fst, x.snd.snd.fst, x.snd.snd.snd.fst,
                              IntKind.i64.wrap
                                (x.snd.snd.snd.snd.fst + IntKind.i64.wrap (x.snd.snd.snd.snd.snd.snd.fst - x.snd.snd.snd.snd.fst)),
                              ())).bind
                        fun y25 => bif y25.fst then some ((99 : Int), ()) else (j33_31 ()).bind fun y24 => some (y24.fst, ())
                    else (j33_31 ()).bind fun y26 => some (y26.fst, ())
noncomputable def F33 : CF tC := mkF tC S33 f33
theorem f33_run : ∀ a, fnS tC G33 (look [(31, W33_31)]) Try.f33 S33 a = f33 a := fun a => by kernel_rfl
theorem F33_ok : CFOK tC 33 F33 := mkF_ok Y33 (fn := Try.f33) (body := bodyOf Try.f33) (by kernel_rfl) (by kernel_rfl) (by kernel_rfl) (m := 0) rfl (lam_le (lam_cons W33_31_ok lam_nil)) f33_run

/-! ref.Costs -/
noncomputable def G18 : FuncId → Option (CF tC) := look [(24, F24), (40, F40), (31, F31), (33, F33)]
theorem Y18 : SysN tC G18 := (sys_cons F24_ok (mkF_nat _ _) (sys_cons F40_ok (mkF_nat _ _) (sys_cons F31_ok (mkF_nat _ _) (sys_cons F33_ok (mkF_nat _ _) (sys_nil tC_ok tC_eq)))))
noncomputable def c18_0 : Code := loopOf (bodyOf Try.f18) 0
def p18_0 : LS := ⟨0, [2, 3, 6, 7], ⟨[vB, vB, .one (.one (.ptr 0 0 0)), .one (.one (.ptr 1 0 0)), vB, vB, .one (.one (.sl 2)), vI] ++ vBs 124, [.box [.int .i64, .int .i64, .imm 5], .box [.int .i64, .int .i64], .arr 3]⟩, [⟨.exit 0, [2, 3, 6], ⟨[vB, vB, .one (.one (.ptr 0 0 0)), .one (.one (.ptr 1 0 0)), vB, vB, .one (.one (.sl 2))] ++ vBs 125, [.box [.int .i64, .int .i64, .imm 5], .box [.int .i64, .int .i64], .arr 3]⟩, []⟩], []⟩
noncomputable def r18_0 (x : Nat × Int × Int × Int × List Int × Int × Int × List Int × Unit) : Option (Nat × Int × Int × Int × List Int × Int × Int × List Int × Unit ⊕ Nat × Int × Int × List Int × Int × Int × List Int × Unit) :=
  bif decide (x.snd.fst < (↑x.fst : Int)) then
  bif decide ((0 : Int) ≤ x.snd.fst) && decide (x.snd.fst < (↑x.fst : Int)) then
    x.snd.snd.snd.snd.snd.snd.snd.fst[(0 : Nat) + x.snd.fst.toNat]?.bind fun _x =>
      some
        (Sum.inl
          (x.fst, IntKind.i64.wrap (x.snd.fst + (1 : Int)), x.snd.snd.fst, x.snd.snd.snd.fst, x.snd.snd.snd.snd.fst,
            x.snd.snd.snd.snd.snd.fst, x.snd.snd.snd.snd.snd.snd.fst,
            x.snd.snd.snd.snd.snd.snd.snd.fst.set ((0 : Nat) + x.snd.fst.toNat) (-1 : Int), ()))
  else none
else
  some
    (Sum.inr
      (x.fst, x.snd.snd.fst, x.snd.snd.snd.fst, x.snd.snd.snd.snd.fst, x.snd.snd.snd.snd.snd.fst, x.snd.snd.snd.snd.snd.snd.fst,
        x.snd.snd.snd.snd.snd.snd.snd.fst, ()))
theorem r18_0_run0 (v0 : Nat) (v1 : Int) (v2 : Int) (v3 : Int) (v4 : List Int) (v5 : Int) (v6 : Int) (v7 : List Int) : roundK tC G18 (look []) c18_0 p18_0 (v0, v1, v2, v3, v4, v5, v6, v7, ()) = r18_0 (v0, v1, v2, v3, v4, v5, v6, v7, ()) := by kernel_rfl
theorem r18_0_run (x : Nat × Int × Int × Int × List Int × Int × Int × List Int × Unit) : roundK tC G18 (look []) c18_0 p18_0 x = r18_0 x := r18_0_run0 x.1 x.2.1 x.2.2.1 x.2.2.2.1 x.2.2.2.2.1 x.2.2.2.2.2.1 x.2.2.2.2.2.2.1 x.2.2.2.2.2.2.2.1
noncomputable def l18_0 (x : Nat × Int × Int × Int × List Int × Int × Int × List Int × Unit) : Option (Nat × Int × Int × List Int × Int × Int × List Int × Unit) := iterO r18_0 x
noncomputable def W18_0 : LF tC := loopW tC p18_0 0 l18_0
theorem W18_0_ok : keyed 0 (bodyOf Try.f18) = [.block 0 (.loop c18_0)] ∧ ∀ n, n ≤ 0 → Snd tC n (.block 0 (.loop c18_0)) W18_0.k := ⟨by kernel_rfl, fun n hn => loopW_ok (p := p18_0) (id := 0) Y18 (lam_le lam_nil n hn) hn r18_0_run⟩
noncomputable def c18_79 : Code := subCode (loopOf (loopOf (bodyOf Try.f18) 2) 4) 79
def p18_79 : PS := ⟨0, [2, 6, 8, 9, 10, 11, 12], ⟨[vB, vB, .one (.one (.ptr 0 0 0)), vB, vB, vB, .one (.one (.sl 1)), vB, .one (.one (.sl 2)), .one (.one (.slw 3)), .one (.one (.ptr 4 0 0)), vI, .one (.one (.ptr 5 0 0))] ++ vBs 119, [.box [.int .i64, .int .i64, .imm 5], .arr 3, .arr 26, .arr 26, .box [.int .i64, .int .i64], .box [.int .i64, .int .i64]]⟩, [⟨.normal, [2, 6, 8, 9, 10, 11], ⟨[vB, vB, .one (.one (.ptr 0 0 0)), vB, vB, vB, .one (.one (.sl 1)), vB, .one (.one (.sl 2)), .one (.one (.sl 3)), .one (.one (.ptr 4 0 0)), vI] ++ vBs 120, [.box [.int .i64, .int .i64, .imm 5], .arr 3, .arr 26, .arr 26, .box [.int .i64, .int .i64]]⟩, []⟩], []⟩
noncomputable def j18_79 (x : Nat × Nat × Nat × Nat × Int × Int × Int × List Int × List Int × List Pt × List Pt × Int × Int × Int × Int × Unit) : Option (Nat × Nat × Nat × Int × Int × Int × List Int × List Int × List Pt × List Pt × Int × Int × Unit) :=
  bif decide (x.snd.snd.fst + x.snd.snd.snd.fst ≤ x.snd.snd.snd.snd.snd.snd.snd.snd.snd.snd.fst.length) then
  bif roomy (x.snd.snd.snd.fst + (1 : Nat)) (16 : Nat) then
    some
      (x.fst, x.snd.fst, x.snd.snd.snd.fst + (1 : Nat), x.snd.snd.snd.snd.fst, x.snd.snd.snd.snd.snd.fst, x.snd.snd.snd.snd.snd.snd.fst,
        x.snd.snd.snd.snd.snd.snd.snd.fst, x.snd.snd.snd.snd.snd.snd.snd.snd.fst, x.snd.snd.snd.snd.snd.snd.snd.snd.snd.fst,
        List.take x.snd.snd.snd.fst (List.drop x.snd.snd.fst x.snd.snd.snd.snd.snd.snd.snd.snd.snd.snd.fst) ++
          [Pt.mk x.snd.snd.snd.snd.snd.snd.snd.snd.snd.snd.snd.snd.snd.fst x.snd.snd.snd.snd.snd.snd.snd.snd.snd.snd.snd.snd.snd.snd.fst],
        x.snd.snd.snd.snd.snd.snd.snd.snd.snd.snd.snd.fst, x.snd.snd.snd.snd.snd.snd.snd.snd.snd.snd.snd.snd.fst, ())
  else none
else none
theorem j18_79_run0 (v0 : Nat) (v1 : Nat) (v2 : Nat) (v3 : Nat) (v4 : Int) (v5 : Int) (v6 : Int) (v7 : List Int) (v8 : List Int) (v9 : List Pt) (v10 : List Pt) (v11 : Int) (v12 : Int) (v13 : Int) (v14 : Int) : pieceK tC G18 (look []) c18_79 p18_79 (v0, v1, v2, v3, v4, v5, v6, v7, v8, v9, v10, v11, v12, v13, v14, ()) = j18_79 (v0, v1, v2, v3, v4, v5, v6, v7, v8, v9, v10, v11, v12, v13, v14, ()) := by kernel_rfl
theorem j18_79_run (x : Nat × Nat × Nat × Nat × Int × Int × Int × List Int × List Int × List Pt × List Pt × Int × Int × Int × Int × Unit) : pieceK tC G18 (look []) c18_79 p18_79 x = j18_79 x := j18_79_run0 x.1 x.2.1 x.2.2.1 x.2.2.2.1 x.2.2.2.2.1 x.2.2.2.2.2.1 x.2.2.2.2.2.2.1 x.2.2.2.2.2.2.2.1 x.2.2.2.2.2.2.2.2.1 x.2.2.2.2.2.2.2.2.2.1 x.2.2.2.2.2.2.2.2.2.2.1 x.2.2.2.2.2.2.2.2.2.2.2.1 x.2.2.2.2.2.2.2.2.2.2.2.2.1 x.2.2.2.2.2.2.2.2.2.2.2.2.2.1 x.2.2.2.2.2.2.2.2.2.2.2.2.2.2.1
noncomputable def W18_79 : LF tC := cutLF tC p18_79 j18_79
theorem W18_79_ok : keyed 79 (loopOf (loopOf (bodyOf Try.f18) 2) 4) = [c18_79] ∧ ∀ n, n ≤ 0 → Snd tC n c18_79 W18_79.k := ⟨by kernel_rfl, fun n hn => cut_ok (p := p18_79) Y18 (lam_le lam_nil n hn) hn j18_79_run⟩
noncomputable def c18_55 : Code := subCode (loopOf (loopOf (bodyOf Try.f18) 2) 4) 55
def p18_55 : PS := ⟨0, [2, 6, 8, 9, 10, 11], ⟨[vB, vB, .one (.one (.ptr 0 0 0)), vB, vB, vB, .one (.one (.sl 1)), vB, .one (.one (.sl 2)), .one (.one (.slw 3)), .one (.one (.ptr 4 0 0)), vI] ++ vBs 120, [.box [.int .i64, .int .i64, .imm 5], .arr 3, .arr 26, .arr 26, .box [.int .i64, .int .i64]]⟩, [⟨.normal, [2, 6, 8, 9, 10, 11], ⟨[vB, vB, .one (.one (.ptr 0 0 0)), vB, vB, vB, .one (.one (.sl 1)), vB, .one (.one (.sl 2)), .one (.one (.slw 3)), .one (.one (.ptr 4 0 0)), vI] ++ vBs 120, [.box [.int .i64, .int .i64, .imm 5], .arr 3, .arr 26, .arr 26, .box [.int .i64, .int .i64]]⟩, []⟩], []⟩
noncomputable def j18_55 (x : Nat × Nat × Nat × Nat × Int × Int × Int × List Int × List Int × List Pt × List Pt × Int × Int × Unit) : Option (Nat × Nat × Nat × Nat × Int × Int × Int × List Int × List Int × List Pt × List Pt × Int × Int × Unit) :=
  some
  (x.fst, x.snd.fst, x.snd.snd.fst, x.snd.snd.snd.fst, IntKind.i64.wrap (x.snd.snd.snd.snd.fst + (1 : Int)), x.snd.snd.snd.snd.snd.fst,
    x.snd.snd.snd.snd.snd.snd.fst, x.snd.snd.snd.snd.snd.snd.snd.fst, x.snd.snd.snd.snd.snd.snd.snd.snd.fst,
    x.snd.snd.snd.snd.snd.snd.snd.snd.snd.fst, x.snd.snd.snd.snd.snd.snd.snd.snd.snd.snd.fst,
    x.snd.snd.snd.snd.snd.snd.snd.snd.snd.snd.snd.fst, x.snd.snd.snd.snd.snd.snd.snd.snd.snd.snd.snd.snd.fst, ())
theorem j18_55_run0 (v0 : Nat) (v1 : Nat) (v2 : Nat) (v3 : Nat) (v4 : Int) (v5 : Int) (v6 : Int) (v7 : List Int) (v8 : List Int) (v9 : List Pt) (v10 : List Pt) (v11 : Int) (v12 : Int) : pieceK tC G18 (look []) c18_55 p18_55 (v0, v1, v2, v3, v4, v5, v6, v7, v8, v9, v10, v11, v12, ()) = j18_55 (v0, v1, v2, v3, v4, v5, v6, v7, v8, v9, v10, v11, v12, ()) := by kernel_rfl
theorem j18_55_run (x : Nat × Nat × Nat × Nat × Int × Int × Int × List Int × List Int × List Pt × List Pt × Int × Int × Unit) : pieceK tC G18 (look []) c18_55 p18_55 x = j18_55 x := j18_55_run0 x.1 x.2.1 x.2.2.1 x.2.2.2.1 x.2.2.2.2.1 x.2.2.2.2.2.1 x.2.2.2.2.2.2.1 x.2.2.2.2.2.2.2.1 x.2.2.2.2.2.2.2.2.1 x.2.2.2.2.2.2.2.2.2.1 x.2.2.2.2.2.2.2.2.2.2.1 x.2.2.2.2.2.2.2.2.2.2.2.1 x.2.2.2.2.2.2.2.2.2.2.2.2.1
noncomputable def W18_55 : LF tC := cutLF tC p18_55 j18_55
theorem W18_55_ok : keyed 55 (loopOf (loopOf (bodyOf Try.f18) 2) 4) = [c18_55] ∧ ∀ n, n ≤ 0 → Snd tC n c18_55 W18_55.k := ⟨by kernel_rfl, fun n hn => cut_ok (p := p18_55) Y18 (lam_le lam_nil n hn) hn j18_55_run⟩
noncomputable def c18_12 : Code := loopOf (loopOf (bodyOf Try.f18) 2) 4
def p18_12 : LS := ⟨0, [2, 6, 8, 9, 10, 11], ⟨[vB, vB, .one (.one (.ptr 0 0 0)), vB, vB, vB, .one (.one (.sl 1)), vB, .one (.one (.sl 2)), .one (.one (.slw 3)), .one (.one (.ptr 4 0 0)), vI] ++ vBs 120, [.box [.int .i64, .int .i64, .imm 5], .arr 3, .arr 26, .arr 26, .box [.int .i64, .int .i64]]⟩, [⟨.exit 4, [2, 6, 8, 9], ⟨[vB, vB, .one (.one (.ptr 0 0 0)), vB, vB, vB, .one (.one (.sl 1)), vB, .one (.one (.sl 2)), .one (.one (.slw 3))] ++ vBs 122, [.box [.int .i64, .int .i64, .imm 5], .arr 3, .arr 26, .arr 26]⟩, []⟩], []⟩
noncomputable def r18_12 (x : Nat × Nat × Nat × Nat × Int × Int × Int × List Int × List Int × List Pt × List Pt × Int × Int × Unit) : Option
  (Nat × Nat × Nat × Nat × Int × Int × Int × List Int × List Int × List Pt × List Pt × Int × Int × Unit ⊕
    Nat × Nat × Nat × Nat × Int × Int × List Int × List Int × List Pt × List Pt × Unit) :=
  bif decide (x.snd.snd.snd.snd.fst < (8 : Int)) then
  bif decide ((0 : Int) ≤ x.snd.snd.snd.snd.fst) && decide (x.snd.snd.snd.snd.fst < (↑x.snd.fst : Int)) then
    x.snd.snd.snd.snd.snd.snd.snd.snd.snd.fst[(0 : Nat) + x.snd.snd.snd.snd.fst.toNat]?.bind fun y407 =>
      bif decide ((0 : Int) ≤ x.snd.snd.snd.snd.fst) && decide (x.snd.snd.snd.snd.fst < (↑x.snd.fst : Int)) then
        x.snd.snd.snd.snd.snd.snd.snd.snd.snd.fst[(0 : Nat) + x.snd.snd.snd.snd.fst.toNat]?.bind fun y406 =>
          (f33
                (x.snd.snd.snd.snd.snd.fst, x.snd.snd.snd.snd.snd.snd.fst, x.snd.snd.snd.snd.snd.snd.snd.fst,
                  x.snd.snd.snd.snd.snd.snd.snd.snd.snd.snd.snd.fst, x.snd.snd.snd.snd.snd.snd.snd.snd.snd.snd.snd.snd.fst,
                  IntKind.i64.wrap (x.snd.snd.snd.snd.snd.snd.snd.snd.snd.snd.snd.fst + y407.X),
                  IntKind.i64.wrap (x.snd.snd.snd.snd.snd.snd.snd.snd.snd.snd.snd.snd.fst + y406.Y), ())).bind
            fun y405 =>
            bif decide (y405.fst < (0 : Int)) then
              (j18_55
                    (x.fst, x.snd.fst, x.snd.snd.fst, x.snd.snd.snd.fst, x.snd.snd.snd.snd.fst, x.snd.snd.snd.snd.snd.fst,
                      x.snd.snd.snd.snd.snd.snd.fst, x.snd.snd.snd.snd.snd.snd.snd.fst, x.snd.snd.snd.snd.snd.snd.snd.snd.fst,
                      x.snd.snd.snd.snd.snd.snd.snd.snd.snd.fst, x.snd.snd.snd.snd.snd.snd.snd.snd.snd.snd.fst,
                      x.snd.snd.snd.snd.snd.snd.snd.snd.snd.snd.snd.fst, x.snd.snd.snd.snd.snd.snd.snd.snd.snd.snd.snd.snd.fst, ())).bind
                fun y395 =>
                some
                  (Sum.inl
                    (y395.fst, y395.snd.fst, y395.snd.snd.fst, y395.snd.snd.snd.fst, y395.snd.snd.snd.snd.fst, y395.snd.snd.snd.snd.snd.fst,
                      y395.snd.snd.snd.snd.snd.snd.fst, y395.snd.snd.snd.snd.snd.snd.snd.fst, y395.snd.snd.snd.snd.snd.snd.snd.snd.fst,
                      y395.snd.snd.snd.snd.snd.snd.snd.snd.snd.fst, y395.snd.snd.snd.snd.snd.snd.snd.snd.snd.snd.fst,
                      y395.snd.snd.snd.snd.snd.snd.snd.snd.snd.snd.snd.fst, y395.snd.snd.snd.snd.snd.snd.snd.snd.snd.snd.snd.snd.fst, ()))
            else
              bif
                  decide
                      ((0 : Int) ≤
                        IntKind.i64.wrap
                          (IntKind.i64.wrap (x.snd.snd.snd.snd.snd.snd.snd.snd.snd.snd.snd.snd.fst * x.snd.snd.snd.snd.snd.fst) +
                            x.snd.snd.snd.snd.snd.snd.snd.snd.snd.snd.snd.fst)) &&
                    decide
                      (IntKind.i64.wrap
                          (IntKind.i64.wrap (x.snd.snd.snd.snd.snd.snd.snd.snd.snd.snd.snd.snd.fst * x.snd.snd.snd.snd.snd.fst) +
                            x.snd.snd.snd.snd.snd.snd.snd.snd.snd.snd.snd.fst) <
                        (↑x.fst : Int)) then
                x.snd.snd.snd.snd.snd.snd.snd.snd.fst[(0 : Nat) +
                        (IntKind.i64.wrap
                            (IntKind.i64.wrap (x.snd.snd.snd.snd.snd.snd.snd.snd.snd.snd.snd.snd.fst * x.snd.snd.snd.snd.snd.fst) +
                              x.snd.snd.snd.snd.snd.snd.snd.snd.snd.snd.snd.fst)).toNat]?.bind
                  fun y404 =>
                  bif
                      decide
                          ((0 : Int) ≤
                            IntKind.i64.wrap
                              (IntKind.i64.wrap
                                  (IntKind.i64.wrap (x.snd.snd.snd.snd.snd.snd.snd.snd.snd.snd.snd.snd.fst + y406.Y) *
                                    x.snd.snd.snd.snd.snd.fst) +
                                IntKind.i64.wrap (x.snd.snd.snd.snd.snd.snd.snd.snd.snd.snd.snd.fst + y407.X))) &&
                        decide
                          (IntKind.i64.wrap
                              (IntKind.i64.wrap
                                  (IntKind.i64.wrap (x.snd.snd.snd.snd.snd.snd.snd.snd.snd.snd.snd.snd.fst + y406.Y) *
                                    x.snd.snd.snd.snd.snd.fst) +
                                IntKind.i64.wrap (x.snd.snd.snd.snd.snd.snd.snd.snd.snd.snd.snd.fst + y407.X)) <
                            (↑x.fst : Int)) then
                    x.snd.snd.snd.snd.snd.snd.snd.snd.fst[(0 : Nat) +
                            (IntKind.i64.wrap
                                (IntKind.i64.wrap
                                    (IntKind.i64.wrap (x.snd.snd.snd.snd.snd.snd.snd.snd.snd.snd.snd.snd.fst + y406.Y) *
                                      x.snd.snd.snd.snd.snd.fst) +
                                  IntKind.i64.wrap (x.snd.snd.snd.snd.snd.snd.snd.snd.snd.snd.snd.fst + y407.X))).toNat]?.bind
                      fun y403 =>
                      bif decide (y403 < (0 : Int)) then
                        bif
                            decide
                                ((0 : Int) ≤
                                  IntKind.i64.wrap
                                    (IntKind.i64.wrap
                                        (IntKind.i64.wrap (x.snd.snd.snd.snd.snd.snd.snd.snd.snd.snd.snd.snd.fst + y406.Y) *
                                          x.snd.snd.snd.snd.snd.fst) +
                                      IntKind.i64.wrap (x.snd.snd.snd.snd.snd.snd.snd.snd.snd.snd.snd.fst + y407.X))) &&
                              decide
                                (IntKind.i64.wrap
                                    (IntKind.i64.wrap
                                        (IntKind.i64.wrap (x.snd.snd.snd.snd.snd.snd.snd.snd.snd.snd.snd.snd.fst + y406.Y) *
                                          x.snd.snd.snd.snd.snd.fst) +
                                      IntKind.i64.wrap (x.snd.snd.snd.snd.snd.snd.snd.snd.snd.snd.snd.fst + y407.X)) <
                                  (↑x.fst : Int)) then
                          x.snd.snd.snd.snd.snd.snd.snd.snd.fst[(0 : Nat) +
                                  (IntKind.i64.wrap
                                      (IntKind.i64.wrap
                                          (IntKind.i64.wrap (x.snd.snd.snd.snd.snd.snd.snd.snd.snd.snd.snd.snd.fst + y406.Y) *
                                            x.snd.snd.snd.snd.snd.fst) +
                                        IntKind.i64.wrap (x.snd.snd.snd.snd.snd.snd.snd.snd.snd.snd.snd.fst + y407.X))).toNat]?.bind
                            fun _x =>
                            (j18_79
                                  (x.fst, x.snd.fst, x.snd.snd.fst, x.snd.snd.snd.fst, x.snd.snd.snd.snd.fst, x.snd.snd.snd.snd.snd.fst,
                                    x.snd.snd.snd.snd.snd.snd.fst, x.snd.snd.snd.snd.snd.snd.snd.fst,
                                    x.snd.snd.snd.snd.snd.snd.snd.snd.fst.set
                                      ((0 : Nat) +
                                        (IntKind.i64.wrap
                                            (IntKind.i64.wrap
                                                (IntKind.i64.wrap (x.snd.snd.snd.snd.snd.snd.snd.snd.snd.snd.snd.snd.fst + y406.Y) *
                                                  x.snd.snd.snd.snd.snd.fst) +
                                              IntKind.i64.wrap (x.snd.snd.snd.snd.snd.snd.snd.snd.snd.snd.snd.fst + y407.X))).toNat)
                                      (IntKind.i64.wrap (y405.fst + y404)),
                                    x.snd.snd.snd.snd.snd.snd.snd.snd.snd.fst, x.snd.snd.snd.snd.snd.snd.snd.snd.snd.snd.fst,
                                    x.snd.snd.snd.snd.snd.snd.snd.snd.snd.snd.snd.fst,
                                    x.snd.snd.snd.snd.snd.snd.snd.snd.snd.snd.snd.snd.fst,
                                    IntKind.i64.wrap (x.snd.snd.snd.snd.snd.snd.snd.snd.snd.snd.snd.fst + y407.X),
                                    IntKind.i64.wrap (x.snd.snd.snd.snd.snd.snd.snd.snd.snd.snd.snd.snd.fst + y406.Y), ())).bind
                              fun y397 =>
                              (j18_55
                                    (y397.fst, y397.snd.fst, (0 : Nat), y397.snd.snd.fst, y397.snd.snd.snd.fst, y397.snd.snd.snd.snd.fst,
                                      y397.snd.snd.snd.snd.snd.fst, y397.snd.snd.snd.snd.snd.snd.fst, y397.snd.snd.snd.snd.snd.snd.snd.fst,
                                      y397.snd.snd.snd.snd.snd.snd.snd.snd.fst, y397.snd.snd.snd.snd.snd.snd.snd.snd.snd.fst,
                                      y397.snd.snd.snd.snd.snd.snd.snd.snd.snd.snd.fst,
                                      y397.snd.snd.snd.snd.snd.snd.snd.snd.snd.snd.snd.fst, ())).bind
                                fun y396 =>
                                some
                                  (Sum.inl
                                    (y396.fst, y396.snd.fst, y396.snd.snd.fst, y396.snd.snd.snd.fst, y396.snd.snd.snd.snd.fst,
                                      y396.snd.snd.snd.snd.snd.fst, y396.snd.snd.snd.snd.snd.snd.fst, y396.snd.snd.snd.snd.snd.snd.snd.fst,
                                      y396.snd.snd.snd.snd.snd.snd.snd.snd.fst, y396.snd.snd.snd.snd.snd.snd.snd.snd.snd.fst,
                                      y396.snd.snd.snd.snd.snd.snd.snd.snd.snd.snd.fst,
                                      y396.snd.snd.snd.snd.snd.snd.snd.snd.snd.snd.snd.fst,
                                      y396.snd.snd.snd.snd.snd.snd.snd.snd.snd.snd.snd.snd.fst, ()))
                        else none
                      else
                        bif decide (IntKind.i64.wrap (y405.fst + y404) < y403) then
                          bif
                              decide
                                  ((0 : Int) ≤
                                    IntKind.i64.wrap
                                      (IntKind.i64.wrap
                                          (IntKind.i64.wrap (x.snd.snd.snd.snd.snd.snd.snd.snd.snd.snd.snd.snd.fst + y406.Y) *
                                            x.snd.snd.snd.snd.snd.fst) +
                                        IntKind.i64.wrap (x.snd.snd.snd.snd.snd.snd.snd.snd.snd.snd.snd.fst + y407.X))) &&
                                decide
                                  (IntKind.i64.wrap
                                      (IntKind.i64.wrap
                                          (IntKind.i64.wrap (x.snd.snd.snd.snd.snd.snd.snd.snd.snd.snd.snd.snd.fst + y406.Y) *
                                            x.snd.snd.snd.snd.snd.fst) +
                                        IntKind.i64.wrap (x.snd.snd.snd.snd.snd.snd.snd.snd.snd.snd.snd.fst + y407.X)) <
                                    (↑x.fst : Int)) then
                            x.snd.snd.snd.snd.snd.snd.snd.snd.fst[(0 : Nat) +
                                    (IntKind.i64.wrap
                                        (IntKind.i64.wrap
                                            (IntKind.i64.wrap (x.snd.snd.snd.snd.snd.snd.snd.snd.snd.snd.snd.snd.fst + y406.Y) *
                                              x.snd.snd.snd.snd.snd.fst) +
                                          IntKind.i64.wrap (x.snd.snd.snd.snd.snd.snd.snd.snd.snd.snd.snd.fst + y407.X))).toNat]?.bind
                              fun _x =>
                              (j18_79
                                    (x.fst, x.snd.fst, x.snd.snd.fst, x.snd.snd.snd.fst, x.snd.snd.snd.snd.fst, x.snd.snd.snd.snd.snd.fst,
                                      x.snd.snd.snd.snd.snd.snd.fst, x.snd.snd.snd.snd.snd.snd.snd.fst,
                                      x.snd.snd.snd.snd.snd.snd.snd.snd.fst.set
                                        ((0 : Nat) +
                                          (IntKind.i64.wrap
                                              (IntKind.i64.wrap
                                                  (IntKind.i64.wrap (x.snd.snd.snd.snd.snd.snd.snd.snd.snd.snd.snd.snd.fst + y406.Y) *
                                                    x.snd.snd.snd.snd.snd.fst) +
                                                IntKind.i64.wrap (x.snd.snd.snd.snd.snd.snd.snd.snd.snd.snd.snd.fst + y407.X))).toNat)
                                        (IntKind.i64.wrap (y405.fst + y404)),
                                      x.snd.snd.snd.snd.snd.snd.snd.snd.snd.fst, x.snd.snd.snd.snd.snd.snd.snd.snd.snd.snd.fst,
                                      x.snd.snd.snd.snd.snd.snd.snd.snd.snd.snd.snd.fst,
                                      x.snd.snd.snd.snd.snd.snd.snd.snd.snd.snd.snd.snd.fst,
                                      IntKind.i64.wrap (x.snd.snd.snd.snd.snd.snd.snd.snd.snd.snd.snd.fst + y407.X),
                                      IntKind.i64.wrap (x.snd.snd.snd.snd.snd.snd.snd.snd.snd.snd.snd.snd.fst + y406.Y), ())).bind
                                fun y400 =>
                                (j18_55
                                      (y400.fst, y400.snd.fst, (0 : Nat), y400.snd.snd.fst, y400.snd.snd.snd.fst, y400.snd.snd.snd.snd.fst,
                                        y400.snd.snd.snd.snd.snd.fst, y400.snd.snd.snd.snd.snd.snd.fst,
                                        y400.snd.snd.snd.snd.snd.snd.snd.fst, y400.snd.snd.snd.snd.snd.snd.snd.snd.fst,
                                        y400.snd.snd.snd.snd.snd.snd.snd.snd.snd.fst, y400.snd.snd.snd.snd.snd.snd.snd.snd.snd.snd.fst,
                                        y400.snd.snd.snd.snd.snd.snd.snd.snd.snd.snd.snd.fst, ())).bind
                                  fun y399 =>
                                  some
                                    (Sum.inl
                                      (y399.fst, y399.snd.fst, y399.snd.snd.fst, y399.snd.snd.snd.fst, y399.snd.snd.snd.snd.fst,
                                        y399.snd.snd.snd.snd.snd.fst, y399.snd.snd.snd.snd.snd.snd.fst,
                                        y399.snd.snd.snd.snd.snd.snd.snd.fst, y399.snd.snd.snd.snd.snd.snd.snd.snd.fst,
                                        y399.snd.snd.snd.snd.snd.snd.snd.snd.snd.fst, y399.snd.snd.snd.snd.snd.snd.snd.snd.snd.snd.fst,
                                        y399.snd.snd.snd.snd.snd.snd.snd.snd.snd.snd.snd.fst,
                                        y399.snd.snd.snd.snd.snd.snd.snd.snd.snd.snd.snd.snd.fst, ()))
                          else none
                        else
                          (j18_55
                                (x.fst, x.snd.fst, x.snd.snd.fst, x.snd.snd.snd.fst, x.snd.snd.snd.snd.fst, x.snd.snd.snd.snd.snd.fst,
                                  x.snd.snd.snd.snd.snd.snd.fst, x.snd.snd.snd.snd.snd.snd.snd.fst, x.snd.snd.snd.snd.snd.snd.snd.snd.fst,
                                  x.snd.snd.snd.snd.snd.snd.snd.snd.snd.fst, x.snd.snd.snd.snd.snd.snd.snd.snd.snd.snd.fst,
                                  x.snd.snd.snd.snd.snd.snd.snd.snd.snd.snd.snd.fst, x.snd.snd.snd.snd.snd.snd.snd.snd.snd.snd.snd.snd.fst,
                                  ())).bind
                            fun y402 =>
                            some
                              (Sum.inl
                                (y402.fst, y402.snd.fst, y402.snd.snd.fst, y402.snd.snd.snd.fst, y402.snd.snd.snd.snd.fst,
                                  y402.snd.snd.snd.snd.snd.fst, y402.snd.snd.snd.snd.snd.snd.fst, y402.snd.snd.snd.snd.snd.snd.snd.fst,
                                  y402.snd.snd.snd.snd.snd.snd.snd.snd.fst, y402.snd.snd.snd.snd.snd.snd.snd.snd.snd.fst,
                                  y402.snd.snd.snd.snd.snd.snd.snd.snd.snd.snd.fst, y402.snd.snd.snd.snd.snd.snd.snd.snd.snd.snd.snd.fst,
                                  y402.snd.snd.snd.snd.snd.snd.snd.snd.snd.snd.snd.snd.fst, ()))
                  else none
              else none
      else none
  else none
else
  some
    (Sum.inr
      (x.fst, x.snd.fst, x.snd.snd.fst, x.snd.snd.snd.fst, x.snd.snd.snd.snd.snd.fst, x.snd.snd.snd.snd.snd.snd.fst,
        x.snd.snd.snd.snd.snd.snd.snd.fst, x.snd.snd.snd.snd.snd.snd.snd.snd.fst, x.snd.snd.snd.snd.snd.snd.snd.snd.snd.fst,
        x.snd.snd.snd.snd.snd.snd.snd.snd.snd.snd.fst, ()))
theorem r18_12_run0 (v0 : Nat) (v1 : Nat) (v2 : Nat) (v3 : Nat) (v4 : Int) (v5 : Int) (v6 : Int) (v7 : List Int) (v8 : List Int) (v9 : List Pt) (v10 : List Pt) (v11 : Int) (v12 : Int) : roundK tC G18 (look [(79, W18_79), (55, W18_55)]) c18_12 p18_12 (v0, v1, v2, v3, v4, v5, v6, v7, v8, v9, v10, v11, v12, ()) = r18_12 (v0, v1, v2, v3, v4, v5, v6, v7, v8, v9, v10, v11, v12, ()) := by kernel_rfl
theorem r18_12_run (x : Nat × Nat × Nat × Nat × Int × Int × Int × List Int × List Int × List Pt × List Pt × Int × Int × Unit) : roundK tC G18 (look [(79, W18_79), (55, W18_55)]) c18_12 p18_12 x = r18_12 x := r18_12_run0 x.1 x.2.1 x.2.2.1 x.2.2.2.1 x.2.2.2.2.1 x.2.2.2.2.2.1 x.2.2.2.2.2.2.1 x.2.2.2.2.2.2.2.1 x.2.2.2.2.2.2.2.2.1 x.2.2.2.2.2.2.2.2.2.1 x.2.2.2.2.2.2.2.2.2.2.1 x.2.2.2.2.2.2.2.2.2.2.2.1 x.2.2.2.2.2.2.2.2.2.2.2.2.1
noncomputable def l18_12 (x : Nat × Nat × Nat × Nat × Int × Int × Int × List Int × List Int × List Pt × List Pt × Int × Int × Unit) : Option (Nat × Nat × Nat × Nat × Int × Int × List Int × List Int × List Pt × List Pt × Unit) := iterO r18_12 x
noncomputable def W18_12 : LF tC := loopW tC p18_12 4 l18_12
theorem W18_12_ok : keyed 12 (loopOf (bodyOf Try.f18) 2) = [.block 4 (.loop c18_12)] ∧ ∀ n, n ≤ 0 → Snd tC n (.block 4 (.loop c18_12)) W18_12.k := ⟨by kernel_rfl, fun n hn => loopW_ok (p := p18_12) (id := 4) Y18 (lam_le (lam_cons W18_79_ok (lam_cons W18_55_ok lam_nil)) n hn) hn r18_12_run⟩
noncomputable def c18_6 : Code := loopOf (bodyOf Try.f18) 2
def p18_6 : LS := ⟨0, [2, 6, 8, 9], ⟨[vB, vB, .one (.one (.ptr 0 0 0)), vB, vB, vB, .one (.one (.sl 1)), vB, .one (.one (.sl 2)), .one (.one (.slw 3))] ++ vBs 122, [.box [.int .i64, .int .i64, .imm 5], .arr 3, .arr 26, .arr 26]⟩, [⟨.exit 2, [6], ⟨vBs 6 ++ [.one (.one (.sl 0))] ++ vBs 125, [.arr 3]⟩, []⟩], []⟩
noncomputable def r18_6 (x : Nat × Nat × Nat × Nat × Int × Int × List Int × List Int × List Pt × List Pt × Unit) : Option (Nat × Nat × Nat × Nat × Int × Int × List Int × List Int × List Pt × List Pt × Unit ⊕ Nat × List Int × Unit) :=
  bif decide ((↑x.snd.snd.snd.fst : Int) > (0 : Int)) then
  bif true && decide ((0 : Int) < (↑x.snd.snd.snd.fst : Int)) then
    x.snd.snd.snd.snd.snd.snd.snd.snd.snd.fst[x.snd.snd.fst + (0 : Nat)]?.bind fun y421 =>
      bif
          true && decide ((1 : Int) ≤ (↑x.snd.snd.snd.fst : Int)) && decide ((↑x.snd.snd.snd.fst : Int) ≤ (↑x.snd.snd.snd.fst : Int)) &&
            decide ((↑x.snd.snd.snd.fst : Int) ≤ (↑x.snd.snd.snd.fst : Int)) then
        (l18_12
              (x.fst, x.snd.fst, x.snd.snd.fst + (1 : Nat), (↑x.snd.snd.snd.fst : Int).toNat - (1 : Nat), (0 : Int), x.snd.snd.snd.snd.fst,
                x.snd.snd.snd.snd.snd.fst, x.snd.snd.snd.snd.snd.snd.fst, x.snd.snd.snd.snd.snd.snd.snd.fst,
                x.snd.snd.snd.snd.snd.snd.snd.snd.fst, x.snd.snd.snd.snd.snd.snd.snd.snd.snd.fst, y421.X, y421.Y, ())).bind
          fun y420 =>
          some
            (Sum.inl
              (y420.fst, y420.snd.fst, y420.snd.snd.fst, y420.snd.snd.snd.fst, y420.snd.snd.snd.snd.fst, y420.snd.snd.snd.snd.snd.fst,
                y420.snd.snd.snd.snd.snd.snd.fst, y420.snd.snd.snd.snd.snd.snd.snd.fst, y420.snd.snd.snd.snd.snd.snd.snd.snd.fst,
                y420.snd.snd.snd.snd.snd.snd.snd.snd.snd.fst, ()))
      else none
  else none
else some (Sum.inr (x.fst, x.snd.snd.snd.snd.snd.snd.snd.fst, ()))
theorem r18_6_run0 (v0 : Nat) (v1 : Nat) (v2 : Nat) (v3 : Nat) (v4 : Int) (v5 : Int) (v6 : List Int) (v7 : List Int) (v8 : List Pt) (v9 : List Pt) : roundK tC G18 (look [(12, W18_12)]) c18_6 p18_6 (v0, v1, v2, v3, v4, v5, v6, v7, v8, v9, ()) = r18_6 (v0, v1, v2, v3, v4, v5, v6, v7, v8, v9, ()) := by kernel_rfl
theorem r18_6_run (x : Nat × Nat × Nat × Nat × Int × Int × List Int × List Int × List Pt × List Pt × Unit) : roundK tC G18 (look [(12, W18_12)]) c18_6 p18_6 x = r18_6 x := r18_6_run0 x.1 x.2.1 x.2.2.1 x.2.2.2.1 x.2.2.2.2.1 x.2.2.2.2.2.1 x.2.2.2.2.2.2.1 x.2.2.2.2.2.2.2.1 x.2.2.2.2.2.2.2.2.1 x.2.2.2.2.2.2.2.2.2.1
noncomputable def l18_6 (x : Nat × Nat × Nat × Nat × Int × Int × List Int × List Int × List Pt × List Pt × Unit) : Option (Nat × List Int × Unit) := iterO r18_6 x
noncomputable def W18_6 : LF tC := loopW tC p18_6 2 l18_6
theorem W18_6_ok : keyed 6 (bodyOf Try.f18) = [.block 2 (.loop c18_6)] ∧ ∀ n, n ≤ 0 → Snd tC n (.block 2 (.loop c18_6)) W18_6.k := ⟨by kernel_rfl, fun n hn => loopW_ok (p := p18_6) (id := 2) Y18 (lam_le (lam_cons W18_12_ok lam_nil) n hn) hn r18_6_run⟩
def S18 : FS := ⟨[[.v, .v, .s 5], [.v, .v]], [⟨[.one (.agg [.int .i64, .int .i64, .imm 5]), .one (.agg [.int .i64, .int .i64])], []⟩], [⟨[.tup [.one (.sl 0), .one (.int .i64)]], [.arr 3]⟩], [[.v], [.v]], [(4, 3)]⟩
noncomputable def f18 (x : Int × Int × List Int × Int × Int × Unit) : Option (Nat × Int × List Int × Unit) :=
  (f24 (x.fst, x.snd.fst, x.snd.snd.fst, ())).bind fun y431 =>
  bif !y431.fst then some ((0 : Nat), (1 : Int), [], ())
  else
    (f40 (x.fst, x.snd.fst, x.snd.snd.fst, x.snd.snd.snd.fst, x.snd.snd.snd.snd.fst, ())).bind fun y430 =>
      bif !y430.fst then some ((0 : Nat), (7 : Int), [], ())
      else
        bif
            decide ((0 : Int) ≤ IntKind.i64.wrap (x.fst * x.snd.fst)) &&
                  decide (IntKind.i64.wrap (x.fst * x.snd.fst) ≤ IntKind.i64.wrap (x.fst * x.snd.fst)) &&
                decide (IntKind.i64.wrap (x.fst * x.snd.fst) * (8 : Int) ≤ (140737488355328 : Int)) &&
              decide (IntKind.i64.wrap (x.fst * x.snd.fst) ≤ (140737488355328 : Int)) then
          (l18_0
                ((IntKind.i64.wrap (x.fst * x.snd.fst)).toNat, (0 : Int), x.fst, x.snd.fst, x.snd.snd.fst, x.snd.snd.snd.fst,
                  x.snd.snd.snd.snd.fst, List.replicate (IntKind.i64.wrap (x.fst * x.snd.fst)).toNat (0 : Int), ())).bind
            fun y429 =>
            bif
                decide
                    ((0 : Int) ≤
                      IntKind.i64.wrap (IntKind.i64.wrap (y429.snd.snd.snd.snd.snd.fst * y429.snd.fst) + y429.snd.snd.snd.snd.fst)) &&
                  decide
                    (IntKind.i64.wrap (IntKind.i64.wrap (y429.snd.snd.snd.snd.snd.fst * y429.snd.fst) + y429.snd.snd.snd.snd.fst) <
                      (↑y429.fst : Int)) then
              y429.snd.snd.snd.snd.snd.snd.fst[(0 : Nat) +
                      (IntKind.i64.wrap
                          (IntKind.i64.wrap (y429.snd.snd.snd.snd.snd.fst * y429.snd.fst) + y429.snd.snd.snd.snd.fst)).toNat]?.bind
                fun _x =>
                (l18_6
                      (y429.fst, f31.fst, (0 : Nat), (1 : Nat), y429.snd.fst, y429.snd.snd.fst, y429.snd.snd.snd.fst,
                        y429.snd.snd.snd.snd.snd.snd.fst.set
                          ((0 : Nat) +
                            (IntKind.i64.wrap
                                (IntKind.i64.wrap (y429.snd.snd.snd.snd.snd.fst * y429.snd.fst) + y429.snd.snd.snd.snd.fst)).toNat)
                          (0 : Int),
                        f31.snd, [Pt.mk y429.snd.snd.snd.snd.fst y429.snd.snd.snd.snd.snd.fst], ())).bind
                  fun y427 => some (y427.fst, (0 : Int), y427.snd.fst, ())
            else none
        else none
noncomputable def F18 : CF tC := mkF tC S18 f18
theorem f18_run : ∀ a, fnS tC G18 (look [(0, W18_0), (6, W18_6)]) Try.f18 S18 a = f18 a := fun a => by kernel_rfl
theorem F18_ok : CFOK tC 18 F18 := mkF_ok Y18 (fn := Try.f18) (body := bodyOf Try.f18) (by kernel_rfl) (by kernel_rfl) (by kernel_rfl) (m := 0) rfl (lam_le (lam_cons W18_0_ok (lam_cons W18_6_ok lam_nil))) f18_run

/-! ref.Find -/
noncomputable def G22 : FuncId → Option (CF tC) := look [(24, F24), (40, F40), (18, F18), (31, F31), (33, F33)]
theorem Y22 : SysN tC G22 := (sys_cons F24_ok (mkF_nat _ _) (sys_cons F40_ok (mkF_nat _ _) (sys_cons F18_ok (mkF_nat _ _) (sys_cons F31_ok (mkF_nat _ _) (sys_cons F33_ok (mkF_nat _ _) (sys_nil tC_ok tC_eq))))))
noncomputable def c22_46 : Code := subCode (loopOf (loopOf (bodyOf Try.f22) 0) 2) 46
def p22_46 : PS := ⟨0, [3, 5, 9, 11, 12, 13, 14, 15], ⟨[vB, vB, vB, .one (.one (.ptr 0 0 0)), vB, .one (.one (.ptr 1 0 0)), vB, vB, vB, .one (.one (.sl 2)), vB, vI, .one (.one (.sl 3)), .one (.one (.sl 4)), .one (.one (.ptr 5 0 0)), vI] ++ vBs 103, [.box [.int .i64, .int .i64, .imm 5], .box [.int .i64, .int .i64], .arr 3, .arr 26, .arr 26, .box [.int .i64, .int .i64]]⟩, [⟨.normal, [3, 5, 9, 11, 12, 13, 14, 15], ⟨[vB, vB, vB, .one (.one (.ptr 0 0 0)), vB, .one (.one (.ptr 1 0 0)), vB, vB, vB, .one (.one (.sl 2)), vB, vI, .one (.one (.sl 3)), .one (.one (.sl 4)), .one (.one (.ptr 5 0 0)), vI] ++ vBs 103, [.box [.int .i64, .int .i64, .imm 5], .box [.int .i64, .int .i64], .arr 3, .arr 26, .arr 26, .box [.int .i64, .int .i64]]⟩, []⟩], []⟩
noncomputable def j22_46 (x : Nat × Int × Nat × Nat × Int × Int × Int × List Int × Int × Int × List Int × List Pt × List Pt × Int × Int × Unit) : Option (Nat × Int × Nat × Nat × Int × Int × Int × List Int × Int × Int × List Int × List Pt × List Pt × Int × Int × Unit) :=
  some
  (x.fst, x.snd.fst, x.snd.snd.fst, x.snd.snd.snd.fst, IntKind.i64.wrap (x.snd.snd.snd.snd.fst + (1 : Int)), x.snd.snd.snd.snd.snd.fst,
    x.snd.snd.snd.snd.snd.snd.fst, x.snd.snd.snd.snd.snd.snd.snd.fst, x.snd.snd.snd.snd.snd.snd.snd.snd.fst,
    x.snd.snd.snd.snd.snd.snd.snd.snd.snd.fst, x.snd.snd.snd.snd.snd.snd.snd.snd.snd.snd.fst,
    x.snd.snd.snd.snd.snd.snd.snd.snd.snd.snd.snd.fst, x.snd.snd.snd.snd.snd.snd.snd.snd.snd.snd.snd.snd.fst,
    x.snd.snd.snd.snd.snd.snd.snd.snd.snd.snd.snd.snd.snd.fst, x.snd.snd.snd.snd.snd.snd.snd.snd.snd.snd.snd.snd.snd.snd.fst, ())
theorem j22_46_run0 (v0 : Nat) (v1 : Int) (v2 : Nat) (v3 : Nat) (v4 : Int) (v5 : Int) (v6 : Int) (v7 : List Int) (v8 : Int) (v9 : Int) (v10 : List Int) (v11 : List Pt) (v12 : List Pt) (v13 : Int) (v14 : Int) : pieceK tC G22 (look []) c22_46 p22_46 (v0, v1, v2, v3, v4, v5, v6, v7, v8, v9, v10, v11, v12, v13, v14, ()) = j22_46 (v0, v1, v2, v3, v4, v5, v6, v7, v8, v9, v10, v11, v12, v13, v14, ()) := by kernel_rfl
theorem j22_46_run (x : Nat × Int × Nat × Nat × Int × Int × Int × List Int × Int × Int × List Int × List Pt × List Pt × Int × Int × Unit) : pieceK tC G22 (look []) c22_46 p22_46 x = j22_46 x := j22_46_run0 x.1 x.2.1 x.2.2.1 x.2.2.2.1 x.2.2.2.2.1 x.2.2.2.2.2.1 x.2.2.2.2.2.2.1 x.2.2.2.2.2.2.2.1 x.2.2.2.2.2.2.2.2.1 x.2.2.2.2.2.2.2.2.2.1 x.2.2.2.2.2.2.2.2.2.2.1 x.2.2.2.2.2.2.2.2.2.2.2.1 x.2.2.2.2.2.2.2.2.2.2.2.2.1 x.2.2.2.2.2.2.2.2.2.2.2.2.2.1 x.2.2.2.2.2.2.2.2.2.2.2.2.2.2.1
noncomputable def W22_46 : LF tC := cutLF tC p22_46 j22_46
theorem W22_46_ok : keyed 46 (loopOf (loopOf (bodyOf Try.f22) 0) 2) = [c22_46] ∧ ∀ n, n ≤ 0 → Snd tC n c22_46 W22_46.k := ⟨by kernel_rfl, fun n hn => cut_ok (p := p22_46) Y22 (lam_le lam_nil n hn) hn j22_46_run⟩
noncomputable def c22_6 : Code := loopOf (loopOf (bodyOf Try.f22) 0) 2
def p22_6 : LS := ⟨0, [3, 5, 9, 11, 12, 13, 14, 15], ⟨[vB, vB, vB, .one (.one (.ptr 0 0 0)), vB, .one (.one (.ptr 1 0 0)), vB, vB, vB, .one (.one (.sl 2)), vB, vI, .one (.one (.sl 3)), .one (.one (.sl 4)), .one (.one (.ptr 5 0 0)), vI] ++ vBs 103, [.box [.int .i64, .int .i64, .imm 5], .box [.int .i64, .int .i64], .arr 3, .arr 26, .arr 26, .box [.int .i64, .int .i64]]⟩, [⟨.exit 2, [3, 5, 9, 11, 12, 13, 14], ⟨[vB, vB, vB, .one (.one (.ptr 0 0 0)), vB, .one (.one (.ptr 1 0 0)), vB, vB, vB, .one (.one (.sl 2)), vB, vI, .one (.one (.sl 3)), .one (.one (.sl 4)), .one (.one (.ptr 5 0 0))] ++ vBs 104, [.box [.int .i64, .int .i64, .imm 5], .box [.int .i64, .int .i64], .arr 3, .arr 26, .arr 26, .box [.int .i64, .int .i64]]⟩, []⟩], []⟩
noncomputable def r22_6 (x : Nat × Int × Nat × Nat × Int × Int × Int × List Int × Int × Int × List Int × List Pt × List Pt × Int × Int × Unit) : Option
  (Nat × Int × Nat × Nat × Int × Int × Int × List Int × Int × Int × List Int × List Pt × List Pt × Int × Int × Unit ⊕
    Nat × Int × Nat × Nat × Int × Int × List Int × Int × Int × List Int × List Pt × List Pt × Int × Int × Unit) :=
  bif decide (x.snd.snd.snd.snd.fst < (8 : Int)) then
  bif decide ((0 : Int) ≤ x.snd.snd.snd.snd.fst) && decide (x.snd.snd.snd.snd.fst < (↑x.snd.snd.fst : Int)) then
    x.snd.snd.snd.snd.snd.snd.snd.snd.snd.snd.snd.fst[(0 : Nat) + x.snd.snd.snd.snd.fst.toNat]?.bind fun y129 =>
      bif decide ((0 : Int) ≤ x.snd.snd.snd.snd.fst) && decide (x.snd.snd.snd.snd.fst < (↑x.snd.snd.fst : Int)) then
        x.snd.snd.snd.snd.snd.snd.snd.snd.snd.snd.snd.fst[(0 : Nat) + x.snd.snd.snd.snd.fst.toNat]?.bind fun y128 =>
          (f33
                (x.snd.snd.snd.snd.snd.fst, x.snd.snd.snd.snd.snd.snd.fst, x.snd.snd.snd.snd.snd.snd.snd.fst,
                  x.snd.snd.snd.snd.snd.snd.snd.snd.snd.snd.snd.snd.snd.fst, x.snd.snd.snd.snd.snd.snd.snd.snd.snd.snd.snd.snd.snd.snd.fst,
                  IntKind.i64.wrap (x.snd.snd.snd.snd.snd.snd.snd.snd.snd.snd.snd.snd.snd.fst + y129.X),
                  IntKind.i64.wrap (x.snd.snd.snd.snd.snd.snd.snd.snd.snd.snd.snd.snd.snd.snd.fst + y128.Y), ())).bind
            fun y127 =>
            bif decide (y127.fst ≥ (0 : Int)) then
              bif
                  decide
                      ((0 : Int) ≤
                        IntKind.i64.wrap
                          (IntKind.i64.wrap
                              (IntKind.i64.wrap (x.snd.snd.snd.snd.snd.snd.snd.snd.snd.snd.snd.snd.snd.snd.fst + y128.Y) *
                                x.snd.snd.snd.snd.snd.fst) +
                            IntKind.i64.wrap (x.snd.snd.snd.snd.snd.snd.snd.snd.snd.snd.snd.snd.snd.fst + y129.X))) &&
                    decide
                      (IntKind.i64.wrap
                          (IntKind.i64.wrap
                              (IntKind.i64.wrap (x.snd.snd.snd.snd.snd.snd.snd.snd.snd.snd.snd.snd.snd.snd.fst + y128.Y) *
                                x.snd.snd.snd.snd.snd.fst) +
                            IntKind.i64.wrap (x.snd.snd.snd.snd.snd.snd.snd.snd.snd.snd.snd.snd.snd.fst + y129.X)) <
                        (↑x.fst : Int)) then
                x.snd.snd.snd.snd.snd.snd.snd.snd.snd.snd.fst[(0 : Nat) +
                        (IntKind.i64.wrap
                            (IntKind.i64.wrap
                                (IntKind.i64.wrap (x.snd.snd.snd.snd.snd.snd.snd.snd.snd.snd.snd.snd.snd.snd.fst + y128.Y) *
                                  x.snd.snd.snd.snd.snd.fst) +
                              IntKind.i64.wrap (x.snd.snd.snd.snd.snd.snd.snd.snd.snd.snd.snd.snd.snd.fst + y129.X))).toNat]?.bind
                  fun y125 =>
                  bif
                      decide
                          ((0 : Int) ≤
                            IntKind.i64.wrap
                              (IntKind.i64.wrap
                                  (x.snd.snd.snd.snd.snd.snd.snd.snd.snd.snd.snd.snd.snd.snd.fst * x.snd.snd.snd.snd.snd.fst) +
                                x.snd.snd.snd.snd.snd.snd.snd.snd.snd.snd.snd.snd.snd.fst)) &&
                        decide
                          (IntKind.i64.wrap
                              (IntKind.i64.wrap
                                  (x.snd.snd.snd.snd.snd.snd.snd.snd.snd.snd.snd.snd.snd.snd.fst * x.snd.snd.snd.snd.snd.fst) +
                                x.snd.snd.snd.snd.snd.snd.snd.snd.snd.snd.snd.snd.snd.fst) <
                            (↑x.fst : Int)) then
                    x.snd.snd.snd.snd.snd.snd.snd.snd.snd.snd.fst[(0 : Nat) +
                            (IntKind.i64.wrap
                                (IntKind.i64.wrap
                                    (x.snd.snd.snd.snd.snd.snd.snd.snd.snd.snd.snd.snd.snd.snd.fst * x.snd.snd.snd.snd.snd.fst) +
                                  x.snd.snd.snd.snd.snd.snd.snd.snd.snd.snd.snd.snd.snd.fst)).toNat]?.bind
                      fun y124 =>
                      bif IntKind.i64.wrap (y125 + y127.fst) == y124 then
                        some
                          (Sum.inr
                            (x.fst, x.snd.fst, x.snd.snd.fst, x.snd.snd.snd.fst, x.snd.snd.snd.snd.snd.fst, x.snd.snd.snd.snd.snd.snd.fst,
                              x.snd.snd.snd.snd.snd.snd.snd.fst, x.snd.snd.snd.snd.snd.snd.snd.snd.fst,
                              x.snd.snd.snd.snd.snd.snd.snd.snd.snd.fst, x.snd.snd.snd.snd.snd.snd.snd.snd.snd.snd.fst,
                              x.snd.snd.snd.snd.snd.snd.snd.snd.snd.snd.snd.fst, x.snd.snd.snd.snd.snd.snd.snd.snd.snd.snd.snd.snd.fst,
                              IntKind.i64.wrap (x.snd.snd.snd.snd.snd.snd.snd.snd.snd.snd.snd.snd.snd.fst + y129.X),
                              IntKind.i64.wrap (x.snd.snd.snd.snd.snd.snd.snd.snd.snd.snd.snd.snd.snd.snd.fst + y128.Y), ()))
                      else
                        (j22_46
                              (x.fst, x.snd.fst, x.snd.snd.fst, x.snd.snd.snd.fst, x.snd.snd.snd.snd.fst, x.snd.snd.snd.snd.snd.fst,
                                x.snd.snd.snd.snd.snd.snd.fst, x.snd.snd.snd.snd.snd.snd.snd.fst, x.snd.snd.snd.snd.snd.snd.snd.snd.fst,
                                x.snd.snd.snd.snd.snd.snd.snd.snd.snd.fst, x.snd.snd.snd.snd.snd.snd.snd.snd.snd.snd.fst,
                                x.snd.snd.snd.snd.snd.snd.snd.snd.snd.snd.snd.fst, x.snd.snd.snd.snd.snd.snd.snd.snd.snd.snd.snd.snd.fst,
                                x.snd.snd.snd.snd.snd.snd.snd.snd.snd.snd.snd.snd.snd.fst,
                                x.snd.snd.snd.snd.snd.snd.snd.snd.snd.snd.snd.snd.snd.snd.fst, ())).bind
                          fun y123 =>
                          some
                            (Sum.inl
                              (y123.fst, y123.snd.fst, y123.snd.snd.fst, y123.snd.snd.snd.fst, y123.snd.snd.snd.snd.fst,
                                y123.snd.snd.snd.snd.snd.fst, y123.snd.snd.snd.snd.snd.snd.fst, y123.snd.snd.snd.snd.snd.snd.snd.fst,
                                y123.snd.snd.snd.snd.snd.snd.snd.snd.fst, y123.snd.snd.snd.snd.snd.snd.snd.snd.snd.fst,
                                y123.snd.snd.snd.snd.snd.snd.snd.snd.snd.snd.fst, y123.snd.snd.snd.snd.snd.snd.snd.snd.snd.snd.snd.fst,
                                y123.snd.snd.snd.snd.snd.snd.snd.snd.snd.snd.snd.snd.fst,
                                y123.snd.snd.snd.snd.snd.snd.snd.snd.snd.snd.snd.snd.snd.fst,
                                y123.snd.snd.snd.snd.snd.snd.snd.snd.snd.snd.snd.snd.snd.snd.fst, ()))
                  else none
              else none
            else
              (j22_46
                    (x.fst, x.snd.fst, x.snd.snd.fst, x.snd.snd.snd.fst, x.snd.snd.snd.snd.fst, x.snd.snd.snd.snd.snd.fst,
                      x.snd.snd.snd.snd.snd.snd.fst, x.snd.snd.snd.snd.snd.snd.snd.fst, x.snd.snd.snd.snd.snd.snd.snd.snd.fst,
                      x.snd.snd.snd.snd.snd.snd.snd.snd.snd.fst, x.snd.snd.snd.snd.snd.snd.snd.snd.snd.snd.fst,
                      x.snd.snd.snd.snd.snd.snd.snd.snd.snd.snd.snd.fst, x.snd.snd.snd.snd.snd.snd.snd.snd.snd.snd.snd.snd.fst,
                      x.snd.snd.snd.snd.snd.snd.snd.snd.snd.snd.snd.snd.snd.fst,
                      x.snd.snd.snd.snd.snd.snd.snd.snd.snd.snd.snd.snd.snd.snd.fst, ())).bind
                fun y126 =>
                some
                  (Sum.inl
                    (y126.fst, y126.snd.fst, y126.snd.snd.fst, y126.snd.snd.snd.fst, y126.snd.snd.snd.snd.fst, y126.snd.snd.snd.snd.snd.fst,
                      y126.snd.snd.snd.snd.snd.snd.fst, y126.snd.snd.snd.snd.snd.snd.snd.fst, y126.snd.snd.snd.snd.snd.snd.snd.snd.fst,
                      y126.snd.snd.snd.snd.snd.snd.snd.snd.snd.fst, y126.snd.snd.snd.snd.snd.snd.snd.snd.snd.snd.fst,
                      y126.snd.snd.snd.snd.snd.snd.snd.snd.snd.snd.snd.fst, y126.snd.snd.snd.snd.snd.snd.snd.snd.snd.snd.snd.snd.fst,
                      y126.snd.snd.snd.snd.snd.snd.snd.snd.snd.snd.snd.snd.snd.fst,
                      y126.snd.snd.snd.snd.snd.snd.snd.snd.snd.snd.snd.snd.snd.snd.fst, ()))
      else none
  else none
else
  some
    (Sum.inr
      (x.fst, x.snd.fst, x.snd.snd.fst, x.snd.snd.snd.fst, x.snd.snd.snd.snd.snd.fst, x.snd.snd.snd.snd.snd.snd.fst,
        x.snd.snd.snd.snd.snd.snd.snd.fst, x.snd.snd.snd.snd.snd.snd.snd.snd.fst, x.snd.snd.snd.snd.snd.snd.snd.snd.snd.fst,
        x.snd.snd.snd.snd.snd.snd.snd.snd.snd.snd.fst, x.snd.snd.snd.snd.snd.snd.snd.snd.snd.snd.snd.fst,
        x.snd.snd.snd.snd.snd.snd.snd.snd.snd.snd.snd.snd.fst, x.snd.snd.snd.snd.snd.snd.snd.snd.snd.snd.snd.snd.snd.fst,
        x.snd.snd.snd.snd.snd.snd.snd.snd.snd.snd.snd.snd.snd.snd.fst, ()))
theorem r22_6_run0 (v0 : Nat) (v1 : Int) (v2 : Nat) (v3 : Nat) (v4 : Int) (v5 : Int) (v6 : Int) (v7 : List Int) (v8 : Int) (v9 : Int) (v10 : List Int) (v11 : List Pt) (v12 : List Pt) (v13 : Int) (v14 : Int) : roundK tC G22 (look [(46, W22_46)]) c22_6 p22_6 (v0, v1, v2, v3, v4, v5, v6, v7, v8, v9, v10, v11, v12, v13, v14, ()) = r22_6 (v0, v1, v2, v3, v4, v5, v6, v7, v8, v9, v10, v11, v12, v13, v14, ()) := by kernel_rfl
theorem r22_6_run (x : Nat × Int × Nat × Nat × Int × Int × Int × List Int × Int × Int × List Int × List Pt × List Pt × Int × Int × Unit) : roundK tC G22 (look [(46, W22_46)]) c22_6 p22_6 x = r22_6 x := r22_6_run0 x.1 x.2.1 x.2.2.1 x.2.2.2.1 x.2.2.2.2.1 x.2.2.2.2.2.1 x.2.2.2.2.2.2.1 x.2.2.2.2.2.2.2.1 x.2.2.2.2.2.2.2.2.1 x.2.2.2.2.2.2.2.2.2.1 x.2.2.2.2.2.2.2.2.2.2.1 x.2.2.2.2.2.2.2.2.2.2.2.1 x.2.2.2.2.2.2.2.2.2.2.2.2.1 x.2.2.2.2.2.2.2.2.2.2.2.2.2.1 x.2.2.2.2.2.2.2.2.2.2.2.2.2.2.1
noncomputable def l22_6 (x : Nat × Int × Nat × Nat × Int × Int × Int × List Int × Int × Int × List Int × List Pt × List Pt × Int × Int × Unit) : Option (Nat × Int × Nat × Nat × Int × Int × List Int × Int × Int × List Int × List Pt × List Pt × Int × Int × Unit) := iterO r22_6 x
noncomputable def W22_6 : LF tC := loopW tC p22_6 2 l22_6
theorem W22_6_ok : keyed 6 (loopOf (bodyOf Try.f22) 0) = [.block 2 (.loop c22_6)] ∧ ∀ n, n ≤ 0 → Snd tC n (.block 2 (.loop c22_6)) W22_6.k := ⟨by kernel_rfl, fun n hn => loopW_ok (p := p22_6) (id := 2) Y22 (lam_le (lam_cons W22_46_ok lam_nil) n hn) hn r22_6_run⟩
noncomputable def c22_0 : Code := loopOf (bodyOf Try.f22) 0
def p22_0 : LS := ⟨0, [3, 5, 9, 11, 12, 13, 14], ⟨[vB, vB, vB, .one (.one (.ptr 0 0 0)), vB, .one (.one (.ptr 1 0 0)), vB, vB, vB, .one (.one (.sl 2)), vB, vI, .one (.one (.sl 3)), .one (.one (.sl 4)), .one (.one (.ptr 5 0 0))] ++ vBs 104, [.box [.int .i64, .int .i64, .imm 5], .box [.int .i64, .int .i64], .arr 3, .arr 26, .arr 26, .box [.int .i64, .int .i64]]⟩, [⟨.exit 0, [11, 13], ⟨vBs 11 ++ [vI, vB, .one (.one (.sl 0))] ++ vBs 105, [.arr 26]⟩, []⟩], []⟩
noncomputable def r22_0 (x : Nat × Int × Nat × Nat × Int × Int × List Int × Int × Int × List Int × List Pt × List Pt × Int × Int × Unit) : Option
  (Nat × Int × Nat × Nat × Int × Int × List Int × Int × Int × List Int × List Pt × List Pt × Int × Int × Unit ⊕ Int × Nat × List Pt × Unit) :=
  bif
    !bif x.snd.snd.snd.snd.snd.snd.snd.snd.snd.snd.snd.snd.fst == x.snd.snd.snd.snd.snd.snd.snd.fst then
        bif x.snd.snd.snd.snd.snd.snd.snd.snd.snd.snd.snd.snd.snd.fst == x.snd.snd.snd.snd.snd.snd.snd.snd.fst then true else false
      else false then
  (l22_6
        (x.fst, x.snd.fst, x.snd.snd.fst, x.snd.snd.snd.fst, (0 : Int), x.snd.snd.snd.snd.fst, x.snd.snd.snd.snd.snd.fst,
          x.snd.snd.snd.snd.snd.snd.fst, x.snd.snd.snd.snd.snd.snd.snd.fst, x.snd.snd.snd.snd.snd.snd.snd.snd.fst,
          x.snd.snd.snd.snd.snd.snd.snd.snd.snd.fst, x.snd.snd.snd.snd.snd.snd.snd.snd.snd.snd.fst,
          x.snd.snd.snd.snd.snd.snd.snd.snd.snd.snd.snd.fst, x.snd.snd.snd.snd.snd.snd.snd.snd.snd.snd.snd.snd.fst,
          x.snd.snd.snd.snd.snd.snd.snd.snd.snd.snd.snd.snd.snd.fst, ())).bind
    fun y147 =>
    bif decide ((0 : Nat) + y147.snd.snd.snd.fst ≤ y147.snd.snd.snd.snd.snd.snd.snd.snd.snd.snd.snd.fst.length) then
      bif roomy (y147.snd.snd.snd.fst + (1 : Nat)) (16 : Nat) then
        some
          (Sum.inl
            (y147.fst, y147.snd.fst, y147.snd.snd.fst, y147.snd.snd.snd.fst + (1 : Nat), y147.snd.snd.snd.snd.fst,
              y147.snd.snd.snd.snd.snd.fst, y147.snd.snd.snd.snd.snd.snd.fst, y147.snd.snd.snd.snd.snd.snd.snd.fst,
              y147.snd.snd.snd.snd.snd.snd.snd.snd.fst, y147.snd.snd.snd.snd.snd.snd.snd.snd.snd.fst,
              y147.snd.snd.snd.snd.snd.snd.snd.snd.snd.snd.fst,
              List.take y147.snd.snd.snd.fst (List.drop (0 : Nat) y147.snd.snd.snd.snd.snd.snd.snd.snd.snd.snd.snd.fst) ++
                [Pt.mk y147.snd.snd.snd.snd.snd.snd.snd.snd.snd.snd.snd.snd.fst
                    y147.snd.snd.snd.snd.snd.snd.snd.snd.snd.snd.snd.snd.snd.fst],
              y147.snd.snd.snd.snd.snd.snd.snd.snd.snd.snd.snd.snd.fst, y147.snd.snd.snd.snd.snd.snd.snd.snd.snd.snd.snd.snd.snd.fst, ()))
      else none
    else none
else some (Sum.inr (x.snd.fst, x.snd.snd.snd.fst, x.snd.snd.snd.snd.snd.snd.snd.snd.snd.snd.snd.fst, ()))
theorem r22_0_run0 (v0 : Nat) (v1 : Int) (v2 : Nat) (v3 : Nat) (v4 : Int) (v5 : Int) (v6 : List Int) (v7 : Int) (v8 : Int) (v9 : List Int) (v10 : List Pt) (v11 : List Pt) (v12 : Int) (v13 : Int) : roundK tC G22 (look [(6, W22_6)]) c22_0 p22_0 (v0, v1, v2, v3, v4, v5, v6, v7, v8, v9, v10, v11, v12, v13, ()) = r22_0 (v0, v1, v2, v3, v4, v5, v6, v7, v8, v9, v10, v11, v12, v13, ()) := by kernel_rfl
theorem r22_0_run (x : Nat × Int × Nat × Nat × Int × Int × List Int × Int × Int × List Int × List Pt × List Pt × Int × Int × Unit) : roundK tC G22 (look [(6, W22_6)]) c22_0 p22_0 x = r22_0 x := r22_0_run0 x.1 x.2.1 x.2.2.1 x.2.2.2.1 x.2.2.2.2.1 x.2.2.2.2.2.1 x.2.2.2.2.2.2.1 x.2.2.2.2.2.2.2.1 x.2.2.2.2.2.2.2.2.1 x.2.2.2.2.2.2.2.2.2.1 x.2.2.2.2.2.2.2.2.2.2.1 x.2.2.2.2.2.2.2.2.2.2.2.1 x.2.2.2.2.2.2.2.2.2.2.2.2.1 x.2.2.2.2.2.2.2.2.2.2.2.2.2.1
noncomputable def l22_0 (x : Nat × Int × Nat × Nat × Int × Int × List Int × Int × Int × List Int × List Pt × List Pt × Int × Int × Unit) : Option (Int × Nat × List Pt × Unit) := iterO r22_0 x
noncomputable def W22_0 : LF tC := loopW tC p22_0 0 l22_0
theorem W22_0_ok : keyed 0 (bodyOf Try.f22) = [.block 0 (.loop c22_0)] ∧ ∀ n, n ≤ 0 → Snd tC n (.block 0 (.loop c22_0)) W22_0.k := ⟨by kernel_rfl, fun n hn => loopW_ok (p := p22_0) (id := 0) Y22 (lam_le (lam_cons W22_6_ok lam_nil) n hn) hn r22_0_run⟩
def S22 : FS := ⟨[[.v, .v, .s 5], [.v, .v], [.v, .v]], [⟨[.one (.agg [.int .i64, .int .i64, .imm 5]), .one (.agg [.int .i64, .int .i64]), .one (.agg [.int .i64, .int .i64])], []⟩], [⟨[.tup [.one (.sl 0), .one (.int .i64), .one (.int .i64)]], [.arr 26]⟩], [[.v], [.v], [.v]], [(6, 26)]⟩
noncomputable def f22 (x : Int × Int × List Int × Int × Int × Int × Int × Unit) : Option (Nat × Int × Int × List Pt × Unit) :=
  (f24 (x.fst, x.snd.fst, x.snd.snd.fst, ())).bind fun y160 =>
  bif !y160.fst then some ((0 : Nat), (0 : Int), (1 : Int), [], ())
  else
    (f40 (x.fst, x.snd.fst, x.snd.snd.fst, x.snd.snd.snd.fst, x.snd.snd.snd.snd.fst, ())).bind fun y159 =>
      bif !y159.fst then some ((0 : Nat), (0 : Int), (7 : Int), [], ())
      else
        (f40 (x.fst, x.snd.fst, x.snd.snd.fst, x.snd.snd.snd.snd.snd.fst, x.snd.snd.snd.snd.snd.snd.fst, ())).bind fun y158 =>
          bif !y158.fst then some ((0 : Nat), (0 : Int), (7 : Int), [], ())
          else
            (f18 (x.fst, x.snd.fst, x.snd.snd.fst, x.snd.snd.snd.snd.snd.fst, x.snd.snd.snd.snd.snd.snd.fst, ())).bind fun y157 =>
              bif
                  decide ((0 : Int) ≤ IntKind.i64.wrap (IntKind.i64.wrap (x.snd.snd.snd.snd.fst * x.fst) + x.snd.snd.snd.fst)) &&
                    decide
                      (IntKind.i64.wrap (IntKind.i64.wrap (x.snd.snd.snd.snd.fst * x.fst) + x.snd.snd.snd.fst) < (↑y157.fst : Int)) then
                y157.snd.snd.fst[(0 : Nat) +
                        (IntKind.i64.wrap (IntKind.i64.wrap (x.snd.snd.snd.snd.fst * x.fst) + x.snd.snd.snd.fst)).toNat]?.bind
                  fun y156 =>
                  bif decide (y156 < (0 : Int)) then some ((0 : Nat), (0 : Int), (14 : Int), [], ())
                  else
                    (l22_0
                          (y157.fst, y156, f31.fst, (1 : Nat), x.fst, x.snd.fst, x.snd.snd.fst, x.snd.snd.snd.snd.snd.fst,
                            x.snd.snd.snd.snd.snd.snd.fst, y157.snd.snd.fst, f31.snd, [Pt.mk x.snd.snd.snd.fst x.snd.snd.snd.snd.fst],
                            x.snd.snd.snd.fst, x.snd.snd.snd.snd.fst, ())).bind
                      fun y155 => some (y155.snd.fst, y155.fst, (0 : Int), y155.snd.snd.fst, ())
              else none
noncomputable def F22 : CF tC := mkF tC S22 f22
theorem f22_run : ∀ a, fnS tC G22 (look [(0, W22_0)]) Try.f22 S22 a = f22 a := fun a => by kernel_rfl
theorem F22_ok : CFOK tC 22 F22 := mkF_ok Y22 (fn := Try.f22) (body := bodyOf Try.f22) (by kernel_rfl) (by kernel_rfl) (by kernel_rfl) (m := 0) rfl (lam_le (lam_cons W22_0_ok lam_nil)) f22_run

/-! ref.Length -/
noncomputable def G36 : FuncId → Option (CF tC) := look [(24, F24), (40, F40), (33, F33)]
theorem Y36 : SysN tC G36 := (sys_cons F24_ok (mkF_nat _ _) (sys_cons F40_ok (mkF_nat _ _) (sys_cons F33_ok (mkF_nat _ _) (sys_nil tC_ok tC_eq))))
noncomputable def c36_0 : Code := loopOf (bodyOf Try.f36) 0
def p36_0 : LS := ⟨0, [1, 2, 6], ⟨[vB, .one (.one (.imm 26)), .one (.one (.ptr 0 0 0)), vB, vB, vB, vI] ++ vBs 45, [.box [.int .i64, .int .i64, .imm 5]]⟩, [⟨.ret, [4, 5], ⟨vBs 4 ++ [vI, vI] ++ vBs 46, []⟩, []⟩, ⟨.exit 0, [1, 2], ⟨[vB, .one (.one (.imm 26)), .one (.one (.ptr 0 0 0))] ++ vBs 49, [.box [.int .i64, .int .i64, .imm 5]]⟩, []⟩], []⟩
noncomputable def r36_0 (x : List Pt × Int × Int × Int × List Int × Unit) : Option (List Pt × Int × Int × Int × List Int × Unit ⊕ Int × Int × Unit ⊕ List Pt × Int × Int × List Int × Unit) :=
  bif decide (x.snd.fst < (↑x.fst.length : Int)) then
  (idxO x.fst x.snd.fst).bind fun y20 =>
    (f40 (x.snd.snd.fst, x.snd.snd.snd.fst, x.snd.snd.snd.snd.fst, y20.X, y20.Y, ())).bind fun y19 =>
      bif !y19.fst then some (Sum.inr (Sum.inl ((0 : Int), (7 : Int), ())))
      else some (Sum.inl (x.fst, IntKind.i64.wrap (x.snd.fst + (1 : Int)), x.snd.snd.fst, x.snd.snd.snd.fst, x.snd.snd.snd.snd.fst, ()))
else some (Sum.inr (Sum.inr (x.fst, x.snd.snd.fst, x.snd.snd.snd.fst, x.snd.snd.snd.snd.fst, ())))
theorem r36_0_run0 (v0 : List Pt) (v1 : Int) (v2 : Int) (v3 : Int) (v4 : List Int) : roundK tC G36 (look []) c36_0 p36_0 (v0, v1, v2, v3, v4, ()) = r36_0 (v0, v1, v2, v3, v4, ()) := by kernel_rfl
theorem r36_0_run (x : List Pt × Int × Int × Int × List Int × Unit) : roundK tC G36 (look []) c36_0 p36_0 x = r36_0 x := r36_0_run0 x.1 x.2.1 x.2.2.1 x.2.2.2.1 x.2.2.2.2.1
noncomputable def l36_0 (x : List Pt × Int × Int × Int × List Int × Unit) : Option (Int × Int × Unit ⊕ List Pt × Int × Int × List Int × Unit) := iterO r36_0 x
noncomputable def W36_0 : LF tC := loopW tC p36_0 0 l36_0
theorem W36_0_ok : keyed 0 (bodyOf Try.f36) = [.block 0 (.loop c36_0)] ∧ ∀ n, n ≤ 0 → Snd tC n (.block 0 (.loop c36_0)) W36_0.k := ⟨by kernel_rfl, fun n hn => loopW_ok (p := p36_0) (id := 0) Y36 (lam_le lam_nil n hn) hn r36_0_run⟩
noncomputable def c36_6 : Code := loopOf (bodyOf Try.f36) 2
def p36_6 : LS := ⟨0, [1, 2, 7, 8], ⟨[vB, .one (.one (.imm 26)), .one (.one (.ptr 0 0 0))] ++ vBs 4 ++ [vI, vI] ++ vBs 43, [.box [.int .i64, .int .i64, .imm 5]]⟩, [⟨.ret, [4, 5], ⟨vBs 4 ++ [vI, vI] ++ vBs 46, []⟩, []⟩, ⟨.exit 2, [7], ⟨vBs 7 ++ [vI] ++ vBs 44, []⟩, []⟩], []⟩
noncomputable def r36_6 (x : List Pt × Int × Int × Int × Int × List Int × Unit) : Option (List Pt × Int × Int × Int × Int × List Int × Unit ⊕ Int × Int × Unit ⊕ Int × Unit) :=
  bif decide (x.snd.snd.fst < (↑x.fst.length : Int)) then
  (idxO x.fst (IntKind.i64.wrap (x.snd.snd.fst - (1 : Int)))).bind fun y41 =>
    (idxO x.fst x.snd.snd.fst).bind fun y40 =>
      (f33 (x.snd.snd.snd.fst, x.snd.snd.snd.snd.fst, x.snd.snd.snd.snd.snd.fst, y41.X, y41.Y, y40.X, y40.Y, ())).bind fun y39 =>
        bif decide (y39.fst < (0 : Int)) then some (Sum.inr (Sum.inl ((0 : Int), (9 : Int), ())))
        else
          some
            (Sum.inl
              (x.fst, IntKind.i64.wrap (x.snd.fst + y39.fst), IntKind.i64.wrap (x.snd.snd.fst + (1 : Int)), x.snd.snd.snd.fst,
                x.snd.snd.snd.snd.fst, x.snd.snd.snd.snd.snd.fst, ()))
else some (Sum.inr (Sum.inr (x.snd.fst, ())))
theorem r36_6_run0 (v0 : List Pt) (v1 : Int) (v2 : Int) (v3 : Int) (v4 : Int) (v5 : List Int) : roundK tC G36 (look []) c36_6 p36_6 (v0, v1, v2, v3, v4, v5, ()) = r36_6 (v0, v1, v2, v3, v4, v5, ()) := by kernel_rfl
theorem r36_6_run (x : List Pt × Int × Int × Int × Int × List Int × Unit) : roundK tC G36 (look []) c36_6 p36_6 x = r36_6 x := r36_6_run0 x.1 x.2.1 x.2.2.1 x.2.2.2.1 x.2.2.2.2.1 x.2.2.2.2.2.1
noncomputable def l36_6 (x : List Pt × Int × Int × Int × Int × List Int × Unit) : Option (Int × Int × Unit ⊕ Int × Unit) := iterO r36_6 x
noncomputable def W36_6 : LF tC := loopW tC p36_6 2 l36_6
theorem W36_6_ok : keyed 6 (bodyOf Try.f36) = [.block 2 (.loop c36_6)] ∧ ∀ n, n ≤ 0 → Snd tC n (.block 2 (.loop c36_6)) W36_6.k := ⟨by kernel_rfl, fun n hn => loopW_ok (p := p36_6) (id := 2) Y36 (lam_le lam_nil n hn) hn r36_6_run⟩
def S36 : FS := ⟨[[.v, .v, .s 5], [.s 26]], [⟨[.one (.agg [.int .i64, .int .i64, .imm 5]), .one (.one (.imm 26))], []⟩], [⟨[.tup [.one (.int .i64), .one (.int .i64)]], []⟩], [[.v], [.v]], []⟩
noncomputable def f36 (x : Int × Int × List Int × List Pt × Unit) : Option (Int × Int × Unit) :=
  (f24 (x.fst, x.snd.fst, x.snd.snd.fst, ())).bind fun y53 =>
  bif !y53.fst then some ((0 : Int), (1 : Int), ())
  else
    bif (↑x.snd.snd.snd.fst.length : Int) == (0 : Int) then some ((0 : Int), (7 : Int), ())
    else
      (l36_0 (x.snd.snd.snd.fst, (0 : Int), x.fst, x.snd.fst, x.snd.snd.fst, ())).bind fun y52 =>
        Sum.elim (fun y47 => some (y47.fst, y47.snd.fst, ()))
          (fun y51 =>
            (l36_6 (y51.fst, (0 : Int), (1 : Int), y51.snd.fst, y51.snd.snd.fst, y51.snd.snd.snd.fst, ())).bind fun y50 =>
              Sum.elim (fun y48 => some (y48.fst, y48.snd.fst, ())) (fun y49 => some (y49.fst, (0 : Int), ())) y50)
          y52
noncomputable def F36 : CF tC := mkF tC S36 f36
theorem f36_run : ∀ a, fnS tC G36 (look [(0, W36_0), (6, W36_6)]) Try.f36 S36 a = f36 a := fun a => by kernel_rfl
theorem F36_ok : CFOK tC 36 F36 := mkF_ok Y36 (fn := Try.f36) (body := bodyOf Try.f36) (by kernel_rfl) (by kernel_rfl) (by kernel_rfl) (m := 0) rfl (lam_le (lam_cons W36_0_ok (lam_cons W36_6_ok lam_nil))) f36_run

/-! base.Ints -/
noncomputable def G19 : FuncId → Option (CF tC) := look []
theorem Y19 : SysN tC G19 := (sys_nil tC_ok tC_eq)
noncomputable def c19_0 : Code := loopOf (bodyOf Try.f19) 0
def p19_0 : LS := ⟨0, [0, 1, 5], ⟨[.one (.one (.imm 3)), .one (.one (.imm 3)), vB, vB, vB, vI] ++ vBs 20, []⟩, [⟨.ret, [4], ⟨vBs 4 ++ [vO] ++ vBs 21, []⟩, []⟩, ⟨.exit 0, [], ⟨vBs 26, []⟩, []⟩], []⟩
noncomputable def r19_0 (x : List Int × List Int × Int × Unit) : Option (List Int × List Int × Int × Unit ⊕ Bool × Unit ⊕ Unit) :=
  bif decide (x.snd.snd.fst < (↑x.fst.length : Int)) then
  (idxO x.fst x.snd.snd.fst).bind fun y10 =>
    (idxO x.snd.fst x.snd.snd.fst).bind fun y9 =>
      bif y10 != y9 then some (Sum.inr (Sum.inl (false, ())))
      else some (Sum.inl (x.fst, x.snd.fst, IntKind.i64.wrap (x.snd.snd.fst + (1 : Int)), ()))
else some (Sum.inr (Sum.inr ()))
theorem r19_0_run0 (v0 : List Int) (v1 : List Int) (v2 : Int) : roundK tC G19 (look []) c19_0 p19_0 (v0, v1, v2, ()) = r19_0 (v0, v1, v2, ()) := by kernel_rfl
theorem r19_0_run (x : List Int × List Int × Int × Unit) : roundK tC G19 (look []) c19_0 p19_0 x = r19_0 x := r19_0_run0 x.1 x.2.1 x.2.2.1
noncomputable def l19_0 (x : List Int × List Int × Int × Unit) : Option (Bool × Unit ⊕ Unit) := iterO r19_0 x
noncomputable def W19_0 : LF tC := loopW tC p19_0 0 l19_0
theorem W19_0_ok : keyed 0 (bodyOf Try.f19) = [.block 0 (.loop c19_0)] ∧ ∀ n, n ≤ 0 → Snd tC n (.block 0 (.loop c19_0)) W19_0.k := ⟨by kernel_rfl, fun n hn => loopW_ok (p := p19_0) (id := 0) Y19 (lam_le lam_nil n hn) hn r19_0_run⟩
def S19 : FS := ⟨[[.s 3], [.s 3]], [⟨[.one (.one (.imm 3)), .one (.one (.imm 3))], []⟩], [⟨[vO], []⟩], [[.v]], []⟩
noncomputable def f19 (x : List Int × List Int × Unit) : Option (Bool × Unit) :=
  bif (↑x.fst.length : Int) != (↑x.snd.fst.length : Int) then some (false, ())
else (l19_0 (x.fst, x.snd.fst, (0 : Int), ())).bind fun y15 => Sum.elim (fun y13 => some (y13.fst, ())) (fun _x => some (true, ())) y15
noncomputable def F19 : CF tC := mkF tC S19 f19
theorem f19_run : ∀ a, fnS tC G19 (look [(0, W19_0)]) Try.f19 S19 a = f19 a := fun a => by kernel_rfl
theorem F19_ok : CFOK tC 19 F19 := mkF_ok Y19 (fn := Try.f19) (body := bodyOf Try.f19) (by kernel_rfl) (by kernel_rfl) (by kernel_rfl) (m := 0) rfl (lam_le (lam_cons W19_0_ok lam_nil)) f19_run

/-! ref.Check -/
noncomputable def G29 : FuncId → Option (CF tC) := look [(18, F18), (19, F19)]
theorem Y29 : SysN tC G29 := (sys_cons F18_ok (mkF_nat _ _) (sys_cons F19_ok (mkF_nat _ _) (sys_nil tC_ok tC_eq)))
def S29 : FS := ⟨[[.v, .v, .s 5], [.v, .v], [.s 3]], [⟨[.one (.agg [.int .i64, .int .i64, .imm 5]), .one (.agg [.int .i64, .int .i64]), .one (.one (.imm 3))], []⟩], [⟨[vI], []⟩], [[.v]], []⟩
noncomputable def f29 (x : Int × Int × List Int × Int × Int × List Int × Unit) : Option (Int × Unit) :=
  (f18 (x.fst, x.snd.fst, x.snd.snd.fst, x.snd.snd.snd.fst, x.snd.snd.snd.snd.fst, ())).bind fun y13 =>
  bif y13.snd.fst != (0 : Int) then some (y13.snd.fst, ())
  else
    bif (↑x.snd.snd.snd.snd.snd.fst.length : Int) != (↑y13.fst : Int) then some ((3 : Int), ())
    else
      bif decide ((0 : Nat) + y13.fst ≤ y13.snd.snd.fst.length) then
        (f19 (x.snd.snd.snd.snd.snd.fst, List.take y13.fst (List.drop (0 : Nat) y13.snd.snd.fst), ())).bind fun y12 =>
          bif !y12.fst then some ((9 : Int), ()) else some ((0 : Int), ())
      else none
noncomputable def F29 : CF tC := mkF tC S29 f29
theorem f29_run : ∀ a, fnS tC G29 (look []) Try.f29 S29 a = f29 a := fun a => by kernel_rfl
theorem F29_ok : CFOK tC 29 F29 := mkF_ok Y29 (fn := Try.f29) (body := bodyOf Try.f29) (by kernel_rfl) (by kernel_rfl) (by kernel_rfl) (m := 0) rfl (lam_le lam_nil) f29_run

/-! ref.Visible -/
noncomputable def G34 : FuncId → Option (CF tC) := look [(24, F24), (40, F40), (46, F46)]
theorem Y34 : SysN tC G34 := (sys_cons F24_ok (mkF_nat _ _) (sys_cons F40_ok (mkF_nat _ _) (sys_cons F46_ok (mkF_nat _ _) (sys_nil tC_ok tC_eq))))
noncomputable def c34_31 : Code := subCode (loopOf (loopOf (bodyOf Try.f34) 0) 2) 31
def p34_31 : PS := ⟨0, [3, 4, 5, 7, 8, 9, 10], ⟨[vB, vB, vB, .one (.one (.ptr 0 0 0)), .one (.one (.ptr 1 0 0)), .one (.one (.ptr 2 0 0)), vB, .one (.one (.ptr 3 0 0)), .one (.one (.ptr 4 0 0)), vI, vI] ++ vBs 75, [.box [.int .i64, .int .i64, .imm 5], .box [.int .i64, .int .i64], .box [.int .i64, .int .i64], .box [.int .i64, .int .i64], .box [.int .i64, .int .i64]]⟩, [⟨.normal, [3, 4, 5, 7, 8, 9, 10], ⟨[vB, vB, vB, .one (.one (.ptr 0 0 0)), .one (.one (.ptr 1 0 0)), .one (.one (.ptr 2 0 0)), vB, .one (.one (.ptr 3 0 0)), .one (.one (.ptr 4 0 0)), vI, vI] ++ vBs 75, [.box [.int .i64, .int .i64, .imm 5], .box [.int .i64, .int .i64], .box [.int .i64, .int .i64], .box [.int .i64, .int .i64], .box [.int .i64, .int .i64]]⟩, []⟩], []⟩
noncomputable def j34_31 (x : Int × Int × Int × Int × List Int × Int × Int × Int × Int × Int × Int × Int × Int × Unit) : Option (Int × Int × Int × Int × List Int × Int × Int × Int × Int × Int × Int × Int × Int × Unit) :=
  some
  (x.fst, IntKind.i64.wrap (x.snd.fst + (1 : Int)), x.snd.snd.fst, x.snd.snd.snd.fst, x.snd.snd.snd.snd.fst, x.snd.snd.snd.snd.snd.fst,
    x.snd.snd.snd.snd.snd.snd.fst, x.snd.snd.snd.snd.snd.snd.snd.fst, x.snd.snd.snd.snd.snd.snd.snd.snd.fst,
    x.snd.snd.snd.snd.snd.snd.snd.snd.snd.fst, x.snd.snd.snd.snd.snd.snd.snd.snd.snd.snd.fst,
    x.snd.snd.snd.snd.snd.snd.snd.snd.snd.snd.snd.fst, x.snd.snd.snd.snd.snd.snd.snd.snd.snd.snd.snd.snd.fst, ())
theorem j34_31_run0 (v0 : Int) (v1 : Int) (v2 : Int) (v3 : Int) (v4 : List Int) (v5 : Int) (v6 : Int) (v7 : Int) (v8 : Int) (v9 : Int) (v10 : Int) (v11 : Int) (v12 : Int) : pieceK tC G34 (look []) c34_31 p34_31 (v0, v1, v2, v3, v4, v5, v6, v7, v8, v9, v10, v11, v12, ()) = j34_31 (v0, v1, v2, v3, v4, v5, v6, v7, v8, v9, v10, v11, v12, ()) := by kernel_rfl
theorem j34_31_run (x : Int × Int × Int × Int × List Int × Int × Int × Int × Int × Int × Int × Int × Int × Unit) : pieceK tC G34 (look []) c34_31 p34_31 x = j34_31 x := j34_31_run0 x.1 x.2.1 x.2.2.1 x.2.2.2.1 x.2.2.2.2.1 x.2.2.2.2.2.1 x.2.2.2.2.2.2.1 x.2.2.2.2.2.2.2.1 x.2.2.2.2.2.2.2.2.1 x.2.2.2.2.2.2.2.2.2.1 x.2.2.2.2.2.2.2.2.2.2.1 x.2.2.2.2.2.2.2.2.2.2.2.1 x.2.2.2.2.2.2.2.2.2.2.2.2.1
noncomputable def W34_31 : LF tC := cutLF tC p34_31 j34_31
theorem W34_31_ok : keyed 31 (loopOf (loopOf (bodyOf Try.f34) 0) 2) = [c34_31] ∧ ∀ n, n ≤ 0 → Snd tC n c34_31 W34_31.k := ⟨by kernel_rfl, fun n hn => cut_ok (p := p34_31) Y34 (lam_le lam_nil n hn) hn j34_31_run⟩
noncomputable def c34_6 : Code := loopOf (loopOf (bodyOf Try.f34) 0) 2
def p34_6 : LS := ⟨0, [3, 4, 5, 7, 8, 9, 10], ⟨[vB, vB, vB, .one (.one (.ptr 0 0 0)), .one (.one (.ptr 1 0 0)), .one (.one (.ptr 2 0 0)), vB, .one (.one (.ptr 3 0 0)), .one (.one (.ptr 4 0 0)), vI, vI] ++ vBs 75, [.box [.int .i64, .int .i64, .imm 5], .box [.int .i64, .int .i64], .box [.int .i64, .int .i64], .box [.int .i64, .int .i64], .box [.int .i64, .int .i64]]⟩, [⟨.ret, [6], ⟨vBs 6 ++ [vO] ++ vBs 79, []⟩, []⟩, ⟨.exit 2, [3, 4, 5, 7, 8, 9], ⟨[vB, vB, vB, .one (.one (.ptr 0 0 0)), .one (.one (.ptr 1 0 0)), .one (.one (.ptr 2 0 0)), vB, .one (.one (.ptr 3 0 0)), .one (.one (.ptr 4 0 0)), vI] ++ vBs 76, [.box [.int .i64, .int .i64, .imm 5], .box [.int .i64, .int .i64], .box [.int .i64, .int .i64], .box [.int .i64, .int .i64], .box [.int .i64, .int .i64]]⟩, []⟩], []⟩
noncomputable def r34_6 (x : Int × Int × Int × Int × List Int × Int × Int × Int × Int × Int × Int × Int × Int × Unit) : Option
  (Int × Int × Int × Int × List Int × Int × Int × Int × Int × Int × Int × Int × Int × Unit ⊕
    Bool × Unit ⊕ Int × Int × Int × List Int × Int × Int × Int × Int × Int × Int × Int × Int × Unit) :=
  bif
    decide
      (x.snd.fst ≤
        bif decide (x.snd.snd.snd.snd.snd.snd.snd.fst > x.snd.snd.snd.snd.snd.fst) then x.snd.snd.snd.snd.snd.snd.snd.fst
        else x.snd.snd.snd.snd.snd.fst) then
  bif
      f46 x.snd.snd.snd.snd.snd.snd.snd.snd.snd.fst x.snd.snd.snd.snd.snd.snd.snd.snd.snd.snd.fst
        x.snd.snd.snd.snd.snd.snd.snd.snd.snd.snd.snd.fst x.snd.snd.snd.snd.snd.snd.snd.snd.snd.snd.snd.snd.fst x.snd.fst x.fst then
    (f40 (x.snd.snd.fst, x.snd.snd.snd.fst, x.snd.snd.snd.snd.fst, x.snd.fst, x.fst, ())).bind fun y103 =>
      bif !y103.fst then some (Sum.inr (Sum.inl (false, ())))
      else
        (j34_31
              (x.fst, x.snd.fst, x.snd.snd.fst, x.snd.snd.snd.fst, x.snd.snd.snd.snd.fst, x.snd.snd.snd.snd.snd.fst,
                x.snd.snd.snd.snd.snd.snd.fst, x.snd.snd.snd.snd.snd.snd.snd.fst, x.snd.snd.snd.snd.snd.snd.snd.snd.fst,
                x.snd.snd.snd.snd.snd.snd.snd.snd.snd.fst, x.snd.snd.snd.snd.snd.snd.snd.snd.snd.snd.fst,
                x.snd.snd.snd.snd.snd.snd.snd.snd.snd.snd.snd.fst, x.snd.snd.snd.snd.snd.snd.snd.snd.snd.snd.snd.snd.fst, ())).bind
          fun y102 =>
          some
            (Sum.inl
              (y102.fst, y102.snd.fst, y102.snd.snd.fst, y102.snd.snd.snd.fst, y102.snd.snd.snd.snd.fst, y102.snd.snd.snd.snd.snd.fst,
                y102.snd.snd.snd.snd.snd.snd.fst, y102.snd.snd.snd.snd.snd.snd.snd.fst, y102.snd.snd.snd.snd.snd.snd.snd.snd.fst,
                y102.snd.snd.snd.snd.snd.snd.snd.snd.snd.fst, y102.snd.snd.snd.snd.snd.snd.snd.snd.snd.snd.fst,
                y102.snd.snd.snd.snd.snd.snd.snd.snd.snd.snd.snd.fst, y102.snd.snd.snd.snd.snd.snd.snd.snd.snd.snd.snd.snd.fst, ()))
  else
    (j34_31
          (x.fst, x.snd.fst, x.snd.snd.fst, x.snd.snd.snd.fst, x.snd.snd.snd.snd.fst, x.snd.snd.snd.snd.snd.fst,
            x.snd.snd.snd.snd.snd.snd.fst, x.snd.snd.snd.snd.snd.snd.snd.fst, x.snd.snd.snd.snd.snd.snd.snd.snd.fst,
            x.snd.snd.snd.snd.snd.snd.snd.snd.snd.fst, x.snd.snd.snd.snd.snd.snd.snd.snd.snd.snd.fst,
            x.snd.snd.snd.snd.snd.snd.snd.snd.snd.snd.snd.fst, x.snd.snd.snd.snd.snd.snd.snd.snd.snd.snd.snd.snd.fst, ())).bind
      fun y104 =>
      some
        (Sum.inl
          (y104.fst, y104.snd.fst, y104.snd.snd.fst, y104.snd.snd.snd.fst, y104.snd.snd.snd.snd.fst, y104.snd.snd.snd.snd.snd.fst,
            y104.snd.snd.snd.snd.snd.snd.fst, y104.snd.snd.snd.snd.snd.snd.snd.fst, y104.snd.snd.snd.snd.snd.snd.snd.snd.fst,
            y104.snd.snd.snd.snd.snd.snd.snd.snd.snd.fst, y104.snd.snd.snd.snd.snd.snd.snd.snd.snd.snd.fst,
            y104.snd.snd.snd.snd.snd.snd.snd.snd.snd.snd.snd.fst, y104.snd.snd.snd.snd.snd.snd.snd.snd.snd.snd.snd.snd.fst, ()))
else
  some
    (Sum.inr
      (Sum.inr
        (x.fst, x.snd.snd.fst, x.snd.snd.snd.fst, x.snd.snd.snd.snd.fst, x.snd.snd.snd.snd.snd.fst, x.snd.snd.snd.snd.snd.snd.fst,
          x.snd.snd.snd.snd.snd.snd.snd.fst, x.snd.snd.snd.snd.snd.snd.snd.snd.fst, x.snd.snd.snd.snd.snd.snd.snd.snd.snd.fst,
          x.snd.snd.snd.snd.snd.snd.snd.snd.snd.snd.fst, x.snd.snd.snd.snd.snd.snd.snd.snd.snd.snd.snd.fst,
          x.snd.snd.snd.snd.snd.snd.snd.snd.snd.snd.snd.snd.fst, ())))
theorem r34_6_run0 (v0 : Int) (v1 : Int) (v2 : Int) (v3 : Int) (v4 : List Int) (v5 : Int) (v6 : Int) (v7 : Int) (v8 : Int) (v9 : Int) (v10 : Int) (v11 : Int) (v12 : Int) : roundK tC G34 (look [(31, W34_31)]) c34_6 p34_6 (v0, v1, v2, v3, v4, v5, v6, v7, v8, v9, v10, v11, v12, ()) = r34_6 (v0, v1, v2, v3, v4, v5, v6, v7, v8, v9, v10, v11, v12, ()) := by kernel_rfl
theorem r34_6_run (x : Int × Int × Int × Int × List Int × Int × Int × Int × Int × Int × Int × Int × Int × Unit) : roundK tC G34 (look [(31, W34_31)]) c34_6 p34_6 x = r34_6 x := r34_6_run0 x.1 x.2.1 x.2.2.1 x.2.2.2.1 x.2.2.2.2.1 x.2.2.2.2.2.1 x.2.2.2.2.2.2.1 x.2.2.2.2.2.2.2.1 x.2.2.2.2.2.2.2.2.1 x.2.2.2.2.2.2.2.2.2.1 x.2.2.2.2.2.2.2.2.2.2.1 x.2.2.2.2.2.2.2.2.2.2.2.1 x.2.2.2.2.2.2.2.2.2.2.2.2.1
noncomputable def l34_6 (x : Int × Int × Int × Int × List Int × Int × Int × Int × Int × Int × Int × Int × Int × Unit) : Option (Bool × Unit ⊕ Int × Int × Int × List Int × Int × Int × Int × Int × Int × Int × Int × Int × Unit) := iterO r34_6 x
noncomputable def W34_6 : LF tC := loopW tC p34_6 2 l34_6
theorem W34_6_ok : keyed 6 (loopOf (bodyOf Try.f34) 0) = [.block 2 (.loop c34_6)] ∧ ∀ n, n ≤ 0 → Snd tC n (.block 2 (.loop c34_6)) W34_6.k := ⟨by kernel_rfl, fun n hn => loopW_ok (p := p34_6) (id := 2) Y34 (lam_le (lam_cons W34_31_ok lam_nil) n hn) hn r34_6_run⟩
noncomputable def c34_0 : Code := loopOf (bodyOf Try.f34) 0
def p34_0 : LS := ⟨0, [3, 4, 5, 7, 8, 9], ⟨[vB, vB, vB, .one (.one (.ptr 0 0 0)), .one (.one (.ptr 1 0 0)), .one (.one (.ptr 2 0 0)), vB, .one (.one (.ptr 3 0 0)), .one (.one (.ptr 4 0 0)), vI] ++ vBs 76, [.box [.int .i64, .int .i64, .imm 5], .box [.int .i64, .int .i64], .box [.int .i64, .int .i64], .box [.int .i64, .int .i64], .box [.int .i64, .int .i64]]⟩, [⟨.ret, [6], ⟨vBs 6 ++ [vO] ++ vBs 79, []⟩, []⟩, ⟨.exit 0, [], ⟨vBs 86, []⟩, []⟩], []⟩
noncomputable def r34_0 (x : Int × Int × Int × List Int × Int × Int × Int × Int × Int × Int × Int × Int × Unit) : Option (Int × Int × Int × List Int × Int × Int × Int × Int × Int × Int × Int × Int × Unit ⊕ Bool × Unit ⊕ Unit) :=
  bif
    decide
      (x.fst ≤
        bif decide (x.snd.snd.snd.snd.snd.snd.snd.fst > x.snd.snd.snd.snd.snd.fst) then x.snd.snd.snd.snd.snd.snd.snd.fst
        else x.snd.snd.snd.snd.snd.fst) then
  (l34_6
        (x.fst,
          bif decide (x.snd.snd.snd.snd.snd.snd.fst < x.snd.snd.snd.snd.fst) then x.snd.snd.snd.snd.snd.snd.fst else x.snd.snd.snd.snd.fst,
          x.snd.fst, x.snd.snd.fst, x.snd.snd.snd.fst, x.snd.snd.snd.snd.fst, x.snd.snd.snd.snd.snd.fst, x.snd.snd.snd.snd.snd.snd.fst,
          x.snd.snd.snd.snd.snd.snd.snd.fst, x.snd.snd.snd.snd.snd.snd.snd.snd.fst, x.snd.snd.snd.snd.snd.snd.snd.snd.snd.fst,
          x.snd.snd.snd.snd.snd.snd.snd.snd.snd.snd.fst, x.snd.snd.snd.snd.snd.snd.snd.snd.snd.snd.snd.fst, ())).bind
    fun y121 =>
    Sum.elim (fun y119 => some (Sum.inr (Sum.inl (y119.fst, ()))))
      (fun y120 =>
        some
          (Sum.inl
            (IntKind.i64.wrap (y120.fst + (1 : Int)), y120.snd.fst, y120.snd.snd.fst, y120.snd.snd.snd.fst, y120.snd.snd.snd.snd.fst,
              y120.snd.snd.snd.snd.snd.fst, y120.snd.snd.snd.snd.snd.snd.fst, y120.snd.snd.snd.snd.snd.snd.snd.fst,
              y120.snd.snd.snd.snd.snd.snd.snd.snd.fst, y120.snd.snd.snd.snd.snd.snd.snd.snd.snd.fst,
              y120.snd.snd.snd.snd.snd.snd.snd.snd.snd.snd.fst, y120.snd.snd.snd.snd.snd.snd.snd.snd.snd.snd.snd.fst, ())))
      y121
else some (Sum.inr (Sum.inr ()))
theorem r34_0_run0 (v0 : Int) (v1 : Int) (v2 : Int) (v3 : List Int) (v4 : Int) (v5 : Int) (v6 : Int) (v7 : Int) (v8 : Int) (v9 : Int) (v10 : Int) (v11 : Int) : roundK tC G34 (look [(6, W34_6)]) c34_0 p34_0 (v0, v1, v2, v3, v4, v5, v6, v7, v8, v9, v10, v11, ()) = r34_0 (v0, v1, v2, v3, v4, v5, v6, v7, v8, v9, v10, v11, ()) := by kernel_rfl
theorem r34_0_run (x : Int × Int × Int × List Int × Int × Int × Int × Int × Int × Int × Int × Int × Unit) : roundK tC G34 (look [(6, W34_6)]) c34_0 p34_0 x = r34_0 x := r34_0_run0 x.1 x.2.1 x.2.2.1 x.2.2.2.1 x.2.2.2.2.1 x.2.2.2.2.2.1 x.2.2.2.2.2.2.1 x.2.2.2.2.2.2.2.1 x.2.2.2.2.2.2.2.2.1 x.2.2.2.2.2.2.2.2.2.1 x.2.2.2.2.2.2.2.2.2.2.1 x.2.2.2.2.2.2.2.2.2.2.2.1
noncomputable def l34_0 (x : Int × Int × Int × List Int × Int × Int × Int × Int × Int × Int × Int × Int × Unit) : Option (Bool × Unit ⊕ Unit) := iterO r34_0 x
noncomputable def W34_0 : LF tC := loopW tC p34_0 0 l34_0
theorem W34_0_ok : keyed 0 (bodyOf Try.f34) = [.block 0 (.loop c34_0)] ∧ ∀ n, n ≤ 0 → Snd tC n (.block 0 (.loop c34_0)) W34_0.k := ⟨by kernel_rfl, fun n hn => loopW_ok (p := p34_0) (id := 0) Y34 (lam_le (lam_cons W34_6_ok lam_nil) n hn) hn r34_0_run⟩
def S34 : FS := ⟨[[.v, .v, .s 5], [.v, .v], [.v, .v]], [⟨[.one (.agg [.int .i64, .int .i64, .imm 5]), .one (.agg [.int .i64, .int .i64]), .one (.agg [.int .i64, .int .i64])], []⟩], [⟨[vO], []⟩], [[.v]], []⟩
noncomputable def f34 (x : Int × Int × List Int × Int × Int × Int × Int × Unit) : Option (Bool × Unit) :=
  (f24 (x.fst, x.snd.fst, x.snd.snd.fst, ())).bind fun y129 =>
  bif !y129.fst then some (false, ())
  else
    (f40 (x.fst, x.snd.fst, x.snd.snd.fst, x.snd.snd.snd.fst, x.snd.snd.snd.snd.fst, ())).bind fun y128 =>
      bif !y128.fst then some (false, ())
      else
        (f40 (x.fst, x.snd.fst, x.snd.snd.fst, x.snd.snd.snd.snd.snd.fst, x.snd.snd.snd.snd.snd.snd.fst, ())).bind fun y127 =>
          bif !y127.fst then some (false, ())
          else
            (l34_0
                  (bif decide (x.snd.snd.snd.snd.snd.snd.fst < x.snd.snd.snd.snd.fst) then x.snd.snd.snd.snd.snd.snd.fst
                    else x.snd.snd.snd.snd.fst,
                    x.fst, x.snd.fst, x.snd.snd.fst, x.snd.snd.snd.fst, x.snd.snd.snd.snd.fst, x.snd.snd.snd.snd.snd.fst,
                    x.snd.snd.snd.snd.snd.snd.fst, IntKind.i64.wrap (IntKind.i64.wrap (x.snd.snd.snd.fst * (64 : Int)) + (32 : Int)),
                    IntKind.i64.wrap (IntKind.i64.wrap (x.snd.snd.snd.snd.fst * (64 : Int)) + (32 : Int)),
                    IntKind.i64.wrap (IntKind.i64.wrap (x.snd.snd.snd.snd.snd.fst * (64 : Int)) + (32 : Int)),
                    IntKind.i64.wrap (IntKind.i64.wrap (x.snd.snd.snd.snd.snd.snd.fst * (64 : Int)) + (32 : Int)), ())).bind
              fun y126 => Sum.elim (fun y124 => some (y124.fst, ())) (fun _x => some (true, ())) y126
noncomputable def F34 : CF tC := mkF tC S34 f34
theorem f34_run : ∀ a, fnS tC G34 (look [(0, W34_0)]) Try.f34 S34 a = f34 a := fun a => by kernel_rfl
theorem F34_ok : CFOK tC 34 F34 := mkF_ok Y34 (fn := Try.f34) (body := bodyOf Try.f34) (by kernel_rfl) (by kernel_rfl) (by kernel_rfl) (m := 0) rfl (lam_le (lam_cons W34_0_ok lam_nil)) f34_run

/-! base.Plans -/
noncomputable def G20 : FuncId → Option (CF tC) := look []
theorem Y20 : SysN tC G20 := (sys_nil tC_ok tC_eq)
def S20 : FS := ⟨[[.v, .v, .s 5], [.v, .v, .s 5]], [⟨[.one (.agg [.int .i64, .int .i64, .imm 5]), .one (.agg [.int .i64, .int .i64, .imm 5])], []⟩], [⟨[vO], []⟩], [[.v]], []⟩
def f20 (n1 : Int) (n2 : Int) (l3 : List Int) (n4 : Int) (n5 : Int) (l6 : List Int) : Bool :=
  bif n1 == n4 then bif n2 == n5 then decide (l3 = l6) else false else false
noncomputable def F20 : CF tC := mkF tC S20 (fun a => some ((f20 a.1 a.2.1 a.2.2.1 a.2.2.2.1 a.2.2.2.2.1 a.2.2.2.2.2.1), ()))
def h20 (r : Bool) : Option (altTy tE S20.outs) := some (r, ())
theorem f20_run : ∀ a, fnS tC G20 (look []) Try.f20 S20 a = (fun a => some ((f20 a.1 a.2.1 a.2.2.1 a.2.2.2.1 a.2.2.2.2.1 a.2.2.2.2.2.1), ())) a := fun a => by
  have key : ∀ (n1 : Int) (n2 : Int) (l3 : List Int) (n4 : Int) (n5 : Int) (l6 : List Int), (bif n1 == n4 then bif n2 == n5 then h20 (decide (l3 = l6)) else h20 false else h20 false) = h20 (f20 n1 n2 l3 n4 n5 l6) := by
    intros
    unfold f20
    repeat' first | rfl | refine cond_h (g := h20) ?_ ?_
  exact Eq.trans (by kernel_rfl) (key a.1 a.2.1 a.2.2.1 a.2.2.2.1 a.2.2.2.2.1 a.2.2.2.2.2.1)
theorem F20_ok : CFOK tC 20 F20 := mkF_ok Y20 (fn := Try.f20) (body := bodyOf Try.f20) (by kernel_rfl) (by kernel_rfl) (by kernel_rfl) (m := 0) rfl (lam_le lam_nil) f20_run

/-! base.Cells -/
noncomputable def G23 : FuncId → Option (CF tC) := look []
theorem Y23 : SysN tC G23 := (sys_nil tC_ok tC_eq)
noncomputable def c23_0 : Code := loopOf (bodyOf Try.f23) 0
def p23_0 : LS := ⟨0, [0, 1, 5], ⟨[.one (.one (.imm 26)), .one (.one (.imm 26)), vB, vB, vB, vI] ++ vBs 20, []⟩, [⟨.ret, [4], ⟨vBs 4 ++ [vO] ++ vBs 21, []⟩, []⟩, ⟨.exit 0, [], ⟨vBs 26, []⟩, []⟩], []⟩
noncomputable def r23_0 (x : List Pt × List Pt × Int × Unit) : Option (List Pt × List Pt × Int × Unit ⊕ Bool × Unit ⊕ Unit) :=
  bif decide (x.snd.snd.fst < (↑x.fst.length : Int)) then
  (idxO x.fst x.snd.snd.fst).bind fun y10 =>
    (idxO x.snd.fst x.snd.snd.fst).bind fun y9 =>
      bif !bif y10.X == y9.X then bif y10.Y == y9.Y then true else false else false then some (Sum.inr (Sum.inl (false, ())))
      else some (Sum.inl (x.fst, x.snd.fst, IntKind.i64.wrap (x.snd.snd.fst + (1 : Int)), ()))
else some (Sum.inr (Sum.inr ()))
theorem r23_0_run0 (v0 : List Pt) (v1 : List Pt) (v2 : Int) : roundK tC G23 (look []) c23_0 p23_0 (v0, v1, v2, ()) = r23_0 (v0, v1, v2, ()) := by kernel_rfl
theorem r23_0_run (x : List Pt × List Pt × Int × Unit) : roundK tC G23 (look []) c23_0 p23_0 x = r23_0 x := r23_0_run0 x.1 x.2.1 x.2.2.1
noncomputable def l23_0 (x : List Pt × List Pt × Int × Unit) : Option (Bool × Unit ⊕ Unit) := iterO r23_0 x
noncomputable def W23_0 : LF tC := loopW tC p23_0 0 l23_0
theorem W23_0_ok : keyed 0 (bodyOf Try.f23) = [.block 0 (.loop c23_0)] ∧ ∀ n, n ≤ 0 → Snd tC n (.block 0 (.loop c23_0)) W23_0.k := ⟨by kernel_rfl, fun n hn => loopW_ok (p := p23_0) (id := 0) Y23 (lam_le lam_nil n hn) hn r23_0_run⟩
def S23 : FS := ⟨[[.s 26], [.s 26]], [⟨[.one (.one (.imm 26)), .one (.one (.imm 26))], []⟩], [⟨[vO], []⟩], [[.v]], []⟩
noncomputable def f23 (x : List Pt × List Pt × Unit) : Option (Bool × Unit) :=
  bif (↑x.fst.length : Int) != (↑x.snd.fst.length : Int) then some (false, ())
else (l23_0 (x.fst, x.snd.fst, (0 : Int), ())).bind fun y15 => Sum.elim (fun y13 => some (y13.fst, ())) (fun _x => some (true, ())) y15
noncomputable def F23 : CF tC := mkF tC S23 f23
theorem f23_run : ∀ a, fnS tC G23 (look [(0, W23_0)]) Try.f23 S23 a = f23 a := fun a => by kernel_rfl
theorem F23_ok : CFOK tC 23 F23 := mkF_ok Y23 (fn := Try.f23) (body := bodyOf Try.f23) (by kernel_rfl) (by kernel_rfl) (by kernel_rfl) (m := 0) rfl (lam_le (lam_cons W23_0_ok lam_nil)) f23_run

/-! base.Mod -/
noncomputable def G30 : FuncId → Option (CF tC) := look []
theorem Y30 : SysN tC G30 := (sys_nil tC_ok tC_eq)
noncomputable def c30_13 : Code := subCode (bodyOf Try.f30) 13
def p30_13 : PS := ⟨0, [5], ⟨vBs 5 ++ [vI] ++ vBs 9, []⟩, [⟨.ret, [4], ⟨vBs 4 ++ [vI] ++ vBs 10, []⟩, []⟩], []⟩
noncomputable def j30_13 (x : Int × Unit) : Option (Int × Unit) :=
  some (x.fst, ())
theorem j30_13_run0 (v0 : Int) : pieceK tC G30 (look []) c30_13 p30_13 (v0, ()) = j30_13 (v0, ()) := by kernel_rfl
theorem j30_13_run (x : Int × Unit) : pieceK tC G30 (look []) c30_13 p30_13 x = j30_13 x := j30_13_run0 x.1
noncomputable def W30_13 : LF tC := cutLF tC p30_13 j30_13
theorem W30_13_ok : keyed 13 (bodyOf Try.f30) = [c30_13] ∧ ∀ n, n ≤ 0 → Snd tC n c30_13 W30_13.k := ⟨by kernel_rfl, fun n hn => cut_ok (p := p30_13) Y30 (lam_le lam_nil n hn) hn j30_13_run⟩
def S30 : FS := ⟨[[.v], [.v]], [⟨[vI, vI], []⟩], [⟨[vI], []⟩], [[.v]], []⟩
noncomputable def f30 (x : Int × Int × Unit) : Option (Int × Unit) :=
  bif x.snd.fst == (0 : Int) then none
else
  bif decide (x.fst.tmod x.snd.fst < (0 : Int)) then
    (j30_13 (IntKind.i64.wrap (x.fst.tmod x.snd.fst + x.snd.fst), ())).bind fun y8 => some (y8.fst, ())
  else (j30_13 (x.fst.tmod x.snd.fst, ())).bind fun y9 => some (y9.fst, ())
noncomputable def F30 : CF tC := mkF tC S30 f30
theorem f30_run : ∀ a, fnS tC G30 (look [(13, W30_13)]) Try.f30 S30 a = f30 a := fun a => by kernel_rfl
theorem F30_ok : CFOK tC 30 F30 := mkF_ok Y30 (fn := Try.f30) (body := bodyOf Try.f30) (by kernel_rfl) (by kernel_rfl) (by kernel_rfl) (m := 0) rfl (lam_le (lam_cons W30_13_ok lam_nil)) f30_run

/-! few -/
noncomputable def G15 : FuncId → Option (CF tC) := look []
theorem Y15 : SysN tC G15 := (sys_nil tC_ok tC_eq)
def S15 : FS := ⟨[[.v, .v, .s 5]], [⟨[.one (.agg [.int .i64, .int .i64, .imm 5])], []⟩], [⟨[vO], []⟩], [[.v]], []⟩
def f15 (_n1 : Int) (_n2 : Int) (l3 : List Int) : Bool :=
  decide ((↑l3.length : Int) ≤ (400 : Int))
noncomputable def F15 : CF tC := mkF tC S15 (fun a => some ((f15 a.1 a.2.1 a.2.2.1), ()))
def h15 (r : Bool) : Option (altTy tE S15.outs) := some (r, ())
theorem f15_run : ∀ a, fnS tC G15 (look []) Try.f15 S15 a = (fun a => some ((f15 a.1 a.2.1 a.2.2.1), ())) a := fun a => by
  have key : ∀ (n1 : Int) (n2 : Int) (l3 : List Int), (h15 (decide ((↑l3.length : Int) ≤ (400 : Int)))) = h15 (f15 n1 n2 l3) := by
    intros
    unfold f15
    repeat' first | rfl | refine cond_h (g := h15) ?_ ?_
  exact Eq.trans (by kernel_rfl) (key a.1 a.2.1 a.2.2.1)
theorem F15_ok : CFOK tC 15 F15 := mkF_ok Y15 (fn := Try.f15) (body := bodyOf Try.f15) (by kernel_rfl) (by kernel_rfl) (by kernel_rfl) (m := 0) rfl (lam_le lam_nil) f15_run

/-! clone -/
noncomputable def G16 : FuncId → Option (CF tC) := look []
theorem Y16 : SysN tC G16 := (sys_nil tC_ok tC_eq)
def S16 : FS := ⟨[[.v, .v, .s 5]], [⟨[.one (.agg [.int .i64, .int .i64, .imm 5])], []⟩], [⟨[.one (.agg [.int .i64, .int .i64, .sl 0])], [.arr 5]⟩], [[.v, .v, .v]], []⟩
noncomputable def f16 (x : Int × Int × List Int × Unit) : Option (Int × Int × Nat × List Int × Unit) :=
  bif roomy ((0 : Nat) + x.snd.snd.fst.length) (1 : Nat) then
  some (x.fst, x.snd.fst, (0 : Nat) + x.snd.snd.fst.length, [] ++ x.snd.snd.fst, ())
else none
noncomputable def F16 : CF tC := mkF tC S16 f16
theorem f16_run : ∀ a, fnS tC G16 (look []) Try.f16 S16 a = f16 a := fun a => by kernel_rfl
theorem F16_ok : CFOK tC 16 F16 := mkF_ok Y16 (fn := Try.f16) (body := bodyOf Try.f16) (by kernel_rfl) (by kernel_rfl) (by kernel_rfl) (m := 0) rfl (lam_le lam_nil) f16_run

/-! awake -/
noncomputable def G14 : FuncId → Option (CF tC) := look [(21, F21), (17, F17), (19, F19)]
theorem Y14 : SysN tC G14 := (sys_cons F21_ok (mkF_nat _ _) (sys_cons F17_ok (mkF_nat _ _) (sys_cons F19_ok (mkF_nat _ _) (sys_nil tC_ok tC_eq))))
def S14 : FS := ⟨[], [⟨[], []⟩], [⟨[vO], []⟩], [[.v]], []⟩
noncomputable def f14 (_x : Unit) : Option (Bool × Unit) :=
  (f21
      ((3 : Int), (2 : Int), [(1 : Int), (1 : Int), (1 : Int), (1 : Int), (2 : Int), (1 : Int)], (0 : Int), (1 : Int), (2 : Int), (1 : Int),
        ())).bind
  fun y12 =>
  (f17 ((3 : Int), (2 : Int), [(1 : Int), (1 : Int), (1 : Int), (1 : Int), (2 : Int), (1 : Int)], (0 : Int), (0 : Int), ())).bind fun y11 =>
    bif y12.snd.snd.fst == (0 : Int) then
      bif y12.snd.fst == (280 : Int) then
        bif (↑y12.fst : Int) == (5 : Int) then
          bif y11.snd.fst == (0 : Int) then
            bif decide ((0 : Nat) + y11.fst ≤ y11.snd.snd.fst.length) then
              (f19
                    (List.take y11.fst (List.drop (0 : Nat) y11.snd.snd.fst),
                      [(0 : Int), (70 : Int), (140 : Int), (70 : Int), (-1 : Int), (210 : Int)], ())).bind
                fun y10 => some (y10.fst, ())
            else none
          else some (false, ())
        else some (false, ())
      else some (false, ())
    else some (false, ())
noncomputable def F14 : CF tC := mkF tC S14 f14
theorem f14_run : ∀ a, fnS tC G14 (look []) Try.f14 S14 a = f14 a := fun a => by kernel_rfl
theorem F14_ok : CFOK tC 14 F14 := mkF_ok Y14 (fn := Try.f14) (body := bodyOf Try.f14) (by kernel_rfl) (by kernel_rfl) (by kernel_rfl) (m := 0) rfl (lam_le lam_nil) f14_run

/-! PathCosts -/
noncomputable def G3 : FuncId → Option (CF tC) := look [(14, F14), (15, F15), (16, F16), (17, F17), (18, F18), (19, F19), (20, F20)]
theorem Y3 : SysN tC G3 := (sys_cons F14_ok (mkF_nat _ _) (sys_cons F15_ok (mkF_nat _ _) (sys_cons F16_ok (mkF_nat _ _) (sys_cons F17_ok (mkF_nat _ _) (sys_cons F18_ok (mkF_nat _ _) (sys_cons F19_ok (mkF_nat _ _) (sys_cons F20_ok (mkF_nat _ _) (sys_nil tC_ok tC_eq))))))))
def S3 : FS := ⟨[[.v, .v, .s 5], [.v, .v]], [⟨[.one (.agg [.int .i64, .int .i64, .imm 5]), .one (.agg [.int .i64, .int .i64])], []⟩], [⟨[vO], []⟩], [[.v]], []⟩
noncomputable def f3 (x : Int × Int × List Int × Int × Int × Unit) : Option (Bool × Unit) :=
  (f14 ()).bind fun y27 =>
  bif !y27.fst then (f14 ()).bind fun y21 => some (y21.fst, ())
  else
    bif !f15 x.fst x.snd.fst x.snd.snd.fst then (f14 ()).bind fun y22 => some (y22.fst, ())
    else
      (f16 (x.fst, x.snd.fst, x.snd.snd.fst, ())).bind fun y26 =>
        bif decide ((0 : Nat) + y26.snd.snd.fst ≤ y26.snd.snd.snd.fst.length) then
          (f17
                (y26.fst, y26.snd.fst, List.take y26.snd.snd.fst (List.drop (0 : Nat) y26.snd.snd.snd.fst), x.snd.snd.snd.fst,
                  x.snd.snd.snd.snd.fst, ())).bind
            fun y25 =>
            (f18 (x.fst, x.snd.fst, x.snd.snd.fst, x.snd.snd.snd.fst, x.snd.snd.snd.snd.fst, ())).bind fun y24 =>
              bif y25.snd.fst == y24.snd.fst then
                bif decide ((0 : Nat) + y25.fst ≤ y25.snd.snd.fst.length) then
                  bif decide ((0 : Nat) + y24.fst ≤ y24.snd.snd.fst.length) then
                    (f19
                          (List.take y25.fst (List.drop (0 : Nat) y25.snd.snd.fst), List.take y24.fst (List.drop (0 : Nat) y24.snd.snd.fst),
                            ())).bind
                      fun y23 =>
                      bif y23.fst then
                        bif decide ((0 : Nat) + y26.snd.snd.fst ≤ y26.snd.snd.snd.fst.length) then
                          some
                            (f20 x.fst x.snd.fst x.snd.snd.fst y26.fst y26.snd.fst
                                (List.take y26.snd.snd.fst (List.drop (0 : Nat) y26.snd.snd.snd.fst)),
                              ())
                        else none
                      else some (false, ())
                  else none
                else none
              else some (false, ())
        else none
noncomputable def F3 : CF tC := mkF tC S3 f3
theorem f3_run : ∀ a, fnS tC G3 (look []) Try.f3 S3 a = f3 a := fun a => by kernel_rfl
theorem F3_ok : CFOK tC 3 F3 := mkF_ok Y3 (fn := Try.f3) (body := bodyOf Try.f3) (by kernel_rfl) (by kernel_rfl) (by kernel_rfl) (m := 0) rfl (lam_le lam_nil) f3_run

/-! PathFinds -/
noncomputable def G4 : FuncId → Option (CF tC) := look [(14, F14), (15, F15), (21, F21), (22, F22), (23, F23)]
theorem Y4 : SysN tC G4 := (sys_cons F14_ok (mkF_nat _ _) (sys_cons F15_ok (mkF_nat _ _) (sys_cons F21_ok (mkF_nat _ _) (sys_cons F22_ok (mkF_nat _ _) (sys_cons F23_ok (mkF_nat _ _) (sys_nil tC_ok tC_eq))))))
def S4 : FS := ⟨[[.v, .v, .s 5], [.v, .v], [.v, .v]], [⟨[.one (.agg [.int .i64, .int .i64, .imm 5]), .one (.agg [.int .i64, .int .i64]), .one (.agg [.int .i64, .int .i64])], []⟩], [⟨[vO], []⟩], [[.v]], []⟩
noncomputable def f4 (x : Int × Int × List Int × Int × Int × Int × Int × Unit) : Option (Bool × Unit) :=
  (f14 ()).bind fun y26 =>
  bif !y26.fst then (f14 ()).bind fun y21 => some (y21.fst, ())
  else
    bif !f15 x.fst x.snd.fst x.snd.snd.fst then (f14 ()).bind fun y22 => some (y22.fst, ())
    else
      (f21
            (x.fst, x.snd.fst, x.snd.snd.fst, x.snd.snd.snd.fst, x.snd.snd.snd.snd.fst, x.snd.snd.snd.snd.snd.fst,
              x.snd.snd.snd.snd.snd.snd.fst, ())).bind
        fun y25 =>
        (f22
              (x.fst, x.snd.fst, x.snd.snd.fst, x.snd.snd.snd.fst, x.snd.snd.snd.snd.fst, x.snd.snd.snd.snd.snd.fst,
                x.snd.snd.snd.snd.snd.snd.fst, ())).bind
          fun y24 =>
          bif y25.snd.snd.fst == y24.snd.snd.fst then
            bif y25.snd.fst == y24.snd.fst then
              bif decide ((0 : Nat) + y25.fst ≤ y25.snd.snd.snd.fst.length) then
                bif decide ((0 : Nat) + y24.fst ≤ y24.snd.snd.snd.fst.length) then
                  (f23
                        (List.take y25.fst (List.drop (0 : Nat) y25.snd.snd.snd.fst),
                          List.take y24.fst (List.drop (0 : Nat) y24.snd.snd.snd.fst), ())).bind
                    fun y23 => some (y23.fst, ())
                else none
              else none
            else some (false, ())
          else some (false, ())
noncomputable def F4 : CF tC := mkF tC S4 f4
theorem f4_run : ∀ a, fnS tC G4 (look []) Try.f4 S4 a = f4 a := fun a => by kernel_rfl
theorem F4_ok : CFOK tC 4 F4 := mkF_ok Y4 (fn := Try.f4) (body := bodyOf Try.f4) (by kernel_rfl) (by kernel_rfl) (by kernel_rfl) (m := 0) rfl (lam_le lam_nil) f4_run

/-! PathSuffix -/
noncomputable def G5 : FuncId → Option (CF tC) := look [(14, F14), (15, F15), (21, F21), (23, F23)]
theorem Y5 : SysN tC G5 := (sys_cons F14_ok (mkF_nat _ _) (sys_cons F15_ok (mkF_nat _ _) (sys_cons F21_ok (mkF_nat _ _) (sys_cons F23_ok (mkF_nat _ _) (sys_nil tC_ok tC_eq)))))
noncomputable def c5_0 : Code := loopOf (bodyOf Try.f5) 0
def p5_0 : LS := ⟨0, [3, 5, 7, 10], ⟨[vB, vB, vB, .one (.one (.ptr 0 0 0)), vB, .one (.one (.ptr 1 0 0)), vB, .one (.one (.sl 2)), vB, vB, vI] ++ vBs 54, [.box [.int .i64, .int .i64, .imm 5], .box [.int .i64, .int .i64], .arr 26]⟩, [⟨.ret, [6], ⟨vBs 6 ++ [vO] ++ vBs 58, []⟩, []⟩, ⟨.exit 0, [7], ⟨vBs 7 ++ [.one (.one (.sl 0))] ++ vBs 57, [.arr 26]⟩, []⟩], []⟩
noncomputable def r5_0 (x : Nat × Int × Int × Int × List Int × Int × Int × List Pt × Unit) : Option (Nat × Int × Int × Int × List Int × Int × Int × List Pt × Unit ⊕ Bool × Unit ⊕ Nat × List Pt × Unit) :=
  bif decide (x.snd.fst < (↑x.fst : Int)) then
  bif decide ((0 : Int) ≤ x.snd.fst) && decide (x.snd.fst < (↑x.fst : Int)) then
    x.snd.snd.snd.snd.snd.snd.snd.fst[(0 : Nat) + x.snd.fst.toNat]?.bind fun y34 =>
      (f21
            (x.snd.snd.fst, x.snd.snd.snd.fst, x.snd.snd.snd.snd.fst, y34.X, y34.Y, x.snd.snd.snd.snd.snd.fst,
              x.snd.snd.snd.snd.snd.snd.fst, ())).bind
        fun y33 =>
        bif y33.snd.snd.fst != (0 : Int) then some (Sum.inr (Sum.inl (false, ())))
        else
          bif
              decide ((0 : Int) ≤ x.snd.fst) && decide (x.snd.fst ≤ (↑x.fst : Int)) && decide ((↑x.fst : Int) ≤ (↑x.fst : Int)) &&
                decide ((↑x.fst : Int) ≤ (↑x.fst : Int)) then
            bif decide ((0 : Nat) + y33.fst ≤ y33.snd.snd.snd.fst.length) then
              bif
                  decide
                    ((0 : Nat) + x.snd.fst.toNat + ((↑x.fst : Int).toNat - x.snd.fst.toNat) ≤ x.snd.snd.snd.snd.snd.snd.snd.fst.length) then
                (f23
                      (List.take y33.fst (List.drop (0 : Nat) y33.snd.snd.snd.fst),
                        List.take ((↑x.fst : Int).toNat - x.snd.fst.toNat)
                          (List.drop ((0 : Nat) + x.snd.fst.toNat) x.snd.snd.snd.snd.snd.snd.snd.fst),
                        ())).bind
                  fun y32 =>
                  bif !y32.fst then some (Sum.inr (Sum.inl (false, ())))
                  else
                    some
                      (Sum.inl
                        (x.fst, IntKind.i64.wrap (x.snd.fst + (1 : Int)), x.snd.snd.fst, x.snd.snd.snd.fst, x.snd.snd.snd.snd.fst,
                          x.snd.snd.snd.snd.snd.fst, x.snd.snd.snd.snd.snd.snd.fst, x.snd.snd.snd.snd.snd.snd.snd.fst, ()))
              else none
            else none
          else none
  else none
else some (Sum.inr (Sum.inr (x.fst, x.snd.snd.snd.snd.snd.snd.snd.fst, ())))
theorem r5_0_run0 (v0 : Nat) (v1 : Int) (v2 : Int) (v3 : Int) (v4 : List Int) (v5 : Int) (v6 : Int) (v7 : List Pt) : roundK tC G5 (look []) c5_0 p5_0 (v0, v1, v2, v3, v4, v5, v6, v7, ()) = r5_0 (v0, v1, v2, v3, v4, v5, v6, v7, ()) := by kernel_rfl
theorem r5_0_run (x : Nat × Int × Int × Int × List Int × Int × Int × List Pt × Unit) : roundK tC G5 (look []) c5_0 p5_0 x = r5_0 x := r5_0_run0 x.1 x.2.1 x.2.2.1 x.2.2.2.1 x.2.2.2.2.1 x.2.2.2.2.2.1 x.2.2.2.2.2.2.1 x.2.2.2.2.2.2.2.1
noncomputable def l5_0 (x : Nat × Int × Int × Int × List Int × Int × Int × List Pt × Unit) : Option (Bool × Unit ⊕ Nat × List Pt × Unit) := iterO r5_0 x
noncomputable def W5_0 : LF tC := loopW tC p5_0 0 l5_0
theorem W5_0_ok : keyed 0 (bodyOf Try.f5) = [.block 0 (.loop c5_0)] ∧ ∀ n, n ≤ 0 → Snd tC n (.block 0 (.loop c5_0)) W5_0.k := ⟨by kernel_rfl, fun n hn => loopW_ok (p := p5_0) (id := 0) Y5 (lam_le lam_nil n hn) hn r5_0_run⟩
def S5 : FS := ⟨[[.v, .v, .s 5], [.v, .v], [.v, .v]], [⟨[.one (.agg [.int .i64, .int .i64, .imm 5]), .one (.agg [.int .i64, .int .i64]), .one (.agg [.int .i64, .int .i64])], []⟩], [⟨[vO], []⟩], [[.v]], []⟩
noncomputable def f5 (x : Int × Int × List Int × Int × Int × Int × Int × Unit) : Option (Bool × Unit) :=
  (f14 ()).bind fun y45 =>
  bif !y45.fst then (f14 ()).bind fun y39 => some (y39.fst, ())
  else
    bif !f15 x.fst x.snd.fst x.snd.snd.fst then (f14 ()).bind fun y40 => some (y40.fst, ())
    else
      (f21
            (x.fst, x.snd.fst, x.snd.snd.fst, x.snd.snd.snd.fst, x.snd.snd.snd.snd.fst, x.snd.snd.snd.snd.snd.fst,
              x.snd.snd.snd.snd.snd.snd.fst, ())).bind
        fun y44 =>
        bif y44.snd.snd.fst != (0 : Int) then some ((↑y44.fst : Int) == (0 : Int), ())
        else
          (l5_0
                (y44.fst, (0 : Int), x.fst, x.snd.fst, x.snd.snd.fst, x.snd.snd.snd.snd.snd.fst, x.snd.snd.snd.snd.snd.snd.fst,
                  y44.snd.snd.snd.fst, ())).bind
            fun y43 => Sum.elim (fun y41 => some (y41.fst, ())) (fun y42 => some (decide ((↑y42.fst : Int) > (0 : Int)), ())) y43
noncomputable def F5 : CF tC := mkF tC S5 f5
theorem f5_run : ∀ a, fnS tC G5 (look [(0, W5_0)]) Try.f5 S5 a = f5 a := fun a => by kernel_rfl
theorem F5_ok : CFOK tC 5 F5 := mkF_ok Y5 (fn := Try.f5) (body := bodyOf Try.f5) (by kernel_rfl) (by kernel_rfl) (by kernel_rfl) (m := 0) rfl (lam_le (lam_cons W5_0_ok lam_nil)) f5_run

/-! PathOpens -/
noncomputable def G6 : FuncId → Option (CF tC) := look [(14, F14), (15, F15), (16, F16), (17, F17), (24, F24), (25, F25), (26, F26)]
theorem Y6 : SysN tC G6 := (sys_cons F14_ok (mkF_nat _ _) (sys_cons F15_ok (mkF_nat _ _) (sys_cons F16_ok (mkF_nat _ _) (sys_cons F17_ok (mkF_nat _ _) (sys_cons F24_ok (mkF_nat _ _) (sys_cons F25_ok (mkF_nat _ _) (sys_cons F26_ok (mkF_nat _ _) (sys_nil tC_ok tC_eq))))))))
noncomputable def c6_46 : Code := subCode (loopOf (bodyOf Try.f6) 0) 46
def p6_46 : PS := ⟨0, [3, 4, 7, 10, 12], ⟨[vB, vB, vB, .one (.one (.ptr 0 0 0)), .one (.one (.ptr 1 0 0)), vB, vB, .one (.one (.sl 2)), vB, vB, .one (.one (.sl 3)), vB, vI] ++ vBs 117, [.box [.int .i64, .int .i64, .imm 5], .box [.int .i64, .int .i64], .arr 3, .arr 3]⟩, [⟨.normal, [3, 4, 7, 10, 12], ⟨[vB, vB, vB, .one (.one (.ptr 0 0 0)), .one (.one (.ptr 1 0 0)), vB, vB, .one (.one (.sl 2)), vB, vB, .one (.one (.sl 3)), vB, vI] ++ vBs 117, [.box [.int .i64, .int .i64, .imm 5], .box [.int .i64, .int .i64], .arr 3, .arr 3]⟩, []⟩], []⟩
noncomputable def j6_46 (x : Nat × Nat × Int × Int × Int × List Int × Int × Int × List Int × List Int × Unit) : Option (Nat × Nat × Int × Int × Int × List Int × Int × Int × List Int × List Int × Unit) :=
  some
  (x.fst, x.snd.fst, IntKind.i64.wrap (x.snd.snd.fst + (1 : Int)), x.snd.snd.snd.fst, x.snd.snd.snd.snd.fst, x.snd.snd.snd.snd.snd.fst,
    x.snd.snd.snd.snd.snd.snd.fst, x.snd.snd.snd.snd.snd.snd.snd.fst, x.snd.snd.snd.snd.snd.snd.snd.snd.fst,
    x.snd.snd.snd.snd.snd.snd.snd.snd.snd.fst, ())
theorem j6_46_run0 (v0 : Nat) (v1 : Nat) (v2 : Int) (v3 : Int) (v4 : Int) (v5 : List Int) (v6 : Int) (v7 : Int) (v8 : List Int) (v9 : List Int) : pieceK tC G6 (look []) c6_46 p6_46 (v0, v1, v2, v3, v4, v5, v6, v7, v8, v9, ()) = j6_46 (v0, v1, v2, v3, v4, v5, v6, v7, v8, v9, ()) := by kernel_rfl
theorem j6_46_run (x : Nat × Nat × Int × Int × Int × List Int × Int × Int × List Int × List Int × Unit) : pieceK tC G6 (look []) c6_46 p6_46 x = j6_46 x := j6_46_run0 x.1 x.2.1 x.2.2.1 x.2.2.2.1 x.2.2.2.2.1 x.2.2.2.2.2.1 x.2.2.2.2.2.2.1 x.2.2.2.2.2.2.2.1 x.2.2.2.2.2.2.2.2.1 x.2.2.2.2.2.2.2.2.2.1
noncomputable def W6_46 : LF tC := cutLF tC p6_46 j6_46
theorem W6_46_ok : keyed 46 (loopOf (bodyOf Try.f6) 0) = [c6_46] ∧ ∀ n, n ≤ 0 → Snd tC n c6_46 W6_46.k := ⟨by kernel_rfl, fun n hn => cut_ok (p := p6_46) Y6 (lam_le lam_nil n hn) hn j6_46_run⟩
noncomputable def c6_0 : Code := loopOf (bodyOf Try.f6) 0
def p6_0 : LS := ⟨0, [3, 4, 7, 10, 12], ⟨[vB, vB, vB, .one (.one (.ptr 0 0 0)), .one (.one (.ptr 1 0 0)), vB, vB, .one (.one (.sl 2)), vB, vB, .one (.one (.sl 3)), vB, vI] ++ vBs 117, [.box [.int .i64, .int .i64, .imm 5], .box [.int .i64, .int .i64], .arr 3, .arr 3]⟩, [⟨.ret, [6], ⟨vBs 6 ++ [vO] ++ vBs 123, []⟩, []⟩, ⟨.exit 0, [3, 4, 10], ⟨[vB, vB, vB, .one (.one (.ptr 0 0 0)), .one (.one (.ptr 1 0 0))] ++ vBs 5 ++ [.one (.one (.sl 2))] ++ vBs 119, [.box [.int .i64, .int .i64, .imm 5], .box [.int .i64, .int .i64], .arr 3]⟩, []⟩], []⟩
noncomputable def r6_0 (x : Nat × Nat × Int × Int × Int × List Int × Int × Int × List Int × List Int × Unit) : Option
  (Nat × Nat × Int × Int × Int × List Int × Int × Int × List Int × List Int × Unit ⊕
    Bool × Unit ⊕ Nat × Int × Int × List Int × Int × Int × List Int × Unit) :=
  bif decide (x.snd.snd.fst < (↑x.snd.fst : Int)) then
  bif decide ((0 : Int) ≤ x.snd.snd.fst) && decide (x.snd.snd.fst < (↑x.fst : Int)) then
    x.snd.snd.snd.snd.snd.snd.snd.snd.fst[(0 : Nat) + x.snd.snd.fst.toNat]?.bind fun y91 =>
      bif y91 != (-1 : Int) then
        bif decide ((0 : Int) ≤ x.snd.snd.fst) && decide (x.snd.snd.fst < (↑x.snd.fst : Int)) then
          x.snd.snd.snd.snd.snd.snd.snd.snd.snd.fst[(0 : Nat) + x.snd.snd.fst.toNat]?.bind fun y89 =>
            bif y89 == (-1 : Int) then some (Sum.inr (Sum.inl (false, ())))
            else
              bif decide ((0 : Int) ≤ x.snd.snd.fst) && decide (x.snd.snd.fst < (↑x.snd.fst : Int)) then
                x.snd.snd.snd.snd.snd.snd.snd.snd.snd.fst[(0 : Nat) + x.snd.snd.fst.toNat]?.bind fun y88 =>
                  bif decide ((0 : Int) ≤ x.snd.snd.fst) && decide (x.snd.snd.fst < (↑x.fst : Int)) then
                    x.snd.snd.snd.snd.snd.snd.snd.snd.fst[(0 : Nat) + x.snd.snd.fst.toNat]?.bind fun y87 =>
                      bif decide (y88 > y87) then some (Sum.inr (Sum.inl (false, ())))
                      else
                        (j6_46
                              (x.fst, x.snd.fst, x.snd.snd.fst, x.snd.snd.snd.fst, x.snd.snd.snd.snd.fst, x.snd.snd.snd.snd.snd.fst,
                                x.snd.snd.snd.snd.snd.snd.fst, x.snd.snd.snd.snd.snd.snd.snd.fst, x.snd.snd.snd.snd.snd.snd.snd.snd.fst,
                                x.snd.snd.snd.snd.snd.snd.snd.snd.snd.fst, ())).bind
                          fun y86 =>
                          some
                            (Sum.inl
                              (y86.fst, y86.snd.fst, y86.snd.snd.fst, y86.snd.snd.snd.fst, y86.snd.snd.snd.snd.fst,
                                y86.snd.snd.snd.snd.snd.fst, y86.snd.snd.snd.snd.snd.snd.fst, y86.snd.snd.snd.snd.snd.snd.snd.fst,
                                y86.snd.snd.snd.snd.snd.snd.snd.snd.fst, y86.snd.snd.snd.snd.snd.snd.snd.snd.snd.fst, ()))
                  else none
              else none
        else none
      else
        (j6_46
              (x.fst, x.snd.fst, x.snd.snd.fst, x.snd.snd.snd.fst, x.snd.snd.snd.snd.fst, x.snd.snd.snd.snd.snd.fst,
                x.snd.snd.snd.snd.snd.snd.fst, x.snd.snd.snd.snd.snd.snd.snd.fst, x.snd.snd.snd.snd.snd.snd.snd.snd.fst,
                x.snd.snd.snd.snd.snd.snd.snd.snd.snd.fst, ())).bind
          fun y90 =>
          some
            (Sum.inl
              (y90.fst, y90.snd.fst, y90.snd.snd.fst, y90.snd.snd.snd.fst, y90.snd.snd.snd.snd.fst, y90.snd.snd.snd.snd.snd.fst,
                y90.snd.snd.snd.snd.snd.snd.fst, y90.snd.snd.snd.snd.snd.snd.snd.fst, y90.snd.snd.snd.snd.snd.snd.snd.snd.fst,
                y90.snd.snd.snd.snd.snd.snd.snd.snd.snd.fst, ()))
  else none
else
  some
    (Sum.inr
      (Sum.inr
        (x.snd.fst, x.snd.snd.snd.fst, x.snd.snd.snd.snd.fst, x.snd.snd.snd.snd.snd.fst, x.snd.snd.snd.snd.snd.snd.fst,
          x.snd.snd.snd.snd.snd.snd.snd.fst, x.snd.snd.snd.snd.snd.snd.snd.snd.snd.fst, ())))
theorem r6_0_run0 (v0 : Nat) (v1 : Nat) (v2 : Int) (v3 : Int) (v4 : Int) (v5 : List Int) (v6 : Int) (v7 : Int) (v8 : List Int) (v9 : List Int) : roundK tC G6 (look [(46, W6_46)]) c6_0 p6_0 (v0, v1, v2, v3, v4, v5, v6, v7, v8, v9, ()) = r6_0 (v0, v1, v2, v3, v4, v5, v6, v7, v8, v9, ()) := by kernel_rfl
theorem r6_0_run (x : Nat × Nat × Int × Int × Int × List Int × Int × Int × List Int × List Int × Unit) : roundK tC G6 (look [(46, W6_46)]) c6_0 p6_0 x = r6_0 x := r6_0_run0 x.1 x.2.1 x.2.2.1 x.2.2.2.1 x.2.2.2.2.1 x.2.2.2.2.2.1 x.2.2.2.2.2.2.1 x.2.2.2.2.2.2.2.1 x.2.2.2.2.2.2.2.2.1 x.2.2.2.2.2.2.2.2.2.1
noncomputable def l6_0 (x : Nat × Nat × Int × Int × Int × List Int × Int × Int × List Int × List Int × Unit) : Option (Bool × Unit ⊕ Nat × Int × Int × List Int × Int × Int × List Int × Unit) := iterO r6_0 x
noncomputable def W6_0 : LF tC := loopW tC p6_0 0 l6_0
theorem W6_0_ok : keyed 0 (bodyOf Try.f6) = [.block 0 (.loop c6_0)] ∧ ∀ n, n ≤ 0 → Snd tC n (.block 0 (.loop c6_0)) W6_0.k := ⟨by kernel_rfl, fun n hn => loopW_ok (p := p6_0) (id := 0) Y6 (lam_le (lam_cons W6_46_ok lam_nil) n hn) hn r6_0_run⟩
def S6 : FS := ⟨[[.v, .v, .s 5], [.v, .v], [.v, .v]], [⟨[.one (.agg [.int .i64, .int .i64, .imm 5]), .one (.agg [.int .i64, .int .i64]), .one (.agg [.int .i64, .int .i64])], []⟩], [⟨[vO], []⟩], [[.v]], []⟩
noncomputable def f6 (x : Int × Int × List Int × Int × Int × Int × Int × Unit) : Option (Bool × Unit) :=
  (f14 ()).bind fun y114 =>
  bif !y114.fst then (f14 ()).bind fun y102 => some (y102.fst, ())
  else
    bif !f15 x.fst x.snd.fst x.snd.snd.fst then (f14 ()).bind fun y103 => some (y103.fst, ())
    else
      (f17 (x.fst, x.snd.fst, x.snd.snd.fst, x.snd.snd.snd.fst, x.snd.snd.snd.snd.fst, ())).bind fun y113 =>
        (f24 (x.fst, x.snd.fst, x.snd.snd.fst, ())).bind fun y112 =>
          bif !y112.fst then bif (↑y113.fst : Int) == (0 : Int) then some (true, ()) else some (y113.snd.fst == (0 : Int), ())
          else
            (f25 (x.fst, x.snd.fst, x.snd.snd.fst, x.snd.snd.snd.fst, x.snd.snd.snd.snd.fst, ())).bind fun y111 =>
              bif y111.fst != (1 : Int) then
                bif (↑y113.fst : Int) == (0 : Int) then some (true, ()) else some (y113.snd.fst == (0 : Int), ())
              else
                bif !f26 x.fst x.snd.fst x.snd.snd.fst x.snd.snd.snd.snd.snd.fst x.snd.snd.snd.snd.snd.snd.fst then
                  bif (↑y113.fst : Int) == (0 : Int) then some (true, ()) else some (y113.snd.fst == (0 : Int), ())
                else
                  bif y113.snd.fst != (0 : Int) then some (false, ())
                  else
                    (f16 (x.fst, x.snd.fst, x.snd.snd.fst, ())).bind fun y110 =>
                      bif
                          decide
                              ((0 : Int) ≤
                                IntKind.i64.wrap (IntKind.i64.wrap (x.snd.snd.snd.snd.snd.snd.fst * x.fst) + x.snd.snd.snd.snd.snd.fst)) &&
                            decide
                              (IntKind.i64.wrap (IntKind.i64.wrap (x.snd.snd.snd.snd.snd.snd.fst * x.fst) + x.snd.snd.snd.snd.snd.fst) <
                                (↑y110.snd.snd.fst : Int)) then
                        y110.snd.snd.snd.fst[(0 : Nat) +
                                (IntKind.i64.wrap
                                    (IntKind.i64.wrap (x.snd.snd.snd.snd.snd.snd.fst * x.fst) + x.snd.snd.snd.snd.snd.fst)).toNat]?.bind
                          fun _x =>
                          bif
                              decide
                                ((0 : Nat) + y110.snd.snd.fst ≤
                                  (y110.snd.snd.snd.fst.set
                                      ((0 : Nat) +
                                        (IntKind.i64.wrap
                                            (IntKind.i64.wrap (x.snd.snd.snd.snd.snd.snd.fst * x.fst) + x.snd.snd.snd.snd.snd.fst)).toNat)
                                      (1 : Int)).length) then
                            (f17
                                  (y110.fst, y110.snd.fst,
                                    List.take y110.snd.snd.fst
                                      (List.drop (0 : Nat)
                                        (y110.snd.snd.snd.fst.set
                                          ((0 : Nat) +
                                            (IntKind.i64.wrap
                                                (IntKind.i64.wrap (x.snd.snd.snd.snd.snd.snd.fst * x.fst) +
                                                  x.snd.snd.snd.snd.snd.fst)).toNat)
                                          (1 : Int))),
                                    x.snd.snd.snd.fst, x.snd.snd.snd.snd.fst, ())).bind
                              fun y108 =>
                              bif y108.snd.fst != (0 : Int) then some (false, ())
                              else
                                bif (↑y113.fst : Int) != (↑y108.fst : Int) then some (false, ())
                                else
                                  bif (↑y108.fst : Int) != IntKind.i64.wrap (x.fst * x.snd.fst) then some (false, ())
                                  else
                                    (l6_0
                                          (y113.fst, y108.fst, (0 : Int), x.fst, x.snd.fst, x.snd.snd.fst, x.snd.snd.snd.fst,
                                            x.snd.snd.snd.snd.fst, y113.snd.snd.fst, y108.snd.snd.fst, ())).bind
                                      fun y107 =>
                                      Sum.elim (fun y104 => some (y104.fst, ()))
                                        (fun y106 =>
                                          bif
                                              decide
                                                  ((0 : Int) ≤
                                                    IntKind.i64.wrap
                                                      (IntKind.i64.wrap (y106.snd.snd.snd.snd.snd.fst * y106.snd.fst) +
                                                        y106.snd.snd.snd.snd.fst)) &&
                                                decide
                                                  (IntKind.i64.wrap
                                                      (IntKind.i64.wrap (y106.snd.snd.snd.snd.snd.fst * y106.snd.fst) +
                                                        y106.snd.snd.snd.snd.fst) <
                                                    (↑y106.fst : Int)) then
                                            y106.snd.snd.snd.snd.snd.snd.fst[(0 : Nat) +
                                                    (IntKind.i64.wrap
                                                        (IntKind.i64.wrap (y106.snd.snd.snd.snd.snd.fst * y106.snd.fst) +
                                                          y106.snd.snd.snd.snd.fst)).toNat]?.bind
                                              fun y105 => some (y105 == (0 : Int), ())
                                          else none)
                                        y107
                          else none
                      else none
noncomputable def F6 : CF tC := mkF tC S6 f6
theorem f6_run : ∀ a, fnS tC G6 (look [(0, W6_0)]) Try.f6 S6 a = f6 a := fun a => by kernel_rfl
theorem F6_ok : CFOK tC 6 F6 := mkF_ok Y6 (fn := Try.f6) (body := bodyOf Try.f6) (by kernel_rfl) (by kernel_rfl) (by kernel_rfl) (m := 0) rfl (lam_le (lam_cons W6_0_ok lam_nil)) f6_run

/-! PathSymmetric -/
noncomputable def G7 : FuncId → Option (CF tC) := look [(14, F14), (15, F15), (21, F21), (27, F27)]
theorem Y7 : SysN tC G7 := (sys_cons F14_ok (mkF_nat _ _) (sys_cons F15_ok (mkF_nat _ _) (sys_cons F21_ok (mkF_nat _ _) (sys_cons F27_ok (mkF_nat _ _) (sys_nil tC_ok tC_eq)))))
def S7 : FS := ⟨[[.v, .v, .s 5], [.v, .v], [.v, .v]], [⟨[.one (.agg [.int .i64, .int .i64, .imm 5]), .one (.agg [.int .i64, .int .i64]), .one (.agg [.int .i64, .int .i64])], []⟩], [⟨[vO], []⟩], [[.v]], []⟩
noncomputable def f7 (x : Int × Int × List Int × Int × Int × Int × Int × Unit) : Option (Bool × Unit) :=
  (f14 ()).bind fun y28 =>
  bif !y28.fst then (f14 ()).bind fun y22 => some (y22.fst, ())
  else
    bif !f15 x.fst x.snd.fst x.snd.snd.fst then (f14 ()).bind fun y23 => some (y23.fst, ())
    else
      (f21
            (x.fst, x.snd.fst, x.snd.snd.fst, x.snd.snd.snd.fst, x.snd.snd.snd.snd.fst, x.snd.snd.snd.snd.snd.fst,
              x.snd.snd.snd.snd.snd.snd.fst, ())).bind
        fun y27 =>
        (f21
              (x.fst, x.snd.fst, x.snd.snd.fst, x.snd.snd.snd.snd.snd.fst, x.snd.snd.snd.snd.snd.snd.fst, x.snd.snd.snd.fst,
                x.snd.snd.snd.snd.fst, ())).bind
          fun y26 =>
          bif y27.snd.snd.fst == y26.snd.snd.fst then
            bif y27.snd.fst == y26.snd.fst then
              (f27
                    (x.fst, x.snd.fst, x.snd.snd.fst, x.snd.snd.snd.fst, x.snd.snd.snd.snd.fst, x.snd.snd.snd.snd.snd.fst,
                      x.snd.snd.snd.snd.snd.snd.fst, ())).bind
                fun y25 =>
                (f27
                      (x.fst, x.snd.fst, x.snd.snd.fst, x.snd.snd.snd.snd.snd.fst, x.snd.snd.snd.snd.snd.snd.fst, x.snd.snd.snd.fst,
                        x.snd.snd.snd.snd.fst, ())).bind
                  fun y24 => some (y25.fst == y24.fst, ())
            else some (false, ())
          else some (false, ())
noncomputable def F7 : CF tC := mkF tC S7 f7
theorem f7_run : ∀ a, fnS tC G7 (look []) Try.f7 S7 a = f7 a := fun a => by kernel_rfl
theorem F7_ok : CFOK tC 7 F7 := mkF_ok Y7 (fn := Try.f7) (body := bodyOf Try.f7) (by kernel_rfl) (by kernel_rfl) (by kernel_rfl) (m := 0) rfl (lam_le lam_nil) f7_run

/-! PathChecks -/
noncomputable def G8 : FuncId → Option (CF tC) := look [(14, F14), (15, F15), (17, F17), (28, F28), (29, F29)]
theorem Y8 : SysN tC G8 := (sys_cons F14_ok (mkF_nat _ _) (sys_cons F15_ok (mkF_nat _ _) (sys_cons F17_ok (mkF_nat _ _) (sys_cons F28_ok (mkF_nat _ _) (sys_cons F29_ok (mkF_nat _ _) (sys_nil tC_ok tC_eq))))))
def S8 : FS := ⟨[[.v, .v, .s 5], [.v, .v], [.s 3]], [⟨[.one (.agg [.int .i64, .int .i64, .imm 5]), .one (.agg [.int .i64, .int .i64]), .one (.one (.imm 3))], []⟩], [⟨[vO], []⟩], [[.v]], []⟩
noncomputable def f8 (x : Int × Int × List Int × Int × Int × List Int × Unit) : Option (Bool × Unit) :=
  (f14 ()).bind fun y25 =>
  bif !y25.fst then (f14 ()).bind fun y18 => some (y18.fst, ())
  else
    bif !f15 x.fst x.snd.fst x.snd.snd.fst then (f14 ()).bind fun y19 => some (y19.fst, ())
    else
      bif decide ((↑x.snd.snd.snd.snd.snd.fst.length : Int) > (500 : Int)) then (f14 ()).bind fun y20 => some (y20.fst, ())
      else
        (f17 (x.fst, x.snd.fst, x.snd.snd.fst, x.snd.snd.snd.fst, x.snd.snd.snd.snd.fst, ())).bind fun y24 =>
          (f28 (x.fst, x.snd.fst, x.snd.snd.fst, x.snd.snd.snd.fst, x.snd.snd.snd.snd.fst, x.snd.snd.snd.snd.snd.fst, ())).bind fun y23 =>
            (f29 (x.fst, x.snd.fst, x.snd.snd.fst, x.snd.snd.snd.fst, x.snd.snd.snd.snd.fst, x.snd.snd.snd.snd.snd.fst, ())).bind fun y22 =>
              bif y23.fst == y22.fst then
                bif decide ((0 : Nat) + y24.fst ≤ y24.snd.snd.fst.length) then
                  (f28
                        (x.fst, x.snd.fst, x.snd.snd.fst, x.snd.snd.snd.fst, x.snd.snd.snd.snd.fst,
                          List.take y24.fst (List.drop (0 : Nat) y24.snd.snd.fst), ())).bind
                    fun y21 => some (y21.fst == y24.snd.fst, ())
                else none
              else some (false, ())
noncomputable def F8 : CF tC := mkF tC S8 f8
theorem f8_run : ∀ a, fnS tC G8 (look []) Try.f8 S8 a = f8 a := fun a => by kernel_rfl
theorem F8_ok : CFOK tC 8 F8 := mkF_ok Y8 (fn := Try.f8) (body := bodyOf Try.f8) (by kernel_rfl) (by kernel_rfl) (by kernel_rfl) (m := 0) rfl (lam_le lam_nil) f8_run

/-! PathTampered -/
noncomputable def G9 : FuncId → Option (CF tC) := look [(14, F14), (15, F15), (17, F17), (28, F28), (30, F30)]
theorem Y9 : SysN tC G9 := (sys_cons F14_ok (mkF_nat _ _) (sys_cons F15_ok (mkF_nat _ _) (sys_cons F17_ok (mkF_nat _ _) (sys_cons F28_ok (mkF_nat _ _) (sys_cons F30_ok (mkF_nat _ _) (sys_nil tC_ok tC_eq))))))
def S9 : FS := ⟨[[.v, .v, .s 5], [.v, .v], [.v, .v]], [⟨[.one (.agg [.int .i64, .int .i64, .imm 5]), .one (.agg [.int .i64, .int .i64]), .one (.agg [.int .i64, .int .i64])], []⟩], [⟨[vO], []⟩], [[.v]], []⟩
noncomputable def f9 (x : Int × Int × List Int × Int × Int × Int × Int × Unit) : Option (Bool × Unit) :=
  (f14 ()).bind fun y28 =>
  bif !y28.fst then (f14 ()).bind fun y20 => some (y20.fst, ())
  else
    bif !f15 x.fst x.snd.fst x.snd.snd.fst then (f14 ()).bind fun y21 => some (y21.fst, ())
    else
      (f17 (x.fst, x.snd.fst, x.snd.snd.fst, x.snd.snd.snd.fst, x.snd.snd.snd.snd.fst, ())).bind fun y27 =>
        bif y27.snd.fst != (0 : Int) then some (y27.snd.fst != (0 : Int), ())
        else
          bif (↑y27.fst : Int) == (0 : Int) then some (y27.snd.fst != (0 : Int), ())
          else
            (f30 (x.snd.snd.snd.snd.snd.fst, (↑y27.fst : Int), ())).bind fun y26 =>
              bif decide ((0 : Int) ≤ y26.fst) && decide (y26.fst < (↑y27.fst : Int)) then
                y27.snd.snd.fst[(0 : Nat) + y26.fst.toNat]?.bind fun y25 =>
                  bif decide ((0 : Int) ≤ y26.fst) && decide (y26.fst < (↑y27.fst : Int)) then
                    y27.snd.snd.fst[(0 : Nat) + y26.fst.toNat]?.bind fun _x =>
                      bif
                          decide
                            ((0 : Nat) + y27.fst ≤
                              (y27.snd.snd.fst.set ((0 : Nat) + y26.fst.toNat) x.snd.snd.snd.snd.snd.snd.fst).length) then
                        (f28
                              (x.fst, x.snd.fst, x.snd.snd.fst, x.snd.snd.snd.fst, x.snd.snd.snd.snd.fst,
                                List.take y27.fst
                                  (List.drop (0 : Nat) (y27.snd.snd.fst.set ((0 : Nat) + y26.fst.toNat) x.snd.snd.snd.snd.snd.snd.fst)),
                                ())).bind
                          fun y23 =>
                          bif y23.fst == (9 : Int) then some (true, ())
                          else
                            bif y25 == x.snd.snd.snd.snd.snd.snd.fst then
                              bif
                                  decide
                                    ((0 : Nat) + y27.fst ≤
                                      (y27.snd.snd.fst.set ((0 : Nat) + y26.fst.toNat) x.snd.snd.snd.snd.snd.snd.fst).length) then
                                (f28
                                      (x.fst, x.snd.fst, x.snd.snd.fst, x.snd.snd.snd.fst, x.snd.snd.snd.snd.fst,
                                        List.take y27.fst
                                          (List.drop (0 : Nat)
                                            (y27.snd.snd.fst.set ((0 : Nat) + y26.fst.toNat) x.snd.snd.snd.snd.snd.snd.fst)),
                                        ())).bind
                                  fun y22 => some (y22.fst == (0 : Int), ())
                              else none
                            else some (false, ())
                      else none
                  else none
              else none
noncomputable def F9 : CF tC := mkF tC S9 f9
theorem f9_run : ∀ a, fnS tC G9 (look []) Try.f9 S9 a = f9 a := fun a => by kernel_rfl
theorem F9_ok : CFOK tC 9 F9 := mkF_ok Y9 (fn := Try.f9) (body := bodyOf Try.f9) (by kernel_rfl) (by kernel_rfl) (by kernel_rfl) (m := 0) rfl (lam_le lam_nil) f9_run

/-! PathPotential -/
noncomputable def G10 : FuncId → Option (CF tC) := look [(14, F14), (15, F15), (17, F17), (24, F24), (25, F25), (31, F31), (32, F32)]
theorem Y10 : SysN tC G10 := (sys_cons F14_ok (mkF_nat _ _) (sys_cons F15_ok (mkF_nat _ _) (sys_cons F17_ok (mkF_nat _ _) (sys_cons F24_ok (mkF_nat _ _) (sys_cons F25_ok (mkF_nat _ _) (sys_cons F31_ok (mkF_nat _ _) (sys_cons F32_ok (mkF_nat _ _) (sys_nil tC_ok tC_eq))))))))
noncomputable def c10_61 : Code := subCode (loopOf (subCode (loopOf (loopOf (bodyOf Try.f10) 0) 2) 55) 4) 61
def p10_61 : PS := ⟨0, [2, 3, 5, 7, 8, 9, 10, 11, 12, 13], ⟨[vB, vB, .one (.one (.ptr 0 0 0)), .one (.one (.ptr 1 0 0)), vB, .one (.one (.sl 2)), vB, .one (.one (.sl 3)), vI, vI, .one (.one (.ptr 4 0 0)), vI, vO, vI] ++ vBs 166, [.box [.int .i64, .int .i64, .imm 5], .box [.int .i64, .int .i64], .arr 3, .arr 26, .box [.int .i64, .int .i64]]⟩, [⟨.normal, [2, 3, 5, 7, 8, 9, 10, 11, 12, 13], ⟨[vB, vB, .one (.one (.ptr 0 0 0)), .one (.one (.ptr 1 0 0)), vB, .one (.one (.sl 2)), vB, .one (.one (.sl 3)), vI, vI, .one (.one (.ptr 4 0 0)), vI, vO, vI] ++ vBs 166, [.box [.int .i64, .int .i64, .imm 5], .box [.int .i64, .int .i64], .arr 3, .arr 26, .box [.int .i64, .int .i64]]⟩, []⟩], []⟩
noncomputable def j10_61 (x : Nat × Nat × Int × Int × Int × Bool × Int × Int × Int × List Int × Int × Int × List Int × List Pt × Int × Int × Unit) : Option (Nat × Nat × Int × Int × Int × Bool × Int × Int × Int × List Int × Int × Int × List Int × List Pt × Int × Int × Unit) :=
  some
  (x.fst, x.snd.fst, x.snd.snd.fst, x.snd.snd.snd.fst, x.snd.snd.snd.snd.fst, x.snd.snd.snd.snd.snd.fst,
    IntKind.i64.wrap (x.snd.snd.snd.snd.snd.snd.fst + (1 : Int)), x.snd.snd.snd.snd.snd.snd.snd.fst, x.snd.snd.snd.snd.snd.snd.snd.snd.fst,
    x.snd.snd.snd.snd.snd.snd.snd.snd.snd.fst, x.snd.snd.snd.snd.snd.snd.snd.snd.snd.snd.fst,
    x.snd.snd.snd.snd.snd.snd.snd.snd.snd.snd.snd.fst, x.snd.snd.snd.snd.snd.snd.snd.snd.snd.snd.snd.snd.fst,
    x.snd.snd.snd.snd.snd.snd.snd.snd.snd.snd.snd.snd.snd.fst, x.snd.snd.snd.snd.snd.snd.snd.snd.snd.snd.snd.snd.snd.snd.fst,
    x.snd.snd.snd.snd.snd.snd.snd.snd.snd.snd.snd.snd.snd.snd.snd.fst, ())
theorem j10_61_run0 (v0 : Nat) (v1 : Nat) (v2 : Int) (v3 : Int) (v4 : Int) (v5 : Bool) (v6 : Int) (v7 : Int) (v8 : Int) (v9 : List Int) (v10 : Int) (v11 : Int) (v12 : List Int) (v13 : List Pt) (v14 : Int) (v15 : Int) : pieceK tC G10 (look []) c10_61 p10_61 (v0, v1, v2, v3, v4, v5, v6, v7, v8, v9, v10, v11, v12, v13, v14, v15, ()) = j10_61 (v0, v1, v2, v3, v4, v5, v6, v7, v8, v9, v10, v11, v12, v13, v14, v15, ()) := by kernel_rfl
theorem j10_61_run (x : Nat × Nat × Int × Int × Int × Bool × Int × Int × Int × List Int × Int × Int × List Int × List Pt × Int × Int × Unit) : pieceK tC G10 (look []) c10_61 p10_61 x = j10_61 x := j10_61_run0 x.1 x.2.1 x.2.2.1 x.2.2.2.1 x.2.2.2.2.1 x.2.2.2.2.2.1 x.2.2.2.2.2.2.1 x.2.2.2.2.2.2.2.1 x.2.2.2.2.2.2.2.2.1 x.2.2.2.2.2.2.2.2.2.1 x.2.2.2.2.2.2.2.2.2.2.1 x.2.2.2.2.2.2.2.2.2.2.2.1 x.2.2.2.2.2.2.2.2.2.2.2.2.1 x.2.2.2.2.2.2.2.2.2.2.2.2.2.1 x.2.2.2.2.2.2.2.2.2.2.2.2.2.2.1 x.2.2.2.2.2.2.2.2.2.2.2.2.2.2.2.1
noncomputable def W10_61 : LF tC := cutLF tC p10_61 j10_61
theorem W10_61_ok : keyed 61 (loopOf (subCode (loopOf (loopOf (bodyOf Try.f10) 0) 2) 55) 4) = [c10_61] ∧ ∀ n, n ≤ 0 → Snd tC n c10_61 W10_61.k := ⟨by kernel_rfl, fun n hn => cut_ok (p := p10_61) Y10 (lam_le lam_nil n hn) hn j10_61_run⟩
noncomputable def c10_12 : Code := loopOf (subCode (loopOf (loopOf (bodyOf Try.f10) 0) 2) 55) 4
def p10_12 : LS := ⟨0, [2, 3, 5, 7, 8, 9, 10, 11, 12, 13], ⟨[vB, vB, .one (.one (.ptr 0 0 0)), .one (.one (.ptr 1 0 0)), vB, .one (.one (.sl 2)), vB, .one (.one (.sl 3)), vI, vI, .one (.one (.ptr 4 0 0)), vI, vO, vI] ++ vBs 166, [.box [.int .i64, .int .i64, .imm 5], .box [.int .i64, .int .i64], .arr 3, .arr 26, .box [.int .i64, .int .i64]]⟩, [⟨.ret, [4], ⟨vBs 4 ++ [vO] ++ vBs 175, []⟩, []⟩, ⟨.exit 4, [2, 3, 5, 7, 8, 9, 10, 11, 12], ⟨[vB, vB, .one (.one (.ptr 0 0 0)), .one (.one (.ptr 1 0 0)), vB, .one (.one (.sl 2)), vB, .one (.one (.sl 3)), vI, vI, .one (.one (.ptr 4 0 0)), vI, vO] ++ vBs 167, [.box [.int .i64, .int .i64, .imm 5], .box [.int .i64, .int .i64], .arr 3, .arr 26, .box [.int .i64, .int .i64]]⟩, []⟩], []⟩
noncomputable def r10_12 (x : Nat × Nat × Int × Int × Int × Bool × Int × Int × Int × List Int × Int × Int × List Int × List Pt × Int × Int × Unit) : Option
  (Nat × Nat × Int × Int × Int × Bool × Int × Int × Int × List Int × Int × Int × List Int × List Pt × Int × Int × Unit ⊕
    Bool × Unit ⊕ Nat × Nat × Int × Int × Int × Bool × Int × Int × List Int × Int × Int × List Int × List Pt × Int × Int × Unit) :=
  bif decide (x.snd.snd.snd.snd.snd.snd.fst < (8 : Int)) then
  bif decide ((0 : Int) ≤ x.snd.snd.snd.snd.snd.snd.fst) && decide (x.snd.snd.snd.snd.snd.snd.fst < (↑x.snd.fst : Int)) then
    x.snd.snd.snd.snd.snd.snd.snd.snd.snd.snd.snd.snd.snd.fst[(0 : Nat) + x.snd.snd.snd.snd.snd.snd.fst.toNat]?.bind fun y175 =>
      bif decide ((0 : Int) ≤ x.snd.snd.snd.snd.snd.snd.fst) && decide (x.snd.snd.snd.snd.snd.snd.fst < (↑x.snd.fst : Int)) then
        x.snd.snd.snd.snd.snd.snd.snd.snd.snd.snd.snd.snd.snd.fst[(0 : Nat) + x.snd.snd.snd.snd.snd.snd.fst.toNat]?.bind fun y174 =>
          (f32
                (x.snd.snd.snd.snd.snd.snd.snd.fst, x.snd.snd.snd.snd.snd.snd.snd.snd.fst, x.snd.snd.snd.snd.snd.snd.snd.snd.snd.fst,
                  x.snd.snd.snd.snd.snd.snd.snd.snd.snd.snd.snd.snd.snd.snd.fst,
                  x.snd.snd.snd.snd.snd.snd.snd.snd.snd.snd.snd.snd.snd.snd.snd.fst, IntKind.i64.wrap (x.snd.snd.snd.fst + y175.X),
                  IntKind.i64.wrap (x.snd.snd.fst + y174.Y), ())).bind
            fun y173 =>
            bif !y173.snd.fst then
              (j10_61
                    (x.fst, x.snd.fst, x.snd.snd.fst, x.snd.snd.snd.fst, x.snd.snd.snd.snd.fst, x.snd.snd.snd.snd.snd.fst,
                      x.snd.snd.snd.snd.snd.snd.fst, x.snd.snd.snd.snd.snd.snd.snd.fst, x.snd.snd.snd.snd.snd.snd.snd.snd.fst,
                      x.snd.snd.snd.snd.snd.snd.snd.snd.snd.fst, x.snd.snd.snd.snd.snd.snd.snd.snd.snd.snd.fst,
                      x.snd.snd.snd.snd.snd.snd.snd.snd.snd.snd.snd.fst, x.snd.snd.snd.snd.snd.snd.snd.snd.snd.snd.snd.snd.fst,
                      x.snd.snd.snd.snd.snd.snd.snd.snd.snd.snd.snd.snd.snd.fst,
                      x.snd.snd.snd.snd.snd.snd.snd.snd.snd.snd.snd.snd.snd.snd.fst,
                      x.snd.snd.snd.snd.snd.snd.snd.snd.snd.snd.snd.snd.snd.snd.snd.fst, ())).bind
                fun y169 =>
                some
                  (Sum.inl
                    (y169.fst, y169.snd.fst, y169.snd.snd.fst, y169.snd.snd.snd.fst, y169.snd.snd.snd.snd.fst, y169.snd.snd.snd.snd.snd.fst,
                      y169.snd.snd.snd.snd.snd.snd.fst, y169.snd.snd.snd.snd.snd.snd.snd.fst, y169.snd.snd.snd.snd.snd.snd.snd.snd.fst,
                      y169.snd.snd.snd.snd.snd.snd.snd.snd.snd.fst, y169.snd.snd.snd.snd.snd.snd.snd.snd.snd.snd.fst,
                      y169.snd.snd.snd.snd.snd.snd.snd.snd.snd.snd.snd.fst, y169.snd.snd.snd.snd.snd.snd.snd.snd.snd.snd.snd.snd.fst,
                      y169.snd.snd.snd.snd.snd.snd.snd.snd.snd.snd.snd.snd.snd.fst,
                      y169.snd.snd.snd.snd.snd.snd.snd.snd.snd.snd.snd.snd.snd.snd.fst,
                      y169.snd.snd.snd.snd.snd.snd.snd.snd.snd.snd.snd.snd.snd.snd.snd.fst, ()))
            else
              bif
                  decide
                      ((0 : Int) ≤
                        IntKind.i64.wrap
                          (IntKind.i64.wrap (IntKind.i64.wrap (x.snd.snd.fst + y174.Y) * x.snd.snd.snd.snd.snd.snd.snd.fst) +
                            IntKind.i64.wrap (x.snd.snd.snd.fst + y175.X))) &&
                    decide
                      (IntKind.i64.wrap
                          (IntKind.i64.wrap (IntKind.i64.wrap (x.snd.snd.fst + y174.Y) * x.snd.snd.snd.snd.snd.snd.snd.fst) +
                            IntKind.i64.wrap (x.snd.snd.snd.fst + y175.X)) <
                        (↑x.fst : Int)) then
                x.snd.snd.snd.snd.snd.snd.snd.snd.snd.snd.snd.snd.fst[(0 : Nat) +
                        (IntKind.i64.wrap
                            (IntKind.i64.wrap (IntKind.i64.wrap (x.snd.snd.fst + y174.Y) * x.snd.snd.snd.snd.snd.snd.snd.fst) +
                              IntKind.i64.wrap (x.snd.snd.snd.fst + y175.X))).toNat]?.bind
                  fun y172 =>
                  bif !(x.snd.snd.snd.snd.fst == (-1 : Int)) == (y172 == (-1 : Int)) then some (Sum.inr (Sum.inl (false, ())))
                  else
                    bif decide (x.snd.snd.snd.snd.fst > IntKind.i64.wrap (y172 + y173.fst)) then some (Sum.inr (Sum.inl (false, ())))
                    else
                      bif x.snd.snd.snd.snd.snd.fst then
                        (j10_61
                              (x.fst, x.snd.fst, x.snd.snd.fst, x.snd.snd.snd.fst, x.snd.snd.snd.snd.fst, true,
                                x.snd.snd.snd.snd.snd.snd.fst, x.snd.snd.snd.snd.snd.snd.snd.fst, x.snd.snd.snd.snd.snd.snd.snd.snd.fst,
                                x.snd.snd.snd.snd.snd.snd.snd.snd.snd.fst, x.snd.snd.snd.snd.snd.snd.snd.snd.snd.snd.fst,
                                x.snd.snd.snd.snd.snd.snd.snd.snd.snd.snd.snd.fst, x.snd.snd.snd.snd.snd.snd.snd.snd.snd.snd.snd.snd.fst,
                                x.snd.snd.snd.snd.snd.snd.snd.snd.snd.snd.snd.snd.snd.fst,
                                x.snd.snd.snd.snd.snd.snd.snd.snd.snd.snd.snd.snd.snd.snd.fst,
                                x.snd.snd.snd.snd.snd.snd.snd.snd.snd.snd.snd.snd.snd.snd.snd.fst, ())).bind
                          fun y170 =>
                          some
                            (Sum.inl
                              (y170.fst, y170.snd.fst, y170.snd.snd.fst, y170.snd.snd.snd.fst, y170.snd.snd.snd.snd.fst,
                                y170.snd.snd.snd.snd.snd.fst, y170.snd.snd.snd.snd.snd.snd.fst, y170.snd.snd.snd.snd.snd.snd.snd.fst,
                                y170.snd.snd.snd.snd.snd.snd.snd.snd.fst, y170.snd.snd.snd.snd.snd.snd.snd.snd.snd.fst,
                                y170.snd.snd.snd.snd.snd.snd.snd.snd.snd.snd.fst, y170.snd.snd.snd.snd.snd.snd.snd.snd.snd.snd.snd.fst,
                                y170.snd.snd.snd.snd.snd.snd.snd.snd.snd.snd.snd.snd.fst,
                                y170.snd.snd.snd.snd.snd.snd.snd.snd.snd.snd.snd.snd.snd.fst,
                                y170.snd.snd.snd.snd.snd.snd.snd.snd.snd.snd.snd.snd.snd.snd.fst,
                                y170.snd.snd.snd.snd.snd.snd.snd.snd.snd.snd.snd.snd.snd.snd.snd.fst, ()))
                      else
                        (j10_61
                              (x.fst, x.snd.fst, x.snd.snd.fst, x.snd.snd.snd.fst, x.snd.snd.snd.snd.fst,
                                x.snd.snd.snd.snd.fst == IntKind.i64.wrap (y172 + y173.fst), x.snd.snd.snd.snd.snd.snd.fst,
                                x.snd.snd.snd.snd.snd.snd.snd.fst, x.snd.snd.snd.snd.snd.snd.snd.snd.fst,
                                x.snd.snd.snd.snd.snd.snd.snd.snd.snd.fst, x.snd.snd.snd.snd.snd.snd.snd.snd.snd.snd.fst,
                                x.snd.snd.snd.snd.snd.snd.snd.snd.snd.snd.snd.fst, x.snd.snd.snd.snd.snd.snd.snd.snd.snd.snd.snd.snd.fst,
                                x.snd.snd.snd.snd.snd.snd.snd.snd.snd.snd.snd.snd.snd.fst,
                                x.snd.snd.snd.snd.snd.snd.snd.snd.snd.snd.snd.snd.snd.snd.fst,
                                x.snd.snd.snd.snd.snd.snd.snd.snd.snd.snd.snd.snd.snd.snd.snd.fst, ())).bind
                          fun y171 =>
                          some
                            (Sum.inl
                              (y171.fst, y171.snd.fst, y171.snd.snd.fst, y171.snd.snd.snd.fst, y171.snd.snd.snd.snd.fst,
                                y171.snd.snd.snd.snd.snd.fst, y171.snd.snd.snd.snd.snd.snd.fst, y171.snd.snd.snd.snd.snd.snd.snd.fst,
                                y171.snd.snd.snd.snd.snd.snd.snd.snd.fst, y171.snd.snd.snd.snd.snd.snd.snd.snd.snd.fst,
                                y171.snd.snd.snd.snd.snd.snd.snd.snd.snd.snd.fst, y171.snd.snd.snd.snd.snd.snd.snd.snd.snd.snd.snd.fst,
                                y171.snd.snd.snd.snd.snd.snd.snd.snd.snd.snd.snd.snd.fst,
                                y171.snd.snd.snd.snd.snd.snd.snd.snd.snd.snd.snd.snd.snd.fst,
                                y171.snd.snd.snd.snd.snd.snd.snd.snd.snd.snd.snd.snd.snd.snd.fst,
                                y171.snd.snd.snd.snd.snd.snd.snd.snd.snd.snd.snd.snd.snd.snd.snd.fst, ()))
              else none
      else none
  else none
else
  some
    (Sum.inr
      (Sum.inr
        (x.fst, x.snd.fst, x.snd.snd.fst, x.snd.snd.snd.fst, x.snd.snd.snd.snd.fst, x.snd.snd.snd.snd.snd.fst,
          x.snd.snd.snd.snd.snd.snd.snd.fst, x.snd.snd.snd.snd.snd.snd.snd.snd.fst, x.snd.snd.snd.snd.snd.snd.snd.snd.snd.fst,
          x.snd.snd.snd.snd.snd.snd.snd.snd.snd.snd.fst, x.snd.snd.snd.snd.snd.snd.snd.snd.snd.snd.snd.fst,
          x.snd.snd.snd.snd.snd.snd.snd.snd.snd.snd.snd.snd.fst, x.snd.snd.snd.snd.snd.snd.snd.snd.snd.snd.snd.snd.snd.fst,
          x.snd.snd.snd.snd.snd.snd.snd.snd.snd.snd.snd.snd.snd.snd.fst, x.snd.snd.snd.snd.snd.snd.snd.snd.snd.snd.snd.snd.snd.snd.snd.fst,
          ())))
theorem r10_12_run0 (v0 : Nat) (v1 : Nat) (v2 : Int) (v3 : Int) (v4 : Int) (v5 : Bool) (v6 : Int) (v7 : Int) (v8 : Int) (v9 : List Int) (v10 : Int) (v11 : Int) (v12 : List Int) (v13 : List Pt) (v14 : Int) (v15 : Int) : roundK tC G10 (look [(61, W10_61)]) c10_12 p10_12 (v0, v1, v2, v3, v4, v5, v6, v7, v8, v9, v10, v11, v12, v13, v14, v15, ()) = r10_12 (v0, v1, v2, v3, v4, v5, v6, v7, v8, v9, v10, v11, v12, v13, v14, v15, ()) := by kernel_rfl
theorem r10_12_run (x : Nat × Nat × Int × Int × Int × Bool × Int × Int × Int × List Int × Int × Int × List Int × List Pt × Int × Int × Unit) : roundK tC G10 (look [(61, W10_61)]) c10_12 p10_12 x = r10_12 x := r10_12_run0 x.1 x.2.1 x.2.2.1 x.2.2.2.1 x.2.2.2.2.1 x.2.2.2.2.2.1 x.2.2.2.2.2.2.1 x.2.2.2.2.2.2.2.1 x.2.2.2.2.2.2.2.2.1 x.2.2.2.2.2.2.2.2.2.1 x.2.2.2.2.2.2.2.2.2.2.1 x.2.2.2.2.2.2.2.2.2.2.2.1 x.2.2.2.2.2.2.2.2.2.2.2.2.1 x.2.2.2.2.2.2.2.2.2.2.2.2.2.1 x.2.2.2.2.2.2.2.2.2.2.2.2.2.2.1 x.2.2.2.2.2.2.2.2.2.2.2.2.2.2.2.1
noncomputable def l10_12 (x : Nat × Nat × Int × Int × Int × Bool × Int × Int × Int × List Int × Int × Int × List Int × List Pt × Int × Int × Unit) : Option (Bool × Unit ⊕ Nat × Nat × Int × Int × Int × Bool × Int × Int × List Int × Int × Int × List Int × List Pt × Int × Int × Unit) := iterO r10_12 x
noncomputable def W10_12 : LF tC := loopW tC p10_12 4 l10_12
theorem W10_12_ok : keyed 12 (subCode (loopOf (loopOf (bodyOf Try.f10) 0) 2) 55) = [.block 4 (.loop c10_12)] ∧ ∀ n, n ≤ 0 → Snd tC n (.block 4 (.loop c10_12)) W10_12.k := ⟨by kernel_rfl, fun n hn => loopW_ok (p := p10_12) (id := 4) Y10 (lam_le (lam_cons W10_61_ok lam_nil) n hn) hn r10_12_run⟩
noncomputable def c10_55 : Code := subCode (loopOf (loopOf (bodyOf Try.f10) 0) 2) 55
def p10_55 : PS := ⟨0, [2, 3, 5, 7, 8, 9, 10, 11, 12], ⟨[vB, vB, .one (.one (.ptr 0 0 0)), .one (.one (.ptr 1 0 0)), vB, .one (.one (.sl 2)), vB, .one (.one (.sl 3)), vI, vI, .one (.one (.ptr 4 0 0)), vI, vO] ++ vBs 167, [.box [.int .i64, .int .i64, .imm 5], .box [.int .i64, .int .i64], .arr 3, .arr 26, .box [.int .i64, .int .i64]]⟩, [⟨.ret, [4], ⟨vBs 4 ++ [vO] ++ vBs 175, []⟩, []⟩, ⟨.normal, [2, 3, 5, 7, 8, 9], ⟨[vB, vB, .one (.one (.ptr 0 0 0)), .one (.one (.ptr 1 0 0)), vB, .one (.one (.sl 2)), vB, .one (.one (.sl 3)), vI, vI] ++ vBs 170, [.box [.int .i64, .int .i64, .imm 5], .box [.int .i64, .int .i64], .arr 3, .arr 26]⟩, []⟩], []⟩
noncomputable def j10_55 (x : Nat × Nat × Int × Int × Int × Bool × Int × Int × List Int × Int × Int × List Int × List Pt × Int × Int × Unit) : Option (Bool × Unit ⊕ Nat × Nat × Int × Int × Int × Int × List Int × Int × Int × List Int × List Pt × Unit) :=
  (l10_12
      (x.fst, x.snd.fst, x.snd.snd.fst, x.snd.snd.snd.fst, x.snd.snd.snd.snd.fst, x.snd.snd.snd.snd.snd.fst, (0 : Int),
        x.snd.snd.snd.snd.snd.snd.fst, x.snd.snd.snd.snd.snd.snd.snd.fst, x.snd.snd.snd.snd.snd.snd.snd.snd.fst,
        x.snd.snd.snd.snd.snd.snd.snd.snd.snd.fst, x.snd.snd.snd.snd.snd.snd.snd.snd.snd.snd.fst,
        x.snd.snd.snd.snd.snd.snd.snd.snd.snd.snd.snd.fst, x.snd.snd.snd.snd.snd.snd.snd.snd.snd.snd.snd.snd.fst,
        x.snd.snd.snd.snd.snd.snd.snd.snd.snd.snd.snd.snd.snd.fst, x.snd.snd.snd.snd.snd.snd.snd.snd.snd.snd.snd.snd.snd.snd.fst, ())).bind
  fun y206 =>
  Sum.elim (fun y204 => some (Sum.inl (y204.fst, ())))
    (fun y205 =>
      bif !y205.snd.snd.snd.snd.snd.fst then some (Sum.inl (false, ()))
      else
        bif decide (y205.snd.snd.snd.snd.fst < (-1 : Int)) then some (Sum.inl (false, ()))
        else
          bif y205.snd.snd.snd.snd.fst == (-1 : Int) then
            bif
                bif y205.snd.snd.snd.snd.snd.snd.snd.snd.snd.snd.snd.snd.snd.fst == y205.snd.snd.snd.snd.snd.snd.snd.snd.snd.fst then
                  bif
                      y205.snd.snd.snd.snd.snd.snd.snd.snd.snd.snd.snd.snd.snd.snd.fst ==
                        y205.snd.snd.snd.snd.snd.snd.snd.snd.snd.snd.fst then
                    true
                  else false
                else false then
              some (Sum.inl (false, ()))
            else
              some
                (Sum.inr
                  (y205.fst, y205.snd.fst, y205.snd.snd.fst, y205.snd.snd.snd.fst, y205.snd.snd.snd.snd.snd.snd.fst,
                    y205.snd.snd.snd.snd.snd.snd.snd.fst, y205.snd.snd.snd.snd.snd.snd.snd.snd.fst,
                    y205.snd.snd.snd.snd.snd.snd.snd.snd.snd.fst, y205.snd.snd.snd.snd.snd.snd.snd.snd.snd.snd.fst,
                    y205.snd.snd.snd.snd.snd.snd.snd.snd.snd.snd.snd.fst, y205.snd.snd.snd.snd.snd.snd.snd.snd.snd.snd.snd.snd.fst, ()))
          else
            some
              (Sum.inr
                (y205.fst, y205.snd.fst, y205.snd.snd.fst, y205.snd.snd.snd.fst, y205.snd.snd.snd.snd.snd.snd.fst,
                  y205.snd.snd.snd.snd.snd.snd.snd.fst, y205.snd.snd.snd.snd.snd.snd.snd.snd.fst,
                  y205.snd.snd.snd.snd.snd.snd.snd.snd.snd.fst, y205.snd.snd.snd.snd.snd.snd.snd.snd.snd.snd.fst,
                  y205.snd.snd.snd.snd.snd.snd.snd.snd.snd.snd.snd.fst, y205.snd.snd.snd.snd.snd.snd.snd.snd.snd.snd.snd.snd.fst, ())))
    y206
theorem j10_55_run0 (v0 : Nat) (v1 : Nat) (v2 : Int) (v3 : Int) (v4 : Int) (v5 : Bool) (v6 : Int) (v7 : Int) (v8 : List Int) (v9 : Int) (v10 : Int) (v11 : List Int) (v12 : List Pt) (v13 : Int) (v14 : Int) : pieceK tC G10 (look [(12, W10_12)]) c10_55 p10_55 (v0, v1, v2, v3, v4, v5, v6, v7, v8, v9, v10, v11, v12, v13, v14, ()) = j10_55 (v0, v1, v2, v3, v4, v5, v6, v7, v8, v9, v10, v11, v12, v13, v14, ()) := by kernel_rfl
theorem j10_55_run (x : Nat × Nat × Int × Int × Int × Bool × Int × Int × List Int × Int × Int × List Int × List Pt × Int × Int × Unit) : pieceK tC G10 (look [(12, W10_12)]) c10_55 p10_55 x = j10_55 x := j10_55_run0 x.1 x.2.1 x.2.2.1 x.2.2.2.1 x.2.2.2.2.1 x.2.2.2.2.2.1 x.2.2.2.2.2.2.1 x.2.2.2.2.2.2.2.1 x.2.2.2.2.2.2.2.2.1 x.2.2.2.2.2.2.2.2.2.1 x.2.2.2.2.2.2.2.2.2.2.1 x.2.2.2.2.2.2.2.2.2.2.2.1 x.2.2.2.2.2.2.2.2.2.2.2.2.1 x.2.2.2.2.2.2.2.2.2.2.2.2.2.1 x.2.2.2.2.2.2.2.2.2.2.2.2.2.2.1
noncomputable def W10_55 : LF tC := cutLF tC p10_55 j10_55
theorem W10_55_ok : keyed 55 (loopOf (loopOf (bodyOf Try.f10) 0) 2) = [c10_55] ∧ ∀ n, n ≤ 0 → Snd tC n c10_55 W10_55.k := ⟨by kernel_rfl, fun n hn => cut_ok (p := p10_55) Y10 (lam_le (lam_cons W10_12_ok lam_nil) n hn) hn j10_55_run⟩
noncomputable def c10_43 : Code := subCode (loopOf (loopOf (bodyOf Try.f10) 0) 2) 43
def p10_43 : PS := ⟨0, [2, 3, 5, 7, 8, 9], ⟨[vB, vB, .one (.one (.ptr 0 0 0)), .one (.one (.ptr 1 0 0)), vB, .one (.one (.sl 2)), vB, .one (.one (.sl 3)), vI, vI] ++ vBs 170, [.box [.int .i64, .int .i64, .imm 5], .box [.int .i64, .int .i64], .arr 3, .arr 26]⟩, [⟨.normal, [2, 3, 5, 7, 8, 9], ⟨[vB, vB, .one (.one (.ptr 0 0 0)), .one (.one (.ptr 1 0 0)), vB, .one (.one (.sl 2)), vB, .one (.one (.sl 3)), vI, vI] ++ vBs 170, [.box [.int .i64, .int .i64, .imm 5], .box [.int .i64, .int .i64], .arr 3, .arr 26]⟩, []⟩], []⟩
noncomputable def j10_43 (x : Nat × Nat × Int × Int × Int × Int × List Int × Int × Int × List Int × List Pt × Unit) : Option (Nat × Nat × Int × Int × Int × Int × List Int × Int × Int × List Int × List Pt × Unit) :=
  some
  (x.fst, x.snd.fst, x.snd.snd.fst, IntKind.i64.wrap (x.snd.snd.snd.fst + (1 : Int)), x.snd.snd.snd.snd.fst, x.snd.snd.snd.snd.snd.fst,
    x.snd.snd.snd.snd.snd.snd.fst, x.snd.snd.snd.snd.snd.snd.snd.fst, x.snd.snd.snd.snd.snd.snd.snd.snd.fst,
    x.snd.snd.snd.snd.snd.snd.snd.snd.snd.fst, x.snd.snd.snd.snd.snd.snd.snd.snd.snd.snd.fst, ())
theorem j10_43_run0 (v0 : Nat) (v1 : Nat) (v2 : Int) (v3 : Int) (v4 : Int) (v5 : Int) (v6 : List Int) (v7 : Int) (v8 : Int) (v9 : List Int) (v10 : List Pt) : pieceK tC G10 (look []) c10_43 p10_43 (v0, v1, v2, v3, v4, v5, v6, v7, v8, v9, v10, ()) = j10_43 (v0, v1, v2, v3, v4, v5, v6, v7, v8, v9, v10, ()) := by kernel_rfl
theorem j10_43_run (x : Nat × Nat × Int × Int × Int × Int × List Int × Int × Int × List Int × List Pt × Unit) : pieceK tC G10 (look []) c10_43 p10_43 x = j10_43 x := j10_43_run0 x.1 x.2.1 x.2.2.1 x.2.2.2.1 x.2.2.2.2.1 x.2.2.2.2.2.1 x.2.2.2.2.2.2.1 x.2.2.2.2.2.2.2.1 x.2.2.2.2.2.2.2.2.1 x.2.2.2.2.2.2.2.2.2.1 x.2.2.2.2.2.2.2.2.2.2.1
noncomputable def W10_43 : LF tC := cutLF tC p10_43 j10_43
theorem W10_43_ok : keyed 43 (loopOf (loopOf (bodyOf Try.f10) 0) 2) = [c10_43] ∧ ∀ n, n ≤ 0 → Snd tC n c10_43 W10_43.k := ⟨by kernel_rfl, fun n hn => cut_ok (p := p10_43) Y10 (lam_le lam_nil n hn) hn j10_43_run⟩
noncomputable def c10_6 : Code := loopOf (loopOf (bodyOf Try.f10) 0) 2
def p10_6 : LS := ⟨0, [2, 3, 5, 7, 8, 9], ⟨[vB, vB, .one (.one (.ptr 0 0 0)), .one (.one (.ptr 1 0 0)), vB, .one (.one (.sl 2)), vB, .one (.one (.sl 3)), vI, vI] ++ vBs 170, [.box [.int .i64, .int .i64, .imm 5], .box [.int .i64, .int .i64], .arr 3, .arr 26]⟩, [⟨.ret, [4], ⟨vBs 4 ++ [vO] ++ vBs 175, []⟩, []⟩, ⟨.exit 2, [2, 3, 5, 7, 8], ⟨[vB, vB, .one (.one (.ptr 0 0 0)), .one (.one (.ptr 1 0 0)), vB, .one (.one (.sl 2)), vB, .one (.one (.sl 3)), vI] ++ vBs 171, [.box [.int .i64, .int .i64, .imm 5], .box [.int .i64, .int .i64], .arr 3, .arr 26]⟩, []⟩], []⟩
noncomputable def r10_6 (x : Nat × Nat × Int × Int × Int × Int × List Int × Int × Int × List Int × List Pt × Unit) : Option
  (Nat × Nat × Int × Int × Int × Int × List Int × Int × Int × List Int × List Pt × Unit ⊕
    Bool × Unit ⊕ Nat × Nat × Int × Int × Int × List Int × Int × Int × List Int × List Pt × Unit) :=
  bif decide (x.snd.snd.snd.fst < x.snd.snd.snd.snd.fst) then
  bif
      decide ((0 : Int) ≤ IntKind.i64.wrap (IntKind.i64.wrap (x.snd.snd.fst * x.snd.snd.snd.snd.fst) + x.snd.snd.snd.fst)) &&
        decide (IntKind.i64.wrap (IntKind.i64.wrap (x.snd.snd.fst * x.snd.snd.snd.snd.fst) + x.snd.snd.snd.fst) < (↑x.fst : Int)) then
    x.snd.snd.snd.snd.snd.snd.snd.snd.snd.fst[(0 : Nat) +
            (IntKind.i64.wrap (IntKind.i64.wrap (x.snd.snd.fst * x.snd.snd.snd.snd.fst) + x.snd.snd.snd.fst)).toNat]?.bind
      fun y294 =>
      bif
          bif x.snd.snd.snd.fst == x.snd.snd.snd.snd.snd.snd.snd.fst then
            bif x.snd.snd.fst == x.snd.snd.snd.snd.snd.snd.snd.snd.fst then true else false
          else false then
        (j10_55
              (x.fst, x.snd.fst, x.snd.snd.fst, x.snd.snd.snd.fst, y294, true, x.snd.snd.snd.snd.fst, x.snd.snd.snd.snd.snd.fst,
                x.snd.snd.snd.snd.snd.snd.fst, x.snd.snd.snd.snd.snd.snd.snd.fst, x.snd.snd.snd.snd.snd.snd.snd.snd.fst,
                x.snd.snd.snd.snd.snd.snd.snd.snd.snd.fst, x.snd.snd.snd.snd.snd.snd.snd.snd.snd.snd.fst, x.snd.snd.snd.fst, x.snd.snd.fst,
                ())).bind
          fun y289 =>
          Sum.elim (fun y286 => some (Sum.inr (Sum.inl (y286.fst, ()))))
            (fun y288 =>
              (j10_43
                    (y288.fst, y288.snd.fst, y288.snd.snd.fst, y288.snd.snd.snd.fst, y288.snd.snd.snd.snd.fst, y288.snd.snd.snd.snd.snd.fst,
                      y288.snd.snd.snd.snd.snd.snd.fst, y288.snd.snd.snd.snd.snd.snd.snd.fst, y288.snd.snd.snd.snd.snd.snd.snd.snd.fst,
                      y288.snd.snd.snd.snd.snd.snd.snd.snd.snd.fst, y288.snd.snd.snd.snd.snd.snd.snd.snd.snd.snd.fst, ())).bind
                fun y287 =>
                some
                  (Sum.inl
                    (y287.fst, y287.snd.fst, y287.snd.snd.fst, y287.snd.snd.snd.fst, y287.snd.snd.snd.snd.fst, y287.snd.snd.snd.snd.snd.fst,
                      y287.snd.snd.snd.snd.snd.snd.fst, y287.snd.snd.snd.snd.snd.snd.snd.fst, y287.snd.snd.snd.snd.snd.snd.snd.snd.fst,
                      y287.snd.snd.snd.snd.snd.snd.snd.snd.snd.fst, y287.snd.snd.snd.snd.snd.snd.snd.snd.snd.snd.fst, ())))
            y289
      else
        (j10_55
              (x.fst, x.snd.fst, x.snd.snd.fst, x.snd.snd.snd.fst, y294, y294 == (-1 : Int), x.snd.snd.snd.snd.fst,
                x.snd.snd.snd.snd.snd.fst, x.snd.snd.snd.snd.snd.snd.fst, x.snd.snd.snd.snd.snd.snd.snd.fst,
                x.snd.snd.snd.snd.snd.snd.snd.snd.fst, x.snd.snd.snd.snd.snd.snd.snd.snd.snd.fst,
                x.snd.snd.snd.snd.snd.snd.snd.snd.snd.snd.fst, x.snd.snd.snd.fst, x.snd.snd.fst, ())).bind
          fun y293 =>
          Sum.elim (fun y290 => some (Sum.inr (Sum.inl (y290.fst, ()))))
            (fun y292 =>
              (j10_43
                    (y292.fst, y292.snd.fst, y292.snd.snd.fst, y292.snd.snd.snd.fst, y292.snd.snd.snd.snd.fst, y292.snd.snd.snd.snd.snd.fst,
                      y292.snd.snd.snd.snd.snd.snd.fst, y292.snd.snd.snd.snd.snd.snd.snd.fst, y292.snd.snd.snd.snd.snd.snd.snd.snd.fst,
                      y292.snd.snd.snd.snd.snd.snd.snd.snd.snd.fst, y292.snd.snd.snd.snd.snd.snd.snd.snd.snd.snd.fst, ())).bind
                fun y291 =>
                some
                  (Sum.inl
                    (y291.fst, y291.snd.fst, y291.snd.snd.fst, y291.snd.snd.snd.fst, y291.snd.snd.snd.snd.fst, y291.snd.snd.snd.snd.snd.fst,
                      y291.snd.snd.snd.snd.snd.snd.fst, y291.snd.snd.snd.snd.snd.snd.snd.fst, y291.snd.snd.snd.snd.snd.snd.snd.snd.fst,
                      y291.snd.snd.snd.snd.snd.snd.snd.snd.snd.fst, y291.snd.snd.snd.snd.snd.snd.snd.snd.snd.snd.fst, ())))
            y293
  else none
else
  some
    (Sum.inr
      (Sum.inr
        (x.fst, x.snd.fst, x.snd.snd.fst, x.snd.snd.snd.snd.fst, x.snd.snd.snd.snd.snd.fst, x.snd.snd.snd.snd.snd.snd.fst,
          x.snd.snd.snd.snd.snd.snd.snd.fst, x.snd.snd.snd.snd.snd.snd.snd.snd.fst, x.snd.snd.snd.snd.snd.snd.snd.snd.snd.fst,
          x.snd.snd.snd.snd.snd.snd.snd.snd.snd.snd.fst, ())))
theorem r10_6_run0 (v0 : Nat) (v1 : Nat) (v2 : Int) (v3 : Int) (v4 : Int) (v5 : Int) (v6 : List Int) (v7 : Int) (v8 : Int) (v9 : List Int) (v10 : List Pt) : roundK tC G10 (look [(55, W10_55), (43, W10_43)]) c10_6 p10_6 (v0, v1, v2, v3, v4, v5, v6, v7, v8, v9, v10, ()) = r10_6 (v0, v1, v2, v3, v4, v5, v6, v7, v8, v9, v10, ()) := by kernel_rfl
theorem r10_6_run (x : Nat × Nat × Int × Int × Int × Int × List Int × Int × Int × List Int × List Pt × Unit) : roundK tC G10 (look [(55, W10_55), (43, W10_43)]) c10_6 p10_6 x = r10_6 x := r10_6_run0 x.1 x.2.1 x.2.2.1 x.2.2.2.1 x.2.2.2.2.1 x.2.2.2.2.2.1 x.2.2.2.2.2.2.1 x.2.2.2.2.2.2.2.1 x.2.2.2.2.2.2.2.2.1 x.2.2.2.2.2.2.2.2.2.1 x.2.2.2.2.2.2.2.2.2.2.1
noncomputable def l10_6 (x : Nat × Nat × Int × Int × Int × Int × List Int × Int × Int × List Int × List Pt × Unit) : Option (Bool × Unit ⊕ Nat × Nat × Int × Int × Int × List Int × Int × Int × List Int × List Pt × Unit) := iterO r10_6 x
noncomputable def W10_6 : LF tC := loopW tC p10_6 2 l10_6
theorem W10_6_ok : keyed 6 (loopOf (bodyOf Try.f10) 0) = [.block 2 (.loop c10_6)] ∧ ∀ n, n ≤ 0 → Snd tC n (.block 2 (.loop c10_6)) W10_6.k := ⟨by kernel_rfl, fun n hn => loopW_ok (p := p10_6) (id := 2) Y10 (lam_le (lam_cons W10_55_ok (lam_cons W10_43_ok lam_nil)) n hn) hn r10_6_run⟩
noncomputable def c10_0 : Code := loopOf (bodyOf Try.f10) 0
def p10_0 : LS := ⟨0, [2, 3, 5, 7, 8], ⟨[vB, vB, .one (.one (.ptr 0 0 0)), .one (.one (.ptr 1 0 0)), vB, .one (.one (.sl 2)), vB, .one (.one (.sl 3)), vI] ++ vBs 171, [.box [.int .i64, .int .i64, .imm 5], .box [.int .i64, .int .i64], .arr 3, .arr 26]⟩, [⟨.ret, [4], ⟨vBs 4 ++ [vO] ++ vBs 175, []⟩, []⟩, ⟨.exit 0, [], ⟨vBs 180, []⟩, []⟩], []⟩
noncomputable def r10_0 (x : Nat × Nat × Int × Int × Int × List Int × Int × Int × List Int × List Pt × Unit) : Option (Nat × Nat × Int × Int × Int × List Int × Int × Int × List Int × List Pt × Unit ⊕ Bool × Unit ⊕ Unit) :=
  bif decide (x.snd.snd.fst < x.snd.snd.snd.snd.fst) then
  (l10_6
        (x.fst, x.snd.fst, x.snd.snd.fst, (0 : Int), x.snd.snd.snd.fst, x.snd.snd.snd.snd.fst, x.snd.snd.snd.snd.snd.fst,
          x.snd.snd.snd.snd.snd.snd.fst, x.snd.snd.snd.snd.snd.snd.snd.fst, x.snd.snd.snd.snd.snd.snd.snd.snd.fst,
          x.snd.snd.snd.snd.snd.snd.snd.snd.snd.fst, ())).bind
    fun y309 =>
    Sum.elim (fun y307 => some (Sum.inr (Sum.inl (y307.fst, ()))))
      (fun y308 =>
        some
          (Sum.inl
            (y308.fst, y308.snd.fst, IntKind.i64.wrap (y308.snd.snd.fst + (1 : Int)), y308.snd.snd.snd.fst, y308.snd.snd.snd.snd.fst,
              y308.snd.snd.snd.snd.snd.fst, y308.snd.snd.snd.snd.snd.snd.fst, y308.snd.snd.snd.snd.snd.snd.snd.fst,
              y308.snd.snd.snd.snd.snd.snd.snd.snd.fst, y308.snd.snd.snd.snd.snd.snd.snd.snd.snd.fst, ())))
      y309
else some (Sum.inr (Sum.inr ()))
theorem r10_0_run0 (v0 : Nat) (v1 : Nat) (v2 : Int) (v3 : Int) (v4 : Int) (v5 : List Int) (v6 : Int) (v7 : Int) (v8 : List Int) (v9 : List Pt) : roundK tC G10 (look [(6, W10_6)]) c10_0 p10_0 (v0, v1, v2, v3, v4, v5, v6, v7, v8, v9, ()) = r10_0 (v0, v1, v2, v3, v4, v5, v6, v7, v8, v9, ()) := by kernel_rfl
theorem r10_0_run (x : Nat × Nat × Int × Int × Int × List Int × Int × Int × List Int × List Pt × Unit) : roundK tC G10 (look [(6, W10_6)]) c10_0 p10_0 x = r10_0 x := r10_0_run0 x.1 x.2.1 x.2.2.1 x.2.2.2.1 x.2.2.2.2.1 x.2.2.2.2.2.1 x.2.2.2.2.2.2.1 x.2.2.2.2.2.2.2.1 x.2.2.2.2.2.2.2.2.1 x.2.2.2.2.2.2.2.2.2.1
noncomputable def l10_0 (x : Nat × Nat × Int × Int × Int × List Int × Int × Int × List Int × List Pt × Unit) : Option (Bool × Unit ⊕ Unit) := iterO r10_0 x
noncomputable def W10_0 : LF tC := loopW tC p10_0 0 l10_0
theorem W10_0_ok : keyed 0 (bodyOf Try.f10) = [.block 0 (.loop c10_0)] ∧ ∀ n, n ≤ 0 → Snd tC n (.block 0 (.loop c10_0)) W10_0.k := ⟨by kernel_rfl, fun n hn => loopW_ok (p := p10_0) (id := 0) Y10 (lam_le (lam_cons W10_6_ok lam_nil) n hn) hn r10_0_run⟩
def S10 : FS := ⟨[[.v, .v, .s 5], [.v, .v]], [⟨[.one (.agg [.int .i64, .int .i64, .imm 5]), .one (.agg [.int .i64, .int .i64])], []⟩], [⟨[vO], []⟩], [[.v]], []⟩
noncomputable def f10 (x : Int × Int × List Int × Int × Int × Unit) : Option (Bool × Unit) :=
  (f14 ()).bind fun y321 =>
  bif !y321.fst then (f14 ()).bind fun y312 => some (y312.fst, ())
  else
    bif !f15 x.fst x.snd.fst x.snd.snd.fst then (f14 ()).bind fun y313 => some (y313.fst, ())
    else
      (f17 (x.fst, x.snd.fst, x.snd.snd.fst, x.snd.snd.snd.fst, x.snd.snd.snd.snd.fst, ())).bind fun y320 =>
        (f24 (x.fst, x.snd.fst, x.snd.snd.fst, ())).bind fun y319 =>
          bif !y319.fst then bif y320.snd.fst != (0 : Int) then some ((↑y320.fst : Int) == (0 : Int), ()) else some (false, ())
          else
            (f25 (x.fst, x.snd.fst, x.snd.snd.fst, x.snd.snd.snd.fst, x.snd.snd.snd.snd.fst, ())).bind fun y318 =>
              bif y318.fst != (1 : Int) then
                bif y320.snd.fst != (0 : Int) then some ((↑y320.fst : Int) == (0 : Int), ()) else some (false, ())
              else
                bif y320.snd.fst != (0 : Int) then some (false, ())
                else
                  bif (↑y320.fst : Int) != IntKind.i64.wrap (x.fst * x.snd.fst) then some (false, ())
                  else
                    bif
                        decide ((0 : Int) ≤ IntKind.i64.wrap (IntKind.i64.wrap (x.snd.snd.snd.snd.fst * x.fst) + x.snd.snd.snd.fst)) &&
                          decide
                            (IntKind.i64.wrap (IntKind.i64.wrap (x.snd.snd.snd.snd.fst * x.fst) + x.snd.snd.snd.fst) <
                              (↑y320.fst : Int)) then
                      y320.snd.snd.fst[(0 : Nat) +
                              (IntKind.i64.wrap (IntKind.i64.wrap (x.snd.snd.snd.snd.fst * x.fst) + x.snd.snd.snd.fst)).toNat]?.bind
                        fun y317 =>
                        bif y317 != (0 : Int) then some (false, ())
                        else
                          (l10_0
                                (y320.fst, f31.fst, (0 : Int), x.fst, x.snd.fst, x.snd.snd.fst, x.snd.snd.snd.fst, x.snd.snd.snd.snd.fst,
                                  y320.snd.snd.fst, f31.snd, ())).bind
                            fun y316 => Sum.elim (fun y314 => some (y314.fst, ())) (fun _x => some (true, ())) y316
                    else none
noncomputable def F10 : CF tC := mkF tC S10 f10
theorem f10_run : ∀ a, fnS tC G10 (look [(0, W10_0)]) Try.f10 S10 a = f10 a := fun a => by kernel_rfl
theorem F10_ok : CFOK tC 10 F10 := mkF_ok Y10 (fn := Try.f10) (body := bodyOf Try.f10) (by kernel_rfl) (by kernel_rfl) (by kernel_rfl) (m := 0) rfl (lam_le (lam_cons W10_0_ok lam_nil)) f10_run

/-! PathSteps -/
noncomputable def G11 : FuncId → Option (CF tC) := look [(14, F14), (15, F15), (16, F16), (32, F32), (33, F33), (24, F24), (27, F27), (34, F34), (20, F20)]
theorem Y11 : SysN tC G11 := (sys_cons F14_ok (mkF_nat _ _) (sys_cons F15_ok (mkF_nat _ _) (sys_cons F16_ok (mkF_nat _ _) (sys_cons F32_ok (mkF_nat _ _) (sys_cons F33_ok (mkF_nat _ _) (sys_cons F24_ok (mkF_nat _ _) (sys_cons F27_ok (mkF_nat _ _) (sys_cons F34_ok (mkF_nat _ _) (sys_cons F20_ok (mkF_nat _ _) (sys_nil tC_ok tC_eq))))))))))
noncomputable def c11_25 : Code := subCode (bodyOf Try.f11) 25
def p11_25 : PS := ⟨0, [3, 4, 5, 7, 8, 9, 10], ⟨[vB, vB, vB, .one (.one (.ptr 0 0 0)), .one (.one (.ptr 1 0 0)), .one (.one (.ptr 2 0 0)), vB, .one (.one (.ptr 3 0 0)), vI, vO, vI] ++ vBs 49, [.box [.int .i64, .int .i64, .imm 5], .box [.int .i64, .int .i64], .box [.int .i64, .int .i64], .box [.int .i64, .int .i64, .sl 4], .arr 5]⟩, [⟨.ret, [6], ⟨vBs 6 ++ [vO] ++ vBs 53, []⟩, []⟩], []⟩
noncomputable def j11_25 (x : Int × Bool × Int × Int × Int × List Int × Int × Int × Int × Int × Int × Int × Nat × List Int × Unit) : Option (Bool × Unit) :=
  bif x.fst == bif decide ((0 : Int) > x.snd.snd.fst) then (0 : Int) else x.snd.snd.fst then
  bif x.snd.fst == decide (x.snd.snd.fst ≥ (0 : Int)) then
    bif
        decide
          ((0 : Nat) + x.snd.snd.snd.snd.snd.snd.snd.snd.snd.snd.snd.snd.fst ≤
            x.snd.snd.snd.snd.snd.snd.snd.snd.snd.snd.snd.snd.snd.fst.length) then
      (f27
            (x.snd.snd.snd.snd.snd.snd.snd.snd.snd.snd.fst, x.snd.snd.snd.snd.snd.snd.snd.snd.snd.snd.snd.fst,
              List.take x.snd.snd.snd.snd.snd.snd.snd.snd.snd.snd.snd.snd.fst
                (List.drop (0 : Nat) x.snd.snd.snd.snd.snd.snd.snd.snd.snd.snd.snd.snd.snd.fst),
              x.snd.snd.snd.snd.snd.snd.fst, x.snd.snd.snd.snd.snd.snd.snd.fst, x.snd.snd.snd.snd.snd.snd.snd.snd.fst,
              x.snd.snd.snd.snd.snd.snd.snd.snd.snd.fst, ())).bind
        fun y37 =>
        (f34
              (x.snd.snd.snd.fst, x.snd.snd.snd.snd.fst, x.snd.snd.snd.snd.snd.fst, x.snd.snd.snd.snd.snd.snd.fst,
                x.snd.snd.snd.snd.snd.snd.snd.fst, x.snd.snd.snd.snd.snd.snd.snd.snd.fst, x.snd.snd.snd.snd.snd.snd.snd.snd.snd.fst,
                ())).bind
          fun y36 =>
          bif y37.fst == y36.fst then
            bif
                decide
                  ((0 : Nat) + x.snd.snd.snd.snd.snd.snd.snd.snd.snd.snd.snd.snd.fst ≤
                    x.snd.snd.snd.snd.snd.snd.snd.snd.snd.snd.snd.snd.snd.fst.length) then
              some
                (f20 x.snd.snd.snd.fst x.snd.snd.snd.snd.fst x.snd.snd.snd.snd.snd.fst x.snd.snd.snd.snd.snd.snd.snd.snd.snd.snd.fst
                    x.snd.snd.snd.snd.snd.snd.snd.snd.snd.snd.snd.fst
                    (List.take x.snd.snd.snd.snd.snd.snd.snd.snd.snd.snd.snd.snd.fst
                      (List.drop (0 : Nat) x.snd.snd.snd.snd.snd.snd.snd.snd.snd.snd.snd.snd.snd.fst)),
                  ())
            else none
          else some (false, ())
    else none
  else some (false, ())
else some (false, ())
theorem j11_25_run0 (v0 : Int) (v1 : Bool) (v2 : Int) (v3 : Int) (v4 : Int) (v5 : List Int) (v6 : Int) (v7 : Int) (v8 : Int) (v9 : Int) (v10 : Int) (v11 : Int) (v12 : Nat) (v13 : List Int) : pieceK tC G11 (look []) c11_25 p11_25 (v0, v1, v2, v3, v4, v5, v6, v7, v8, v9, v10, v11, v12, v13, ()) = j11_25 (v0, v1, v2, v3, v4, v5, v6, v7, v8, v9, v10, v11, v12, v13, ()) := by kernel_rfl
theorem j11_25_run (x : Int × Bool × Int × Int × Int × List Int × Int × Int × Int × Int × Int × Int × Nat × List Int × Unit) : pieceK tC G11 (look []) c11_25 p11_25 x = j11_25 x := j11_25_run0 x.1 x.2.1 x.2.2.1 x.2.2.2.1 x.2.2.2.2.1 x.2.2.2.2.2.1 x.2.2.2.2.2.2.1 x.2.2.2.2.2.2.2.1 x.2.2.2.2.2.2.2.2.1 x.2.2.2.2.2.2.2.2.2.1 x.2.2.2.2.2.2.2.2.2.2.1 x.2.2.2.2.2.2.2.2.2.2.2.1 x.2.2.2.2.2.2.2.2.2.2.2.2.1 x.2.2.2.2.2.2.2.2.2.2.2.2.2.1
noncomputable def W11_25 : LF tC := cutLF tC p11_25 j11_25
theorem W11_25_ok : keyed 25 (bodyOf Try.f11) = [c11_25] ∧ ∀ n, n ≤ 0 → Snd tC n c11_25 W11_25.k := ⟨by kernel_rfl, fun n hn => cut_ok (p := p11_25) Y11 (lam_le lam_nil n hn) hn j11_25_run⟩
def S11 : FS := ⟨[[.v, .v, .s 5], [.v, .v], [.v, .v]], [⟨[.one (.agg [.int .i64, .int .i64, .imm 5]), .one (.agg [.int .i64, .int .i64]), .one (.agg [.int .i64, .int .i64])], []⟩], [⟨[vO], []⟩], [[.v]], []⟩
noncomputable def f11 (x : Int × Int × List Int × Int × Int × Int × Int × Unit) : Option (Bool × Unit) :=
  (f14 ()).bind fun y49 =>
  bif !y49.fst then (f14 ()).bind fun y41 => some (y41.fst, ())
  else
    bif !f15 x.fst x.snd.fst x.snd.snd.fst then (f14 ()).bind fun y42 => some (y42.fst, ())
    else
      (f16 (x.fst, x.snd.fst, x.snd.snd.fst, ())).bind fun y48 =>
        bif decide ((0 : Nat) + y48.snd.snd.fst ≤ y48.snd.snd.snd.fst.length) then
          (f32
                (y48.fst, y48.snd.fst, List.take y48.snd.snd.fst (List.drop (0 : Nat) y48.snd.snd.snd.fst), x.snd.snd.snd.fst,
                  x.snd.snd.snd.snd.fst, x.snd.snd.snd.snd.snd.fst, x.snd.snd.snd.snd.snd.snd.fst, ())).bind
            fun y47 =>
            (f24 (x.fst, x.snd.fst, x.snd.snd.fst, ())).bind fun y46 =>
              bif y46.fst then
                (f33
                      (x.fst, x.snd.fst, x.snd.snd.fst, x.snd.snd.snd.fst, x.snd.snd.snd.snd.fst, x.snd.snd.snd.snd.snd.fst,
                        x.snd.snd.snd.snd.snd.snd.fst, ())).bind
                  fun y44 =>
                  (j11_25
                        (y47.fst, y47.snd.fst, y44.fst, x.fst, x.snd.fst, x.snd.snd.fst, x.snd.snd.snd.fst, x.snd.snd.snd.snd.fst,
                          x.snd.snd.snd.snd.snd.fst, x.snd.snd.snd.snd.snd.snd.fst, y48.fst, y48.snd.fst, y48.snd.snd.fst,
                          y48.snd.snd.snd.fst, ())).bind
                    fun y43 => some (y43.fst, ())
              else
                (j11_25
                      (y47.fst, y47.snd.fst, (-1 : Int), x.fst, x.snd.fst, x.snd.snd.fst, x.snd.snd.snd.fst, x.snd.snd.snd.snd.fst,
                        x.snd.snd.snd.snd.snd.fst, x.snd.snd.snd.snd.snd.snd.fst, y48.fst, y48.snd.fst, y48.snd.snd.fst,
                        y48.snd.snd.snd.fst, ())).bind
                  fun y45 => some (y45.fst, ())
        else none
noncomputable def F11 : CF tC := mkF tC S11 f11
theorem f11_run : ∀ a, fnS tC G11 (look [(25, W11_25)]) Try.f11 S11 a = f11 a := fun a => by kernel_rfl
theorem F11_ok : CFOK tC 11 F11 := mkF_ok Y11 (fn := Try.f11) (body := bodyOf Try.f11) (by kernel_rfl) (by kernel_rfl) (by kernel_rfl) (m := 0) rfl (lam_le (lam_cons W11_25_ok lam_nil)) f11_run

/-! PathLengths -/
noncomputable def G12 : FuncId → Option (CF tC) := look [(14, F14), (15, F15), (35, F35), (36, F36), (23, F23)]
theorem Y12 : SysN tC G12 := (sys_cons F14_ok (mkF_nat _ _) (sys_cons F15_ok (mkF_nat _ _) (sys_cons F35_ok (mkF_nat _ _) (sys_cons F36_ok (mkF_nat _ _) (sys_cons F23_ok (mkF_nat _ _) (sys_nil tC_ok tC_eq))))))
def S12 : FS := ⟨[[.v, .v, .s 5], [.s 26]], [⟨[.one (.agg [.int .i64, .int .i64, .imm 5]), .one (.one (.imm 26))], []⟩], [⟨[vO], []⟩], [[.v]], []⟩
noncomputable def f12 (x : Int × Int × List Int × List Pt × Unit) : Option (Bool × Unit) :=
  (f14 ()).bind fun y21 =>
  bif !y21.fst then (f14 ()).bind fun y15 => some (y15.fst, ())
  else
    bif !f15 x.fst x.snd.fst x.snd.snd.fst then (f14 ()).bind fun y16 => some (y16.fst, ())
    else
      bif decide ((↑x.snd.snd.snd.fst.length : Int) > (200 : Int)) then (f14 ()).bind fun y17 => some (y17.fst, ())
      else
        bif roomy ((0 : Nat) + x.snd.snd.snd.fst.length) (16 : Nat) then
          bif decide ((0 : Nat) + ((0 : Nat) + x.snd.snd.snd.fst.length) ≤ ([] ++ x.snd.snd.snd.fst).length) then
            (f35
                  (x.fst, x.snd.fst, x.snd.snd.fst,
                    List.take ((0 : Nat) + x.snd.snd.snd.fst.length) (List.drop (0 : Nat) ([] ++ x.snd.snd.snd.fst)), ())).bind
              fun y20 =>
              (f36 (x.fst, x.snd.fst, x.snd.snd.fst, x.snd.snd.snd.fst, ())).bind fun y19 =>
                bif y20.snd.fst == y19.snd.fst then
                  bif y20.fst == y19.fst then
                    bif decide ((0 : Nat) + ((0 : Nat) + x.snd.snd.snd.fst.length) ≤ ([] ++ x.snd.snd.snd.fst).length) then
                      (f23
                            (List.take ((0 : Nat) + x.snd.snd.snd.fst.length) (List.drop (0 : Nat) ([] ++ x.snd.snd.snd.fst)),
                              x.snd.snd.snd.fst, ())).bind
                        fun y18 => some (y18.fst, ())
                    else none
                  else some (false, ())
                else some (false, ())
          else none
        else none
noncomputable def F12 : CF tC := mkF tC S12 f12
theorem f12_run : ∀ a, fnS tC G12 (look []) Try.f12 S12 a = f12 a := fun a => by kernel_rfl
theorem F12_ok : CFOK tC 12 F12 := mkF_ok Y12 (fn := Try.f12) (body := bodyOf Try.f12) (by kernel_rfl) (by kernel_rfl) (by kernel_rfl) (m := 0) rfl (lam_le lam_nil) f12_run

/-! PathShortest -/
noncomputable def G13 : FuncId → Option (CF tC) := look [(14, F14), (15, F15), (35, F35), (24, F24), (25, F25), (31, F31), (32, F32), (21, F21)]
theorem Y13 : SysN tC G13 := (sys_cons F14_ok (mkF_nat _ _) (sys_cons F15_ok (mkF_nat _ _) (sys_cons F35_ok (mkF_nat _ _) (sys_cons F24_ok (mkF_nat _ _) (sys_cons F25_ok (mkF_nat _ _) (sys_cons F31_ok (mkF_nat _ _) (sys_cons F32_ok (mkF_nat _ _) (sys_cons F21_ok (mkF_nat _ _) (sys_nil tC_ok tC_eq)))))))))
noncomputable def c13_58 : Code := subCode (loopOf (bodyOf Try.f13) 0) 58
def p13_58 : PS := ⟨0, [2, 3, 4, 7, 10, 11, 12, 13, 15, 16], ⟨[vB, vB, .one (.one (.imm 5)), .one (.one (.ptr 0 0 0)), .one (.one (.ptr 1 0 0)), vB, vB, .one (.one (.sl 2)), vB, vB, vI, .one (.one (.ptr 3 0 0)), .one (.one (.sl 4)), vI, vB, .one (.one (.ptr 5 0 0)), vI] ++ vBs 154, [.box [.int .i64, .int .i64, .imm 5], .box [.int .i64, .int .i64], .arr 26, .box [.int .i64, .int .i64], .arr 26, .box [.int .i64, .int .i64]]⟩, [⟨.normal, [2, 3, 4, 7, 10, 11, 12, 13], ⟨[vB, vB, .one (.one (.imm 5)), .one (.one (.ptr 0 0 0)), .one (.one (.ptr 1 0 0)), vB, vB, .one (.one (.sl 2)), vB, vB, vI, .one (.one (.ptr 3 0 0)), .one (.one (.sl 4)), vI] ++ vBs 157, [.box [.int .i64, .int .i64, .imm 5], .box [.int .i64, .int .i64], .arr 26, .box [.int .i64, .int .i64], .arr 26]⟩, []⟩], []⟩
noncomputable def j13_58 (x : List Int × Nat × Int × Nat × Int × Int × Int × Int × List Int × Int × Int × List Pt × Int × Int × List Pt × Int × Int × Unit) : Option (List Int × Nat × Int × Nat × Int × Int × Int × List Int × Int × Int × List Pt × Int × Int × List Pt × Unit) :=
  bif decide ((0 : Nat) + x.snd.fst ≤ x.snd.snd.snd.snd.snd.snd.snd.snd.snd.snd.snd.fst.length) then
  bif roomy (x.snd.fst + (1 : Nat)) (16 : Nat) then
    some
      (x.fst, x.snd.fst + (1 : Nat), IntKind.i64.wrap (x.snd.snd.fst + x.snd.snd.snd.snd.snd.fst), x.snd.snd.snd.fst, x.snd.snd.snd.snd.fst,
        x.snd.snd.snd.snd.snd.snd.fst, x.snd.snd.snd.snd.snd.snd.snd.fst, x.snd.snd.snd.snd.snd.snd.snd.snd.fst,
        x.snd.snd.snd.snd.snd.snd.snd.snd.snd.fst, x.snd.snd.snd.snd.snd.snd.snd.snd.snd.snd.fst,
        List.take x.snd.fst (List.drop (0 : Nat) x.snd.snd.snd.snd.snd.snd.snd.snd.snd.snd.snd.fst) ++
          [Pt.mk x.snd.snd.snd.snd.snd.snd.snd.snd.snd.snd.snd.snd.snd.snd.snd.fst
              x.snd.snd.snd.snd.snd.snd.snd.snd.snd.snd.snd.snd.snd.snd.snd.snd.fst],
        x.snd.snd.snd.snd.snd.snd.snd.snd.snd.snd.snd.snd.snd.snd.snd.fst,
        x.snd.snd.snd.snd.snd.snd.snd.snd.snd.snd.snd.snd.snd.snd.snd.snd.fst,
        x.snd.snd.snd.snd.snd.snd.snd.snd.snd.snd.snd.snd.snd.snd.fst, ())
  else none
else none
theorem j13_58_run0 (v0 : List Int) (v1 : Nat) (v2 : Int) (v3 : Nat) (v4 : Int) (v5 : Int) (v6 : Int) (v7 : Int) (v8 : List Int) (v9 : Int) (v10 : Int) (v11 : List Pt) (v12 : Int) (v13 : Int) (v14 : List Pt) (v15 : Int) (v16 : Int) : pieceK tC G13 (look []) c13_58 p13_58 (v0, v1, v2, v3, v4, v5, v6, v7, v8, v9, v10, v11, v12, v13, v14, v15, v16, ()) = j13_58 (v0, v1, v2, v3, v4, v5, v6, v7, v8, v9, v10, v11, v12, v13, v14, v15, v16, ()) := by kernel_rfl
theorem j13_58_run (x : List Int × Nat × Int × Nat × Int × Int × Int × Int × List Int × Int × Int × List Pt × Int × Int × List Pt × Int × Int × Unit) : pieceK tC G13 (look []) c13_58 p13_58 x = j13_58 x := j13_58_run0 x.1 x.2.1 x.2.2.1 x.2.2.2.1 x.2.2.2.2.1 x.2.2.2.2.2.1 x.2.2.2.2.2.2.1 x.2.2.2.2.2.2.2.1 x.2.2.2.2.2.2.2.2.1 x.2.2.2.2.2.2.2.2.2.1 x.2.2.2.2.2.2.2.2.2.2.1 x.2.2.2.2.2.2.2.2.2.2.2.1 x.2.2.2.2.2.2.2.2.2.2.2.2.1 x.2.2.2.2.2.2.2.2.2.2.2.2.2.1 x.2.2.2.2.2.2.2.2.2.2.2.2.2.2.1 x.2.2.2.2.2.2.2.2.2.2.2.2.2.2.2.1 x.2.2.2.2.2.2.2.2.2.2.2.2.2.2.2.2.1
noncomputable def W13_58 : LF tC := cutLF tC p13_58 j13_58
theorem W13_58_ok : keyed 58 (loopOf (bodyOf Try.f13) 0) = [c13_58] ∧ ∀ n, n ≤ 0 → Snd tC n c13_58 W13_58.k := ⟨by kernel_rfl, fun n hn => cut_ok (p := p13_58) Y13 (lam_le lam_nil n hn) hn j13_58_run⟩
noncomputable def c13_37 : Code := subCode (loopOf (bodyOf Try.f13) 0) 37
def p13_37 : PS := ⟨0, [2, 3, 4, 7, 10, 11, 12, 13], ⟨[vB, vB, .one (.one (.imm 5)), .one (.one (.ptr 0 0 0)), .one (.one (.ptr 1 0 0)), vB, vB, .one (.one (.sl 2)), vB, vB, vI, .one (.one (.ptr 3 0 0)), .one (.one (.sl 4)), vI] ++ vBs 157, [.box [.int .i64, .int .i64, .imm 5], .box [.int .i64, .int .i64], .arr 26, .box [.int .i64, .int .i64], .arr 26]⟩, [⟨.normal, [2, 3, 4, 7, 10, 11, 12, 13], ⟨[vB, vB, .one (.one (.imm 5)), .one (.one (.ptr 0 0 0)), .one (.one (.ptr 1 0 0)), vB, vB, .one (.one (.sl 2)), vB, vB, vI, .one (.one (.ptr 3 0 0)), .one (.one (.sl 4)), vI] ++ vBs 157, [.box [.int .i64, .int .i64, .imm 5], .box [.int .i64, .int .i64], .arr 26, .box [.int .i64, .int .i64], .arr 26]⟩, []⟩], []⟩
noncomputable def j13_37 (x : List Int × Nat × Int × Nat × Int × Int × Int × List Int × Int × Int × List Pt × Int × Int × List Pt × Unit) : Option (List Int × Nat × Int × Nat × Int × Int × Int × List Int × Int × Int × List Pt × Int × Int × List Pt × Unit) :=
  some
  (x.fst, x.snd.fst, x.snd.snd.fst, x.snd.snd.snd.fst, IntKind.i64.wrap (x.snd.snd.snd.snd.fst + (1 : Int)), x.snd.snd.snd.snd.snd.fst,
    x.snd.snd.snd.snd.snd.snd.fst, x.snd.snd.snd.snd.snd.snd.snd.fst, x.snd.snd.snd.snd.snd.snd.snd.snd.fst,
    x.snd.snd.snd.snd.snd.snd.snd.snd.snd.fst, x.snd.snd.snd.snd.snd.snd.snd.snd.snd.snd.fst,
    x.snd.snd.snd.snd.snd.snd.snd.snd.snd.snd.snd.fst, x.snd.snd.snd.snd.snd.snd.snd.snd.snd.snd.snd.snd.fst,
    x.snd.snd.snd.snd.snd.snd.snd.snd.snd.snd.snd.snd.snd.fst, ())
theorem j13_37_run0 (v0 : List Int) (v1 : Nat) (v2 : Int) (v3 : Nat) (v4 : Int) (v5 : Int) (v6 : Int) (v7 : List Int) (v8 : Int) (v9 : Int) (v10 : List Pt) (v11 : Int) (v12 : Int) (v13 : List Pt) : pieceK tC G13 (look []) c13_37 p13_37 (v0, v1, v2, v3, v4, v5, v6, v7, v8, v9, v10, v11, v12, v13, ()) = j13_37 (v0, v1, v2, v3, v4, v5, v6, v7, v8, v9, v10, v11, v12, v13, ()) := by kernel_rfl
theorem j13_37_run (x : List Int × Nat × Int × Nat × Int × Int × Int × List Int × Int × Int × List Pt × Int × Int × List Pt × Unit) : pieceK tC G13 (look []) c13_37 p13_37 x = j13_37 x := j13_37_run0 x.1 x.2.1 x.2.2.1 x.2.2.2.1 x.2.2.2.2.1 x.2.2.2.2.2.1 x.2.2.2.2.2.2.1 x.2.2.2.2.2.2.2.1 x.2.2.2.2.2.2.2.2.1 x.2.2.2.2.2.2.2.2.2.1 x.2.2.2.2.2.2.2.2.2.2.1 x.2.2.2.2.2.2.2.2.2.2.2.1 x.2.2.2.2.2.2.2.2.2.2.2.2.1 x.2.2.2.2.2.2.2.2.2.2.2.2.2.1
noncomputable def W13_37 : LF tC := cutLF tC p13_37 j13_37
theorem W13_37_ok : keyed 37 (loopOf (bodyOf Try.f13) 0) = [c13_37] ∧ ∀ n, n ≤ 0 → Snd tC n c13_37 W13_37.k := ⟨by kernel_rfl, fun n hn => cut_ok (p := p13_37) Y13 (lam_le lam_nil n hn) hn j13_37_run⟩
noncomputable def c13_0 : Code := loopOf (bodyOf Try.f13) 0
def p13_0 : LS := ⟨0, [2, 3, 4, 7, 10, 11, 12, 13], ⟨[vB, vB, .one (.one (.imm 5)), .one (.one (.ptr 0 0 0)), .one (.one (.ptr 1 0 0)), vB, vB, .one (.one (.sl 2)), vB, vB, vI, .one (.one (.ptr 3 0 0)), .one (.one (.sl 4)), vI] ++ vBs 157, [.box [.int .i64, .int .i64, .imm 5], .box [.int .i64, .int .i64], .arr 26, .box [.int .i64, .int .i64], .arr 26]⟩, [⟨.ret, [6], ⟨vBs 6 ++ [vO] ++ vBs 164, []⟩, []⟩, ⟨.exit 0, [3, 4, 7, 10, 11], ⟨[vB, vB, vB, .one (.one (.ptr 0 0 0)), .one (.one (.ptr 1 0 0)), vB, vB, .one (.one (.sl 2)), vB, vB, vI, .one (.one (.ptr 3 0 0))] ++ vBs 159, [.box [.int .i64, .int .i64, .imm 5], .box [.int .i64, .int .i64], .arr 26, .box [.int .i64, .int .i64]]⟩, []⟩], []⟩
noncomputable def r13_0 (x : List Int × Nat × Int × Nat × Int × Int × Int × List Int × Int × Int × List Pt × Int × Int × List Pt × Unit) : Option
  (List Int × Nat × Int × Nat × Int × Int × Int × List Int × Int × Int × List Pt × Int × Int × List Pt × Unit ⊕
    Bool × Unit ⊕ Nat × Int × Int × Int × List Int × Int × Int × List Pt × Int × Int × Unit) :=
  bif decide (x.snd.snd.snd.snd.fst < (↑x.fst.length : Int)) then
  (idxO x.fst x.snd.snd.snd.snd.fst).bind fun y180 =>
    bif decide ((0 : Int) ≤ y180.tmod (8 : Int)) && decide (y180.tmod (8 : Int) < (↑x.snd.snd.snd.fst : Int)) then
      x.snd.snd.snd.snd.snd.snd.snd.snd.snd.snd.snd.snd.snd.fst[(0 : Nat) + (y180.tmod (8 : Int)).toNat]?.bind fun y179 =>
        (f32
              (x.snd.snd.snd.snd.snd.fst, x.snd.snd.snd.snd.snd.snd.fst, x.snd.snd.snd.snd.snd.snd.snd.fst,
                x.snd.snd.snd.snd.snd.snd.snd.snd.snd.snd.snd.fst, x.snd.snd.snd.snd.snd.snd.snd.snd.snd.snd.snd.snd.fst,
                IntKind.i64.wrap (x.snd.snd.snd.snd.snd.snd.snd.snd.snd.snd.snd.fst + y179.X),
                IntKind.i64.wrap (x.snd.snd.snd.snd.snd.snd.snd.snd.snd.snd.snd.snd.fst + y179.Y), ())).bind
          fun y178 =>
          bif y178.snd.fst then
            bif y178.fst != (70 : Int) then
              bif y178.fst != (99 : Int) then some (Sum.inr (Sum.inl (false, ())))
              else
                (j13_58
                      (x.fst, x.snd.fst, x.snd.snd.fst, x.snd.snd.snd.fst, x.snd.snd.snd.snd.fst, y178.fst, x.snd.snd.snd.snd.snd.fst,
                        x.snd.snd.snd.snd.snd.snd.fst, x.snd.snd.snd.snd.snd.snd.snd.fst, x.snd.snd.snd.snd.snd.snd.snd.snd.fst,
                        x.snd.snd.snd.snd.snd.snd.snd.snd.snd.fst, x.snd.snd.snd.snd.snd.snd.snd.snd.snd.snd.fst,
                        x.snd.snd.snd.snd.snd.snd.snd.snd.snd.snd.snd.fst, x.snd.snd.snd.snd.snd.snd.snd.snd.snd.snd.snd.snd.fst,
                        x.snd.snd.snd.snd.snd.snd.snd.snd.snd.snd.snd.snd.snd.fst,
                        IntKind.i64.wrap (x.snd.snd.snd.snd.snd.snd.snd.snd.snd.snd.snd.fst + y179.X),
                        IntKind.i64.wrap (x.snd.snd.snd.snd.snd.snd.snd.snd.snd.snd.snd.snd.fst + y179.Y), ())).bind
                  fun y174 =>
                  (j13_37
                        (y174.fst, y174.snd.fst, y174.snd.snd.fst, y174.snd.snd.snd.fst, y174.snd.snd.snd.snd.fst,
                          y174.snd.snd.snd.snd.snd.fst, y174.snd.snd.snd.snd.snd.snd.fst, y174.snd.snd.snd.snd.snd.snd.snd.fst,
                          y174.snd.snd.snd.snd.snd.snd.snd.snd.fst, y174.snd.snd.snd.snd.snd.snd.snd.snd.snd.fst,
                          y174.snd.snd.snd.snd.snd.snd.snd.snd.snd.snd.fst, y174.snd.snd.snd.snd.snd.snd.snd.snd.snd.snd.snd.fst,
                          y174.snd.snd.snd.snd.snd.snd.snd.snd.snd.snd.snd.snd.fst,
                          y174.snd.snd.snd.snd.snd.snd.snd.snd.snd.snd.snd.snd.snd.fst, ())).bind
                    fun y173 =>
                    some
                      (Sum.inl
                        (y173.fst, y173.snd.fst, y173.snd.snd.fst, y173.snd.snd.snd.fst, y173.snd.snd.snd.snd.fst,
                          y173.snd.snd.snd.snd.snd.fst, y173.snd.snd.snd.snd.snd.snd.fst, y173.snd.snd.snd.snd.snd.snd.snd.fst,
                          y173.snd.snd.snd.snd.snd.snd.snd.snd.fst, y173.snd.snd.snd.snd.snd.snd.snd.snd.snd.fst,
                          y173.snd.snd.snd.snd.snd.snd.snd.snd.snd.snd.fst, y173.snd.snd.snd.snd.snd.snd.snd.snd.snd.snd.snd.fst,
                          y173.snd.snd.snd.snd.snd.snd.snd.snd.snd.snd.snd.snd.fst,
                          y173.snd.snd.snd.snd.snd.snd.snd.snd.snd.snd.snd.snd.snd.fst, ()))
            else
              (j13_58
                    (x.fst, x.snd.fst, x.snd.snd.fst, x.snd.snd.snd.fst, x.snd.snd.snd.snd.fst, y178.fst, x.snd.snd.snd.snd.snd.fst,
                      x.snd.snd.snd.snd.snd.snd.fst, x.snd.snd.snd.snd.snd.snd.snd.fst, x.snd.snd.snd.snd.snd.snd.snd.snd.fst,
                      x.snd.snd.snd.snd.snd.snd.snd.snd.snd.fst, x.snd.snd.snd.snd.snd.snd.snd.snd.snd.snd.fst,
                      x.snd.snd.snd.snd.snd.snd.snd.snd.snd.snd.snd.fst, x.snd.snd.snd.snd.snd.snd.snd.snd.snd.snd.snd.snd.fst,
                      x.snd.snd.snd.snd.snd.snd.snd.snd.snd.snd.snd.snd.snd.fst,
                      IntKind.i64.wrap (x.snd.snd.snd.snd.snd.snd.snd.snd.snd.snd.snd.fst + y179.X),
                      IntKind.i64.wrap (x.snd.snd.snd.snd.snd.snd.snd.snd.snd.snd.snd.snd.fst + y179.Y), ())).bind
                fun y176 =>
                (j13_37
                      (y176.fst, y176.snd.fst, y176.snd.snd.fst, y176.snd.snd.snd.fst, y176.snd.snd.snd.snd.fst,
                        y176.snd.snd.snd.snd.snd.fst, y176.snd.snd.snd.snd.snd.snd.fst, y176.snd.snd.snd.snd.snd.snd.snd.fst,
                        y176.snd.snd.snd.snd.snd.snd.snd.snd.fst, y176.snd.snd.snd.snd.snd.snd.snd.snd.snd.fst,
                        y176.snd.snd.snd.snd.snd.snd.snd.snd.snd.snd.fst, y176.snd.snd.snd.snd.snd.snd.snd.snd.snd.snd.snd.fst,
                        y176.snd.snd.snd.snd.snd.snd.snd.snd.snd.snd.snd.snd.fst,
                        y176.snd.snd.snd.snd.snd.snd.snd.snd.snd.snd.snd.snd.snd.fst, ())).bind
                  fun y175 =>
                  some
                    (Sum.inl
                      (y175.fst, y175.snd.fst, y175.snd.snd.fst, y175.snd.snd.snd.fst, y175.snd.snd.snd.snd.fst,
                        y175.snd.snd.snd.snd.snd.fst, y175.snd.snd.snd.snd.snd.snd.fst, y175.snd.snd.snd.snd.snd.snd.snd.fst,
                        y175.snd.snd.snd.snd.snd.snd.snd.snd.fst, y175.snd.snd.snd.snd.snd.snd.snd.snd.snd.fst,
                        y175.snd.snd.snd.snd.snd.snd.snd.snd.snd.snd.fst, y175.snd.snd.snd.snd.snd.snd.snd.snd.snd.snd.snd.fst,
                        y175.snd.snd.snd.snd.snd.snd.snd.snd.snd.snd.snd.snd.fst,
                        y175.snd.snd.snd.snd.snd.snd.snd.snd.snd.snd.snd.snd.snd.fst, ()))
          else
            (j13_37
                  (x.fst, x.snd.fst, x.snd.snd.fst, x.snd.snd.snd.fst, x.snd.snd.snd.snd.fst, x.snd.snd.snd.snd.snd.fst,
                    x.snd.snd.snd.snd.snd.snd.fst, x.snd.snd.snd.snd.snd.snd.snd.fst, x.snd.snd.snd.snd.snd.snd.snd.snd.fst,
                    x.snd.snd.snd.snd.snd.snd.snd.snd.snd.fst, x.snd.snd.snd.snd.snd.snd.snd.snd.snd.snd.fst,
                    x.snd.snd.snd.snd.snd.snd.snd.snd.snd.snd.snd.fst, x.snd.snd.snd.snd.snd.snd.snd.snd.snd.snd.snd.snd.fst,
                    x.snd.snd.snd.snd.snd.snd.snd.snd.snd.snd.snd.snd.snd.fst, ())).bind
              fun y177 =>
              some
                (Sum.inl
                  (y177.fst, y177.snd.fst, y177.snd.snd.fst, y177.snd.snd.snd.fst, y177.snd.snd.snd.snd.fst, y177.snd.snd.snd.snd.snd.fst,
                    y177.snd.snd.snd.snd.snd.snd.fst, y177.snd.snd.snd.snd.snd.snd.snd.fst, y177.snd.snd.snd.snd.snd.snd.snd.snd.fst,
                    y177.snd.snd.snd.snd.snd.snd.snd.snd.snd.fst, y177.snd.snd.snd.snd.snd.snd.snd.snd.snd.snd.fst,
                    y177.snd.snd.snd.snd.snd.snd.snd.snd.snd.snd.snd.fst, y177.snd.snd.snd.snd.snd.snd.snd.snd.snd.snd.snd.snd.fst,
                    y177.snd.snd.snd.snd.snd.snd.snd.snd.snd.snd.snd.snd.snd.fst, ()))
    else none
else
  some
    (Sum.inr
      (Sum.inr
        (x.snd.fst, x.snd.snd.fst, x.snd.snd.snd.snd.snd.fst, x.snd.snd.snd.snd.snd.snd.fst, x.snd.snd.snd.snd.snd.snd.snd.fst,
          x.snd.snd.snd.snd.snd.snd.snd.snd.fst, x.snd.snd.snd.snd.snd.snd.snd.snd.snd.fst, x.snd.snd.snd.snd.snd.snd.snd.snd.snd.snd.fst,
          x.snd.snd.snd.snd.snd.snd.snd.snd.snd.snd.snd.fst, x.snd.snd.snd.snd.snd.snd.snd.snd.snd.snd.snd.snd.fst, ())))
theorem r13_0_run0 (v0 : List Int) (v1 : Nat) (v2 : Int) (v3 : Nat) (v4 : Int) (v5 : Int) (v6 : Int) (v7 : List Int) (v8 : Int) (v9 : Int) (v10 : List Pt) (v11 : Int) (v12 : Int) (v13 : List Pt) : roundK tC G13 (look [(58, W13_58), (37, W13_37)]) c13_0 p13_0 (v0, v1, v2, v3, v4, v5, v6, v7, v8, v9, v10, v11, v12, v13, ()) = r13_0 (v0, v1, v2, v3, v4, v5, v6, v7, v8, v9, v10, v11, v12, v13, ()) := by kernel_rfl
theorem r13_0_run (x : List Int × Nat × Int × Nat × Int × Int × Int × List Int × Int × Int × List Pt × Int × Int × List Pt × Unit) : roundK tC G13 (look [(58, W13_58), (37, W13_37)]) c13_0 p13_0 x = r13_0 x := r13_0_run0 x.1 x.2.1 x.2.2.1 x.2.2.2.1 x.2.2.2.2.1 x.2.2.2.2.2.1 x.2.2.2.2.2.2.1 x.2.2.2.2.2.2.2.1 x.2.2.2.2.2.2.2.2.1 x.2.2.2.2.2.2.2.2.2.1 x.2.2.2.2.2.2.2.2.2.2.1 x.2.2.2.2.2.2.2.2.2.2.2.1 x.2.2.2.2.2.2.2.2.2.2.2.2.1 x.2.2.2.2.2.2.2.2.2.2.2.2.2.1
noncomputable def l13_0 (x : List Int × Nat × Int × Nat × Int × Int × Int × List Int × Int × Int × List Pt × Int × Int × List Pt × Unit) : Option (Bool × Unit ⊕ Nat × Int × Int × Int × List Int × Int × Int × List Pt × Int × Int × Unit) := iterO r13_0 x
noncomputable def W13_0 : LF tC := loopW tC p13_0 0 l13_0
theorem W13_0_ok : keyed 0 (bodyOf Try.f13) = [.block 0 (.loop c13_0)] ∧ ∀ n, n ≤ 0 → Snd tC n (.block 0 (.loop c13_0)) W13_0.k := ⟨by kernel_rfl, fun n hn => loopW_ok (p := p13_0) (id := 0) Y13 (lam_le (lam_cons W13_58_ok (lam_cons W13_37_ok lam_nil)) n hn) hn r13_0_run⟩
def S13 : FS := ⟨[[.v, .v, .s 5], [.v, .v], [.s 5]], [⟨[.one (.agg [.int .i64, .int .i64, .imm 5]), .one (.agg [.int .i64, .int .i64]), .one (.one (.imm 5))], []⟩], [⟨[vO], []⟩], [[.v]], []⟩
noncomputable def f13 (x : Int × Int × List Int × Int × Int × List Int × Unit) : Option (Bool × Unit) :=
  (f14 ()).bind fun y217 =>
  bif !y217.fst then (f14 ()).bind fun y203 => some (y203.fst, ())
  else
    bif !f15 x.fst x.snd.fst x.snd.snd.fst then (f14 ()).bind fun y204 => some (y204.fst, ())
    else
      bif decide ((↑x.snd.snd.snd.snd.snd.fst.length : Int) > (200 : Int)) then (f14 ()).bind fun y205 => some (y205.fst, ())
      else
        (f35 (x.fst, x.snd.fst, x.snd.snd.fst, [Pt.mk x.snd.snd.snd.fst x.snd.snd.snd.snd.fst], ())).bind fun y216 =>
          bif y216.snd.fst != (0 : Int) then
            (f24 (x.fst, x.snd.fst, x.snd.snd.fst, ())).bind fun y207 =>
              bif !y207.fst then some (true, ())
              else
                (f25 (x.fst, x.snd.fst, x.snd.snd.fst, x.snd.snd.snd.fst, x.snd.snd.snd.snd.fst, ())).bind fun y206 =>
                  some (y206.fst != (1 : Int), ())
          else
            (l13_0
                  (x.snd.snd.snd.snd.snd.fst, (1 : Nat), (0 : Int), f31.fst, (0 : Int), x.fst, x.snd.fst, x.snd.snd.fst, x.snd.snd.snd.fst,
                    x.snd.snd.snd.snd.fst, [Pt.mk x.snd.snd.snd.fst x.snd.snd.snd.snd.fst], x.snd.snd.snd.fst, x.snd.snd.snd.snd.fst,
                    f31.snd, ())).bind
              fun y215 =>
              Sum.elim (fun y208 => some (y208.fst, ()))
                (fun y214 =>
                  (f21
                        (y214.snd.snd.fst, y214.snd.snd.snd.fst, y214.snd.snd.snd.snd.fst, y214.snd.snd.snd.snd.snd.fst,
                          y214.snd.snd.snd.snd.snd.snd.fst, y214.snd.snd.snd.snd.snd.snd.snd.snd.fst,
                          y214.snd.snd.snd.snd.snd.snd.snd.snd.snd.fst, ())).bind
                    fun y213 =>
                    bif y213.snd.snd.fst != (0 : Int) then some (false, ())
                    else
                      bif decide (y213.snd.fst > y214.snd.fst) then some (false, ())
                      else
                        bif (↑y213.fst : Int) == (0 : Int) then some (false, ())
                        else
                          bif true && decide ((0 : Int) < (↑y213.fst : Int)) then
                            y213.snd.snd.snd.fst[(0 : Nat)]?.bind fun y212 =>
                              bif
                                  !bif y212.X == y214.snd.snd.snd.snd.snd.fst then
                                      bif y212.Y == y214.snd.snd.snd.snd.snd.snd.fst then true else false
                                    else false then
                                some (false, ())
                              else
                                bif
                                    decide ((0 : Int) ≤ IntKind.i64.wrap ((↑y213.fst : Int) - (1 : Int))) &&
                                      decide (IntKind.i64.wrap ((↑y213.fst : Int) - (1 : Int)) < (↑y213.fst : Int)) then
                                  y213.snd.snd.snd.fst[(0 : Nat) + (IntKind.i64.wrap ((↑y213.fst : Int) - (1 : Int))).toNat]?.bind
                                    fun y211 =>
                                    bif
                                        !bif y211.X == y214.snd.snd.snd.snd.snd.snd.snd.snd.fst then
                                            bif y211.Y == y214.snd.snd.snd.snd.snd.snd.snd.snd.snd.fst then true else false
                                          else false then
                                      some (false, ())
                                    else
                                      bif decide ((0 : Nat) + y214.fst ≤ y214.snd.snd.snd.snd.snd.snd.snd.fst.length) then
                                        (f35
                                              (y214.snd.snd.fst, y214.snd.snd.snd.fst, y214.snd.snd.snd.snd.fst,
                                                List.take y214.fst (List.drop (0 : Nat) y214.snd.snd.snd.snd.snd.snd.snd.fst), ())).bind
                                          fun y210 =>
                                          bif decide ((0 : Nat) + y213.fst ≤ y213.snd.snd.snd.fst.length) then
                                            (f35
                                                  (y214.snd.snd.fst, y214.snd.snd.snd.fst, y214.snd.snd.snd.snd.fst,
                                                    List.take y213.fst (List.drop (0 : Nat) y213.snd.snd.snd.fst), ())).bind
                                              fun y209 =>
                                              bif y210.snd.fst == (0 : Int) then
                                                bif y210.fst == y214.snd.fst then
                                                  bif y209.snd.fst == (0 : Int) then some (y209.fst == y213.snd.fst, ())
                                                  else some (false, ())
                                                else some (false, ())
                                              else some (false, ())
                                          else none
                                      else none
                                else none
                          else none)
                y215
noncomputable def F13 : CF tC := mkF tC S13 f13
theorem f13_run : ∀ a, fnS tC G13 (look [(0, W13_0)]) Try.f13 S13 a = f13 a := fun a => by kernel_rfl
theorem F13_ok : CFOK tC 13 F13 := mkF_ok Y13 (fn := Try.f13) (body := bodyOf Try.f13) (by kernel_rfl) (by kernel_rfl) (by kernel_rfl) (m := 0) rfl (lam_le (lam_cons W13_0_ok lam_nil)) f13_run
end Go.AE
