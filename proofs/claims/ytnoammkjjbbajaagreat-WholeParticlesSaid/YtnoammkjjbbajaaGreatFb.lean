/-
  The plain functions that the seat's Go functions compute, each with the proof that the function keeps it. Printed by the generator (Gen2) and checked by the kernel.
-/
import Derived.Test.YtnoammkjjbbajaaGreatF
namespace Go.AE
open Go.Proofs Go.RowKit
set_option maxRecDepth 100000

/-! ray.within -/
noncomputable def G56 : FuncId → Option (CF tC) := look []
theorem Y56 : SysN tC G56 := (sys_nil tC_ok tC_eq)
def S56 : FS := ⟨[[.v], [.v], [.v]], [⟨[vI, vI, vI], []⟩], [⟨[vO], []⟩], [[.v]], []⟩
def f56 (n1 : Int) (n2 : Int) (n3 : Int) : Bool :=
  bif decide (n1 ≥ n2) then decide (n1 ≤ n3) else false
noncomputable def F56 : CF tC := mkF tC S56 (fun a => some ((f56 a.1 a.2.1 a.2.2.1), ()))
def h56 (r : Bool) : Option (altTy tE S56.outs) := some (r, ())
theorem f56_run : ∀ a, fnS tC G56 (look []) Tryz.f56 S56 a = (fun a => some ((f56 a.1 a.2.1 a.2.2.1), ())) a := fun a => by
  have key : ∀ (n1 : Int) (n2 : Int) (n3 : Int), (bif decide (n1 ≥ n2) then h56 (decide (n1 ≤ n3)) else h56 false) = h56 (f56 n1 n2 n3) := by
    intros
    unfold f56
    repeat' first | rfl | refine cond_h (g := h56) ?_ ?_
  exact Eq.trans (by kernel_rfl) (key a.1 a.2.1 a.2.2.1)
theorem F56_ok : CFOK tC 56 F56 := mkF_ok Y56 (fn := Tryz.f56) (body := bodyOf Tryz.f56) (by kernel_rfl) (by kernel_rfl) (by kernel_rfl) (m := 0) rfl (lam_le lam_nil) f56_run

/-! ray.in -/
noncomputable def G79 : FuncId → Option (CF tC) := look [(22, F22), (56, F56)]
theorem Y79 : SysN tC G79 := (sys_cons F22_ok (mkF_nat _ _) (sys_cons F56_ok (mkF_nat _ _) (sys_nil tC_ok tC_eq)))
def S79 : FS := ⟨[[.v, .v, .s 5], [.v, .v]], [⟨[.one (.agg [.int .i64, .int .i64, .imm 5]), .one (.agg [.int .i64, .int .i64])], []⟩], [⟨[vO], []⟩], [[.v]], []⟩
noncomputable def f79 (x : Int × Int × List Int × Int × Int × Unit) : Option (Bool × Unit) :=
  (f22 (x.fst, x.snd.fst, x.snd.snd.fst, ())).bind fun y8 =>
  bif y8.fst then
    bif f56 x.snd.snd.snd.fst (0 : Int) (IntKind.i64.wrap ((64 : Int) * x.fst)) then
      some (f56 x.snd.snd.snd.snd.fst (0 : Int) (IntKind.i64.wrap ((64 : Int) * x.snd.fst)), ())
    else some (false, ())
  else some (false, ())
noncomputable def F79 : CF tC := mkF tC S79 f79
theorem f79_run : ∀ a, fnS tC G79 (look []) Tryz.f79 S79 a = f79 a := fun a => by kernel_rfl
theorem F79_ok : CFOK tC 79 F79 := mkF_ok Y79 (fn := Tryz.f79) (body := bodyOf Tryz.f79) (by kernel_rfl) (by kernel_rfl) (by kernel_rfl) (m := 0) rfl (lam_le lam_nil) f79_run

/-! ray.stands -/
noncomputable def G54 : FuncId → Option (CF tC) := look [(79, F79), (56, F56)]
theorem Y54 : SysN tC G54 := (sys_cons F79_ok (mkF_nat _ _) (sys_cons F56_ok (mkF_nat _ _) (sys_nil tC_ok tC_eq)))
def S54 : FS := ⟨[[.v, .v, .s 5], [.v, .v, .v]], [⟨[.one (.agg [.int .i64, .int .i64, .imm 5]), .one (.agg [.int .i64, .int .i64, .int .i64])], []⟩], [⟨[vO], []⟩], [[.v]], []⟩
noncomputable def f54 (x : Int × Int × List Int × Int × Int × Int × Unit) : Option (Bool × Unit) :=
  (f79 (x.fst, x.snd.fst, x.snd.snd.fst, x.snd.snd.snd.fst, x.snd.snd.snd.snd.fst, ())).bind fun y9 =>
  bif y9.fst then some (f56 x.snd.snd.snd.snd.snd.fst (0 : Int) (255 : Int), ()) else some (false, ())
noncomputable def F54 : CF tC := mkF tC S54 f54
theorem f54_run : ∀ a, fnS tC G54 (look []) Tryz.f54 S54 a = f54 a := fun a => by kernel_rfl
theorem F54_ok : CFOK tC 54 F54 := mkF_ok Y54 (fn := Tryz.f54) (body := bodyOf Tryz.f54) (by kernel_rfl) (by kernel_rfl) (by kernel_rfl) (m := 0) rfl (lam_le lam_nil) f54_run

/-! plan.validVector -/
noncomputable def G107 : FuncId → Option (CF tC) := look [(85, F85)]
theorem Y107 : SysN tC G107 := (sys_cons F85_ok (mkF_nat _ _) (sys_nil tC_ok tC_eq))
def S107 : FS := ⟨[[.v, .v, .v]], [⟨[.one (.agg [.int .i64, .int .i64, .int .i64])], []⟩], [⟨[vO], []⟩], [[.v]], []⟩
def f107 (n1 : Int) (n2 : Int) (n3 : Int) : Bool :=
  bif decide (n3 ≥ (1 : Int)) then
  bif decide (n3 ≤ (67108864 : Int)) then
    bif f85 n1 n3 then
      bif f85 n2 n3 then IntKind.i64.wrap (IntKind.i64.wrap (n1 * n1) + IntKind.i64.wrap (n2 * n2)) == IntKind.i64.wrap (n3 * n3) else false
    else false
  else false
else false
noncomputable def F107 : CF tC := mkF tC S107 (fun a => some ((f107 a.1 a.2.1 a.2.2.1), ()))
def h107 (r : Bool) : Option (altTy tE S107.outs) := some (r, ())
theorem f107_run : ∀ a, fnS tC G107 (look []) Tryz.f107 S107 a = (fun a => some ((f107 a.1 a.2.1 a.2.2.1), ())) a := fun a => by
  have key : ∀ (n1 : Int) (n2 : Int) (n3 : Int), (bif decide (n3 ≥ (1 : Int)) then
  bif decide (n3 ≤ (67108864 : Int)) then
    bif f85 n1 n3 then
      bif f85 n2 n3 then h107 (IntKind.i64.wrap (IntKind.i64.wrap (n1 * n1) + IntKind.i64.wrap (n2 * n2)) == IntKind.i64.wrap (n3 * n3))
      else h107 false
    else h107 false
  else h107 false
else h107 false) = h107 (f107 n1 n2 n3) := by
    intros
    unfold f107
    repeat' first | rfl | refine cond_h (g := h107) ?_ ?_
  exact Eq.trans (by kernel_rfl) (key a.1 a.2.1 a.2.2.1)
theorem F107_ok : CFOK tC 107 F107 := mkF_ok Y107 (fn := Tryz.f107) (body := bodyOf Tryz.f107) (by kernel_rfl) (by kernel_rfl) (by kernel_rfl) (m := 0) rfl (lam_le lam_nil) f107_run

/-! plan.reach -/
noncomputable def G120 : FuncId → Option (CF tC) := look [(84, F84)]
theorem Y120 : SysN tC G120 := (sys_cons F84_ok (mkF_nat _ _) (sys_nil tC_ok tC_eq))
def S120 : FS := ⟨[[.v], [.v], [.v], [.v], [.v], [.v]], [⟨[vI, vI, vI, vI, vI, vI], []⟩], [⟨[.tup [.one (.int .i64), .one (.int .i64)]], []⟩], [[.v], [.v]], []⟩
noncomputable def f120 (x : Int × Int × Int × Int × Int × Int × Unit) : Option (Int × Int × Unit) :=
  (f84
      (bif
            decide
              (IntKind.i64.wrap (x.snd.snd.snd.snd.snd.fst * x.snd.snd.fst) < IntKind.i64.wrap (x.snd.snd.snd.snd.fst * x.snd.snd.fst)) then
          IntKind.i64.wrap (x.snd.snd.snd.snd.snd.fst * x.snd.snd.fst)
        else IntKind.i64.wrap (x.snd.snd.snd.snd.fst * x.snd.snd.fst),
        x.snd.snd.snd.fst, ())).bind
  fun y12 =>
  (f84
        (bif
              decide
                (IntKind.i64.wrap (x.snd.snd.snd.snd.snd.fst * x.snd.snd.fst) >
                  IntKind.i64.wrap (x.snd.snd.snd.snd.fst * x.snd.snd.fst)) then
            IntKind.i64.wrap (x.snd.snd.snd.snd.snd.fst * x.snd.snd.fst)
          else IntKind.i64.wrap (x.snd.snd.snd.snd.fst * x.snd.snd.fst),
          x.snd.snd.snd.fst, ())).bind
    fun y11 => some (IntKind.i64.wrap (x.fst + y12.fst), IntKind.i64.wrap (IntKind.i64.wrap (x.snd.fst + y11.fst) + (1 : Int)), ())
noncomputable def F120 : CF tC := mkF tC S120 f120
theorem f120_run : ∀ a, fnS tC G120 (look []) Tryz.f120 S120 a = f120 a := fun a => by kernel_rfl
theorem F120_ok : CFOK tC 120 F120 := mkF_ok Y120 (fn := Tryz.f120) (body := bodyOf Tryz.f120) (by kernel_rfl) (by kernel_rfl) (by kernel_rfl) (m := 0) rfl (lam_le lam_nil) f120_run

/-! plan.span -/
noncomputable def G96 : FuncId → Option (CF tC) := look [(84, F84)]
theorem Y96 : SysN tC G96 := (sys_cons F84_ok (mkF_nat _ _) (sys_nil tC_ok tC_eq))
def S96 : FS := ⟨[[.v], [.v]], [⟨[vI, vI], []⟩], [⟨[.tup [.one (.int .i64), .one (.int .i64)]], []⟩], [[.v], [.v]], []⟩
noncomputable def f96 (x : Int × Int × Unit) : Option (Int × Int × Unit) :=
  (f84 (IntKind.i64.wrap ((0 : Int) - x.fst), (64 : Int), ())).bind fun y8 =>
  (f84 (x.snd.fst, (64 : Int), ())).bind fun y7 => some (IntKind.i64.wrap (IntKind.i64.wrap ((0 : Int) - y8.fst) - (1 : Int)), y7.fst, ())
noncomputable def F96 : CF tC := mkF tC S96 f96
theorem f96_run : ∀ a, fnS tC G96 (look []) Tryz.f96 S96 a = f96 a := fun a => by kernel_rfl
theorem F96_ok : CFOK tC 96 F96 := mkF_ok Y96 (fn := Tryz.f96) (body := bodyOf Tryz.f96) (by kernel_rfl) (by kernel_rfl) (by kernel_rfl) (m := 0) rfl (lam_le lam_nil) f96_run

/-! segment.Minus -/
noncomputable def G121 : FuncId → Option (CF tC) := look [(88, F88)]
theorem Y121 : SysN tC G121 := (sys_cons F88_ok (mkF_nat _ _) (sys_nil tC_ok tC_eq))
def S121 : FS := ⟨[[.v, .v, .v, .v], [.v, .v, .v, .v]], [⟨[.one (.agg [.int .i64, .int .i64, .int .i64, .int .i64]), .one (.agg [.int .i64, .int .i64, .int .i64, .int .i64])], []⟩], [⟨[.tup [.agg [.int .i64, .int .i64, .int .i64, .int .i64], .one .bool]], []⟩], [[.v, .v, .v, .v], [.v]], []⟩
def f121 (n1 : Int) (n2 : Int) (n3 : Int) (n4 : Int) (n5 : Int) (n6 : Int) (n7 : Int) (n8 : Int) : Int × Int × Int × Int × Bool :=
  bif !f88 n1 n2 n3 n4 then ((0 : Int), (0 : Int), (0 : Int), (0 : Int), false)
else
  bif !f88 n5 n6 n7 n8 then ((0 : Int), (0 : Int), (0 : Int), (0 : Int), false)
  else
    bif !f88 (IntKind.i64.wrap (n1 - n7)) (IntKind.i64.wrap (n2 - n8)) (IntKind.i64.wrap (n3 - n5)) (IntKind.i64.wrap (n4 - n6)) then
      ((0 : Int), (0 : Int), (0 : Int), (0 : Int), false)
    else (IntKind.i64.wrap (n1 - n7), IntKind.i64.wrap (n2 - n8), IntKind.i64.wrap (n3 - n5), IntKind.i64.wrap (n4 - n6), true)
noncomputable def F121 : CF tC := mkF tC S121 (fun a => some ((f121 a.1 a.2.1 a.2.2.1 a.2.2.2.1 a.2.2.2.2.1 a.2.2.2.2.2.1 a.2.2.2.2.2.2.1 a.2.2.2.2.2.2.2.1).1, (f121 a.1 a.2.1 a.2.2.1 a.2.2.2.1 a.2.2.2.2.1 a.2.2.2.2.2.1 a.2.2.2.2.2.2.1 a.2.2.2.2.2.2.2.1).2.1, (f121 a.1 a.2.1 a.2.2.1 a.2.2.2.1 a.2.2.2.2.1 a.2.2.2.2.2.1 a.2.2.2.2.2.2.1 a.2.2.2.2.2.2.2.1).2.2.1, (f121 a.1 a.2.1 a.2.2.1 a.2.2.2.1 a.2.2.2.2.1 a.2.2.2.2.2.1 a.2.2.2.2.2.2.1 a.2.2.2.2.2.2.2.1).2.2.2.1, (f121 a.1 a.2.1 a.2.2.1 a.2.2.2.1 a.2.2.2.2.1 a.2.2.2.2.2.1 a.2.2.2.2.2.2.1 a.2.2.2.2.2.2.2.1).2.2.2.2, ()))
def h121 (r : Int × Int × Int × Int × Bool) : Option (altTy tE S121.outs) := some (r.1, r.2.1, r.2.2.1, r.2.2.2.1, r.2.2.2.2, ())
theorem f121_run : ∀ a, fnS tC G121 (look []) Tryz.f121 S121 a = (fun a => some ((f121 a.1 a.2.1 a.2.2.1 a.2.2.2.1 a.2.2.2.2.1 a.2.2.2.2.2.1 a.2.2.2.2.2.2.1 a.2.2.2.2.2.2.2.1).1, (f121 a.1 a.2.1 a.2.2.1 a.2.2.2.1 a.2.2.2.2.1 a.2.2.2.2.2.1 a.2.2.2.2.2.2.1 a.2.2.2.2.2.2.2.1).2.1, (f121 a.1 a.2.1 a.2.2.1 a.2.2.2.1 a.2.2.2.2.1 a.2.2.2.2.2.1 a.2.2.2.2.2.2.1 a.2.2.2.2.2.2.2.1).2.2.1, (f121 a.1 a.2.1 a.2.2.1 a.2.2.2.1 a.2.2.2.2.1 a.2.2.2.2.2.1 a.2.2.2.2.2.2.1 a.2.2.2.2.2.2.2.1).2.2.2.1, (f121 a.1 a.2.1 a.2.2.1 a.2.2.2.1 a.2.2.2.2.1 a.2.2.2.2.2.1 a.2.2.2.2.2.2.1 a.2.2.2.2.2.2.2.1).2.2.2.2, ())) a := fun a => by
  have key : ∀ (n1 : Int) (n2 : Int) (n3 : Int) (n4 : Int) (n5 : Int) (n6 : Int) (n7 : Int) (n8 : Int), (bif !f88 n1 n2 n3 n4 then h121 ((0 : Int), (0 : Int), (0 : Int), (0 : Int), false)
else
  bif !f88 n5 n6 n7 n8 then h121 ((0 : Int), (0 : Int), (0 : Int), (0 : Int), false)
  else
    bif !f88 (IntKind.i64.wrap (n1 - n7)) (IntKind.i64.wrap (n2 - n8)) (IntKind.i64.wrap (n3 - n5)) (IntKind.i64.wrap (n4 - n6)) then
      h121 ((0 : Int), (0 : Int), (0 : Int), (0 : Int), false)
    else h121 (IntKind.i64.wrap (n1 - n7), IntKind.i64.wrap (n2 - n8), IntKind.i64.wrap (n3 - n5), IntKind.i64.wrap (n4 - n6), true)) = h121 (f121 n1 n2 n3 n4 n5 n6 n7 n8) := by
    intros
    unfold f121
    repeat' first | rfl | refine cond_h (g := h121) ?_ ?_
  exact Eq.trans (by kernel_rfl) (key a.1 a.2.1 a.2.2.1 a.2.2.2.1 a.2.2.2.2.1 a.2.2.2.2.2.1 a.2.2.2.2.2.2.1 a.2.2.2.2.2.2.2.1)
theorem F121_ok : CFOK tC 121 F121 := mkF_ok Y121 (fn := Tryz.f121) (body := bodyOf Tryz.f121) (by kernel_rfl) (by kernel_rfl) (by kernel_rfl) (m := 0) rfl (lam_le lam_nil) f121_run

/-! segment.less -/
noncomputable def G126 : FuncId → Option (CF tC) := look []
theorem Y126 : SysN tC G126 := (sys_nil tC_ok tC_eq)
def S126 : FS := ⟨[[.v, .v], [.v, .v]], [⟨[.one (.agg [.int .i64, .int .i64]), .one (.agg [.int .i64, .int .i64])], []⟩], [⟨[vO], []⟩], [[.v]], []⟩
def f126 (n1 : Int) (n2 : Int) (n3 : Int) (n4 : Int) : Bool :=
  decide (IntKind.i64.wrap (n1 * n4) < IntKind.i64.wrap (n3 * n2))
noncomputable def F126 : CF tC := mkF tC S126 (fun a => some ((f126 a.1 a.2.1 a.2.2.1 a.2.2.2.1), ()))
def h126 (r : Bool) : Option (altTy tE S126.outs) := some (r, ())
theorem f126_run : ∀ a, fnS tC G126 (look []) Tryz.f126 S126 a = (fun a => some ((f126 a.1 a.2.1 a.2.2.1 a.2.2.2.1), ())) a := fun a => by
  have key : ∀ (n1 : Int) (n2 : Int) (n3 : Int) (n4 : Int), (h126 (decide (IntKind.i64.wrap (n1 * n4) < IntKind.i64.wrap (n3 * n2)))) = h126 (f126 n1 n2 n3 n4) := by
    intros
    unfold f126
    repeat' first | rfl | refine cond_h (g := h126) ?_ ?_
  exact Eq.trans (by kernel_rfl) (key a.1 a.2.1 a.2.2.1 a.2.2.2.1)
theorem F126_ok : CFOK tC 126 F126 := mkF_ok Y126 (fn := Tryz.f126) (body := bodyOf Tryz.f126) (by kernel_rfl) (by kernel_rfl) (by kernel_rfl) (m := 0) rfl (lam_le lam_nil) f126_run

/-! segment.slab -/
noncomputable def G124 : FuncId → Option (CF tC) := look [(126, F126)]
theorem Y124 : SysN tC G124 := (sys_cons F126_ok (mkF_nat _ _) (sys_nil tC_ok tC_eq))
noncomputable def c124_31 : Code := subCode (subCode (subCode (bodyOf Tryz.f124) 19) 25) 31
def p124_31 : PS := ⟨1, [0], ⟨[.one (.one (.ptr 0 0 0))] ++ vBs 76, [.box [.int .i64, .int .i64, .int .i64, .int .i64]]⟩, [⟨.ret, [10], ⟨vBs 10 ++ [vO] ++ vBs 66, [.box [.int .i64, .int .i64, .int .i64, .int .i64]]⟩, []⟩], []⟩
noncomputable def j124_31 (x : Int × Int × Int × Int × Unit) : Option (Bool × Int × Int × Int × Int × Unit) :=
  some (!f126 x.snd.snd.fst x.snd.snd.snd.fst x.fst x.snd.fst, x.fst, x.snd.fst, x.snd.snd.fst, x.snd.snd.snd.fst, ())
theorem j124_31_run0 (v0 : Int) (v1 : Int) (v2 : Int) (v3 : Int) : pieceK tC G124 (look []) c124_31 p124_31 (v0, v1, v2, v3, ()) = j124_31 (v0, v1, v2, v3, ()) := by kernel_rfl
theorem j124_31_run (x : Int × Int × Int × Int × Unit) : pieceK tC G124 (look []) c124_31 p124_31 x = j124_31 x := j124_31_run0 x.1 x.2.1 x.2.2.1 x.2.2.2.1
noncomputable def W124_31 : LF tC := cutLF tC p124_31 j124_31
theorem W124_31_ok : keyed 31 (subCode (subCode (bodyOf Tryz.f124) 19) 25) = [c124_31] ∧ ∀ n, n ≤ 1 → Snd tC n c124_31 W124_31.k := ⟨by kernel_rfl, fun n hn => cut_ok (p := p124_31) Y124 (lam_le lam_nil n hn) hn j124_31_run⟩
noncomputable def c124_25 : Code := subCode (subCode (bodyOf Tryz.f124) 19) 25
def p124_25 : PS := ⟨1, [0, 12], ⟨[.one (.one (.ptr 0 0 0))] ++ vBs 11 ++ [.one (.one (.ptr 1 0 0))] ++ vBs 64, [.box [.int .i64, .int .i64, .int .i64, .int .i64], .box [.int .i64, .int .i64]]⟩, [⟨.ret, [10], ⟨vBs 10 ++ [vO] ++ vBs 66, [.box [.int .i64, .int .i64, .int .i64, .int .i64]]⟩, []⟩], []⟩
noncomputable def j124_25 (x : Int × Int × Int × Int × Int × Int × Unit) : Option (Bool × Int × Int × Int × Int × Unit) :=
  bif f126 x.snd.snd.snd.snd.fst x.snd.snd.snd.snd.snd.fst x.snd.snd.fst x.snd.snd.snd.fst then
  (j124_31 (x.fst, x.snd.fst, x.snd.snd.snd.snd.fst, x.snd.snd.snd.snd.snd.fst, ())).bind fun y47 =>
    some (y47.fst, y47.snd.fst, y47.snd.snd.fst, y47.snd.snd.snd.fst, y47.snd.snd.snd.snd.fst, ())
else
  (j124_31 (x.fst, x.snd.fst, x.snd.snd.fst, x.snd.snd.snd.fst, ())).bind fun y48 =>
    some (y48.fst, y48.snd.fst, y48.snd.snd.fst, y48.snd.snd.snd.fst, y48.snd.snd.snd.snd.fst, ())
theorem j124_25_run0 (v0 : Int) (v1 : Int) (v2 : Int) (v3 : Int) (v4 : Int) (v5 : Int) : pieceK tC G124 (look [(31, W124_31)]) c124_25 p124_25 (v0, v1, v2, v3, v4, v5, ()) = j124_25 (v0, v1, v2, v3, v4, v5, ()) := by kernel_rfl
theorem j124_25_run (x : Int × Int × Int × Int × Int × Int × Unit) : pieceK tC G124 (look [(31, W124_31)]) c124_25 p124_25 x = j124_25 x := j124_25_run0 x.1 x.2.1 x.2.2.1 x.2.2.2.1 x.2.2.2.2.1 x.2.2.2.2.2.1
noncomputable def W124_25 : LF tC := cutLF tC p124_25 j124_25
theorem W124_25_ok : keyed 25 (subCode (bodyOf Tryz.f124) 19) = [c124_25] ∧ ∀ n, n ≤ 1 → Snd tC n c124_25 W124_25.k := ⟨by kernel_rfl, fun n hn => cut_ok (p := p124_25) Y124 (lam_le (lam_cons W124_31_ok lam_nil) n hn) hn j124_25_run⟩
noncomputable def c124_19 : Code := subCode (bodyOf Tryz.f124) 19
def p124_19 : PS := ⟨1, [0, 11, 12], ⟨[.one (.one (.ptr 0 0 0))] ++ vBs 10 ++ [.one (.one (.ptr 1 0 0)), .one (.one (.ptr 2 0 0))] ++ vBs 64, [.box [.int .i64, .int .i64, .int .i64, .int .i64], .box [.int .i64, .int .i64], .box [.int .i64, .int .i64]]⟩, [⟨.ret, [10], ⟨vBs 10 ++ [vO] ++ vBs 66, [.box [.int .i64, .int .i64, .int .i64, .int .i64]]⟩, []⟩], []⟩
noncomputable def j124_19 (x : Int × Int × Int × Int × Int × Int × Int × Int × Unit) : Option (Bool × Int × Int × Int × Int × Unit) :=
  bif f126 x.fst x.snd.fst x.snd.snd.snd.snd.fst x.snd.snd.snd.snd.snd.fst then
  (j124_25
        (x.snd.snd.snd.snd.fst, x.snd.snd.snd.snd.snd.fst, x.snd.snd.fst, x.snd.snd.snd.fst, x.snd.snd.snd.snd.snd.snd.fst,
          x.snd.snd.snd.snd.snd.snd.snd.fst, ())).bind
    fun y64 => some (y64.fst, y64.snd.fst, y64.snd.snd.fst, y64.snd.snd.snd.fst, y64.snd.snd.snd.snd.fst, ())
else
  (j124_25 (x.fst, x.snd.fst, x.snd.snd.fst, x.snd.snd.snd.fst, x.snd.snd.snd.snd.snd.snd.fst, x.snd.snd.snd.snd.snd.snd.snd.fst, ())).bind
    fun y65 => some (y65.fst, y65.snd.fst, y65.snd.snd.fst, y65.snd.snd.snd.fst, y65.snd.snd.snd.snd.fst, ())
theorem j124_19_run0 (v0 : Int) (v1 : Int) (v2 : Int) (v3 : Int) (v4 : Int) (v5 : Int) (v6 : Int) (v7 : Int) : pieceK tC G124 (look [(25, W124_25)]) c124_19 p124_19 (v0, v1, v2, v3, v4, v5, v6, v7, ()) = j124_19 (v0, v1, v2, v3, v4, v5, v6, v7, ()) := by kernel_rfl
theorem j124_19_run (x : Int × Int × Int × Int × Int × Int × Int × Int × Unit) : pieceK tC G124 (look [(25, W124_25)]) c124_19 p124_19 x = j124_19 x := j124_19_run0 x.1 x.2.1 x.2.2.1 x.2.2.2.1 x.2.2.2.2.1 x.2.2.2.2.2.1 x.2.2.2.2.2.2.1 x.2.2.2.2.2.2.2.1
noncomputable def W124_19 : LF tC := cutLF tC p124_19 j124_19
theorem W124_19_ok : keyed 19 (bodyOf Tryz.f124) = [c124_19] ∧ ∀ n, n ≤ 1 → Snd tC n c124_19 W124_19.k := ⟨by kernel_rfl, fun n hn => cut_ok (p := p124_19) Y124 (lam_le (lam_cons W124_25_ok lam_nil) n hn) hn j124_19_run⟩
def S124 : FS := ⟨[[.p], [.v], [.v], [.v], [.v]], [⟨[.one (.one (.ptr 0 0 0)), vI, vI, vI, vI], [.box [.int .i64, .int .i64, .int .i64, .int .i64]]⟩], [⟨[vO], [.box [.int .i64, .int .i64, .int .i64, .int .i64]]⟩], [[.v]], []⟩
noncomputable def f124 (x : Int × Int × Int × Int × Int × Int × Int × Int × Unit) : Option (Bool × Int × Int × Int × Int × Unit) :=
  bif x.snd.fst == (0 : Int) then
  bif decide (x.snd.snd.fst ≤ x.fst) then
    some
      (decide (x.fst ≤ x.snd.snd.snd.fst), x.snd.snd.snd.snd.fst, x.snd.snd.snd.snd.snd.fst, x.snd.snd.snd.snd.snd.snd.fst,
        x.snd.snd.snd.snd.snd.snd.snd.fst, ())
  else some (false, x.snd.snd.snd.snd.fst, x.snd.snd.snd.snd.snd.fst, x.snd.snd.snd.snd.snd.snd.fst, x.snd.snd.snd.snd.snd.snd.snd.fst, ())
else
  bif decide (x.snd.fst < (0 : Int)) then
    (j124_19
          (x.snd.snd.snd.snd.fst, x.snd.snd.snd.snd.snd.fst, x.snd.snd.snd.snd.snd.snd.fst, x.snd.snd.snd.snd.snd.snd.snd.fst,
            IntKind.i64.wrap (x.fst - x.snd.snd.snd.fst), IntKind.i64.wrap ((0 : Int) - x.snd.fst),
            IntKind.i64.wrap (x.fst - x.snd.snd.fst), IntKind.i64.wrap ((0 : Int) - x.snd.fst), ())).bind
      fun y81 => some (y81.fst, y81.snd.fst, y81.snd.snd.fst, y81.snd.snd.snd.fst, y81.snd.snd.snd.snd.fst, ())
  else
    (j124_19
          (x.snd.snd.snd.snd.fst, x.snd.snd.snd.snd.snd.fst, x.snd.snd.snd.snd.snd.snd.fst, x.snd.snd.snd.snd.snd.snd.snd.fst,
            IntKind.i64.wrap (x.snd.snd.fst - x.fst), x.snd.fst, IntKind.i64.wrap (x.snd.snd.snd.fst - x.fst), x.snd.fst, ())).bind
      fun y82 => some (y82.fst, y82.snd.fst, y82.snd.snd.fst, y82.snd.snd.snd.fst, y82.snd.snd.snd.snd.fst, ())
noncomputable def F124 : CF tC := mkF tC S124 f124
theorem f124_run : ∀ a, fnS tC G124 (look [(19, W124_19)]) Tryz.f124 S124 a = f124 a := fun a => by kernel_rfl
theorem F124_ok : CFOK tC 124 F124 := mkF_ok Y124 (fn := Tryz.f124) (body := bodyOf Tryz.f124) (by kernel_rfl) (by kernel_rfl) (by kernel_rfl) (m := 1) rfl (lam_le (lam_cons W124_19_ok lam_nil)) f124_run

/-! segment.validVector -/
noncomputable def G123 : FuncId → Option (CF tC) := look []
theorem Y123 : SysN tC G123 := (sys_nil tC_ok tC_eq)
def S123 : FS := ⟨[[.v, .v, .v]], [⟨[.one (.agg [.int .i64, .int .i64, .int .i64])], []⟩], [⟨[vO], []⟩], [[.v]], []⟩
def f123 (n1 : Int) (n2 : Int) (n3 : Int) : Bool :=
  bif decide (n3 < (1 : Int)) then false
else
  bif decide (n3 > (67108864 : Int)) then false
  else
    bif decide (n1 < IntKind.i64.wrap ((0 : Int) - n3)) then false
    else
      bif decide (n1 > n3) then false
      else
        bif decide (n2 < IntKind.i64.wrap ((0 : Int) - n3)) then false
        else
          bif decide (n2 > n3) then false
          else IntKind.i64.wrap (IntKind.i64.wrap (n1 * n1) + IntKind.i64.wrap (n2 * n2)) == IntKind.i64.wrap (n3 * n3)
noncomputable def F123 : CF tC := mkF tC S123 (fun a => some ((f123 a.1 a.2.1 a.2.2.1), ()))
def h123 (r : Bool) : Option (altTy tE S123.outs) := some (r, ())
theorem f123_run : ∀ a, fnS tC G123 (look []) Tryz.f123 S123 a = (fun a => some ((f123 a.1 a.2.1 a.2.2.1), ())) a := fun a => by
  have key : ∀ (n1 : Int) (n2 : Int) (n3 : Int), (bif decide (n3 < (1 : Int)) then h123 false
else
  bif decide (n3 > (67108864 : Int)) then h123 false
  else
    bif decide (n1 < IntKind.i64.wrap ((0 : Int) - n3)) then h123 false
    else
      bif decide (n1 > n3) then h123 false
      else
        bif decide (n2 < IntKind.i64.wrap ((0 : Int) - n3)) then h123 false
        else
          bif decide (n2 > n3) then h123 false
          else h123 (IntKind.i64.wrap (IntKind.i64.wrap (n1 * n1) + IntKind.i64.wrap (n2 * n2)) == IntKind.i64.wrap (n3 * n3))) = h123 (f123 n1 n2 n3) := by
    intros
    unfold f123
    repeat' first | rfl | refine cond_h (g := h123) ?_ ?_
  exact Eq.trans (by kernel_rfl) (key a.1 a.2.1 a.2.2.1)
theorem F123_ok : CFOK tC 123 F123 := mkF_ok Y123 (fn := Tryz.f123) (body := bodyOf Tryz.f123) (by kernel_rfl) (by kernel_rfl) (by kernel_rfl) (m := 0) rfl (lam_le lam_nil) f123_run

/-! segment.through -/
noncomputable def G109 : FuncId → Option (CF tC) := look [(87, F87), (123, F123), (88, F88), (124, F124)]
theorem Y109 : SysN tC G109 := (sys_cons F87_ok (mkF_nat _ _) (sys_cons F123_ok (mkF_nat _ _) (sys_cons F88_ok (mkF_nat _ _) (sys_cons F124_ok (mkF_nat _ _) (sys_nil tC_ok tC_eq)))))
def S109 : FS := ⟨[[.v, .v], [.v, .v, .v], [.v, .v, .v, .v]], [⟨[.one (.agg [.int .i64, .int .i64]), .one (.agg [.int .i64, .int .i64, .int .i64]), .one (.agg [.int .i64, .int .i64, .int .i64, .int .i64])], []⟩], [⟨[.tup [.agg [.int .i64, .int .i64, .int .i64, .int .i64], .one .bool]], []⟩], [[.v, .v, .v, .v], [.v]], []⟩
noncomputable def f109 (x : Int × Int × Int × Int × Int × Int × Int × Int × Int × Unit) : Option (Int × Int × Int × Int × Bool × Unit) :=
  bif !f87 x.fst x.snd.fst then some ((0 : Int), (0 : Int), (0 : Int), (0 : Int), false, ())
else
  bif !f123 x.snd.snd.fst x.snd.snd.snd.fst x.snd.snd.snd.snd.fst then some ((0 : Int), (0 : Int), (0 : Int), (0 : Int), false, ())
  else
    bif
        !f88 x.snd.snd.snd.snd.snd.fst x.snd.snd.snd.snd.snd.snd.fst x.snd.snd.snd.snd.snd.snd.snd.fst
            x.snd.snd.snd.snd.snd.snd.snd.snd.fst then
      some ((0 : Int), (0 : Int), (0 : Int), (0 : Int), false, ())
    else
      (f124
            (x.fst, x.snd.snd.fst, x.snd.snd.snd.snd.snd.fst, x.snd.snd.snd.snd.snd.snd.snd.fst, (0 : Int), (1 : Int), (8388608 : Int),
              (1 : Int), ())).bind
        fun y26 =>
        bif !y26.fst then some ((0 : Int), (0 : Int), (0 : Int), (0 : Int), false, ())
        else
          (f124
                (x.snd.fst, x.snd.snd.snd.fst, x.snd.snd.snd.snd.snd.snd.fst, x.snd.snd.snd.snd.snd.snd.snd.snd.fst, y26.snd.fst,
                  y26.snd.snd.fst, y26.snd.snd.snd.fst, y26.snd.snd.snd.snd.fst, ())).bind
            fun y25 =>
            bif !y25.fst then some ((0 : Int), (0 : Int), (0 : Int), (0 : Int), false, ())
            else some (y25.snd.fst, y25.snd.snd.fst, y25.snd.snd.snd.fst, y25.snd.snd.snd.snd.fst, true, ())
noncomputable def F109 : CF tC := mkF tC S109 f109
theorem f109_run : ∀ a, fnS tC G109 (look []) Tryz.f109 S109 a = f109 a := fun a => by kernel_rfl
theorem F109_ok : CFOK tC 109 F109 := mkF_ok Y109 (fn := Tryz.f109) (body := bodyOf Tryz.f109) (by kernel_rfl) (by kernel_rfl) (by kernel_rfl) (m := 0) rfl (lam_le lam_nil) f109_run

/-! segment.Meets -/
noncomputable def G122 : FuncId → Option (CF tC) := look [(109, F109)]
theorem Y122 : SysN tC G122 := (sys_cons F109_ok (mkF_nat _ _) (sys_nil tC_ok tC_eq))
def S122 : FS := ⟨[[.v, .v], [.v, .v, .v], [.v], [.v], [.v, .v, .v, .v]], [⟨[.one (.agg [.int .i64, .int .i64]), .one (.agg [.int .i64, .int .i64, .int .i64]), vI, vI, .one (.agg [.int .i64, .int .i64, .int .i64, .int .i64])], []⟩], [⟨[vO], []⟩], [[.v]], []⟩
noncomputable def f122 (x : Int × Int × Int × Int × Int × Int × Int × Int × Int × Int × Int × Unit) : Option (Bool × Unit) :=
  bif decide (x.snd.snd.snd.snd.snd.fst < (0 : Int)) then some (false, ())
else
  bif decide (x.snd.snd.snd.snd.snd.snd.fst < x.snd.snd.snd.snd.snd.fst) then some (false, ())
  else
    bif decide (x.snd.snd.snd.snd.snd.snd.fst > (65536 : Int)) then some (false, ())
    else
      (f109
            (x.fst, x.snd.fst, x.snd.snd.fst, x.snd.snd.snd.fst, x.snd.snd.snd.snd.fst, x.snd.snd.snd.snd.snd.snd.snd.fst,
              x.snd.snd.snd.snd.snd.snd.snd.snd.fst, x.snd.snd.snd.snd.snd.snd.snd.snd.snd.fst,
              x.snd.snd.snd.snd.snd.snd.snd.snd.snd.snd.fst, ())).bind
        fun y18 =>
        bif y18.snd.snd.snd.snd.fst then
          bif
              decide
                (IntKind.i64.wrap (x.snd.snd.snd.snd.snd.fst * y18.snd.snd.snd.fst) ≤
                  IntKind.i64.wrap (y18.snd.snd.fst * x.snd.snd.snd.snd.fst)) then
            some
              (decide (IntKind.i64.wrap (y18.fst * x.snd.snd.snd.snd.fst) ≤ IntKind.i64.wrap (x.snd.snd.snd.snd.snd.snd.fst * y18.snd.fst)),
                ())
          else some (false, ())
        else some (false, ())
noncomputable def F122 : CF tC := mkF tC S122 f122
theorem f122_run : ∀ a, fnS tC G122 (look []) Tryz.f122 S122 a = f122 a := fun a => by kernel_rfl
theorem F122_ok : CFOK tC 122 F122 := mkF_ok Y122 (fn := Tryz.f122) (body := bodyOf Tryz.f122) (by kernel_rfl) (by kernel_rfl) (by kernel_rfl) (m := 0) rfl (lam_le lam_nil) f122_run

/-! plan.sweep -/
noncomputable def G108 : FuncId → Option (CF tC) := look [(120, F120), (96, F96), (86, F86), (121, F121), (122, F122)]
theorem Y108 : SysN tC G108 := (sys_cons F120_ok (mkF_nat _ _) (sys_cons F96_ok (mkF_nat _ _) (sys_cons F86_ok (mkF_nat _ _) (sys_cons F121_ok (mkF_nat _ _) (sys_cons F122_ok (mkF_nat _ _) (sys_nil tC_ok tC_eq))))))
noncomputable def c108_34 : Code := subCode (loopOf (loopOf (bodyOf Tryz.f108) 0) 2) 34
def p108_34 : PS := ⟨0, [2, 3, 4, 5, 13, 14, 16, 17, 18, 19], ⟨[vB, vB, vI, vI, .one (.one (.ptr 0 0 0)), .one (.one (.ptr 1 0 0))] ++ vBs 7 ++ [vI, vI, vB, vI, .one (.one (.sl 2)), vI, vI] ++ vBs 79, [.box [.int .i64, .int .i64, .int .i64, .int .i64], .box [.int .i64, .int .i64, .int .i64], .arr 113]⟩, [⟨.normal, [2, 3, 4, 5, 13, 14, 16, 17, 18, 19], ⟨[vB, vB, vI, vI, .one (.one (.ptr 0 0 0)), .one (.one (.ptr 1 0 0))] ++ vBs 7 ++ [vI, vI, vB, vI, .one (.one (.sl 2)), vI, vI] ++ vBs 79, [.box [.int .i64, .int .i64, .int .i64, .int .i64], .box [.int .i64, .int .i64, .int .i64], .arr 113]⟩, []⟩], []⟩
noncomputable def j108_34 (x : Int × Int × Int × Int × Int × Nat × Int × Int × Int × Int × Int × Int × Int × Int × Int × List Pt × Unit) : Option (Int × Int × Int × Int × Int × Nat × Int × Int × Int × Int × Int × Int × Int × Int × Int × List Pt × Unit) :=
  some
  (x.fst, x.snd.fst, x.snd.snd.fst, x.snd.snd.snd.fst, x.snd.snd.snd.snd.fst, x.snd.snd.snd.snd.snd.fst, x.snd.snd.snd.snd.snd.snd.fst,
    IntKind.i64.wrap (x.snd.snd.snd.snd.snd.snd.snd.fst + (1 : Int)), x.snd.snd.snd.snd.snd.snd.snd.snd.fst,
    x.snd.snd.snd.snd.snd.snd.snd.snd.snd.fst, x.snd.snd.snd.snd.snd.snd.snd.snd.snd.snd.fst,
    x.snd.snd.snd.snd.snd.snd.snd.snd.snd.snd.snd.fst, x.snd.snd.snd.snd.snd.snd.snd.snd.snd.snd.snd.snd.fst,
    x.snd.snd.snd.snd.snd.snd.snd.snd.snd.snd.snd.snd.snd.fst, x.snd.snd.snd.snd.snd.snd.snd.snd.snd.snd.snd.snd.snd.snd.fst,
    x.snd.snd.snd.snd.snd.snd.snd.snd.snd.snd.snd.snd.snd.snd.snd.fst, ())
theorem j108_34_run0 (v0 : Int) (v1 : Int) (v2 : Int) (v3 : Int) (v4 : Int) (v5 : Nat) (v6 : Int) (v7 : Int) (v8 : Int) (v9 : Int) (v10 : Int) (v11 : Int) (v12 : Int) (v13 : Int) (v14 : Int) (v15 : List Pt) : pieceK tC G108 (look []) c108_34 p108_34 (v0, v1, v2, v3, v4, v5, v6, v7, v8, v9, v10, v11, v12, v13, v14, v15, ()) = j108_34 (v0, v1, v2, v3, v4, v5, v6, v7, v8, v9, v10, v11, v12, v13, v14, v15, ()) := by kernel_rfl
theorem j108_34_run (x : Int × Int × Int × Int × Int × Nat × Int × Int × Int × Int × Int × Int × Int × Int × Int × List Pt × Unit) : pieceK tC G108 (look []) c108_34 p108_34 x = j108_34 x := j108_34_run0 x.1 x.2.1 x.2.2.1 x.2.2.2.1 x.2.2.2.2.1 x.2.2.2.2.2.1 x.2.2.2.2.2.2.1 x.2.2.2.2.2.2.2.1 x.2.2.2.2.2.2.2.2.1 x.2.2.2.2.2.2.2.2.2.1 x.2.2.2.2.2.2.2.2.2.2.1 x.2.2.2.2.2.2.2.2.2.2.2.1 x.2.2.2.2.2.2.2.2.2.2.2.2.1 x.2.2.2.2.2.2.2.2.2.2.2.2.2.1 x.2.2.2.2.2.2.2.2.2.2.2.2.2.2.1 x.2.2.2.2.2.2.2.2.2.2.2.2.2.2.2.1
noncomputable def W108_34 : LF tC := cutLF tC p108_34 j108_34
theorem W108_34_ok : keyed 34 (loopOf (loopOf (bodyOf Tryz.f108) 0) 2) = [c108_34] ∧ ∀ n, n ≤ 0 → Snd tC n c108_34 W108_34.k := ⟨by kernel_rfl, fun n hn => cut_ok (p := p108_34) Y108 (lam_le lam_nil n hn) hn j108_34_run⟩
noncomputable def c108_6 : Code := loopOf (loopOf (bodyOf Tryz.f108) 0) 2
def p108_6 : LS := ⟨0, [2, 3, 4, 5, 13, 14, 16, 17, 18, 19], ⟨[vB, vB, vI, vI, .one (.one (.ptr 0 0 0)), .one (.one (.ptr 1 0 0))] ++ vBs 7 ++ [vI, vI, vB, vI, .one (.one (.sl 2)), vI, vI] ++ vBs 79, [.box [.int .i64, .int .i64, .int .i64, .int .i64], .box [.int .i64, .int .i64, .int .i64], .arr 113]⟩, [⟨.exit 2, [2, 3, 4, 5, 13, 14, 16, 17, 18], ⟨[vB, vB, vI, vI, .one (.one (.ptr 0 0 0)), .one (.one (.ptr 1 0 0))] ++ vBs 7 ++ [vI, vI, vB, vI, .one (.one (.sl 2)), vI] ++ vBs 80, [.box [.int .i64, .int .i64, .int .i64, .int .i64], .box [.int .i64, .int .i64, .int .i64], .arr 113]⟩, []⟩], []⟩
noncomputable def r108_6 (x : Int × Int × Int × Int × Int × Nat × Int × Int × Int × Int × Int × Int × Int × Int × Int × List Pt × Unit) : Option
  (Int × Int × Int × Int × Int × Nat × Int × Int × Int × Int × Int × Int × Int × Int × Int × List Pt × Unit ⊕
    Int × Int × Int × Int × Int × Nat × Int × Int × Int × Int × Int × Int × Int × Int × List Pt × Unit) :=
  bif decide (x.snd.snd.snd.snd.snd.snd.snd.fst ≤ x.snd.snd.snd.fst) then
  bif
      (f121 (f86 x.snd.snd.snd.snd.snd.snd.snd.fst x.snd.snd.snd.snd.snd.snd.fst).fst
                (f86 x.snd.snd.snd.snd.snd.snd.snd.fst x.snd.snd.snd.snd.snd.snd.fst).snd.fst
                (f86 x.snd.snd.snd.snd.snd.snd.snd.fst x.snd.snd.snd.snd.snd.snd.fst).snd.snd.fst
                (f86 x.snd.snd.snd.snd.snd.snd.snd.fst x.snd.snd.snd.snd.snd.snd.fst).snd.snd.snd x.snd.snd.snd.snd.snd.snd.snd.snd.fst
                x.snd.snd.snd.snd.snd.snd.snd.snd.snd.fst x.snd.snd.snd.snd.snd.snd.snd.snd.snd.snd.fst
                x.snd.snd.snd.snd.snd.snd.snd.snd.snd.snd.snd.fst).snd.snd.snd.snd then
    (f122
          ((0 : Int), (0 : Int), x.snd.snd.snd.snd.snd.snd.snd.snd.snd.snd.snd.snd.fst,
            x.snd.snd.snd.snd.snd.snd.snd.snd.snd.snd.snd.snd.snd.fst, x.snd.snd.snd.snd.snd.snd.snd.snd.snd.snd.snd.snd.snd.snd.fst, x.fst,
            x.snd.fst,
            (f121 (f86 x.snd.snd.snd.snd.snd.snd.snd.fst x.snd.snd.snd.snd.snd.snd.fst).fst
                (f86 x.snd.snd.snd.snd.snd.snd.snd.fst x.snd.snd.snd.snd.snd.snd.fst).snd.fst
                (f86 x.snd.snd.snd.snd.snd.snd.snd.fst x.snd.snd.snd.snd.snd.snd.fst).snd.snd.fst
                (f86 x.snd.snd.snd.snd.snd.snd.snd.fst x.snd.snd.snd.snd.snd.snd.fst).snd.snd.snd x.snd.snd.snd.snd.snd.snd.snd.snd.fst
                x.snd.snd.snd.snd.snd.snd.snd.snd.snd.fst x.snd.snd.snd.snd.snd.snd.snd.snd.snd.snd.fst
                x.snd.snd.snd.snd.snd.snd.snd.snd.snd.snd.snd.fst).fst,
            (f121 (f86 x.snd.snd.snd.snd.snd.snd.snd.fst x.snd.snd.snd.snd.snd.snd.fst).fst
                  (f86 x.snd.snd.snd.snd.snd.snd.snd.fst x.snd.snd.snd.snd.snd.snd.fst).snd.fst
                  (f86 x.snd.snd.snd.snd.snd.snd.snd.fst x.snd.snd.snd.snd.snd.snd.fst).snd.snd.fst
                  (f86 x.snd.snd.snd.snd.snd.snd.snd.fst x.snd.snd.snd.snd.snd.snd.fst).snd.snd.snd x.snd.snd.snd.snd.snd.snd.snd.snd.fst
                  x.snd.snd.snd.snd.snd.snd.snd.snd.snd.fst x.snd.snd.snd.snd.snd.snd.snd.snd.snd.snd.fst
                  x.snd.snd.snd.snd.snd.snd.snd.snd.snd.snd.snd.fst).snd.fst,
            (f121 (f86 x.snd.snd.snd.snd.snd.snd.snd.fst x.snd.snd.snd.snd.snd.snd.fst).fst
                    (f86 x.snd.snd.snd.snd.snd.snd.snd.fst x.snd.snd.snd.snd.snd.snd.fst).snd.fst
                    (f86 x.snd.snd.snd.snd.snd.snd.snd.fst x.snd.snd.snd.snd.snd.snd.fst).snd.snd.fst
                    (f86 x.snd.snd.snd.snd.snd.snd.snd.fst x.snd.snd.snd.snd.snd.snd.fst).snd.snd.snd x.snd.snd.snd.snd.snd.snd.snd.snd.fst
                    x.snd.snd.snd.snd.snd.snd.snd.snd.snd.fst x.snd.snd.snd.snd.snd.snd.snd.snd.snd.snd.fst
                    x.snd.snd.snd.snd.snd.snd.snd.snd.snd.snd.snd.fst).snd.snd.fst,
            (f121 (f86 x.snd.snd.snd.snd.snd.snd.snd.fst x.snd.snd.snd.snd.snd.snd.fst).fst
                      (f86 x.snd.snd.snd.snd.snd.snd.snd.fst x.snd.snd.snd.snd.snd.snd.fst).snd.fst
                      (f86 x.snd.snd.snd.snd.snd.snd.snd.fst x.snd.snd.snd.snd.snd.snd.fst).snd.snd.fst
                      (f86 x.snd.snd.snd.snd.snd.snd.snd.fst x.snd.snd.snd.snd.snd.snd.fst).snd.snd.snd
                      x.snd.snd.snd.snd.snd.snd.snd.snd.fst x.snd.snd.snd.snd.snd.snd.snd.snd.snd.fst
                      x.snd.snd.snd.snd.snd.snd.snd.snd.snd.snd.fst x.snd.snd.snd.snd.snd.snd.snd.snd.snd.snd.snd.fst).snd.snd.snd.fst,
            ())).bind
      fun y386 =>
      bif y386.fst then
        bif decide ((0 : Nat) + x.snd.snd.snd.snd.snd.fst ≤ x.snd.snd.snd.snd.snd.snd.snd.snd.snd.snd.snd.snd.snd.snd.snd.fst.length) then
          bif roomy (x.snd.snd.snd.snd.snd.fst + (1 : Nat)) (16 : Nat) then
            (j108_34
                  (x.fst, x.snd.fst, x.snd.snd.fst, x.snd.snd.snd.fst, x.snd.snd.snd.snd.fst, x.snd.snd.snd.snd.snd.fst + (1 : Nat),
                    x.snd.snd.snd.snd.snd.snd.fst, x.snd.snd.snd.snd.snd.snd.snd.fst, x.snd.snd.snd.snd.snd.snd.snd.snd.fst,
                    x.snd.snd.snd.snd.snd.snd.snd.snd.snd.fst, x.snd.snd.snd.snd.snd.snd.snd.snd.snd.snd.fst,
                    x.snd.snd.snd.snd.snd.snd.snd.snd.snd.snd.snd.fst, x.snd.snd.snd.snd.snd.snd.snd.snd.snd.snd.snd.snd.fst,
                    x.snd.snd.snd.snd.snd.snd.snd.snd.snd.snd.snd.snd.snd.fst,
                    x.snd.snd.snd.snd.snd.snd.snd.snd.snd.snd.snd.snd.snd.snd.fst,
                    List.take x.snd.snd.snd.snd.snd.fst
                        (List.drop (0 : Nat) x.snd.snd.snd.snd.snd.snd.snd.snd.snd.snd.snd.snd.snd.snd.snd.fst) ++
                      [Pt.mk x.snd.snd.snd.snd.snd.snd.snd.fst x.snd.snd.snd.snd.snd.snd.fst],
                    ())).bind
              fun y384 =>
              some
                (Sum.inl
                  (y384.fst, y384.snd.fst, y384.snd.snd.fst, y384.snd.snd.snd.fst, y384.snd.snd.snd.snd.fst, y384.snd.snd.snd.snd.snd.fst,
                    y384.snd.snd.snd.snd.snd.snd.fst, y384.snd.snd.snd.snd.snd.snd.snd.fst, y384.snd.snd.snd.snd.snd.snd.snd.snd.fst,
                    y384.snd.snd.snd.snd.snd.snd.snd.snd.snd.fst, y384.snd.snd.snd.snd.snd.snd.snd.snd.snd.snd.fst,
                    y384.snd.snd.snd.snd.snd.snd.snd.snd.snd.snd.snd.fst, y384.snd.snd.snd.snd.snd.snd.snd.snd.snd.snd.snd.snd.fst,
                    y384.snd.snd.snd.snd.snd.snd.snd.snd.snd.snd.snd.snd.snd.fst,
                    y384.snd.snd.snd.snd.snd.snd.snd.snd.snd.snd.snd.snd.snd.snd.fst,
                    y384.snd.snd.snd.snd.snd.snd.snd.snd.snd.snd.snd.snd.snd.snd.snd.fst, ()))
          else none
        else none
      else
        (j108_34
              (x.fst, x.snd.fst, x.snd.snd.fst, x.snd.snd.snd.fst, x.snd.snd.snd.snd.fst, x.snd.snd.snd.snd.snd.fst,
                x.snd.snd.snd.snd.snd.snd.fst, x.snd.snd.snd.snd.snd.snd.snd.fst, x.snd.snd.snd.snd.snd.snd.snd.snd.fst,
                x.snd.snd.snd.snd.snd.snd.snd.snd.snd.fst, x.snd.snd.snd.snd.snd.snd.snd.snd.snd.snd.fst,
                x.snd.snd.snd.snd.snd.snd.snd.snd.snd.snd.snd.fst, x.snd.snd.snd.snd.snd.snd.snd.snd.snd.snd.snd.snd.fst,
                x.snd.snd.snd.snd.snd.snd.snd.snd.snd.snd.snd.snd.snd.fst, x.snd.snd.snd.snd.snd.snd.snd.snd.snd.snd.snd.snd.snd.snd.fst,
                x.snd.snd.snd.snd.snd.snd.snd.snd.snd.snd.snd.snd.snd.snd.snd.fst, ())).bind
          fun y385 =>
          some
            (Sum.inl
              (y385.fst, y385.snd.fst, y385.snd.snd.fst, y385.snd.snd.snd.fst, y385.snd.snd.snd.snd.fst, y385.snd.snd.snd.snd.snd.fst,
                y385.snd.snd.snd.snd.snd.snd.fst, y385.snd.snd.snd.snd.snd.snd.snd.fst, y385.snd.snd.snd.snd.snd.snd.snd.snd.fst,
                y385.snd.snd.snd.snd.snd.snd.snd.snd.snd.fst, y385.snd.snd.snd.snd.snd.snd.snd.snd.snd.snd.fst,
                y385.snd.snd.snd.snd.snd.snd.snd.snd.snd.snd.snd.fst, y385.snd.snd.snd.snd.snd.snd.snd.snd.snd.snd.snd.snd.fst,
                y385.snd.snd.snd.snd.snd.snd.snd.snd.snd.snd.snd.snd.snd.fst,
                y385.snd.snd.snd.snd.snd.snd.snd.snd.snd.snd.snd.snd.snd.snd.fst,
                y385.snd.snd.snd.snd.snd.snd.snd.snd.snd.snd.snd.snd.snd.snd.snd.fst, ()))
  else
    (j108_34
          (x.fst, x.snd.fst, x.snd.snd.fst, x.snd.snd.snd.fst, x.snd.snd.snd.snd.fst, x.snd.snd.snd.snd.snd.fst,
            x.snd.snd.snd.snd.snd.snd.fst, x.snd.snd.snd.snd.snd.snd.snd.fst, x.snd.snd.snd.snd.snd.snd.snd.snd.fst,
            x.snd.snd.snd.snd.snd.snd.snd.snd.snd.fst, x.snd.snd.snd.snd.snd.snd.snd.snd.snd.snd.fst,
            x.snd.snd.snd.snd.snd.snd.snd.snd.snd.snd.snd.fst, x.snd.snd.snd.snd.snd.snd.snd.snd.snd.snd.snd.snd.fst,
            x.snd.snd.snd.snd.snd.snd.snd.snd.snd.snd.snd.snd.snd.fst, x.snd.snd.snd.snd.snd.snd.snd.snd.snd.snd.snd.snd.snd.snd.fst,
            x.snd.snd.snd.snd.snd.snd.snd.snd.snd.snd.snd.snd.snd.snd.snd.fst, ())).bind
      fun y387 =>
      some
        (Sum.inl
          (y387.fst, y387.snd.fst, y387.snd.snd.fst, y387.snd.snd.snd.fst, y387.snd.snd.snd.snd.fst, y387.snd.snd.snd.snd.snd.fst,
            y387.snd.snd.snd.snd.snd.snd.fst, y387.snd.snd.snd.snd.snd.snd.snd.fst, y387.snd.snd.snd.snd.snd.snd.snd.snd.fst,
            y387.snd.snd.snd.snd.snd.snd.snd.snd.snd.fst, y387.snd.snd.snd.snd.snd.snd.snd.snd.snd.snd.fst,
            y387.snd.snd.snd.snd.snd.snd.snd.snd.snd.snd.snd.fst, y387.snd.snd.snd.snd.snd.snd.snd.snd.snd.snd.snd.snd.fst,
            y387.snd.snd.snd.snd.snd.snd.snd.snd.snd.snd.snd.snd.snd.fst, y387.snd.snd.snd.snd.snd.snd.snd.snd.snd.snd.snd.snd.snd.snd.fst,
            y387.snd.snd.snd.snd.snd.snd.snd.snd.snd.snd.snd.snd.snd.snd.snd.fst, ()))
else
  some
    (Sum.inr
      (x.fst, x.snd.fst, x.snd.snd.fst, x.snd.snd.snd.fst, x.snd.snd.snd.snd.fst, x.snd.snd.snd.snd.snd.fst, x.snd.snd.snd.snd.snd.snd.fst,
        x.snd.snd.snd.snd.snd.snd.snd.snd.fst, x.snd.snd.snd.snd.snd.snd.snd.snd.snd.fst, x.snd.snd.snd.snd.snd.snd.snd.snd.snd.snd.fst,
        x.snd.snd.snd.snd.snd.snd.snd.snd.snd.snd.snd.fst, x.snd.snd.snd.snd.snd.snd.snd.snd.snd.snd.snd.snd.fst,
        x.snd.snd.snd.snd.snd.snd.snd.snd.snd.snd.snd.snd.snd.fst, x.snd.snd.snd.snd.snd.snd.snd.snd.snd.snd.snd.snd.snd.snd.fst,
        x.snd.snd.snd.snd.snd.snd.snd.snd.snd.snd.snd.snd.snd.snd.snd.fst, ()))
theorem r108_6_run0 (v0 : Int) (v1 : Int) (v2 : Int) (v3 : Int) (v4 : Int) (v5 : Nat) (v6 : Int) (v7 : Int) (v8 : Int) (v9 : Int) (v10 : Int) (v11 : Int) (v12 : Int) (v13 : Int) (v14 : Int) (v15 : List Pt) : roundK tC G108 (look [(34, W108_34)]) c108_6 p108_6 (v0, v1, v2, v3, v4, v5, v6, v7, v8, v9, v10, v11, v12, v13, v14, v15, ()) = r108_6 (v0, v1, v2, v3, v4, v5, v6, v7, v8, v9, v10, v11, v12, v13, v14, v15, ()) := by kernel_rfl
theorem r108_6_run (x : Int × Int × Int × Int × Int × Nat × Int × Int × Int × Int × Int × Int × Int × Int × Int × List Pt × Unit) : roundK tC G108 (look [(34, W108_34)]) c108_6 p108_6 x = r108_6 x := r108_6_run0 x.1 x.2.1 x.2.2.1 x.2.2.2.1 x.2.2.2.2.1 x.2.2.2.2.2.1 x.2.2.2.2.2.2.1 x.2.2.2.2.2.2.2.1 x.2.2.2.2.2.2.2.2.1 x.2.2.2.2.2.2.2.2.2.1 x.2.2.2.2.2.2.2.2.2.2.1 x.2.2.2.2.2.2.2.2.2.2.2.1 x.2.2.2.2.2.2.2.2.2.2.2.2.1 x.2.2.2.2.2.2.2.2.2.2.2.2.2.1 x.2.2.2.2.2.2.2.2.2.2.2.2.2.2.1 x.2.2.2.2.2.2.2.2.2.2.2.2.2.2.2.1
noncomputable def l108_6 (x : Int × Int × Int × Int × Int × Nat × Int × Int × Int × Int × Int × Int × Int × Int × Int × List Pt × Unit) : Option (Int × Int × Int × Int × Int × Nat × Int × Int × Int × Int × Int × Int × Int × Int × List Pt × Unit) := iterO r108_6 x
noncomputable def W108_6 : LF tC := loopW tC p108_6 2 l108_6
theorem W108_6_ok : keyed 6 (loopOf (bodyOf Tryz.f108) 0) = [.block 2 (.loop c108_6)] ∧ ∀ n, n ≤ 0 → Snd tC n (.block 2 (.loop c108_6)) W108_6.k := ⟨by kernel_rfl, fun n hn => loopW_ok (p := p108_6) (id := 2) Y108 (lam_le (lam_cons W108_34_ok lam_nil) n hn) hn r108_6_run⟩
noncomputable def c108_0 : Code := loopOf (bodyOf Tryz.f108) 0
def p108_0 : LS := ⟨0, [2, 3, 4, 5, 13, 14, 16, 17, 18], ⟨[vB, vB, vI, vI, .one (.one (.ptr 0 0 0)), .one (.one (.ptr 1 0 0))] ++ vBs 7 ++ [vI, vI, vB, vI, .one (.one (.sl 2)), vI] ++ vBs 80, [.box [.int .i64, .int .i64, .int .i64, .int .i64], .box [.int .i64, .int .i64, .int .i64], .arr 113]⟩, [⟨.exit 0, [17], ⟨vBs 17 ++ [.one (.one (.sl 0))] ++ vBs 81, [.arr 113]⟩, []⟩], [(17, 113)]⟩
noncomputable def r108_0 (x : Int × Int × Int × Int × Int × Nat × Int × Int × Int × Int × Int × Int × Int × Int × List Pt × Unit) : Option (Int × Int × Int × Int × Int × Nat × Int × Int × Int × Int × Int × Int × Int × Int × List Pt × Unit ⊕ Nat × List Pt × Unit) :=
  bif decide (x.snd.snd.snd.snd.snd.snd.fst ≤ x.snd.snd.snd.snd.fst) then
  (l108_6
        (x.fst, x.snd.fst, x.snd.snd.fst, x.snd.snd.snd.fst, x.snd.snd.snd.snd.fst, x.snd.snd.snd.snd.snd.fst,
          x.snd.snd.snd.snd.snd.snd.fst, x.snd.snd.fst, x.snd.snd.snd.snd.snd.snd.snd.fst, x.snd.snd.snd.snd.snd.snd.snd.snd.fst,
          x.snd.snd.snd.snd.snd.snd.snd.snd.snd.fst, x.snd.snd.snd.snd.snd.snd.snd.snd.snd.snd.fst,
          x.snd.snd.snd.snd.snd.snd.snd.snd.snd.snd.snd.fst, x.snd.snd.snd.snd.snd.snd.snd.snd.snd.snd.snd.snd.fst,
          x.snd.snd.snd.snd.snd.snd.snd.snd.snd.snd.snd.snd.snd.fst, x.snd.snd.snd.snd.snd.snd.snd.snd.snd.snd.snd.snd.snd.snd.fst,
          ())).bind
    fun y405 =>
    some
      (Sum.inl
        (y405.fst, y405.snd.fst, y405.snd.snd.fst, y405.snd.snd.snd.fst, y405.snd.snd.snd.snd.fst, y405.snd.snd.snd.snd.snd.fst,
          IntKind.i64.wrap (y405.snd.snd.snd.snd.snd.snd.fst + (1 : Int)), y405.snd.snd.snd.snd.snd.snd.snd.fst,
          y405.snd.snd.snd.snd.snd.snd.snd.snd.fst, y405.snd.snd.snd.snd.snd.snd.snd.snd.snd.fst,
          y405.snd.snd.snd.snd.snd.snd.snd.snd.snd.snd.fst, y405.snd.snd.snd.snd.snd.snd.snd.snd.snd.snd.snd.fst,
          y405.snd.snd.snd.snd.snd.snd.snd.snd.snd.snd.snd.snd.fst, y405.snd.snd.snd.snd.snd.snd.snd.snd.snd.snd.snd.snd.snd.fst,
          y405.snd.snd.snd.snd.snd.snd.snd.snd.snd.snd.snd.snd.snd.snd.fst, ()))
else some (Sum.inr (x.snd.snd.snd.snd.snd.fst, x.snd.snd.snd.snd.snd.snd.snd.snd.snd.snd.snd.snd.snd.snd.fst, ()))
theorem r108_0_run0 (v0 : Int) (v1 : Int) (v2 : Int) (v3 : Int) (v4 : Int) (v5 : Nat) (v6 : Int) (v7 : Int) (v8 : Int) (v9 : Int) (v10 : Int) (v11 : Int) (v12 : Int) (v13 : Int) (v14 : List Pt) : roundK tC G108 (look [(6, W108_6)]) c108_0 p108_0 (v0, v1, v2, v3, v4, v5, v6, v7, v8, v9, v10, v11, v12, v13, v14, ()) = r108_0 (v0, v1, v2, v3, v4, v5, v6, v7, v8, v9, v10, v11, v12, v13, v14, ()) := by kernel_rfl
theorem r108_0_run (x : Int × Int × Int × Int × Int × Nat × Int × Int × Int × Int × Int × Int × Int × Int × List Pt × Unit) : roundK tC G108 (look [(6, W108_6)]) c108_0 p108_0 x = r108_0 x := r108_0_run0 x.1 x.2.1 x.2.2.1 x.2.2.2.1 x.2.2.2.2.1 x.2.2.2.2.2.1 x.2.2.2.2.2.2.1 x.2.2.2.2.2.2.2.1 x.2.2.2.2.2.2.2.2.1 x.2.2.2.2.2.2.2.2.2.1 x.2.2.2.2.2.2.2.2.2.2.1 x.2.2.2.2.2.2.2.2.2.2.2.1 x.2.2.2.2.2.2.2.2.2.2.2.2.1 x.2.2.2.2.2.2.2.2.2.2.2.2.2.1 x.2.2.2.2.2.2.2.2.2.2.2.2.2.2.1
noncomputable def l108_0 (x : Int × Int × Int × Int × Int × Nat × Int × Int × Int × Int × Int × Int × Int × Int × List Pt × Unit) : Option (Nat × List Pt × Unit) := iterO r108_0 x
noncomputable def W108_0 : LF tC := loopW tC p108_0 0 l108_0
theorem W108_0_ok : keyed 0 (bodyOf Tryz.f108) = [.block 0 (.loop c108_0)] ∧ ∀ n, n ≤ 0 → Snd tC n (.block 0 (.loop c108_0)) W108_0.k := ⟨by kernel_rfl, fun n hn => loopW_ok (p := p108_0) (id := 0) Y108 (lam_le (lam_cons W108_6_ok lam_nil) n hn) hn r108_0_run⟩
def S108 : FS := ⟨[[.v, .v, .v, .v], [.v, .v, .v], [.v], [.v]], [⟨[.one (.agg [.int .i64, .int .i64, .int .i64, .int .i64]), .one (.agg [.int .i64, .int .i64, .int .i64]), vI, vI], []⟩], [⟨[.one (.one (.sl 0))], [.arr 113]⟩], [[.v]], [(8, 113)]⟩
noncomputable def f108 (x : Int × Int × Int × Int × Int × Int × Int × Int × Int × Unit) : Option (Nat × List Pt × Unit) :=
  (f120
      (x.fst, x.snd.snd.fst, x.snd.snd.snd.snd.fst, x.snd.snd.snd.snd.snd.snd.fst, x.snd.snd.snd.snd.snd.snd.snd.fst,
        x.snd.snd.snd.snd.snd.snd.snd.snd.fst, ())).bind
  fun y414 =>
  (f120
        (x.snd.fst, x.snd.snd.snd.fst, x.snd.snd.snd.snd.snd.fst, x.snd.snd.snd.snd.snd.snd.fst, x.snd.snd.snd.snd.snd.snd.snd.fst,
          x.snd.snd.snd.snd.snd.snd.snd.snd.fst, ())).bind
    fun y413 =>
    (f96 (y414.fst, y414.snd.fst, ())).bind fun y412 =>
      (f96 (y413.fst, y413.snd.fst, ())).bind fun y411 =>
        (l108_0
              (x.snd.snd.snd.snd.snd.snd.snd.fst, x.snd.snd.snd.snd.snd.snd.snd.snd.fst, y412.fst, y412.snd.fst, y411.snd.fst, (0 : Nat),
                y411.fst, x.fst, x.snd.fst, x.snd.snd.fst, x.snd.snd.snd.fst, x.snd.snd.snd.snd.fst, x.snd.snd.snd.snd.snd.fst,
                x.snd.snd.snd.snd.snd.snd.fst, [], ())).bind
          fun y410 => some (y410.fst, y410.snd.fst, ())
noncomputable def F108 : CF tC := mkF tC S108 f108
theorem f108_run : ∀ a, fnS tC G108 (look [(0, W108_0)]) Tryz.f108 S108 a = f108 a := fun a => by kernel_rfl
theorem F108_ok : CFOK tC 108 F108 := mkF_ok Y108 (fn := Tryz.f108) (body := bodyOf Tryz.f108) (by kernel_rfl) (by kernel_rfl) (by kernel_rfl) (m := 0) rfl (lam_le (lam_cons W108_0_ok lam_nil)) f108_run

/-! plan.Traced -/
noncomputable def G97 : FuncId → Option (CF tC) := look [(83, F83), (107, F107), (108, F108)]
theorem Y97 : SysN tC G97 := (sys_cons F83_ok (mkF_nat _ _) (sys_cons F107_ok (mkF_nat _ _) (sys_cons F108_ok (mkF_nat _ _) (sys_nil tC_ok tC_eq))))
def S97 : FS := ⟨[[.v, .v], [.v, .v, .v], [.v], [.v]], [⟨[.one (.agg [.int .i64, .int .i64]), .one (.agg [.int .i64, .int .i64, .int .i64]), vI, vI], []⟩], [⟨[.tup [.one (.imm 113), .one (.int .i64)]], []⟩], [[.s 113], [.v]], []⟩
noncomputable def f97 (x : Int × Int × Int × Int × Int × Int × Int × Unit) : Option (List Pt × Int × Unit) :=
  bif !f83 x.fst x.snd.fst then some ([], (1 : Int), ())
else
  bif !f107 x.snd.snd.fst x.snd.snd.snd.fst x.snd.snd.snd.snd.fst then some ([], (1 : Int), ())
  else
    bif decide (x.snd.snd.snd.snd.snd.fst < (0 : Int)) then some ([], (2 : Int), ())
    else
      bif decide (x.snd.snd.snd.snd.snd.snd.fst < x.snd.snd.snd.snd.snd.fst) then some ([], (2 : Int), ())
      else
        bif decide (x.snd.snd.snd.snd.snd.snd.fst > (2048 : Int)) then some ([], (2 : Int), ())
        else
          (f108
                (x.fst, x.snd.fst, x.fst, x.snd.fst, x.snd.snd.fst, x.snd.snd.snd.fst, x.snd.snd.snd.snd.fst, x.snd.snd.snd.snd.snd.fst,
                  x.snd.snd.snd.snd.snd.snd.fst, ())).bind
            fun y12 =>
            bif decide ((0 : Nat) + y12.fst ≤ y12.snd.fst.length) then
              some (List.take y12.fst (List.drop (0 : Nat) y12.snd.fst), (0 : Int), ())
            else none
noncomputable def F97 : CF tC := mkF tC S97 f97
theorem f97_run : ∀ a, fnS tC G97 (look []) Tryz.f97 S97 a = f97 a := fun a => by kernel_rfl
theorem F97_ok : CFOK tC 97 F97 := mkF_ok Y97 (fn := Tryz.f97) (body := bodyOf Tryz.f97) (by kernel_rfl) (by kernel_rfl) (by kernel_rfl) (m := 0) rfl (lam_le lam_nil) f97_run

/-! plan.inside -/
noncomputable def G78 : FuncId → Option (CF tC) := look []
theorem Y78 : SysN tC G78 := (sys_nil tC_ok tC_eq)
def S78 : FS := ⟨[[.v, .v, .s 5], [.v, .v]], [⟨[.one (.agg [.int .i64, .int .i64, .imm 5]), .one (.agg [.int .i64, .int .i64])], []⟩], [⟨[vO], []⟩], [[.v]], []⟩
def f78 (n1 : Int) (n2 : Int) (_l3 : List Int) (n4 : Int) (n5 : Int) : Bool :=
  bif decide (n4 ≥ (0 : Int)) then bif decide (n4 < n1) then bif decide (n5 ≥ (0 : Int)) then decide (n5 < n2) else false else false
else false
noncomputable def F78 : CF tC := mkF tC S78 (fun a => some ((f78 a.1 a.2.1 a.2.2.1 a.2.2.2.1 a.2.2.2.2.1), ()))
def h78 (r : Bool) : Option (altTy tE S78.outs) := some (r, ())
theorem f78_run : ∀ a, fnS tC G78 (look []) Tryz.f78 S78 a = (fun a => some ((f78 a.1 a.2.1 a.2.2.1 a.2.2.2.1 a.2.2.2.2.1), ())) a := fun a => by
  have key : ∀ (n1 : Int) (n2 : Int) (l3 : List Int) (n4 : Int) (n5 : Int), (bif decide (n4 ≥ (0 : Int)) then
  bif decide (n4 < n1) then bif decide (n5 ≥ (0 : Int)) then h78 (decide (n5 < n2)) else h78 false else h78 false
else h78 false) = h78 (f78 n1 n2 l3 n4 n5) := by
    intros
    unfold f78
    repeat' first | rfl | refine cond_h (g := h78) ?_ ?_
  exact Eq.trans (by kernel_rfl) (key a.1 a.2.1 a.2.2.1 a.2.2.2.1 a.2.2.2.2.1)
theorem F78_ok : CFOK tC 78 F78 := mkF_ok Y78 (fn := Tryz.f78) (body := bodyOf Tryz.f78) (by kernel_rfl) (by kernel_rfl) (by kernel_rfl) (m := 0) rfl (lam_le lam_nil) f78_run

/-! plan.At -/
noncomputable def G53 : FuncId → Option (CF tC) := look [(22, F22), (78, F78)]
theorem Y53 : SysN tC G53 := (sys_cons F22_ok (mkF_nat _ _) (sys_cons F78_ok (mkF_nat _ _) (sys_nil tC_ok tC_eq)))
def S53 : FS := ⟨[[.v, .v, .s 5], [.v, .v]], [⟨[.one (.agg [.int .i64, .int .i64, .imm 5]), .one (.agg [.int .i64, .int .i64])], []⟩], [⟨[.one (.one (.int .u8))], []⟩], [[.v]], []⟩
noncomputable def f53 (x : Int × Int × List Int × Int × Int × Unit) : Option (Int × Unit) :=
  (f22 (x.fst, x.snd.fst, x.snd.snd.fst, ())).bind fun y10 =>
  bif !y10.fst then some ((0 : Int), ())
  else
    bif !f78 x.fst x.snd.fst x.snd.snd.fst x.snd.snd.snd.fst x.snd.snd.snd.snd.fst then some ((2 : Int), ())
    else
      (idxO x.snd.snd.fst (IntKind.i64.wrap (IntKind.i64.wrap (x.snd.snd.snd.snd.fst * x.fst) + x.snd.snd.snd.fst))).bind fun y9 =>
        some (y9, ())
noncomputable def F53 : CF tC := mkF tC S53 f53
theorem f53_run : ∀ a, fnS tC G53 (look []) Tryz.f53 S53 a = f53 a := fun a => by kernel_rfl
theorem F53_ok : CFOK tC 53 F53 := mkF_ok Y53 (fn := Tryz.f53) (body := bodyOf Tryz.f53) (by kernel_rfl) (by kernel_rfl) (by kernel_rfl) (m := 0) rfl (lam_le lam_nil) f53_run

/-! segment.distance -/
noncomputable def G110 : FuncId → Option (CF tC) := look []
theorem Y110 : SysN tC G110 := (sys_nil tC_ok tC_eq)
noncomputable def c110_0 : Code := loopOf (bodyOf Tryz.f110) 0
def p110_0 : LS := ⟨0, [4, 5, 6, 7, 8], ⟨vBs 4 ++ [.one (.one (.ptr 0 0 0)), vI, vI, vI, vI] ++ vBs 26, [.box [.int .i64, .int .i64]]⟩, [⟨.exit 0, [4, 5, 6, 7], ⟨vBs 4 ++ [.one (.one (.ptr 0 0 0)), vI, vI, vI] ++ vBs 27, [.box [.int .i64, .int .i64]]⟩, []⟩], []⟩
noncomputable def r110_0 (x : Int × Int × Int × Int × Int × Int × Unit) : Option (Int × Int × Int × Int × Int × Int × Unit ⊕ Int × Int × Int × Int × Int × Unit) :=
  bif x.snd.snd.snd.fst != (0 : Int) then
  bif x.snd.snd.snd.fst == (0 : Int) then none
  else
    some
      (Sum.inl
        (x.fst, x.snd.fst, x.snd.snd.snd.fst, x.snd.snd.fst.tmod x.snd.snd.snd.fst, x.snd.snd.snd.snd.fst, x.snd.snd.snd.snd.snd.fst, ()))
else some (Sum.inr (x.fst, x.snd.fst, x.snd.snd.fst, x.snd.snd.snd.snd.fst, x.snd.snd.snd.snd.snd.fst, ()))
theorem r110_0_run0 (v0 : Int) (v1 : Int) (v2 : Int) (v3 : Int) (v4 : Int) (v5 : Int) : roundK tC G110 (look []) c110_0 p110_0 (v0, v1, v2, v3, v4, v5, ()) = r110_0 (v0, v1, v2, v3, v4, v5, ()) := by kernel_rfl
theorem r110_0_run (x : Int × Int × Int × Int × Int × Int × Unit) : roundK tC G110 (look []) c110_0 p110_0 x = r110_0 x := r110_0_run0 x.1 x.2.1 x.2.2.1 x.2.2.2.1 x.2.2.2.2.1 x.2.2.2.2.2.1
noncomputable def l110_0 (x : Int × Int × Int × Int × Int × Int × Unit) : Option (Int × Int × Int × Int × Int × Unit) := iterO r110_0 x
noncomputable def W110_0 : LF tC := loopW tC p110_0 0 l110_0
theorem W110_0_ok : keyed 0 (bodyOf Tryz.f110) = [.block 0 (.loop c110_0)] ∧ ∀ n, n ≤ 0 → Snd tC n (.block 0 (.loop c110_0)) W110_0.k := ⟨by kernel_rfl, fun n hn => loopW_ok (p := p110_0) (id := 0) Y110 (lam_le lam_nil n hn) hn r110_0_run⟩
noncomputable def c110_22 : Code := subCode (bodyOf Tryz.f110) 22
def p110_22 : PS := ⟨0, [4, 5, 6, 7], ⟨vBs 4 ++ [.one (.one (.ptr 0 0 0)), vI, vI, vI] ++ vBs 27, [.box [.int .i64, .int .i64]]⟩, [⟨.ret, [4], ⟨vBs 4 ++ [.one (.one (.ptr 0 0 0))] ++ vBs 30, [.box [.int .i64, .int .i64]]⟩, []⟩], []⟩
noncomputable def j110_22 (x : Int × Int × Int × Int × Int × Unit) : Option (Int × Int × Unit) :=
  bif x.snd.snd.fst == (0 : Int) then none
else
  bif x.snd.snd.fst == (0 : Int) then none
  else some (IntKind.i64.wrap (x.fst.tdiv x.snd.snd.fst), IntKind.i64.wrap (x.snd.fst.tdiv x.snd.snd.fst), ())
theorem j110_22_run0 (v0 : Int) (v1 : Int) (v2 : Int) (v3 : Int) (v4 : Int) : pieceK tC G110 (look []) c110_22 p110_22 (v0, v1, v2, v3, v4, ()) = j110_22 (v0, v1, v2, v3, v4, ()) := by kernel_rfl
theorem j110_22_run (x : Int × Int × Int × Int × Int × Unit) : pieceK tC G110 (look []) c110_22 p110_22 x = j110_22 x := j110_22_run0 x.1 x.2.1 x.2.2.1 x.2.2.2.1 x.2.2.2.2.1
noncomputable def W110_22 : LF tC := cutLF tC p110_22 j110_22
theorem W110_22_ok : keyed 22 (bodyOf Tryz.f110) = [c110_22] ∧ ∀ n, n ≤ 0 → Snd tC n c110_22 W110_22.k := ⟨by kernel_rfl, fun n hn => cut_ok (p := p110_22) Y110 (lam_le lam_nil n hn) hn j110_22_run⟩
def S110 : FS := ⟨[[.v, .v], [.v, .v, .v]], [⟨[.one (.agg [.int .i64, .int .i64]), .one (.agg [.int .i64, .int .i64, .int .i64])], []⟩], [⟨[.one (.agg [.int .i64, .int .i64])], []⟩], [[.v, .v]], []⟩
noncomputable def f110 (x : Int × Int × Int × Int × Int × Unit) : Option (Int × Int × Unit) :=
  (l110_0
      (IntKind.i64.wrap (x.fst * x.snd.snd.snd.snd.fst), x.snd.fst, IntKind.i64.wrap (x.fst * x.snd.snd.snd.snd.fst), x.snd.fst, (0 : Int),
        (0 : Int), ())).bind
  fun y37 =>
  bif decide (y37.snd.snd.fst < (0 : Int)) then
    (j110_22 (y37.fst, y37.snd.fst, IntKind.i64.wrap ((0 : Int) - y37.snd.snd.fst), y37.snd.snd.snd.fst, y37.snd.snd.snd.snd.fst, ())).bind
      fun y35 => some (y35.fst, y35.snd.fst, ())
  else
    (j110_22 (y37.fst, y37.snd.fst, y37.snd.snd.fst, y37.snd.snd.snd.fst, y37.snd.snd.snd.snd.fst, ())).bind fun y36 =>
      some (y36.fst, y36.snd.fst, ())
noncomputable def F110 : CF tC := mkF tC S110 f110
theorem f110_run : ∀ a, fnS tC G110 (look [(0, W110_0), (22, W110_22)]) Tryz.f110 S110 a = f110 a := fun a => by kernel_rfl
theorem F110_ok : CFOK tC 110 F110 := mkF_ok Y110 (fn := Tryz.f110) (body := bodyOf Tryz.f110) (by kernel_rfl) (by kernel_rfl) (by kernel_rfl) (m := 0) rfl (lam_le (lam_cons W110_0_ok (lam_cons W110_22_ok lam_nil))) f110_run

/-! segment.Enter -/
noncomputable def G98 : FuncId → Option (CF tC) := look [(109, F109), (110, F110)]
theorem Y98 : SysN tC G98 := (sys_cons F109_ok (mkF_nat _ _) (sys_cons F110_ok (mkF_nat _ _) (sys_nil tC_ok tC_eq)))
def S98 : FS := ⟨[[.v, .v], [.v, .v, .v], [.v, .v, .v, .v]], [⟨[.one (.agg [.int .i64, .int .i64]), .one (.agg [.int .i64, .int .i64, .int .i64]), .one (.agg [.int .i64, .int .i64, .int .i64, .int .i64])], []⟩], [⟨[.tup [.agg [.int .i64, .int .i64], .one .bool]], []⟩], [[.v, .v], [.v]], []⟩
noncomputable def f98 (x : Int × Int × Int × Int × Int × Int × Int × Int × Int × Unit) : Option (Int × Int × Bool × Unit) :=
  (f109
      (x.fst, x.snd.fst, x.snd.snd.fst, x.snd.snd.snd.fst, x.snd.snd.snd.snd.fst, x.snd.snd.snd.snd.snd.fst, x.snd.snd.snd.snd.snd.snd.fst,
        x.snd.snd.snd.snd.snd.snd.snd.fst, x.snd.snd.snd.snd.snd.snd.snd.snd.fst, ())).bind
  fun y21 =>
  bif !y21.snd.snd.snd.snd.fst then some ((0 : Int), (0 : Int), false, ())
  else
    (f110 (y21.fst, y21.snd.fst, x.snd.snd.fst, x.snd.snd.snd.fst, x.snd.snd.snd.snd.fst, ())).bind fun y20 =>
      some (y20.fst, y20.snd.fst, true, ())
noncomputable def F98 : CF tC := mkF tC S98 f98
theorem f98_run : ∀ a, fnS tC G98 (look []) Tryz.f98 S98 a = f98 a := fun a => by kernel_rfl
theorem F98_ok : CFOK tC 98 F98 := mkF_ok Y98 (fn := Tryz.f98) (body := bodyOf Tryz.f98) (by kernel_rfl) (by kernel_rfl) (by kernel_rfl) (m := 0) rfl (lam_le lam_nil) f98_run

/-! ray.First -/
noncomputable def G80 : FuncId → Option (CF tC) := look [(79, F79), (97, F97), (53, F53), (61, F61), (98, F98)]
theorem Y80 : SysN tC G80 := (sys_cons F79_ok (mkF_nat _ _) (sys_cons F97_ok (mkF_nat _ _) (sys_cons F53_ok (mkF_nat _ _) (sys_cons F61_ok (mkF_nat _ _) (sys_cons F98_ok (mkF_nat _ _) (sys_nil tC_ok tC_eq))))))
noncomputable def c80_52 : Code := subCode (loopOf (bodyOf Tryz.f80) 0) 52
def p80_52 : PS := ⟨0, [4, 5, 6, 8, 9, 13, 14, 15, 39, 40, 41], ⟨vBs 4 ++ [.one (.one (.ptr 0 0 0)), .one (.one (.ptr 1 0 0)), .one (.one (.ptr 2 0 0)), vB, .one (.one (.ptr 3 0 0)), .one (.one (.ptr 4 0 0)), vB, vB, vB, .one (.one (.ptr 5 0 0)), .one (.one (.ptr 6 0 0)), vO] ++ vBs 23 ++ [.one (.one (.imm 113)), vI, vI] ++ vBs 40, [.box [.int .i64, .int .i64, .imm 5], .box [.int .i64, .int .i64], .box [.int .i64, .int .i64, .int .i64], .box [.int .i64, .int .i64], .box [.int .i64, .int .i64], .box [.int .i64, .int .i64], .box [.int .i64, .int .i64]]⟩, [⟨.normal, [4, 5, 6, 8, 9, 13, 14, 15, 39, 40, 41], ⟨vBs 4 ++ [.one (.one (.ptr 0 0 0)), .one (.one (.ptr 1 0 0)), .one (.one (.ptr 2 0 0)), vB, .one (.one (.ptr 3 0 0)), .one (.one (.ptr 4 0 0)), vB, vB, vB, .one (.one (.ptr 5 0 0)), .one (.one (.ptr 6 0 0)), vO] ++ vBs 23 ++ [.one (.one (.imm 113)), vI, vI] ++ vBs 40, [.box [.int .i64, .int .i64, .imm 5], .box [.int .i64, .int .i64], .box [.int .i64, .int .i64, .int .i64], .box [.int .i64, .int .i64], .box [.int .i64, .int .i64], .box [.int .i64, .int .i64], .box [.int .i64, .int .i64]]⟩, []⟩], []⟩
noncomputable def j80_52 (x : Bool × List Pt × Int × Int × Int × Int × List Int × Int × Int × Int × Int × Int × Int × Int × Int × Int × Int × Int × Int × Int × Unit) : Option
  (Bool × List Pt × Int × Int × Int × Int × List Int × Int × Int × Int × Int × Int × Int × Int × Int × Int × Int × Int × Int × Int × Unit) :=
  some
  (x.fst, x.snd.fst, x.snd.snd.fst, IntKind.i64.wrap (x.snd.snd.snd.fst + (1 : Int)), x.snd.snd.snd.snd.fst, x.snd.snd.snd.snd.snd.fst,
    x.snd.snd.snd.snd.snd.snd.fst, x.snd.snd.snd.snd.snd.snd.snd.fst, x.snd.snd.snd.snd.snd.snd.snd.snd.fst,
    x.snd.snd.snd.snd.snd.snd.snd.snd.snd.fst, x.snd.snd.snd.snd.snd.snd.snd.snd.snd.snd.fst,
    x.snd.snd.snd.snd.snd.snd.snd.snd.snd.snd.snd.fst, x.snd.snd.snd.snd.snd.snd.snd.snd.snd.snd.snd.snd.fst,
    x.snd.snd.snd.snd.snd.snd.snd.snd.snd.snd.snd.snd.snd.fst, x.snd.snd.snd.snd.snd.snd.snd.snd.snd.snd.snd.snd.snd.snd.fst,
    x.snd.snd.snd.snd.snd.snd.snd.snd.snd.snd.snd.snd.snd.snd.snd.fst,
    x.snd.snd.snd.snd.snd.snd.snd.snd.snd.snd.snd.snd.snd.snd.snd.snd.fst,
    x.snd.snd.snd.snd.snd.snd.snd.snd.snd.snd.snd.snd.snd.snd.snd.snd.snd.fst,
    x.snd.snd.snd.snd.snd.snd.snd.snd.snd.snd.snd.snd.snd.snd.snd.snd.snd.snd.fst,
    x.snd.snd.snd.snd.snd.snd.snd.snd.snd.snd.snd.snd.snd.snd.snd.snd.snd.snd.snd.fst, ())
theorem j80_52_run0 (v0 : Bool) (v1 : List Pt) (v2 : Int) (v3 : Int) (v4 : Int) (v5 : Int) (v6 : List Int) (v7 : Int) (v8 : Int) (v9 : Int) (v10 : Int) (v11 : Int) (v12 : Int) (v13 : Int) (v14 : Int) (v15 : Int) (v16 : Int) (v17 : Int) (v18 : Int) (v19 : Int) : pieceK tC G80 (look []) c80_52 p80_52 (v0, v1, v2, v3, v4, v5, v6, v7, v8, v9, v10, v11, v12, v13, v14, v15, v16, v17, v18, v19, ()) = j80_52 (v0, v1, v2, v3, v4, v5, v6, v7, v8, v9, v10, v11, v12, v13, v14, v15, v16, v17, v18, v19, ()) := by kernel_rfl
theorem j80_52_run (x : Bool × List Pt × Int × Int × Int × Int × List Int × Int × Int × Int × Int × Int × Int × Int × Int × Int × Int × Int × Int × Int × Unit) : pieceK tC G80 (look []) c80_52 p80_52 x = j80_52 x := j80_52_run0 x.1 x.2.1 x.2.2.1 x.2.2.2.1 x.2.2.2.2.1 x.2.2.2.2.2.1 x.2.2.2.2.2.2.1 x.2.2.2.2.2.2.2.1 x.2.2.2.2.2.2.2.2.1 x.2.2.2.2.2.2.2.2.2.1 x.2.2.2.2.2.2.2.2.2.2.1 x.2.2.2.2.2.2.2.2.2.2.2.1 x.2.2.2.2.2.2.2.2.2.2.2.2.1 x.2.2.2.2.2.2.2.2.2.2.2.2.2.1 x.2.2.2.2.2.2.2.2.2.2.2.2.2.2.1 x.2.2.2.2.2.2.2.2.2.2.2.2.2.2.2.1 x.2.2.2.2.2.2.2.2.2.2.2.2.2.2.2.2.1 x.2.2.2.2.2.2.2.2.2.2.2.2.2.2.2.2.2.1 x.2.2.2.2.2.2.2.2.2.2.2.2.2.2.2.2.2.2.1 x.2.2.2.2.2.2.2.2.2.2.2.2.2.2.2.2.2.2.2.1
noncomputable def W80_52 : LF tC := cutLF tC p80_52 j80_52
theorem W80_52_ok : keyed 52 (loopOf (bodyOf Tryz.f80) 0) = [c80_52] ∧ ∀ n, n ≤ 0 → Snd tC n c80_52 W80_52.k := ⟨by kernel_rfl, fun n hn => cut_ok (p := p80_52) Y80 (lam_le lam_nil n hn) hn j80_52_run⟩
noncomputable def c80_0 : Code := loopOf (bodyOf Tryz.f80) 0
def p80_0 : LS := ⟨0, [4, 5, 6, 8, 9, 13, 14, 15, 39, 40, 41], ⟨vBs 4 ++ [.one (.one (.ptr 0 0 0)), .one (.one (.ptr 1 0 0)), .one (.one (.ptr 2 0 0)), vB, .one (.one (.ptr 3 0 0)), .one (.one (.ptr 4 0 0)), vB, vB, vB, .one (.one (.ptr 5 0 0)), .one (.one (.ptr 6 0 0)), vO] ++ vBs 23 ++ [.one (.one (.imm 113)), vI, vI] ++ vBs 40, [.box [.int .i64, .int .i64, .imm 5], .box [.int .i64, .int .i64], .box [.int .i64, .int .i64, .int .i64], .box [.int .i64, .int .i64], .box [.int .i64, .int .i64], .box [.int .i64, .int .i64], .box [.int .i64, .int .i64]]⟩, [⟨.exit 0, [8, 9, 13, 14, 15], ⟨vBs 8 ++ [.one (.one (.ptr 0 0 0)), .one (.one (.ptr 1 0 0)), vB, vB, vB, .one (.one (.ptr 2 0 0)), .one (.one (.ptr 3 0 0)), vO] ++ vBs 66, [.box [.int .i64, .int .i64], .box [.int .i64, .int .i64], .box [.int .i64, .int .i64], .box [.int .i64, .int .i64]]⟩, []⟩], []⟩
noncomputable def r80_0 (x : Bool × List Pt × Int × Int × Int × Int × List Int × Int × Int × Int × Int × Int × Int × Int × Int × Int × Int × Int × Int × Int × Unit) : Option
  (Bool × List Pt × Int × Int × Int × Int × List Int × Int × Int × Int × Int × Int × Int × Int × Int × Int × Int × Int × Int × Int × Unit ⊕
    Bool × Int × Int × Int × Int × Int × Int × Int × Int × Unit) :=
  bif decide (x.snd.snd.snd.fst < x.snd.snd.fst) then
  (idxO x.snd.fst x.snd.snd.snd.fst).bind fun y173 =>
    (f53 (x.snd.snd.snd.snd.fst, x.snd.snd.snd.snd.snd.fst, x.snd.snd.snd.snd.snd.snd.fst, y173.X, y173.Y, ())).bind fun y172 =>
      bif y172.fst != (2 : Int) then
        (j80_52
              (x.fst, x.snd.fst, x.snd.snd.fst, x.snd.snd.snd.fst, x.snd.snd.snd.snd.fst, x.snd.snd.snd.snd.snd.fst,
                x.snd.snd.snd.snd.snd.snd.fst, x.snd.snd.snd.snd.snd.snd.snd.fst, x.snd.snd.snd.snd.snd.snd.snd.snd.fst,
                x.snd.snd.snd.snd.snd.snd.snd.snd.snd.fst, x.snd.snd.snd.snd.snd.snd.snd.snd.snd.snd.fst,
                x.snd.snd.snd.snd.snd.snd.snd.snd.snd.snd.snd.fst, x.snd.snd.snd.snd.snd.snd.snd.snd.snd.snd.snd.snd.fst,
                x.snd.snd.snd.snd.snd.snd.snd.snd.snd.snd.snd.snd.snd.fst, x.snd.snd.snd.snd.snd.snd.snd.snd.snd.snd.snd.snd.snd.snd.fst,
                x.snd.snd.snd.snd.snd.snd.snd.snd.snd.snd.snd.snd.snd.snd.snd.fst,
                x.snd.snd.snd.snd.snd.snd.snd.snd.snd.snd.snd.snd.snd.snd.snd.snd.fst,
                x.snd.snd.snd.snd.snd.snd.snd.snd.snd.snd.snd.snd.snd.snd.snd.snd.snd.fst,
                x.snd.snd.snd.snd.snd.snd.snd.snd.snd.snd.snd.snd.snd.snd.snd.snd.snd.snd.fst,
                x.snd.snd.snd.snd.snd.snd.snd.snd.snd.snd.snd.snd.snd.snd.snd.snd.snd.snd.snd.fst, ())).bind
          fun y167 =>
          some
            (Sum.inl
              (y167.fst, y167.snd.fst, y167.snd.snd.fst, y167.snd.snd.snd.fst, y167.snd.snd.snd.snd.fst, y167.snd.snd.snd.snd.snd.fst,
                y167.snd.snd.snd.snd.snd.snd.fst, y167.snd.snd.snd.snd.snd.snd.snd.fst, y167.snd.snd.snd.snd.snd.snd.snd.snd.fst,
                y167.snd.snd.snd.snd.snd.snd.snd.snd.snd.fst, y167.snd.snd.snd.snd.snd.snd.snd.snd.snd.snd.fst,
                y167.snd.snd.snd.snd.snd.snd.snd.snd.snd.snd.snd.fst, y167.snd.snd.snd.snd.snd.snd.snd.snd.snd.snd.snd.snd.fst,
                y167.snd.snd.snd.snd.snd.snd.snd.snd.snd.snd.snd.snd.snd.fst,
                y167.snd.snd.snd.snd.snd.snd.snd.snd.snd.snd.snd.snd.snd.snd.fst,
                y167.snd.snd.snd.snd.snd.snd.snd.snd.snd.snd.snd.snd.snd.snd.snd.fst,
                y167.snd.snd.snd.snd.snd.snd.snd.snd.snd.snd.snd.snd.snd.snd.snd.snd.fst,
                y167.snd.snd.snd.snd.snd.snd.snd.snd.snd.snd.snd.snd.snd.snd.snd.snd.snd.fst,
                y167.snd.snd.snd.snd.snd.snd.snd.snd.snd.snd.snd.snd.snd.snd.snd.snd.snd.snd.fst,
                y167.snd.snd.snd.snd.snd.snd.snd.snd.snd.snd.snd.snd.snd.snd.snd.snd.snd.snd.snd.fst, ()))
      else
        (f98
              (x.snd.snd.snd.snd.snd.snd.snd.fst, x.snd.snd.snd.snd.snd.snd.snd.snd.fst, x.snd.snd.snd.snd.snd.snd.snd.snd.snd.fst,
                x.snd.snd.snd.snd.snd.snd.snd.snd.snd.snd.fst, x.snd.snd.snd.snd.snd.snd.snd.snd.snd.snd.snd.fst, (f61 y173.X y173.Y).fst,
                (f61 y173.X y173.Y).snd.fst, (f61 y173.X y173.Y).snd.snd.fst, (f61 y173.X y173.Y).snd.snd.snd.fst, ())).bind
          fun y171 =>
          bif !x.fst then
            (j80_52
                  (true, x.snd.fst, x.snd.snd.fst, x.snd.snd.snd.fst, x.snd.snd.snd.snd.fst, x.snd.snd.snd.snd.snd.fst,
                    x.snd.snd.snd.snd.snd.snd.fst, x.snd.snd.snd.snd.snd.snd.snd.fst, x.snd.snd.snd.snd.snd.snd.snd.snd.fst,
                    x.snd.snd.snd.snd.snd.snd.snd.snd.snd.fst, x.snd.snd.snd.snd.snd.snd.snd.snd.snd.snd.fst,
                    x.snd.snd.snd.snd.snd.snd.snd.snd.snd.snd.snd.fst, x.snd.snd.snd.snd.snd.snd.snd.snd.snd.snd.snd.snd.fst,
                    x.snd.snd.snd.snd.snd.snd.snd.snd.snd.snd.snd.snd.snd.fst,
                    x.snd.snd.snd.snd.snd.snd.snd.snd.snd.snd.snd.snd.snd.snd.fst,
                    x.snd.snd.snd.snd.snd.snd.snd.snd.snd.snd.snd.snd.snd.snd.snd.fst, y171.fst, y171.snd.fst, y173.X, y173.Y, ())).bind
              fun y168 =>
              some
                (Sum.inl
                  (y168.fst, y168.snd.fst, y168.snd.snd.fst, y168.snd.snd.snd.fst, y168.snd.snd.snd.snd.fst, y168.snd.snd.snd.snd.snd.fst,
                    y168.snd.snd.snd.snd.snd.snd.fst, y168.snd.snd.snd.snd.snd.snd.snd.fst, y168.snd.snd.snd.snd.snd.snd.snd.snd.fst,
                    y168.snd.snd.snd.snd.snd.snd.snd.snd.snd.fst, y168.snd.snd.snd.snd.snd.snd.snd.snd.snd.snd.fst,
                    y168.snd.snd.snd.snd.snd.snd.snd.snd.snd.snd.snd.fst, y168.snd.snd.snd.snd.snd.snd.snd.snd.snd.snd.snd.snd.fst,
                    y168.snd.snd.snd.snd.snd.snd.snd.snd.snd.snd.snd.snd.snd.fst,
                    y168.snd.snd.snd.snd.snd.snd.snd.snd.snd.snd.snd.snd.snd.snd.fst,
                    y168.snd.snd.snd.snd.snd.snd.snd.snd.snd.snd.snd.snd.snd.snd.snd.fst,
                    y168.snd.snd.snd.snd.snd.snd.snd.snd.snd.snd.snd.snd.snd.snd.snd.snd.fst,
                    y168.snd.snd.snd.snd.snd.snd.snd.snd.snd.snd.snd.snd.snd.snd.snd.snd.snd.fst,
                    y168.snd.snd.snd.snd.snd.snd.snd.snd.snd.snd.snd.snd.snd.snd.snd.snd.snd.snd.fst,
                    y168.snd.snd.snd.snd.snd.snd.snd.snd.snd.snd.snd.snd.snd.snd.snd.snd.snd.snd.snd.fst, ()))
          else
            bif
                decide
                  (IntKind.i64.wrap (y171.fst * x.snd.snd.snd.snd.snd.snd.snd.snd.snd.snd.snd.snd.snd.snd.snd.snd.snd.fst) <
                    IntKind.i64.wrap (x.snd.snd.snd.snd.snd.snd.snd.snd.snd.snd.snd.snd.snd.snd.snd.snd.fst * y171.snd.fst)) then
              (j80_52
                    (true, x.snd.fst, x.snd.snd.fst, x.snd.snd.snd.fst, x.snd.snd.snd.snd.fst, x.snd.snd.snd.snd.snd.fst,
                      x.snd.snd.snd.snd.snd.snd.fst, x.snd.snd.snd.snd.snd.snd.snd.fst, x.snd.snd.snd.snd.snd.snd.snd.snd.fst,
                      x.snd.snd.snd.snd.snd.snd.snd.snd.snd.fst, x.snd.snd.snd.snd.snd.snd.snd.snd.snd.snd.fst,
                      x.snd.snd.snd.snd.snd.snd.snd.snd.snd.snd.snd.fst, x.snd.snd.snd.snd.snd.snd.snd.snd.snd.snd.snd.snd.fst,
                      x.snd.snd.snd.snd.snd.snd.snd.snd.snd.snd.snd.snd.snd.fst,
                      x.snd.snd.snd.snd.snd.snd.snd.snd.snd.snd.snd.snd.snd.snd.fst,
                      x.snd.snd.snd.snd.snd.snd.snd.snd.snd.snd.snd.snd.snd.snd.snd.fst, y171.fst, y171.snd.fst, y173.X, y173.Y, ())).bind
                fun y169 =>
                some
                  (Sum.inl
                    (y169.fst, y169.snd.fst, y169.snd.snd.fst, y169.snd.snd.snd.fst, y169.snd.snd.snd.snd.fst, y169.snd.snd.snd.snd.snd.fst,
                      y169.snd.snd.snd.snd.snd.snd.fst, y169.snd.snd.snd.snd.snd.snd.snd.fst, y169.snd.snd.snd.snd.snd.snd.snd.snd.fst,
                      y169.snd.snd.snd.snd.snd.snd.snd.snd.snd.fst, y169.snd.snd.snd.snd.snd.snd.snd.snd.snd.snd.fst,
                      y169.snd.snd.snd.snd.snd.snd.snd.snd.snd.snd.snd.fst, y169.snd.snd.snd.snd.snd.snd.snd.snd.snd.snd.snd.snd.fst,
                      y169.snd.snd.snd.snd.snd.snd.snd.snd.snd.snd.snd.snd.snd.fst,
                      y169.snd.snd.snd.snd.snd.snd.snd.snd.snd.snd.snd.snd.snd.snd.fst,
                      y169.snd.snd.snd.snd.snd.snd.snd.snd.snd.snd.snd.snd.snd.snd.snd.fst,
                      y169.snd.snd.snd.snd.snd.snd.snd.snd.snd.snd.snd.snd.snd.snd.snd.snd.fst,
                      y169.snd.snd.snd.snd.snd.snd.snd.snd.snd.snd.snd.snd.snd.snd.snd.snd.snd.fst,
                      y169.snd.snd.snd.snd.snd.snd.snd.snd.snd.snd.snd.snd.snd.snd.snd.snd.snd.snd.fst,
                      y169.snd.snd.snd.snd.snd.snd.snd.snd.snd.snd.snd.snd.snd.snd.snd.snd.snd.snd.snd.fst, ()))
            else
              (j80_52
                    (x.fst, x.snd.fst, x.snd.snd.fst, x.snd.snd.snd.fst, x.snd.snd.snd.snd.fst, x.snd.snd.snd.snd.snd.fst,
                      x.snd.snd.snd.snd.snd.snd.fst, x.snd.snd.snd.snd.snd.snd.snd.fst, x.snd.snd.snd.snd.snd.snd.snd.snd.fst,
                      x.snd.snd.snd.snd.snd.snd.snd.snd.snd.fst, x.snd.snd.snd.snd.snd.snd.snd.snd.snd.snd.fst,
                      x.snd.snd.snd.snd.snd.snd.snd.snd.snd.snd.snd.fst, x.snd.snd.snd.snd.snd.snd.snd.snd.snd.snd.snd.snd.fst,
                      x.snd.snd.snd.snd.snd.snd.snd.snd.snd.snd.snd.snd.snd.fst,
                      x.snd.snd.snd.snd.snd.snd.snd.snd.snd.snd.snd.snd.snd.snd.fst,
                      x.snd.snd.snd.snd.snd.snd.snd.snd.snd.snd.snd.snd.snd.snd.snd.fst,
                      x.snd.snd.snd.snd.snd.snd.snd.snd.snd.snd.snd.snd.snd.snd.snd.snd.fst,
                      x.snd.snd.snd.snd.snd.snd.snd.snd.snd.snd.snd.snd.snd.snd.snd.snd.snd.fst,
                      x.snd.snd.snd.snd.snd.snd.snd.snd.snd.snd.snd.snd.snd.snd.snd.snd.snd.snd.fst,
                      x.snd.snd.snd.snd.snd.snd.snd.snd.snd.snd.snd.snd.snd.snd.snd.snd.snd.snd.snd.fst, ())).bind
                fun y170 =>
                some
                  (Sum.inl
                    (y170.fst, y170.snd.fst, y170.snd.snd.fst, y170.snd.snd.snd.fst, y170.snd.snd.snd.snd.fst, y170.snd.snd.snd.snd.snd.fst,
                      y170.snd.snd.snd.snd.snd.snd.fst, y170.snd.snd.snd.snd.snd.snd.snd.fst, y170.snd.snd.snd.snd.snd.snd.snd.snd.fst,
                      y170.snd.snd.snd.snd.snd.snd.snd.snd.snd.fst, y170.snd.snd.snd.snd.snd.snd.snd.snd.snd.snd.fst,
                      y170.snd.snd.snd.snd.snd.snd.snd.snd.snd.snd.snd.fst, y170.snd.snd.snd.snd.snd.snd.snd.snd.snd.snd.snd.snd.fst,
                      y170.snd.snd.snd.snd.snd.snd.snd.snd.snd.snd.snd.snd.snd.fst,
                      y170.snd.snd.snd.snd.snd.snd.snd.snd.snd.snd.snd.snd.snd.snd.fst,
                      y170.snd.snd.snd.snd.snd.snd.snd.snd.snd.snd.snd.snd.snd.snd.snd.fst,
                      y170.snd.snd.snd.snd.snd.snd.snd.snd.snd.snd.snd.snd.snd.snd.snd.snd.fst,
                      y170.snd.snd.snd.snd.snd.snd.snd.snd.snd.snd.snd.snd.snd.snd.snd.snd.snd.fst,
                      y170.snd.snd.snd.snd.snd.snd.snd.snd.snd.snd.snd.snd.snd.snd.snd.snd.snd.snd.fst,
                      y170.snd.snd.snd.snd.snd.snd.snd.snd.snd.snd.snd.snd.snd.snd.snd.snd.snd.snd.snd.fst, ()))
else
  some
    (Sum.inr
      (x.fst, x.snd.snd.snd.snd.snd.snd.snd.snd.snd.snd.snd.snd.fst, x.snd.snd.snd.snd.snd.snd.snd.snd.snd.snd.snd.snd.snd.fst,
        x.snd.snd.snd.snd.snd.snd.snd.snd.snd.snd.snd.snd.snd.snd.fst, x.snd.snd.snd.snd.snd.snd.snd.snd.snd.snd.snd.snd.snd.snd.snd.fst,
        x.snd.snd.snd.snd.snd.snd.snd.snd.snd.snd.snd.snd.snd.snd.snd.snd.fst,
        x.snd.snd.snd.snd.snd.snd.snd.snd.snd.snd.snd.snd.snd.snd.snd.snd.snd.fst,
        x.snd.snd.snd.snd.snd.snd.snd.snd.snd.snd.snd.snd.snd.snd.snd.snd.snd.snd.fst,
        x.snd.snd.snd.snd.snd.snd.snd.snd.snd.snd.snd.snd.snd.snd.snd.snd.snd.snd.snd.fst, ()))
theorem r80_0_run0 (v0 : Bool) (v1 : List Pt) (v2 : Int) (v3 : Int) (v4 : Int) (v5 : Int) (v6 : List Int) (v7 : Int) (v8 : Int) (v9 : Int) (v10 : Int) (v11 : Int) (v12 : Int) (v13 : Int) (v14 : Int) (v15 : Int) (v16 : Int) (v17 : Int) (v18 : Int) (v19 : Int) : roundK tC G80 (look [(52, W80_52)]) c80_0 p80_0 (v0, v1, v2, v3, v4, v5, v6, v7, v8, v9, v10, v11, v12, v13, v14, v15, v16, v17, v18, v19, ()) = r80_0 (v0, v1, v2, v3, v4, v5, v6, v7, v8, v9, v10, v11, v12, v13, v14, v15, v16, v17, v18, v19, ()) := by kernel_rfl
theorem r80_0_run (x : Bool × List Pt × Int × Int × Int × Int × List Int × Int × Int × Int × Int × Int × Int × Int × Int × Int × Int × Int × Int × Int × Unit) : roundK tC G80 (look [(52, W80_52)]) c80_0 p80_0 x = r80_0 x := r80_0_run0 x.1 x.2.1 x.2.2.1 x.2.2.2.1 x.2.2.2.2.1 x.2.2.2.2.2.1 x.2.2.2.2.2.2.1 x.2.2.2.2.2.2.2.1 x.2.2.2.2.2.2.2.2.1 x.2.2.2.2.2.2.2.2.2.1 x.2.2.2.2.2.2.2.2.2.2.1 x.2.2.2.2.2.2.2.2.2.2.2.1 x.2.2.2.2.2.2.2.2.2.2.2.2.1 x.2.2.2.2.2.2.2.2.2.2.2.2.2.1 x.2.2.2.2.2.2.2.2.2.2.2.2.2.2.1 x.2.2.2.2.2.2.2.2.2.2.2.2.2.2.2.1 x.2.2.2.2.2.2.2.2.2.2.2.2.2.2.2.2.1 x.2.2.2.2.2.2.2.2.2.2.2.2.2.2.2.2.2.1 x.2.2.2.2.2.2.2.2.2.2.2.2.2.2.2.2.2.2.1 x.2.2.2.2.2.2.2.2.2.2.2.2.2.2.2.2.2.2.2.1
noncomputable def l80_0 (x : Bool × List Pt × Int × Int × Int × Int × List Int × Int × Int × Int × Int × Int × Int × Int × Int × Int × Int × Int × Int × Int × Unit) : Option (Bool × Int × Int × Int × Int × Int × Int × Int × Int × Unit) := iterO r80_0 x
noncomputable def W80_0 : LF tC := loopW tC p80_0 0 l80_0
theorem W80_0_ok : keyed 0 (bodyOf Tryz.f80) = [.block 0 (.loop c80_0)] ∧ ∀ n, n ≤ 0 → Snd tC n (.block 0 (.loop c80_0)) W80_0.k := ⟨by kernel_rfl, fun n hn => loopW_ok (p := p80_0) (id := 0) Y80 (lam_le (lam_cons W80_52_ok lam_nil) n hn) hn r80_0_run⟩
def S80 : FS := ⟨[[.v, .v, .s 5], [.v, .v], [.v, .v, .v], [.v]], [⟨[.one (.agg [.int .i64, .int .i64, .imm 5]), .one (.agg [.int .i64, .int .i64]), .one (.agg [.int .i64, .int .i64, .int .i64]), vI], []⟩], [⟨[.tup [.agg [.int .i64, .int .i64], .agg [.int .i64, .int .i64], .one .bool]], []⟩], [[.v, .v], [.v, .v], [.v]], []⟩
noncomputable def f80 (x : Int × Int × List Int × Int × Int × Int × Int × Int × Int × Unit) : Option (Int × Int × Int × Int × Bool × Unit) :=
  (f79 (x.fst, x.snd.fst, x.snd.snd.fst, x.snd.snd.snd.fst, x.snd.snd.snd.snd.fst, ())).bind fun y190 =>
  bif !y190.fst then some ((0 : Int), (0 : Int), (0 : Int), (0 : Int), false, ())
  else
    (f97
          (x.snd.snd.snd.fst, x.snd.snd.snd.snd.fst, x.snd.snd.snd.snd.snd.fst, x.snd.snd.snd.snd.snd.snd.fst,
            x.snd.snd.snd.snd.snd.snd.snd.fst, (0 : Int), x.snd.snd.snd.snd.snd.snd.snd.snd.fst, ())).bind
      fun y189 =>
      bif y189.snd.fst != (0 : Int) then some ((0 : Int), (0 : Int), (0 : Int), (0 : Int), false, ())
      else
        (l80_0
              (false, y189.fst, (↑y189.fst.length : Int), (0 : Int), x.fst, x.snd.fst, x.snd.snd.fst, x.snd.snd.snd.fst,
                x.snd.snd.snd.snd.fst, x.snd.snd.snd.snd.snd.fst, x.snd.snd.snd.snd.snd.snd.fst, x.snd.snd.snd.snd.snd.snd.snd.fst,
                (0 : Int), (0 : Int), (0 : Int), (0 : Int), (0 : Int), (0 : Int), (0 : Int), (0 : Int), ())).bind
          fun y188 =>
          some
            (y188.snd.snd.snd.snd.snd.fst, y188.snd.snd.snd.snd.snd.snd.fst, y188.snd.snd.snd.snd.snd.snd.snd.fst,
              y188.snd.snd.snd.snd.snd.snd.snd.snd.fst, y188.fst, ())
noncomputable def F80 : CF tC := mkF tC S80 f80
theorem f80_run : ∀ a, fnS tC G80 (look [(0, W80_0)]) Tryz.f80 S80 a = f80 a := fun a => by kernel_rfl
theorem F80_ok : CFOK tC 80 F80 := mkF_ok Y80 (fn := Tryz.f80) (body := bodyOf Tryz.f80) (by kernel_rfl) (by kernel_rfl) (by kernel_rfl) (m := 0) rfl (lam_le (lam_cons W80_0_ok lam_nil)) f80_run

/-! heading.Valid -/
noncomputable def G111 : FuncId → Option (CF tC) := look []
theorem Y111 : SysN tC G111 := (sys_nil tC_ok tC_eq)
def S111 : FS := ⟨[[.v, .v, .v]], [⟨[.one (.agg [.int .i64, .int .i64, .int .i64])], []⟩], [⟨[vO], []⟩], [[.v]], []⟩
def f111 (n1 : Int) (n2 : Int) (n3 : Int) : Bool :=
  bif decide (n3 < (1 : Int)) then false
else
  bif decide (n3 > (67108864 : Int)) then false
  else
    bif decide (n1 < IntKind.i64.wrap ((0 : Int) - n3)) then false
    else
      bif decide (n1 > n3) then false
      else
        bif decide (n2 < IntKind.i64.wrap ((0 : Int) - n3)) then false
        else
          bif decide (n2 > n3) then false
          else IntKind.i64.wrap (IntKind.i64.wrap (n1 * n1) + IntKind.i64.wrap (n2 * n2)) == IntKind.i64.wrap (n3 * n3)
noncomputable def F111 : CF tC := mkF tC S111 (fun a => some ((f111 a.1 a.2.1 a.2.2.1), ()))
def h111 (r : Bool) : Option (altTy tE S111.outs) := some (r, ())
theorem f111_run : ∀ a, fnS tC G111 (look []) Tryz.f111 S111 a = (fun a => some ((f111 a.1 a.2.1 a.2.2.1), ())) a := fun a => by
  have key : ∀ (n1 : Int) (n2 : Int) (n3 : Int), (bif decide (n3 < (1 : Int)) then h111 false
else
  bif decide (n3 > (67108864 : Int)) then h111 false
  else
    bif decide (n1 < IntKind.i64.wrap ((0 : Int) - n3)) then h111 false
    else
      bif decide (n1 > n3) then h111 false
      else
        bif decide (n2 < IntKind.i64.wrap ((0 : Int) - n3)) then h111 false
        else
          bif decide (n2 > n3) then h111 false
          else h111 (IntKind.i64.wrap (IntKind.i64.wrap (n1 * n1) + IntKind.i64.wrap (n2 * n2)) == IntKind.i64.wrap (n3 * n3))) = h111 (f111 n1 n2 n3) := by
    intros
    unfold f111
    repeat' first | rfl | refine cond_h (g := h111) ?_ ?_
  exact Eq.trans (by kernel_rfl) (key a.1 a.2.1 a.2.2.1)
theorem F111_ok : CFOK tC 111 F111 := mkF_ok Y111 (fn := Tryz.f111) (body := bodyOf Tryz.f111) (by kernel_rfl) (by kernel_rfl) (by kernel_rfl) (m := 0) rfl (lam_le lam_nil) f111_run

/-! heading.Turn -/
noncomputable def G99 : FuncId → Option (CF tC) := look [(111, F111), (94, F94)]
theorem Y99 : SysN tC G99 := (sys_cons F111_ok (mkF_nat _ _) (sys_cons F94_ok (mkF_nat _ _) (sys_nil tC_ok tC_eq)))
def S99 : FS := ⟨[[.v, .v, .v], [.v, .v, .v]], [⟨[.one (.agg [.int .i64, .int .i64, .int .i64]), .one (.agg [.int .i64, .int .i64, .int .i64])], []⟩], [⟨[.tup [.agg [.int .i64, .int .i64, .int .i64], .one (.int .i64)]], []⟩], [[.v, .v, .v], [.v]], []⟩
noncomputable def f99 (x : Int × Int × Int × Int × Int × Int × Unit) : Option (Int × Int × Int × Int × Unit) :=
  bif !f111 x.fst x.snd.fst x.snd.snd.fst then some ((0 : Int), (0 : Int), (0 : Int), (1 : Int), ())
else
  bif !f111 x.snd.snd.snd.fst x.snd.snd.snd.snd.fst x.snd.snd.snd.snd.snd.fst then some ((0 : Int), (0 : Int), (0 : Int), (1 : Int), ())
  else
    (f94
          (IntKind.i64.wrap (IntKind.i64.wrap (x.fst * x.snd.snd.snd.fst) - IntKind.i64.wrap (x.snd.fst * x.snd.snd.snd.snd.fst)),
            IntKind.i64.wrap (IntKind.i64.wrap (x.fst * x.snd.snd.snd.snd.fst) + IntKind.i64.wrap (x.snd.fst * x.snd.snd.snd.fst)),
            IntKind.i64.wrap (x.snd.snd.fst * x.snd.snd.snd.snd.snd.fst), ())).bind
      fun y14 =>
      bif decide (y14.snd.snd.fst > (67108864 : Int)) then some ((0 : Int), (0 : Int), (0 : Int), (2 : Int), ())
      else some (y14.fst, y14.snd.fst, y14.snd.snd.fst, (0 : Int), ())
noncomputable def F99 : CF tC := mkF tC S99 f99
theorem f99_run : ∀ a, fnS tC G99 (look []) Tryz.f99 S99 a = f99 a := fun a => by kernel_rfl
theorem F99_ok : CFOK tC 99 F99 := mkF_ok Y99 (fn := Tryz.f99) (body := bodyOf Tryz.f99) (by kernel_rfl) (by kernel_rfl) (by kernel_rfl) (m := 0) rfl (lam_le lam_nil) f99_run

/-! heading.Beam -/
noncomputable def G81 : FuncId → Option (CF tC) := look [(73, F73), (99, F99)]
theorem Y81 : SysN tC G81 := (sys_cons F73_ok (mkF_nat _ _) (sys_cons F99_ok (mkF_nat _ _) (sys_nil tC_ok tC_eq)))
def S81 : FS := ⟨[[.v], [.v]], [⟨[vI, vI], []⟩], [⟨[.one (.agg [.int .i64, .int .i64, .int .i64])], []⟩], [[.v, .v, .v]], []⟩
noncomputable def f81 (x : Int × Int × Unit) : Option (Int × Int × Int × Unit) :=
  (f73 (x.fst, ())).bind fun y18 =>
  (f73 (x.snd.fst, ())).bind fun y17 =>
    (f99 (y18.fst, y18.snd.fst, y18.snd.snd.fst, y17.fst, y17.snd.fst, y17.snd.snd.fst, ())).bind fun y16 =>
      some (y16.fst, y16.snd.fst, y16.snd.snd.fst, ())
noncomputable def F81 : CF tC := mkF tC S81 f81
theorem f81_run : ∀ a, fnS tC G81 (look []) Tryz.f81 S81 a = f81 a := fun a => by kernel_rfl
theorem F81_ok : CFOK tC 81 F81 := mkF_ok Y81 (fn := Tryz.f81) (body := bodyOf Tryz.f81) (by kernel_rfl) (by kernel_rfl) (by kernel_rfl) (m := 0) rfl (lam_le lam_nil) f81_run

/-! ray.look -/
noncomputable def G57 : FuncId → Option (CF tC) := look [(81, F81), (80, F80)]
theorem Y57 : SysN tC G57 := (sys_cons F81_ok (mkF_nat _ _) (sys_cons F80_ok (mkF_nat _ _) (sys_nil tC_ok tC_eq)))
def S57 : FS := ⟨[[.v, .v, .s 5], [.v, .v, .v], [.v], [.v]], [⟨[.one (.agg [.int .i64, .int .i64, .imm 5]), .one (.agg [.int .i64, .int .i64, .int .i64]), vI, vI], []⟩], [⟨[.tup [.agg [.int .i64, .int .i64], .one .bool]], []⟩], [[.v, .v], [.v]], []⟩
noncomputable def f57 (x : Int × Int × List Int × Int × Int × Int × Int × Int × Unit) : Option (Int × Int × Bool × Unit) :=
  (f81 (x.snd.snd.snd.snd.snd.fst, x.snd.snd.snd.snd.snd.snd.fst, ())).bind fun y21 =>
  (f80
        (x.fst, x.snd.fst, x.snd.snd.fst, x.snd.snd.snd.fst, x.snd.snd.snd.snd.fst, y21.fst, y21.snd.fst, y21.snd.snd.fst,
          x.snd.snd.snd.snd.snd.snd.snd.fst, ())).bind
    fun y20 => some (y20.fst, y20.snd.fst, y20.snd.snd.snd.snd.fst, ())
noncomputable def F57 : CF tC := mkF tC S57 f57
theorem f57_run : ∀ a, fnS tC G57 (look []) Tryz.f57 S57 a = f57 a := fun a => by kernel_rfl
theorem F57_ok : CFOK tC 57 F57 := mkF_ok Y57 (fn := Tryz.f57) (body := bodyOf Tryz.f57) (by kernel_rfl) (by kernel_rfl) (by kernel_rfl) (m := 0) rfl (lam_le lam_nil) f57_run

/-! ray.Measure -/
noncomputable def G69 : FuncId → Option (CF tC) := look [(54, F54), (56, F56), (57, F57)]
theorem Y69 : SysN tC G69 := (sys_cons F54_ok (mkF_nat _ _) (sys_cons F56_ok (mkF_nat _ _) (sys_cons F57_ok (mkF_nat _ _) (sys_nil tC_ok tC_eq))))
noncomputable def c69_34 : Code := subCode (bodyOf Tryz.f69) 34
def p69_34 : PS := ⟨0, [14], ⟨vBs 14 ++ [vI] ++ vBs 39, []⟩, [⟨.ret, [10, 11], ⟨vBs 10 ++ [vI, vI] ++ vBs 42, []⟩, []⟩], []⟩
noncomputable def j69_34 (x : Int × Unit) : Option (Int × Int × Unit) :=
  some (x.fst, (0 : Int), ())
theorem j69_34_run0 (v0 : Int) : pieceK tC G69 (look []) c69_34 p69_34 (v0, ()) = j69_34 (v0, ()) := by kernel_rfl
theorem j69_34_run (x : Int × Unit) : pieceK tC G69 (look []) c69_34 p69_34 x = j69_34 x := j69_34_run0 x.1
noncomputable def W69_34 : LF tC := cutLF tC p69_34 j69_34
theorem W69_34_ok : keyed 34 (bodyOf Tryz.f69) = [c69_34] ∧ ∀ n, n ≤ 0 → Snd tC n c69_34 W69_34.k := ⟨by kernel_rfl, fun n hn => cut_ok (p := p69_34) Y69 (lam_le lam_nil n hn) hn j69_34_run⟩
def S69 : FS := ⟨[[.v, .v, .s 5], [.v, .v, .v], [.v], [.v], [.v]], [⟨[.one (.agg [.int .i64, .int .i64, .imm 5]), .one (.agg [.int .i64, .int .i64, .int .i64]), vI, vI, vI], []⟩], [⟨[.tup [.one (.int .i64), .one (.int .i64)]], []⟩], [[.v], [.v]], []⟩
noncomputable def f69 (x : Int × Int × List Int × Int × Int × Int × Int × Int × Int × Unit) : Option (Int × Int × Unit) :=
  (f54 (x.fst, x.snd.fst, x.snd.snd.fst, x.snd.snd.snd.fst, x.snd.snd.snd.snd.fst, x.snd.snd.snd.snd.snd.fst, ())).bind fun y26 =>
  bif !y26.fst then some ((0 : Int), (1 : Int), ())
  else
    bif !f56 x.snd.snd.snd.snd.snd.snd.snd.fst (1 : Int) (32 : Int) then some ((0 : Int), (2 : Int), ())
    else
      bif !f56 x.snd.snd.snd.snd.snd.snd.fst (0 : Int) (255 : Int) then some ((0 : Int), (2 : Int), ())
      else
        (f57
              (x.fst, x.snd.fst, x.snd.snd.fst, x.snd.snd.snd.fst, x.snd.snd.snd.snd.fst, x.snd.snd.snd.snd.snd.fst,
                x.snd.snd.snd.snd.snd.snd.fst, (1024 : Int), ())).bind
          fun y25 =>
          bif !y25.snd.snd.fst then some ((-1 : Int), (0 : Int), ())
          else
            bif y25.snd.fst == (0 : Int) then none
            else
              bif
                  decide
                    ((bif
                          decide
                            ((0 : Int) >
                              IntKind.i64.wrap
                                (IntKind.i64.wrap (y25.fst.tdiv y25.snd.fst) +
                                  bif
                                      decide
                                        (x.snd.snd.snd.snd.snd.snd.snd.fst <
                                          bif
                                              decide
                                                (IntKind.i64.wrap ((1 : Int) - x.snd.snd.snd.snd.snd.snd.snd.fst) >
                                                  x.snd.snd.snd.snd.snd.snd.snd.snd.fst) then
                                            IntKind.i64.wrap ((1 : Int) - x.snd.snd.snd.snd.snd.snd.snd.fst)
                                          else x.snd.snd.snd.snd.snd.snd.snd.snd.fst) then
                                    x.snd.snd.snd.snd.snd.snd.snd.fst
                                  else
                                    bif
                                        decide
                                          (IntKind.i64.wrap ((1 : Int) - x.snd.snd.snd.snd.snd.snd.snd.fst) >
                                            x.snd.snd.snd.snd.snd.snd.snd.snd.fst) then
                                      IntKind.i64.wrap ((1 : Int) - x.snd.snd.snd.snd.snd.snd.snd.fst)
                                    else x.snd.snd.snd.snd.snd.snd.snd.snd.fst)) then
                        (0 : Int)
                      else
                        IntKind.i64.wrap
                          (IntKind.i64.wrap (y25.fst.tdiv y25.snd.fst) +
                            bif
                                decide
                                  (x.snd.snd.snd.snd.snd.snd.snd.fst <
                                    bif
                                        decide
                                          (IntKind.i64.wrap ((1 : Int) - x.snd.snd.snd.snd.snd.snd.snd.fst) >
                                            x.snd.snd.snd.snd.snd.snd.snd.snd.fst) then
                                      IntKind.i64.wrap ((1 : Int) - x.snd.snd.snd.snd.snd.snd.snd.fst)
                                    else x.snd.snd.snd.snd.snd.snd.snd.snd.fst) then
                              x.snd.snd.snd.snd.snd.snd.snd.fst
                            else
                              bif
                                  decide
                                    (IntKind.i64.wrap ((1 : Int) - x.snd.snd.snd.snd.snd.snd.snd.fst) >
                                      x.snd.snd.snd.snd.snd.snd.snd.snd.fst) then
                                IntKind.i64.wrap ((1 : Int) - x.snd.snd.snd.snd.snd.snd.snd.fst)
                              else x.snd.snd.snd.snd.snd.snd.snd.snd.fst)) >
                      (1024 : Int)) then
                (j69_34 ((-1 : Int), ())).bind fun y23 => some (y23.fst, y23.snd.fst, ())
              else
                (j69_34
                      (bif
                            decide
                              ((0 : Int) >
                                IntKind.i64.wrap
                                  (IntKind.i64.wrap (y25.fst.tdiv y25.snd.fst) +
                                    bif
                                        decide
                                          (x.snd.snd.snd.snd.snd.snd.snd.fst <
                                            bif
                                                decide
                                                  (IntKind.i64.wrap ((1 : Int) - x.snd.snd.snd.snd.snd.snd.snd.fst) >
                                                    x.snd.snd.snd.snd.snd.snd.snd.snd.fst) then
                                              IntKind.i64.wrap ((1 : Int) - x.snd.snd.snd.snd.snd.snd.snd.fst)
                                            else x.snd.snd.snd.snd.snd.snd.snd.snd.fst) then
                                      x.snd.snd.snd.snd.snd.snd.snd.fst
                                    else
                                      bif
                                          decide
                                            (IntKind.i64.wrap ((1 : Int) - x.snd.snd.snd.snd.snd.snd.snd.fst) >
                                              x.snd.snd.snd.snd.snd.snd.snd.snd.fst) then
                                        IntKind.i64.wrap ((1 : Int) - x.snd.snd.snd.snd.snd.snd.snd.fst)
                                      else x.snd.snd.snd.snd.snd.snd.snd.snd.fst)) then
                          (0 : Int)
                        else
                          IntKind.i64.wrap
                            (IntKind.i64.wrap (y25.fst.tdiv y25.snd.fst) +
                              bif
                                  decide
                                    (x.snd.snd.snd.snd.snd.snd.snd.fst <
                                      bif
                                          decide
                                            (IntKind.i64.wrap ((1 : Int) - x.snd.snd.snd.snd.snd.snd.snd.fst) >
                                              x.snd.snd.snd.snd.snd.snd.snd.snd.fst) then
                                        IntKind.i64.wrap ((1 : Int) - x.snd.snd.snd.snd.snd.snd.snd.fst)
                                      else x.snd.snd.snd.snd.snd.snd.snd.snd.fst) then
                                x.snd.snd.snd.snd.snd.snd.snd.fst
                              else
                                bif
                                    decide
                                      (IntKind.i64.wrap ((1 : Int) - x.snd.snd.snd.snd.snd.snd.snd.fst) >
                                        x.snd.snd.snd.snd.snd.snd.snd.snd.fst) then
                                  IntKind.i64.wrap ((1 : Int) - x.snd.snd.snd.snd.snd.snd.snd.fst)
                                else x.snd.snd.snd.snd.snd.snd.snd.snd.fst),
                        ())).bind
                  fun y24 => some (y24.fst, y24.snd.fst, ())
noncomputable def F69 : CF tC := mkF tC S69 f69
theorem f69_run : ∀ a, fnS tC G69 (look [(34, W69_34)]) Tryz.f69 S69 a = f69 a := fun a => by kernel_rfl
theorem F69_ok : CFOK tC 69 F69 := mkF_ok Y69 (fn := Tryz.f69) (body := bodyOf Tryz.f69) (by kernel_rfl) (by kernel_rfl) (by kernel_rfl) (m := 0) rfl (lam_le (lam_cons W69_34_ok lam_nil)) f69_run

/-! ray.Sweep -/
noncomputable def G34 : FuncId → Option (CF tC) := look [(69, F69)]
theorem Y34 : SysN tC G34 := (sys_cons F69_ok (mkF_nat _ _) (sys_nil tC_ok tC_eq))
noncomputable def c34_31 : Code := subCode (loopOf (bodyOf Tryz.f34) 0) 31
def p34_31 : PS := ⟨0, [3, 4, 5, 6, 12, 14, 15, 21, 22, 23], ⟨[vB, vB, vB, vI, .one (.one (.imm 3)), .one (.one (.ptr 0 0 0)), .one (.one (.ptr 1 0 0))] ++ vBs 5 ++ [.one (.one (.sl 2)), vB, vI, vI] ++ vBs 5 ++ [.one (.one (.imm 3)), vI, vI] ++ vBs 32, [.box [.int .i64, .int .i64, .imm 5], .box [.int .i64, .int .i64, .int .i64], .arr 85]⟩, [⟨.ret, [10, 11], ⟨vBs 10 ++ [.one (.one (.sl 0)), vI] ++ vBs 44, [.arr 85]⟩, [(10, 85)]⟩, ⟨.normal, [3, 4, 5, 6, 12, 21, 22, 23], ⟨[vB, vB, vB, vI, .one (.one (.imm 3)), .one (.one (.ptr 0 0 0)), .one (.one (.ptr 1 0 0))] ++ vBs 5 ++ [.one (.one (.sl 2))] ++ vBs 8 ++ [.one (.one (.imm 3)), vI, vI] ++ vBs 32, [.box [.int .i64, .int .i64, .imm 5], .box [.int .i64, .int .i64, .int .i64], .arr 85]⟩, []⟩], []⟩
noncomputable def j34_31 (x : Int × List Int × Nat × Int × Int × List Int × Int × Int × Int × Int × List Int × Int × Int × Int × List Bm × Unit) : Option (Nat × Int × List Bm × Unit ⊕ Int × List Int × Nat × List Int × Int × Int × Int × Int × List Int × Int × Int × Int × List Bm × Unit) :=
  (f69
      (x.snd.snd.snd.snd.snd.snd.snd.snd.fst, x.snd.snd.snd.snd.snd.snd.snd.snd.snd.fst, x.snd.snd.snd.snd.snd.snd.snd.snd.snd.snd.fst,
        x.snd.snd.snd.snd.snd.snd.snd.snd.snd.snd.snd.fst, x.snd.snd.snd.snd.snd.snd.snd.snd.snd.snd.snd.snd.fst,
        x.snd.snd.snd.snd.snd.snd.snd.snd.snd.snd.snd.snd.snd.fst, x.snd.snd.snd.fst, x.fst, x.snd.snd.snd.snd.fst, ())).bind
  fun y187 =>
  bif y187.snd.fst != (0 : Int) then some (Sum.inl ((0 : Nat), y187.snd.fst, [], ()))
  else
    bif decide ((0 : Nat) + x.snd.snd.fst ≤ x.snd.snd.snd.snd.snd.snd.snd.snd.snd.snd.snd.snd.snd.snd.fst.length) then
      bif roomy (x.snd.snd.fst + (1 : Nat)) (16 : Nat) then
        some
          (Sum.inr
            (x.fst, x.snd.fst, x.snd.snd.fst + (1 : Nat), x.snd.snd.snd.snd.snd.fst, x.snd.snd.snd.snd.snd.snd.fst,
              x.snd.snd.snd.snd.snd.snd.snd.fst, x.snd.snd.snd.snd.snd.snd.snd.snd.fst, x.snd.snd.snd.snd.snd.snd.snd.snd.snd.fst,
              x.snd.snd.snd.snd.snd.snd.snd.snd.snd.snd.fst, x.snd.snd.snd.snd.snd.snd.snd.snd.snd.snd.snd.fst,
              x.snd.snd.snd.snd.snd.snd.snd.snd.snd.snd.snd.snd.fst, x.snd.snd.snd.snd.snd.snd.snd.snd.snd.snd.snd.snd.snd.fst,
              List.take x.snd.snd.fst (List.drop (0 : Nat) x.snd.snd.snd.snd.snd.snd.snd.snd.snd.snd.snd.snd.snd.snd.fst) ++
                [Bm.mk x.snd.snd.snd.fst y187.fst],
              ()))
      else none
    else none
theorem j34_31_run0 (v0 : Int) (v1 : List Int) (v2 : Nat) (v3 : Int) (v4 : Int) (v5 : List Int) (v6 : Int) (v7 : Int) (v8 : Int) (v9 : Int) (v10 : List Int) (v11 : Int) (v12 : Int) (v13 : Int) (v14 : List Bm) : pieceK tC G34 (look []) c34_31 p34_31 (v0, v1, v2, v3, v4, v5, v6, v7, v8, v9, v10, v11, v12, v13, v14, ()) = j34_31 (v0, v1, v2, v3, v4, v5, v6, v7, v8, v9, v10, v11, v12, v13, v14, ()) := by kernel_rfl
theorem j34_31_run (x : Int × List Int × Nat × Int × Int × List Int × Int × Int × Int × Int × List Int × Int × Int × Int × List Bm × Unit) : pieceK tC G34 (look []) c34_31 p34_31 x = j34_31 x := j34_31_run0 x.1 x.2.1 x.2.2.1 x.2.2.2.1 x.2.2.2.2.1 x.2.2.2.2.2.1 x.2.2.2.2.2.2.1 x.2.2.2.2.2.2.2.1 x.2.2.2.2.2.2.2.2.1 x.2.2.2.2.2.2.2.2.2.1 x.2.2.2.2.2.2.2.2.2.2.1 x.2.2.2.2.2.2.2.2.2.2.2.1 x.2.2.2.2.2.2.2.2.2.2.2.2.1 x.2.2.2.2.2.2.2.2.2.2.2.2.2.1 x.2.2.2.2.2.2.2.2.2.2.2.2.2.2.1
noncomputable def W34_31 : LF tC := cutLF tC p34_31 j34_31
theorem W34_31_ok : keyed 31 (loopOf (bodyOf Tryz.f34) 0) = [c34_31] ∧ ∀ n, n ≤ 0 → Snd tC n c34_31 W34_31.k := ⟨by kernel_rfl, fun n hn => cut_ok (p := p34_31) Y34 (lam_le lam_nil n hn) hn j34_31_run⟩
noncomputable def c34_43 : Code := subCode (loopOf (bodyOf Tryz.f34) 0) 43
def p34_43 : PS := ⟨0, [3, 4, 5, 6, 12, 21, 22, 23], ⟨[vB, vB, vB, vI, .one (.one (.imm 3)), .one (.one (.ptr 0 0 0)), .one (.one (.ptr 1 0 0))] ++ vBs 5 ++ [.one (.one (.sl 2))] ++ vBs 8 ++ [.one (.one (.imm 3)), vI, vI] ++ vBs 32, [.box [.int .i64, .int .i64, .imm 5], .box [.int .i64, .int .i64, .int .i64], .arr 85]⟩, [⟨.normal, [3, 4, 5, 6, 12, 21, 22, 23], ⟨[vB, vB, vB, vI, .one (.one (.imm 3)), .one (.one (.ptr 0 0 0)), .one (.one (.ptr 1 0 0))] ++ vBs 5 ++ [.one (.one (.sl 2))] ++ vBs 8 ++ [.one (.one (.imm 3)), vI, vI] ++ vBs 32, [.box [.int .i64, .int .i64, .imm 5], .box [.int .i64, .int .i64, .int .i64], .arr 85]⟩, []⟩], []⟩
noncomputable def j34_43 (x : Int × List Int × Nat × List Int × Int × Int × Int × Int × List Int × Int × Int × Int × List Bm × Unit) : Option (Int × List Int × Nat × List Int × Int × Int × Int × Int × List Int × Int × Int × Int × List Bm × Unit) :=
  some
  (x.fst, x.snd.fst, x.snd.snd.fst, x.snd.snd.snd.fst, x.snd.snd.snd.snd.fst, IntKind.i64.wrap (x.snd.snd.snd.snd.snd.fst + (1 : Int)),
    x.snd.snd.snd.snd.snd.snd.fst, x.snd.snd.snd.snd.snd.snd.snd.fst, x.snd.snd.snd.snd.snd.snd.snd.snd.fst,
    x.snd.snd.snd.snd.snd.snd.snd.snd.snd.fst, x.snd.snd.snd.snd.snd.snd.snd.snd.snd.snd.fst,
    x.snd.snd.snd.snd.snd.snd.snd.snd.snd.snd.snd.fst, x.snd.snd.snd.snd.snd.snd.snd.snd.snd.snd.snd.snd.fst, ())
theorem j34_43_run0 (v0 : Int) (v1 : List Int) (v2 : Nat) (v3 : List Int) (v4 : Int) (v5 : Int) (v6 : Int) (v7 : Int) (v8 : List Int) (v9 : Int) (v10 : Int) (v11 : Int) (v12 : List Bm) : pieceK tC G34 (look []) c34_43 p34_43 (v0, v1, v2, v3, v4, v5, v6, v7, v8, v9, v10, v11, v12, ()) = j34_43 (v0, v1, v2, v3, v4, v5, v6, v7, v8, v9, v10, v11, v12, ()) := by kernel_rfl
theorem j34_43_run (x : Int × List Int × Nat × List Int × Int × Int × Int × Int × List Int × Int × Int × Int × List Bm × Unit) : pieceK tC G34 (look []) c34_43 p34_43 x = j34_43 x := j34_43_run0 x.1 x.2.1 x.2.2.1 x.2.2.2.1 x.2.2.2.2.1 x.2.2.2.2.2.1 x.2.2.2.2.2.2.1 x.2.2.2.2.2.2.2.1 x.2.2.2.2.2.2.2.2.1 x.2.2.2.2.2.2.2.2.2.1 x.2.2.2.2.2.2.2.2.2.2.1 x.2.2.2.2.2.2.2.2.2.2.2.1 x.2.2.2.2.2.2.2.2.2.2.2.2.1
noncomputable def W34_43 : LF tC := cutLF tC p34_43 j34_43
theorem W34_43_ok : keyed 43 (loopOf (bodyOf Tryz.f34) 0) = [c34_43] ∧ ∀ n, n ≤ 0 → Snd tC n c34_43 W34_43.k := ⟨by kernel_rfl, fun n hn => cut_ok (p := p34_43) Y34 (lam_le lam_nil n hn) hn j34_43_run⟩
noncomputable def c34_0 : Code := loopOf (bodyOf Tryz.f34) 0
def p34_0 : LS := ⟨0, [3, 4, 5, 6, 12, 21, 22, 23], ⟨[vB, vB, vB, vI, .one (.one (.imm 3)), .one (.one (.ptr 0 0 0)), .one (.one (.ptr 1 0 0))] ++ vBs 5 ++ [.one (.one (.sl 2))] ++ vBs 8 ++ [.one (.one (.imm 3)), vI, vI] ++ vBs 32, [.box [.int .i64, .int .i64, .imm 5], .box [.int .i64, .int .i64, .int .i64], .arr 85]⟩, [⟨.ret, [10, 11], ⟨vBs 10 ++ [.one (.one (.sl 0)), vI] ++ vBs 44, [.arr 85]⟩, [(10, 85)]⟩, ⟨.exit 0, [12], ⟨vBs 12 ++ [.one (.one (.sl 0))] ++ vBs 43, [.arr 85]⟩, []⟩], [(12, 85)]⟩
noncomputable def r34_0 (x : Int × List Int × Nat × List Int × Int × Int × Int × Int × List Int × Int × Int × Int × List Bm × Unit) : Option
  (Int × List Int × Nat × List Int × Int × Int × Int × Int × List Int × Int × Int × Int × List Bm × Unit ⊕
    Nat × Int × List Bm × Unit ⊕ Nat × List Bm × Unit) :=
  bif decide (x.snd.snd.snd.snd.snd.fst < x.snd.snd.snd.snd.fst) then
  (idxO x.snd.snd.snd.fst x.snd.snd.snd.snd.snd.fst).bind fun y286 =>
    bif decide (x.snd.snd.snd.snd.snd.fst < (↑x.snd.fst.length : Int)) then
      (idxO x.snd.fst x.snd.snd.snd.snd.snd.fst).bind fun y281 =>
        (j34_31
              (x.fst, x.snd.fst, x.snd.snd.fst, y286, y281, x.snd.snd.snd.fst, x.snd.snd.snd.snd.fst, x.snd.snd.snd.snd.snd.fst,
                x.snd.snd.snd.snd.snd.snd.fst, x.snd.snd.snd.snd.snd.snd.snd.fst, x.snd.snd.snd.snd.snd.snd.snd.snd.fst,
                x.snd.snd.snd.snd.snd.snd.snd.snd.snd.fst, x.snd.snd.snd.snd.snd.snd.snd.snd.snd.snd.fst,
                x.snd.snd.snd.snd.snd.snd.snd.snd.snd.snd.snd.fst, x.snd.snd.snd.snd.snd.snd.snd.snd.snd.snd.snd.snd.fst, ())).bind
          fun y280 =>
          Sum.elim (fun y277 => some (Sum.inr (Sum.inl (y277.fst, y277.snd.fst, y277.snd.snd.fst, ()))))
            (fun y279 =>
              (j34_43
                    (y279.fst, y279.snd.fst, y279.snd.snd.fst, y279.snd.snd.snd.fst, y279.snd.snd.snd.snd.fst, y279.snd.snd.snd.snd.snd.fst,
                      y279.snd.snd.snd.snd.snd.snd.fst, y279.snd.snd.snd.snd.snd.snd.snd.fst, y279.snd.snd.snd.snd.snd.snd.snd.snd.fst,
                      y279.snd.snd.snd.snd.snd.snd.snd.snd.snd.fst, y279.snd.snd.snd.snd.snd.snd.snd.snd.snd.snd.fst,
                      y279.snd.snd.snd.snd.snd.snd.snd.snd.snd.snd.snd.fst, y279.snd.snd.snd.snd.snd.snd.snd.snd.snd.snd.snd.snd.fst,
                      ())).bind
                fun y278 =>
                some
                  (Sum.inl
                    (y278.fst, y278.snd.fst, y278.snd.snd.fst, y278.snd.snd.snd.fst, y278.snd.snd.snd.snd.fst, y278.snd.snd.snd.snd.snd.fst,
                      y278.snd.snd.snd.snd.snd.snd.fst, y278.snd.snd.snd.snd.snd.snd.snd.fst, y278.snd.snd.snd.snd.snd.snd.snd.snd.fst,
                      y278.snd.snd.snd.snd.snd.snd.snd.snd.snd.fst, y278.snd.snd.snd.snd.snd.snd.snd.snd.snd.snd.fst,
                      y278.snd.snd.snd.snd.snd.snd.snd.snd.snd.snd.snd.fst, y278.snd.snd.snd.snd.snd.snd.snd.snd.snd.snd.snd.snd.fst, ())))
            y280
    else
      (j34_31
            (x.fst, x.snd.fst, x.snd.snd.fst, y286, (0 : Int), x.snd.snd.snd.fst, x.snd.snd.snd.snd.fst, x.snd.snd.snd.snd.snd.fst,
              x.snd.snd.snd.snd.snd.snd.fst, x.snd.snd.snd.snd.snd.snd.snd.fst, x.snd.snd.snd.snd.snd.snd.snd.snd.fst,
              x.snd.snd.snd.snd.snd.snd.snd.snd.snd.fst, x.snd.snd.snd.snd.snd.snd.snd.snd.snd.snd.fst,
              x.snd.snd.snd.snd.snd.snd.snd.snd.snd.snd.snd.fst, x.snd.snd.snd.snd.snd.snd.snd.snd.snd.snd.snd.snd.fst, ())).bind
        fun y285 =>
        Sum.elim (fun y282 => some (Sum.inr (Sum.inl (y282.fst, y282.snd.fst, y282.snd.snd.fst, ()))))
          (fun y284 =>
            (j34_43
                  (y284.fst, y284.snd.fst, y284.snd.snd.fst, y284.snd.snd.snd.fst, y284.snd.snd.snd.snd.fst, y284.snd.snd.snd.snd.snd.fst,
                    y284.snd.snd.snd.snd.snd.snd.fst, y284.snd.snd.snd.snd.snd.snd.snd.fst, y284.snd.snd.snd.snd.snd.snd.snd.snd.fst,
                    y284.snd.snd.snd.snd.snd.snd.snd.snd.snd.fst, y284.snd.snd.snd.snd.snd.snd.snd.snd.snd.snd.fst,
                    y284.snd.snd.snd.snd.snd.snd.snd.snd.snd.snd.snd.fst, y284.snd.snd.snd.snd.snd.snd.snd.snd.snd.snd.snd.snd.fst,
                    ())).bind
              fun y283 =>
              some
                (Sum.inl
                  (y283.fst, y283.snd.fst, y283.snd.snd.fst, y283.snd.snd.snd.fst, y283.snd.snd.snd.snd.fst, y283.snd.snd.snd.snd.snd.fst,
                    y283.snd.snd.snd.snd.snd.snd.fst, y283.snd.snd.snd.snd.snd.snd.snd.fst, y283.snd.snd.snd.snd.snd.snd.snd.snd.fst,
                    y283.snd.snd.snd.snd.snd.snd.snd.snd.snd.fst, y283.snd.snd.snd.snd.snd.snd.snd.snd.snd.snd.fst,
                    y283.snd.snd.snd.snd.snd.snd.snd.snd.snd.snd.snd.fst, y283.snd.snd.snd.snd.snd.snd.snd.snd.snd.snd.snd.snd.fst, ())))
          y285
else some (Sum.inr (Sum.inr (x.snd.snd.fst, x.snd.snd.snd.snd.snd.snd.snd.snd.snd.snd.snd.snd.fst, ())))
theorem r34_0_run0 (v0 : Int) (v1 : List Int) (v2 : Nat) (v3 : List Int) (v4 : Int) (v5 : Int) (v6 : Int) (v7 : Int) (v8 : List Int) (v9 : Int) (v10 : Int) (v11 : Int) (v12 : List Bm) : roundK tC G34 (look [(31, W34_31), (43, W34_43)]) c34_0 p34_0 (v0, v1, v2, v3, v4, v5, v6, v7, v8, v9, v10, v11, v12, ()) = r34_0 (v0, v1, v2, v3, v4, v5, v6, v7, v8, v9, v10, v11, v12, ()) := by kernel_rfl
theorem r34_0_run (x : Int × List Int × Nat × List Int × Int × Int × Int × Int × List Int × Int × Int × Int × List Bm × Unit) : roundK tC G34 (look [(31, W34_31), (43, W34_43)]) c34_0 p34_0 x = r34_0 x := r34_0_run0 x.1 x.2.1 x.2.2.1 x.2.2.2.1 x.2.2.2.2.1 x.2.2.2.2.2.1 x.2.2.2.2.2.2.1 x.2.2.2.2.2.2.2.1 x.2.2.2.2.2.2.2.2.1 x.2.2.2.2.2.2.2.2.2.1 x.2.2.2.2.2.2.2.2.2.2.1 x.2.2.2.2.2.2.2.2.2.2.2.1 x.2.2.2.2.2.2.2.2.2.2.2.2.1
noncomputable def l34_0 (x : Int × List Int × Nat × List Int × Int × Int × Int × Int × List Int × Int × Int × Int × List Bm × Unit) : Option (Nat × Int × List Bm × Unit ⊕ Nat × List Bm × Unit) := iterO r34_0 x
noncomputable def W34_0 : LF tC := loopW tC p34_0 0 l34_0
theorem W34_0_ok : keyed 0 (bodyOf Tryz.f34) = [.block 0 (.loop c34_0)] ∧ ∀ n, n ≤ 0 → Snd tC n (.block 0 (.loop c34_0)) W34_0.k := ⟨by kernel_rfl, fun n hn => loopW_ok (p := p34_0) (id := 0) Y34 (lam_le (lam_cons W34_31_ok (lam_cons W34_43_ok lam_nil)) n hn) hn r34_0_run⟩
def S34 : FS := ⟨[[.v, .v, .s 5], [.v, .v, .v], [.s 3], [.v], [.s 3]], [⟨[.one (.agg [.int .i64, .int .i64, .imm 5]), .one (.agg [.int .i64, .int .i64, .int .i64]), .one (.one (.imm 3)), vI, .one (.one (.imm 3))], []⟩], [⟨[.tup [.one (.sl 0), .one (.int .i64)]], [.arr 85]⟩], [[.v], [.v]], [(10, 85)]⟩
noncomputable def f34 (x : Int × Int × List Int × Int × Int × Int × List Int × Int × List Int × Unit) : Option (Nat × Int × List Bm × Unit) :=
  bif decide ((↑x.snd.snd.snd.snd.snd.snd.fst.length : Int) > (32 : Int)) then some ((0 : Nat), (6 : Int), [], ())
else
  (l34_0
        (x.snd.snd.snd.snd.snd.snd.snd.fst, x.snd.snd.snd.snd.snd.snd.snd.snd.fst, (0 : Nat), x.snd.snd.snd.snd.snd.snd.fst,
          (↑x.snd.snd.snd.snd.snd.snd.fst.length : Int), (0 : Int), x.fst, x.snd.fst, x.snd.snd.fst, x.snd.snd.snd.fst,
          x.snd.snd.snd.snd.fst, x.snd.snd.snd.snd.snd.fst, [], ())).bind
    fun y297 =>
    Sum.elim (fun y295 => some (y295.fst, y295.snd.fst, y295.snd.snd.fst, ())) (fun y296 => some (y296.fst, (0 : Int), y296.snd.fst, ()))
      y297
noncomputable def F34 : CF tC := mkF tC S34 f34
theorem f34_run : ∀ a, fnS tC G34 (look [(0, W34_0)]) Tryz.f34 S34 a = f34 a := fun a => by kernel_rfl
theorem F34_ok : CFOK tC 34 F34 := mkF_ok Y34 (fn := Tryz.f34) (body := bodyOf Tryz.f34) (by kernel_rfl) (by kernel_rfl) (by kernel_rfl) (m := 0) rfl (lam_le (lam_cons W34_0_ok lam_nil)) f34_run

/-! robot.Do -/
noncomputable def G14 : FuncId → Option (CF tC) := look [(17, F17), (30, F30), (31, F31), (32, F32), (33, F33), (34, F34)]
theorem Y14 : SysN tC G14 := (sys_cons F17_ok (mkF_nat _ _) (sys_cons F30_ok (mkF_nat _ _) (sys_cons F31_ok (mkF_nat _ _) (sys_cons F32_ok (mkF_nat _ _) (sys_cons F33_ok (mkF_nat _ _) (sys_cons F34_ok (mkF_nat _ _) (sys_nil tC_ok tC_eq)))))))
noncomputable def c14_28 : Code := subCode (bodyOf Tryz.f14) 28
def p14_28 : PS := ⟨2, [0, 3, 4, 8, 9], ⟨[.one (.one (.ptr 1 0 0)), vB, vB, .one (.one (.ptr 2 0 0)), .one (.one (.ptr 3 0 0)), vB, vB, vB, .one (.one (.ptr 4 0 0)), vO] ++ vBs 95, [.arr 5, .box [.int .i64, .int .i64, .sl 0, .int .i64, .int .i64, .int .i64, .int .i64, .int .i64, .int .i64, .int .i64, .int .i64, .int .i64], .box [.int .i64, .int .i64, .int .i64, .int .i64, .int .i64, .int .i64, .imm 3, .imm 3], .box [.int .i64, .int .i64, .int .i64, .bool, .nils], .box [.int .i64, .int .i64, .int .i64]]⟩, [⟨.ret, [4, 5], ⟨vBs 4 ++ [.one (.one (.ptr 2 0 0)), vI] ++ vBs 99, [.arr 5, .box [.int .i64, .int .i64, .sl 0, .int .i64, .int .i64, .int .i64, .int .i64, .int .i64, .int .i64, .int .i64, .int .i64, .int .i64], .box [.int .i64, .int .i64, .int .i64, .bool, .sl 3], .arr 85]⟩, []⟩], []⟩
noncomputable def j14_28 (x : Bool ×
  List Int ×
    Int ×
      Int ×
        Nat ×
          Int ×
            Int ×
              Int ×
                Int ×
                  Int ×
                    Int ×
                      Int ×
                        Int ×
                          Int × Int × Int × Int × Int × Int × Int × List Int × List Int × Int × Int × Int × Bool × Int × Int × Int × Unit) : Option
  (Int × List Int × Int × Int × Nat × Int × Int × Int × Int × Int × Int × Int × Int × Int × Int × Int × Int × Bool × Nat × List Bm × Unit) :=
  bif decide ((0 : Nat) + x.snd.snd.snd.snd.fst ≤ x.snd.fst.length) then
  (f34
        (x.snd.snd.fst, x.snd.snd.snd.fst, List.take x.snd.snd.snd.snd.fst (List.drop (0 : Nat) x.snd.fst),
          x.snd.snd.snd.snd.snd.snd.snd.snd.snd.snd.snd.snd.snd.snd.snd.snd.snd.snd.snd.snd.snd.snd.snd.snd.snd.snd.fst,
          x.snd.snd.snd.snd.snd.snd.snd.snd.snd.snd.snd.snd.snd.snd.snd.snd.snd.snd.snd.snd.snd.snd.snd.snd.snd.snd.snd.fst,
          x.snd.snd.snd.snd.snd.snd.snd.snd.snd.snd.snd.snd.snd.snd.snd.snd.snd.snd.snd.snd.snd.snd.snd.snd.snd.snd.snd.snd.fst,
          x.snd.snd.snd.snd.snd.snd.snd.snd.snd.snd.snd.snd.snd.snd.snd.snd.snd.snd.snd.snd.fst, x.snd.snd.snd.snd.snd.snd.snd.snd.fst,
          x.snd.snd.snd.snd.snd.snd.snd.snd.snd.snd.snd.snd.snd.snd.snd.snd.snd.snd.snd.snd.snd.fst, ())).bind
    fun y80 =>
    some
      ((0 : Int), x.snd.fst, x.snd.snd.fst, x.snd.snd.snd.fst, x.snd.snd.snd.snd.fst, x.snd.snd.snd.snd.snd.fst,
        x.snd.snd.snd.snd.snd.snd.fst, x.snd.snd.snd.snd.snd.snd.snd.fst, x.snd.snd.snd.snd.snd.snd.snd.snd.fst,
        x.snd.snd.snd.snd.snd.snd.snd.snd.snd.fst, x.snd.snd.snd.snd.snd.snd.snd.snd.snd.snd.fst,
        x.snd.snd.snd.snd.snd.snd.snd.snd.snd.snd.snd.fst, x.snd.snd.snd.snd.snd.snd.snd.snd.snd.snd.snd.snd.fst,
        x.snd.snd.snd.snd.snd.snd.snd.snd.snd.snd.snd.snd.snd.fst, x.snd.snd.snd.snd.snd.snd.snd.snd.snd.snd.snd.snd.fst,
        x.snd.snd.snd.snd.snd.snd.snd.snd.snd.snd.snd.snd.snd.snd.fst, x.snd.snd.snd.snd.snd.snd.snd.snd.snd.snd.snd.snd.snd.snd.snd.fst,
        x.fst, y80.fst, y80.snd.snd.fst, ())
else none
theorem j14_28_run0 (v0 : Bool) (v1 : List Int) (v2 : Int) (v3 : Int) (v4 : Nat) (v5 : Int) (v6 : Int) (v7 : Int) (v8 : Int) (v9 : Int) (v10 : Int) (v11 : Int) (v12 : Int) (v13 : Int) (v14 : Int) (v15 : Int) (v16 : Int) (v17 : Int) (v18 : Int) (v19 : Int) (v20 : List Int) (v21 : List Int) (v22 : Int) (v23 : Int) (v24 : Int) (v25 : Bool) (v26 : Int) (v27 : Int) (v28 : Int) : pieceK tC G14 (look []) c14_28 p14_28 (v0, v1, v2, v3, v4, v5, v6, v7, v8, v9, v10, v11, v12, v13, v14, v15, v16, v17, v18, v19, v20, v21, v22, v23, v24, v25, v26, v27, v28, ()) = j14_28 (v0, v1, v2, v3, v4, v5, v6, v7, v8, v9, v10, v11, v12, v13, v14, v15, v16, v17, v18, v19, v20, v21, v22, v23, v24, v25, v26, v27, v28, ()) := by kernel_rfl
theorem j14_28_run (x : Bool ×
  List Int ×
    Int ×
      Int ×
        Nat ×
          Int ×
            Int ×
              Int ×
                Int ×
                  Int ×
                    Int ×
                      Int ×
                        Int ×
                          Int × Int × Int × Int × Int × Int × Int × List Int × List Int × Int × Int × Int × Bool × Int × Int × Int × Unit) : pieceK tC G14 (look []) c14_28 p14_28 x = j14_28 x := j14_28_run0 x.1 x.2.1 x.2.2.1 x.2.2.2.1 x.2.2.2.2.1 x.2.2.2.2.2.1 x.2.2.2.2.2.2.1 x.2.2.2.2.2.2.2.1 x.2.2.2.2.2.2.2.2.1 x.2.2.2.2.2.2.2.2.2.1 x.2.2.2.2.2.2.2.2.2.2.1 x.2.2.2.2.2.2.2.2.2.2.2.1 x.2.2.2.2.2.2.2.2.2.2.2.2.1 x.2.2.2.2.2.2.2.2.2.2.2.2.2.1 x.2.2.2.2.2.2.2.2.2.2.2.2.2.2.1 x.2.2.2.2.2.2.2.2.2.2.2.2.2.2.2.1 x.2.2.2.2.2.2.2.2.2.2.2.2.2.2.2.2.1 x.2.2.2.2.2.2.2.2.2.2.2.2.2.2.2.2.2.1 x.2.2.2.2.2.2.2.2.2.2.2.2.2.2.2.2.2.2.1 x.2.2.2.2.2.2.2.2.2.2.2.2.2.2.2.2.2.2.2.1 x.2.2.2.2.2.2.2.2.2.2.2.2.2.2.2.2.2.2.2.2.1 x.2.2.2.2.2.2.2.2.2.2.2.2.2.2.2.2.2.2.2.2.2.1 x.2.2.2.2.2.2.2.2.2.2.2.2.2.2.2.2.2.2.2.2.2.2.1 x.2.2.2.2.2.2.2.2.2.2.2.2.2.2.2.2.2.2.2.2.2.2.2.1 x.2.2.2.2.2.2.2.2.2.2.2.2.2.2.2.2.2.2.2.2.2.2.2.2.1 x.2.2.2.2.2.2.2.2.2.2.2.2.2.2.2.2.2.2.2.2.2.2.2.2.2.1 x.2.2.2.2.2.2.2.2.2.2.2.2.2.2.2.2.2.2.2.2.2.2.2.2.2.2.1 x.2.2.2.2.2.2.2.2.2.2.2.2.2.2.2.2.2.2.2.2.2.2.2.2.2.2.2.1 x.2.2.2.2.2.2.2.2.2.2.2.2.2.2.2.2.2.2.2.2.2.2.2.2.2.2.2.2.1
noncomputable def W14_28 : LF tC := cutLF tC p14_28 j14_28
theorem W14_28_ok : keyed 28 (bodyOf Tryz.f14) = [c14_28] ∧ ∀ n, n ≤ 2 → Snd tC n c14_28 W14_28.k := ⟨by kernel_rfl, fun n hn => cut_ok (p := p14_28) Y14 (lam_le lam_nil n hn) hn j14_28_run⟩
def S14 : FS := ⟨[[.p], [.v, .v, .v, .v, .v, .v, .s 3, .s 3]], [⟨[.one (.one (.ptr 1 0 0)), .one (.agg [.int .i64, .int .i64, .int .i64, .int .i64, .int .i64, .int .i64, .imm 3, .imm 3])], [.arr 5, .box [.int .i64, .int .i64, .sl 0, .int .i64, .int .i64, .int .i64, .int .i64, .int .i64, .int .i64, .int .i64, .int .i64, .int .i64]]⟩], [⟨[.tup [.agg [.int .i64, .int .i64, .int .i64, .bool, .him 85], .one (.int .i64)]], [.arr 5, .box [.int .i64, .int .i64, .sl 0, .int .i64, .int .i64, .int .i64, .int .i64, .int .i64, .int .i64, .int .i64, .int .i64, .int .i64]]⟩], [[.v, .v, .v, .v, .h 85], [.v]], []⟩
noncomputable def f14 (x : Int ×
  Int ×
    Int × Int × Int × Int × List Int × List Int × List Int × Int × Int × Nat × Int × Int × Int × Int × Int × Int × Int × Int × Int × Unit) : Option (Int × Int × Int × Bool × List Bm × Int × List Int × Int × Int × Nat × Int × Int × Int × Int × Int × Int × Int × Int × Int × Unit) :=
  bif !f17 x.fst x.snd.fst then
  some
    ((0 : Int), (0 : Int), (0 : Int), false, [], (1 : Int), x.snd.snd.snd.snd.snd.snd.snd.snd.fst,
      x.snd.snd.snd.snd.snd.snd.snd.snd.snd.fst, x.snd.snd.snd.snd.snd.snd.snd.snd.snd.snd.fst,
      x.snd.snd.snd.snd.snd.snd.snd.snd.snd.snd.snd.fst, x.snd.snd.snd.snd.snd.snd.snd.snd.snd.snd.snd.snd.fst,
      x.snd.snd.snd.snd.snd.snd.snd.snd.snd.snd.snd.snd.snd.fst, x.snd.snd.snd.snd.snd.snd.snd.snd.snd.snd.snd.snd.snd.snd.fst,
      x.snd.snd.snd.snd.snd.snd.snd.snd.snd.snd.snd.snd.snd.snd.snd.fst,
      x.snd.snd.snd.snd.snd.snd.snd.snd.snd.snd.snd.snd.snd.snd.snd.snd.fst,
      x.snd.snd.snd.snd.snd.snd.snd.snd.snd.snd.snd.snd.snd.snd.snd.snd.snd.fst,
      x.snd.snd.snd.snd.snd.snd.snd.snd.snd.snd.snd.snd.snd.snd.snd.snd.snd.snd.fst,
      x.snd.snd.snd.snd.snd.snd.snd.snd.snd.snd.snd.snd.snd.snd.snd.snd.snd.snd.snd.fst,
      x.snd.snd.snd.snd.snd.snd.snd.snd.snd.snd.snd.snd.snd.snd.snd.snd.snd.snd.snd.snd.fst, ())
else
  bif decide ((↑x.snd.snd.snd.snd.snd.snd.fst.length : Int) > (32 : Int)) then
    some
      ((0 : Int), (0 : Int), (0 : Int), false, [], (1 : Int), x.snd.snd.snd.snd.snd.snd.snd.snd.fst,
        x.snd.snd.snd.snd.snd.snd.snd.snd.snd.fst, x.snd.snd.snd.snd.snd.snd.snd.snd.snd.snd.fst,
        x.snd.snd.snd.snd.snd.snd.snd.snd.snd.snd.snd.fst, x.snd.snd.snd.snd.snd.snd.snd.snd.snd.snd.snd.snd.fst,
        x.snd.snd.snd.snd.snd.snd.snd.snd.snd.snd.snd.snd.snd.fst, x.snd.snd.snd.snd.snd.snd.snd.snd.snd.snd.snd.snd.snd.snd.fst,
        x.snd.snd.snd.snd.snd.snd.snd.snd.snd.snd.snd.snd.snd.snd.snd.fst,
        x.snd.snd.snd.snd.snd.snd.snd.snd.snd.snd.snd.snd.snd.snd.snd.snd.fst,
        x.snd.snd.snd.snd.snd.snd.snd.snd.snd.snd.snd.snd.snd.snd.snd.snd.snd.fst,
        x.snd.snd.snd.snd.snd.snd.snd.snd.snd.snd.snd.snd.snd.snd.snd.snd.snd.snd.fst,
        x.snd.snd.snd.snd.snd.snd.snd.snd.snd.snd.snd.snd.snd.snd.snd.snd.snd.snd.snd.fst,
        x.snd.snd.snd.snd.snd.snd.snd.snd.snd.snd.snd.snd.snd.snd.snd.snd.snd.snd.snd.snd.fst, ())
  else
    (f30 (x.snd.snd.snd.snd.snd.snd.fst, ())).bind fun y143 =>
      bif y143.fst then
        some
          ((0 : Int), (0 : Int), (0 : Int), false, [], (1 : Int), x.snd.snd.snd.snd.snd.snd.snd.snd.fst,
            x.snd.snd.snd.snd.snd.snd.snd.snd.snd.fst, x.snd.snd.snd.snd.snd.snd.snd.snd.snd.snd.fst,
            x.snd.snd.snd.snd.snd.snd.snd.snd.snd.snd.snd.fst, x.snd.snd.snd.snd.snd.snd.snd.snd.snd.snd.snd.snd.fst,
            x.snd.snd.snd.snd.snd.snd.snd.snd.snd.snd.snd.snd.snd.fst, x.snd.snd.snd.snd.snd.snd.snd.snd.snd.snd.snd.snd.snd.snd.fst,
            x.snd.snd.snd.snd.snd.snd.snd.snd.snd.snd.snd.snd.snd.snd.snd.fst,
            x.snd.snd.snd.snd.snd.snd.snd.snd.snd.snd.snd.snd.snd.snd.snd.snd.fst,
            x.snd.snd.snd.snd.snd.snd.snd.snd.snd.snd.snd.snd.snd.snd.snd.snd.snd.fst,
            x.snd.snd.snd.snd.snd.snd.snd.snd.snd.snd.snd.snd.snd.snd.snd.snd.snd.snd.fst,
            x.snd.snd.snd.snd.snd.snd.snd.snd.snd.snd.snd.snd.snd.snd.snd.snd.snd.snd.snd.fst,
            x.snd.snd.snd.snd.snd.snd.snd.snd.snd.snd.snd.snd.snd.snd.snd.snd.snd.snd.snd.snd.fst, ())
      else
        bif decide ((0 : Nat) + x.snd.snd.snd.snd.snd.snd.snd.snd.snd.snd.snd.fst ≤ x.snd.snd.snd.snd.snd.snd.snd.snd.fst.length) then
          (f33
                (x.snd.snd.snd.snd.snd.snd.snd.snd.snd.fst, x.snd.snd.snd.snd.snd.snd.snd.snd.snd.snd.fst,
                  List.take x.snd.snd.snd.snd.snd.snd.snd.snd.snd.snd.snd.fst (List.drop (0 : Nat) x.snd.snd.snd.snd.snd.snd.snd.snd.fst),
                  x.snd.snd.snd.snd.snd.snd.snd.snd.snd.snd.snd.snd.snd.snd.snd.snd.fst,
                  x.snd.snd.snd.snd.snd.snd.snd.snd.snd.snd.snd.snd.snd.snd.snd.snd.snd.fst,
                  x.snd.snd.snd.snd.snd.snd.snd.snd.snd.snd.snd.snd.snd.snd.snd.snd.snd.snd.fst, x.fst, x.snd.fst,
                  (f32 x.snd.snd.snd.snd.snd.snd.snd.snd.snd.snd.snd.snd.fst x.snd.snd.snd.snd.snd.snd.snd.snd.snd.snd.snd.snd.snd.fst
                      x.snd.snd.snd.snd.snd.snd.snd.snd.snd.snd.snd.snd.snd.snd.fst
                      x.snd.snd.snd.snd.snd.snd.snd.snd.snd.snd.snd.snd.snd.snd.snd.fst x.snd.snd.fst x.snd.snd.snd.fst
                      x.snd.snd.snd.snd.fst x.snd.snd.snd.snd.snd.fst).fst,
                  (f32 x.snd.snd.snd.snd.snd.snd.snd.snd.snd.snd.snd.snd.fst x.snd.snd.snd.snd.snd.snd.snd.snd.snd.snd.snd.snd.snd.fst
                        x.snd.snd.snd.snd.snd.snd.snd.snd.snd.snd.snd.snd.snd.snd.fst
                        x.snd.snd.snd.snd.snd.snd.snd.snd.snd.snd.snd.snd.snd.snd.snd.fst x.snd.snd.fst x.snd.snd.snd.fst
                        x.snd.snd.snd.snd.fst x.snd.snd.snd.snd.snd.fst).snd.fst,
                  (f32 x.snd.snd.snd.snd.snd.snd.snd.snd.snd.snd.snd.snd.fst x.snd.snd.snd.snd.snd.snd.snd.snd.snd.snd.snd.snd.snd.fst
                          x.snd.snd.snd.snd.snd.snd.snd.snd.snd.snd.snd.snd.snd.snd.fst
                          x.snd.snd.snd.snd.snd.snd.snd.snd.snd.snd.snd.snd.snd.snd.snd.fst x.snd.snd.fst x.snd.snd.snd.fst
                          x.snd.snd.snd.snd.fst x.snd.snd.snd.snd.snd.fst).snd.snd.fst,
                  (f32 x.snd.snd.snd.snd.snd.snd.snd.snd.snd.snd.snd.snd.fst x.snd.snd.snd.snd.snd.snd.snd.snd.snd.snd.snd.snd.snd.fst
                            x.snd.snd.snd.snd.snd.snd.snd.snd.snd.snd.snd.snd.snd.snd.fst
                            x.snd.snd.snd.snd.snd.snd.snd.snd.snd.snd.snd.snd.snd.snd.snd.fst x.snd.snd.fst x.snd.snd.snd.fst
                            x.snd.snd.snd.snd.fst x.snd.snd.snd.snd.snd.fst).snd.snd.snd.fst,
                  ())).bind
            fun y142 =>
            bif y142.snd.snd.snd.fst then
              (j14_28
                    (y142.snd.snd.snd.fst, x.snd.snd.snd.snd.snd.snd.snd.snd.fst, x.snd.snd.snd.snd.snd.snd.snd.snd.snd.fst,
                      x.snd.snd.snd.snd.snd.snd.snd.snd.snd.snd.fst, x.snd.snd.snd.snd.snd.snd.snd.snd.snd.snd.snd.fst,
                      x.snd.snd.snd.snd.snd.snd.snd.snd.snd.snd.snd.snd.fst, x.snd.snd.snd.snd.snd.snd.snd.snd.snd.snd.snd.snd.snd.fst,
                      x.snd.snd.snd.snd.snd.snd.snd.snd.snd.snd.snd.snd.snd.snd.fst,
                      x.snd.snd.snd.snd.snd.snd.snd.snd.snd.snd.snd.snd.snd.snd.snd.fst, y142.fst, y142.snd.fst, y142.snd.snd.fst,
                      IntKind.i64.wrap (x.snd.snd.snd.snd.snd.snd.snd.snd.snd.snd.snd.snd.snd.snd.snd.snd.snd.snd.snd.fst + (1 : Int)),
                      IntKind.i64.wrap (x.snd.snd.snd.snd.snd.snd.snd.snd.snd.snd.snd.snd.snd.snd.snd.snd.snd.snd.snd.snd.fst + (1 : Int)),
                      x.fst, x.snd.fst, x.snd.snd.fst, x.snd.snd.snd.fst, x.snd.snd.snd.snd.fst, x.snd.snd.snd.snd.snd.fst,
                      x.snd.snd.snd.snd.snd.snd.fst, x.snd.snd.snd.snd.snd.snd.snd.fst, (0 : Int), (0 : Int), (0 : Int), false, y142.fst,
                      y142.snd.fst, y142.snd.snd.fst, ())).bind
                fun y140 =>
                bif
                    decide
                      ((0 : Nat) + y140.snd.snd.snd.snd.snd.snd.snd.snd.snd.snd.snd.snd.snd.snd.snd.snd.snd.snd.fst ≤
                        y140.snd.snd.snd.snd.snd.snd.snd.snd.snd.snd.snd.snd.snd.snd.snd.snd.snd.snd.snd.fst.length) then
                  some
                    (y140.snd.snd.snd.snd.snd.snd.snd.snd.snd.snd.snd.snd.snd.snd.fst,
                      y140.snd.snd.snd.snd.snd.snd.snd.snd.snd.snd.snd.snd.snd.snd.snd.fst,
                      y140.snd.snd.snd.snd.snd.snd.snd.snd.snd.snd.snd.snd.snd.snd.snd.snd.fst,
                      y140.snd.snd.snd.snd.snd.snd.snd.snd.snd.snd.snd.snd.snd.snd.snd.snd.snd.fst,
                      List.take y140.snd.snd.snd.snd.snd.snd.snd.snd.snd.snd.snd.snd.snd.snd.snd.snd.snd.snd.fst
                        (List.drop (0 : Nat) y140.snd.snd.snd.snd.snd.snd.snd.snd.snd.snd.snd.snd.snd.snd.snd.snd.snd.snd.snd.fst),
                      y140.fst, y140.snd.fst, y140.snd.snd.fst, y140.snd.snd.snd.fst, y140.snd.snd.snd.snd.fst,
                      y140.snd.snd.snd.snd.snd.fst, y140.snd.snd.snd.snd.snd.snd.fst, y140.snd.snd.snd.snd.snd.snd.snd.fst,
                      y140.snd.snd.snd.snd.snd.snd.snd.snd.fst, y140.snd.snd.snd.snd.snd.snd.snd.snd.snd.fst,
                      y140.snd.snd.snd.snd.snd.snd.snd.snd.snd.snd.fst, y140.snd.snd.snd.snd.snd.snd.snd.snd.snd.snd.snd.fst,
                      y140.snd.snd.snd.snd.snd.snd.snd.snd.snd.snd.snd.snd.fst,
                      y140.snd.snd.snd.snd.snd.snd.snd.snd.snd.snd.snd.snd.snd.fst, ())
                else none
            else
              (j14_28
                    (y142.snd.snd.snd.fst, x.snd.snd.snd.snd.snd.snd.snd.snd.fst, x.snd.snd.snd.snd.snd.snd.snd.snd.snd.fst,
                      x.snd.snd.snd.snd.snd.snd.snd.snd.snd.snd.fst, x.snd.snd.snd.snd.snd.snd.snd.snd.snd.snd.snd.fst,
                      x.snd.snd.snd.snd.snd.snd.snd.snd.snd.snd.snd.snd.fst, x.snd.snd.snd.snd.snd.snd.snd.snd.snd.snd.snd.snd.snd.fst,
                      x.snd.snd.snd.snd.snd.snd.snd.snd.snd.snd.snd.snd.snd.snd.fst,
                      x.snd.snd.snd.snd.snd.snd.snd.snd.snd.snd.snd.snd.snd.snd.snd.fst, y142.fst, y142.snd.fst, y142.snd.snd.fst,
                      IntKind.i64.wrap (x.snd.snd.snd.snd.snd.snd.snd.snd.snd.snd.snd.snd.snd.snd.snd.snd.snd.snd.snd.fst + (1 : Int)),
                      x.snd.snd.snd.snd.snd.snd.snd.snd.snd.snd.snd.snd.snd.snd.snd.snd.snd.snd.snd.snd.fst, x.fst, x.snd.fst,
                      x.snd.snd.fst, x.snd.snd.snd.fst, x.snd.snd.snd.snd.fst, x.snd.snd.snd.snd.snd.fst, x.snd.snd.snd.snd.snd.snd.fst,
                      x.snd.snd.snd.snd.snd.snd.snd.fst, (0 : Int), (0 : Int), (0 : Int), false, y142.fst, y142.snd.fst, y142.snd.snd.fst,
                      ())).bind
                fun y141 =>
                bif
                    decide
                      ((0 : Nat) + y141.snd.snd.snd.snd.snd.snd.snd.snd.snd.snd.snd.snd.snd.snd.snd.snd.snd.snd.fst ≤
                        y141.snd.snd.snd.snd.snd.snd.snd.snd.snd.snd.snd.snd.snd.snd.snd.snd.snd.snd.snd.fst.length) then
                  some
                    (y141.snd.snd.snd.snd.snd.snd.snd.snd.snd.snd.snd.snd.snd.snd.fst,
                      y141.snd.snd.snd.snd.snd.snd.snd.snd.snd.snd.snd.snd.snd.snd.snd.fst,
                      y141.snd.snd.snd.snd.snd.snd.snd.snd.snd.snd.snd.snd.snd.snd.snd.snd.fst,
                      y141.snd.snd.snd.snd.snd.snd.snd.snd.snd.snd.snd.snd.snd.snd.snd.snd.snd.fst,
                      List.take y141.snd.snd.snd.snd.snd.snd.snd.snd.snd.snd.snd.snd.snd.snd.snd.snd.snd.snd.fst
                        (List.drop (0 : Nat) y141.snd.snd.snd.snd.snd.snd.snd.snd.snd.snd.snd.snd.snd.snd.snd.snd.snd.snd.snd.fst),
                      y141.fst, y141.snd.fst, y141.snd.snd.fst, y141.snd.snd.snd.fst, y141.snd.snd.snd.snd.fst,
                      y141.snd.snd.snd.snd.snd.fst, y141.snd.snd.snd.snd.snd.snd.fst, y141.snd.snd.snd.snd.snd.snd.snd.fst,
                      y141.snd.snd.snd.snd.snd.snd.snd.snd.fst, y141.snd.snd.snd.snd.snd.snd.snd.snd.snd.fst,
                      y141.snd.snd.snd.snd.snd.snd.snd.snd.snd.snd.fst, y141.snd.snd.snd.snd.snd.snd.snd.snd.snd.snd.snd.fst,
                      y141.snd.snd.snd.snd.snd.snd.snd.snd.snd.snd.snd.snd.fst,
                      y141.snd.snd.snd.snd.snd.snd.snd.snd.snd.snd.snd.snd.snd.fst, ())
                else none
        else none
noncomputable def F14 : CF tC := mkF tC S14 f14
theorem f14_run : ∀ a, fnS tC G14 (look [(28, W14_28)]) Tryz.f14 S14 a = f14 a := fun a => by kernel_rfl
theorem F14_ok : CFOK tC 14 F14 := mkF_ok Y14 (fn := Tryz.f14) (body := bodyOf Tryz.f14) (by kernel_rfl) (by kernel_rfl) (by kernel_rfl) (m := 2) rfl (lam_le (lam_cons W14_28_ok lam_nil)) f14_run

/-! robot.Pose -/
noncomputable def G15 : FuncId → Option (CF tC) := look []
theorem Y15 : SysN tC G15 := (sys_nil tC_ok tC_eq)
def S15 : FS := ⟨[[.p]], [⟨[.one (.one (.ptr 1 0 0))], [.arr 5, .box [.int .i64, .int .i64, .sl 0, .int .i64, .int .i64, .int .i64, .int .i64, .int .i64, .int .i64, .int .i64, .int .i64, .int .i64]]⟩], [⟨[.one (.agg [.int .i64, .int .i64, .int .i64])], [.arr 5, .box [.int .i64, .int .i64, .sl 0, .int .i64, .int .i64, .int .i64, .int .i64, .int .i64, .int .i64, .int .i64, .int .i64, .int .i64]]⟩], [[.v, .v, .v]], []⟩
def f15 (l1 : List Int) (n2 : Int) (n3 : Int) (k4 : Nat) (n5 : Int) (n6 : Int) (n7 : Int) (n8 : Int) (n9 : Int) (n10 : Int) (n11 : Int) (n12 : Int) (n13 : Int) : Int × Int × Int × List Int × Int × Int × Nat × Int × Int × Int × Int × Int × Int × Int × Int × Int :=
  (n9, n10, n11, l1, n2, n3, k4, n5, n6, n7, n8, n9, n10, n11, n12, n13)
noncomputable def F15 : CF tC := mkF tC S15 (fun a => some ((f15 a.1 a.2.1 a.2.2.1 a.2.2.2.1 a.2.2.2.2.1 a.2.2.2.2.2.1 a.2.2.2.2.2.2.1 a.2.2.2.2.2.2.2.1 a.2.2.2.2.2.2.2.2.1 a.2.2.2.2.2.2.2.2.2.1 a.2.2.2.2.2.2.2.2.2.2.1 a.2.2.2.2.2.2.2.2.2.2.2.1 a.2.2.2.2.2.2.2.2.2.2.2.2.1).1, (f15 a.1 a.2.1 a.2.2.1 a.2.2.2.1 a.2.2.2.2.1 a.2.2.2.2.2.1 a.2.2.2.2.2.2.1 a.2.2.2.2.2.2.2.1 a.2.2.2.2.2.2.2.2.1 a.2.2.2.2.2.2.2.2.2.1 a.2.2.2.2.2.2.2.2.2.2.1 a.2.2.2.2.2.2.2.2.2.2.2.1 a.2.2.2.2.2.2.2.2.2.2.2.2.1).2.1, (f15 a.1 a.2.1 a.2.2.1 a.2.2.2.1 a.2.2.2.2.1 a.2.2.2.2.2.1 a.2.2.2.2.2.2.1 a.2.2.2.2.2.2.2.1 a.2.2.2.2.2.2.2.2.1 a.2.2.2.2.2.2.2.2.2.1 a.2.2.2.2.2.2.2.2.2.2.1 a.2.2.2.2.2.2.2.2.2.2.2.1 a.2.2.2.2.2.2.2.2.2.2.2.2.1).2.2.1, (f15 a.1 a.2.1 a.2.2.1 a.2.2.2.1 a.2.2.2.2.1 a.2.2.2.2.2.1 a.2.2.2.2.2.2.1 a.2.2.2.2.2.2.2.1 a.2.2.2.2.2.2.2.2.1 a.2.2.2.2.2.2.2.2.2.1 a.2.2.2.2.2.2.2.2.2.2.1 a.2.2.2.2.2.2.2.2.2.2.2.1 a.2.2.2.2.2.2.2.2.2.2.2.2.1).2.2.2.1, (f15 a.1 a.2.1 a.2.2.1 a.2.2.2.1 a.2.2.2.2.1 a.2.2.2.2.2.1 a.2.2.2.2.2.2.1 a.2.2.2.2.2.2.2.1 a.2.2.2.2.2.2.2.2.1 a.2.2.2.2.2.2.2.2.2.1 a.2.2.2.2.2.2.2.2.2.2.1 a.2.2.2.2.2.2.2.2.2.2.2.1 a.2.2.2.2.2.2.2.2.2.2.2.2.1).2.2.2.2.1, (f15 a.1 a.2.1 a.2.2.1 a.2.2.2.1 a.2.2.2.2.1 a.2.2.2.2.2.1 a.2.2.2.2.2.2.1 a.2.2.2.2.2.2.2.1 a.2.2.2.2.2.2.2.2.1 a.2.2.2.2.2.2.2.2.2.1 a.2.2.2.2.2.2.2.2.2.2.1 a.2.2.2.2.2.2.2.2.2.2.2.1 a.2.2.2.2.2.2.2.2.2.2.2.2.1).2.2.2.2.2.1, (f15 a.1 a.2.1 a.2.2.1 a.2.2.2.1 a.2.2.2.2.1 a.2.2.2.2.2.1 a.2.2.2.2.2.2.1 a.2.2.2.2.2.2.2.1 a.2.2.2.2.2.2.2.2.1 a.2.2.2.2.2.2.2.2.2.1 a.2.2.2.2.2.2.2.2.2.2.1 a.2.2.2.2.2.2.2.2.2.2.2.1 a.2.2.2.2.2.2.2.2.2.2.2.2.1).2.2.2.2.2.2.1, (f15 a.1 a.2.1 a.2.2.1 a.2.2.2.1 a.2.2.2.2.1 a.2.2.2.2.2.1 a.2.2.2.2.2.2.1 a.2.2.2.2.2.2.2.1 a.2.2.2.2.2.2.2.2.1 a.2.2.2.2.2.2.2.2.2.1 a.2.2.2.2.2.2.2.2.2.2.1 a.2.2.2.2.2.2.2.2.2.2.2.1 a.2.2.2.2.2.2.2.2.2.2.2.2.1).2.2.2.2.2.2.2.1, (f15 a.1 a.2.1 a.2.2.1 a.2.2.2.1 a.2.2.2.2.1 a.2.2.2.2.2.1 a.2.2.2.2.2.2.1 a.2.2.2.2.2.2.2.1 a.2.2.2.2.2.2.2.2.1 a.2.2.2.2.2.2.2.2.2.1 a.2.2.2.2.2.2.2.2.2.2.1 a.2.2.2.2.2.2.2.2.2.2.2.1 a.2.2.2.2.2.2.2.2.2.2.2.2.1).2.2.2.2.2.2.2.2.1, (f15 a.1 a.2.1 a.2.2.1 a.2.2.2.1 a.2.2.2.2.1 a.2.2.2.2.2.1 a.2.2.2.2.2.2.1 a.2.2.2.2.2.2.2.1 a.2.2.2.2.2.2.2.2.1 a.2.2.2.2.2.2.2.2.2.1 a.2.2.2.2.2.2.2.2.2.2.1 a.2.2.2.2.2.2.2.2.2.2.2.1 a.2.2.2.2.2.2.2.2.2.2.2.2.1).2.2.2.2.2.2.2.2.2.1, (f15 a.1 a.2.1 a.2.2.1 a.2.2.2.1 a.2.2.2.2.1 a.2.2.2.2.2.1 a.2.2.2.2.2.2.1 a.2.2.2.2.2.2.2.1 a.2.2.2.2.2.2.2.2.1 a.2.2.2.2.2.2.2.2.2.1 a.2.2.2.2.2.2.2.2.2.2.1 a.2.2.2.2.2.2.2.2.2.2.2.1 a.2.2.2.2.2.2.2.2.2.2.2.2.1).2.2.2.2.2.2.2.2.2.2.1, (f15 a.1 a.2.1 a.2.2.1 a.2.2.2.1 a.2.2.2.2.1 a.2.2.2.2.2.1 a.2.2.2.2.2.2.1 a.2.2.2.2.2.2.2.1 a.2.2.2.2.2.2.2.2.1 a.2.2.2.2.2.2.2.2.2.1 a.2.2.2.2.2.2.2.2.2.2.1 a.2.2.2.2.2.2.2.2.2.2.2.1 a.2.2.2.2.2.2.2.2.2.2.2.2.1).2.2.2.2.2.2.2.2.2.2.2.1, (f15 a.1 a.2.1 a.2.2.1 a.2.2.2.1 a.2.2.2.2.1 a.2.2.2.2.2.1 a.2.2.2.2.2.2.1 a.2.2.2.2.2.2.2.1 a.2.2.2.2.2.2.2.2.1 a.2.2.2.2.2.2.2.2.2.1 a.2.2.2.2.2.2.2.2.2.2.1 a.2.2.2.2.2.2.2.2.2.2.2.1 a.2.2.2.2.2.2.2.2.2.2.2.2.1).2.2.2.2.2.2.2.2.2.2.2.2.1, (f15 a.1 a.2.1 a.2.2.1 a.2.2.2.1 a.2.2.2.2.1 a.2.2.2.2.2.1 a.2.2.2.2.2.2.1 a.2.2.2.2.2.2.2.1 a.2.2.2.2.2.2.2.2.1 a.2.2.2.2.2.2.2.2.2.1 a.2.2.2.2.2.2.2.2.2.2.1 a.2.2.2.2.2.2.2.2.2.2.2.1 a.2.2.2.2.2.2.2.2.2.2.2.2.1).2.2.2.2.2.2.2.2.2.2.2.2.2.1, (f15 a.1 a.2.1 a.2.2.1 a.2.2.2.1 a.2.2.2.2.1 a.2.2.2.2.2.1 a.2.2.2.2.2.2.1 a.2.2.2.2.2.2.2.1 a.2.2.2.2.2.2.2.2.1 a.2.2.2.2.2.2.2.2.2.1 a.2.2.2.2.2.2.2.2.2.2.1 a.2.2.2.2.2.2.2.2.2.2.2.1 a.2.2.2.2.2.2.2.2.2.2.2.2.1).2.2.2.2.2.2.2.2.2.2.2.2.2.2.1, (f15 a.1 a.2.1 a.2.2.1 a.2.2.2.1 a.2.2.2.2.1 a.2.2.2.2.2.1 a.2.2.2.2.2.2.1 a.2.2.2.2.2.2.2.1 a.2.2.2.2.2.2.2.2.1 a.2.2.2.2.2.2.2.2.2.1 a.2.2.2.2.2.2.2.2.2.2.1 a.2.2.2.2.2.2.2.2.2.2.2.1 a.2.2.2.2.2.2.2.2.2.2.2.2.1).2.2.2.2.2.2.2.2.2.2.2.2.2.2.2, ()))
def h15 (r : Int × Int × Int × List Int × Int × Int × Nat × Int × Int × Int × Int × Int × Int × Int × Int × Int) : Option (altTy tE S15.outs) := some (r.1, r.2.1, r.2.2.1, r.2.2.2.1, r.2.2.2.2.1, r.2.2.2.2.2.1, r.2.2.2.2.2.2.1, r.2.2.2.2.2.2.2.1, r.2.2.2.2.2.2.2.2.1, r.2.2.2.2.2.2.2.2.2.1, r.2.2.2.2.2.2.2.2.2.2.1, r.2.2.2.2.2.2.2.2.2.2.2.1, r.2.2.2.2.2.2.2.2.2.2.2.2.1, r.2.2.2.2.2.2.2.2.2.2.2.2.2.1, r.2.2.2.2.2.2.2.2.2.2.2.2.2.2.1, r.2.2.2.2.2.2.2.2.2.2.2.2.2.2.2, ())
theorem f15_run : ∀ a, fnS tC G15 (look []) Tryz.f15 S15 a = (fun a => some ((f15 a.1 a.2.1 a.2.2.1 a.2.2.2.1 a.2.2.2.2.1 a.2.2.2.2.2.1 a.2.2.2.2.2.2.1 a.2.2.2.2.2.2.2.1 a.2.2.2.2.2.2.2.2.1 a.2.2.2.2.2.2.2.2.2.1 a.2.2.2.2.2.2.2.2.2.2.1 a.2.2.2.2.2.2.2.2.2.2.2.1 a.2.2.2.2.2.2.2.2.2.2.2.2.1).1, (f15 a.1 a.2.1 a.2.2.1 a.2.2.2.1 a.2.2.2.2.1 a.2.2.2.2.2.1 a.2.2.2.2.2.2.1 a.2.2.2.2.2.2.2.1 a.2.2.2.2.2.2.2.2.1 a.2.2.2.2.2.2.2.2.2.1 a.2.2.2.2.2.2.2.2.2.2.1 a.2.2.2.2.2.2.2.2.2.2.2.1 a.2.2.2.2.2.2.2.2.2.2.2.2.1).2.1, (f15 a.1 a.2.1 a.2.2.1 a.2.2.2.1 a.2.2.2.2.1 a.2.2.2.2.2.1 a.2.2.2.2.2.2.1 a.2.2.2.2.2.2.2.1 a.2.2.2.2.2.2.2.2.1 a.2.2.2.2.2.2.2.2.2.1 a.2.2.2.2.2.2.2.2.2.2.1 a.2.2.2.2.2.2.2.2.2.2.2.1 a.2.2.2.2.2.2.2.2.2.2.2.2.1).2.2.1, (f15 a.1 a.2.1 a.2.2.1 a.2.2.2.1 a.2.2.2.2.1 a.2.2.2.2.2.1 a.2.2.2.2.2.2.1 a.2.2.2.2.2.2.2.1 a.2.2.2.2.2.2.2.2.1 a.2.2.2.2.2.2.2.2.2.1 a.2.2.2.2.2.2.2.2.2.2.1 a.2.2.2.2.2.2.2.2.2.2.2.1 a.2.2.2.2.2.2.2.2.2.2.2.2.1).2.2.2.1, (f15 a.1 a.2.1 a.2.2.1 a.2.2.2.1 a.2.2.2.2.1 a.2.2.2.2.2.1 a.2.2.2.2.2.2.1 a.2.2.2.2.2.2.2.1 a.2.2.2.2.2.2.2.2.1 a.2.2.2.2.2.2.2.2.2.1 a.2.2.2.2.2.2.2.2.2.2.1 a.2.2.2.2.2.2.2.2.2.2.2.1 a.2.2.2.2.2.2.2.2.2.2.2.2.1).2.2.2.2.1, (f15 a.1 a.2.1 a.2.2.1 a.2.2.2.1 a.2.2.2.2.1 a.2.2.2.2.2.1 a.2.2.2.2.2.2.1 a.2.2.2.2.2.2.2.1 a.2.2.2.2.2.2.2.2.1 a.2.2.2.2.2.2.2.2.2.1 a.2.2.2.2.2.2.2.2.2.2.1 a.2.2.2.2.2.2.2.2.2.2.2.1 a.2.2.2.2.2.2.2.2.2.2.2.2.1).2.2.2.2.2.1, (f15 a.1 a.2.1 a.2.2.1 a.2.2.2.1 a.2.2.2.2.1 a.2.2.2.2.2.1 a.2.2.2.2.2.2.1 a.2.2.2.2.2.2.2.1 a.2.2.2.2.2.2.2.2.1 a.2.2.2.2.2.2.2.2.2.1 a.2.2.2.2.2.2.2.2.2.2.1 a.2.2.2.2.2.2.2.2.2.2.2.1 a.2.2.2.2.2.2.2.2.2.2.2.2.1).2.2.2.2.2.2.1, (f15 a.1 a.2.1 a.2.2.1 a.2.2.2.1 a.2.2.2.2.1 a.2.2.2.2.2.1 a.2.2.2.2.2.2.1 a.2.2.2.2.2.2.2.1 a.2.2.2.2.2.2.2.2.1 a.2.2.2.2.2.2.2.2.2.1 a.2.2.2.2.2.2.2.2.2.2.1 a.2.2.2.2.2.2.2.2.2.2.2.1 a.2.2.2.2.2.2.2.2.2.2.2.2.1).2.2.2.2.2.2.2.1, (f15 a.1 a.2.1 a.2.2.1 a.2.2.2.1 a.2.2.2.2.1 a.2.2.2.2.2.1 a.2.2.2.2.2.2.1 a.2.2.2.2.2.2.2.1 a.2.2.2.2.2.2.2.2.1 a.2.2.2.2.2.2.2.2.2.1 a.2.2.2.2.2.2.2.2.2.2.1 a.2.2.2.2.2.2.2.2.2.2.2.1 a.2.2.2.2.2.2.2.2.2.2.2.2.1).2.2.2.2.2.2.2.2.1, (f15 a.1 a.2.1 a.2.2.1 a.2.2.2.1 a.2.2.2.2.1 a.2.2.2.2.2.1 a.2.2.2.2.2.2.1 a.2.2.2.2.2.2.2.1 a.2.2.2.2.2.2.2.2.1 a.2.2.2.2.2.2.2.2.2.1 a.2.2.2.2.2.2.2.2.2.2.1 a.2.2.2.2.2.2.2.2.2.2.2.1 a.2.2.2.2.2.2.2.2.2.2.2.2.1).2.2.2.2.2.2.2.2.2.1, (f15 a.1 a.2.1 a.2.2.1 a.2.2.2.1 a.2.2.2.2.1 a.2.2.2.2.2.1 a.2.2.2.2.2.2.1 a.2.2.2.2.2.2.2.1 a.2.2.2.2.2.2.2.2.1 a.2.2.2.2.2.2.2.2.2.1 a.2.2.2.2.2.2.2.2.2.2.1 a.2.2.2.2.2.2.2.2.2.2.2.1 a.2.2.2.2.2.2.2.2.2.2.2.2.1).2.2.2.2.2.2.2.2.2.2.1, (f15 a.1 a.2.1 a.2.2.1 a.2.2.2.1 a.2.2.2.2.1 a.2.2.2.2.2.1 a.2.2.2.2.2.2.1 a.2.2.2.2.2.2.2.1 a.2.2.2.2.2.2.2.2.1 a.2.2.2.2.2.2.2.2.2.1 a.2.2.2.2.2.2.2.2.2.2.1 a.2.2.2.2.2.2.2.2.2.2.2.1 a.2.2.2.2.2.2.2.2.2.2.2.2.1).2.2.2.2.2.2.2.2.2.2.2.1, (f15 a.1 a.2.1 a.2.2.1 a.2.2.2.1 a.2.2.2.2.1 a.2.2.2.2.2.1 a.2.2.2.2.2.2.1 a.2.2.2.2.2.2.2.1 a.2.2.2.2.2.2.2.2.1 a.2.2.2.2.2.2.2.2.2.1 a.2.2.2.2.2.2.2.2.2.2.1 a.2.2.2.2.2.2.2.2.2.2.2.1 a.2.2.2.2.2.2.2.2.2.2.2.2.1).2.2.2.2.2.2.2.2.2.2.2.2.1, (f15 a.1 a.2.1 a.2.2.1 a.2.2.2.1 a.2.2.2.2.1 a.2.2.2.2.2.1 a.2.2.2.2.2.2.1 a.2.2.2.2.2.2.2.1 a.2.2.2.2.2.2.2.2.1 a.2.2.2.2.2.2.2.2.2.1 a.2.2.2.2.2.2.2.2.2.2.1 a.2.2.2.2.2.2.2.2.2.2.2.1 a.2.2.2.2.2.2.2.2.2.2.2.2.1).2.2.2.2.2.2.2.2.2.2.2.2.2.1, (f15 a.1 a.2.1 a.2.2.1 a.2.2.2.1 a.2.2.2.2.1 a.2.2.2.2.2.1 a.2.2.2.2.2.2.1 a.2.2.2.2.2.2.2.1 a.2.2.2.2.2.2.2.2.1 a.2.2.2.2.2.2.2.2.2.1 a.2.2.2.2.2.2.2.2.2.2.1 a.2.2.2.2.2.2.2.2.2.2.2.1 a.2.2.2.2.2.2.2.2.2.2.2.2.1).2.2.2.2.2.2.2.2.2.2.2.2.2.2.1, (f15 a.1 a.2.1 a.2.2.1 a.2.2.2.1 a.2.2.2.2.1 a.2.2.2.2.2.1 a.2.2.2.2.2.2.1 a.2.2.2.2.2.2.2.1 a.2.2.2.2.2.2.2.2.1 a.2.2.2.2.2.2.2.2.2.1 a.2.2.2.2.2.2.2.2.2.2.1 a.2.2.2.2.2.2.2.2.2.2.2.1 a.2.2.2.2.2.2.2.2.2.2.2.2.1).2.2.2.2.2.2.2.2.2.2.2.2.2.2.2, ())) a := fun a => by
  have key : ∀ (l1 : List Int) (n2 : Int) (n3 : Int) (k4 : Nat) (n5 : Int) (n6 : Int) (n7 : Int) (n8 : Int) (n9 : Int) (n10 : Int) (n11 : Int) (n12 : Int) (n13 : Int), (h15 (n9, n10, n11, l1, n2, n3, k4, n5, n6, n7, n8, n9, n10, n11, n12, n13)) = h15 (f15 l1 n2 n3 k4 n5 n6 n7 n8 n9 n10 n11 n12 n13) := by
    intros
    unfold f15
    repeat' first | rfl | refine cond_h (g := h15) ?_ ?_
  exact Eq.trans (by kernel_rfl) (key a.1 a.2.1 a.2.2.1 a.2.2.2.1 a.2.2.2.2.1 a.2.2.2.2.2.1 a.2.2.2.2.2.2.1 a.2.2.2.2.2.2.2.1 a.2.2.2.2.2.2.2.2.1 a.2.2.2.2.2.2.2.2.2.1 a.2.2.2.2.2.2.2.2.2.2.1 a.2.2.2.2.2.2.2.2.2.2.2.1 a.2.2.2.2.2.2.2.2.2.2.2.2.1)
theorem F15_ok : CFOK tC 15 F15 := mkF_ok Y15 (fn := Tryz.f15) (body := bodyOf Tryz.f15) (by kernel_rfl) (by kernel_rfl) (by kernel_rfl) (m := 2) rfl (lam_le lam_nil) f15_run

/-! robot.Run -/
noncomputable def G7 : FuncId → Option (CF tC) := look [(13, F13), (14, F14), (15, F15)]
theorem Y7 : SysN tC G7 := (sys_cons F13_ok (mkF_nat _ _) (sys_cons F14_ok (mkF_nat _ _) (sys_cons F15_ok (mkF_nat _ _) (sys_nil tC_ok tC_eq))))
noncomputable def c7_0 : Code := loopOf (bodyOf Tryz.f7) 0
def p7_0 : LS := ⟨0, [11, 13, 14, 29, 30, 31], ⟨vBs 11 ++ [.one (.one (.ptr 0 0 0)), vB, .one (.one (.sl 1)), .one (.one (.sl 2))] ++ vBs 14 ++ [.one (.one (.imm 62)), vI, vI] ++ vBs 24, [.box [.int .i64, .int .i64, .sl 3, .int .i64, .int .i64, .int .i64, .int .i64, .int .i64, .int .i64, .int .i64, .int .i64, .int .i64], .arr 47, .arr 28, .arr 5]⟩, [⟨.ret, [8, 9, 10], ⟨vBs 8 ++ [.one (.one .nils), .one (.one .nils), vI] ++ vBs 45, []⟩, []⟩, ⟨.exit 0, [13, 14], ⟨vBs 13 ++ [.one (.one (.sl 0)), .one (.one (.sl 1))] ++ vBs 41, [.arr 47, .arr 28]⟩, []⟩], [(14, 28), (13, 47)]⟩
noncomputable def r7_0 (x : Nat ×
  Nat × List Ax × Int × Int × Int × Int × Nat × Int × Int × Int × Int × Int × Int × Int × Int × Int × List Ev × List Po × List Int × Unit) : Option
  (Nat ×
      Nat ×
        List Ax × Int × Int × Int × Int × Nat × Int × Int × Int × Int × Int × Int × Int × Int × Int × List Ev × List Po × List Int × Unit ⊕
    Int × Unit ⊕ Nat × Nat × List Ev × List Po × Unit) :=
  bif decide (x.snd.snd.snd.snd.fst < x.snd.snd.snd.fst) then
  (idxO x.snd.snd.fst x.snd.snd.snd.snd.fst).bind fun y107 =>
    bif
        decide
          ((0 : Nat) + x.snd.snd.snd.snd.snd.snd.snd.fst ≤
            x.snd.snd.snd.snd.snd.snd.snd.snd.snd.snd.snd.snd.snd.snd.snd.snd.snd.snd.snd.fst.length) then
      (f14
            (y107.U, y107.F, y107.T, y107.L, y107.X, y107.Y, y107.M, y107.E,
              List.take x.snd.snd.snd.snd.snd.snd.snd.fst
                (List.drop (0 : Nat) x.snd.snd.snd.snd.snd.snd.snd.snd.snd.snd.snd.snd.snd.snd.snd.snd.snd.snd.snd.fst),
              x.snd.snd.snd.snd.snd.fst, x.snd.snd.snd.snd.snd.snd.fst, x.snd.snd.snd.snd.snd.snd.snd.fst,
              x.snd.snd.snd.snd.snd.snd.snd.snd.fst, x.snd.snd.snd.snd.snd.snd.snd.snd.snd.fst,
              x.snd.snd.snd.snd.snd.snd.snd.snd.snd.snd.fst, x.snd.snd.snd.snd.snd.snd.snd.snd.snd.snd.snd.fst,
              x.snd.snd.snd.snd.snd.snd.snd.snd.snd.snd.snd.snd.fst, x.snd.snd.snd.snd.snd.snd.snd.snd.snd.snd.snd.snd.snd.fst,
              x.snd.snd.snd.snd.snd.snd.snd.snd.snd.snd.snd.snd.snd.snd.fst,
              x.snd.snd.snd.snd.snd.snd.snd.snd.snd.snd.snd.snd.snd.snd.snd.fst,
              x.snd.snd.snd.snd.snd.snd.snd.snd.snd.snd.snd.snd.snd.snd.snd.snd.fst, ())).bind
        fun y106 =>
        bif y106.snd.snd.snd.snd.snd.fst != (0 : Int) then some (Sum.inr (Sum.inl (y106.snd.snd.snd.snd.snd.fst, ())))
        else
          bif decide ((0 : Nat) + x.fst ≤ x.snd.snd.snd.snd.snd.snd.snd.snd.snd.snd.snd.snd.snd.snd.snd.snd.snd.fst.length) then
            bif roomy (x.fst + (1 : Nat)) (56 : Nat) then
              bif decide ((0 : Nat) + y106.snd.snd.snd.snd.snd.snd.snd.snd.snd.fst ≤ y106.snd.snd.snd.snd.snd.snd.fst.length) then
                bif
                    decide
                      ((0 : Nat) + x.snd.fst ≤ x.snd.snd.snd.snd.snd.snd.snd.snd.snd.snd.snd.snd.snd.snd.snd.snd.snd.snd.fst.length) then
                  bif roomy (x.snd.fst + (1 : Nat)) (24 : Nat) then
                    some
                      (Sum.inl
                        (x.fst + (1 : Nat), x.snd.fst + (1 : Nat), x.snd.snd.fst, x.snd.snd.snd.fst,
                          IntKind.i64.wrap (x.snd.snd.snd.snd.fst + (1 : Int)),
                          (f15
                                      (List.take y106.snd.snd.snd.snd.snd.snd.snd.snd.snd.fst
                                        (List.drop (0 : Nat) y106.snd.snd.snd.snd.snd.snd.fst))
                                      y106.snd.snd.snd.snd.snd.snd.snd.fst y106.snd.snd.snd.snd.snd.snd.snd.snd.fst
                                      y106.snd.snd.snd.snd.snd.snd.snd.snd.snd.fst y106.snd.snd.snd.snd.snd.snd.snd.snd.snd.snd.fst
                                      y106.snd.snd.snd.snd.snd.snd.snd.snd.snd.snd.snd.fst
                                      y106.snd.snd.snd.snd.snd.snd.snd.snd.snd.snd.snd.snd.fst
                                      y106.snd.snd.snd.snd.snd.snd.snd.snd.snd.snd.snd.snd.snd.fst
                                      y106.snd.snd.snd.snd.snd.snd.snd.snd.snd.snd.snd.snd.snd.snd.fst
                                      y106.snd.snd.snd.snd.snd.snd.snd.snd.snd.snd.snd.snd.snd.snd.snd.fst
                                      y106.snd.snd.snd.snd.snd.snd.snd.snd.snd.snd.snd.snd.snd.snd.snd.snd.fst
                                      y106.snd.snd.snd.snd.snd.snd.snd.snd.snd.snd.snd.snd.snd.snd.snd.snd.snd.fst
                                      y106.snd.snd.snd.snd.snd.snd.snd.snd.snd.snd.snd.snd.snd.snd.snd.snd.snd.snd.fst).snd.snd.snd.snd.fst,
                          (f15
                                        (List.take y106.snd.snd.snd.snd.snd.snd.snd.snd.snd.fst
                                          (List.drop (0 : Nat) y106.snd.snd.snd.snd.snd.snd.fst))
                                        y106.snd.snd.snd.snd.snd.snd.snd.fst y106.snd.snd.snd.snd.snd.snd.snd.snd.fst
                                        y106.snd.snd.snd.snd.snd.snd.snd.snd.snd.fst y106.snd.snd.snd.snd.snd.snd.snd.snd.snd.snd.fst
                                        y106.snd.snd.snd.snd.snd.snd.snd.snd.snd.snd.snd.fst
                                        y106.snd.snd.snd.snd.snd.snd.snd.snd.snd.snd.snd.snd.fst
                                        y106.snd.snd.snd.snd.snd.snd.snd.snd.snd.snd.snd.snd.snd.fst
                                        y106.snd.snd.snd.snd.snd.snd.snd.snd.snd.snd.snd.snd.snd.snd.fst
                                        y106.snd.snd.snd.snd.snd.snd.snd.snd.snd.snd.snd.snd.snd.snd.snd.fst
                                        y106.snd.snd.snd.snd.snd.snd.snd.snd.snd.snd.snd.snd.snd.snd.snd.snd.fst
                                        y106.snd.snd.snd.snd.snd.snd.snd.snd.snd.snd.snd.snd.snd.snd.snd.snd.snd.fst
                                        y106.snd.snd.snd.snd.snd.snd.snd.snd.snd.snd.snd.snd.snd.snd.snd.snd.snd.snd.fst).snd.snd.snd.snd.snd.fst,
                          (f15
                                          (List.take y106.snd.snd.snd.snd.snd.snd.snd.snd.snd.fst
                                            (List.drop (0 : Nat) y106.snd.snd.snd.snd.snd.snd.fst))
                                          y106.snd.snd.snd.snd.snd.snd.snd.fst y106.snd.snd.snd.snd.snd.snd.snd.snd.fst
                                          y106.snd.snd.snd.snd.snd.snd.snd.snd.snd.fst y106.snd.snd.snd.snd.snd.snd.snd.snd.snd.snd.fst
                                          y106.snd.snd.snd.snd.snd.snd.snd.snd.snd.snd.snd.fst
                                          y106.snd.snd.snd.snd.snd.snd.snd.snd.snd.snd.snd.snd.fst
                                          y106.snd.snd.snd.snd.snd.snd.snd.snd.snd.snd.snd.snd.snd.fst
                                          y106.snd.snd.snd.snd.snd.snd.snd.snd.snd.snd.snd.snd.snd.snd.fst
                                          y106.snd.snd.snd.snd.snd.snd.snd.snd.snd.snd.snd.snd.snd.snd.snd.fst
                                          y106.snd.snd.snd.snd.snd.snd.snd.snd.snd.snd.snd.snd.snd.snd.snd.snd.fst
                                          y106.snd.snd.snd.snd.snd.snd.snd.snd.snd.snd.snd.snd.snd.snd.snd.snd.snd.fst
                                          y106.snd.snd.snd.snd.snd.snd.snd.snd.snd.snd.snd.snd.snd.snd.snd.snd.snd.snd.fst).snd.snd.snd.snd.snd.snd.fst,
                          (f15
                                            (List.take y106.snd.snd.snd.snd.snd.snd.snd.snd.snd.fst
                                              (List.drop (0 : Nat) y106.snd.snd.snd.snd.snd.snd.fst))
                                            y106.snd.snd.snd.snd.snd.snd.snd.fst y106.snd.snd.snd.snd.snd.snd.snd.snd.fst
                                            y106.snd.snd.snd.snd.snd.snd.snd.snd.snd.fst y106.snd.snd.snd.snd.snd.snd.snd.snd.snd.snd.fst
                                            y106.snd.snd.snd.snd.snd.snd.snd.snd.snd.snd.snd.fst
                                            y106.snd.snd.snd.snd.snd.snd.snd.snd.snd.snd.snd.snd.fst
                                            y106.snd.snd.snd.snd.snd.snd.snd.snd.snd.snd.snd.snd.snd.fst
                                            y106.snd.snd.snd.snd.snd.snd.snd.snd.snd.snd.snd.snd.snd.snd.fst
                                            y106.snd.snd.snd.snd.snd.snd.snd.snd.snd.snd.snd.snd.snd.snd.snd.fst
                                            y106.snd.snd.snd.snd.snd.snd.snd.snd.snd.snd.snd.snd.snd.snd.snd.snd.fst
                                            y106.snd.snd.snd.snd.snd.snd.snd.snd.snd.snd.snd.snd.snd.snd.snd.snd.snd.fst
                                            y106.snd.snd.snd.snd.snd.snd.snd.snd.snd.snd.snd.snd.snd.snd.snd.snd.snd.snd.fst).snd.snd.snd.snd.snd.snd.snd.fst,
                          (f15
                                              (List.take y106.snd.snd.snd.snd.snd.snd.snd.snd.snd.fst
                                                (List.drop (0 : Nat) y106.snd.snd.snd.snd.snd.snd.fst))
                                              y106.snd.snd.snd.snd.snd.snd.snd.fst y106.snd.snd.snd.snd.snd.snd.snd.snd.fst
                                              y106.snd.snd.snd.snd.snd.snd.snd.snd.snd.fst y106.snd.snd.snd.snd.snd.snd.snd.snd.snd.snd.fst
                                              y106.snd.snd.snd.snd.snd.snd.snd.snd.snd.snd.snd.fst
                                              y106.snd.snd.snd.snd.snd.snd.snd.snd.snd.snd.snd.snd.fst
                                              y106.snd.snd.snd.snd.snd.snd.snd.snd.snd.snd.snd.snd.snd.fst
                                              y106.snd.snd.snd.snd.snd.snd.snd.snd.snd.snd.snd.snd.snd.snd.fst
                                              y106.snd.snd.snd.snd.snd.snd.snd.snd.snd.snd.snd.snd.snd.snd.snd.fst
                                              y106.snd.snd.snd.snd.snd.snd.snd.snd.snd.snd.snd.snd.snd.snd.snd.snd.fst
                                              y106.snd.snd.snd.snd.snd.snd.snd.snd.snd.snd.snd.snd.snd.snd.snd.snd.snd.fst
                                              y106.snd.snd.snd.snd.snd.snd.snd.snd.snd.snd.snd.snd.snd.snd.snd.snd.snd.snd.fst).snd.snd.snd.snd.snd.snd.snd.snd.fst,
                          (f15
                                                (List.take y106.snd.snd.snd.snd.snd.snd.snd.snd.snd.fst
                                                  (List.drop (0 : Nat) y106.snd.snd.snd.snd.snd.snd.fst))
                                                y106.snd.snd.snd.snd.snd.snd.snd.fst y106.snd.snd.snd.snd.snd.snd.snd.snd.fst
                                                y106.snd.snd.snd.snd.snd.snd.snd.snd.snd.fst
                                                y106.snd.snd.snd.snd.snd.snd.snd.snd.snd.snd.fst
                                                y106.snd.snd.snd.snd.snd.snd.snd.snd.snd.snd.snd.fst
                                                y106.snd.snd.snd.snd.snd.snd.snd.snd.snd.snd.snd.snd.fst
                                                y106.snd.snd.snd.snd.snd.snd.snd.snd.snd.snd.snd.snd.snd.fst
                                                y106.snd.snd.snd.snd.snd.snd.snd.snd.snd.snd.snd.snd.snd.snd.fst
                                                y106.snd.snd.snd.snd.snd.snd.snd.snd.snd.snd.snd.snd.snd.snd.snd.fst
                                                y106.snd.snd.snd.snd.snd.snd.snd.snd.snd.snd.snd.snd.snd.snd.snd.snd.fst
                                                y106.snd.snd.snd.snd.snd.snd.snd.snd.snd.snd.snd.snd.snd.snd.snd.snd.snd.fst
                                                y106.snd.snd.snd.snd.snd.snd.snd.snd.snd.snd.snd.snd.snd.snd.snd.snd.snd.snd.fst).snd.snd.snd.snd.snd.snd.snd.snd.snd.fst,
                          (f15
                                                  (List.take y106.snd.snd.snd.snd.snd.snd.snd.snd.snd.fst
                                                    (List.drop (0 : Nat) y106.snd.snd.snd.snd.snd.snd.fst))
                                                  y106.snd.snd.snd.snd.snd.snd.snd.fst y106.snd.snd.snd.snd.snd.snd.snd.snd.fst
                                                  y106.snd.snd.snd.snd.snd.snd.snd.snd.snd.fst
                                                  y106.snd.snd.snd.snd.snd.snd.snd.snd.snd.snd.fst
                                                  y106.snd.snd.snd.snd.snd.snd.snd.snd.snd.snd.snd.fst
                                                  y106.snd.snd.snd.snd.snd.snd.snd.snd.snd.snd.snd.snd.fst
                                                  y106.snd.snd.snd.snd.snd.snd.snd.snd.snd.snd.snd.snd.snd.fst
                                                  y106.snd.snd.snd.snd.snd.snd.snd.snd.snd.snd.snd.snd.snd.snd.fst
                                                  y106.snd.snd.snd.snd.snd.snd.snd.snd.snd.snd.snd.snd.snd.snd.snd.fst
                                                  y106.snd.snd.snd.snd.snd.snd.snd.snd.snd.snd.snd.snd.snd.snd.snd.snd.fst
                                                  y106.snd.snd.snd.snd.snd.snd.snd.snd.snd.snd.snd.snd.snd.snd.snd.snd.snd.fst
                                                  y106.snd.snd.snd.snd.snd.snd.snd.snd.snd.snd.snd.snd.snd.snd.snd.snd.snd.snd.fst).snd.snd.snd.snd.snd.snd.snd.snd.snd.snd.fst,
                          (f15
                                                    (List.take y106.snd.snd.snd.snd.snd.snd.snd.snd.snd.fst
                                                      (List.drop (0 : Nat) y106.snd.snd.snd.snd.snd.snd.fst))
                                                    y106.snd.snd.snd.snd.snd.snd.snd.fst y106.snd.snd.snd.snd.snd.snd.snd.snd.fst
                                                    y106.snd.snd.snd.snd.snd.snd.snd.snd.snd.fst
                                                    y106.snd.snd.snd.snd.snd.snd.snd.snd.snd.snd.fst
                                                    y106.snd.snd.snd.snd.snd.snd.snd.snd.snd.snd.snd.fst
                                                    y106.snd.snd.snd.snd.snd.snd.snd.snd.snd.snd.snd.snd.fst
                                                    y106.snd.snd.snd.snd.snd.snd.snd.snd.snd.snd.snd.snd.snd.fst
                                                    y106.snd.snd.snd.snd.snd.snd.snd.snd.snd.snd.snd.snd.snd.snd.fst
                                                    y106.snd.snd.snd.snd.snd.snd.snd.snd.snd.snd.snd.snd.snd.snd.snd.fst
                                                    y106.snd.snd.snd.snd.snd.snd.snd.snd.snd.snd.snd.snd.snd.snd.snd.snd.fst
                                                    y106.snd.snd.snd.snd.snd.snd.snd.snd.snd.snd.snd.snd.snd.snd.snd.snd.snd.fst
                                                    y106.snd.snd.snd.snd.snd.snd.snd.snd.snd.snd.snd.snd.snd.snd.snd.snd.snd.snd.fst).snd.snd.snd.snd.snd.snd.snd.snd.snd.snd.snd.fst,
                          (f15
                                                      (List.take y106.snd.snd.snd.snd.snd.snd.snd.snd.snd.fst
                                                        (List.drop (0 : Nat) y106.snd.snd.snd.snd.snd.snd.fst))
                                                      y106.snd.snd.snd.snd.snd.snd.snd.fst y106.snd.snd.snd.snd.snd.snd.snd.snd.fst
                                                      y106.snd.snd.snd.snd.snd.snd.snd.snd.snd.fst
                                                      y106.snd.snd.snd.snd.snd.snd.snd.snd.snd.snd.fst
                                                      y106.snd.snd.snd.snd.snd.snd.snd.snd.snd.snd.snd.fst
                                                      y106.snd.snd.snd.snd.snd.snd.snd.snd.snd.snd.snd.snd.fst
                                                      y106.snd.snd.snd.snd.snd.snd.snd.snd.snd.snd.snd.snd.snd.fst
                                                      y106.snd.snd.snd.snd.snd.snd.snd.snd.snd.snd.snd.snd.snd.snd.fst
                                                      y106.snd.snd.snd.snd.snd.snd.snd.snd.snd.snd.snd.snd.snd.snd.snd.fst
                                                      y106.snd.snd.snd.snd.snd.snd.snd.snd.snd.snd.snd.snd.snd.snd.snd.snd.fst
                                                      y106.snd.snd.snd.snd.snd.snd.snd.snd.snd.snd.snd.snd.snd.snd.snd.snd.snd.fst
                                                      y106.snd.snd.snd.snd.snd.snd.snd.snd.snd.snd.snd.snd.snd.snd.snd.snd.snd.snd.fst).snd.snd.snd.snd.snd.snd.snd.snd.snd.snd.snd.snd.fst,
                          (f15
                                                        (List.take y106.snd.snd.snd.snd.snd.snd.snd.snd.snd.fst
                                                          (List.drop (0 : Nat) y106.snd.snd.snd.snd.snd.snd.fst))
                                                        y106.snd.snd.snd.snd.snd.snd.snd.fst y106.snd.snd.snd.snd.snd.snd.snd.snd.fst
                                                        y106.snd.snd.snd.snd.snd.snd.snd.snd.snd.fst
                                                        y106.snd.snd.snd.snd.snd.snd.snd.snd.snd.snd.fst
                                                        y106.snd.snd.snd.snd.snd.snd.snd.snd.snd.snd.snd.fst
                                                        y106.snd.snd.snd.snd.snd.snd.snd.snd.snd.snd.snd.snd.fst
                                                        y106.snd.snd.snd.snd.snd.snd.snd.snd.snd.snd.snd.snd.snd.fst
                                                        y106.snd.snd.snd.snd.snd.snd.snd.snd.snd.snd.snd.snd.snd.snd.fst
                                                        y106.snd.snd.snd.snd.snd.snd.snd.snd.snd.snd.snd.snd.snd.snd.snd.fst
                                                        y106.snd.snd.snd.snd.snd.snd.snd.snd.snd.snd.snd.snd.snd.snd.snd.snd.fst
                                                        y106.snd.snd.snd.snd.snd.snd.snd.snd.snd.snd.snd.snd.snd.snd.snd.snd.snd.fst
                                                        y106.snd.snd.snd.snd.snd.snd.snd.snd.snd.snd.snd.snd.snd.snd.snd.snd.snd.snd.fst).snd.snd.snd.snd.snd.snd.snd.snd.snd.snd.snd.snd.snd.fst,
                          (f15
                                                          (List.take y106.snd.snd.snd.snd.snd.snd.snd.snd.snd.fst
                                                            (List.drop (0 : Nat) y106.snd.snd.snd.snd.snd.snd.fst))
                                                          y106.snd.snd.snd.snd.snd.snd.snd.fst y106.snd.snd.snd.snd.snd.snd.snd.snd.fst
                                                          y106.snd.snd.snd.snd.snd.snd.snd.snd.snd.fst
                                                          y106.snd.snd.snd.snd.snd.snd.snd.snd.snd.snd.fst
                                                          y106.snd.snd.snd.snd.snd.snd.snd.snd.snd.snd.snd.fst
                                                          y106.snd.snd.snd.snd.snd.snd.snd.snd.snd.snd.snd.snd.fst
                                                          y106.snd.snd.snd.snd.snd.snd.snd.snd.snd.snd.snd.snd.snd.fst
                                                          y106.snd.snd.snd.snd.snd.snd.snd.snd.snd.snd.snd.snd.snd.snd.fst
                                                          y106.snd.snd.snd.snd.snd.snd.snd.snd.snd.snd.snd.snd.snd.snd.snd.fst
                                                          y106.snd.snd.snd.snd.snd.snd.snd.snd.snd.snd.snd.snd.snd.snd.snd.snd.fst
                                                          y106.snd.snd.snd.snd.snd.snd.snd.snd.snd.snd.snd.snd.snd.snd.snd.snd.snd.fst
                                                          y106.snd.snd.snd.snd.snd.snd.snd.snd.snd.snd.snd.snd.snd.snd.snd.snd.snd.snd.fst).snd.snd.snd.snd.snd.snd.snd.snd.snd.snd.snd.snd.snd.snd.fst,
                          (f15
                                                          (List.take y106.snd.snd.snd.snd.snd.snd.snd.snd.snd.fst
                                                            (List.drop (0 : Nat) y106.snd.snd.snd.snd.snd.snd.fst))
                                                          y106.snd.snd.snd.snd.snd.snd.snd.fst y106.snd.snd.snd.snd.snd.snd.snd.snd.fst
                                                          y106.snd.snd.snd.snd.snd.snd.snd.snd.snd.fst
                                                          y106.snd.snd.snd.snd.snd.snd.snd.snd.snd.snd.fst
                                                          y106.snd.snd.snd.snd.snd.snd.snd.snd.snd.snd.snd.fst
                                                          y106.snd.snd.snd.snd.snd.snd.snd.snd.snd.snd.snd.snd.fst
                                                          y106.snd.snd.snd.snd.snd.snd.snd.snd.snd.snd.snd.snd.snd.fst
                                                          y106.snd.snd.snd.snd.snd.snd.snd.snd.snd.snd.snd.snd.snd.snd.fst
                                                          y106.snd.snd.snd.snd.snd.snd.snd.snd.snd.snd.snd.snd.snd.snd.snd.fst
                                                          y106.snd.snd.snd.snd.snd.snd.snd.snd.snd.snd.snd.snd.snd.snd.snd.snd.fst
                                                          y106.snd.snd.snd.snd.snd.snd.snd.snd.snd.snd.snd.snd.snd.snd.snd.snd.snd.fst
                                                          y106.snd.snd.snd.snd.snd.snd.snd.snd.snd.snd.snd.snd.snd.snd.snd.snd.snd.snd.fst).snd.snd.snd.snd.snd.snd.snd.snd.snd.snd.snd.snd.snd.snd.snd,
                          List.take x.fst (List.drop (0 : Nat) x.snd.snd.snd.snd.snd.snd.snd.snd.snd.snd.snd.snd.snd.snd.snd.snd.snd.fst) ++
                            [Ev.mk y106.fst y106.snd.fst y106.snd.snd.fst y106.snd.snd.snd.fst y106.snd.snd.snd.snd.fst],
                          List.take x.snd.fst
                              (List.drop (0 : Nat) x.snd.snd.snd.snd.snd.snd.snd.snd.snd.snd.snd.snd.snd.snd.snd.snd.snd.snd.fst) ++
                            [Po.mk
                                (f15
                                    (List.take y106.snd.snd.snd.snd.snd.snd.snd.snd.snd.fst
                                      (List.drop (0 : Nat) y106.snd.snd.snd.snd.snd.snd.fst))
                                    y106.snd.snd.snd.snd.snd.snd.snd.fst y106.snd.snd.snd.snd.snd.snd.snd.snd.fst
                                    y106.snd.snd.snd.snd.snd.snd.snd.snd.snd.fst y106.snd.snd.snd.snd.snd.snd.snd.snd.snd.snd.fst
                                    y106.snd.snd.snd.snd.snd.snd.snd.snd.snd.snd.snd.fst
                                    y106.snd.snd.snd.snd.snd.snd.snd.snd.snd.snd.snd.snd.fst
                                    y106.snd.snd.snd.snd.snd.snd.snd.snd.snd.snd.snd.snd.snd.fst
                                    y106.snd.snd.snd.snd.snd.snd.snd.snd.snd.snd.snd.snd.snd.snd.fst
                                    y106.snd.snd.snd.snd.snd.snd.snd.snd.snd.snd.snd.snd.snd.snd.snd.fst
                                    y106.snd.snd.snd.snd.snd.snd.snd.snd.snd.snd.snd.snd.snd.snd.snd.snd.fst
                                    y106.snd.snd.snd.snd.snd.snd.snd.snd.snd.snd.snd.snd.snd.snd.snd.snd.snd.fst
                                    y106.snd.snd.snd.snd.snd.snd.snd.snd.snd.snd.snd.snd.snd.snd.snd.snd.snd.snd.fst).fst
                                (f15
                                      (List.take y106.snd.snd.snd.snd.snd.snd.snd.snd.snd.fst
                                        (List.drop (0 : Nat) y106.snd.snd.snd.snd.snd.snd.fst))
                                      y106.snd.snd.snd.snd.snd.snd.snd.fst y106.snd.snd.snd.snd.snd.snd.snd.snd.fst
                                      y106.snd.snd.snd.snd.snd.snd.snd.snd.snd.fst y106.snd.snd.snd.snd.snd.snd.snd.snd.snd.snd.fst
                                      y106.snd.snd.snd.snd.snd.snd.snd.snd.snd.snd.snd.fst
                                      y106.snd.snd.snd.snd.snd.snd.snd.snd.snd.snd.snd.snd.fst
                                      y106.snd.snd.snd.snd.snd.snd.snd.snd.snd.snd.snd.snd.snd.fst
                                      y106.snd.snd.snd.snd.snd.snd.snd.snd.snd.snd.snd.snd.snd.snd.fst
                                      y106.snd.snd.snd.snd.snd.snd.snd.snd.snd.snd.snd.snd.snd.snd.snd.fst
                                      y106.snd.snd.snd.snd.snd.snd.snd.snd.snd.snd.snd.snd.snd.snd.snd.snd.fst
                                      y106.snd.snd.snd.snd.snd.snd.snd.snd.snd.snd.snd.snd.snd.snd.snd.snd.snd.fst
                                      y106.snd.snd.snd.snd.snd.snd.snd.snd.snd.snd.snd.snd.snd.snd.snd.snd.snd.snd.fst).snd.fst
                                (f15
                                        (List.take y106.snd.snd.snd.snd.snd.snd.snd.snd.snd.fst
                                          (List.drop (0 : Nat) y106.snd.snd.snd.snd.snd.snd.fst))
                                        y106.snd.snd.snd.snd.snd.snd.snd.fst y106.snd.snd.snd.snd.snd.snd.snd.snd.fst
                                        y106.snd.snd.snd.snd.snd.snd.snd.snd.snd.fst y106.snd.snd.snd.snd.snd.snd.snd.snd.snd.snd.fst
                                        y106.snd.snd.snd.snd.snd.snd.snd.snd.snd.snd.snd.fst
                                        y106.snd.snd.snd.snd.snd.snd.snd.snd.snd.snd.snd.snd.fst
                                        y106.snd.snd.snd.snd.snd.snd.snd.snd.snd.snd.snd.snd.snd.fst
                                        y106.snd.snd.snd.snd.snd.snd.snd.snd.snd.snd.snd.snd.snd.snd.fst
                                        y106.snd.snd.snd.snd.snd.snd.snd.snd.snd.snd.snd.snd.snd.snd.snd.fst
                                        y106.snd.snd.snd.snd.snd.snd.snd.snd.snd.snd.snd.snd.snd.snd.snd.snd.fst
                                        y106.snd.snd.snd.snd.snd.snd.snd.snd.snd.snd.snd.snd.snd.snd.snd.snd.snd.fst
                                        y106.snd.snd.snd.snd.snd.snd.snd.snd.snd.snd.snd.snd.snd.snd.snd.snd.snd.snd.fst).snd.snd.fst],
                          (f15
                                    (List.take y106.snd.snd.snd.snd.snd.snd.snd.snd.snd.fst
                                      (List.drop (0 : Nat) y106.snd.snd.snd.snd.snd.snd.fst))
                                    y106.snd.snd.snd.snd.snd.snd.snd.fst y106.snd.snd.snd.snd.snd.snd.snd.snd.fst
                                    y106.snd.snd.snd.snd.snd.snd.snd.snd.snd.fst y106.snd.snd.snd.snd.snd.snd.snd.snd.snd.snd.fst
                                    y106.snd.snd.snd.snd.snd.snd.snd.snd.snd.snd.snd.fst
                                    y106.snd.snd.snd.snd.snd.snd.snd.snd.snd.snd.snd.snd.fst
                                    y106.snd.snd.snd.snd.snd.snd.snd.snd.snd.snd.snd.snd.snd.fst
                                    y106.snd.snd.snd.snd.snd.snd.snd.snd.snd.snd.snd.snd.snd.snd.fst
                                    y106.snd.snd.snd.snd.snd.snd.snd.snd.snd.snd.snd.snd.snd.snd.snd.fst
                                    y106.snd.snd.snd.snd.snd.snd.snd.snd.snd.snd.snd.snd.snd.snd.snd.snd.fst
                                    y106.snd.snd.snd.snd.snd.snd.snd.snd.snd.snd.snd.snd.snd.snd.snd.snd.snd.fst
                                    y106.snd.snd.snd.snd.snd.snd.snd.snd.snd.snd.snd.snd.snd.snd.snd.snd.snd.snd.fst).snd.snd.snd.fst,
                          ()))
                  else none
                else none
              else none
            else none
          else none
    else none
else
  some
    (Sum.inr
      (Sum.inr
        (x.fst, x.snd.fst, x.snd.snd.snd.snd.snd.snd.snd.snd.snd.snd.snd.snd.snd.snd.snd.snd.snd.fst,
          x.snd.snd.snd.snd.snd.snd.snd.snd.snd.snd.snd.snd.snd.snd.snd.snd.snd.snd.fst, ())))
theorem r7_0_run0 (v0 : Nat) (v1 : Nat) (v2 : List Ax) (v3 : Int) (v4 : Int) (v5 : Int) (v6 : Int) (v7 : Nat) (v8 : Int) (v9 : Int) (v10 : Int) (v11 : Int) (v12 : Int) (v13 : Int) (v14 : Int) (v15 : Int) (v16 : Int) (v17 : List Ev) (v18 : List Po) (v19 : List Int) : roundK tC G7 (look []) c7_0 p7_0 (v0, v1, v2, v3, v4, v5, v6, v7, v8, v9, v10, v11, v12, v13, v14, v15, v16, v17, v18, v19, ()) = r7_0 (v0, v1, v2, v3, v4, v5, v6, v7, v8, v9, v10, v11, v12, v13, v14, v15, v16, v17, v18, v19, ()) := by kernel_rfl
theorem r7_0_run (x : Nat ×
  Nat × List Ax × Int × Int × Int × Int × Nat × Int × Int × Int × Int × Int × Int × Int × Int × Int × List Ev × List Po × List Int × Unit) : roundK tC G7 (look []) c7_0 p7_0 x = r7_0 x := r7_0_run0 x.1 x.2.1 x.2.2.1 x.2.2.2.1 x.2.2.2.2.1 x.2.2.2.2.2.1 x.2.2.2.2.2.2.1 x.2.2.2.2.2.2.2.1 x.2.2.2.2.2.2.2.2.1 x.2.2.2.2.2.2.2.2.2.1 x.2.2.2.2.2.2.2.2.2.2.1 x.2.2.2.2.2.2.2.2.2.2.2.1 x.2.2.2.2.2.2.2.2.2.2.2.2.1 x.2.2.2.2.2.2.2.2.2.2.2.2.2.1 x.2.2.2.2.2.2.2.2.2.2.2.2.2.2.1 x.2.2.2.2.2.2.2.2.2.2.2.2.2.2.2.1 x.2.2.2.2.2.2.2.2.2.2.2.2.2.2.2.2.1 x.2.2.2.2.2.2.2.2.2.2.2.2.2.2.2.2.2.1 x.2.2.2.2.2.2.2.2.2.2.2.2.2.2.2.2.2.2.1 x.2.2.2.2.2.2.2.2.2.2.2.2.2.2.2.2.2.2.2.1
noncomputable def l7_0 (x : Nat ×
  Nat × List Ax × Int × Int × Int × Int × Nat × Int × Int × Int × Int × Int × Int × Int × Int × Int × List Ev × List Po × List Int × Unit) : Option (Int × Unit ⊕ Nat × Nat × List Ev × List Po × Unit) := iterO r7_0 x
noncomputable def W7_0 : LF tC := loopW tC p7_0 0 l7_0
theorem W7_0_ok : keyed 0 (bodyOf Tryz.f7) = [.block 0 (.loop c7_0)] ∧ ∀ n, n ≤ 0 → Snd tC n (.block 0 (.loop c7_0)) W7_0.k := ⟨by kernel_rfl, fun n hn => loopW_ok (p := p7_0) (id := 0) Y7 (lam_le lam_nil n hn) hn r7_0_run⟩
def S7 : FS := ⟨[[.v, .v, .s 5], [.v, .v, .v, .v], [.v, .v, .v], [.s 62]], [⟨[.one (.agg [.int .i64, .int .i64, .imm 5]), .one (.agg [.int .i64, .int .i64, .int .i64, .int .i64]), .one (.agg [.int .i64, .int .i64, .int .i64]), .one (.one (.imm 62))], []⟩], [⟨[.tup [.one (.imm 47), .one (.imm 28), .one (.int .i64)]], []⟩], [[.s 47], [.s 28], [.v]], []⟩
noncomputable def f7 (x : Int × Int × List Int × Int × Int × Int × Int × Int × Int × Int × List Ax × Unit) : Option (List Ev × List Po × Int × Unit) :=
  (f13
      (x.fst, x.snd.fst, x.snd.snd.fst, x.snd.snd.snd.fst, x.snd.snd.snd.snd.fst, x.snd.snd.snd.snd.snd.fst, x.snd.snd.snd.snd.snd.snd.fst,
        x.snd.snd.snd.snd.snd.snd.snd.fst, x.snd.snd.snd.snd.snd.snd.snd.snd.fst, x.snd.snd.snd.snd.snd.snd.snd.snd.snd.fst, ())).bind
  fun y125 =>
  Sum.elim (fun _x => some ([], [], (1 : Int), ()))
    (fun y124 =>
      Sum.elim (fun _x => some ([], [], (3 : Int), ()))
        (fun y123 =>
          Sum.elim (fun _x => some ([], [], (9 : Int), ()))
            (fun y122 =>
              (l7_0
                    ((0 : Nat), (0 : Nat), x.snd.snd.snd.snd.snd.snd.snd.snd.snd.snd.fst,
                      (↑x.snd.snd.snd.snd.snd.snd.snd.snd.snd.snd.fst.length : Int), (0 : Int), y122.fst, y122.snd.fst, y122.snd.snd.fst,
                      y122.snd.snd.snd.fst, y122.snd.snd.snd.snd.fst, y122.snd.snd.snd.snd.snd.fst, y122.snd.snd.snd.snd.snd.snd.fst,
                      y122.snd.snd.snd.snd.snd.snd.snd.fst, y122.snd.snd.snd.snd.snd.snd.snd.snd.fst,
                      y122.snd.snd.snd.snd.snd.snd.snd.snd.snd.fst, y122.snd.snd.snd.snd.snd.snd.snd.snd.snd.snd.fst,
                      y122.snd.snd.snd.snd.snd.snd.snd.snd.snd.snd.snd.fst, [], [],
                      y122.snd.snd.snd.snd.snd.snd.snd.snd.snd.snd.snd.snd.fst, ())).bind
                fun y121 =>
                Sum.elim (fun y119 => some ([], [], y119.fst, ()))
                  (fun y120 =>
                    bif decide ((0 : Nat) + y120.fst ≤ y120.snd.snd.fst.length) then
                      bif decide ((0 : Nat) + y120.snd.fst ≤ y120.snd.snd.snd.fst.length) then
                        some
                          (List.take y120.fst (List.drop (0 : Nat) y120.snd.snd.fst),
                            List.take y120.snd.fst (List.drop (0 : Nat) y120.snd.snd.snd.fst), (0 : Int), ())
                      else none
                    else none)
                  y121)
            y123)
        y124)
    y125
noncomputable def F7 : CF tC := mkF tC S7 f7
theorem f7_run : ∀ a, fnS tC G7 (look [(0, W7_0)]) Tryz.f7 S7 a = f7 a := fun a => by kernel_rfl
theorem F7_ok : CFOK tC 7 F7 := mkF_ok Y7 (fn := Tryz.f7) (body := bodyOf Tryz.f7) (by kernel_rfl) (by kernel_rfl) (by kernel_rfl) (m := 0) rfl (lam_le (lam_cons W7_0_ok lam_nil)) f7_run
end Go.AE
