/-
  The plain functions that the seat's Go functions compute, each with the proof that the function keeps it. Printed by the generator (Gen2) and checked by the kernel.
-/
import Derived.Test.YtadnppefidjhfaaGreatCfgT
namespace Go.AE
open Go.Proofs Go.RowKit
set_option maxRecDepth 100000

/-! base.Mod -/
noncomputable def G8 : FuncId → Option (CF tC) := look []
theorem Y8 : SysN tC G8 := (sys_nil tC_ok tC_eq)
noncomputable def c8_13 : Code := subCode (bodyOf Tryz.f8) 13
def p8_13 : PS := ⟨0, [5], ⟨vBs 5 ++ [vI] ++ vBs 9, []⟩, [⟨.ret, [4], ⟨vBs 4 ++ [vI] ++ vBs 10, []⟩, []⟩], []⟩
noncomputable def j8_13 (x : Int × Unit) : Option (Int × Unit) :=
  some (x.fst, ())
theorem j8_13_run0 (v0 : Int) : pieceK tC G8 (look []) c8_13 p8_13 (v0, ()) = j8_13 (v0, ()) := by kernel_rfl
theorem j8_13_run (x : Int × Unit) : pieceK tC G8 (look []) c8_13 p8_13 x = j8_13 x := j8_13_run0 x.1
noncomputable def W8_13 : LF tC := cutLF tC p8_13 j8_13
theorem W8_13_ok : keyed 13 (bodyOf Tryz.f8) = [c8_13] ∧ ∀ n, n ≤ 0 → Snd tC n c8_13 W8_13.k := ⟨by kernel_rfl, fun n hn => cut_ok (p := p8_13) Y8 (lam_le lam_nil n hn) hn j8_13_run⟩
def S8 : FS := ⟨[[.v], [.v]], [⟨[vI, vI], []⟩], [⟨[vI], []⟩], [[.v]], []⟩
noncomputable def f8 (x : Int × Int × Unit) : Option (Int × Unit) :=
  bif x.snd.fst == (0 : Int) then none
else
  bif decide (x.fst.tmod x.snd.fst < (0 : Int)) then
    (j8_13 (IntKind.i64.wrap (x.fst.tmod x.snd.fst + x.snd.fst), ())).bind fun y8 => some (y8.fst, ())
  else (j8_13 (x.fst.tmod x.snd.fst, ())).bind fun y9 => some (y9.fst, ())
noncomputable def F8 : CF tC := mkF tC S8 f8
theorem f8_run : ∀ a, fnS tC G8 (look [(13, W8_13)]) Tryz.f8 S8 a = f8 a := fun a => by kernel_rfl
theorem F8_ok : CFOK tC 8 F8 := mkF_ok Y8 (fn := Tryz.f8) (body := bodyOf Tryz.f8) (by kernel_rfl) (by kernel_rfl) (by kernel_rfl) (m := 0) rfl (lam_le (lam_cons W8_13_ok lam_nil)) f8_run

/-! base.Entries -/
noncomputable def G13 : FuncId → Option (CF tC) := look []
theorem Y13 : SysN tC G13 := (sys_nil tC_ok tC_eq)
noncomputable def c13_0 : Code := loopOf (bodyOf Tryz.f13) 0
def p13_0 : LS := ⟨0, [0, 1, 5], ⟨[.one (.one (.imm 68)), .one (.one (.imm 68)), vB, vB, vB, vI] ++ vBs 20, []⟩, [⟨.ret, [4], ⟨vBs 4 ++ [vO] ++ vBs 21, []⟩, []⟩, ⟨.exit 0, [], ⟨vBs 26, []⟩, []⟩], []⟩
noncomputable def r13_0 (x : List En × List En × Int × Unit) : Option (List En × List En × Int × Unit ⊕ Bool × Unit ⊕ Unit) :=
  bif decide (x.snd.snd.fst < (↑x.fst.length : Int)) then
  (idxO x.fst x.snd.snd.fst).bind fun y10 =>
    (idxO x.snd.fst x.snd.snd.fst).bind fun y9 =>
      bif
          !bif y10.X == y9.X then bif y10.Y == y9.Y then bif y10.A == y9.A then bif y10.B == y9.B then true else false else false else false
            else false then
        some (Sum.inr (Sum.inl (false, ())))
      else some (Sum.inl (x.fst, x.snd.fst, IntKind.i64.wrap (x.snd.snd.fst + (1 : Int)), ()))
else some (Sum.inr (Sum.inr ()))
theorem r13_0_run0 (v0 : List En) (v1 : List En) (v2 : Int) : roundK tC G13 (look []) c13_0 p13_0 (v0, v1, v2, ()) = r13_0 (v0, v1, v2, ()) := by kernel_rfl
theorem r13_0_run (x : List En × List En × Int × Unit) : roundK tC G13 (look []) c13_0 p13_0 x = r13_0 x := r13_0_run0 x.1 x.2.1 x.2.2.1
noncomputable def l13_0 (x : List En × List En × Int × Unit) : Option (Bool × Unit ⊕ Unit) := iterO r13_0 x
noncomputable def W13_0 : LF tC := loopW tC p13_0 0 l13_0
theorem W13_0_ok : keyed 0 (bodyOf Tryz.f13) = [.block 0 (.loop c13_0)] ∧ ∀ n, n ≤ 0 → Snd tC n (.block 0 (.loop c13_0)) W13_0.k := ⟨by kernel_rfl, fun n hn => loopW_ok (p := p13_0) (id := 0) Y13 (lam_le lam_nil n hn) hn r13_0_run⟩
def S13 : FS := ⟨[[.s 68], [.s 68]], [⟨[.one (.one (.imm 68)), .one (.one (.imm 68))], []⟩], [⟨[vO], []⟩], [[.v]], []⟩
noncomputable def f13 (x : List En × List En × Unit) : Option (Bool × Unit) :=
  bif (↑x.fst.length : Int) != (↑x.snd.fst.length : Int) then some (false, ())
else (l13_0 (x.fst, x.snd.fst, (0 : Int), ())).bind fun y15 => Sum.elim (fun y13 => some (y13.fst, ())) (fun _x => some (true, ())) y15
noncomputable def F13 : CF tC := mkF tC S13 f13
theorem f13_run : ∀ a, fnS tC G13 (look [(0, W13_0)]) Tryz.f13 S13 a = f13 a := fun a => by kernel_rfl
theorem F13_ok : CFOK tC 13 F13 := mkF_ok Y13 (fn := Tryz.f13) (body := bodyOf Tryz.f13) (by kernel_rfl) (by kernel_rfl) (by kernel_rfl) (m := 0) rfl (lam_le (lam_cons W13_0_ok lam_nil)) f13_run

/-! few -/
noncomputable def G5 : FuncId → Option (CF tC) := look []
theorem Y5 : SysN tC G5 := (sys_nil tC_ok tC_eq)
noncomputable def c5_0 : Code := loopOf (bodyOf Tryz.f5) 0
def p5_0 : LS := ⟨0, [0, 3], ⟨[.one (.one (.imm 35)), vB, vB, vI] ++ vBs 16, []⟩, [⟨.ret, [2], ⟨[vB, vB, vO] ++ vBs 17, []⟩, []⟩, ⟨.exit 0, [], ⟨vBs 20, []⟩, []⟩], []⟩
noncomputable def r5_0 (x : List Nt × Int × Unit) : Option (List Nt × Int × Unit ⊕ Bool × Unit ⊕ Unit) :=
  bif decide (x.snd.fst < (↑x.fst.length : Int)) then
  (idxO x.fst x.snd.fst).bind fun y6 =>
    bif decide ((↑y6.S.length : Int) > (3 : Int)) then some (Sum.inr (Sum.inl (false, ())))
    else some (Sum.inl (x.fst, IntKind.i64.wrap (x.snd.fst + (1 : Int)), ()))
else some (Sum.inr (Sum.inr ()))
theorem r5_0_run0 (v0 : List Nt) (v1 : Int) : roundK tC G5 (look []) c5_0 p5_0 (v0, v1, ()) = r5_0 (v0, v1, ()) := by kernel_rfl
theorem r5_0_run (x : List Nt × Int × Unit) : roundK tC G5 (look []) c5_0 p5_0 x = r5_0 x := r5_0_run0 x.1 x.2.1
noncomputable def l5_0 (x : List Nt × Int × Unit) : Option (Bool × Unit ⊕ Unit) := iterO r5_0 x
noncomputable def W5_0 : LF tC := loopW tC p5_0 0 l5_0
theorem W5_0_ok : keyed 0 (bodyOf Tryz.f5) = [.block 0 (.loop c5_0)] ∧ ∀ n, n ≤ 0 → Snd tC n (.block 0 (.loop c5_0)) W5_0.k := ⟨by kernel_rfl, fun n hn => loopW_ok (p := p5_0) (id := 0) Y5 (lam_le lam_nil n hn) hn r5_0_run⟩
def S5 : FS := ⟨[[.s 35]], [⟨[.one (.one (.imm 35))], []⟩], [⟨[vO], []⟩], [[.v]], []⟩
noncomputable def f5 (x : List Nt × Unit) : Option (Bool × Unit) :=
  bif decide ((↑x.fst.length : Int) > (10 : Int)) then some (false, ())
else (l5_0 (x.fst, (0 : Int), ())).bind fun y11 => Sum.elim (fun y9 => some (y9.fst, ())) (fun _x => some (true, ())) y11
noncomputable def F5 : CF tC := mkF tC S5 f5
theorem f5_run : ∀ a, fnS tC G5 (look [(0, W5_0)]) Tryz.f5 S5 a = f5 a := fun a => by kernel_rfl
theorem F5_ok : CFOK tC 5 F5 := mkF_ok Y5 (fn := Tryz.f5) (body := bodyOf Tryz.f5) (by kernel_rfl) (by kernel_rfl) (by kernel_rfl) (m := 0) rfl (lam_le (lam_cons W5_0_ok lam_nil)) f5_run

/-! plan.within -/
noncomputable def G76 : FuncId → Option (CF tC) := look []
theorem Y76 : SysN tC G76 := (sys_nil tC_ok tC_eq)
def S76 : FS := ⟨[[.v], [.v]], [⟨[vI, vI], []⟩], [⟨[vO], []⟩], [[.v]], []⟩
def f76 (n1 : Int) (n2 : Int) : Bool :=
  bif decide (n1 ≥ IntKind.i64.wrap ((0 : Int) - n2)) then decide (n1 ≤ n2) else false
noncomputable def F76 : CF tC := mkF tC S76 (fun a => some ((f76 a.1 a.2.1), ()))
def h76 (r : Bool) : Option (altTy tE S76.outs) := some (r, ())
theorem f76_run : ∀ a, fnS tC G76 (look []) Tryz.f76 S76 a = (fun a => some ((f76 a.1 a.2.1), ())) a := fun a => by
  have key : ∀ (n1 : Int) (n2 : Int), (bif decide (n1 ≥ IntKind.i64.wrap ((0 : Int) - n2)) then h76 (decide (n1 ≤ n2)) else h76 false) = h76 (f76 n1 n2) := by
    intros
    unfold f76
    repeat' first | rfl | refine cond_h (g := h76) ?_ ?_
  exact Eq.trans (by kernel_rfl) (key a.1 a.2.1)
theorem F76_ok : CFOK tC 76 F76 := mkF_ok Y76 (fn := Tryz.f76) (body := bodyOf Tryz.f76) (by kernel_rfl) (by kernel_rfl) (by kernel_rfl) (m := 0) rfl (lam_le lam_nil) f76_run

/-! plan.validPoint -/
noncomputable def G58 : FuncId → Option (CF tC) := look [(76, F76)]
theorem Y58 : SysN tC G58 := (sys_cons F76_ok (mkF_nat _ _) (sys_nil tC_ok tC_eq))
def S58 : FS := ⟨[[.v, .v]], [⟨[.one (.agg [.int .i64, .int .i64])], []⟩], [⟨[vO], []⟩], [[.v]], []⟩
def f58 (n1 : Int) (n2 : Int) : Bool :=
  bif f76 n1 (1048576 : Int) then f76 n2 (1048576 : Int) else false
noncomputable def F58 : CF tC := mkF tC S58 (fun a => some ((f58 a.1 a.2.1), ()))
def h58 (r : Bool) : Option (altTy tE S58.outs) := some (r, ())
theorem f58_run : ∀ a, fnS tC G58 (look []) Tryz.f58 S58 a = (fun a => some ((f58 a.1 a.2.1), ())) a := fun a => by
  have key : ∀ (n1 : Int) (n2 : Int), (bif f76 n1 (1048576 : Int) then h58 (f76 n2 (1048576 : Int)) else h58 false) = h58 (f58 n1 n2) := by
    intros
    unfold f58
    repeat' first | rfl | refine cond_h (g := h58) ?_ ?_
  exact Eq.trans (by kernel_rfl) (key a.1 a.2.1)
theorem F58_ok : CFOK tC 58 F58 := mkF_ok Y58 (fn := Tryz.f58) (body := bodyOf Tryz.f58) (by kernel_rfl) (by kernel_rfl) (by kernel_rfl) (m := 0) rfl (lam_le lam_nil) f58_run

/-! plan.validVector -/
noncomputable def G59 : FuncId → Option (CF tC) := look [(76, F76)]
theorem Y59 : SysN tC G59 := (sys_cons F76_ok (mkF_nat _ _) (sys_nil tC_ok tC_eq))
def S59 : FS := ⟨[[.v, .v, .v]], [⟨[.one (.agg [.int .i64, .int .i64, .int .i64])], []⟩], [⟨[vO], []⟩], [[.v]], []⟩
def f59 (n1 : Int) (n2 : Int) (n3 : Int) : Bool :=
  bif decide (n3 ≥ (1 : Int)) then
  bif decide (n3 ≤ (67108864 : Int)) then
    bif f76 n1 n3 then
      bif f76 n2 n3 then IntKind.i64.wrap (IntKind.i64.wrap (n1 * n1) + IntKind.i64.wrap (n2 * n2)) == IntKind.i64.wrap (n3 * n3) else false
    else false
  else false
else false
noncomputable def F59 : CF tC := mkF tC S59 (fun a => some ((f59 a.1 a.2.1 a.2.2.1), ()))
def h59 (r : Bool) : Option (altTy tE S59.outs) := some (r, ())
theorem f59_run : ∀ a, fnS tC G59 (look []) Tryz.f59 S59 a = (fun a => some ((f59 a.1 a.2.1 a.2.2.1), ())) a := fun a => by
  have key : ∀ (n1 : Int) (n2 : Int) (n3 : Int), (bif decide (n3 ≥ (1 : Int)) then
  bif decide (n3 ≤ (67108864 : Int)) then
    bif f76 n1 n3 then
      bif f76 n2 n3 then h59 (IntKind.i64.wrap (IntKind.i64.wrap (n1 * n1) + IntKind.i64.wrap (n2 * n2)) == IntKind.i64.wrap (n3 * n3))
      else h59 false
    else h59 false
  else h59 false
else h59 false) = h59 (f59 n1 n2 n3) := by
    intros
    unfold f59
    repeat' first | rfl | refine cond_h (g := h59) ?_ ?_
  exact Eq.trans (by kernel_rfl) (key a.1 a.2.1 a.2.2.1)
theorem F59_ok : CFOK tC 59 F59 := mkF_ok Y59 (fn := Tryz.f59) (body := bodyOf Tryz.f59) (by kernel_rfl) (by kernel_rfl) (by kernel_rfl) (m := 0) rfl (lam_le lam_nil) f59_run

/-! plan.down -/
noncomputable def G95 : FuncId → Option (CF tC) := look []
theorem Y95 : SysN tC G95 := (sys_nil tC_ok tC_eq)
noncomputable def c95_13 : Code := subCode (bodyOf Tryz.f95) 13
def p95_13 : PS := ⟨0, [5], ⟨vBs 5 ++ [vI] ++ vBs 10, []⟩, [⟨.ret, [4], ⟨vBs 4 ++ [vI] ++ vBs 11, []⟩, []⟩], []⟩
noncomputable def j95_13 (x : Int × Unit) : Option (Int × Unit) :=
  some (x.fst, ())
theorem j95_13_run0 (v0 : Int) : pieceK tC G95 (look []) c95_13 p95_13 (v0, ()) = j95_13 (v0, ()) := by kernel_rfl
theorem j95_13_run (x : Int × Unit) : pieceK tC G95 (look []) c95_13 p95_13 x = j95_13 x := j95_13_run0 x.1
noncomputable def W95_13 : LF tC := cutLF tC p95_13 j95_13
theorem W95_13_ok : keyed 13 (bodyOf Tryz.f95) = [c95_13] ∧ ∀ n, n ≤ 0 → Snd tC n c95_13 W95_13.k := ⟨by kernel_rfl, fun n hn => cut_ok (p := p95_13) Y95 (lam_le lam_nil n hn) hn j95_13_run⟩
def S95 : FS := ⟨[[.v], [.v]], [⟨[vI, vI], []⟩], [⟨[vI], []⟩], [[.v]], []⟩
noncomputable def f95 (x : Int × Int × Unit) : Option (Int × Unit) :=
  bif x.snd.fst == (0 : Int) then none
else
  bif x.snd.fst == (0 : Int) then none
  else
    bif decide (x.fst.tmod x.snd.fst < (0 : Int)) then
      (j95_13 (IntKind.i64.wrap (IntKind.i64.wrap (x.fst.tdiv x.snd.fst) - (1 : Int)), ())).bind fun y8 => some (y8.fst, ())
    else (j95_13 (IntKind.i64.wrap (x.fst.tdiv x.snd.fst), ())).bind fun y9 => some (y9.fst, ())
noncomputable def F95 : CF tC := mkF tC S95 f95
theorem f95_run : ∀ a, fnS tC G95 (look [(13, W95_13)]) Tryz.f95 S95 a = f95 a := fun a => by kernel_rfl
theorem F95_ok : CFOK tC 95 F95 := mkF_ok Y95 (fn := Tryz.f95) (body := bodyOf Tryz.f95) (by kernel_rfl) (by kernel_rfl) (by kernel_rfl) (m := 0) rfl (lam_le (lam_cons W95_13_ok lam_nil)) f95_run

/-! plan.reach -/
noncomputable def G77 : FuncId → Option (CF tC) := look [(95, F95)]
theorem Y77 : SysN tC G77 := (sys_cons F95_ok (mkF_nat _ _) (sys_nil tC_ok tC_eq))
def S77 : FS := ⟨[[.v], [.v], [.v], [.v], [.v], [.v]], [⟨[vI, vI, vI, vI, vI, vI], []⟩], [⟨[.tup [.one (.int .i64), .one (.int .i64)]], []⟩], [[.v], [.v]], []⟩
noncomputable def f77 (x : Int × Int × Int × Int × Int × Int × Unit) : Option (Int × Int × Unit) :=
  (f95
      (bif
            decide
              (IntKind.i64.wrap (x.snd.snd.snd.snd.snd.fst * x.snd.snd.fst) < IntKind.i64.wrap (x.snd.snd.snd.snd.fst * x.snd.snd.fst)) then
          IntKind.i64.wrap (x.snd.snd.snd.snd.snd.fst * x.snd.snd.fst)
        else IntKind.i64.wrap (x.snd.snd.snd.snd.fst * x.snd.snd.fst),
        x.snd.snd.snd.fst, ())).bind
  fun y12 =>
  (f95
        (bif
              decide
                (IntKind.i64.wrap (x.snd.snd.snd.snd.snd.fst * x.snd.snd.fst) >
                  IntKind.i64.wrap (x.snd.snd.snd.snd.fst * x.snd.snd.fst)) then
            IntKind.i64.wrap (x.snd.snd.snd.snd.snd.fst * x.snd.snd.fst)
          else IntKind.i64.wrap (x.snd.snd.snd.snd.fst * x.snd.snd.fst),
          x.snd.snd.snd.fst, ())).bind
    fun y11 => some (IntKind.i64.wrap (x.fst + y12.fst), IntKind.i64.wrap (IntKind.i64.wrap (x.snd.fst + y11.fst) + (1 : Int)), ())
noncomputable def F77 : CF tC := mkF tC S77 f77
theorem f77_run : ∀ a, fnS tC G77 (look []) Tryz.f77 S77 a = f77 a := fun a => by kernel_rfl
theorem F77_ok : CFOK tC 77 F77 := mkF_ok Y77 (fn := Tryz.f77) (body := bodyOf Tryz.f77) (by kernel_rfl) (by kernel_rfl) (by kernel_rfl) (m := 0) rfl (lam_le lam_nil) f77_run

/-! plan.span -/
noncomputable def G78 : FuncId → Option (CF tC) := look [(95, F95)]
theorem Y78 : SysN tC G78 := (sys_cons F95_ok (mkF_nat _ _) (sys_nil tC_ok tC_eq))
def S78 : FS := ⟨[[.v], [.v]], [⟨[vI, vI], []⟩], [⟨[.tup [.one (.int .i64), .one (.int .i64)]], []⟩], [[.v], [.v]], []⟩
noncomputable def f78 (x : Int × Int × Unit) : Option (Int × Int × Unit) :=
  (f95 (IntKind.i64.wrap ((0 : Int) - x.fst), (64 : Int), ())).bind fun y8 =>
  (f95 (x.snd.fst, (64 : Int), ())).bind fun y7 => some (IntKind.i64.wrap (IntKind.i64.wrap ((0 : Int) - y8.fst) - (1 : Int)), y7.fst, ())
noncomputable def F78 : CF tC := mkF tC S78 f78
theorem f78_run : ∀ a, fnS tC G78 (look []) Tryz.f78 S78 a = f78 a := fun a => by kernel_rfl
theorem F78_ok : CFOK tC 78 F78 := mkF_ok Y78 (fn := Tryz.f78) (body := bodyOf Tryz.f78) (by kernel_rfl) (by kernel_rfl) (by kernel_rfl) (m := 0) rfl (lam_le lam_nil) f78_run

/-! plan.square -/
noncomputable def G80 : FuncId → Option (CF tC) := look []
theorem Y80 : SysN tC G80 := (sys_nil tC_ok tC_eq)
def S80 : FS := ⟨[[.v, .v]], [⟨[.one (.agg [.int .i64, .int .i64])], []⟩], [⟨[.one (.agg [.int .i64, .int .i64, .int .i64, .int .i64])], []⟩], [[.v, .v, .v, .v]], []⟩
def f80 (n1 : Int) (n2 : Int) : Int × Int × Int × Int :=
  (IntKind.i64.wrap (n1 * (64 : Int)), IntKind.i64.wrap (n2 * (64 : Int)), IntKind.i64.wrap (IntKind.i64.wrap (n1 * (64 : Int)) + (64 : Int)),
  IntKind.i64.wrap (IntKind.i64.wrap (n2 * (64 : Int)) + (64 : Int)))
noncomputable def F80 : CF tC := mkF tC S80 (fun a => some ((f80 a.1 a.2.1).1, (f80 a.1 a.2.1).2.1, (f80 a.1 a.2.1).2.2.1, (f80 a.1 a.2.1).2.2.2, ()))
def h80 (r : Int × Int × Int × Int) : Option (altTy tE S80.outs) := some (r.1, r.2.1, r.2.2.1, r.2.2.2, ())
theorem f80_run : ∀ a, fnS tC G80 (look []) Tryz.f80 S80 a = (fun a => some ((f80 a.1 a.2.1).1, (f80 a.1 a.2.1).2.1, (f80 a.1 a.2.1).2.2.1, (f80 a.1 a.2.1).2.2.2, ())) a := fun a => by
  have key : ∀ (n1 : Int) (n2 : Int), (h80
  (IntKind.i64.wrap (n1 * (64 : Int)), IntKind.i64.wrap (n2 * (64 : Int)),
    IntKind.i64.wrap (IntKind.i64.wrap (n1 * (64 : Int)) + (64 : Int)), IntKind.i64.wrap (IntKind.i64.wrap (n2 * (64 : Int)) + (64 : Int)))) = h80 (f80 n1 n2) := by
    intros
    unfold f80
    repeat' first | rfl | refine cond_h (g := h80) ?_ ?_
  exact Eq.trans (by kernel_rfl) (key a.1 a.2.1)
theorem F80_ok : CFOK tC 80 F80 := mkF_ok Y80 (fn := Tryz.f80) (body := bodyOf Tryz.f80) (by kernel_rfl) (by kernel_rfl) (by kernel_rfl) (m := 0) rfl (lam_le lam_nil) f80_run

/-! segment.near -/
noncomputable def G111 : FuncId → Option (CF tC) := look []
theorem Y111 : SysN tC G111 := (sys_nil tC_ok tC_eq)
def S111 : FS := ⟨[[.v]], [⟨[vI], []⟩], [⟨[vO], []⟩], [[.v]], []⟩
def f111 (n1 : Int) : Bool :=
  bif decide (n1 ≥ (-2097152 : Int)) then decide (n1 ≤ (2097152 : Int)) else false
noncomputable def F111 : CF tC := mkF tC S111 (fun a => some ((f111 a.1), ()))
def h111 (r : Bool) : Option (altTy tE S111.outs) := some (r, ())
theorem f111_run : ∀ a, fnS tC G111 (look []) Tryz.f111 S111 a = (fun a => some ((f111 a.1), ())) a := fun a => by
  have key : ∀ (n1 : Int), (bif decide (n1 ≥ (-2097152 : Int)) then h111 (decide (n1 ≤ (2097152 : Int))) else h111 false) = h111 (f111 n1) := by
    intros
    unfold f111
    repeat' first | rfl | refine cond_h (g := h111) ?_ ?_
  exact Eq.trans (by kernel_rfl) (key a.1)
theorem F111_ok : CFOK tC 111 F111 := mkF_ok Y111 (fn := Tryz.f111) (body := bodyOf Tryz.f111) (by kernel_rfl) (by kernel_rfl) (by kernel_rfl) (m := 0) rfl (lam_le lam_nil) f111_run

/-! segment.ValidRect -/
noncomputable def G96 : FuncId → Option (CF tC) := look [(111, F111)]
theorem Y96 : SysN tC G96 := (sys_cons F111_ok (mkF_nat _ _) (sys_nil tC_ok tC_eq))
def S96 : FS := ⟨[[.v, .v, .v, .v]], [⟨[.one (.agg [.int .i64, .int .i64, .int .i64, .int .i64])], []⟩], [⟨[vO], []⟩], [[.v]], []⟩
def f96 (n1 : Int) (n2 : Int) (n3 : Int) (n4 : Int) : Bool :=
  bif f111 n1 then
  bif f111 n2 then bif f111 n3 then bif f111 n4 then bif decide (n1 ≤ n3) then decide (n2 ≤ n4) else false else false else false else false
else false
noncomputable def F96 : CF tC := mkF tC S96 (fun a => some ((f96 a.1 a.2.1 a.2.2.1 a.2.2.2.1), ()))
def h96 (r : Bool) : Option (altTy tE S96.outs) := some (r, ())
theorem f96_run : ∀ a, fnS tC G96 (look []) Tryz.f96 S96 a = (fun a => some ((f96 a.1 a.2.1 a.2.2.1 a.2.2.2.1), ())) a := fun a => by
  have key : ∀ (n1 : Int) (n2 : Int) (n3 : Int) (n4 : Int), (bif f111 n1 then
  bif f111 n2 then
    bif f111 n3 then bif f111 n4 then bif decide (n1 ≤ n3) then h96 (decide (n2 ≤ n4)) else h96 false else h96 false else h96 false
  else h96 false
else h96 false) = h96 (f96 n1 n2 n3 n4) := by
    intros
    unfold f96
    repeat' first | rfl | refine cond_h (g := h96) ?_ ?_
  exact Eq.trans (by kernel_rfl) (key a.1 a.2.1 a.2.2.1 a.2.2.2.1)
theorem F96_ok : CFOK tC 96 F96 := mkF_ok Y96 (fn := Tryz.f96) (body := bodyOf Tryz.f96) (by kernel_rfl) (by kernel_rfl) (by kernel_rfl) (m := 0) rfl (lam_le lam_nil) f96_run

/-! segment.validPoint -/
noncomputable def G112 : FuncId → Option (CF tC) := look [(111, F111)]
theorem Y112 : SysN tC G112 := (sys_cons F111_ok (mkF_nat _ _) (sys_nil tC_ok tC_eq))
def S112 : FS := ⟨[[.v, .v]], [⟨[.one (.agg [.int .i64, .int .i64])], []⟩], [⟨[vO], []⟩], [[.v]], []⟩
def f112 (n1 : Int) (n2 : Int) : Bool :=
  bif f111 n1 then f111 n2 else false
noncomputable def F112 : CF tC := mkF tC S112 (fun a => some ((f112 a.1 a.2.1), ()))
def h112 (r : Bool) : Option (altTy tE S112.outs) := some (r, ())
theorem f112_run : ∀ a, fnS tC G112 (look []) Tryz.f112 S112 a = (fun a => some ((f112 a.1 a.2.1), ())) a := fun a => by
  have key : ∀ (n1 : Int) (n2 : Int), (bif f111 n1 then h112 (f111 n2) else h112 false) = h112 (f112 n1 n2) := by
    intros
    unfold f112
    repeat' first | rfl | refine cond_h (g := h112) ?_ ?_
  exact Eq.trans (by kernel_rfl) (key a.1 a.2.1)
theorem F112_ok : CFOK tC 112 F112 := mkF_ok Y112 (fn := Tryz.f112) (body := bodyOf Tryz.f112) (by kernel_rfl) (by kernel_rfl) (by kernel_rfl) (m := 0) rfl (lam_le lam_nil) f112_run

/-! segment.validVector -/
noncomputable def G113 : FuncId → Option (CF tC) := look []
theorem Y113 : SysN tC G113 := (sys_nil tC_ok tC_eq)
def S113 : FS := ⟨[[.v, .v, .v]], [⟨[.one (.agg [.int .i64, .int .i64, .int .i64])], []⟩], [⟨[vO], []⟩], [[.v]], []⟩
def f113 (n1 : Int) (n2 : Int) (n3 : Int) : Bool :=
  bif decide (n3 < (1 : Int)) then false
else
  bif decide (n3 > (67108864 : Int)) then false
  else
    bif decide (n1 < IntKind.i64.wrap ((0 : Int) - n3)) then false
    else
      bif decide (n1 > n3) then false
      else
        bif decide (n2 < IntKind.i64.wrap ((0 : Int) - n3)) then false
        else
          bif decide (n2 > n3) then false
          else IntKind.i64.wrap (IntKind.i64.wrap (n1 * n1) + IntKind.i64.wrap (n2 * n2)) == IntKind.i64.wrap (n3 * n3)
noncomputable def F113 : CF tC := mkF tC S113 (fun a => some ((f113 a.1 a.2.1 a.2.2.1), ()))
def h113 (r : Bool) : Option (altTy tE S113.outs) := some (r, ())
theorem f113_run : ∀ a, fnS tC G113 (look []) Tryz.f113 S113 a = (fun a => some ((f113 a.1 a.2.1 a.2.2.1), ())) a := fun a => by
  have key : ∀ (n1 : Int) (n2 : Int) (n3 : Int), (bif decide (n3 < (1 : Int)) then h113 false
else
  bif decide (n3 > (67108864 : Int)) then h113 false
  else
    bif decide (n1 < IntKind.i64.wrap ((0 : Int) - n3)) then h113 false
    else
      bif decide (n1 > n3) then h113 false
      else
        bif decide (n2 < IntKind.i64.wrap ((0 : Int) - n3)) then h113 false
        else
          bif decide (n2 > n3) then h113 false
          else h113 (IntKind.i64.wrap (IntKind.i64.wrap (n1 * n1) + IntKind.i64.wrap (n2 * n2)) == IntKind.i64.wrap (n3 * n3))) = h113 (f113 n1 n2 n3) := by
    intros
    unfold f113
    repeat' first | rfl | refine cond_h (g := h113) ?_ ?_
  exact Eq.trans (by kernel_rfl) (key a.1 a.2.1 a.2.2.1)
theorem F113_ok : CFOK tC 113 F113 := mkF_ok Y113 (fn := Tryz.f113) (body := bodyOf Tryz.f113) (by kernel_rfl) (by kernel_rfl) (by kernel_rfl) (m := 0) rfl (lam_le lam_nil) f113_run

/-! segment.less -/
noncomputable def G119 : FuncId → Option (CF tC) := look []
theorem Y119 : SysN tC G119 := (sys_nil tC_ok tC_eq)
def S119 : FS := ⟨[[.v, .v], [.v, .v]], [⟨[.one (.agg [.int .i64, .int .i64]), .one (.agg [.int .i64, .int .i64])], []⟩], [⟨[vO], []⟩], [[.v]], []⟩
def f119 (n1 : Int) (n2 : Int) (n3 : Int) (n4 : Int) : Bool :=
  decide (IntKind.i64.wrap (n1 * n4) < IntKind.i64.wrap (n3 * n2))
noncomputable def F119 : CF tC := mkF tC S119 (fun a => some ((f119 a.1 a.2.1 a.2.2.1 a.2.2.2.1), ()))
def h119 (r : Bool) : Option (altTy tE S119.outs) := some (r, ())
theorem f119_run : ∀ a, fnS tC G119 (look []) Tryz.f119 S119 a = (fun a => some ((f119 a.1 a.2.1 a.2.2.1 a.2.2.2.1), ())) a := fun a => by
  have key : ∀ (n1 : Int) (n2 : Int) (n3 : Int) (n4 : Int), (h119 (decide (IntKind.i64.wrap (n1 * n4) < IntKind.i64.wrap (n3 * n2)))) = h119 (f119 n1 n2 n3 n4) := by
    intros
    unfold f119
    repeat' first | rfl | refine cond_h (g := h119) ?_ ?_
  exact Eq.trans (by kernel_rfl) (key a.1 a.2.1 a.2.2.1 a.2.2.2.1)
theorem F119_ok : CFOK tC 119 F119 := mkF_ok Y119 (fn := Tryz.f119) (body := bodyOf Tryz.f119) (by kernel_rfl) (by kernel_rfl) (by kernel_rfl) (m := 0) rfl (lam_le lam_nil) f119_run

/-! segment.slab -/
noncomputable def G114 : FuncId → Option (CF tC) := look [(119, F119)]
theorem Y114 : SysN tC G114 := (sys_cons F119_ok (mkF_nat _ _) (sys_nil tC_ok tC_eq))
noncomputable def c114_31 : Code := subCode (subCode (subCode (bodyOf Tryz.f114) 19) 25) 31
def p114_31 : PS := ⟨1, [0], ⟨[.one (.one (.ptr 0 0 0))] ++ vBs 76, [.box [.int .i64, .int .i64, .int .i64, .int .i64]]⟩, [⟨.ret, [10], ⟨vBs 10 ++ [vO] ++ vBs 66, [.box [.int .i64, .int .i64, .int .i64, .int .i64]]⟩, []⟩], []⟩
noncomputable def j114_31 (x : Int × Int × Int × Int × Unit) : Option (Bool × Int × Int × Int × Int × Unit) :=
  some (!f119 x.snd.snd.fst x.snd.snd.snd.fst x.fst x.snd.fst, x.fst, x.snd.fst, x.snd.snd.fst, x.snd.snd.snd.fst, ())
theorem j114_31_run0 (v0 : Int) (v1 : Int) (v2 : Int) (v3 : Int) : pieceK tC G114 (look []) c114_31 p114_31 (v0, v1, v2, v3, ()) = j114_31 (v0, v1, v2, v3, ()) := by kernel_rfl
theorem j114_31_run (x : Int × Int × Int × Int × Unit) : pieceK tC G114 (look []) c114_31 p114_31 x = j114_31 x := j114_31_run0 x.1 x.2.1 x.2.2.1 x.2.2.2.1
noncomputable def W114_31 : LF tC := cutLF tC p114_31 j114_31
theorem W114_31_ok : keyed 31 (subCode (subCode (bodyOf Tryz.f114) 19) 25) = [c114_31] ∧ ∀ n, n ≤ 1 → Snd tC n c114_31 W114_31.k := ⟨by kernel_rfl, fun n hn => cut_ok (p := p114_31) Y114 (lam_le lam_nil n hn) hn j114_31_run⟩
noncomputable def c114_25 : Code := subCode (subCode (bodyOf Tryz.f114) 19) 25
def p114_25 : PS := ⟨1, [0, 12], ⟨[.one (.one (.ptr 0 0 0))] ++ vBs 11 ++ [.one (.one (.ptr 1 0 0))] ++ vBs 64, [.box [.int .i64, .int .i64, .int .i64, .int .i64], .box [.int .i64, .int .i64]]⟩, [⟨.ret, [10], ⟨vBs 10 ++ [vO] ++ vBs 66, [.box [.int .i64, .int .i64, .int .i64, .int .i64]]⟩, []⟩], []⟩
noncomputable def j114_25 (x : Int × Int × Int × Int × Int × Int × Unit) : Option (Bool × Int × Int × Int × Int × Unit) :=
  bif f119 x.snd.snd.snd.snd.fst x.snd.snd.snd.snd.snd.fst x.snd.snd.fst x.snd.snd.snd.fst then
  (j114_31 (x.fst, x.snd.fst, x.snd.snd.snd.snd.fst, x.snd.snd.snd.snd.snd.fst, ())).bind fun y47 =>
    some (y47.fst, y47.snd.fst, y47.snd.snd.fst, y47.snd.snd.snd.fst, y47.snd.snd.snd.snd.fst, ())
else
  (j114_31 (x.fst, x.snd.fst, x.snd.snd.fst, x.snd.snd.snd.fst, ())).bind fun y48 =>
    some (y48.fst, y48.snd.fst, y48.snd.snd.fst, y48.snd.snd.snd.fst, y48.snd.snd.snd.snd.fst, ())
theorem j114_25_run0 (v0 : Int) (v1 : Int) (v2 : Int) (v3 : Int) (v4 : Int) (v5 : Int) : pieceK tC G114 (look [(31, W114_31)]) c114_25 p114_25 (v0, v1, v2, v3, v4, v5, ()) = j114_25 (v0, v1, v2, v3, v4, v5, ()) := by kernel_rfl
theorem j114_25_run (x : Int × Int × Int × Int × Int × Int × Unit) : pieceK tC G114 (look [(31, W114_31)]) c114_25 p114_25 x = j114_25 x := j114_25_run0 x.1 x.2.1 x.2.2.1 x.2.2.2.1 x.2.2.2.2.1 x.2.2.2.2.2.1
noncomputable def W114_25 : LF tC := cutLF tC p114_25 j114_25
theorem W114_25_ok : keyed 25 (subCode (bodyOf Tryz.f114) 19) = [c114_25] ∧ ∀ n, n ≤ 1 → Snd tC n c114_25 W114_25.k := ⟨by kernel_rfl, fun n hn => cut_ok (p := p114_25) Y114 (lam_le (lam_cons W114_31_ok lam_nil) n hn) hn j114_25_run⟩
noncomputable def c114_19 : Code := subCode (bodyOf Tryz.f114) 19
def p114_19 : PS := ⟨1, [0, 11, 12], ⟨[.one (.one (.ptr 0 0 0))] ++ vBs 10 ++ [.one (.one (.ptr 1 0 0)), .one (.one (.ptr 2 0 0))] ++ vBs 64, [.box [.int .i64, .int .i64, .int .i64, .int .i64], .box [.int .i64, .int .i64], .box [.int .i64, .int .i64]]⟩, [⟨.ret, [10], ⟨vBs 10 ++ [vO] ++ vBs 66, [.box [.int .i64, .int .i64, .int .i64, .int .i64]]⟩, []⟩], []⟩
noncomputable def j114_19 (x : Int × Int × Int × Int × Int × Int × Int × Int × Unit) : Option (Bool × Int × Int × Int × Int × Unit) :=
  bif f119 x.fst x.snd.fst x.snd.snd.snd.snd.fst x.snd.snd.snd.snd.snd.fst then
  (j114_25
        (x.snd.snd.snd.snd.fst, x.snd.snd.snd.snd.snd.fst, x.snd.snd.fst, x.snd.snd.snd.fst, x.snd.snd.snd.snd.snd.snd.fst,
          x.snd.snd.snd.snd.snd.snd.snd.fst, ())).bind
    fun y64 => some (y64.fst, y64.snd.fst, y64.snd.snd.fst, y64.snd.snd.snd.fst, y64.snd.snd.snd.snd.fst, ())
else
  (j114_25 (x.fst, x.snd.fst, x.snd.snd.fst, x.snd.snd.snd.fst, x.snd.snd.snd.snd.snd.snd.fst, x.snd.snd.snd.snd.snd.snd.snd.fst, ())).bind
    fun y65 => some (y65.fst, y65.snd.fst, y65.snd.snd.fst, y65.snd.snd.snd.fst, y65.snd.snd.snd.snd.fst, ())
theorem j114_19_run0 (v0 : Int) (v1 : Int) (v2 : Int) (v3 : Int) (v4 : Int) (v5 : Int) (v6 : Int) (v7 : Int) : pieceK tC G114 (look [(25, W114_25)]) c114_19 p114_19 (v0, v1, v2, v3, v4, v5, v6, v7, ()) = j114_19 (v0, v1, v2, v3, v4, v5, v6, v7, ()) := by kernel_rfl
theorem j114_19_run (x : Int × Int × Int × Int × Int × Int × Int × Int × Unit) : pieceK tC G114 (look [(25, W114_25)]) c114_19 p114_19 x = j114_19 x := j114_19_run0 x.1 x.2.1 x.2.2.1 x.2.2.2.1 x.2.2.2.2.1 x.2.2.2.2.2.1 x.2.2.2.2.2.2.1 x.2.2.2.2.2.2.2.1
noncomputable def W114_19 : LF tC := cutLF tC p114_19 j114_19
theorem W114_19_ok : keyed 19 (bodyOf Tryz.f114) = [c114_19] ∧ ∀ n, n ≤ 1 → Snd tC n c114_19 W114_19.k := ⟨by kernel_rfl, fun n hn => cut_ok (p := p114_19) Y114 (lam_le (lam_cons W114_25_ok lam_nil) n hn) hn j114_19_run⟩
def S114 : FS := ⟨[[.p], [.v], [.v], [.v], [.v]], [⟨[.one (.one (.ptr 0 0 0)), vI, vI, vI, vI], [.box [.int .i64, .int .i64, .int .i64, .int .i64]]⟩], [⟨[vO], [.box [.int .i64, .int .i64, .int .i64, .int .i64]]⟩], [[.v]], []⟩
noncomputable def f114 (x : Int × Int × Int × Int × Int × Int × Int × Int × Unit) : Option (Bool × Int × Int × Int × Int × Unit) :=
  bif x.snd.fst == (0 : Int) then
  bif decide (x.snd.snd.fst ≤ x.fst) then
    some
      (decide (x.fst ≤ x.snd.snd.snd.fst), x.snd.snd.snd.snd.fst, x.snd.snd.snd.snd.snd.fst, x.snd.snd.snd.snd.snd.snd.fst,
        x.snd.snd.snd.snd.snd.snd.snd.fst, ())
  else some (false, x.snd.snd.snd.snd.fst, x.snd.snd.snd.snd.snd.fst, x.snd.snd.snd.snd.snd.snd.fst, x.snd.snd.snd.snd.snd.snd.snd.fst, ())
else
  bif decide (x.snd.fst < (0 : Int)) then
    (j114_19
          (x.snd.snd.snd.snd.fst, x.snd.snd.snd.snd.snd.fst, x.snd.snd.snd.snd.snd.snd.fst, x.snd.snd.snd.snd.snd.snd.snd.fst,
            IntKind.i64.wrap (x.fst - x.snd.snd.snd.fst), IntKind.i64.wrap ((0 : Int) - x.snd.fst),
            IntKind.i64.wrap (x.fst - x.snd.snd.fst), IntKind.i64.wrap ((0 : Int) - x.snd.fst), ())).bind
      fun y81 => some (y81.fst, y81.snd.fst, y81.snd.snd.fst, y81.snd.snd.snd.fst, y81.snd.snd.snd.snd.fst, ())
  else
    (j114_19
          (x.snd.snd.snd.snd.fst, x.snd.snd.snd.snd.snd.fst, x.snd.snd.snd.snd.snd.snd.fst, x.snd.snd.snd.snd.snd.snd.snd.fst,
            IntKind.i64.wrap (x.snd.snd.fst - x.fst), x.snd.fst, IntKind.i64.wrap (x.snd.snd.snd.fst - x.fst), x.snd.fst, ())).bind
      fun y82 => some (y82.fst, y82.snd.fst, y82.snd.snd.fst, y82.snd.snd.snd.fst, y82.snd.snd.snd.snd.fst, ())
noncomputable def F114 : CF tC := mkF tC S114 f114
theorem f114_run : ∀ a, fnS tC G114 (look [(19, W114_19)]) Tryz.f114 S114 a = f114 a := fun a => by kernel_rfl
theorem F114_ok : CFOK tC 114 F114 := mkF_ok Y114 (fn := Tryz.f114) (body := bodyOf Tryz.f114) (by kernel_rfl) (by kernel_rfl) (by kernel_rfl) (m := 1) rfl (lam_le (lam_cons W114_19_ok lam_nil)) f114_run

/-! segment.through -/
noncomputable def G97 : FuncId → Option (CF tC) := look [(112, F112), (113, F113), (96, F96), (114, F114)]
theorem Y97 : SysN tC G97 := (sys_cons F112_ok (mkF_nat _ _) (sys_cons F113_ok (mkF_nat _ _) (sys_cons F96_ok (mkF_nat _ _) (sys_cons F114_ok (mkF_nat _ _) (sys_nil tC_ok tC_eq)))))
def S97 : FS := ⟨[[.v, .v], [.v, .v, .v], [.v, .v, .v, .v]], [⟨[.one (.agg [.int .i64, .int .i64]), .one (.agg [.int .i64, .int .i64, .int .i64]), .one (.agg [.int .i64, .int .i64, .int .i64, .int .i64])], []⟩], [⟨[.tup [.agg [.int .i64, .int .i64, .int .i64, .int .i64], .one .bool]], []⟩], [[.v, .v, .v, .v], [.v]], []⟩
noncomputable def f97 (x : Int × Int × Int × Int × Int × Int × Int × Int × Int × Unit) : Option (Int × Int × Int × Int × Bool × Unit) :=
  bif !f112 x.fst x.snd.fst then some ((0 : Int), (0 : Int), (0 : Int), (0 : Int), false, ())
else
  bif !f113 x.snd.snd.fst x.snd.snd.snd.fst x.snd.snd.snd.snd.fst then some ((0 : Int), (0 : Int), (0 : Int), (0 : Int), false, ())
  else
    bif
        !f96 x.snd.snd.snd.snd.snd.fst x.snd.snd.snd.snd.snd.snd.fst x.snd.snd.snd.snd.snd.snd.snd.fst
            x.snd.snd.snd.snd.snd.snd.snd.snd.fst then
      some ((0 : Int), (0 : Int), (0 : Int), (0 : Int), false, ())
    else
      (f114
            (x.fst, x.snd.snd.fst, x.snd.snd.snd.snd.snd.fst, x.snd.snd.snd.snd.snd.snd.snd.fst, (0 : Int), (1 : Int), (8388608 : Int),
              (1 : Int), ())).bind
        fun y26 =>
        bif !y26.fst then some ((0 : Int), (0 : Int), (0 : Int), (0 : Int), false, ())
        else
          (f114
                (x.snd.fst, x.snd.snd.snd.fst, x.snd.snd.snd.snd.snd.snd.fst, x.snd.snd.snd.snd.snd.snd.snd.snd.fst, y26.snd.fst,
                  y26.snd.snd.fst, y26.snd.snd.snd.fst, y26.snd.snd.snd.snd.fst, ())).bind
            fun y25 =>
            bif !y25.fst then some ((0 : Int), (0 : Int), (0 : Int), (0 : Int), false, ())
            else some (y25.snd.fst, y25.snd.snd.fst, y25.snd.snd.snd.fst, y25.snd.snd.snd.snd.fst, true, ())
noncomputable def F97 : CF tC := mkF tC S97 f97
theorem f97_run : ∀ a, fnS tC G97 (look []) Tryz.f97 S97 a = f97 a := fun a => by kernel_rfl
theorem F97_ok : CFOK tC 97 F97 := mkF_ok Y97 (fn := Tryz.f97) (body := bodyOf Tryz.f97) (by kernel_rfl) (by kernel_rfl) (by kernel_rfl) (m := 0) rfl (lam_le lam_nil) f97_run

/-! segment.Minus -/
noncomputable def G79 : FuncId → Option (CF tC) := look [(96, F96)]
theorem Y79 : SysN tC G79 := (sys_cons F96_ok (mkF_nat _ _) (sys_nil tC_ok tC_eq))
def S79 : FS := ⟨[[.v, .v, .v, .v], [.v, .v, .v, .v]], [⟨[.one (.agg [.int .i64, .int .i64, .int .i64, .int .i64]), .one (.agg [.int .i64, .int .i64, .int .i64, .int .i64])], []⟩], [⟨[.tup [.agg [.int .i64, .int .i64, .int .i64, .int .i64], .one .bool]], []⟩], [[.v, .v, .v, .v], [.v]], []⟩
def f79 (n1 : Int) (n2 : Int) (n3 : Int) (n4 : Int) (n5 : Int) (n6 : Int) (n7 : Int) (n8 : Int) : Int × Int × Int × Int × Bool :=
  bif !f96 n1 n2 n3 n4 then ((0 : Int), (0 : Int), (0 : Int), (0 : Int), false)
else
  bif !f96 n5 n6 n7 n8 then ((0 : Int), (0 : Int), (0 : Int), (0 : Int), false)
  else
    bif !f96 (IntKind.i64.wrap (n1 - n7)) (IntKind.i64.wrap (n2 - n8)) (IntKind.i64.wrap (n3 - n5)) (IntKind.i64.wrap (n4 - n6)) then
      ((0 : Int), (0 : Int), (0 : Int), (0 : Int), false)
    else (IntKind.i64.wrap (n1 - n7), IntKind.i64.wrap (n2 - n8), IntKind.i64.wrap (n3 - n5), IntKind.i64.wrap (n4 - n6), true)
noncomputable def F79 : CF tC := mkF tC S79 (fun a => some ((f79 a.1 a.2.1 a.2.2.1 a.2.2.2.1 a.2.2.2.2.1 a.2.2.2.2.2.1 a.2.2.2.2.2.2.1 a.2.2.2.2.2.2.2.1).1, (f79 a.1 a.2.1 a.2.2.1 a.2.2.2.1 a.2.2.2.2.1 a.2.2.2.2.2.1 a.2.2.2.2.2.2.1 a.2.2.2.2.2.2.2.1).2.1, (f79 a.1 a.2.1 a.2.2.1 a.2.2.2.1 a.2.2.2.2.1 a.2.2.2.2.2.1 a.2.2.2.2.2.2.1 a.2.2.2.2.2.2.2.1).2.2.1, (f79 a.1 a.2.1 a.2.2.1 a.2.2.2.1 a.2.2.2.2.1 a.2.2.2.2.2.1 a.2.2.2.2.2.2.1 a.2.2.2.2.2.2.2.1).2.2.2.1, (f79 a.1 a.2.1 a.2.2.1 a.2.2.2.1 a.2.2.2.2.1 a.2.2.2.2.2.1 a.2.2.2.2.2.2.1 a.2.2.2.2.2.2.2.1).2.2.2.2, ()))
def h79 (r : Int × Int × Int × Int × Bool) : Option (altTy tE S79.outs) := some (r.1, r.2.1, r.2.2.1, r.2.2.2.1, r.2.2.2.2, ())
theorem f79_run : ∀ a, fnS tC G79 (look []) Tryz.f79 S79 a = (fun a => some ((f79 a.1 a.2.1 a.2.2.1 a.2.2.2.1 a.2.2.2.2.1 a.2.2.2.2.2.1 a.2.2.2.2.2.2.1 a.2.2.2.2.2.2.2.1).1, (f79 a.1 a.2.1 a.2.2.1 a.2.2.2.1 a.2.2.2.2.1 a.2.2.2.2.2.1 a.2.2.2.2.2.2.1 a.2.2.2.2.2.2.2.1).2.1, (f79 a.1 a.2.1 a.2.2.1 a.2.2.2.1 a.2.2.2.2.1 a.2.2.2.2.2.1 a.2.2.2.2.2.2.1 a.2.2.2.2.2.2.2.1).2.2.1, (f79 a.1 a.2.1 a.2.2.1 a.2.2.2.1 a.2.2.2.2.1 a.2.2.2.2.2.1 a.2.2.2.2.2.2.1 a.2.2.2.2.2.2.2.1).2.2.2.1, (f79 a.1 a.2.1 a.2.2.1 a.2.2.2.1 a.2.2.2.2.1 a.2.2.2.2.2.1 a.2.2.2.2.2.2.1 a.2.2.2.2.2.2.2.1).2.2.2.2, ())) a := fun a => by
  have key : ∀ (n1 : Int) (n2 : Int) (n3 : Int) (n4 : Int) (n5 : Int) (n6 : Int) (n7 : Int) (n8 : Int), (bif !f96 n1 n2 n3 n4 then h79 ((0 : Int), (0 : Int), (0 : Int), (0 : Int), false)
else
  bif !f96 n5 n6 n7 n8 then h79 ((0 : Int), (0 : Int), (0 : Int), (0 : Int), false)
  else
    bif !f96 (IntKind.i64.wrap (n1 - n7)) (IntKind.i64.wrap (n2 - n8)) (IntKind.i64.wrap (n3 - n5)) (IntKind.i64.wrap (n4 - n6)) then
      h79 ((0 : Int), (0 : Int), (0 : Int), (0 : Int), false)
    else h79 (IntKind.i64.wrap (n1 - n7), IntKind.i64.wrap (n2 - n8), IntKind.i64.wrap (n3 - n5), IntKind.i64.wrap (n4 - n6), true)) = h79 (f79 n1 n2 n3 n4 n5 n6 n7 n8) := by
    intros
    unfold f79
    repeat' first | rfl | refine cond_h (g := h79) ?_ ?_
  exact Eq.trans (by kernel_rfl) (key a.1 a.2.1 a.2.2.1 a.2.2.2.1 a.2.2.2.2.1 a.2.2.2.2.2.1 a.2.2.2.2.2.2.1 a.2.2.2.2.2.2.2.1)
theorem F79_ok : CFOK tC 79 F79 := mkF_ok Y79 (fn := Tryz.f79) (body := bodyOf Tryz.f79) (by kernel_rfl) (by kernel_rfl) (by kernel_rfl) (m := 0) rfl (lam_le lam_nil) f79_run

/-! segment.Meets -/
noncomputable def G81 : FuncId → Option (CF tC) := look [(97, F97)]
theorem Y81 : SysN tC G81 := (sys_cons F97_ok (mkF_nat _ _) (sys_nil tC_ok tC_eq))
def S81 : FS := ⟨[[.v, .v], [.v, .v, .v], [.v], [.v], [.v, .v, .v, .v]], [⟨[.one (.agg [.int .i64, .int .i64]), .one (.agg [.int .i64, .int .i64, .int .i64]), vI, vI, .one (.agg [.int .i64, .int .i64, .int .i64, .int .i64])], []⟩], [⟨[vO], []⟩], [[.v]], []⟩
noncomputable def f81 (x : Int × Int × Int × Int × Int × Int × Int × Int × Int × Int × Int × Unit) : Option (Bool × Unit) :=
  bif decide (x.snd.snd.snd.snd.snd.fst < (0 : Int)) then some (false, ())
else
  bif decide (x.snd.snd.snd.snd.snd.snd.fst < x.snd.snd.snd.snd.snd.fst) then some (false, ())
  else
    bif decide (x.snd.snd.snd.snd.snd.snd.fst > (65536 : Int)) then some (false, ())
    else
      (f97
            (x.fst, x.snd.fst, x.snd.snd.fst, x.snd.snd.snd.fst, x.snd.snd.snd.snd.fst, x.snd.snd.snd.snd.snd.snd.snd.fst,
              x.snd.snd.snd.snd.snd.snd.snd.snd.fst, x.snd.snd.snd.snd.snd.snd.snd.snd.snd.fst,
              x.snd.snd.snd.snd.snd.snd.snd.snd.snd.snd.fst, ())).bind
        fun y18 =>
        bif y18.snd.snd.snd.snd.fst then
          bif
              decide
                (IntKind.i64.wrap (x.snd.snd.snd.snd.snd.fst * y18.snd.snd.snd.fst) ≤
                  IntKind.i64.wrap (y18.snd.snd.fst * x.snd.snd.snd.snd.fst)) then
            some
              (decide (IntKind.i64.wrap (y18.fst * x.snd.snd.snd.snd.fst) ≤ IntKind.i64.wrap (x.snd.snd.snd.snd.snd.snd.fst * y18.snd.fst)),
                ())
          else some (false, ())
        else some (false, ())
noncomputable def F81 : CF tC := mkF tC S81 f81
theorem f81_run : ∀ a, fnS tC G81 (look []) Tryz.f81 S81 a = f81 a := fun a => by kernel_rfl
theorem F81_ok : CFOK tC 81 F81 := mkF_ok Y81 (fn := Tryz.f81) (body := bodyOf Tryz.f81) (by kernel_rfl) (by kernel_rfl) (by kernel_rfl) (m := 0) rfl (lam_le lam_nil) f81_run

/-! plan.sweep -/
noncomputable def G60 : FuncId → Option (CF tC) := look [(77, F77), (78, F78), (80, F80), (79, F79), (81, F81)]
theorem Y60 : SysN tC G60 := (sys_cons F77_ok (mkF_nat _ _) (sys_cons F78_ok (mkF_nat _ _) (sys_cons F80_ok (mkF_nat _ _) (sys_cons F79_ok (mkF_nat _ _) (sys_cons F81_ok (mkF_nat _ _) (sys_nil tC_ok tC_eq))))))
noncomputable def c60_34 : Code := subCode (loopOf (loopOf (bodyOf Tryz.f60) 0) 2) 34
def p60_34 : PS := ⟨0, [2, 3, 4, 5, 13, 14, 16, 17, 18, 19], ⟨[vB, vB, vI, vI, .one (.one (.ptr 0 0 0)), .one (.one (.ptr 1 0 0))] ++ vBs 7 ++ [vI, vI, vB, vI, .one (.one (.sl 2)), vI, vI] ++ vBs 79, [.box [.int .i64, .int .i64, .int .i64, .int .i64], .box [.int .i64, .int .i64, .int .i64], .arr 66]⟩, [⟨.normal, [2, 3, 4, 5, 13, 14, 16, 17, 18, 19], ⟨[vB, vB, vI, vI, .one (.one (.ptr 0 0 0)), .one (.one (.ptr 1 0 0))] ++ vBs 7 ++ [vI, vI, vB, vI, .one (.one (.sl 2)), vI, vI] ++ vBs 79, [.box [.int .i64, .int .i64, .int .i64, .int .i64], .box [.int .i64, .int .i64, .int .i64], .arr 66]⟩, []⟩], []⟩
noncomputable def j60_34 (x : Int × Int × Int × Int × Int × Nat × Int × Int × Int × Int × Int × Int × Int × Int × Int × List Pt × Unit) : Option (Int × Int × Int × Int × Int × Nat × Int × Int × Int × Int × Int × Int × Int × Int × Int × List Pt × Unit) :=
  some
  (x.fst, x.snd.fst, x.snd.snd.fst, x.snd.snd.snd.fst, x.snd.snd.snd.snd.fst, x.snd.snd.snd.snd.snd.fst, x.snd.snd.snd.snd.snd.snd.fst,
    IntKind.i64.wrap (x.snd.snd.snd.snd.snd.snd.snd.fst + (1 : Int)), x.snd.snd.snd.snd.snd.snd.snd.snd.fst,
    x.snd.snd.snd.snd.snd.snd.snd.snd.snd.fst, x.snd.snd.snd.snd.snd.snd.snd.snd.snd.snd.fst,
    x.snd.snd.snd.snd.snd.snd.snd.snd.snd.snd.snd.fst, x.snd.snd.snd.snd.snd.snd.snd.snd.snd.snd.snd.snd.fst,
    x.snd.snd.snd.snd.snd.snd.snd.snd.snd.snd.snd.snd.snd.fst, x.snd.snd.snd.snd.snd.snd.snd.snd.snd.snd.snd.snd.snd.snd.fst,
    x.snd.snd.snd.snd.snd.snd.snd.snd.snd.snd.snd.snd.snd.snd.snd.fst, ())
theorem j60_34_run0 (v0 : Int) (v1 : Int) (v2 : Int) (v3 : Int) (v4 : Int) (v5 : Nat) (v6 : Int) (v7 : Int) (v8 : Int) (v9 : Int) (v10 : Int) (v11 : Int) (v12 : Int) (v13 : Int) (v14 : Int) (v15 : List Pt) : pieceK tC G60 (look []) c60_34 p60_34 (v0, v1, v2, v3, v4, v5, v6, v7, v8, v9, v10, v11, v12, v13, v14, v15, ()) = j60_34 (v0, v1, v2, v3, v4, v5, v6, v7, v8, v9, v10, v11, v12, v13, v14, v15, ()) := by kernel_rfl
theorem j60_34_run (x : Int × Int × Int × Int × Int × Nat × Int × Int × Int × Int × Int × Int × Int × Int × Int × List Pt × Unit) : pieceK tC G60 (look []) c60_34 p60_34 x = j60_34 x := j60_34_run0 x.1 x.2.1 x.2.2.1 x.2.2.2.1 x.2.2.2.2.1 x.2.2.2.2.2.1 x.2.2.2.2.2.2.1 x.2.2.2.2.2.2.2.1 x.2.2.2.2.2.2.2.2.1 x.2.2.2.2.2.2.2.2.2.1 x.2.2.2.2.2.2.2.2.2.2.1 x.2.2.2.2.2.2.2.2.2.2.2.1 x.2.2.2.2.2.2.2.2.2.2.2.2.1 x.2.2.2.2.2.2.2.2.2.2.2.2.2.1 x.2.2.2.2.2.2.2.2.2.2.2.2.2.2.1 x.2.2.2.2.2.2.2.2.2.2.2.2.2.2.2.1
noncomputable def W60_34 : LF tC := cutLF tC p60_34 j60_34
theorem W60_34_ok : keyed 34 (loopOf (loopOf (bodyOf Tryz.f60) 0) 2) = [c60_34] ∧ ∀ n, n ≤ 0 → Snd tC n c60_34 W60_34.k := ⟨by kernel_rfl, fun n hn => cut_ok (p := p60_34) Y60 (lam_le lam_nil n hn) hn j60_34_run⟩
noncomputable def c60_6 : Code := loopOf (loopOf (bodyOf Tryz.f60) 0) 2
def p60_6 : LS := ⟨0, [2, 3, 4, 5, 13, 14, 16, 17, 18, 19], ⟨[vB, vB, vI, vI, .one (.one (.ptr 0 0 0)), .one (.one (.ptr 1 0 0))] ++ vBs 7 ++ [vI, vI, vB, vI, .one (.one (.sl 2)), vI, vI] ++ vBs 79, [.box [.int .i64, .int .i64, .int .i64, .int .i64], .box [.int .i64, .int .i64, .int .i64], .arr 66]⟩, [⟨.exit 2, [2, 3, 4, 5, 13, 14, 16, 17, 18], ⟨[vB, vB, vI, vI, .one (.one (.ptr 0 0 0)), .one (.one (.ptr 1 0 0))] ++ vBs 7 ++ [vI, vI, vB, vI, .one (.one (.sl 2)), vI] ++ vBs 80, [.box [.int .i64, .int .i64, .int .i64, .int .i64], .box [.int .i64, .int .i64, .int .i64], .arr 66]⟩, []⟩], []⟩
noncomputable def r60_6 (x : Int × Int × Int × Int × Int × Nat × Int × Int × Int × Int × Int × Int × Int × Int × Int × List Pt × Unit) : Option
  (Int × Int × Int × Int × Int × Nat × Int × Int × Int × Int × Int × Int × Int × Int × Int × List Pt × Unit ⊕
    Int × Int × Int × Int × Int × Nat × Int × Int × Int × Int × Int × Int × Int × Int × List Pt × Unit) :=
  bif decide (x.snd.snd.snd.snd.snd.snd.snd.fst ≤ x.snd.snd.snd.fst) then
  bif
      (f79 (f80 x.snd.snd.snd.snd.snd.snd.snd.fst x.snd.snd.snd.snd.snd.snd.fst).fst
                (f80 x.snd.snd.snd.snd.snd.snd.snd.fst x.snd.snd.snd.snd.snd.snd.fst).snd.fst
                (f80 x.snd.snd.snd.snd.snd.snd.snd.fst x.snd.snd.snd.snd.snd.snd.fst).snd.snd.fst
                (f80 x.snd.snd.snd.snd.snd.snd.snd.fst x.snd.snd.snd.snd.snd.snd.fst).snd.snd.snd x.snd.snd.snd.snd.snd.snd.snd.snd.fst
                x.snd.snd.snd.snd.snd.snd.snd.snd.snd.fst x.snd.snd.snd.snd.snd.snd.snd.snd.snd.snd.fst
                x.snd.snd.snd.snd.snd.snd.snd.snd.snd.snd.snd.fst).snd.snd.snd.snd then
    (f81
          ((0 : Int), (0 : Int), x.snd.snd.snd.snd.snd.snd.snd.snd.snd.snd.snd.snd.fst,
            x.snd.snd.snd.snd.snd.snd.snd.snd.snd.snd.snd.snd.snd.fst, x.snd.snd.snd.snd.snd.snd.snd.snd.snd.snd.snd.snd.snd.snd.fst, x.fst,
            x.snd.fst,
            (f79 (f80 x.snd.snd.snd.snd.snd.snd.snd.fst x.snd.snd.snd.snd.snd.snd.fst).fst
                (f80 x.snd.snd.snd.snd.snd.snd.snd.fst x.snd.snd.snd.snd.snd.snd.fst).snd.fst
                (f80 x.snd.snd.snd.snd.snd.snd.snd.fst x.snd.snd.snd.snd.snd.snd.fst).snd.snd.fst
                (f80 x.snd.snd.snd.snd.snd.snd.snd.fst x.snd.snd.snd.snd.snd.snd.fst).snd.snd.snd x.snd.snd.snd.snd.snd.snd.snd.snd.fst
                x.snd.snd.snd.snd.snd.snd.snd.snd.snd.fst x.snd.snd.snd.snd.snd.snd.snd.snd.snd.snd.fst
                x.snd.snd.snd.snd.snd.snd.snd.snd.snd.snd.snd.fst).fst,
            (f79 (f80 x.snd.snd.snd.snd.snd.snd.snd.fst x.snd.snd.snd.snd.snd.snd.fst).fst
                  (f80 x.snd.snd.snd.snd.snd.snd.snd.fst x.snd.snd.snd.snd.snd.snd.fst).snd.fst
                  (f80 x.snd.snd.snd.snd.snd.snd.snd.fst x.snd.snd.snd.snd.snd.snd.fst).snd.snd.fst
                  (f80 x.snd.snd.snd.snd.snd.snd.snd.fst x.snd.snd.snd.snd.snd.snd.fst).snd.snd.snd x.snd.snd.snd.snd.snd.snd.snd.snd.fst
                  x.snd.snd.snd.snd.snd.snd.snd.snd.snd.fst x.snd.snd.snd.snd.snd.snd.snd.snd.snd.snd.fst
                  x.snd.snd.snd.snd.snd.snd.snd.snd.snd.snd.snd.fst).snd.fst,
            (f79 (f80 x.snd.snd.snd.snd.snd.snd.snd.fst x.snd.snd.snd.snd.snd.snd.fst).fst
                    (f80 x.snd.snd.snd.snd.snd.snd.snd.fst x.snd.snd.snd.snd.snd.snd.fst).snd.fst
                    (f80 x.snd.snd.snd.snd.snd.snd.snd.fst x.snd.snd.snd.snd.snd.snd.fst).snd.snd.fst
                    (f80 x.snd.snd.snd.snd.snd.snd.snd.fst x.snd.snd.snd.snd.snd.snd.fst).snd.snd.snd x.snd.snd.snd.snd.snd.snd.snd.snd.fst
                    x.snd.snd.snd.snd.snd.snd.snd.snd.snd.fst x.snd.snd.snd.snd.snd.snd.snd.snd.snd.snd.fst
                    x.snd.snd.snd.snd.snd.snd.snd.snd.snd.snd.snd.fst).snd.snd.fst,
            (f79 (f80 x.snd.snd.snd.snd.snd.snd.snd.fst x.snd.snd.snd.snd.snd.snd.fst).fst
                      (f80 x.snd.snd.snd.snd.snd.snd.snd.fst x.snd.snd.snd.snd.snd.snd.fst).snd.fst
                      (f80 x.snd.snd.snd.snd.snd.snd.snd.fst x.snd.snd.snd.snd.snd.snd.fst).snd.snd.fst
                      (f80 x.snd.snd.snd.snd.snd.snd.snd.fst x.snd.snd.snd.snd.snd.snd.fst).snd.snd.snd
                      x.snd.snd.snd.snd.snd.snd.snd.snd.fst x.snd.snd.snd.snd.snd.snd.snd.snd.snd.fst
                      x.snd.snd.snd.snd.snd.snd.snd.snd.snd.snd.fst x.snd.snd.snd.snd.snd.snd.snd.snd.snd.snd.snd.fst).snd.snd.snd.fst,
            ())).bind
      fun y386 =>
      bif y386.fst then
        bif decide ((0 : Nat) + x.snd.snd.snd.snd.snd.fst ≤ x.snd.snd.snd.snd.snd.snd.snd.snd.snd.snd.snd.snd.snd.snd.snd.fst.length) then
          bif roomy (x.snd.snd.snd.snd.snd.fst + (1 : Nat)) (16 : Nat) then
            (j60_34
                  (x.fst, x.snd.fst, x.snd.snd.fst, x.snd.snd.snd.fst, x.snd.snd.snd.snd.fst, x.snd.snd.snd.snd.snd.fst + (1 : Nat),
                    x.snd.snd.snd.snd.snd.snd.fst, x.snd.snd.snd.snd.snd.snd.snd.fst, x.snd.snd.snd.snd.snd.snd.snd.snd.fst,
                    x.snd.snd.snd.snd.snd.snd.snd.snd.snd.fst, x.snd.snd.snd.snd.snd.snd.snd.snd.snd.snd.fst,
                    x.snd.snd.snd.snd.snd.snd.snd.snd.snd.snd.snd.fst, x.snd.snd.snd.snd.snd.snd.snd.snd.snd.snd.snd.snd.fst,
                    x.snd.snd.snd.snd.snd.snd.snd.snd.snd.snd.snd.snd.snd.fst,
                    x.snd.snd.snd.snd.snd.snd.snd.snd.snd.snd.snd.snd.snd.snd.fst,
                    List.take x.snd.snd.snd.snd.snd.fst
                        (List.drop (0 : Nat) x.snd.snd.snd.snd.snd.snd.snd.snd.snd.snd.snd.snd.snd.snd.snd.fst) ++
                      [Pt.mk x.snd.snd.snd.snd.snd.snd.snd.fst x.snd.snd.snd.snd.snd.snd.fst],
                    ())).bind
              fun y384 =>
              some
                (Sum.inl
                  (y384.fst, y384.snd.fst, y384.snd.snd.fst, y384.snd.snd.snd.fst, y384.snd.snd.snd.snd.fst, y384.snd.snd.snd.snd.snd.fst,
                    y384.snd.snd.snd.snd.snd.snd.fst, y384.snd.snd.snd.snd.snd.snd.snd.fst, y384.snd.snd.snd.snd.snd.snd.snd.snd.fst,
                    y384.snd.snd.snd.snd.snd.snd.snd.snd.snd.fst, y384.snd.snd.snd.snd.snd.snd.snd.snd.snd.snd.fst,
                    y384.snd.snd.snd.snd.snd.snd.snd.snd.snd.snd.snd.fst, y384.snd.snd.snd.snd.snd.snd.snd.snd.snd.snd.snd.snd.fst,
                    y384.snd.snd.snd.snd.snd.snd.snd.snd.snd.snd.snd.snd.snd.fst,
                    y384.snd.snd.snd.snd.snd.snd.snd.snd.snd.snd.snd.snd.snd.snd.fst,
                    y384.snd.snd.snd.snd.snd.snd.snd.snd.snd.snd.snd.snd.snd.snd.snd.fst, ()))
          else none
        else none
      else
        (j60_34
              (x.fst, x.snd.fst, x.snd.snd.fst, x.snd.snd.snd.fst, x.snd.snd.snd.snd.fst, x.snd.snd.snd.snd.snd.fst,
                x.snd.snd.snd.snd.snd.snd.fst, x.snd.snd.snd.snd.snd.snd.snd.fst, x.snd.snd.snd.snd.snd.snd.snd.snd.fst,
                x.snd.snd.snd.snd.snd.snd.snd.snd.snd.fst, x.snd.snd.snd.snd.snd.snd.snd.snd.snd.snd.fst,
                x.snd.snd.snd.snd.snd.snd.snd.snd.snd.snd.snd.fst, x.snd.snd.snd.snd.snd.snd.snd.snd.snd.snd.snd.snd.fst,
                x.snd.snd.snd.snd.snd.snd.snd.snd.snd.snd.snd.snd.snd.fst, x.snd.snd.snd.snd.snd.snd.snd.snd.snd.snd.snd.snd.snd.snd.fst,
                x.snd.snd.snd.snd.snd.snd.snd.snd.snd.snd.snd.snd.snd.snd.snd.fst, ())).bind
          fun y385 =>
          some
            (Sum.inl
              (y385.fst, y385.snd.fst, y385.snd.snd.fst, y385.snd.snd.snd.fst, y385.snd.snd.snd.snd.fst, y385.snd.snd.snd.snd.snd.fst,
                y385.snd.snd.snd.snd.snd.snd.fst, y385.snd.snd.snd.snd.snd.snd.snd.fst, y385.snd.snd.snd.snd.snd.snd.snd.snd.fst,
                y385.snd.snd.snd.snd.snd.snd.snd.snd.snd.fst, y385.snd.snd.snd.snd.snd.snd.snd.snd.snd.snd.fst,
                y385.snd.snd.snd.snd.snd.snd.snd.snd.snd.snd.snd.fst, y385.snd.snd.snd.snd.snd.snd.snd.snd.snd.snd.snd.snd.fst,
                y385.snd.snd.snd.snd.snd.snd.snd.snd.snd.snd.snd.snd.snd.fst,
                y385.snd.snd.snd.snd.snd.snd.snd.snd.snd.snd.snd.snd.snd.snd.fst,
                y385.snd.snd.snd.snd.snd.snd.snd.snd.snd.snd.snd.snd.snd.snd.snd.fst, ()))
  else
    (j60_34
          (x.fst, x.snd.fst, x.snd.snd.fst, x.snd.snd.snd.fst, x.snd.snd.snd.snd.fst, x.snd.snd.snd.snd.snd.fst,
            x.snd.snd.snd.snd.snd.snd.fst, x.snd.snd.snd.snd.snd.snd.snd.fst, x.snd.snd.snd.snd.snd.snd.snd.snd.fst,
            x.snd.snd.snd.snd.snd.snd.snd.snd.snd.fst, x.snd.snd.snd.snd.snd.snd.snd.snd.snd.snd.fst,
            x.snd.snd.snd.snd.snd.snd.snd.snd.snd.snd.snd.fst, x.snd.snd.snd.snd.snd.snd.snd.snd.snd.snd.snd.snd.fst,
            x.snd.snd.snd.snd.snd.snd.snd.snd.snd.snd.snd.snd.snd.fst, x.snd.snd.snd.snd.snd.snd.snd.snd.snd.snd.snd.snd.snd.snd.fst,
            x.snd.snd.snd.snd.snd.snd.snd.snd.snd.snd.snd.snd.snd.snd.snd.fst, ())).bind
      fun y387 =>
      some
        (Sum.inl
          (y387.fst, y387.snd.fst, y387.snd.snd.fst, y387.snd.snd.snd.fst, y387.snd.snd.snd.snd.fst, y387.snd.snd.snd.snd.snd.fst,
            y387.snd.snd.snd.snd.snd.snd.fst, y387.snd.snd.snd.snd.snd.snd.snd.fst, y387.snd.snd.snd.snd.snd.snd.snd.snd.fst,
            y387.snd.snd.snd.snd.snd.snd.snd.snd.snd.fst, y387.snd.snd.snd.snd.snd.snd.snd.snd.snd.snd.fst,
            y387.snd.snd.snd.snd.snd.snd.snd.snd.snd.snd.snd.fst, y387.snd.snd.snd.snd.snd.snd.snd.snd.snd.snd.snd.snd.fst,
            y387.snd.snd.snd.snd.snd.snd.snd.snd.snd.snd.snd.snd.snd.fst, y387.snd.snd.snd.snd.snd.snd.snd.snd.snd.snd.snd.snd.snd.snd.fst,
            y387.snd.snd.snd.snd.snd.snd.snd.snd.snd.snd.snd.snd.snd.snd.snd.fst, ()))
else
  some
    (Sum.inr
      (x.fst, x.snd.fst, x.snd.snd.fst, x.snd.snd.snd.fst, x.snd.snd.snd.snd.fst, x.snd.snd.snd.snd.snd.fst, x.snd.snd.snd.snd.snd.snd.fst,
        x.snd.snd.snd.snd.snd.snd.snd.snd.fst, x.snd.snd.snd.snd.snd.snd.snd.snd.snd.fst, x.snd.snd.snd.snd.snd.snd.snd.snd.snd.snd.fst,
        x.snd.snd.snd.snd.snd.snd.snd.snd.snd.snd.snd.fst, x.snd.snd.snd.snd.snd.snd.snd.snd.snd.snd.snd.snd.fst,
        x.snd.snd.snd.snd.snd.snd.snd.snd.snd.snd.snd.snd.snd.fst, x.snd.snd.snd.snd.snd.snd.snd.snd.snd.snd.snd.snd.snd.snd.fst,
        x.snd.snd.snd.snd.snd.snd.snd.snd.snd.snd.snd.snd.snd.snd.snd.fst, ()))
theorem r60_6_run0 (v0 : Int) (v1 : Int) (v2 : Int) (v3 : Int) (v4 : Int) (v5 : Nat) (v6 : Int) (v7 : Int) (v8 : Int) (v9 : Int) (v10 : Int) (v11 : Int) (v12 : Int) (v13 : Int) (v14 : Int) (v15 : List Pt) : roundK tC G60 (look [(34, W60_34)]) c60_6 p60_6 (v0, v1, v2, v3, v4, v5, v6, v7, v8, v9, v10, v11, v12, v13, v14, v15, ()) = r60_6 (v0, v1, v2, v3, v4, v5, v6, v7, v8, v9, v10, v11, v12, v13, v14, v15, ()) := by kernel_rfl
theorem r60_6_run (x : Int × Int × Int × Int × Int × Nat × Int × Int × Int × Int × Int × Int × Int × Int × Int × List Pt × Unit) : roundK tC G60 (look [(34, W60_34)]) c60_6 p60_6 x = r60_6 x := r60_6_run0 x.1 x.2.1 x.2.2.1 x.2.2.2.1 x.2.2.2.2.1 x.2.2.2.2.2.1 x.2.2.2.2.2.2.1 x.2.2.2.2.2.2.2.1 x.2.2.2.2.2.2.2.2.1 x.2.2.2.2.2.2.2.2.2.1 x.2.2.2.2.2.2.2.2.2.2.1 x.2.2.2.2.2.2.2.2.2.2.2.1 x.2.2.2.2.2.2.2.2.2.2.2.2.1 x.2.2.2.2.2.2.2.2.2.2.2.2.2.1 x.2.2.2.2.2.2.2.2.2.2.2.2.2.2.1 x.2.2.2.2.2.2.2.2.2.2.2.2.2.2.2.1
noncomputable def l60_6 (x : Int × Int × Int × Int × Int × Nat × Int × Int × Int × Int × Int × Int × Int × Int × Int × List Pt × Unit) : Option (Int × Int × Int × Int × Int × Nat × Int × Int × Int × Int × Int × Int × Int × Int × List Pt × Unit) := iterO r60_6 x
noncomputable def W60_6 : LF tC := loopW tC p60_6 2 l60_6
theorem W60_6_ok : keyed 6 (loopOf (bodyOf Tryz.f60) 0) = [.block 2 (.loop c60_6)] ∧ ∀ n, n ≤ 0 → Snd tC n (.block 2 (.loop c60_6)) W60_6.k := ⟨by kernel_rfl, fun n hn => loopW_ok (p := p60_6) (id := 2) Y60 (lam_le (lam_cons W60_34_ok lam_nil) n hn) hn r60_6_run⟩
noncomputable def c60_0 : Code := loopOf (bodyOf Tryz.f60) 0
def p60_0 : LS := ⟨0, [2, 3, 4, 5, 13, 14, 16, 17, 18], ⟨[vB, vB, vI, vI, .one (.one (.ptr 0 0 0)), .one (.one (.ptr 1 0 0))] ++ vBs 7 ++ [vI, vI, vB, vI, .one (.one (.sl 2)), vI] ++ vBs 80, [.box [.int .i64, .int .i64, .int .i64, .int .i64], .box [.int .i64, .int .i64, .int .i64], .arr 66]⟩, [⟨.exit 0, [17], ⟨vBs 17 ++ [.one (.one (.sl 0))] ++ vBs 81, [.arr 66]⟩, []⟩], [(17, 66)]⟩
noncomputable def r60_0 (x : Int × Int × Int × Int × Int × Nat × Int × Int × Int × Int × Int × Int × Int × Int × List Pt × Unit) : Option (Int × Int × Int × Int × Int × Nat × Int × Int × Int × Int × Int × Int × Int × Int × List Pt × Unit ⊕ Nat × List Pt × Unit) :=
  bif decide (x.snd.snd.snd.snd.snd.snd.fst ≤ x.snd.snd.snd.snd.fst) then
  (l60_6
        (x.fst, x.snd.fst, x.snd.snd.fst, x.snd.snd.snd.fst, x.snd.snd.snd.snd.fst, x.snd.snd.snd.snd.snd.fst,
          x.snd.snd.snd.snd.snd.snd.fst, x.snd.snd.fst, x.snd.snd.snd.snd.snd.snd.snd.fst, x.snd.snd.snd.snd.snd.snd.snd.snd.fst,
          x.snd.snd.snd.snd.snd.snd.snd.snd.snd.fst, x.snd.snd.snd.snd.snd.snd.snd.snd.snd.snd.fst,
          x.snd.snd.snd.snd.snd.snd.snd.snd.snd.snd.snd.fst, x.snd.snd.snd.snd.snd.snd.snd.snd.snd.snd.snd.snd.fst,
          x.snd.snd.snd.snd.snd.snd.snd.snd.snd.snd.snd.snd.snd.fst, x.snd.snd.snd.snd.snd.snd.snd.snd.snd.snd.snd.snd.snd.snd.fst,
          ())).bind
    fun y405 =>
    some
      (Sum.inl
        (y405.fst, y405.snd.fst, y405.snd.snd.fst, y405.snd.snd.snd.fst, y405.snd.snd.snd.snd.fst, y405.snd.snd.snd.snd.snd.fst,
          IntKind.i64.wrap (y405.snd.snd.snd.snd.snd.snd.fst + (1 : Int)), y405.snd.snd.snd.snd.snd.snd.snd.fst,
          y405.snd.snd.snd.snd.snd.snd.snd.snd.fst, y405.snd.snd.snd.snd.snd.snd.snd.snd.snd.fst,
          y405.snd.snd.snd.snd.snd.snd.snd.snd.snd.snd.fst, y405.snd.snd.snd.snd.snd.snd.snd.snd.snd.snd.snd.fst,
          y405.snd.snd.snd.snd.snd.snd.snd.snd.snd.snd.snd.snd.fst, y405.snd.snd.snd.snd.snd.snd.snd.snd.snd.snd.snd.snd.snd.fst,
          y405.snd.snd.snd.snd.snd.snd.snd.snd.snd.snd.snd.snd.snd.snd.fst, ()))
else some (Sum.inr (x.snd.snd.snd.snd.snd.fst, x.snd.snd.snd.snd.snd.snd.snd.snd.snd.snd.snd.snd.snd.snd.fst, ()))
theorem r60_0_run0 (v0 : Int) (v1 : Int) (v2 : Int) (v3 : Int) (v4 : Int) (v5 : Nat) (v6 : Int) (v7 : Int) (v8 : Int) (v9 : Int) (v10 : Int) (v11 : Int) (v12 : Int) (v13 : Int) (v14 : List Pt) : roundK tC G60 (look [(6, W60_6)]) c60_0 p60_0 (v0, v1, v2, v3, v4, v5, v6, v7, v8, v9, v10, v11, v12, v13, v14, ()) = r60_0 (v0, v1, v2, v3, v4, v5, v6, v7, v8, v9, v10, v11, v12, v13, v14, ()) := by kernel_rfl
theorem r60_0_run (x : Int × Int × Int × Int × Int × Nat × Int × Int × Int × Int × Int × Int × Int × Int × List Pt × Unit) : roundK tC G60 (look [(6, W60_6)]) c60_0 p60_0 x = r60_0 x := r60_0_run0 x.1 x.2.1 x.2.2.1 x.2.2.2.1 x.2.2.2.2.1 x.2.2.2.2.2.1 x.2.2.2.2.2.2.1 x.2.2.2.2.2.2.2.1 x.2.2.2.2.2.2.2.2.1 x.2.2.2.2.2.2.2.2.2.1 x.2.2.2.2.2.2.2.2.2.2.1 x.2.2.2.2.2.2.2.2.2.2.2.1 x.2.2.2.2.2.2.2.2.2.2.2.2.1 x.2.2.2.2.2.2.2.2.2.2.2.2.2.1 x.2.2.2.2.2.2.2.2.2.2.2.2.2.2.1
noncomputable def l60_0 (x : Int × Int × Int × Int × Int × Nat × Int × Int × Int × Int × Int × Int × Int × Int × List Pt × Unit) : Option (Nat × List Pt × Unit) := iterO r60_0 x
noncomputable def W60_0 : LF tC := loopW tC p60_0 0 l60_0
theorem W60_0_ok : keyed 0 (bodyOf Tryz.f60) = [.block 0 (.loop c60_0)] ∧ ∀ n, n ≤ 0 → Snd tC n (.block 0 (.loop c60_0)) W60_0.k := ⟨by kernel_rfl, fun n hn => loopW_ok (p := p60_0) (id := 0) Y60 (lam_le (lam_cons W60_6_ok lam_nil) n hn) hn r60_0_run⟩
def S60 : FS := ⟨[[.v, .v, .v, .v], [.v, .v, .v], [.v], [.v]], [⟨[.one (.agg [.int .i64, .int .i64, .int .i64, .int .i64]), .one (.agg [.int .i64, .int .i64, .int .i64]), vI, vI], []⟩], [⟨[.one (.one (.sl 0))], [.arr 66]⟩], [[.v]], [(8, 66)]⟩
noncomputable def f60 (x : Int × Int × Int × Int × Int × Int × Int × Int × Int × Unit) : Option (Nat × List Pt × Unit) :=
  (f77
      (x.fst, x.snd.snd.fst, x.snd.snd.snd.snd.fst, x.snd.snd.snd.snd.snd.snd.fst, x.snd.snd.snd.snd.snd.snd.snd.fst,
        x.snd.snd.snd.snd.snd.snd.snd.snd.fst, ())).bind
  fun y414 =>
  (f77
        (x.snd.fst, x.snd.snd.snd.fst, x.snd.snd.snd.snd.snd.fst, x.snd.snd.snd.snd.snd.snd.fst, x.snd.snd.snd.snd.snd.snd.snd.fst,
          x.snd.snd.snd.snd.snd.snd.snd.snd.fst, ())).bind
    fun y413 =>
    (f78 (y414.fst, y414.snd.fst, ())).bind fun y412 =>
      (f78 (y413.fst, y413.snd.fst, ())).bind fun y411 =>
        (l60_0
              (x.snd.snd.snd.snd.snd.snd.snd.fst, x.snd.snd.snd.snd.snd.snd.snd.snd.fst, y412.fst, y412.snd.fst, y411.snd.fst, (0 : Nat),
                y411.fst, x.fst, x.snd.fst, x.snd.snd.fst, x.snd.snd.snd.fst, x.snd.snd.snd.snd.fst, x.snd.snd.snd.snd.snd.fst,
                x.snd.snd.snd.snd.snd.snd.fst, [], ())).bind
          fun y410 => some (y410.fst, y410.snd.fst, ())
noncomputable def F60 : CF tC := mkF tC S60 f60
theorem f60_run : ∀ a, fnS tC G60 (look [(0, W60_0)]) Tryz.f60 S60 a = f60 a := fun a => by kernel_rfl
theorem F60_ok : CFOK tC 60 F60 := mkF_ok Y60 (fn := Tryz.f60) (body := bodyOf Tryz.f60) (by kernel_rfl) (by kernel_rfl) (by kernel_rfl) (m := 0) rfl (lam_le (lam_cons W60_0_ok lam_nil)) f60_run

/-! plan.Traced -/
noncomputable def G33 : FuncId → Option (CF tC) := look [(58, F58), (59, F59), (60, F60)]
theorem Y33 : SysN tC G33 := (sys_cons F58_ok (mkF_nat _ _) (sys_cons F59_ok (mkF_nat _ _) (sys_cons F60_ok (mkF_nat _ _) (sys_nil tC_ok tC_eq))))
def S33 : FS := ⟨[[.v, .v], [.v, .v, .v], [.v], [.v]], [⟨[.one (.agg [.int .i64, .int .i64]), .one (.agg [.int .i64, .int .i64, .int .i64]), vI, vI], []⟩], [⟨[.tup [.one (.sl 0), .one (.int .i64)]], [.arr 66]⟩], [[.v], [.v]], [(8, 66)]⟩
noncomputable def f33 (x : Int × Int × Int × Int × Int × Int × Int × Unit) : Option (Nat × Int × List Pt × Unit) :=
  bif !f58 x.fst x.snd.fst then some ((0 : Nat), (1 : Int), [], ())
else
  bif !f59 x.snd.snd.fst x.snd.snd.snd.fst x.snd.snd.snd.snd.fst then some ((0 : Nat), (1 : Int), [], ())
  else
    bif decide (x.snd.snd.snd.snd.snd.fst < (0 : Int)) then some ((0 : Nat), (2 : Int), [], ())
    else
      bif decide (x.snd.snd.snd.snd.snd.snd.fst < x.snd.snd.snd.snd.snd.fst) then some ((0 : Nat), (2 : Int), [], ())
      else
        bif decide (x.snd.snd.snd.snd.snd.snd.fst > (2048 : Int)) then some ((0 : Nat), (2 : Int), [], ())
        else
          (f60
                (x.fst, x.snd.fst, x.fst, x.snd.fst, x.snd.snd.fst, x.snd.snd.snd.fst, x.snd.snd.snd.snd.fst, x.snd.snd.snd.snd.snd.fst,
                  x.snd.snd.snd.snd.snd.snd.fst, ())).bind
            fun y13 => some (y13.fst, (0 : Int), y13.snd.fst, ())
noncomputable def F33 : CF tC := mkF tC S33 f33
theorem f33_run : ∀ a, fnS tC G33 (look []) Tryz.f33 S33 a = f33 a := fun a => by kernel_rfl
theorem F33_ok : CFOK tC 33 F33 := mkF_ok Y33 (fn := Tryz.f33) (body := bodyOf Tryz.f33) (by kernel_rfl) (by kernel_rfl) (by kernel_rfl) (m := 0) rfl (lam_le lam_nil) f33_run

/-! heading.mark -/
noncomputable def G75 : FuncId → Option (CF tC) := look []
theorem Y75 : SysN tC G75 := (sys_nil tC_ok tC_eq)
def S75 : FS := ⟨[[.v]], [⟨[vI], []⟩], [⟨[vI], []⟩], [[.v]], []⟩
def f75 (n1 : Int) : Int :=
  bits BinOp.and IntKind.i64 n1 (255 : Int)
noncomputable def F75 : CF tC := mkF tC S75 (fun a => some ((f75 a.1), ()))
def h75 (r : Int) : Option (altTy tE S75.outs) := some (r, ())
theorem f75_run : ∀ a, fnS tC G75 (look []) Tryz.f75 S75 a = (fun a => some ((f75 a.1), ())) a := fun a => by
  have key : ∀ (n1 : Int), (h75 (bits BinOp.and IntKind.i64 n1 (255 : Int))) = h75 (f75 n1) := by
    intros
    unfold f75
    repeat' first | rfl | refine cond_h (g := h75) ?_ ?_
  exact Eq.trans (by kernel_rfl) (key a.1)
theorem F75_ok : CFOK tC 75 F75 := mkF_ok Y75 (fn := Tryz.f75) (body := bodyOf Tryz.f75) (by kernel_rfl) (by kernel_rfl) (by kernel_rfl) (m := 0) rfl (lam_le lam_nil) f75_run

/-! heading.lowest -/
noncomputable def G74 : FuncId → Option (CF tC) := look []
theorem Y74 : SysN tC G74 := (sys_nil tC_ok tC_eq)
noncomputable def c74_6 : Code := loopOf (loopOf (bodyOf Tryz.f74) 0) 2
def p74_6 : LS := ⟨0, [0, 1, 2, 6, 7, 9, 13, 14], ⟨[vI, vI, vI, vB, vB, vB, .one (.one (.ptr 0 0 0)), vI, vB, vI, vB, vB, vB, .one (.agg [.int .i64, .int .i64]), vI] ++ vBs 23, [.box [.int .i64, .int .i64, .int .i64]]⟩, [⟨.exit 2, [0, 1, 2, 6, 7, 13, 14], ⟨[vI, vI, vI, vB, vB, vB, .one (.one (.ptr 0 0 0)), vI] ++ vBs 5 ++ [.one (.agg [.int .i64, .int .i64]), vI] ++ vBs 23, [.box [.int .i64, .int .i64, .int .i64]]⟩, []⟩], []⟩
noncomputable def r74_6 (x : Int × Int × Int × Int × Int × Int × Int × Int × Int × Int × Int × Unit) : Option
  (Int × Int × Int × Int × Int × Int × Int × Int × Int × Int × Int × Unit ⊕
    Int × Int × Int × Int × Int × Int × Int × Int × Int × Int × Unit) :=
  bif x.snd.snd.snd.snd.fst != (0 : Int) then
  bif x.snd.snd.snd.snd.fst == (0 : Int) then none
  else
    some
      (Sum.inl
        (x.fst, x.snd.fst, x.snd.snd.fst, x.snd.snd.snd.snd.fst, x.snd.snd.snd.fst.tmod x.snd.snd.snd.snd.fst, x.snd.snd.snd.snd.snd.fst,
          x.snd.snd.snd.snd.snd.snd.fst, x.snd.snd.snd.snd.snd.snd.snd.fst, x.snd.snd.snd.snd.snd.snd.snd.snd.fst,
          x.snd.snd.snd.snd.snd.snd.snd.snd.snd.fst, x.snd.snd.snd.snd.snd.snd.snd.snd.snd.snd.fst, ()))
else
  some
    (Sum.inr
      (x.fst, x.snd.fst, x.snd.snd.fst, x.snd.snd.snd.fst, x.snd.snd.snd.snd.snd.fst, x.snd.snd.snd.snd.snd.snd.fst,
        x.snd.snd.snd.snd.snd.snd.snd.fst, x.snd.snd.snd.snd.snd.snd.snd.snd.fst, x.snd.snd.snd.snd.snd.snd.snd.snd.snd.fst,
        x.snd.snd.snd.snd.snd.snd.snd.snd.snd.snd.fst, ()))
theorem r74_6_run0 (v0 : Int) (v1 : Int) (v2 : Int) (v3 : Int) (v4 : Int) (v5 : Int) (v6 : Int) (v7 : Int) (v8 : Int) (v9 : Int) (v10 : Int) : roundK tC G74 (look []) c74_6 p74_6 (v0, v1, v2, v3, v4, v5, v6, v7, v8, v9, v10, ()) = r74_6 (v0, v1, v2, v3, v4, v5, v6, v7, v8, v9, v10, ()) := by kernel_rfl
theorem r74_6_run (x : Int × Int × Int × Int × Int × Int × Int × Int × Int × Int × Int × Unit) : roundK tC G74 (look []) c74_6 p74_6 x = r74_6 x := r74_6_run0 x.1 x.2.1 x.2.2.1 x.2.2.2.1 x.2.2.2.2.1 x.2.2.2.2.2.1 x.2.2.2.2.2.2.1 x.2.2.2.2.2.2.2.1 x.2.2.2.2.2.2.2.2.1 x.2.2.2.2.2.2.2.2.2.1 x.2.2.2.2.2.2.2.2.2.2.1
noncomputable def l74_6 (x : Int × Int × Int × Int × Int × Int × Int × Int × Int × Int × Int × Unit) : Option (Int × Int × Int × Int × Int × Int × Int × Int × Int × Int × Unit) := iterO r74_6 x
noncomputable def W74_6 : LF tC := loopW tC p74_6 2 l74_6
theorem W74_6_ok : keyed 6 (loopOf (bodyOf Tryz.f74) 0) = [.block 2 (.loop c74_6)] ∧ ∀ n, n ≤ 0 → Snd tC n (.block 2 (.loop c74_6)) W74_6.k := ⟨by kernel_rfl, fun n hn => loopW_ok (p := p74_6) (id := 2) Y74 (lam_le lam_nil n hn) hn r74_6_run⟩
noncomputable def c74_0 : Code := loopOf (bodyOf Tryz.f74) 0
def p74_0 : LS := ⟨0, [0, 1, 2, 6, 7, 13, 14], ⟨[vI, vI, vI, vB, vB, vB, .one (.one (.ptr 0 0 0)), vI] ++ vBs 5 ++ [.one (.agg [.int .i64, .int .i64]), vI] ++ vBs 23, [.box [.int .i64, .int .i64, .int .i64]]⟩, [⟨.exit 0, [0, 1, 2, 6, 7], ⟨[vI, vI, vI, vB, vB, vB, .one (.one (.ptr 0 0 0)), vI] ++ vBs 30, [.box [.int .i64, .int .i64, .int .i64]]⟩, []⟩], []⟩
noncomputable def r74_0 (x : Int × Int × Int × Int × Int × Int × Int × Int × Int × Int × Unit) : Option (Int × Int × Int × Int × Int × Int × Int × Int × Int × Int × Unit ⊕ Int × Int × Int × Int × Int × Int × Int × Unit) :=
  bif decide (x.snd.snd.snd.snd.snd.snd.fst < (2 : Int)) then
  bif decide ((0 : Int) ≤ x.snd.snd.snd.snd.snd.snd.fst) && decide (x.snd.snd.snd.snd.snd.snd.fst < (2 : Int)) then
    (idxO [x.snd.snd.snd.snd.fst, x.snd.snd.snd.snd.snd.fst] x.snd.snd.snd.snd.snd.snd.fst).bind fun y54 =>
      (l74_6
            (x.fst, x.snd.fst, x.snd.snd.fst, x.snd.snd.snd.fst,
              bif decide (IntKind.i64.wrap ((0 : Int) - y54) > y54) then IntKind.i64.wrap ((0 : Int) - y54) else y54, x.snd.snd.snd.snd.fst,
              x.snd.snd.snd.snd.snd.fst, x.snd.snd.snd.snd.snd.snd.fst, x.snd.snd.snd.snd.snd.snd.snd.fst,
              x.snd.snd.snd.snd.snd.snd.snd.snd.fst, x.snd.snd.snd.snd.snd.snd.snd.snd.snd.fst, ())).bind
        fun y53 =>
        some
          (Sum.inl
            (y53.fst, y53.snd.fst, y53.snd.snd.fst, y53.snd.snd.snd.fst, y53.snd.snd.snd.snd.fst, y53.snd.snd.snd.snd.snd.fst,
              IntKind.i64.wrap (y53.snd.snd.snd.snd.snd.snd.fst + (1 : Int)), y53.snd.snd.snd.snd.snd.snd.snd.fst,
              y53.snd.snd.snd.snd.snd.snd.snd.snd.fst, y53.snd.snd.snd.snd.snd.snd.snd.snd.snd.fst, ()))
  else none
else
  some
    (Sum.inr
      (x.fst, x.snd.fst, x.snd.snd.fst, x.snd.snd.snd.fst, x.snd.snd.snd.snd.snd.snd.snd.fst, x.snd.snd.snd.snd.snd.snd.snd.snd.fst,
        x.snd.snd.snd.snd.snd.snd.snd.snd.snd.fst, ()))
theorem r74_0_run0 (v0 : Int) (v1 : Int) (v2 : Int) (v3 : Int) (v4 : Int) (v5 : Int) (v6 : Int) (v7 : Int) (v8 : Int) (v9 : Int) : roundK tC G74 (look [(6, W74_6)]) c74_0 p74_0 (v0, v1, v2, v3, v4, v5, v6, v7, v8, v9, ()) = r74_0 (v0, v1, v2, v3, v4, v5, v6, v7, v8, v9, ()) := by kernel_rfl
theorem r74_0_run (x : Int × Int × Int × Int × Int × Int × Int × Int × Int × Int × Unit) : roundK tC G74 (look [(6, W74_6)]) c74_0 p74_0 x = r74_0 x := r74_0_run0 x.1 x.2.1 x.2.2.1 x.2.2.2.1 x.2.2.2.2.1 x.2.2.2.2.2.1 x.2.2.2.2.2.2.1 x.2.2.2.2.2.2.2.1 x.2.2.2.2.2.2.2.2.1 x.2.2.2.2.2.2.2.2.2.1
noncomputable def l74_0 (x : Int × Int × Int × Int × Int × Int × Int × Int × Int × Int × Unit) : Option (Int × Int × Int × Int × Int × Int × Int × Unit) := iterO r74_0 x
noncomputable def W74_0 : LF tC := loopW tC p74_0 0 l74_0
theorem W74_0_ok : keyed 0 (bodyOf Tryz.f74) = [.block 0 (.loop c74_0)] ∧ ∀ n, n ≤ 0 → Snd tC n (.block 0 (.loop c74_0)) W74_0.k := ⟨by kernel_rfl, fun n hn => loopW_ok (p := p74_0) (id := 0) Y74 (lam_le (lam_cons W74_6_ok lam_nil) n hn) hn r74_0_run⟩
def S74 : FS := ⟨[[.v], [.v], [.v]], [⟨[vI, vI, vI], []⟩], [⟨[.one (.agg [.int .i64, .int .i64, .int .i64])], []⟩], [[.v, .v, .v]], []⟩
noncomputable def f74 (x : Int × Int × Int × Unit) : Option (Int × Int × Int × Unit) :=
  (l74_0 (x.fst, x.snd.fst, x.snd.snd.fst, x.snd.snd.fst, x.fst, x.snd.fst, (0 : Int), (0 : Int), (0 : Int), (0 : Int), ())).bind fun y65 =>
  bif y65.snd.snd.snd.fst == (0 : Int) then none
  else
    bif y65.snd.snd.snd.fst == (0 : Int) then none
    else
      bif y65.snd.snd.snd.fst == (0 : Int) then none
      else
        some
          (IntKind.i64.wrap (y65.fst.tdiv y65.snd.snd.snd.fst), IntKind.i64.wrap (y65.snd.fst.tdiv y65.snd.snd.snd.fst),
            IntKind.i64.wrap (y65.snd.snd.fst.tdiv y65.snd.snd.snd.fst), ())
noncomputable def F74 : CF tC := mkF tC S74 f74
theorem f74_run : ∀ a, fnS tC G74 (look [(0, W74_0)]) Tryz.f74 S74 a = f74 a := fun a => by kernel_rfl
theorem F74_ok : CFOK tC 74 F74 := mkF_ok Y74 (fn := Tryz.f74) (body := bodyOf Tryz.f74) (by kernel_rfl) (by kernel_rfl) (by kernel_rfl) (m := 0) rfl (lam_le (lam_cons W74_0_ok lam_nil)) f74_run

/-! heading.Dir -/
noncomputable def G57 : FuncId → Option (CF tC) := look [(75, F75), (74, F74)]
theorem Y57 : SysN tC G57 := (sys_cons F75_ok (mkF_nat _ _) (sys_cons F74_ok (mkF_nat _ _) (sys_nil tC_ok tC_eq)))
noncomputable def c57_0 : Code := loopOf (bodyOf Tryz.f57) 0
def p57_0 : LS := ⟨0, [2, 4, 21, 22], ⟨[vB, vB, .one (.one (.ptr 0 0 0)), vB, .one (.one (.ptr 1 0 0))] ++ vBs 16 ++ [vI, vI] ++ vBs 10, [.box [.int .i64, .int .i64, .int .i64], .box [.int .i64, .int .i64, .int .i64]]⟩, [⟨.exit 0, [2, 4], ⟨[vB, vB, .one (.one (.ptr 0 0 0)), vB, .one (.one (.ptr 1 0 0))] ++ vBs 28, [.box [.int .i64, .int .i64, .int .i64], .box [.int .i64, .int .i64, .int .i64]]⟩, []⟩], []⟩
noncomputable def r57_0 (x : Int × Int × Int × Int × Int × Int × Int × Int × Unit) : Option (Int × Int × Int × Int × Int × Int × Int × Int × Unit ⊕ Int × Int × Int × Int × Int × Int × Unit) :=
  bif decide (x.snd.fst < x.fst) then
  some
    (Sum.inl
      (x.fst, IntKind.i64.wrap (x.snd.fst + (1 : Int)), x.snd.snd.fst, x.snd.snd.snd.fst, x.snd.snd.snd.snd.fst,
        IntKind.i64.wrap ((0 : Int) - x.snd.snd.snd.snd.snd.snd.fst), x.snd.snd.snd.snd.snd.fst, x.snd.snd.snd.snd.snd.snd.snd.fst, ()))
else
  some
    (Sum.inr
      (x.snd.snd.fst, x.snd.snd.snd.fst, x.snd.snd.snd.snd.fst, x.snd.snd.snd.snd.snd.fst, x.snd.snd.snd.snd.snd.snd.fst,
        x.snd.snd.snd.snd.snd.snd.snd.fst, ()))
theorem r57_0_run0 (v0 : Int) (v1 : Int) (v2 : Int) (v3 : Int) (v4 : Int) (v5 : Int) (v6 : Int) (v7 : Int) : roundK tC G57 (look []) c57_0 p57_0 (v0, v1, v2, v3, v4, v5, v6, v7, ()) = r57_0 (v0, v1, v2, v3, v4, v5, v6, v7, ()) := by kernel_rfl
theorem r57_0_run (x : Int × Int × Int × Int × Int × Int × Int × Int × Unit) : roundK tC G57 (look []) c57_0 p57_0 x = r57_0 x := r57_0_run0 x.1 x.2.1 x.2.2.1 x.2.2.2.1 x.2.2.2.2.1 x.2.2.2.2.2.1 x.2.2.2.2.2.2.1 x.2.2.2.2.2.2.2.1
noncomputable def l57_0 (x : Int × Int × Int × Int × Int × Int × Int × Int × Unit) : Option (Int × Int × Int × Int × Int × Int × Unit) := iterO r57_0 x
noncomputable def W57_0 : LF tC := loopW tC p57_0 0 l57_0
theorem W57_0_ok : keyed 0 (bodyOf Tryz.f57) = [.block 0 (.loop c57_0)] ∧ ∀ n, n ≤ 0 → Snd tC n (.block 0 (.loop c57_0)) W57_0.k := ⟨by kernel_rfl, fun n hn => loopW_ok (p := p57_0) (id := 0) Y57 (lam_le lam_nil n hn) hn r57_0_run⟩
def S57 : FS := ⟨[[.v]], [⟨[vI], []⟩], [⟨[.one (.agg [.int .i64, .int .i64, .int .i64])], []⟩], [[.v, .v, .v]], []⟩
noncomputable def f57 (x : Int × Unit) : Option (Int × Int × Int × Unit) :=
  (f74
      (IntKind.i64.wrap ((4096 : Int) - IntKind.i64.wrap ((f75 x.fst).tmod (64 : Int) * (f75 x.fst).tmod (64 : Int))),
        IntKind.i64.wrap ((128 : Int) * (f75 x.fst).tmod (64 : Int)),
        IntKind.i64.wrap ((4096 : Int) + IntKind.i64.wrap ((f75 x.fst).tmod (64 : Int) * (f75 x.fst).tmod (64 : Int))), ())).bind
  fun y29 =>
  (l57_0
        (IntKind.i64.wrap ((f75 x.fst).tdiv (64 : Int)), (0 : Int), (0 : Int), (0 : Int), (0 : Int), y29.fst, y29.snd.fst, y29.snd.snd.fst,
          ())).bind
    fun y28 => some (y28.snd.snd.snd.fst, y28.snd.snd.snd.snd.fst, y28.snd.snd.snd.snd.snd.fst, ())
noncomputable def F57 : CF tC := mkF tC S57 f57
theorem f57_run : ∀ a, fnS tC G57 (look [(0, W57_0)]) Tryz.f57 S57 a = f57 a := fun a => by kernel_rfl
theorem F57_ok : CFOK tC 57 F57 := mkF_ok Y57 (fn := Tryz.f57) (body := bodyOf Tryz.f57) (by kernel_rfl) (by kernel_rfl) (by kernel_rfl) (m := 0) rfl (lam_le (lam_cons W57_0_ok lam_nil)) f57_run

/-! heading.Valid -/
noncomputable def G73 : FuncId → Option (CF tC) := look []
theorem Y73 : SysN tC G73 := (sys_nil tC_ok tC_eq)
def S73 : FS := ⟨[[.v, .v, .v]], [⟨[.one (.agg [.int .i64, .int .i64, .int .i64])], []⟩], [⟨[vO], []⟩], [[.v]], []⟩
def f73 (n1 : Int) (n2 : Int) (n3 : Int) : Bool :=
  bif decide (n3 < (1 : Int)) then false
else
  bif decide (n3 > (67108864 : Int)) then false
  else
    bif decide (n1 < IntKind.i64.wrap ((0 : Int) - n3)) then false
    else
      bif decide (n1 > n3) then false
      else
        bif decide (n2 < IntKind.i64.wrap ((0 : Int) - n3)) then false
        else
          bif decide (n2 > n3) then false
          else IntKind.i64.wrap (IntKind.i64.wrap (n1 * n1) + IntKind.i64.wrap (n2 * n2)) == IntKind.i64.wrap (n3 * n3)
noncomputable def F73 : CF tC := mkF tC S73 (fun a => some ((f73 a.1 a.2.1 a.2.2.1), ()))
def h73 (r : Bool) : Option (altTy tE S73.outs) := some (r, ())
theorem f73_run : ∀ a, fnS tC G73 (look []) Tryz.f73 S73 a = (fun a => some ((f73 a.1 a.2.1 a.2.2.1), ())) a := fun a => by
  have key : ∀ (n1 : Int) (n2 : Int) (n3 : Int), (bif decide (n3 < (1 : Int)) then h73 false
else
  bif decide (n3 > (67108864 : Int)) then h73 false
  else
    bif decide (n1 < IntKind.i64.wrap ((0 : Int) - n3)) then h73 false
    else
      bif decide (n1 > n3) then h73 false
      else
        bif decide (n2 < IntKind.i64.wrap ((0 : Int) - n3)) then h73 false
        else
          bif decide (n2 > n3) then h73 false
          else h73 (IntKind.i64.wrap (IntKind.i64.wrap (n1 * n1) + IntKind.i64.wrap (n2 * n2)) == IntKind.i64.wrap (n3 * n3))) = h73 (f73 n1 n2 n3) := by
    intros
    unfold f73
    repeat' first | rfl | refine cond_h (g := h73) ?_ ?_
  exact Eq.trans (by kernel_rfl) (key a.1 a.2.1 a.2.2.1)
theorem F73_ok : CFOK tC 73 F73 := mkF_ok Y73 (fn := Tryz.f73) (body := bodyOf Tryz.f73) (by kernel_rfl) (by kernel_rfl) (by kernel_rfl) (m := 0) rfl (lam_le lam_nil) f73_run

/-! heading.Turn -/
noncomputable def G56 : FuncId → Option (CF tC) := look [(73, F73), (74, F74)]
theorem Y56 : SysN tC G56 := (sys_cons F73_ok (mkF_nat _ _) (sys_cons F74_ok (mkF_nat _ _) (sys_nil tC_ok tC_eq)))
def S56 : FS := ⟨[[.v, .v, .v], [.v, .v, .v]], [⟨[.one (.agg [.int .i64, .int .i64, .int .i64]), .one (.agg [.int .i64, .int .i64, .int .i64])], []⟩], [⟨[.tup [.agg [.int .i64, .int .i64, .int .i64], .one (.int .i64)]], []⟩], [[.v, .v, .v], [.v]], []⟩
noncomputable def f56 (x : Int × Int × Int × Int × Int × Int × Unit) : Option (Int × Int × Int × Int × Unit) :=
  bif !f73 x.fst x.snd.fst x.snd.snd.fst then some ((0 : Int), (0 : Int), (0 : Int), (1 : Int), ())
else
  bif !f73 x.snd.snd.snd.fst x.snd.snd.snd.snd.fst x.snd.snd.snd.snd.snd.fst then some ((0 : Int), (0 : Int), (0 : Int), (1 : Int), ())
  else
    (f74
          (IntKind.i64.wrap (IntKind.i64.wrap (x.fst * x.snd.snd.snd.fst) - IntKind.i64.wrap (x.snd.fst * x.snd.snd.snd.snd.fst)),
            IntKind.i64.wrap (IntKind.i64.wrap (x.fst * x.snd.snd.snd.snd.fst) + IntKind.i64.wrap (x.snd.fst * x.snd.snd.snd.fst)),
            IntKind.i64.wrap (x.snd.snd.fst * x.snd.snd.snd.snd.snd.fst), ())).bind
      fun y14 =>
      bif decide (y14.snd.snd.fst > (67108864 : Int)) then some ((0 : Int), (0 : Int), (0 : Int), (2 : Int), ())
      else some (y14.fst, y14.snd.fst, y14.snd.snd.fst, (0 : Int), ())
noncomputable def F56 : CF tC := mkF tC S56 f56
theorem f56_run : ∀ a, fnS tC G56 (look []) Tryz.f56 S56 a = f56 a := fun a => by kernel_rfl
theorem F56_ok : CFOK tC 56 F56 := mkF_ok Y56 (fn := Tryz.f56) (body := bodyOf Tryz.f56) (by kernel_rfl) (by kernel_rfl) (by kernel_rfl) (m := 0) rfl (lam_le lam_nil) f56_run

/-! heading.Beam -/
noncomputable def G32 : FuncId → Option (CF tC) := look [(57, F57), (56, F56)]
theorem Y32 : SysN tC G32 := (sys_cons F57_ok (mkF_nat _ _) (sys_cons F56_ok (mkF_nat _ _) (sys_nil tC_ok tC_eq)))
def S32 : FS := ⟨[[.v], [.v]], [⟨[vI, vI], []⟩], [⟨[.one (.agg [.int .i64, .int .i64, .int .i64])], []⟩], [[.v, .v, .v]], []⟩
noncomputable def f32 (x : Int × Int × Unit) : Option (Int × Int × Int × Unit) :=
  (f57 (x.fst, ())).bind fun y18 =>
  (f57 (x.snd.fst, ())).bind fun y17 =>
    (f56 (y18.fst, y18.snd.fst, y18.snd.snd.fst, y17.fst, y17.snd.fst, y17.snd.snd.fst, ())).bind fun y16 =>
      some (y16.fst, y16.snd.fst, y16.snd.snd.fst, ())
noncomputable def F32 : CF tC := mkF tC S32 f32
theorem f32_run : ∀ a, fnS tC G32 (look []) Tryz.f32 S32 a = f32 a := fun a => by kernel_rfl
theorem F32_ok : CFOK tC 32 F32 := mkF_ok Y32 (fn := Tryz.f32) (body := bodyOf Tryz.f32) (by kernel_rfl) (by kernel_rfl) (by kernel_rfl) (m := 0) rfl (lam_le lam_nil) f32_run

/-! evidence.within -/
noncomputable def G30 : FuncId → Option (CF tC) := look []
theorem Y30 : SysN tC G30 := (sys_nil tC_ok tC_eq)
def S30 : FS := ⟨[[.v], [.v]], [⟨[vI, vI], []⟩], [⟨[vO], []⟩], [[.v]], []⟩
def f30 (n1 : Int) (n2 : Int) : Bool :=
  bif decide (n1 ≥ IntKind.i64.wrap ((0 : Int) - n2)) then decide (n1 ≤ n2) else false
noncomputable def F30 : CF tC := mkF tC S30 (fun a => some ((f30 a.1 a.2.1), ()))
def h30 (r : Bool) : Option (altTy tE S30.outs) := some (r, ())
theorem f30_run : ∀ a, fnS tC G30 (look []) Tryz.f30 S30 a = (fun a => some ((f30 a.1 a.2.1), ())) a := fun a => by
  have key : ∀ (n1 : Int) (n2 : Int), (bif decide (n1 ≥ IntKind.i64.wrap ((0 : Int) - n2)) then h30 (decide (n1 ≤ n2)) else h30 false) = h30 (f30 n1 n2) := by
    intros
    unfold f30
    repeat' first | rfl | refine cond_h (g := h30) ?_ ?_
  exact Eq.trans (by kernel_rfl) (key a.1 a.2.1)
theorem F30_ok : CFOK tC 30 F30 := mkF_ok Y30 (fn := Tryz.f30) (body := bodyOf Tryz.f30) (by kernel_rfl) (by kernel_rfl) (by kernel_rfl) (m := 0) rfl (lam_le lam_nil) f30_run

/-! scanned$1 -/
noncomputable def G55 : FuncId → Option (CF tC) := look []
theorem Y55 : SysN tC G55 := (sys_nil tC_ok tC_eq)
def S55 : FS := ⟨[[.v, .v]], [⟨[.one (.agg [.int .i64, .int .i64])], []⟩], [⟨[vO], []⟩], [[.v]], []⟩
def f55 (n1 : Int) (n2 : Int) : Bool :=
  bif decide (n1 < (0 : Int)) then true
else bif decide (n1 ≥ (256 : Int)) then true else bif decide (n2 < (-1 : Int)) then true else decide (n2 > (1024 : Int))
noncomputable def F55 : CF tC := mkF tC S55 (fun a => some ((f55 a.1 a.2.1), ()))
def h55 (r : Bool) : Option (altTy tE S55.outs) := some (r, ())
theorem f55_run : ∀ a, fnS tC G55 (look []) Tryz.f55 S55 a = (fun a => some ((f55 a.1 a.2.1), ())) a := fun a => by
  have key : ∀ (n1 : Int) (n2 : Int), (bif decide (n1 < (0 : Int)) then h55 true
else bif decide (n1 ≥ (256 : Int)) then h55 true else bif decide (n2 < (-1 : Int)) then h55 true else h55 (decide (n2 > (1024 : Int)))) = h55 (f55 n1 n2) := by
    intros
    unfold f55
    repeat' first | rfl | refine cond_h (g := h55) ?_ ?_
  exact Eq.trans (by kernel_rfl) (key a.1 a.2.1)
theorem F55_ok : CFOK tC 55 F55 := mkF_ok Y55 (fn := Tryz.f55) (body := bodyOf Tryz.f55) (by kernel_rfl) (by kernel_rfl) (by kernel_rfl) (m := 0) rfl (lam_le lam_nil) f55_run

/-! slices.IndexFunc[Beam] -/
noncomputable def G70 : FuncId → Option (CF tC) := look [(55, F55)]
theorem Y70 : SysN tC G70 := (sys_cons F55_ok (mkF_nat _ _) (sys_nil tC_ok tC_eq))
noncomputable def c70_0 : Code := loopOf (bodyOf Tryz.f70) 0
def p70_0 : LS := ⟨0, [0, 1, 7, 8], ⟨[.one (.one (.imm 49)), .one (.fn 55 [])] ++ vBs 5 ++ [vI, vI] ++ vBs 10, []⟩, [⟨.ret, [4], ⟨vBs 4 ++ [vI] ++ vBs 14, []⟩, []⟩, ⟨.exit 0, [], ⟨vBs 19, []⟩, []⟩], []⟩
noncomputable def r70_0 (x : List Bm × Int × Int × Unit) : Option (List Bm × Int × Int × Unit ⊕ Int × Unit ⊕ Unit) :=
  bif decide (x.snd.snd.fst < x.snd.fst) then
  (idxO x.fst x.snd.snd.fst).bind fun y7 =>
    bif f55 y7.M y7.R then some (Sum.inr (Sum.inl (x.snd.snd.fst, ())))
    else some (Sum.inl (x.fst, x.snd.fst, IntKind.i64.wrap (x.snd.snd.fst + (1 : Int)), ()))
else some (Sum.inr (Sum.inr ()))
theorem r70_0_run0 (v0 : List Bm) (v1 : Int) (v2 : Int) : roundK tC G70 (look []) c70_0 p70_0 (v0, v1, v2, ()) = r70_0 (v0, v1, v2, ()) := by kernel_rfl
theorem r70_0_run (x : List Bm × Int × Int × Unit) : roundK tC G70 (look []) c70_0 p70_0 x = r70_0 x := r70_0_run0 x.1 x.2.1 x.2.2.1
noncomputable def l70_0 (x : List Bm × Int × Int × Unit) : Option (Int × Unit ⊕ Unit) := iterO r70_0 x
noncomputable def W70_0 : LF tC := loopW tC p70_0 0 l70_0
theorem W70_0_ok : keyed 0 (bodyOf Tryz.f70) = [.block 0 (.loop c70_0)] ∧ ∀ n, n ≤ 0 → Snd tC n (.block 0 (.loop c70_0)) W70_0.k := ⟨by kernel_rfl, fun n hn => loopW_ok (p := p70_0) (id := 0) Y70 (lam_le lam_nil n hn) hn r70_0_run⟩
def S70 : FS := ⟨[[.s 49], [.f]], [⟨[.one (.one (.imm 49)), .one (.fn 55 [])], []⟩], [⟨[vI], []⟩], [[.v]], []⟩
noncomputable def f70 (x : List Bm × Unit) : Option (Int × Unit) :=
  (l70_0 (x.fst, (↑x.fst.length : Int), (0 : Int), ())).bind fun y12 =>
  Sum.elim (fun y10 => some (y10.fst, ())) (fun _x => some ((-1 : Int), ())) y12
noncomputable def F70 : CF tC := mkF tC S70 f70
theorem f70_run : ∀ a, fnS tC G70 (look [(0, W70_0)]) Tryz.f70 S70 a = f70 a := fun a => by kernel_rfl
theorem F70_ok : CFOK tC 70 F70 := mkF_ok Y70 (fn := Tryz.f70) (body := bodyOf Tryz.f70) (by kernel_rfl) (by kernel_rfl) (by kernel_rfl) (m := 0) rfl (lam_le (lam_cons W70_0_ok lam_nil)) f70_run

/-! slices.ContainsFunc[Beam] -/
noncomputable def G44 : FuncId → Option (CF tC) := look [(70, F70), (55, F55)]
theorem Y44 : SysN tC G44 := (sys_cons F70_ok (mkF_nat _ _) (sys_cons F55_ok (mkF_nat _ _) (sys_nil tC_ok tC_eq)))
def S44 : FS := ⟨[[.s 49], [.f]], [⟨[.one (.one (.imm 49)), .one (.fn 55 [])], []⟩], [⟨[vO], []⟩], [[.v]], []⟩
noncomputable def f44 (x : List Bm × Unit) : Option (Bool × Unit) :=
  (f70 (x.fst, ())).bind fun y4 => some (decide (y4.fst ≥ (0 : Int)), ())
noncomputable def F44 : CF tC := mkF tC S44 f44
theorem f44_run : ∀ a, fnS tC G44 (look []) Tryz.f44 S44 a = f44 a := fun a => by kernel_rfl
theorem F44_ok : CFOK tC 44 F44 := mkF_ok Y44 (fn := Tryz.f44) (body := bodyOf Tryz.f44) (by kernel_rfl) (by kernel_rfl) (by kernel_rfl) (m := 0) rfl (lam_le lam_nil) f44_run

/-! evidence.scanned -/
noncomputable def G31 : FuncId → Option (CF tC) := look [(55, F55), (44, F44)]
theorem Y31 : SysN tC G31 := (sys_cons F55_ok (mkF_nat _ _) (sys_cons F44_ok (mkF_nat _ _) (sys_nil tC_ok tC_eq)))
def S31 : FS := ⟨[[.s 49]], [⟨[.one (.one (.imm 49))], []⟩], [⟨[vO], []⟩], [[.v]], []⟩
noncomputable def f31 (x : List Bm × Unit) : Option (Bool × Unit) :=
  bif decide ((↑x.fst.length : Int) ≤ (32 : Int)) then (f44 (x.fst, ())).bind fun y4 => some (!y4.fst, ()) else some (false, ())
noncomputable def F31 : CF tC := mkF tC S31 f31
theorem f31_run : ∀ a, fnS tC G31 (look []) Tryz.f31 S31 a = f31 a := fun a => by kernel_rfl
theorem F31_ok : CFOK tC 31 F31 := mkF_ok Y31 (fn := Tryz.f31) (body := bodyOf Tryz.f31) (by kernel_rfl) (by kernel_rfl) (by kernel_rfl) (m := 0) rfl (lam_le lam_nil) f31_run

/-! validScan$1 -/
noncomputable def G45 : FuncId → Option (CF tC) := look []
theorem Y45 : SysN tC G45 := (sys_nil tC_ok tC_eq)
def S45 : FS := ⟨[[.v, .v]], [⟨[.one (.agg [.int .i64, .int .i64])], []⟩], [⟨[vO], []⟩], [[.v]], []⟩
def f45 (n1 : Int) (n2 : Int) : Bool :=
  bif decide (n1 < (0 : Int)) then true
else bif decide (n1 ≥ (256 : Int)) then true else bif decide (n2 < (-1 : Int)) then true else decide (n2 > (1024 : Int))
noncomputable def F45 : CF tC := mkF tC S45 (fun a => some ((f45 a.1 a.2.1), ()))
def h45 (r : Bool) : Option (altTy tE S45.outs) := some (r, ())
theorem f45_run : ∀ a, fnS tC G45 (look []) Tryz.f45 S45 a = (fun a => some ((f45 a.1 a.2.1), ())) a := fun a => by
  have key : ∀ (n1 : Int) (n2 : Int), (bif decide (n1 < (0 : Int)) then h45 true
else bif decide (n1 ≥ (256 : Int)) then h45 true else bif decide (n2 < (-1 : Int)) then h45 true else h45 (decide (n2 > (1024 : Int)))) = h45 (f45 n1 n2) := by
    intros
    unfold f45
    repeat' first | rfl | refine cond_h (g := h45) ?_ ?_
  exact Eq.trans (by kernel_rfl) (key a.1 a.2.1)
theorem F45_ok : CFOK tC 45 F45 := mkF_ok Y45 (fn := Tryz.f45) (body := bodyOf Tryz.f45) (by kernel_rfl) (by kernel_rfl) (by kernel_rfl) (m := 0) rfl (lam_le lam_nil) f45_run

/-! slices.IndexFunc[Beam] (validScan) -/
noncomputable def G970 : FuncId → Option (CF tC) := look [(45, F45)]
theorem Y970 : SysN tC G970 := (sys_cons F45_ok (mkF_nat _ _) (sys_nil tC_ok tC_eq))
noncomputable def c970_0 : Code := loopOf (bodyOf Tryz.f70) 0
def p970_0 : LS := ⟨0, [0, 1, 7, 8], ⟨[.one (.one (.imm 49)), .one (.fn 45 [])] ++ vBs 5 ++ [vI, vI] ++ vBs 10, []⟩, [⟨.ret, [4], ⟨vBs 4 ++ [vI] ++ vBs 14, []⟩, []⟩, ⟨.exit 0, [], ⟨vBs 19, []⟩, []⟩], []⟩
noncomputable def r970_0 (x : List Bm × Int × Int × Unit) : Option (List Bm × Int × Int × Unit ⊕ Int × Unit ⊕ Unit) :=
  bif decide (x.snd.snd.fst < x.snd.fst) then
  (idxO x.fst x.snd.snd.fst).bind fun y7 =>
    bif f45 y7.M y7.R then some (Sum.inr (Sum.inl (x.snd.snd.fst, ())))
    else some (Sum.inl (x.fst, x.snd.fst, IntKind.i64.wrap (x.snd.snd.fst + (1 : Int)), ()))
else some (Sum.inr (Sum.inr ()))
theorem r970_0_run0 (v0 : List Bm) (v1 : Int) (v2 : Int) : roundK tC G970 (look []) c970_0 p970_0 (v0, v1, v2, ()) = r970_0 (v0, v1, v2, ()) := by kernel_rfl
theorem r970_0_run (x : List Bm × Int × Int × Unit) : roundK tC G970 (look []) c970_0 p970_0 x = r970_0 x := r970_0_run0 x.1 x.2.1 x.2.2.1
noncomputable def l970_0 (x : List Bm × Int × Int × Unit) : Option (Int × Unit ⊕ Unit) := iterO r970_0 x
noncomputable def W970_0 : LF tC := loopW tC p970_0 0 l970_0
theorem W970_0_ok : keyed 0 (bodyOf Tryz.f70) = [.block 0 (.loop c970_0)] ∧ ∀ n, n ≤ 0 → Snd tC n (.block 0 (.loop c970_0)) W970_0.k := ⟨by kernel_rfl, fun n hn => loopW_ok (p := p970_0) (id := 0) Y970 (lam_le lam_nil n hn) hn r970_0_run⟩
def S970 : FS := ⟨[[.s 49], [.f]], [⟨[.one (.one (.imm 49)), .one (.fn 45 [])], []⟩], [⟨[vI], []⟩], [[.v]], []⟩
noncomputable def f970 (x : List Bm × Unit) : Option (Int × Unit) :=
  (l970_0 (x.fst, (↑x.fst.length : Int), (0 : Int), ())).bind fun y12 =>
  Sum.elim (fun y10 => some (y10.fst, ())) (fun _x => some ((-1 : Int), ())) y12
noncomputable def F970 : CF tC := mkF tC S970 f970
theorem f970_run : ∀ a, fnS tC G970 (look [(0, W970_0)]) Tryz.f70 S970 a = f970 a := fun a => by kernel_rfl
theorem F970_ok : CFOK tC 70 F970 := mkF_ok Y970 (fn := Tryz.f70) (body := bodyOf Tryz.f70) (by kernel_rfl) (by kernel_rfl) (by kernel_rfl) (m := 0) rfl (lam_le (lam_cons W970_0_ok lam_nil)) f970_run

/-! slices.ContainsFunc[Beam] (validScan) -/
noncomputable def G944 : FuncId → Option (CF tC) := look [(70, F970), (45, F45)]
theorem Y944 : SysN tC G944 := (sys_cons F970_ok (mkF_nat _ _) (sys_cons F45_ok (mkF_nat _ _) (sys_nil tC_ok tC_eq)))
def S944 : FS := ⟨[[.s 49], [.f]], [⟨[.one (.one (.imm 49)), .one (.fn 45 [])], []⟩], [⟨[vO], []⟩], [[.v]], []⟩
noncomputable def f944 (x : List Bm × Unit) : Option (Bool × Unit) :=
  (f970 (x.fst, ())).bind fun y4 => some (decide (y4.fst ≥ (0 : Int)), ())
noncomputable def F944 : CF tC := mkF tC S944 f944
theorem f944_run : ∀ a, fnS tC G944 (look []) Tryz.f44 S944 a = f944 a := fun a => by kernel_rfl
theorem F944_ok : CFOK tC 44 F944 := mkF_ok Y944 (fn := Tryz.f44) (body := bodyOf Tryz.f44) (by kernel_rfl) (by kernel_rfl) (by kernel_rfl) (m := 0) rfl (lam_le lam_nil) f944_run

/-! atlas.validScan -/
noncomputable def G25 : FuncId → Option (CF tC) := look [(45, F45), (44, F944)]
theorem Y25 : SysN tC G25 := (sys_cons F45_ok (mkF_nat _ _) (sys_cons F944_ok (mkF_nat _ _) (sys_nil tC_ok tC_eq)))
def S25 : FS := ⟨[[.s 49]], [⟨[.one (.one (.imm 49))], []⟩], [⟨[vO], []⟩], [[.v]], []⟩
noncomputable def f25 (x : List Bm × Unit) : Option (Bool × Unit) :=
  bif decide ((↑x.fst.length : Int) ≤ (32 : Int)) then (f944 (x.fst, ())).bind fun y4 => some (!y4.fst, ()) else some (false, ())
noncomputable def F25 : CF tC := mkF tC S25 f25
theorem f25_run : ∀ a, fnS tC G25 (look []) Tryz.f25 S25 a = f25 a := fun a => by kernel_rfl
theorem F25_ok : CFOK tC 25 F25 := mkF_ok Y25 (fn := Tryz.f25) (body := bodyOf Tryz.f25) (by kernel_rfl) (by kernel_rfl) (by kernel_rfl) (m := 0) rfl (lam_le lam_nil) f25_run

/-! slices.Index[Cell] -/
noncomputable def G61 : FuncId → Option (CF tC) := look []
theorem Y61 : SysN tC G61 := (sys_nil tC_ok tC_eq)
noncomputable def c61_0 : Code := loopOf (bodyOf Tryz.f61) 0
def p61_0 : LS := ⟨0, [0, 3, 7, 8], ⟨[.one (.one (.imm 66)), vB, vB, .one (.one (.ptr 0 0 0)), vB, vB, vB, vI, vI] ++ vBs 10, [.box [.int .i64, .int .i64]]⟩, [⟨.ret, [4], ⟨vBs 4 ++ [vI] ++ vBs 14, []⟩, []⟩, ⟨.exit 0, [], ⟨vBs 19, []⟩, []⟩], []⟩
noncomputable def r61_0 (x : List Pt × Int × Int × Int × Int × Unit) : Option (List Pt × Int × Int × Int × Int × Unit ⊕ Int × Unit ⊕ Unit) :=
  bif decide (x.snd.snd.fst < x.snd.fst) then
  (idxO x.fst x.snd.snd.fst).bind fun y11 =>
    bif bif x.snd.snd.snd.fst == y11.X then bif x.snd.snd.snd.snd.fst == y11.Y then true else false else false then
      some (Sum.inr (Sum.inl (x.snd.snd.fst, ())))
    else some (Sum.inl (x.fst, x.snd.fst, IntKind.i64.wrap (x.snd.snd.fst + (1 : Int)), x.snd.snd.snd.fst, x.snd.snd.snd.snd.fst, ()))
else some (Sum.inr (Sum.inr ()))
theorem r61_0_run0 (v0 : List Pt) (v1 : Int) (v2 : Int) (v3 : Int) (v4 : Int) : roundK tC G61 (look []) c61_0 p61_0 (v0, v1, v2, v3, v4, ()) = r61_0 (v0, v1, v2, v3, v4, ()) := by kernel_rfl
theorem r61_0_run (x : List Pt × Int × Int × Int × Int × Unit) : roundK tC G61 (look []) c61_0 p61_0 x = r61_0 x := r61_0_run0 x.1 x.2.1 x.2.2.1 x.2.2.2.1 x.2.2.2.2.1
noncomputable def l61_0 (x : List Pt × Int × Int × Int × Int × Unit) : Option (Int × Unit ⊕ Unit) := iterO r61_0 x
noncomputable def W61_0 : LF tC := loopW tC p61_0 0 l61_0
theorem W61_0_ok : keyed 0 (bodyOf Tryz.f61) = [.block 0 (.loop c61_0)] ∧ ∀ n, n ≤ 0 → Snd tC n (.block 0 (.loop c61_0)) W61_0.k := ⟨by kernel_rfl, fun n hn => loopW_ok (p := p61_0) (id := 0) Y61 (lam_le lam_nil n hn) hn r61_0_run⟩
def S61 : FS := ⟨[[.s 66], [.v, .v]], [⟨[.one (.one (.imm 66)), .one (.agg [.int .i64, .int .i64])], []⟩], [⟨[vI], []⟩], [[.v]], []⟩
noncomputable def f61 (x : List Pt × Int × Int × Unit) : Option (Int × Unit) :=
  (l61_0 (x.fst, (↑x.fst.length : Int), (0 : Int), x.snd.fst, x.snd.snd.fst, ())).bind fun y16 =>
  Sum.elim (fun y14 => some (y14.fst, ())) (fun _x => some ((-1 : Int), ())) y16
noncomputable def F61 : CF tC := mkF tC S61 f61
theorem f61_run : ∀ a, fnS tC G61 (look [(0, W61_0)]) Tryz.f61 S61 a = f61 a := fun a => by kernel_rfl
theorem F61_ok : CFOK tC 61 F61 := mkF_ok Y61 (fn := Tryz.f61) (body := bodyOf Tryz.f61) (by kernel_rfl) (by kernel_rfl) (by kernel_rfl) (m := 0) rfl (lam_le (lam_cons W61_0_ok lam_nil)) f61_run

/-! slices.Contains[Cell] -/
noncomputable def G34 : FuncId → Option (CF tC) := look [(61, F61)]
theorem Y34 : SysN tC G34 := (sys_cons F61_ok (mkF_nat _ _) (sys_nil tC_ok tC_eq))
def S34 : FS := ⟨[[.s 66], [.v, .v]], [⟨[.one (.one (.imm 66)), .one (.agg [.int .i64, .int .i64])], []⟩], [⟨[vO], []⟩], [[.v]], []⟩
noncomputable def f34 (x : List Pt × Int × Int × Unit) : Option (Bool × Unit) :=
  (f61 (x.fst, x.snd.fst, x.snd.snd.fst, ())).bind fun y6 => some (decide (y6.fst ≥ (0 : Int)), ())
noncomputable def F34 : CF tC := mkF tC S34 f34
theorem f34_run : ∀ a, fnS tC G34 (look []) Tryz.f34 S34 a = f34 a := fun a => by kernel_rfl
theorem F34_ok : CFOK tC 34 F34 := mkF_ok Y34 (fn := Tryz.f34) (body := bodyOf Tryz.f34) (by kernel_rfl) (by kernel_rfl) (by kernel_rfl) (m := 0) rfl (lam_le lam_nil) f34_run

/-! tally.add -/
noncomputable def G35 : FuncId → Option (CF tC) := look []
theorem Y35 : SysN tC G35 := (sys_nil tC_ok tC_eq)
def S35 : FS := ⟨[[.mo], [.v, .v], [.v], [.v]], [⟨[.one (.one (.mp 0)), .one (.agg [.int .i64, .int .i64]), vI, vI], [.map 66 68]⟩], [⟨[.tup []], [.map 66 68]⟩], [], []⟩
noncomputable def f35 (n1 : Int) (n2 : Int) (n3 : Int) (n4 : Int) (l5 : List (Pt × En)) : List (Pt × En) :=
  mput (keyB tC (66 : TypeId)) l5 (Pt.mk n1 n2)
  (En.mk n1 n2
    (IntKind.i64.wrap (((mget (keyB tC (66 : TypeId)) l5 (Pt.mk n1 n2)).getD (En.mk (0 : Int) (0 : Int) (0 : Int) (0 : Int))).A + n3))
    (IntKind.i64.wrap (((mget (keyB tC (66 : TypeId)) l5 (Pt.mk n1 n2)).getD (En.mk (0 : Int) (0 : Int) (0 : Int) (0 : Int))).B + n4)))
noncomputable def F35 : CF tC := mkF tC S35 (fun a => some ((f35 a.1 a.2.1 a.2.2.1 a.2.2.2.1 a.2.2.2.2.1), ()))
def h35 (r : List (Pt × En)) : Option (altTy tE S35.outs) := some (r, ())
theorem f35_run : ∀ a, fnS tC G35 (look []) Tryz.f35 S35 a = (fun a => some ((f35 a.1 a.2.1 a.2.2.1 a.2.2.2.1 a.2.2.2.2.1), ())) a := fun a => by
  have key : ∀ (n1 : Int) (n2 : Int) (n3 : Int) (n4 : Int) (l5 : List (Pt × En)), (h35
  (mput (keyB tC (66 : TypeId)) l5 (Pt.mk n1 n2)
    (En.mk n1 n2
      (IntKind.i64.wrap (((mget (keyB tC (66 : TypeId)) l5 (Pt.mk n1 n2)).getD (En.mk (0 : Int) (0 : Int) (0 : Int) (0 : Int))).A + n3))
      (IntKind.i64.wrap (((mget (keyB tC (66 : TypeId)) l5 (Pt.mk n1 n2)).getD (En.mk (0 : Int) (0 : Int) (0 : Int) (0 : Int))).B + n4))))) = h35 (f35 n1 n2 n3 n4 l5) := by
    intros
    unfold f35
    repeat' first | rfl | refine cond_h (g := h35) ?_ ?_
  exact Eq.trans (by kernel_rfl) (key a.1 a.2.1 a.2.2.1 a.2.2.2.1 a.2.2.2.2.1)
theorem F35_ok : CFOK tC 35 F35 := mkF_ok Y35 (fn := Tryz.f35) (body := bodyOf Tryz.f35) (by kernel_rfl) (by kernel_rfl) (by kernel_rfl) (m := 1) rfl (lam_le lam_nil) f35_run

/-! cmp.isNaN -/
noncomputable def G68 : FuncId → Option (CF tC) := look []
theorem Y68 : SysN tC G68 := (sys_nil tC_ok tC_eq)
def S68 : FS := ⟨[[.v]], [⟨[vI], []⟩], [⟨[vO], []⟩], [[.v]], []⟩
def f68 (n1 : Int) : Bool :=
  n1 != n1
noncomputable def F68 : CF tC := mkF tC S68 (fun a => some ((f68 a.1), ()))
def h68 (r : Bool) : Option (altTy tE S68.outs) := some (r, ())
theorem f68_run : ∀ a, fnS tC G68 (look []) Tryz.f68 S68 a = (fun a => some ((f68 a.1), ())) a := fun a => by
  have key : ∀ (n1 : Int), (h68 (n1 != n1)) = h68 (f68 n1) := by
    intros
    unfold f68
    repeat' first | rfl | refine cond_h (g := h68) ?_ ?_
  exact Eq.trans (by kernel_rfl) (key a.1)
theorem F68_ok : CFOK tC 68 F68 := mkF_ok Y68 (fn := Tryz.f68) (body := bodyOf Tryz.f68) (by kernel_rfl) (by kernel_rfl) (by kernel_rfl) (m := 0) rfl (lam_le lam_nil) f68_run

/-! cmp.Compare -/
noncomputable def G39 : FuncId → Option (CF tC) := look [(68, F68)]
theorem Y39 : SysN tC G39 := (sys_cons F68_ok (mkF_nat _ _) (sys_nil tC_ok tC_eq))
def S39 : FS := ⟨[[.v], [.v]], [⟨[vI, vI], []⟩], [⟨[vI], []⟩], [[.v]], []⟩
def f39 (n1 : Int) (n2 : Int) : Int :=
  bif f68 n1 then bif f68 n2 then (0 : Int) else (-1 : Int)
else bif f68 n2 then (1 : Int) else bif decide (n1 < n2) then (-1 : Int) else bif decide (n1 > n2) then (1 : Int) else (0 : Int)
noncomputable def F39 : CF tC := mkF tC S39 (fun a => some ((f39 a.1 a.2.1), ()))
def h39 (r : Int) : Option (altTy tE S39.outs) := some (r, ())
theorem f39_run : ∀ a, fnS tC G39 (look []) Tryz.f39 S39 a = (fun a => some ((f39 a.1 a.2.1), ())) a := fun a => by
  have key : ∀ (n1 : Int) (n2 : Int), (bif f68 n1 then bif f68 n2 then h39 (0 : Int) else h39 (-1 : Int)
else
  bif f68 n2 then h39 (1 : Int)
  else bif decide (n1 < n2) then h39 (-1 : Int) else bif decide (n1 > n2) then h39 (1 : Int) else h39 (0 : Int)) = h39 (f39 n1 n2) := by
    intros
    unfold f39
    repeat' first | rfl | refine cond_h (g := h39) ?_ ?_
  exact Eq.trans (by kernel_rfl) (key a.1 a.2.1)
theorem F39_ok : CFOK tC 39 F39 := mkF_ok Y39 (fn := Tryz.f39) (body := bodyOf Tryz.f39) (by kernel_rfl) (by kernel_rfl) (by kernel_rfl) (m := 0) rfl (lam_le lam_nil) f39_run

/-! cmp.Or -/
noncomputable def G38 : FuncId → Option (CF tC) := look []
theorem Y38 : SysN tC G38 := (sys_nil tC_ok tC_eq)
noncomputable def c38_0 : Code := loopOf (bodyOf Tryz.f38) 0
def p38_0 : LS := ⟨0, [3, 6, 7, 8], ⟨[vB, vB, vB, vI, vB, vB, .one (.one (.imm 3)), vI, vI] ++ vBs 9, []⟩, [⟨.ret, [2], ⟨[vB, vB, vI] ++ vBs 15, []⟩, []⟩, ⟨.exit 0, [3], ⟨[vB, vB, vB, vI] ++ vBs 14, []⟩, []⟩], []⟩
noncomputable def r38_0 (x : Int × List Int × Int × Int × Unit) : Option (Int × List Int × Int × Int × Unit ⊕ Int × Unit ⊕ Int × Unit) :=
  bif decide (x.snd.snd.snd.fst < x.snd.snd.fst) then
  (idxO x.snd.fst x.snd.snd.snd.fst).bind fun y9 =>
    bif y9 != x.fst then some (Sum.inr (Sum.inl (y9, ())))
    else some (Sum.inl (x.fst, x.snd.fst, x.snd.snd.fst, IntKind.i64.wrap (x.snd.snd.snd.fst + (1 : Int)), ()))
else some (Sum.inr (Sum.inr (x.fst, ())))
theorem r38_0_run0 (v0 : Int) (v1 : List Int) (v2 : Int) (v3 : Int) : roundK tC G38 (look []) c38_0 p38_0 (v0, v1, v2, v3, ()) = r38_0 (v0, v1, v2, v3, ()) := by kernel_rfl
theorem r38_0_run (x : Int × List Int × Int × Int × Unit) : roundK tC G38 (look []) c38_0 p38_0 x = r38_0 x := r38_0_run0 x.1 x.2.1 x.2.2.1 x.2.2.2.1
noncomputable def l38_0 (x : Int × List Int × Int × Int × Unit) : Option (Int × Unit ⊕ Int × Unit) := iterO r38_0 x
noncomputable def W38_0 : LF tC := loopW tC p38_0 0 l38_0
theorem W38_0_ok : keyed 0 (bodyOf Tryz.f38) = [.block 0 (.loop c38_0)] ∧ ∀ n, n ≤ 0 → Snd tC n (.block 0 (.loop c38_0)) W38_0.k := ⟨by kernel_rfl, fun n hn => loopW_ok (p := p38_0) (id := 0) Y38 (lam_le lam_nil n hn) hn r38_0_run⟩
def S38 : FS := ⟨[[.s 3]], [⟨[.one (.one (.imm 3))], []⟩], [⟨[vI], []⟩], [[.v]], []⟩
noncomputable def f38 (x : List Int × Unit) : Option (Int × Unit) :=
  (l38_0 ((0 : Int), x.fst, (↑x.fst.length : Int), (0 : Int), ())).bind fun y15 =>
  Sum.elim (fun y13 => some (y13.fst, ())) (fun y14 => some (y14.fst, ())) y15
noncomputable def F38 : CF tC := mkF tC S38 f38
theorem f38_run : ∀ a, fnS tC G38 (look [(0, W38_0)]) Tryz.f38 S38 a = f38 a := fun a => by kernel_rfl
theorem F38_ok : CFOK tC 38 F38 := mkF_ok Y38 (fn := Tryz.f38) (body := bodyOf Tryz.f38) (by kernel_rfl) (by kernel_rfl) (by kernel_rfl) (m := 0) rfl (lam_le (lam_cons W38_0_ok lam_nil)) f38_run

/-! evidence.compare -/
noncomputable def G49 : FuncId → Option (CF tC) := look [(39, F39), (38, F38)]
theorem Y49 : SysN tC G49 := (sys_cons F39_ok (mkF_nat _ _) (sys_cons F38_ok (mkF_nat _ _) (sys_nil tC_ok tC_eq)))
def S49 : FS := ⟨[[.v, .v], [.v, .v]], [⟨[.one (.agg [.int .i64, .int .i64]), .one (.agg [.int .i64, .int .i64])], []⟩], [⟨[vI], []⟩], [[.v]], []⟩
noncomputable def f49 (x : Int × Int × Int × Int × Unit) : Option (Int × Unit) :=
  (f38 ([f39 x.snd.fst x.snd.snd.snd.fst, f39 x.fst x.snd.snd.fst], ())).bind fun y7 => some (y7.fst, ())
noncomputable def F49 : CF tC := mkF tC S49 f49
theorem f49_run : ∀ a, fnS tC G49 (look []) Tryz.f49 S49 a = f49 a := fun a => by kernel_rfl
theorem F49_ok : CFOK tC 49 F49 := mkF_ok Y49 (fn := Tryz.f49) (body := bodyOf Tryz.f49) (by kernel_rfl) (by kernel_rfl) (by kernel_rfl) (m := 0) rfl (lam_le lam_nil) f49_run

/-! list$1 -/
noncomputable def G65 : FuncId → Option (CF tC) := look []
theorem Y65 : SysN tC G65 := (sys_nil tC_ok tC_eq)
def S65 : FS := ⟨[[.v, .v, .v, .v]], [⟨[.one (.agg [.int .i64, .int .i64, .int .i64, .int .i64])], []⟩], [⟨[vO], []⟩], [[.v]], []⟩
def f65 (_n1 : Int) (_n2 : Int) (n3 : Int) (n4 : Int) : Bool :=
  bif n3 == (0 : Int) then n4 == (0 : Int) else false
noncomputable def F65 : CF tC := mkF tC S65 (fun a => some ((f65 a.1 a.2.1 a.2.2.1 a.2.2.2.1), ()))
def h65 (r : Bool) : Option (altTy tE S65.outs) := some (r, ())
theorem f65_run : ∀ a, fnS tC G65 (look []) Tryz.f65 S65 a = (fun a => some ((f65 a.1 a.2.1 a.2.2.1 a.2.2.2.1), ())) a := fun a => by
  have key : ∀ (n1 : Int) (n2 : Int) (n3 : Int) (n4 : Int), (bif n3 == (0 : Int) then h65 (n4 == (0 : Int)) else h65 false) = h65 (f65 n1 n2 n3 n4) := by
    intros
    unfold f65
    repeat' first | rfl | refine cond_h (g := h65) ?_ ?_
  exact Eq.trans (by kernel_rfl) (key a.1 a.2.1 a.2.2.1 a.2.2.2.1)
theorem F65_ok : CFOK tC 65 F65 := mkF_ok Y65 (fn := Tryz.f65) (body := bodyOf Tryz.f65) (by kernel_rfl) (by kernel_rfl) (by kernel_rfl) (m := 0) rfl (lam_le lam_nil) f65_run

/-! list$2 -/
noncomputable def G67 : FuncId → Option (CF tC) := look [(49, F49)]
theorem Y67 : SysN tC G67 := (sys_cons F49_ok (mkF_nat _ _) (sys_nil tC_ok tC_eq))
def S67 : FS := ⟨[[.v, .v, .v, .v], [.v, .v, .v, .v]], [⟨[.one (.agg [.int .i64, .int .i64, .int .i64, .int .i64]), .one (.agg [.int .i64, .int .i64, .int .i64, .int .i64])], []⟩], [⟨[vI], []⟩], [[.v]], []⟩
noncomputable def f67 (x : Int × Int × Int × Int × Int × Int × Int × Int × Unit) : Option (Int × Unit) :=
  (f49 (x.fst, x.snd.fst, x.snd.snd.snd.snd.fst, x.snd.snd.snd.snd.snd.fst, ())).bind fun y11 => some (y11.fst, ())
noncomputable def F67 : CF tC := mkF tC S67 f67
theorem f67_run : ∀ a, fnS tC G67 (look []) Tryz.f67 S67 a = f67 a := fun a => by kernel_rfl
theorem F67_ok : CFOK tC 67 F67 := mkF_ok Y67 (fn := Tryz.f67) (body := bodyOf Tryz.f67) (by kernel_rfl) (by kernel_rfl) (by kernel_rfl) (m := 0) rfl (lam_le lam_nil) f67_run

/-! counted -/
noncomputable def G43 : FuncId → Option (CF tC) := look [(30, F30)]
theorem Y43 : SysN tC G43 := (sys_cons F30_ok (mkF_nat _ _) (sys_nil tC_ok tC_eq))
def S43 : FS := ⟨[[.v, .v, .v, .v]], [⟨[.one (.agg [.int .i64, .int .i64, .int .i64, .int .i64])], []⟩], [⟨[vO], []⟩], [[.v]], []⟩
def f43 (_n1 : Int) (_n2 : Int) (n3 : Int) (n4 : Int) : Bool :=
  bif f30 n3 (1099511627776 : Int) then f30 n4 (1099511627776 : Int) else false
noncomputable def F43 : CF tC := mkF tC S43 (fun a => some ((f43 a.1 a.2.1 a.2.2.1 a.2.2.2.1), ()))
def h43 (r : Bool) : Option (altTy tE S43.outs) := some (r, ())
theorem f43_run : ∀ a, fnS tC G43 (look []) Tryz.f43 S43 a = (fun a => some ((f43 a.1 a.2.1 a.2.2.1 a.2.2.2.1), ())) a := fun a => by
  have key : ∀ (n1 : Int) (n2 : Int) (n3 : Int) (n4 : Int), (bif f30 n3 (1099511627776 : Int) then h43 (f30 n4 (1099511627776 : Int)) else h43 false) = h43 (f43 n1 n2 n3 n4) := by
    intros
    unfold f43
    repeat' first | rfl | refine cond_h (g := h43) ?_ ?_
  exact Eq.trans (by kernel_rfl) (key a.1 a.2.1 a.2.2.1 a.2.2.2.1)
theorem F43_ok : CFOK tC 43 F43 := mkF_ok Y43 (fn := Tryz.f43) (body := bodyOf Tryz.f43) (by kernel_rfl) (by kernel_rfl) (by kernel_rfl) (m := 0) rfl (lam_le lam_nil) f43_run

/-! good -/
noncomputable def G48 : FuncId → Option (CF tC) := look [(43, F43), (30, F30)]
theorem Y48 : SysN tC G48 := (sys_cons F43_ok (mkF_nat _ _) (sys_cons F30_ok (mkF_nat _ _) (sys_nil tC_ok tC_eq)))
def S48 : FS := ⟨[[.v, .v, .v, .v]], [⟨[.one (.agg [.int .i64, .int .i64, .int .i64, .int .i64])], []⟩], [⟨[vO], []⟩], [[.v]], []⟩
def f48 (n1 : Int) (n2 : Int) (n3 : Int) (n4 : Int) : Bool :=
  bif f43 n1 n2 n3 n4 then
  bif n3 != (0 : Int) then bif f30 n1 (16384 : Int) then f30 n2 (16384 : Int) else false
  else bif n4 != (0 : Int) then bif f30 n1 (16384 : Int) then f30 n2 (16384 : Int) else false else false
else false
noncomputable def F48 : CF tC := mkF tC S48 (fun a => some ((f48 a.1 a.2.1 a.2.2.1 a.2.2.2.1), ()))
def h48 (r : Bool) : Option (altTy tE S48.outs) := some (r, ())
theorem f48_run : ∀ a, fnS tC G48 (look []) Tryz.f48 S48 a = (fun a => some ((f48 a.1 a.2.1 a.2.2.1 a.2.2.2.1), ())) a := fun a => by
  have key : ∀ (n1 : Int) (n2 : Int) (n3 : Int) (n4 : Int), (bif f43 n1 n2 n3 n4 then
  bif n3 != (0 : Int) then bif f30 n1 (16384 : Int) then h48 (f30 n2 (16384 : Int)) else h48 false
  else bif n4 != (0 : Int) then bif f30 n1 (16384 : Int) then h48 (f30 n2 (16384 : Int)) else h48 false else h48 false
else h48 false) = h48 (f48 n1 n2 n3 n4) := by
    intros
    unfold f48
    repeat' first | rfl | refine cond_h (g := h48) ?_ ?_
  exact Eq.trans (by kernel_rfl) (key a.1 a.2.1 a.2.2.1 a.2.2.2.1)
theorem F48_ok : CFOK tC 48 F48 := mkF_ok Y48 (fn := Tryz.f48) (body := bodyOf Tryz.f48) (by kernel_rfl) (by kernel_rfl) (by kernel_rfl) (m := 0) rfl (lam_le lam_nil) f48_run

/-! evidence.Valid -/
noncomputable def G28 : FuncId → Option (CF tC) := look [(48, F48), (49, F49)]
theorem Y28 : SysN tC G28 := (sys_cons F48_ok (mkF_nat _ _) (sys_cons F49_ok (mkF_nat _ _) (sys_nil tC_ok tC_eq)))
noncomputable def c28_19 : Code := subCode (loopOf (bodyOf Tryz.f28) 0) 19
def p28_19 : PS := ⟨0, [0, 5, 6, 7], ⟨[.one (.one (.imm 68))] ++ vBs 4 ++ [.one (.one (.imm 68)), vI, vI] ++ vBs 27, []⟩, [⟨.normal, [0, 5, 6, 7], ⟨[.one (.one (.imm 68))] ++ vBs 4 ++ [.one (.one (.imm 68)), vI, vI] ++ vBs 27, []⟩, []⟩], []⟩
noncomputable def j28_19 (x : List En × List En × Int × Int × Unit) : Option (List En × List En × Int × Int × Unit) :=
  some (x.fst, x.snd.fst, x.snd.snd.fst, IntKind.i64.wrap (x.snd.snd.snd.fst + (1 : Int)), ())
theorem j28_19_run0 (v0 : List En) (v1 : List En) (v2 : Int) (v3 : Int) : pieceK tC G28 (look []) c28_19 p28_19 (v0, v1, v2, v3, ()) = j28_19 (v0, v1, v2, v3, ()) := by kernel_rfl
theorem j28_19_run (x : List En × List En × Int × Int × Unit) : pieceK tC G28 (look []) c28_19 p28_19 x = j28_19 x := j28_19_run0 x.1 x.2.1 x.2.2.1 x.2.2.2.1
noncomputable def W28_19 : LF tC := cutLF tC p28_19 j28_19
theorem W28_19_ok : keyed 19 (loopOf (bodyOf Tryz.f28) 0) = [c28_19] ∧ ∀ n, n ≤ 0 → Snd tC n c28_19 W28_19.k := ⟨by kernel_rfl, fun n hn => cut_ok (p := p28_19) Y28 (lam_le lam_nil n hn) hn j28_19_run⟩
noncomputable def c28_0 : Code := loopOf (bodyOf Tryz.f28) 0
def p28_0 : LS := ⟨0, [0, 5, 6, 7], ⟨[.one (.one (.imm 68))] ++ vBs 4 ++ [.one (.one (.imm 68)), vI, vI] ++ vBs 27, []⟩, [⟨.ret, [2], ⟨[vB, vB, vO] ++ vBs 32, []⟩, []⟩, ⟨.exit 0, [0], ⟨[.one (.one (.imm 68))] ++ vBs 34, []⟩, []⟩], []⟩
noncomputable def r28_0 (x : List En × List En × Int × Int × Unit) : Option (List En × List En × Int × Int × Unit ⊕ Bool × Unit ⊕ List En × Unit) :=
  bif decide (x.snd.snd.snd.fst < x.snd.snd.fst) then
  (idxO x.snd.fst x.snd.snd.snd.fst).bind fun y31 =>
    bif !f48 y31.X y31.Y y31.A y31.B then some (Sum.inr (Sum.inl (false, ())))
    else
      bif decide (x.snd.snd.snd.fst > (0 : Int)) then
        (idxO x.fst (IntKind.i64.wrap (x.snd.snd.snd.fst - (1 : Int)))).bind fun y29 =>
          (f49 (y29.X, y29.Y, y31.X, y31.Y, ())).bind fun y28 =>
            bif decide (y28.fst ≥ (0 : Int)) then some (Sum.inr (Sum.inl (false, ())))
            else
              (j28_19 (x.fst, x.snd.fst, x.snd.snd.fst, x.snd.snd.snd.fst, ())).bind fun y27 =>
                some (Sum.inl (y27.fst, y27.snd.fst, y27.snd.snd.fst, y27.snd.snd.snd.fst, ()))
      else
        (j28_19 (x.fst, x.snd.fst, x.snd.snd.fst, x.snd.snd.snd.fst, ())).bind fun y30 =>
          some (Sum.inl (y30.fst, y30.snd.fst, y30.snd.snd.fst, y30.snd.snd.snd.fst, ()))
else some (Sum.inr (Sum.inr (x.fst, ())))
theorem r28_0_run0 (v0 : List En) (v1 : List En) (v2 : Int) (v3 : Int) : roundK tC G28 (look [(19, W28_19)]) c28_0 p28_0 (v0, v1, v2, v3, ()) = r28_0 (v0, v1, v2, v3, ()) := by kernel_rfl
theorem r28_0_run (x : List En × List En × Int × Int × Unit) : roundK tC G28 (look [(19, W28_19)]) c28_0 p28_0 x = r28_0 x := r28_0_run0 x.1 x.2.1 x.2.2.1 x.2.2.2.1
noncomputable def l28_0 (x : List En × List En × Int × Int × Unit) : Option (Bool × Unit ⊕ List En × Unit) := iterO r28_0 x
noncomputable def W28_0 : LF tC := loopW tC p28_0 0 l28_0
theorem W28_0_ok : keyed 0 (bodyOf Tryz.f28) = [.block 0 (.loop c28_0)] ∧ ∀ n, n ≤ 0 → Snd tC n (.block 0 (.loop c28_0)) W28_0.k := ⟨by kernel_rfl, fun n hn => loopW_ok (p := p28_0) (id := 0) Y28 (lam_le (lam_cons W28_19_ok lam_nil) n hn) hn r28_0_run⟩
def S28 : FS := ⟨[[.s 68]], [⟨[.one (.one (.imm 68))], []⟩], [⟨[vO], []⟩], [[.v]], []⟩
noncomputable def f28 (x : List En × Unit) : Option (Bool × Unit) :=
  (l28_0 (x.fst, x.fst, (↑x.fst.length : Int), (0 : Int), ())).bind fun y37 =>
  Sum.elim (fun y35 => some (y35.fst, ())) (fun y36 => some (decide ((↑y36.fst.length : Int) ≤ (1048576 : Int)), ())) y37
noncomputable def F28 : CF tC := mkF tC S28 f28
theorem f28_run : ∀ a, fnS tC G28 (look [(0, W28_0)]) Tryz.f28 S28 a = f28 a := fun a => by kernel_rfl
theorem F28_ok : CFOK tC 28 F28 := mkF_ok Y28 (fn := Tryz.f28) (body := bodyOf Tryz.f28) (by kernel_rfl) (by kernel_rfl) (by kernel_rfl) (m := 0) rfl (lam_le (lam_cons W28_0_ok lam_nil)) f28_run

/-! combine$1 -/
noncomputable def G42 : FuncId → Option (CF tC) := look [(43, F43)]
theorem Y42 : SysN tC G42 := (sys_cons F43_ok (mkF_nat _ _) (sys_nil tC_ok tC_eq))
def S42 : FS := ⟨[[.v, .v, .v, .v]], [⟨[.one (.agg [.int .i64, .int .i64, .int .i64, .int .i64])], []⟩], [⟨[vO], []⟩], [[.v]], []⟩
def f42 (n1 : Int) (n2 : Int) (n3 : Int) (n4 : Int) : Bool :=
  !f43 n1 n2 n3 n4
noncomputable def F42 : CF tC := mkF tC S42 (fun a => some ((f42 a.1 a.2.1 a.2.2.1 a.2.2.2.1), ()))
def h42 (r : Bool) : Option (altTy tE S42.outs) := some (r, ())
theorem f42_run : ∀ a, fnS tC G42 (look []) Tryz.f42 S42 a = (fun a => some ((f42 a.1 a.2.1 a.2.2.1 a.2.2.2.1), ())) a := fun a => by
  have key : ∀ (n1 : Int) (n2 : Int) (n3 : Int) (n4 : Int), (h42 !f43 n1 n2 n3 n4) = h42 (f42 n1 n2 n3 n4) := by
    intros
    unfold f42
    repeat' first | rfl | refine cond_h (g := h42) ?_ ?_
  exact Eq.trans (by kernel_rfl) (key a.1 a.2.1 a.2.2.1 a.2.2.2.1)
theorem F42_ok : CFOK tC 42 F42 := mkF_ok Y42 (fn := Tryz.f42) (body := bodyOf Tryz.f42) (by kernel_rfl) (by kernel_rfl) (by kernel_rfl) (m := 0) rfl (lam_le lam_nil) f42_run

/-! slices.IndexFunc[Entry] -/
noncomputable def G69 : FuncId → Option (CF tC) := look [(65, F65)]
theorem Y69 : SysN tC G69 := (sys_cons F65_ok (mkF_nat _ _) (sys_nil tC_ok tC_eq))
noncomputable def c69_0 : Code := loopOf (bodyOf Tryz.f69) 0
def p69_0 : LS := ⟨0, [0, 1, 7, 8], ⟨[.one (.one (.imm 68)), .one (.fn 65 [])] ++ vBs 5 ++ [vI, vI] ++ vBs 10, []⟩, [⟨.ret, [4], ⟨vBs 4 ++ [vI] ++ vBs 14, []⟩, []⟩, ⟨.exit 0, [], ⟨vBs 19, []⟩, []⟩], []⟩
noncomputable def r69_0 (x : List En × Int × Int × Unit) : Option (List En × Int × Int × Unit ⊕ Int × Unit ⊕ Unit) :=
  bif decide (x.snd.snd.fst < x.snd.fst) then
  (idxO x.fst x.snd.snd.fst).bind fun y7 =>
    bif f65 y7.X y7.Y y7.A y7.B then some (Sum.inr (Sum.inl (x.snd.snd.fst, ())))
    else some (Sum.inl (x.fst, x.snd.fst, IntKind.i64.wrap (x.snd.snd.fst + (1 : Int)), ()))
else some (Sum.inr (Sum.inr ()))
theorem r69_0_run0 (v0 : List En) (v1 : Int) (v2 : Int) : roundK tC G69 (look []) c69_0 p69_0 (v0, v1, v2, ()) = r69_0 (v0, v1, v2, ()) := by kernel_rfl
theorem r69_0_run (x : List En × Int × Int × Unit) : roundK tC G69 (look []) c69_0 p69_0 x = r69_0 x := r69_0_run0 x.1 x.2.1 x.2.2.1
noncomputable def l69_0 (x : List En × Int × Int × Unit) : Option (Int × Unit ⊕ Unit) := iterO r69_0 x
noncomputable def W69_0 : LF tC := loopW tC p69_0 0 l69_0
theorem W69_0_ok : keyed 0 (bodyOf Tryz.f69) = [.block 0 (.loop c69_0)] ∧ ∀ n, n ≤ 0 → Snd tC n (.block 0 (.loop c69_0)) W69_0.k := ⟨by kernel_rfl, fun n hn => loopW_ok (p := p69_0) (id := 0) Y69 (lam_le lam_nil n hn) hn r69_0_run⟩
def S69 : FS := ⟨[[.s 68], [.f]], [⟨[.one (.one (.imm 68)), .one (.fn 65 [])], []⟩], [⟨[vI], []⟩], [[.v]], []⟩
noncomputable def f69 (x : List En × Unit) : Option (Int × Unit) :=
  (l69_0 (x.fst, (↑x.fst.length : Int), (0 : Int), ())).bind fun y12 =>
  Sum.elim (fun y10 => some (y10.fst, ())) (fun _x => some ((-1 : Int), ())) y12
noncomputable def F69 : CF tC := mkF tC S69 f69
theorem f69_run : ∀ a, fnS tC G69 (look [(0, W69_0)]) Tryz.f69 S69 a = f69 a := fun a => by kernel_rfl
theorem F69_ok : CFOK tC 69 F69 := mkF_ok Y69 (fn := Tryz.f69) (body := bodyOf Tryz.f69) (by kernel_rfl) (by kernel_rfl) (by kernel_rfl) (m := 0) rfl (lam_le (lam_cons W69_0_ok lam_nil)) f69_run

/-! slices.IndexFunc[Entry] (combine) -/
noncomputable def G969 : FuncId → Option (CF tC) := look [(42, F42)]
theorem Y969 : SysN tC G969 := (sys_cons F42_ok (mkF_nat _ _) (sys_nil tC_ok tC_eq))
noncomputable def c969_0 : Code := loopOf (bodyOf Tryz.f69) 0
def p969_0 : LS := ⟨0, [0, 1, 7, 8], ⟨[.one (.one (.imm 68)), .one (.fn 42 [])] ++ vBs 5 ++ [vI, vI] ++ vBs 10, []⟩, [⟨.ret, [4], ⟨vBs 4 ++ [vI] ++ vBs 14, []⟩, []⟩, ⟨.exit 0, [], ⟨vBs 19, []⟩, []⟩], []⟩
noncomputable def r969_0 (x : List En × Int × Int × Unit) : Option (List En × Int × Int × Unit ⊕ Int × Unit ⊕ Unit) :=
  bif decide (x.snd.snd.fst < x.snd.fst) then
  (idxO x.fst x.snd.snd.fst).bind fun y7 =>
    bif f42 y7.X y7.Y y7.A y7.B then some (Sum.inr (Sum.inl (x.snd.snd.fst, ())))
    else some (Sum.inl (x.fst, x.snd.fst, IntKind.i64.wrap (x.snd.snd.fst + (1 : Int)), ()))
else some (Sum.inr (Sum.inr ()))
theorem r969_0_run0 (v0 : List En) (v1 : Int) (v2 : Int) : roundK tC G969 (look []) c969_0 p969_0 (v0, v1, v2, ()) = r969_0 (v0, v1, v2, ()) := by kernel_rfl
theorem r969_0_run (x : List En × Int × Int × Unit) : roundK tC G969 (look []) c969_0 p969_0 x = r969_0 x := r969_0_run0 x.1 x.2.1 x.2.2.1
noncomputable def l969_0 (x : List En × Int × Int × Unit) : Option (Int × Unit ⊕ Unit) := iterO r969_0 x
noncomputable def W969_0 : LF tC := loopW tC p969_0 0 l969_0
theorem W969_0_ok : keyed 0 (bodyOf Tryz.f69) = [.block 0 (.loop c969_0)] ∧ ∀ n, n ≤ 0 → Snd tC n (.block 0 (.loop c969_0)) W969_0.k := ⟨by kernel_rfl, fun n hn => loopW_ok (p := p969_0) (id := 0) Y969 (lam_le lam_nil n hn) hn r969_0_run⟩
def S969 : FS := ⟨[[.s 68], [.f]], [⟨[.one (.one (.imm 68)), .one (.fn 42 [])], []⟩], [⟨[vI], []⟩], [[.v]], []⟩
noncomputable def f969 (x : List En × Unit) : Option (Int × Unit) :=
  (l969_0 (x.fst, (↑x.fst.length : Int), (0 : Int), ())).bind fun y12 =>
  Sum.elim (fun y10 => some (y10.fst, ())) (fun _x => some ((-1 : Int), ())) y12
noncomputable def F969 : CF tC := mkF tC S969 f969
theorem f969_run : ∀ a, fnS tC G969 (look [(0, W969_0)]) Tryz.f69 S969 a = f969 a := fun a => by kernel_rfl
theorem F969_ok : CFOK tC 69 F969 := mkF_ok Y969 (fn := Tryz.f69) (body := bodyOf Tryz.f69) (by kernel_rfl) (by kernel_rfl) (by kernel_rfl) (m := 0) rfl (lam_le (lam_cons W969_0_ok lam_nil)) f969_run

/-! slices.ContainsFunc[Entry] -/
noncomputable def G41 : FuncId → Option (CF tC) := look [(69, F969), (42, F42)]
theorem Y41 : SysN tC G41 := (sys_cons F969_ok (mkF_nat _ _) (sys_cons F42_ok (mkF_nat _ _) (sys_nil tC_ok tC_eq)))
def S41 : FS := ⟨[[.s 68], [.f]], [⟨[.one (.one (.imm 68)), .one (.fn 42 [])], []⟩], [⟨[vO], []⟩], [[.v]], []⟩
noncomputable def f41 (x : List En × Unit) : Option (Bool × Unit) :=
  (f969 (x.fst, ())).bind fun y4 => some (decide (y4.fst ≥ (0 : Int)), ())
noncomputable def F41 : CF tC := mkF tC S41 f41
theorem f41_run : ∀ a, fnS tC G41 (look []) Tryz.f41 S41 a = f41 a := fun a => by kernel_rfl
theorem F41_ok : CFOK tC 41 F41 := mkF_ok Y41 (fn := Tryz.f41) (body := bodyOf Tryz.f41) (by kernel_rfl) (by kernel_rfl) (by kernel_rfl) (m := 0) rfl (lam_le lam_nil) f41_run

/-! slices.DeleteFunc -/
noncomputable def G64 : FuncId → Option (CF tC) := look [(69, F69), (65, F65)]
theorem Y64 : SysN tC G64 := (sys_cons F69_ok (mkF_nat _ _) (sys_cons F65_ok (mkF_nat _ _) (sys_nil tC_ok tC_eq)))
noncomputable def c64_19 : Code := subCode (loopOf (bodyOf Tryz.f64) 0) 19
def p64_19 : PS := ⟨1, [0, 1, 5, 6], ⟨[.one (.one (.sl 0)), .one (.fn 65 []), vB, vB, vB, vI, vI] ++ vBs 35, [.arr 68]⟩, [⟨.normal, [0, 1, 5, 6], ⟨[.one (.one (.sl 0)), .one (.fn 65 []), vB, vB, vB, vI, vI] ++ vBs 35, [.arr 68]⟩, []⟩], []⟩
noncomputable def j64_19 (x : Nat × Int × Int × List En × Unit) : Option (Nat × Int × Int × List En × Unit) :=
  some (x.fst, x.snd.fst, IntKind.i64.wrap (x.snd.snd.fst + (1 : Int)), x.snd.snd.snd.fst, ())
theorem j64_19_run0 (v0 : Nat) (v1 : Int) (v2 : Int) (v3 : List En) : pieceK tC G64 (look []) c64_19 p64_19 (v0, v1, v2, v3, ()) = j64_19 (v0, v1, v2, v3, ()) := by kernel_rfl
theorem j64_19_run (x : Nat × Int × Int × List En × Unit) : pieceK tC G64 (look []) c64_19 p64_19 x = j64_19 x := j64_19_run0 x.1 x.2.1 x.2.2.1 x.2.2.2.1
noncomputable def W64_19 : LF tC := cutLF tC p64_19 j64_19
theorem W64_19_ok : keyed 19 (loopOf (bodyOf Tryz.f64) 0) = [c64_19] ∧ ∀ n, n ≤ 1 → Snd tC n c64_19 W64_19.k := ⟨by kernel_rfl, fun n hn => cut_ok (p := p64_19) Y64 (lam_le lam_nil n hn) hn j64_19_run⟩
noncomputable def c64_0 : Code := loopOf (bodyOf Tryz.f64) 0
def p64_0 : LS := ⟨1, [0, 1, 5, 6], ⟨[.one (.one (.sl 0)), .one (.fn 65 []), vB, vB, vB, vI, vI] ++ vBs 35, [.arr 68]⟩, [⟨.exit 0, [0, 5], ⟨[.one (.one (.sl 0))] ++ vBs 4 ++ [vI] ++ vBs 36, [.arr 68]⟩, []⟩], []⟩
noncomputable def r64_0 (x : Nat × Int × Int × List En × Unit) : Option (Nat × Int × Int × List En × Unit ⊕ Nat × Int × List En × Unit) :=
  bif decide (x.snd.snd.fst < (↑x.fst : Int)) then
  bif decide ((0 : Int) ≤ x.snd.snd.fst) && decide (x.snd.snd.fst < (↑x.fst : Int)) then
    x.snd.snd.snd.fst[(0 : Nat) + x.snd.snd.fst.toNat]?.bind fun y32 =>
      bif !f65 y32.X y32.Y y32.A y32.B then
        bif decide ((0 : Int) ≤ x.snd.fst) && decide (x.snd.fst < (↑x.fst : Int)) then
          x.snd.snd.snd.fst[(0 : Nat) + x.snd.fst.toNat]?.bind fun _x =>
            (j64_19
                  (x.fst, IntKind.i64.wrap (x.snd.fst + (1 : Int)), x.snd.snd.fst,
                    x.snd.snd.snd.fst.set ((0 : Nat) + x.snd.fst.toNat) (En.mk y32.X y32.Y y32.A y32.B), ())).bind
              fun y29 => some (Sum.inl (y29.fst, y29.snd.fst, y29.snd.snd.fst, y29.snd.snd.snd.fst, ()))
        else none
      else
        (j64_19 (x.fst, x.snd.fst, x.snd.snd.fst, x.snd.snd.snd.fst, ())).bind fun y31 =>
          some (Sum.inl (y31.fst, y31.snd.fst, y31.snd.snd.fst, y31.snd.snd.snd.fst, ()))
  else none
else some (Sum.inr (x.fst, x.snd.fst, x.snd.snd.snd.fst, ()))
theorem r64_0_run0 (v0 : Nat) (v1 : Int) (v2 : Int) (v3 : List En) : roundK tC G64 (look [(19, W64_19)]) c64_0 p64_0 (v0, v1, v2, v3, ()) = r64_0 (v0, v1, v2, v3, ()) := by kernel_rfl
theorem r64_0_run (x : Nat × Int × Int × List En × Unit) : roundK tC G64 (look [(19, W64_19)]) c64_0 p64_0 x = r64_0 x := r64_0_run0 x.1 x.2.1 x.2.2.1 x.2.2.2.1
noncomputable def l64_0 (x : Nat × Int × Int × List En × Unit) : Option (Nat × Int × List En × Unit) := iterO r64_0 x
noncomputable def W64_0 : LF tC := loopW tC p64_0 0 l64_0
theorem W64_0_ok : keyed 0 (bodyOf Tryz.f64) = [.block 0 (.loop c64_0)] ∧ ∀ n, n ≤ 1 → Snd tC n (.block 0 (.loop c64_0)) W64_0.k := ⟨by kernel_rfl, fun n hn => loopW_ok (p := p64_0) (id := 0) Y64 (lam_le (lam_cons W64_19_ok lam_nil) n hn) hn r64_0_run⟩
def S64 : FS := ⟨[[.w 68], [.f]], [⟨[.one (.one (.sl 0)), .one (.fn 65 [])], [.arr 68]⟩], [⟨[.one (.one (.sl 0))], [.arr 68]⟩], [[.w 68]], []⟩
noncomputable def f64 (x : Nat × List En × Unit) : Option (Nat × List En × Unit) :=
  bif decide ((0 : Nat) + x.fst ≤ x.snd.fst.length) then
  (f69 (List.take x.fst (List.drop (0 : Nat) x.snd.fst), ())).bind fun y39 =>
    bif y39.fst == (-1 : Int) then some (x.fst, x.snd.fst, ())
    else
      (l64_0 (x.fst, y39.fst, IntKind.i64.wrap (y39.fst + (1 : Int)), x.snd.fst, ())).bind fun y38 =>
        bif
            decide ((0 : Int) ≤ y38.snd.fst) && decide (y38.snd.fst ≤ (↑y38.fst : Int)) && decide ((↑y38.fst : Int) ≤ (↑y38.fst : Int)) &&
              decide ((↑y38.fst : Int) ≤ (↑y38.fst : Int)) then
          bif decide ((0 : Nat) + y38.snd.fst.toNat + ((↑y38.fst : Int).toNat - y38.snd.fst.toNat) ≤ y38.snd.snd.fst.length) then
            bif
                true && decide ((0 : Int) ≤ y38.snd.fst) && decide (y38.snd.fst ≤ (↑y38.fst : Int)) &&
                  decide ((↑y38.fst : Int) ≤ (↑y38.fst : Int)) then
              some
                (y38.snd.fst.toNat - (0 : Nat),
                  List.take ((0 : Nat) + y38.snd.fst.toNat) y38.snd.snd.fst ++
                    (List.replicate ((↑y38.fst : Int).toNat - y38.snd.fst.toNat) (En.mk (0 : Int) (0 : Int) (0 : Int) (0 : Int)) ++
                      List.drop ((0 : Nat) + y38.snd.fst.toNat + ((↑y38.fst : Int).toNat - y38.snd.fst.toNat)) y38.snd.snd.fst),
                  ())
            else none
          else none
        else none
else none
noncomputable def F64 : CF tC := mkF tC S64 f64
theorem f64_run : ∀ a, fnS tC G64 (look [(0, W64_0)]) Tryz.f64 S64 a = f64 a := fun a => by kernel_rfl
theorem F64_ok : CFOK tC 64 F64 := mkF_ok Y64 (fn := Tryz.f64) (body := bodyOf Tryz.f64) (by kernel_rfl) (by kernel_rfl) (by kernel_rfl) (m := 1) rfl (lam_le (lam_cons W64_0_ok lam_nil)) f64_run
end Go.AE
