/-
  The plain functions that the seat's Go functions compute, each with the proof that the function keeps it. Printed by the generator (Gen2) and checked by the kernel.
-/
import Derived.Test.YtpfhpkcjgibokaaF
namespace Go.AE
open Go.Proofs Go.RowKit
set_option maxRecDepth 100000

/-! evidence.within -/
noncomputable def G33 : FuncId → Option (CF tC) := look []
theorem Y33 : SysN tC G33 := (sys_nil tC_ok tC_eq)
def S33 : FS := ⟨[[.v], [.v]], [⟨[vI, vI], []⟩], [⟨[vO], []⟩], [[.v]], []⟩
def f33 (n1 : Int) (n2 : Int) : Bool :=
  bif decide (n1 ≥ IntKind.i64.wrap ((0 : Int) - n2)) then decide (n1 ≤ n2) else false
noncomputable def F33 : CF tC := mkF tC S33 (fun a => some ((f33 a.1 a.2.1), ()))
def h33 (r : Bool) : Option (altTy tE S33.outs) := some (r, ())
theorem f33_run : ∀ a, fnS tC G33 (look []) Try.f33 S33 a = (fun a => some ((f33 a.1 a.2.1), ())) a := fun a => by
  have key : ∀ (n1 : Int) (n2 : Int), (bif decide (n1 ≥ IntKind.i64.wrap ((0 : Int) - n2)) then h33 (decide (n1 ≤ n2)) else h33 false) = h33 (f33 n1 n2) := by
    intros
    unfold f33
    repeat' first | rfl | refine cond_h (g := h33) ?_ ?_
  exact Eq.trans (by kernel_rfl) (key a.1 a.2.1)
theorem F33_ok : CFOK tC 33 F33 := mkF_ok Y33 (fn := Try.f33) (body := bodyOf Try.f33) (by kernel_rfl) (by kernel_rfl) (by kernel_rfl) (m := 0) rfl (lam_le lam_nil) f33_run

/-! scanned$1 -/
noncomputable def G55 : FuncId → Option (CF tC) := look []
theorem Y55 : SysN tC G55 := (sys_nil tC_ok tC_eq)
def S55 : FS := ⟨[[.v, .v]], [⟨[.one (.agg [.int .i64, .int .i64])], []⟩], [⟨[vO], []⟩], [[.v]], []⟩
def f55 (n1 : Int) (n2 : Int) : Bool :=
  bif decide (n1 < (0 : Int)) then true
else bif decide (n1 ≥ (256 : Int)) then true else bif decide (n2 < (-1 : Int)) then true else decide (n2 > (1024 : Int))
noncomputable def F55 : CF tC := mkF tC S55 (fun a => some ((f55 a.1 a.2.1), ()))
def h55 (r : Bool) : Option (altTy tE S55.outs) := some (r, ())
theorem f55_run : ∀ a, fnS tC G55 (look []) Try.f55 S55 a = (fun a => some ((f55 a.1 a.2.1), ())) a := fun a => by
  have key : ∀ (n1 : Int) (n2 : Int), (bif decide (n1 < (0 : Int)) then h55 true
else bif decide (n1 ≥ (256 : Int)) then h55 true else bif decide (n2 < (-1 : Int)) then h55 true else h55 (decide (n2 > (1024 : Int)))) = h55 (f55 n1 n2) := by
    intros
    unfold f55
    repeat' first | rfl | refine cond_h (g := h55) ?_ ?_
  exact Eq.trans (by kernel_rfl) (key a.1 a.2.1)
theorem F55_ok : CFOK tC 55 F55 := mkF_ok Y55 (fn := Try.f55) (body := bodyOf Try.f55) (by kernel_rfl) (by kernel_rfl) (by kernel_rfl) (m := 0) rfl (lam_le lam_nil) f55_run

/-! slices.IndexFunc[Beam] -/
noncomputable def G72 : FuncId → Option (CF tC) := look [(55, F55)]
theorem Y72 : SysN tC G72 := (sys_cons F55_ok (mkF_nat _ _) (sys_nil tC_ok tC_eq))
noncomputable def c72_0 : Code := loopOf (bodyOf Try.f72) 0
def p72_0 : LS := ⟨0, [0, 1, 7, 8], ⟨[.one (.one (.imm 41)), .one (.fn 55 [])] ++ vBs 5 ++ [vI, vI] ++ vBs 10, []⟩, [⟨.ret, [4], ⟨vBs 4 ++ [vI] ++ vBs 14, []⟩, []⟩, ⟨.exit 0, [], ⟨vBs 19, []⟩, []⟩], []⟩
noncomputable def r72_0 (x : List Bm × Int × Int × Unit) : Option (List Bm × Int × Int × Unit ⊕ Int × Unit ⊕ Unit) :=
  bif decide (x.snd.snd.fst < x.snd.fst) then
  (idxO x.fst x.snd.snd.fst).bind fun y7 =>
    bif f55 y7.M y7.R then some (Sum.inr (Sum.inl (x.snd.snd.fst, ())))
    else some (Sum.inl (x.fst, x.snd.fst, IntKind.i64.wrap (x.snd.snd.fst + (1 : Int)), ()))
else some (Sum.inr (Sum.inr ()))
theorem r72_0_run0 (v0 : List Bm) (v1 : Int) (v2 : Int) : roundK tC G72 (look []) c72_0 p72_0 (v0, v1, v2, ()) = r72_0 (v0, v1, v2, ()) := by kernel_rfl
theorem r72_0_run (x : List Bm × Int × Int × Unit) : roundK tC G72 (look []) c72_0 p72_0 x = r72_0 x := r72_0_run0 x.1 x.2.1 x.2.2.1
noncomputable def l72_0 (x : List Bm × Int × Int × Unit) : Option (Int × Unit ⊕ Unit) := iterO r72_0 x
noncomputable def W72_0 : LF tC := loopW tC p72_0 0 l72_0
theorem W72_0_ok : keyed 0 (bodyOf Try.f72) = [.block 0 (.loop c72_0)] ∧ ∀ n, n ≤ 0 → Snd tC n (.block 0 (.loop c72_0)) W72_0.k := ⟨by kernel_rfl, fun n hn => loopW_ok (p := p72_0) (id := 0) Y72 (lam_le lam_nil n hn) hn r72_0_run⟩
def S72 : FS := ⟨[[.s 41], [.f]], [⟨[.one (.one (.imm 41)), .one (.fn 55 [])], []⟩], [⟨[vI], []⟩], [[.v]], []⟩
noncomputable def f72 (x : List Bm × Unit) : Option (Int × Unit) :=
  (l72_0 (x.fst, (↑x.fst.length : Int), (0 : Int), ())).bind fun y12 =>
  Sum.elim (fun y10 => some (y10.fst, ())) (fun _x => some ((-1 : Int), ())) y12
noncomputable def F72 : CF tC := mkF tC S72 f72
theorem f72_run : ∀ a, fnS tC G72 (look [(0, W72_0)]) Try.f72 S72 a = f72 a := fun a => by kernel_rfl
theorem F72_ok : CFOK tC 72 F72 := mkF_ok Y72 (fn := Try.f72) (body := bodyOf Try.f72) (by kernel_rfl) (by kernel_rfl) (by kernel_rfl) (m := 0) rfl (lam_le (lam_cons W72_0_ok lam_nil)) f72_run

/-! slices.ContainsFunc[Beam] -/
noncomputable def G56 : FuncId → Option (CF tC) := look [(72, F72), (55, F55)]
theorem Y56 : SysN tC G56 := (sys_cons F72_ok (mkF_nat _ _) (sys_cons F55_ok (mkF_nat _ _) (sys_nil tC_ok tC_eq)))
def S56 : FS := ⟨[[.s 41], [.f]], [⟨[.one (.one (.imm 41)), .one (.fn 55 [])], []⟩], [⟨[vO], []⟩], [[.v]], []⟩
noncomputable def f56 (x : List Bm × Unit) : Option (Bool × Unit) :=
  (f72 (x.fst, ())).bind fun y4 => some (decide (y4.fst ≥ (0 : Int)), ())
noncomputable def F56 : CF tC := mkF tC S56 f56
theorem f56_run : ∀ a, fnS tC G56 (look []) Try.f56 S56 a = f56 a := fun a => by kernel_rfl
theorem F56_ok : CFOK tC 56 F56 := mkF_ok Y56 (fn := Try.f56) (body := bodyOf Try.f56) (by kernel_rfl) (by kernel_rfl) (by kernel_rfl) (m := 0) rfl (lam_le lam_nil) f56_run

/-! evidence.scanned -/
noncomputable def G34 : FuncId → Option (CF tC) := look [(55, F55), (56, F56)]
theorem Y34 : SysN tC G34 := (sys_cons F55_ok (mkF_nat _ _) (sys_cons F56_ok (mkF_nat _ _) (sys_nil tC_ok tC_eq)))
def S34 : FS := ⟨[[.s 41]], [⟨[.one (.one (.imm 41))], []⟩], [⟨[vO], []⟩], [[.v]], []⟩
noncomputable def f34 (x : List Bm × Unit) : Option (Bool × Unit) :=
  bif decide ((↑x.fst.length : Int) ≤ (32 : Int)) then (f56 (x.fst, ())).bind fun y4 => some (!y4.fst, ()) else some (false, ())
noncomputable def F34 : CF tC := mkF tC S34 f34
theorem f34_run : ∀ a, fnS tC G34 (look []) Try.f34 S34 a = f34 a := fun a => by kernel_rfl
theorem F34_ok : CFOK tC 34 F34 := mkF_ok Y34 (fn := Try.f34) (body := bodyOf Try.f34) (by kernel_rfl) (by kernel_rfl) (by kernel_rfl) (m := 0) rfl (lam_le lam_nil) f34_run

/-! slices.Index[Cell] -/
noncomputable def G57 : FuncId → Option (CF tC) := look []
theorem Y57 : SysN tC G57 := (sys_nil tC_ok tC_eq)
noncomputable def c57_0 : Code := loopOf (bodyOf Try.f57) 0
def p57_0 : LS := ⟨0, [0, 3, 7, 8], ⟨[.one (.one (.imm 51)), vB, vB, .one (.one (.ptr 0 0 0)), vB, vB, vB, vI, vI] ++ vBs 10, [.box [.int .i64, .int .i64]]⟩, [⟨.ret, [4], ⟨vBs 4 ++ [vI] ++ vBs 14, []⟩, []⟩, ⟨.exit 0, [], ⟨vBs 19, []⟩, []⟩], []⟩
noncomputable def r57_0 (x : List Pt × Int × Int × Int × Int × Unit) : Option (List Pt × Int × Int × Int × Int × Unit ⊕ Int × Unit ⊕ Unit) :=
  bif decide (x.snd.snd.fst < x.snd.fst) then
  (idxO x.fst x.snd.snd.fst).bind fun y11 =>
    bif bif x.snd.snd.snd.fst == y11.X then bif x.snd.snd.snd.snd.fst == y11.Y then true else false else false then
      some (Sum.inr (Sum.inl (x.snd.snd.fst, ())))
    else some (Sum.inl (x.fst, x.snd.fst, IntKind.i64.wrap (x.snd.snd.fst + (1 : Int)), x.snd.snd.snd.fst, x.snd.snd.snd.snd.fst, ()))
else some (Sum.inr (Sum.inr ()))
theorem r57_0_run0 (v0 : List Pt) (v1 : Int) (v2 : Int) (v3 : Int) (v4 : Int) : roundK tC G57 (look []) c57_0 p57_0 (v0, v1, v2, v3, v4, ()) = r57_0 (v0, v1, v2, v3, v4, ()) := by kernel_rfl
theorem r57_0_run (x : List Pt × Int × Int × Int × Int × Unit) : roundK tC G57 (look []) c57_0 p57_0 x = r57_0 x := r57_0_run0 x.1 x.2.1 x.2.2.1 x.2.2.2.1 x.2.2.2.2.1
noncomputable def l57_0 (x : List Pt × Int × Int × Int × Int × Unit) : Option (Int × Unit ⊕ Unit) := iterO r57_0 x
noncomputable def W57_0 : LF tC := loopW tC p57_0 0 l57_0
theorem W57_0_ok : keyed 0 (bodyOf Try.f57) = [.block 0 (.loop c57_0)] ∧ ∀ n, n ≤ 0 → Snd tC n (.block 0 (.loop c57_0)) W57_0.k := ⟨by kernel_rfl, fun n hn => loopW_ok (p := p57_0) (id := 0) Y57 (lam_le lam_nil n hn) hn r57_0_run⟩
def S57 : FS := ⟨[[.s 51], [.v, .v]], [⟨[.one (.one (.imm 51)), .one (.agg [.int .i64, .int .i64])], []⟩], [⟨[vI], []⟩], [[.v]], []⟩
noncomputable def f57 (x : List Pt × Int × Int × Unit) : Option (Int × Unit) :=
  (l57_0 (x.fst, (↑x.fst.length : Int), (0 : Int), x.snd.fst, x.snd.snd.fst, ())).bind fun y16 =>
  Sum.elim (fun y14 => some (y14.fst, ())) (fun _x => some ((-1 : Int), ())) y16
noncomputable def F57 : CF tC := mkF tC S57 f57
theorem f57_run : ∀ a, fnS tC G57 (look [(0, W57_0)]) Try.f57 S57 a = f57 a := fun a => by kernel_rfl
theorem F57_ok : CFOK tC 57 F57 := mkF_ok Y57 (fn := Try.f57) (body := bodyOf Try.f57) (by kernel_rfl) (by kernel_rfl) (by kernel_rfl) (m := 0) rfl (lam_le (lam_cons W57_0_ok lam_nil)) f57_run

/-! slices.Contains[Cell] -/
noncomputable def G35 : FuncId → Option (CF tC) := look [(57, F57)]
theorem Y35 : SysN tC G35 := (sys_cons F57_ok (mkF_nat _ _) (sys_nil tC_ok tC_eq))
def S35 : FS := ⟨[[.s 51], [.v, .v]], [⟨[.one (.one (.imm 51)), .one (.agg [.int .i64, .int .i64])], []⟩], [⟨[vO], []⟩], [[.v]], []⟩
noncomputable def f35 (x : List Pt × Int × Int × Unit) : Option (Bool × Unit) :=
  (f57 (x.fst, x.snd.fst, x.snd.snd.fst, ())).bind fun y6 => some (decide (y6.fst ≥ (0 : Int)), ())
noncomputable def F35 : CF tC := mkF tC S35 f35
theorem f35_run : ∀ a, fnS tC G35 (look []) Try.f35 S35 a = f35 a := fun a => by kernel_rfl
theorem F35_ok : CFOK tC 35 F35 := mkF_ok Y35 (fn := Try.f35) (body := bodyOf Try.f35) (by kernel_rfl) (by kernel_rfl) (by kernel_rfl) (m := 0) rfl (lam_le lam_nil) f35_run

/-! tally.add -/
noncomputable def G36 : FuncId → Option (CF tC) := look []
theorem Y36 : SysN tC G36 := (sys_nil tC_ok tC_eq)
def S36 : FS := ⟨[[.mo], [.v, .v], [.v], [.v]], [⟨[.one (.one (.mp 0)), .one (.agg [.int .i64, .int .i64]), vI, vI], [.map 51 61]⟩], [⟨[.tup []], [.map 51 61]⟩], [], []⟩
noncomputable def f36 (n1 : Int) (n2 : Int) (n3 : Int) (n4 : Int) (l5 : List (Pt × En)) : List (Pt × En) :=
  mput (keyB tC (51 : TypeId)) l5 (Pt.mk n1 n2)
  (En.mk n1 n2
    (IntKind.i64.wrap (((mget (keyB tC (51 : TypeId)) l5 (Pt.mk n1 n2)).getD (En.mk (0 : Int) (0 : Int) (0 : Int) (0 : Int))).A + n3))
    (IntKind.i64.wrap (((mget (keyB tC (51 : TypeId)) l5 (Pt.mk n1 n2)).getD (En.mk (0 : Int) (0 : Int) (0 : Int) (0 : Int))).B + n4)))
noncomputable def F36 : CF tC := mkF tC S36 (fun a => some ((f36 a.1 a.2.1 a.2.2.1 a.2.2.2.1 a.2.2.2.2.1), ()))
def h36 (r : List (Pt × En)) : Option (altTy tE S36.outs) := some (r, ())
theorem f36_run : ∀ a, fnS tC G36 (look []) Try.f36 S36 a = (fun a => some ((f36 a.1 a.2.1 a.2.2.1 a.2.2.2.1 a.2.2.2.2.1), ())) a := fun a => by
  have key : ∀ (n1 : Int) (n2 : Int) (n3 : Int) (n4 : Int) (l5 : List (Pt × En)), (h36
  (mput (keyB tC (51 : TypeId)) l5 (Pt.mk n1 n2)
    (En.mk n1 n2
      (IntKind.i64.wrap (((mget (keyB tC (51 : TypeId)) l5 (Pt.mk n1 n2)).getD (En.mk (0 : Int) (0 : Int) (0 : Int) (0 : Int))).A + n3))
      (IntKind.i64.wrap (((mget (keyB tC (51 : TypeId)) l5 (Pt.mk n1 n2)).getD (En.mk (0 : Int) (0 : Int) (0 : Int) (0 : Int))).B + n4))))) = h36 (f36 n1 n2 n3 n4 l5) := by
    intros
    unfold f36
    repeat' first | rfl | refine cond_h (g := h36) ?_ ?_
  exact Eq.trans (by kernel_rfl) (key a.1 a.2.1 a.2.2.1 a.2.2.2.1 a.2.2.2.2.1)
theorem F36_ok : CFOK tC 36 F36 := mkF_ok Y36 (fn := Try.f36) (body := bodyOf Try.f36) (by kernel_rfl) (by kernel_rfl) (by kernel_rfl) (m := 1) rfl (lam_le lam_nil) f36_run

/-! cmp.isNaN -/
noncomputable def G78 : FuncId → Option (CF tC) := look []
theorem Y78 : SysN tC G78 := (sys_nil tC_ok tC_eq)
def S78 : FS := ⟨[[.v]], [⟨[vI], []⟩], [⟨[vO], []⟩], [[.v]], []⟩
def f78 (n1 : Int) : Bool :=
  n1 != n1
noncomputable def F78 : CF tC := mkF tC S78 (fun a => some ((f78 a.1), ()))
def h78 (r : Bool) : Option (altTy tE S78.outs) := some (r, ())
theorem f78_run : ∀ a, fnS tC G78 (look []) Try.f78 S78 a = (fun a => some ((f78 a.1), ())) a := fun a => by
  have key : ∀ (n1 : Int), (h78 (n1 != n1)) = h78 (f78 n1) := by
    intros
    unfold f78
    repeat' first | rfl | refine cond_h (g := h78) ?_ ?_
  exact Eq.trans (by kernel_rfl) (key a.1)
theorem F78_ok : CFOK tC 78 F78 := mkF_ok Y78 (fn := Try.f78) (body := bodyOf Try.f78) (by kernel_rfl) (by kernel_rfl) (by kernel_rfl) (m := 0) rfl (lam_le lam_nil) f78_run

/-! cmp.Compare -/
noncomputable def G65 : FuncId → Option (CF tC) := look [(78, F78)]
theorem Y65 : SysN tC G65 := (sys_cons F78_ok (mkF_nat _ _) (sys_nil tC_ok tC_eq))
def S65 : FS := ⟨[[.v], [.v]], [⟨[vI, vI], []⟩], [⟨[vI], []⟩], [[.v]], []⟩
def f65 (n1 : Int) (n2 : Int) : Int :=
  bif f78 n1 then bif f78 n2 then (0 : Int) else (-1 : Int)
else bif f78 n2 then (1 : Int) else bif decide (n1 < n2) then (-1 : Int) else bif decide (n1 > n2) then (1 : Int) else (0 : Int)
noncomputable def F65 : CF tC := mkF tC S65 (fun a => some ((f65 a.1 a.2.1), ()))
def h65 (r : Int) : Option (altTy tE S65.outs) := some (r, ())
theorem f65_run : ∀ a, fnS tC G65 (look []) Try.f65 S65 a = (fun a => some ((f65 a.1 a.2.1), ())) a := fun a => by
  have key : ∀ (n1 : Int) (n2 : Int), (bif f78 n1 then bif f78 n2 then h65 (0 : Int) else h65 (-1 : Int)
else
  bif f78 n2 then h65 (1 : Int)
  else bif decide (n1 < n2) then h65 (-1 : Int) else bif decide (n1 > n2) then h65 (1 : Int) else h65 (0 : Int)) = h65 (f65 n1 n2) := by
    intros
    unfold f65
    repeat' first | rfl | refine cond_h (g := h65) ?_ ?_
  exact Eq.trans (by kernel_rfl) (key a.1 a.2.1)
theorem F65_ok : CFOK tC 65 F65 := mkF_ok Y65 (fn := Try.f65) (body := bodyOf Try.f65) (by kernel_rfl) (by kernel_rfl) (by kernel_rfl) (m := 0) rfl (lam_le lam_nil) f65_run

/-! cmp.Or -/
noncomputable def G64 : FuncId → Option (CF tC) := look []
theorem Y64 : SysN tC G64 := (sys_nil tC_ok tC_eq)
noncomputable def c64_0 : Code := loopOf (bodyOf Try.f64) 0
def p64_0 : LS := ⟨0, [3, 6, 7, 8], ⟨[vB, vB, vB, vI, vB, vB, .one (.one (.imm 3)), vI, vI] ++ vBs 9, []⟩, [⟨.ret, [2], ⟨[vB, vB, vI] ++ vBs 15, []⟩, []⟩, ⟨.exit 0, [3], ⟨[vB, vB, vB, vI] ++ vBs 14, []⟩, []⟩], []⟩
noncomputable def r64_0 (x : Int × List Int × Int × Int × Unit) : Option (Int × List Int × Int × Int × Unit ⊕ Int × Unit ⊕ Int × Unit) :=
  bif decide (x.snd.snd.snd.fst < x.snd.snd.fst) then
  (idxO x.snd.fst x.snd.snd.snd.fst).bind fun y9 =>
    bif y9 != x.fst then some (Sum.inr (Sum.inl (y9, ())))
    else some (Sum.inl (x.fst, x.snd.fst, x.snd.snd.fst, IntKind.i64.wrap (x.snd.snd.snd.fst + (1 : Int)), ()))
else some (Sum.inr (Sum.inr (x.fst, ())))
theorem r64_0_run0 (v0 : Int) (v1 : List Int) (v2 : Int) (v3 : Int) : roundK tC G64 (look []) c64_0 p64_0 (v0, v1, v2, v3, ()) = r64_0 (v0, v1, v2, v3, ()) := by kernel_rfl
theorem r64_0_run (x : Int × List Int × Int × Int × Unit) : roundK tC G64 (look []) c64_0 p64_0 x = r64_0 x := r64_0_run0 x.1 x.2.1 x.2.2.1 x.2.2.2.1
noncomputable def l64_0 (x : Int × List Int × Int × Int × Unit) : Option (Int × Unit ⊕ Int × Unit) := iterO r64_0 x
noncomputable def W64_0 : LF tC := loopW tC p64_0 0 l64_0
theorem W64_0_ok : keyed 0 (bodyOf Try.f64) = [.block 0 (.loop c64_0)] ∧ ∀ n, n ≤ 0 → Snd tC n (.block 0 (.loop c64_0)) W64_0.k := ⟨by kernel_rfl, fun n hn => loopW_ok (p := p64_0) (id := 0) Y64 (lam_le lam_nil n hn) hn r64_0_run⟩
def S64 : FS := ⟨[[.s 3]], [⟨[.one (.one (.imm 3))], []⟩], [⟨[vI], []⟩], [[.v]], []⟩
noncomputable def f64 (x : List Int × Unit) : Option (Int × Unit) :=
  (l64_0 ((0 : Int), x.fst, (↑x.fst.length : Int), (0 : Int), ())).bind fun y15 =>
  Sum.elim (fun y13 => some (y13.fst, ())) (fun y14 => some (y14.fst, ())) y15
noncomputable def F64 : CF tC := mkF tC S64 f64
theorem f64_run : ∀ a, fnS tC G64 (look [(0, W64_0)]) Try.f64 S64 a = f64 a := fun a => by kernel_rfl
theorem F64_ok : CFOK tC 64 F64 := mkF_ok Y64 (fn := Try.f64) (body := bodyOf Try.f64) (by kernel_rfl) (by kernel_rfl) (by kernel_rfl) (m := 0) rfl (lam_le (lam_cons W64_0_ok lam_nil)) f64_run

/-! evidence.compare -/
noncomputable def G40 : FuncId → Option (CF tC) := look [(65, F65), (64, F64)]
theorem Y40 : SysN tC G40 := (sys_cons F65_ok (mkF_nat _ _) (sys_cons F64_ok (mkF_nat _ _) (sys_nil tC_ok tC_eq)))
def S40 : FS := ⟨[[.v, .v], [.v, .v]], [⟨[.one (.agg [.int .i64, .int .i64]), .one (.agg [.int .i64, .int .i64])], []⟩], [⟨[vI], []⟩], [[.v]], []⟩
noncomputable def f40 (x : Int × Int × Int × Int × Unit) : Option (Int × Unit) :=
  (f64 ([f65 x.snd.fst x.snd.snd.snd.fst, f65 x.fst x.snd.snd.fst], ())).bind fun y7 => some (y7.fst, ())
noncomputable def F40 : CF tC := mkF tC S40 f40
theorem f40_run : ∀ a, fnS tC G40 (look []) Try.f40 S40 a = f40 a := fun a => by kernel_rfl
theorem F40_ok : CFOK tC 40 F40 := mkF_ok Y40 (fn := Try.f40) (body := bodyOf Try.f40) (by kernel_rfl) (by kernel_rfl) (by kernel_rfl) (m := 0) rfl (lam_le lam_nil) f40_run

/-! At$1 -/
noncomputable def G39 : FuncId → Option (CF tC) := look [(40, F40)]
theorem Y39 : SysN tC G39 := (sys_cons F40_ok (mkF_nat _ _) (sys_nil tC_ok tC_eq))
def S39 : FS := ⟨[[.v, .v, .v, .v], [.v, .v]], [⟨[.one (.agg [.int .i64, .int .i64, .int .i64, .int .i64]), .one (.agg [.int .i64, .int .i64])], []⟩], [⟨[vI], []⟩], [[.v]], []⟩
noncomputable def f39 (x : Int × Int × Int × Int × Int × Int × Unit) : Option (Int × Unit) :=
  (f40 (x.fst, x.snd.fst, x.snd.snd.snd.snd.fst, x.snd.snd.snd.snd.snd.fst, ())).bind fun y9 => some (y9.fst, ())
noncomputable def F39 : CF tC := mkF tC S39 f39
theorem f39_run : ∀ a, fnS tC G39 (look []) Try.f39 S39 a = f39 a := fun a => by kernel_rfl
theorem F39_ok : CFOK tC 39 F39 := mkF_ok Y39 (fn := Try.f39) (body := bodyOf Try.f39) (by kernel_rfl) (by kernel_rfl) (by kernel_rfl) (m := 0) rfl (lam_le lam_nil) f39_run

/-! list$1 -/
noncomputable def G61 : FuncId → Option (CF tC) := look []
theorem Y61 : SysN tC G61 := (sys_nil tC_ok tC_eq)
def S61 : FS := ⟨[[.v, .v, .v, .v]], [⟨[.one (.agg [.int .i64, .int .i64, .int .i64, .int .i64])], []⟩], [⟨[vO], []⟩], [[.v]], []⟩
def f61 (_n1 : Int) (_n2 : Int) (n3 : Int) (n4 : Int) : Bool :=
  bif n3 == (0 : Int) then n4 == (0 : Int) else false
noncomputable def F61 : CF tC := mkF tC S61 (fun a => some ((f61 a.1 a.2.1 a.2.2.1 a.2.2.2.1), ()))
def h61 (r : Bool) : Option (altTy tE S61.outs) := some (r, ())
theorem f61_run : ∀ a, fnS tC G61 (look []) Try.f61 S61 a = (fun a => some ((f61 a.1 a.2.1 a.2.2.1 a.2.2.2.1), ())) a := fun a => by
  have key : ∀ (n1 : Int) (n2 : Int) (n3 : Int) (n4 : Int), (bif n3 == (0 : Int) then h61 (n4 == (0 : Int)) else h61 false) = h61 (f61 n1 n2 n3 n4) := by
    intros
    unfold f61
    repeat' first | rfl | refine cond_h (g := h61) ?_ ?_
  exact Eq.trans (by kernel_rfl) (key a.1 a.2.1 a.2.2.1 a.2.2.2.1)
theorem F61_ok : CFOK tC 61 F61 := mkF_ok Y61 (fn := Try.f61) (body := bodyOf Try.f61) (by kernel_rfl) (by kernel_rfl) (by kernel_rfl) (m := 0) rfl (lam_le lam_nil) f61_run

/-! list$2 -/
noncomputable def G63 : FuncId → Option (CF tC) := look [(40, F40)]
theorem Y63 : SysN tC G63 := (sys_cons F40_ok (mkF_nat _ _) (sys_nil tC_ok tC_eq))
def S63 : FS := ⟨[[.v, .v, .v, .v], [.v, .v, .v, .v]], [⟨[.one (.agg [.int .i64, .int .i64, .int .i64, .int .i64]), .one (.agg [.int .i64, .int .i64, .int .i64, .int .i64])], []⟩], [⟨[vI], []⟩], [[.v]], []⟩
noncomputable def f63 (x : Int × Int × Int × Int × Int × Int × Int × Int × Unit) : Option (Int × Unit) :=
  (f40 (x.fst, x.snd.fst, x.snd.snd.snd.snd.fst, x.snd.snd.snd.snd.snd.fst, ())).bind fun y11 => some (y11.fst, ())
noncomputable def F63 : CF tC := mkF tC S63 f63
theorem f63_run : ∀ a, fnS tC G63 (look []) Try.f63 S63 a = f63 a := fun a => by kernel_rfl
theorem F63_ok : CFOK tC 63 F63 := mkF_ok Y63 (fn := Try.f63) (body := bodyOf Try.f63) (by kernel_rfl) (by kernel_rfl) (by kernel_rfl) (m := 0) rfl (lam_le lam_nil) f63_run

/-! counted -/
noncomputable def G79 : FuncId → Option (CF tC) := look [(33, F33)]
theorem Y79 : SysN tC G79 := (sys_cons F33_ok (mkF_nat _ _) (sys_nil tC_ok tC_eq))
def S79 : FS := ⟨[[.v, .v, .v, .v]], [⟨[.one (.agg [.int .i64, .int .i64, .int .i64, .int .i64])], []⟩], [⟨[vO], []⟩], [[.v]], []⟩
def f79 (_n1 : Int) (_n2 : Int) (n3 : Int) (n4 : Int) : Bool :=
  bif f33 n3 (1099511627776 : Int) then f33 n4 (1099511627776 : Int) else false
noncomputable def F79 : CF tC := mkF tC S79 (fun a => some ((f79 a.1 a.2.1 a.2.2.1 a.2.2.2.1), ()))
def h79 (r : Bool) : Option (altTy tE S79.outs) := some (r, ())
theorem f79_run : ∀ a, fnS tC G79 (look []) Try.f79 S79 a = (fun a => some ((f79 a.1 a.2.1 a.2.2.1 a.2.2.2.1), ())) a := fun a => by
  have key : ∀ (n1 : Int) (n2 : Int) (n3 : Int) (n4 : Int), (bif f33 n3 (1099511627776 : Int) then h79 (f33 n4 (1099511627776 : Int)) else h79 false) = h79 (f79 n1 n2 n3 n4) := by
    intros
    unfold f79
    repeat' first | rfl | refine cond_h (g := h79) ?_ ?_
  exact Eq.trans (by kernel_rfl) (key a.1 a.2.1 a.2.2.1 a.2.2.2.1)
theorem F79_ok : CFOK tC 79 F79 := mkF_ok Y79 (fn := Try.f79) (body := bodyOf Try.f79) (by kernel_rfl) (by kernel_rfl) (by kernel_rfl) (m := 0) rfl (lam_le lam_nil) f79_run

/-! good -/
noncomputable def G66 : FuncId → Option (CF tC) := look [(79, F79), (33, F33)]
theorem Y66 : SysN tC G66 := (sys_cons F79_ok (mkF_nat _ _) (sys_cons F33_ok (mkF_nat _ _) (sys_nil tC_ok tC_eq)))
def S66 : FS := ⟨[[.v, .v, .v, .v]], [⟨[.one (.agg [.int .i64, .int .i64, .int .i64, .int .i64])], []⟩], [⟨[vO], []⟩], [[.v]], []⟩
def f66 (n1 : Int) (n2 : Int) (n3 : Int) (n4 : Int) : Bool :=
  bif f79 n1 n2 n3 n4 then
  bif n3 != (0 : Int) then bif f33 n1 (16384 : Int) then f33 n2 (16384 : Int) else false
  else bif n4 != (0 : Int) then bif f33 n1 (16384 : Int) then f33 n2 (16384 : Int) else false else false
else false
noncomputable def F66 : CF tC := mkF tC S66 (fun a => some ((f66 a.1 a.2.1 a.2.2.1 a.2.2.2.1), ()))
def h66 (r : Bool) : Option (altTy tE S66.outs) := some (r, ())
theorem f66_run : ∀ a, fnS tC G66 (look []) Try.f66 S66 a = (fun a => some ((f66 a.1 a.2.1 a.2.2.1 a.2.2.2.1), ())) a := fun a => by
  have key : ∀ (n1 : Int) (n2 : Int) (n3 : Int) (n4 : Int), (bif f79 n1 n2 n3 n4 then
  bif n3 != (0 : Int) then bif f33 n1 (16384 : Int) then h66 (f33 n2 (16384 : Int)) else h66 false
  else bif n4 != (0 : Int) then bif f33 n1 (16384 : Int) then h66 (f33 n2 (16384 : Int)) else h66 false else h66 false
else h66 false) = h66 (f66 n1 n2 n3 n4) := by
    intros
    unfold f66
    repeat' first | rfl | refine cond_h (g := h66) ?_ ?_
  exact Eq.trans (by kernel_rfl) (key a.1 a.2.1 a.2.2.1 a.2.2.2.1)
theorem F66_ok : CFOK tC 66 F66 := mkF_ok Y66 (fn := Try.f66) (body := bodyOf Try.f66) (by kernel_rfl) (by kernel_rfl) (by kernel_rfl) (m := 0) rfl (lam_le lam_nil) f66_run

/-! evidence.Valid -/
noncomputable def G41 : FuncId → Option (CF tC) := look [(66, F66), (40, F40)]
theorem Y41 : SysN tC G41 := (sys_cons F66_ok (mkF_nat _ _) (sys_cons F40_ok (mkF_nat _ _) (sys_nil tC_ok tC_eq)))
noncomputable def c41_19 : Code := subCode (loopOf (bodyOf Try.f41) 0) 19
def p41_19 : PS := ⟨0, [0, 5, 6, 7], ⟨[.one (.one (.imm 61))] ++ vBs 4 ++ [.one (.one (.imm 61)), vI, vI] ++ vBs 27, []⟩, [⟨.normal, [0, 5, 6, 7], ⟨[.one (.one (.imm 61))] ++ vBs 4 ++ [.one (.one (.imm 61)), vI, vI] ++ vBs 27, []⟩, []⟩], []⟩
noncomputable def j41_19 (x : List En × List En × Int × Int × Unit) : Option (List En × List En × Int × Int × Unit) :=
  some (x.fst, x.snd.fst, x.snd.snd.fst, IntKind.i64.wrap (x.snd.snd.snd.fst + (1 : Int)), ())
theorem j41_19_run0 (v0 : List En) (v1 : List En) (v2 : Int) (v3 : Int) : pieceK tC G41 (look []) c41_19 p41_19 (v0, v1, v2, v3, ()) = j41_19 (v0, v1, v2, v3, ()) := by kernel_rfl
theorem j41_19_run (x : List En × List En × Int × Int × Unit) : pieceK tC G41 (look []) c41_19 p41_19 x = j41_19 x := j41_19_run0 x.1 x.2.1 x.2.2.1 x.2.2.2.1
noncomputable def W41_19 : LF tC := cutLF tC p41_19 j41_19
theorem W41_19_ok : keyed 19 (loopOf (bodyOf Try.f41) 0) = [c41_19] ∧ ∀ n, n ≤ 0 → Snd tC n c41_19 W41_19.k := ⟨by kernel_rfl, fun n hn => cut_ok (p := p41_19) Y41 (lam_le lam_nil n hn) hn j41_19_run⟩
noncomputable def c41_0 : Code := loopOf (bodyOf Try.f41) 0
def p41_0 : LS := ⟨0, [0, 5, 6, 7], ⟨[.one (.one (.imm 61))] ++ vBs 4 ++ [.one (.one (.imm 61)), vI, vI] ++ vBs 27, []⟩, [⟨.ret, [2], ⟨[vB, vB, vO] ++ vBs 32, []⟩, []⟩, ⟨.exit 0, [0], ⟨[.one (.one (.imm 61))] ++ vBs 34, []⟩, []⟩], []⟩
noncomputable def r41_0 (x : List En × List En × Int × Int × Unit) : Option (List En × List En × Int × Int × Unit ⊕ Bool × Unit ⊕ List En × Unit) :=
  bif decide (x.snd.snd.snd.fst < x.snd.snd.fst) then
  (idxO x.snd.fst x.snd.snd.snd.fst).bind fun y31 =>
    bif !f66 y31.X y31.Y y31.A y31.B then some (Sum.inr (Sum.inl (false, ())))
    else
      bif decide (x.snd.snd.snd.fst > (0 : Int)) then
        (idxO x.fst (IntKind.i64.wrap (x.snd.snd.snd.fst - (1 : Int)))).bind fun y29 =>
          (f40 (y29.X, y29.Y, y31.X, y31.Y, ())).bind fun y28 =>
            bif decide (y28.fst ≥ (0 : Int)) then some (Sum.inr (Sum.inl (false, ())))
            else
              (j41_19 (x.fst, x.snd.fst, x.snd.snd.fst, x.snd.snd.snd.fst, ())).bind fun y27 =>
                some (Sum.inl (y27.fst, y27.snd.fst, y27.snd.snd.fst, y27.snd.snd.snd.fst, ()))
      else
        (j41_19 (x.fst, x.snd.fst, x.snd.snd.fst, x.snd.snd.snd.fst, ())).bind fun y30 =>
          some (Sum.inl (y30.fst, y30.snd.fst, y30.snd.snd.fst, y30.snd.snd.snd.fst, ()))
else some (Sum.inr (Sum.inr (x.fst, ())))
theorem r41_0_run0 (v0 : List En) (v1 : List En) (v2 : Int) (v3 : Int) : roundK tC G41 (look [(19, W41_19)]) c41_0 p41_0 (v0, v1, v2, v3, ()) = r41_0 (v0, v1, v2, v3, ()) := by kernel_rfl
theorem r41_0_run (x : List En × List En × Int × Int × Unit) : roundK tC G41 (look [(19, W41_19)]) c41_0 p41_0 x = r41_0 x := r41_0_run0 x.1 x.2.1 x.2.2.1 x.2.2.2.1
noncomputable def l41_0 (x : List En × List En × Int × Int × Unit) : Option (Bool × Unit ⊕ List En × Unit) := iterO r41_0 x
noncomputable def W41_0 : LF tC := loopW tC p41_0 0 l41_0
theorem W41_0_ok : keyed 0 (bodyOf Try.f41) = [.block 0 (.loop c41_0)] ∧ ∀ n, n ≤ 0 → Snd tC n (.block 0 (.loop c41_0)) W41_0.k := ⟨by kernel_rfl, fun n hn => loopW_ok (p := p41_0) (id := 0) Y41 (lam_le (lam_cons W41_19_ok lam_nil) n hn) hn r41_0_run⟩
def S41 : FS := ⟨[[.s 61]], [⟨[.one (.one (.imm 61))], []⟩], [⟨[vO], []⟩], [[.v]], []⟩
noncomputable def f41 (x : List En × Unit) : Option (Bool × Unit) :=
  (l41_0 (x.fst, x.fst, (↑x.fst.length : Int), (0 : Int), ())).bind fun y37 =>
  Sum.elim (fun y35 => some (y35.fst, ())) (fun y36 => some (decide ((↑y36.fst.length : Int) ≤ (1048576 : Int)), ())) y37
noncomputable def F41 : CF tC := mkF tC S41 f41
theorem f41_run : ∀ a, fnS tC G41 (look [(0, W41_0)]) Try.f41 S41 a = f41 a := fun a => by kernel_rfl
theorem F41_ok : CFOK tC 41 F41 := mkF_ok Y41 (fn := Try.f41) (body := bodyOf Try.f41) (by kernel_rfl) (by kernel_rfl) (by kernel_rfl) (m := 0) rfl (lam_le (lam_cons W41_0_ok lam_nil)) f41_run

/-! slices.BinarySearchFunc -/
noncomputable def G38 : FuncId → Option (CF tC) := look [(39, F39)]
theorem Y38 : SysN tC G38 := (sys_cons F39_ok (mkF_nat _ _) (sys_nil tC_ok tC_eq))
noncomputable def c38_0 : Code := loopOf (bodyOf Try.f38) 0
def p38_0 : LS := ⟨0, [0, 2, 4, 8, 9, 10], ⟨[.one (.one (.imm 61)), vB, .one (.fn 39 []), vB, .one (.one (.ptr 0 0 0)), vB, vB, vB, vI, vI, vI] ++ vBs 38, [.box [.int .i64, .int .i64]]⟩, [⟨.exit 0, [0, 2, 4, 8, 9], ⟨[.one (.one (.imm 61)), vB, .one (.fn 39 []), vB, .one (.one (.ptr 0 0 0)), vB, vB, vB, vI, vI] ++ vBs 39, [.box [.int .i64, .int .i64]]⟩, []⟩], []⟩
noncomputable def r38_0 (x : List En × Int × Int × Int × Int × Int × Unit) : Option (List En × Int × Int × Int × Int × Int × Unit ⊕ List En × Int × Int × Int × Int × Unit) :=
  bif decide (x.snd.snd.fst < x.snd.snd.snd.fst) then
  (idxO x.fst (IntKind.i64.wrap ((IntKind.u64.wrap (IntKind.i64.wrap (x.snd.snd.fst + x.snd.snd.snd.fst))).fdiv (2 : Int)))).bind fun y18 =>
    (f39 (y18.X, y18.Y, y18.A, y18.B, x.snd.snd.snd.snd.fst, x.snd.snd.snd.snd.snd.fst, ())).bind fun y17 =>
      bif decide (y17.fst < (0 : Int)) then
        some
          (Sum.inl
            (x.fst, x.snd.fst,
              IntKind.i64.wrap
                (IntKind.i64.wrap ((IntKind.u64.wrap (IntKind.i64.wrap (x.snd.snd.fst + x.snd.snd.snd.fst))).fdiv (2 : Int)) + (1 : Int)),
              x.snd.snd.snd.fst, x.snd.snd.snd.snd.fst, x.snd.snd.snd.snd.snd.fst, ()))
      else
        some
          (Sum.inl
            (x.fst, x.snd.fst, x.snd.snd.fst,
              IntKind.i64.wrap ((IntKind.u64.wrap (IntKind.i64.wrap (x.snd.snd.fst + x.snd.snd.snd.fst))).fdiv (2 : Int)),
              x.snd.snd.snd.snd.fst, x.snd.snd.snd.snd.snd.fst, ()))
else some (Sum.inr (x.fst, x.snd.fst, x.snd.snd.fst, x.snd.snd.snd.snd.fst, x.snd.snd.snd.snd.snd.fst, ()))
theorem r38_0_run0 (v0 : List En) (v1 : Int) (v2 : Int) (v3 : Int) (v4 : Int) (v5 : Int) : roundK tC G38 (look []) c38_0 p38_0 (v0, v1, v2, v3, v4, v5, ()) = r38_0 (v0, v1, v2, v3, v4, v5, ()) := by kernel_rfl
theorem r38_0_run (x : List En × Int × Int × Int × Int × Int × Unit) : roundK tC G38 (look []) c38_0 p38_0 x = r38_0 x := r38_0_run0 x.1 x.2.1 x.2.2.1 x.2.2.2.1 x.2.2.2.2.1 x.2.2.2.2.2.1
noncomputable def l38_0 (x : List En × Int × Int × Int × Int × Int × Unit) : Option (List En × Int × Int × Int × Int × Unit) := iterO r38_0 x
noncomputable def W38_0 : LF tC := loopW tC p38_0 0 l38_0
theorem W38_0_ok : keyed 0 (bodyOf Try.f38) = [.block 0 (.loop c38_0)] ∧ ∀ n, n ≤ 0 → Snd tC n (.block 0 (.loop c38_0)) W38_0.k := ⟨by kernel_rfl, fun n hn => loopW_ok (p := p38_0) (id := 0) Y38 (lam_le lam_nil n hn) hn r38_0_run⟩
def S38 : FS := ⟨[[.s 61], [.v, .v], [.f]], [⟨[.one (.one (.imm 61)), .one (.agg [.int .i64, .int .i64]), .one (.fn 39 [])], []⟩], [⟨[.tup [.one (.int .i64), .one .bool]], []⟩], [[.v], [.v]], []⟩
noncomputable def f38 (x : List En × Int × Int × Unit) : Option (Int × Bool × Unit) :=
  (l38_0 (x.fst, (↑x.fst.length : Int), (0 : Int), (↑x.fst.length : Int), x.snd.fst, x.snd.snd.fst, ())).bind fun y30 =>
  bif decide (y30.snd.snd.fst < y30.snd.fst) then
    (idxO y30.fst y30.snd.snd.fst).bind fun y29 =>
      (f39 (y29.X, y29.Y, y29.A, y29.B, y30.snd.snd.snd.fst, y30.snd.snd.snd.snd.fst, ())).bind fun y28 =>
        some (y30.snd.snd.fst, y28.fst == (0 : Int), ())
  else some (y30.snd.snd.fst, false, ())
noncomputable def F38 : CF tC := mkF tC S38 f38
theorem f38_run : ∀ a, fnS tC G38 (look [(0, W38_0)]) Try.f38 S38 a = f38 a := fun a => by kernel_rfl
theorem F38_ok : CFOK tC 38 F38 := mkF_ok Y38 (fn := Try.f38) (body := bodyOf Try.f38) (by kernel_rfl) (by kernel_rfl) (by kernel_rfl) (m := 0) rfl (lam_le (lam_cons W38_0_ok lam_nil)) f38_run

/-! evidence.At -/
noncomputable def G16 : FuncId → Option (CF tC) := look [(38, F38), (39, F39), (41, F41)]
theorem Y16 : SysN tC G16 := (sys_cons F38_ok (mkF_nat _ _) (sys_cons F39_ok (mkF_nat _ _) (sys_cons F41_ok (mkF_nat _ _) (sys_nil tC_ok tC_eq))))
def S16 : FS := ⟨[[.s 61], [.v, .v]], [⟨[.one (.one (.imm 61)), .one (.agg [.int .i64, .int .i64])], []⟩], [⟨[.one (.agg [.int .i64, .int .i64, .int .i64, .int .i64])], []⟩], [[.v, .v, .v, .v]], []⟩
noncomputable def f16 (x : List En × Int × Int × Unit) : Option (Int × Int × Int × Int × Unit) :=
  (f38 (x.fst, x.snd.fst, x.snd.snd.fst, ())).bind fun y14 =>
  bif !y14.snd.fst then some (x.snd.fst, x.snd.snd.fst, (0 : Int), (0 : Int), ())
  else
    (f41 (x.fst, ())).bind fun y13 =>
      bif !y13.fst then some (x.snd.fst, x.snd.snd.fst, (0 : Int), (0 : Int), ())
      else (idxO x.fst y14.fst).bind fun y12 => some (y12.X, y12.Y, y12.A, y12.B, ())
noncomputable def F16 : CF tC := mkF tC S16 f16
theorem f16_run : ∀ a, fnS tC G16 (look []) Try.f16 S16 a = f16 a := fun a => by kernel_rfl
theorem F16_ok : CFOK tC 16 F16 := mkF_ok Y16 (fn := Try.f16) (body := bodyOf Try.f16) (by kernel_rfl) (by kernel_rfl) (by kernel_rfl) (m := 0) rfl (lam_le lam_nil) f16_run

/-! slices.IndexFunc[Entry] -/
noncomputable def G75 : FuncId → Option (CF tC) := look [(61, F61)]
theorem Y75 : SysN tC G75 := (sys_cons F61_ok (mkF_nat _ _) (sys_nil tC_ok tC_eq))
noncomputable def c75_0 : Code := loopOf (bodyOf Try.f75) 0
def p75_0 : LS := ⟨0, [0, 1, 7, 8], ⟨[.one (.one (.imm 61)), .one (.fn 61 [])] ++ vBs 5 ++ [vI, vI] ++ vBs 10, []⟩, [⟨.ret, [4], ⟨vBs 4 ++ [vI] ++ vBs 14, []⟩, []⟩, ⟨.exit 0, [], ⟨vBs 19, []⟩, []⟩], []⟩
noncomputable def r75_0 (x : List En × Int × Int × Unit) : Option (List En × Int × Int × Unit ⊕ Int × Unit ⊕ Unit) :=
  bif decide (x.snd.snd.fst < x.snd.fst) then
  (idxO x.fst x.snd.snd.fst).bind fun y7 =>
    bif f61 y7.X y7.Y y7.A y7.B then some (Sum.inr (Sum.inl (x.snd.snd.fst, ())))
    else some (Sum.inl (x.fst, x.snd.fst, IntKind.i64.wrap (x.snd.snd.fst + (1 : Int)), ()))
else some (Sum.inr (Sum.inr ()))
theorem r75_0_run0 (v0 : List En) (v1 : Int) (v2 : Int) : roundK tC G75 (look []) c75_0 p75_0 (v0, v1, v2, ()) = r75_0 (v0, v1, v2, ()) := by kernel_rfl
theorem r75_0_run (x : List En × Int × Int × Unit) : roundK tC G75 (look []) c75_0 p75_0 x = r75_0 x := r75_0_run0 x.1 x.2.1 x.2.2.1
noncomputable def l75_0 (x : List En × Int × Int × Unit) : Option (Int × Unit ⊕ Unit) := iterO r75_0 x
noncomputable def W75_0 : LF tC := loopW tC p75_0 0 l75_0
theorem W75_0_ok : keyed 0 (bodyOf Try.f75) = [.block 0 (.loop c75_0)] ∧ ∀ n, n ≤ 0 → Snd tC n (.block 0 (.loop c75_0)) W75_0.k := ⟨by kernel_rfl, fun n hn => loopW_ok (p := p75_0) (id := 0) Y75 (lam_le lam_nil n hn) hn r75_0_run⟩
def S75 : FS := ⟨[[.s 61], [.f]], [⟨[.one (.one (.imm 61)), .one (.fn 61 [])], []⟩], [⟨[vI], []⟩], [[.v]], []⟩
noncomputable def f75 (x : List En × Unit) : Option (Int × Unit) :=
  (l75_0 (x.fst, (↑x.fst.length : Int), (0 : Int), ())).bind fun y12 =>
  Sum.elim (fun y10 => some (y10.fst, ())) (fun _x => some ((-1 : Int), ())) y12
noncomputable def F75 : CF tC := mkF tC S75 f75
theorem f75_run : ∀ a, fnS tC G75 (look [(0, W75_0)]) Try.f75 S75 a = f75 a := fun a => by kernel_rfl
theorem F75_ok : CFOK tC 75 F75 := mkF_ok Y75 (fn := Try.f75) (body := bodyOf Try.f75) (by kernel_rfl) (by kernel_rfl) (by kernel_rfl) (m := 0) rfl (lam_le (lam_cons W75_0_ok lam_nil)) f75_run
end Go.AE
