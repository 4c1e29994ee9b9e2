/-
  The plain functions that the seat's Go functions compute, each with the proof that the function keeps it. Printed by the generator (Gen2) and checked by the kernel.
-/
import Derived.Test.YtpfhpkcjgibokaaCfgT
namespace Go.AE
open Go.Proofs Go.RowKit
set_option maxRecDepth 100000

/-! base.Clip -/
noncomputable def G7 : FuncId → Option (CF tC) := look []
theorem Y7 : SysN tC G7 := (sys_nil tC_ok tC_eq)
def S7 : FS := ⟨[[.v], [.v], [.v]], [⟨[vI, vI, vI], []⟩], [⟨[vI], []⟩], [[.v]], []⟩
def f7 (n1 : Int) (n2 : Int) (n3 : Int) : Int :=
  bif decide ((bif decide (n3 < n1) then n3 else n1) > n2) then bif decide (n3 < n1) then n3 else n1 else n2
noncomputable def F7 : CF tC := mkF tC S7 (fun a => some ((f7 a.1 a.2.1 a.2.2.1), ()))
def h7 (r : Int) : Option (altTy tE S7.outs) := some (r, ())
theorem f7_run : ∀ a, fnS tC G7 (look []) Try.f7 S7 a = (fun a => some ((f7 a.1 a.2.1 a.2.2.1), ())) a := fun a => by
  have key : ∀ (n1 : Int) (n2 : Int) (n3 : Int), (h7 (bif decide ((bif decide (n3 < n1) then n3 else n1) > n2) then bif decide (n3 < n1) then n3 else n1 else n2)) = h7 (f7 n1 n2 n3) := by
    intros
    unfold f7
    repeat' first | rfl | refine cond_h (g := h7) ?_ ?_
  exact Eq.trans (by kernel_rfl) (key a.1 a.2.1 a.2.2.1)
theorem F7_ok : CFOK tC 7 F7 := mkF_ok Y7 (fn := Try.f7) (body := bodyOf Try.f7) (by kernel_rfl) (by kernel_rfl) (by kernel_rfl) (m := 0) rfl (lam_le lam_nil) f7_run

/-! base.Mod -/
noncomputable def G8 : FuncId → Option (CF tC) := look []
theorem Y8 : SysN tC G8 := (sys_nil tC_ok tC_eq)
noncomputable def c8_13 : Code := subCode (bodyOf Try.f8) 13
def p8_13 : PS := ⟨0, [5], ⟨vBs 5 ++ [vI] ++ vBs 9, []⟩, [⟨.ret, [4], ⟨vBs 4 ++ [vI] ++ vBs 10, []⟩, []⟩], []⟩
noncomputable def j8_13 (x : Int × Unit) : Option (Int × Unit) :=
  some (x.fst, ())
theorem j8_13_run0 (v0 : Int) : pieceK tC G8 (look []) c8_13 p8_13 (v0, ()) = j8_13 (v0, ()) := by kernel_rfl
theorem j8_13_run (x : Int × Unit) : pieceK tC G8 (look []) c8_13 p8_13 x = j8_13 x := j8_13_run0 x.1
noncomputable def W8_13 : LF tC := cutLF tC p8_13 j8_13
theorem W8_13_ok : keyed 13 (bodyOf Try.f8) = [c8_13] ∧ ∀ n, n ≤ 0 → Snd tC n c8_13 W8_13.k := ⟨by kernel_rfl, fun n hn => cut_ok (p := p8_13) Y8 (lam_le lam_nil n hn) hn j8_13_run⟩
def S8 : FS := ⟨[[.v], [.v]], [⟨[vI, vI], []⟩], [⟨[vI], []⟩], [[.v]], []⟩
noncomputable def f8 (x : Int × Int × Unit) : Option (Int × Unit) :=
  bif x.snd.fst == (0 : Int) then none
else
  bif decide (x.fst.tmod x.snd.fst < (0 : Int)) then
    (j8_13 (IntKind.i64.wrap (x.fst.tmod x.snd.fst + x.snd.fst), ())).bind fun y8 => some (y8.fst, ())
  else (j8_13 (x.fst.tmod x.snd.fst, ())).bind fun y9 => some (y9.fst, ())
noncomputable def F8 : CF tC := mkF tC S8 f8
theorem f8_run : ∀ a, fnS tC G8 (look [(13, W8_13)]) Try.f8 S8 a = f8 a := fun a => by kernel_rfl
theorem F8_ok : CFOK tC 8 F8 := mkF_ok Y8 (fn := Try.f8) (body := bodyOf Try.f8) (by kernel_rfl) (by kernel_rfl) (by kernel_rfl) (m := 0) rfl (lam_le (lam_cons W8_13_ok lam_nil)) f8_run

/-! base.Plan -/
noncomputable def G17 : FuncId → Option (CF tC) := look []
theorem Y17 : SysN tC G17 := (sys_nil tC_ok tC_eq)
noncomputable def c17_0 : Code := loopOf (bodyOf Try.f17) 0
def p17_0 : LS := ⟨0, [1, 3], ⟨[vB, .one (.one (.ptr 0 0 0)), vB, vI] ++ vBs 42, [.box [.int .i64, .int .i64, .imm 5]]⟩, [⟨.ret, [2], ⟨[vB, vB, vO] ++ vBs 43, []⟩, []⟩, ⟨.exit 0, [], ⟨vBs 46, []⟩, []⟩], []⟩
noncomputable def r17_0 (x : Int × Int × Int × List Int × Unit) : Option (Int × Int × Int × List Int × Unit ⊕ Bool × Unit ⊕ Unit) :=
  bif decide (x.fst < (↑x.snd.snd.snd.fst.length : Int)) then
  (idxO x.snd.snd.snd.fst x.fst).bind fun y10 =>
    bif decide (y10 > (2 : Int)) then some (Sum.inr (Sum.inl (false, ())))
    else some (Sum.inl (IntKind.i64.wrap (x.fst + (1 : Int)), x.snd.fst, x.snd.snd.fst, x.snd.snd.snd.fst, ()))
else some (Sum.inr (Sum.inr ()))
theorem r17_0_run0 (v0 : Int) (v1 : Int) (v2 : Int) (v3 : List Int) : roundK tC G17 (look []) c17_0 p17_0 (v0, v1, v2, v3, ()) = r17_0 (v0, v1, v2, v3, ()) := by kernel_rfl
theorem r17_0_run (x : Int × Int × Int × List Int × Unit) : roundK tC G17 (look []) c17_0 p17_0 x = r17_0 x := r17_0_run0 x.1 x.2.1 x.2.2.1 x.2.2.2.1
noncomputable def l17_0 (x : Int × Int × Int × List Int × Unit) : Option (Bool × Unit ⊕ Unit) := iterO r17_0 x
noncomputable def W17_0 : LF tC := loopW tC p17_0 0 l17_0
theorem W17_0_ok : keyed 0 (bodyOf Try.f17) = [.block 0 (.loop c17_0)] ∧ ∀ n, n ≤ 0 → Snd tC n (.block 0 (.loop c17_0)) W17_0.k := ⟨by kernel_rfl, fun n hn => loopW_ok (p := p17_0) (id := 0) Y17 (lam_le lam_nil n hn) hn r17_0_run⟩
def S17 : FS := ⟨[[.v, .v, .s 5]], [⟨[.one (.agg [.int .i64, .int .i64, .imm 5])], []⟩], [⟨[vO], []⟩], [[.v]], []⟩
noncomputable def f17 (x : Int × Int × List Int × Unit) : Option (Bool × Unit) :=
  bif decide (x.fst < (1 : Int)) then some (false, ())
else
  bif decide (x.fst > (64 : Int)) then some (false, ())
  else
    bif decide (x.snd.fst < (1 : Int)) then some (false, ())
    else
      bif decide (x.snd.fst > (64 : Int)) then some (false, ())
      else
        bif (↑x.snd.snd.fst.length : Int) != IntKind.i64.wrap (x.fst * x.snd.fst) then some (false, ())
        else
          (l17_0 ((0 : Int), x.fst, x.snd.fst, x.snd.snd.fst, ())).bind fun y15 =>
            Sum.elim (fun y13 => some (y13.fst, ())) (fun _x => some (true, ())) y15
noncomputable def F17 : CF tC := mkF tC S17 f17
theorem f17_run : ∀ a, fnS tC G17 (look [(0, W17_0)]) Try.f17 S17 a = f17 a := fun a => by kernel_rfl
theorem F17_ok : CFOK tC 17 F17 := mkF_ok Y17 (fn := Try.f17) (body := bodyOf Try.f17) (by kernel_rfl) (by kernel_rfl) (by kernel_rfl) (m := 0) rfl (lam_le (lam_cons W17_0_ok lam_nil)) f17_run

/-! base.Building -/
noncomputable def G5 : FuncId → Option (CF tC) := look [(17, F17)]
theorem Y5 : SysN tC G5 := (sys_cons F17_ok (mkF_nat _ _) (sys_nil tC_ok tC_eq))
noncomputable def c5_0 : Code := loopOf (bodyOf Try.f5) 0
def p5_0 : LS := ⟨0, [1, 3], ⟨[vB, .one (.one (.ptr 0 0 0)), vB, vI] ++ vBs 16, [.box [.int .i64, .int .i64, .imm 5]]⟩, [⟨.ret, [2], ⟨[vB, vB, vO] ++ vBs 17, []⟩, []⟩, ⟨.exit 0, [], ⟨vBs 20, []⟩, []⟩], []⟩
noncomputable def r5_0 (x : Int × Int × Int × List Int × Unit) : Option (Int × Int × Int × List Int × Unit ⊕ Bool × Unit ⊕ Unit) :=
  bif decide (x.fst < (↑x.snd.snd.snd.fst.length : Int)) then
  (idxO x.snd.snd.snd.fst x.fst).bind fun y11 =>
    bif y11 == (0 : Int) then some (Sum.inr (Sum.inl (false, ())))
    else some (Sum.inl (IntKind.i64.wrap (x.fst + (1 : Int)), x.snd.fst, x.snd.snd.fst, x.snd.snd.snd.fst, ()))
else some (Sum.inr (Sum.inr ()))
theorem r5_0_run0 (v0 : Int) (v1 : Int) (v2 : Int) (v3 : List Int) : roundK tC G5 (look []) c5_0 p5_0 (v0, v1, v2, v3, ()) = r5_0 (v0, v1, v2, v3, ()) := by kernel_rfl
theorem r5_0_run (x : Int × Int × Int × List Int × Unit) : roundK tC G5 (look []) c5_0 p5_0 x = r5_0 x := r5_0_run0 x.1 x.2.1 x.2.2.1 x.2.2.2.1
noncomputable def l5_0 (x : Int × Int × Int × List Int × Unit) : Option (Bool × Unit ⊕ Unit) := iterO r5_0 x
noncomputable def W5_0 : LF tC := loopW tC p5_0 0 l5_0
theorem W5_0_ok : keyed 0 (bodyOf Try.f5) = [.block 0 (.loop c5_0)] ∧ ∀ n, n ≤ 0 → Snd tC n (.block 0 (.loop c5_0)) W5_0.k := ⟨by kernel_rfl, fun n hn => loopW_ok (p := p5_0) (id := 0) Y5 (lam_le lam_nil n hn) hn r5_0_run⟩
def S5 : FS := ⟨[[.v, .v, .s 5]], [⟨[.one (.agg [.int .i64, .int .i64, .imm 5])], []⟩], [⟨[vO], []⟩], [[.v]], []⟩
noncomputable def f5 (x : Int × Int × List Int × Unit) : Option (Bool × Unit) :=
  (f17 (x.fst, x.snd.fst, x.snd.snd.fst, ())).bind fun y17 =>
  bif !y17.fst then some (false, ())
  else
    (l5_0 ((0 : Int), x.fst, x.snd.fst, x.snd.snd.fst, ())).bind fun y16 =>
      Sum.elim (fun y14 => some (y14.fst, ())) (fun _x => some (true, ())) y16
noncomputable def F5 : CF tC := mkF tC S5 f5
theorem f5_run : ∀ a, fnS tC G5 (look [(0, W5_0)]) Try.f5 S5 a = f5 a := fun a => by kernel_rfl
theorem F5_ok : CFOK tC 5 F5 := mkF_ok Y5 (fn := Try.f5) (body := bodyOf Try.f5) (by kernel_rfl) (by kernel_rfl) (by kernel_rfl) (m := 0) rfl (lam_le (lam_cons W5_0_ok lam_nil)) f5_run

/-! base.Size -/
noncomputable def G18 : FuncId → Option (CF tC) := look []
theorem Y18 : SysN tC G18 := (sys_nil tC_ok tC_eq)
def S18 : FS := ⟨[[.v], [.v]], [⟨[vI, vI], []⟩], [⟨[vO], []⟩], [[.v]], []⟩
def f18 (n1 : Int) (n2 : Int) : Bool :=
  bif decide (n1 ≥ IntKind.i64.wrap ((0 : Int) - n2)) then decide (n1 ≤ n2) else false
noncomputable def F18 : CF tC := mkF tC S18 (fun a => some ((f18 a.1 a.2.1), ()))
def h18 (r : Bool) : Option (altTy tE S18.outs) := some (r, ())
theorem f18_run : ∀ a, fnS tC G18 (look []) Try.f18 S18 a = (fun a => some ((f18 a.1 a.2.1), ())) a := fun a => by
  have key : ∀ (n1 : Int) (n2 : Int), (bif decide (n1 ≥ IntKind.i64.wrap ((0 : Int) - n2)) then h18 (decide (n1 ≤ n2)) else h18 false) = h18 (f18 n1 n2) := by
    intros
    unfold f18
    repeat' first | rfl | refine cond_h (g := h18) ?_ ?_
  exact Eq.trans (by kernel_rfl) (key a.1 a.2.1)
theorem F18_ok : CFOK tC 18 F18 := mkF_ok Y18 (fn := Try.f18) (body := bodyOf Try.f18) (by kernel_rfl) (by kernel_rfl) (by kernel_rfl) (m := 0) rfl (lam_le lam_nil) f18_run

/-! base.Pose -/
noncomputable def G6 : FuncId → Option (CF tC) := look [(18, F18)]
theorem Y6 : SysN tC G6 := (sys_cons F18_ok (mkF_nat _ _) (sys_nil tC_ok tC_eq))
def S6 : FS := ⟨[[.v, .v, .v]], [⟨[.one (.agg [.int .i64, .int .i64, .int .i64])], []⟩], [⟨[vO], []⟩], [[.v]], []⟩
def f6 (n1 : Int) (n2 : Int) (n3 : Int) : Bool :=
  bif f18 n1 (1048576 : Int) then
  bif f18 n2 (1048576 : Int) then bif decide (n3 ≥ (0 : Int)) then decide (n3 < (256 : Int)) else false else false
else false
noncomputable def F6 : CF tC := mkF tC S6 (fun a => some ((f6 a.1 a.2.1 a.2.2.1), ()))
def h6 (r : Bool) : Option (altTy tE S6.outs) := some (r, ())
theorem f6_run : ∀ a, fnS tC G6 (look []) Try.f6 S6 a = (fun a => some ((f6 a.1 a.2.1 a.2.2.1), ())) a := fun a => by
  have key : ∀ (n1 : Int) (n2 : Int) (n3 : Int), (bif f18 n1 (1048576 : Int) then
  bif f18 n2 (1048576 : Int) then bif decide (n3 ≥ (0 : Int)) then h6 (decide (n3 < (256 : Int))) else h6 false else h6 false
else h6 false) = h6 (f6 n1 n2 n3) := by
    intros
    unfold f6
    repeat' first | rfl | refine cond_h (g := h6) ?_ ?_
  exact Eq.trans (by kernel_rfl) (key a.1 a.2.1 a.2.2.1)
theorem F6_ok : CFOK tC 6 F6 := mkF_ok Y6 (fn := Try.f6) (body := bodyOf Try.f6) (by kernel_rfl) (by kernel_rfl) (by kernel_rfl) (m := 0) rfl (lam_le lam_nil) f6_run

/-! plan.size -/
noncomputable def G51 : FuncId → Option (CF tC) := look []
theorem Y51 : SysN tC G51 := (sys_nil tC_ok tC_eq)
def S51 : FS := ⟨[[.v]], [⟨[vI], []⟩], [⟨[vO], []⟩], [[.v]], []⟩
def f51 (n1 : Int) : Bool :=
  bif decide (n1 ≥ (1 : Int)) then decide (n1 ≤ (64 : Int)) else false
noncomputable def F51 : CF tC := mkF tC S51 (fun a => some ((f51 a.1), ()))
def h51 (r : Bool) : Option (altTy tE S51.outs) := some (r, ())
theorem f51_run : ∀ a, fnS tC G51 (look []) Try.f51 S51 a = (fun a => some ((f51 a.1), ())) a := fun a => by
  have key : ∀ (n1 : Int), (bif decide (n1 ≥ (1 : Int)) then h51 (decide (n1 ≤ (64 : Int))) else h51 false) = h51 (f51 n1) := by
    intros
    unfold f51
    repeat' first | rfl | refine cond_h (g := h51) ?_ ?_
  exact Eq.trans (by kernel_rfl) (key a.1)
theorem F51_ok : CFOK tC 51 F51 := mkF_ok Y51 (fn := Try.f51) (body := bodyOf Try.f51) (by kernel_rfl) (by kernel_rfl) (by kernel_rfl) (m := 0) rfl (lam_le lam_nil) f51_run

/-! slices.Max -/
noncomputable def G52 : FuncId → Option (CF tC) := look []
theorem Y52 : SysN tC G52 := (sys_nil tC_ok tC_eq)
noncomputable def c52_0 : Code := loopOf (bodyOf Try.f52) 0
def p52_0 : LS := ⟨0, [0, 3, 4], ⟨[.one (.one (.imm 5)), vB, vB, .one (.one (.int .u8)), vI] ++ vBs 20, []⟩, [⟨.exit 0, [3], ⟨[vB, vB, vB, .one (.one (.int .u8))] ++ vBs 21, []⟩, []⟩], []⟩
noncomputable def r52_0 (x : List Int × Int × Int × Unit) : Option (List Int × Int × Int × Unit ⊕ Int × Unit) :=
  bif decide (x.snd.snd.fst < (↑x.fst.length : Int)) then
  (idxO x.fst x.snd.snd.fst).bind fun y8 =>
    some (Sum.inl (x.fst, bif decide (y8 > x.snd.fst) then y8 else x.snd.fst, IntKind.i64.wrap (x.snd.snd.fst + (1 : Int)), ()))
else some (Sum.inr (x.snd.fst, ()))
theorem r52_0_run0 (v0 : List Int) (v1 : Int) (v2 : Int) : roundK tC G52 (look []) c52_0 p52_0 (v0, v1, v2, ()) = r52_0 (v0, v1, v2, ()) := by kernel_rfl
theorem r52_0_run (x : List Int × Int × Int × Unit) : roundK tC G52 (look []) c52_0 p52_0 x = r52_0 x := r52_0_run0 x.1 x.2.1 x.2.2.1
noncomputable def l52_0 (x : List Int × Int × Int × Unit) : Option (Int × Unit) := iterO r52_0 x
noncomputable def W52_0 : LF tC := loopW tC p52_0 0 l52_0
theorem W52_0_ok : keyed 0 (bodyOf Try.f52) = [.block 0 (.loop c52_0)] ∧ ∀ n, n ≤ 0 → Snd tC n (.block 0 (.loop c52_0)) W52_0.k := ⟨by kernel_rfl, fun n hn => loopW_ok (p := p52_0) (id := 0) Y52 (lam_le lam_nil n hn) hn r52_0_run⟩
def S52 : FS := ⟨[[.s 5]], [⟨[.one (.one (.imm 5))], []⟩], [⟨[.one (.one (.int .u8))], []⟩], [[.v]], []⟩
noncomputable def f52 (x : List Int × Unit) : Option (Int × Unit) :=
  bif decide ((↑x.fst.length : Int) < (1 : Int)) then none
else (idxO x.fst (0 : Int)).bind fun y12 => (l52_0 (x.fst, y12, (1 : Int), ())).bind fun y11 => some (y11.fst, ())
noncomputable def F52 : CF tC := mkF tC S52 f52
theorem f52_run : ∀ a, fnS tC G52 (look [(0, W52_0)]) Try.f52 S52 a = f52 a := fun a => by kernel_rfl
theorem F52_ok : CFOK tC 52 F52 := mkF_ok Y52 (fn := Try.f52) (body := bodyOf Try.f52) (by kernel_rfl) (by kernel_rfl) (by kernel_rfl) (m := 0) rfl (lam_le (lam_cons W52_0_ok lam_nil)) f52_run

/-! plan.Valid -/
noncomputable def G28 : FuncId → Option (CF tC) := look [(51, F51), (52, F52)]
theorem Y28 : SysN tC G28 := (sys_cons F51_ok (mkF_nat _ _) (sys_cons F52_ok (mkF_nat _ _) (sys_nil tC_ok tC_eq)))
def S28 : FS := ⟨[[.v, .v, .s 5]], [⟨[.one (.agg [.int .i64, .int .i64, .imm 5])], []⟩], [⟨[vO], []⟩], [[.v]], []⟩
noncomputable def f28 (x : Int × Int × List Int × Unit) : Option (Bool × Unit) :=
  bif !f51 x.fst then some (false, ())
else
  bif !f51 x.snd.fst then some (false, ())
  else
    bif (↑x.snd.snd.fst.length : Int) != IntKind.i64.wrap (x.fst * x.snd.fst) then some (false, ())
    else
      bif (↑x.snd.snd.fst.length : Int) == (0 : Int) then some (true, ())
      else (f52 (x.snd.snd.fst, ())).bind fun y6 => some (decide (y6.fst ≤ (2 : Int)), ())
noncomputable def F28 : CF tC := mkF tC S28 f28
theorem f28_run : ∀ a, fnS tC G28 (look []) Try.f28 S28 a = f28 a := fun a => by kernel_rfl
theorem F28_ok : CFOK tC 28 F28 := mkF_ok Y28 (fn := Try.f28) (body := bodyOf Try.f28) (by kernel_rfl) (by kernel_rfl) (by kernel_rfl) (m := 0) rfl (lam_le lam_nil) f28_run

/-! plan.inside -/
noncomputable def G29 : FuncId → Option (CF tC) := look []
theorem Y29 : SysN tC G29 := (sys_nil tC_ok tC_eq)
def S29 : FS := ⟨[[.v, .v, .s 5], [.v, .v]], [⟨[.one (.agg [.int .i64, .int .i64, .imm 5]), .one (.agg [.int .i64, .int .i64])], []⟩], [⟨[vO], []⟩], [[.v]], []⟩
def f29 (n1 : Int) (n2 : Int) (_l3 : List Int) (n4 : Int) (n5 : Int) : Bool :=
  bif decide (n4 ≥ (0 : Int)) then bif decide (n4 < n1) then bif decide (n5 ≥ (0 : Int)) then decide (n5 < n2) else false else false
else false
noncomputable def F29 : CF tC := mkF tC S29 (fun a => some ((f29 a.1 a.2.1 a.2.2.1 a.2.2.2.1 a.2.2.2.2.1), ()))
def h29 (r : Bool) : Option (altTy tE S29.outs) := some (r, ())
theorem f29_run : ∀ a, fnS tC G29 (look []) Try.f29 S29 a = (fun a => some ((f29 a.1 a.2.1 a.2.2.1 a.2.2.2.1 a.2.2.2.2.1), ())) a := fun a => by
  have key : ∀ (n1 : Int) (n2 : Int) (l3 : List Int) (n4 : Int) (n5 : Int), (bif decide (n4 ≥ (0 : Int)) then
  bif decide (n4 < n1) then bif decide (n5 ≥ (0 : Int)) then h29 (decide (n5 < n2)) else h29 false else h29 false
else h29 false) = h29 (f29 n1 n2 l3 n4 n5) := by
    intros
    unfold f29
    repeat' first | rfl | refine cond_h (g := h29) ?_ ?_
  exact Eq.trans (by kernel_rfl) (key a.1 a.2.1 a.2.2.1 a.2.2.2.1 a.2.2.2.2.1)
theorem F29_ok : CFOK tC 29 F29 := mkF_ok Y29 (fn := Try.f29) (body := bodyOf Try.f29) (by kernel_rfl) (by kernel_rfl) (by kernel_rfl) (m := 0) rfl (lam_le lam_nil) f29_run

/-! plan.At -/
noncomputable def G13 : FuncId → Option (CF tC) := look [(28, F28), (29, F29)]
theorem Y13 : SysN tC G13 := (sys_cons F28_ok (mkF_nat _ _) (sys_cons F29_ok (mkF_nat _ _) (sys_nil tC_ok tC_eq)))
def S13 : FS := ⟨[[.v, .v, .s 5], [.v, .v]], [⟨[.one (.agg [.int .i64, .int .i64, .imm 5]), .one (.agg [.int .i64, .int .i64])], []⟩], [⟨[.one (.one (.int .u8))], []⟩], [[.v]], []⟩
noncomputable def f13 (x : Int × Int × List Int × Int × Int × Unit) : Option (Int × Unit) :=
  (f28 (x.fst, x.snd.fst, x.snd.snd.fst, ())).bind fun y10 =>
  bif !y10.fst then some ((0 : Int), ())
  else
    bif !f29 x.fst x.snd.fst x.snd.snd.fst x.snd.snd.snd.fst x.snd.snd.snd.snd.fst then some ((2 : Int), ())
    else
      (idxO x.snd.snd.fst (IntKind.i64.wrap (IntKind.i64.wrap (x.snd.snd.snd.snd.fst * x.fst) + x.snd.snd.snd.fst))).bind fun y9 =>
        some (y9, ())
noncomputable def F13 : CF tC := mkF tC S13 f13
theorem f13_run : ∀ a, fnS tC G13 (look []) Try.f13 S13 a = f13 a := fun a => by kernel_rfl
theorem F13_ok : CFOK tC 13 F13 := mkF_ok Y13 (fn := Try.f13) (body := bodyOf Try.f13) (by kernel_rfl) (by kernel_rfl) (by kernel_rfl) (m := 0) rfl (lam_le lam_nil) f13_run

/-! ray.within -/
noncomputable def G20 : FuncId → Option (CF tC) := look []
theorem Y20 : SysN tC G20 := (sys_nil tC_ok tC_eq)
def S20 : FS := ⟨[[.v], [.v], [.v]], [⟨[vI, vI, vI], []⟩], [⟨[vO], []⟩], [[.v]], []⟩
def f20 (n1 : Int) (n2 : Int) (n3 : Int) : Bool :=
  bif decide (n1 ≥ n2) then decide (n1 ≤ n3) else false
noncomputable def F20 : CF tC := mkF tC S20 (fun a => some ((f20 a.1 a.2.1 a.2.2.1), ()))
def h20 (r : Bool) : Option (altTy tE S20.outs) := some (r, ())
theorem f20_run : ∀ a, fnS tC G20 (look []) Try.f20 S20 a = (fun a => some ((f20 a.1 a.2.1 a.2.2.1), ())) a := fun a => by
  have key : ∀ (n1 : Int) (n2 : Int) (n3 : Int), (bif decide (n1 ≥ n2) then h20 (decide (n1 ≤ n3)) else h20 false) = h20 (f20 n1 n2 n3) := by
    intros
    unfold f20
    repeat' first | rfl | refine cond_h (g := h20) ?_ ?_
  exact Eq.trans (by kernel_rfl) (key a.1 a.2.1 a.2.2.1)
theorem F20_ok : CFOK tC 20 F20 := mkF_ok Y20 (fn := Try.f20) (body := bodyOf Try.f20) (by kernel_rfl) (by kernel_rfl) (by kernel_rfl) (m := 0) rfl (lam_le lam_nil) f20_run

/-! ray.in -/
noncomputable def G30 : FuncId → Option (CF tC) := look [(28, F28), (20, F20)]
theorem Y30 : SysN tC G30 := (sys_cons F28_ok (mkF_nat _ _) (sys_cons F20_ok (mkF_nat _ _) (sys_nil tC_ok tC_eq)))
def S30 : FS := ⟨[[.v, .v, .s 5], [.v, .v]], [⟨[.one (.agg [.int .i64, .int .i64, .imm 5]), .one (.agg [.int .i64, .int .i64])], []⟩], [⟨[vO], []⟩], [[.v]], []⟩
noncomputable def f30 (x : Int × Int × List Int × Int × Int × Unit) : Option (Bool × Unit) :=
  (f28 (x.fst, x.snd.fst, x.snd.snd.fst, ())).bind fun y8 =>
  bif y8.fst then
    bif f20 x.snd.snd.snd.fst (0 : Int) (IntKind.i64.wrap ((64 : Int) * x.fst)) then
      some (f20 x.snd.snd.snd.snd.fst (0 : Int) (IntKind.i64.wrap ((64 : Int) * x.snd.fst)), ())
    else some (false, ())
  else some (false, ())
noncomputable def F30 : CF tC := mkF tC S30 f30
theorem f30_run : ∀ a, fnS tC G30 (look []) Try.f30 S30 a = f30 a := fun a => by kernel_rfl
theorem F30_ok : CFOK tC 30 F30 := mkF_ok Y30 (fn := Try.f30) (body := bodyOf Try.f30) (by kernel_rfl) (by kernel_rfl) (by kernel_rfl) (m := 0) rfl (lam_le lam_nil) f30_run

/-! ray.stands -/
noncomputable def G19 : FuncId → Option (CF tC) := look [(30, F30), (20, F20)]
theorem Y19 : SysN tC G19 := (sys_cons F30_ok (mkF_nat _ _) (sys_cons F20_ok (mkF_nat _ _) (sys_nil tC_ok tC_eq)))
def S19 : FS := ⟨[[.v, .v, .s 5], [.v, .v, .v]], [⟨[.one (.agg [.int .i64, .int .i64, .imm 5]), .one (.agg [.int .i64, .int .i64, .int .i64])], []⟩], [⟨[vO], []⟩], [[.v]], []⟩
noncomputable def f19 (x : Int × Int × List Int × Int × Int × Int × Unit) : Option (Bool × Unit) :=
  (f30 (x.fst, x.snd.fst, x.snd.snd.fst, x.snd.snd.snd.fst, x.snd.snd.snd.snd.fst, ())).bind fun y9 =>
  bif y9.fst then some (f20 x.snd.snd.snd.snd.snd.fst (0 : Int) (255 : Int), ()) else some (false, ())
noncomputable def F19 : CF tC := mkF tC S19 f19
theorem f19_run : ∀ a, fnS tC G19 (look []) Try.f19 S19 a = f19 a := fun a => by kernel_rfl
theorem F19_ok : CFOK tC 19 F19 := mkF_ok Y19 (fn := Try.f19) (body := bodyOf Try.f19) (by kernel_rfl) (by kernel_rfl) (by kernel_rfl) (m := 0) rfl (lam_le lam_nil) f19_run

/-! plan.within -/
noncomputable def G45 : FuncId → Option (CF tC) := look []
theorem Y45 : SysN tC G45 := (sys_nil tC_ok tC_eq)
def S45 : FS := ⟨[[.v], [.v]], [⟨[vI, vI], []⟩], [⟨[vO], []⟩], [[.v]], []⟩
def f45 (n1 : Int) (n2 : Int) : Bool :=
  bif decide (n1 ≥ IntKind.i64.wrap ((0 : Int) - n2)) then decide (n1 ≤ n2) else false
noncomputable def F45 : CF tC := mkF tC S45 (fun a => some ((f45 a.1 a.2.1), ()))
def h45 (r : Bool) : Option (altTy tE S45.outs) := some (r, ())
theorem f45_run : ∀ a, fnS tC G45 (look []) Try.f45 S45 a = (fun a => some ((f45 a.1 a.2.1), ())) a := fun a => by
  have key : ∀ (n1 : Int) (n2 : Int), (bif decide (n1 ≥ IntKind.i64.wrap ((0 : Int) - n2)) then h45 (decide (n1 ≤ n2)) else h45 false) = h45 (f45 n1 n2) := by
    intros
    unfold f45
    repeat' first | rfl | refine cond_h (g := h45) ?_ ?_
  exact Eq.trans (by kernel_rfl) (key a.1 a.2.1)
theorem F45_ok : CFOK tC 45 F45 := mkF_ok Y45 (fn := Try.f45) (body := bodyOf Try.f45) (by kernel_rfl) (by kernel_rfl) (by kernel_rfl) (m := 0) rfl (lam_le lam_nil) f45_run

/-! plan.validPoint -/
noncomputable def G25 : FuncId → Option (CF tC) := look [(45, F45)]
theorem Y25 : SysN tC G25 := (sys_cons F45_ok (mkF_nat _ _) (sys_nil tC_ok tC_eq))
def S25 : FS := ⟨[[.v, .v]], [⟨[.one (.agg [.int .i64, .int .i64])], []⟩], [⟨[vO], []⟩], [[.v]], []⟩
def f25 (n1 : Int) (n2 : Int) : Bool :=
  bif f45 n1 (1048576 : Int) then f45 n2 (1048576 : Int) else false
noncomputable def F25 : CF tC := mkF tC S25 (fun a => some ((f25 a.1 a.2.1), ()))
def h25 (r : Bool) : Option (altTy tE S25.outs) := some (r, ())
theorem f25_run : ∀ a, fnS tC G25 (look []) Try.f25 S25 a = (fun a => some ((f25 a.1 a.2.1), ())) a := fun a => by
  have key : ∀ (n1 : Int) (n2 : Int), (bif f45 n1 (1048576 : Int) then h25 (f45 n2 (1048576 : Int)) else h25 false) = h25 (f25 n1 n2) := by
    intros
    unfold f25
    repeat' first | rfl | refine cond_h (g := h25) ?_ ?_
  exact Eq.trans (by kernel_rfl) (key a.1 a.2.1)
theorem F25_ok : CFOK tC 25 F25 := mkF_ok Y25 (fn := Try.f25) (body := bodyOf Try.f25) (by kernel_rfl) (by kernel_rfl) (by kernel_rfl) (m := 0) rfl (lam_le lam_nil) f25_run

/-! plan.validVector -/
noncomputable def G26 : FuncId → Option (CF tC) := look [(45, F45)]
theorem Y26 : SysN tC G26 := (sys_cons F45_ok (mkF_nat _ _) (sys_nil tC_ok tC_eq))
def S26 : FS := ⟨[[.v, .v, .v]], [⟨[.one (.agg [.int .i64, .int .i64, .int .i64])], []⟩], [⟨[vO], []⟩], [[.v]], []⟩
def f26 (n1 : Int) (n2 : Int) (n3 : Int) : Bool :=
  bif decide (n3 ≥ (1 : Int)) then
  bif decide (n3 ≤ (67108864 : Int)) then
    bif f45 n1 n3 then
      bif f45 n2 n3 then IntKind.i64.wrap (IntKind.i64.wrap (n1 * n1) + IntKind.i64.wrap (n2 * n2)) == IntKind.i64.wrap (n3 * n3) else false
    else false
  else false
else false
noncomputable def F26 : CF tC := mkF tC S26 (fun a => some ((f26 a.1 a.2.1 a.2.2.1), ()))
def h26 (r : Bool) : Option (altTy tE S26.outs) := some (r, ())
theorem f26_run : ∀ a, fnS tC G26 (look []) Try.f26 S26 a = (fun a => some ((f26 a.1 a.2.1 a.2.2.1), ())) a := fun a => by
  have key : ∀ (n1 : Int) (n2 : Int) (n3 : Int), (bif decide (n3 ≥ (1 : Int)) then
  bif decide (n3 ≤ (67108864 : Int)) then
    bif f45 n1 n3 then
      bif f45 n2 n3 then h26 (IntKind.i64.wrap (IntKind.i64.wrap (n1 * n1) + IntKind.i64.wrap (n2 * n2)) == IntKind.i64.wrap (n3 * n3))
      else h26 false
    else h26 false
  else h26 false
else h26 false) = h26 (f26 n1 n2 n3) := by
    intros
    unfold f26
    repeat' first | rfl | refine cond_h (g := h26) ?_ ?_
  exact Eq.trans (by kernel_rfl) (key a.1 a.2.1 a.2.2.1)
theorem F26_ok : CFOK tC 26 F26 := mkF_ok Y26 (fn := Try.f26) (body := bodyOf Try.f26) (by kernel_rfl) (by kernel_rfl) (by kernel_rfl) (m := 0) rfl (lam_le lam_nil) f26_run

/-! plan.down -/
noncomputable def G67 : FuncId → Option (CF tC) := look []
theorem Y67 : SysN tC G67 := (sys_nil tC_ok tC_eq)
noncomputable def c67_13 : Code := subCode (bodyOf Try.f67) 13
def p67_13 : PS := ⟨0, [5], ⟨vBs 5 ++ [vI] ++ vBs 10, []⟩, [⟨.ret, [4], ⟨vBs 4 ++ [vI] ++ vBs 11, []⟩, []⟩], []⟩
noncomputable def j67_13 (x : Int × Unit) : Option (Int × Unit) :=
  some (x.fst, ())
theorem j67_13_run0 (v0 : Int) : pieceK tC G67 (look []) c67_13 p67_13 (v0, ()) = j67_13 (v0, ()) := by kernel_rfl
theorem j67_13_run (x : Int × Unit) : pieceK tC G67 (look []) c67_13 p67_13 x = j67_13 x := j67_13_run0 x.1
noncomputable def W67_13 : LF tC := cutLF tC p67_13 j67_13
theorem W67_13_ok : keyed 13 (bodyOf Try.f67) = [c67_13] ∧ ∀ n, n ≤ 0 → Snd tC n c67_13 W67_13.k := ⟨by kernel_rfl, fun n hn => cut_ok (p := p67_13) Y67 (lam_le lam_nil n hn) hn j67_13_run⟩
def S67 : FS := ⟨[[.v], [.v]], [⟨[vI, vI], []⟩], [⟨[vI], []⟩], [[.v]], []⟩
noncomputable def f67 (x : Int × Int × Unit) : Option (Int × Unit) :=
  bif x.snd.fst == (0 : Int) then none
else
  bif x.snd.fst == (0 : Int) then none
  else
    bif decide (x.fst.tmod x.snd.fst < (0 : Int)) then
      (j67_13 (IntKind.i64.wrap (IntKind.i64.wrap (x.fst.tdiv x.snd.fst) - (1 : Int)), ())).bind fun y8 => some (y8.fst, ())
    else (j67_13 (IntKind.i64.wrap (x.fst.tdiv x.snd.fst), ())).bind fun y9 => some (y9.fst, ())
noncomputable def F67 : CF tC := mkF tC S67 f67
theorem f67_run : ∀ a, fnS tC G67 (look [(13, W67_13)]) Try.f67 S67 a = f67 a := fun a => by kernel_rfl
theorem F67_ok : CFOK tC 67 F67 := mkF_ok Y67 (fn := Try.f67) (body := bodyOf Try.f67) (by kernel_rfl) (by kernel_rfl) (by kernel_rfl) (m := 0) rfl (lam_le (lam_cons W67_13_ok lam_nil)) f67_run

/-! plan.reach -/
noncomputable def G46 : FuncId → Option (CF tC) := look [(67, F67)]
theorem Y46 : SysN tC G46 := (sys_cons F67_ok (mkF_nat _ _) (sys_nil tC_ok tC_eq))
def S46 : FS := ⟨[[.v], [.v], [.v], [.v], [.v], [.v]], [⟨[vI, vI, vI, vI, vI, vI], []⟩], [⟨[.tup [.one (.int .i64), .one (.int .i64)]], []⟩], [[.v], [.v]], []⟩
noncomputable def f46 (x : Int × Int × Int × Int × Int × Int × Unit) : Option (Int × Int × Unit) :=
  (f67
      (bif
            decide
              (IntKind.i64.wrap (x.snd.snd.snd.snd.snd.fst * x.snd.snd.fst) < IntKind.i64.wrap (x.snd.snd.snd.snd.fst * x.snd.snd.fst)) then
          IntKind.i64.wrap (x.snd.snd.snd.snd.snd.fst * x.snd.snd.fst)
        else IntKind.i64.wrap (x.snd.snd.snd.snd.fst * x.snd.snd.fst),
        x.snd.snd.snd.fst, ())).bind
  fun y12 =>
  (f67
        (bif
              decide
                (IntKind.i64.wrap (x.snd.snd.snd.snd.snd.fst * x.snd.snd.fst) >
                  IntKind.i64.wrap (x.snd.snd.snd.snd.fst * x.snd.snd.fst)) then
            IntKind.i64.wrap (x.snd.snd.snd.snd.snd.fst * x.snd.snd.fst)
          else IntKind.i64.wrap (x.snd.snd.snd.snd.fst * x.snd.snd.fst),
          x.snd.snd.snd.fst, ())).bind
    fun y11 => some (IntKind.i64.wrap (x.fst + y12.fst), IntKind.i64.wrap (IntKind.i64.wrap (x.snd.fst + y11.fst) + (1 : Int)), ())
noncomputable def F46 : CF tC := mkF tC S46 f46
theorem f46_run : ∀ a, fnS tC G46 (look []) Try.f46 S46 a = f46 a := fun a => by kernel_rfl
theorem F46_ok : CFOK tC 46 F46 := mkF_ok Y46 (fn := Try.f46) (body := bodyOf Try.f46) (by kernel_rfl) (by kernel_rfl) (by kernel_rfl) (m := 0) rfl (lam_le lam_nil) f46_run

/-! plan.span -/
noncomputable def G47 : FuncId → Option (CF tC) := look [(67, F67)]
theorem Y47 : SysN tC G47 := (sys_cons F67_ok (mkF_nat _ _) (sys_nil tC_ok tC_eq))
def S47 : FS := ⟨[[.v], [.v]], [⟨[vI, vI], []⟩], [⟨[.tup [.one (.int .i64), .one (.int .i64)]], []⟩], [[.v], [.v]], []⟩
noncomputable def f47 (x : Int × Int × Unit) : Option (Int × Int × Unit) :=
  (f67 (IntKind.i64.wrap ((0 : Int) - x.fst), (64 : Int), ())).bind fun y8 =>
  (f67 (x.snd.fst, (64 : Int), ())).bind fun y7 => some (IntKind.i64.wrap (IntKind.i64.wrap ((0 : Int) - y8.fst) - (1 : Int)), y7.fst, ())
noncomputable def F47 : CF tC := mkF tC S47 f47
theorem f47_run : ∀ a, fnS tC G47 (look []) Try.f47 S47 a = f47 a := fun a => by kernel_rfl
theorem F47_ok : CFOK tC 47 F47 := mkF_ok Y47 (fn := Try.f47) (body := bodyOf Try.f47) (by kernel_rfl) (by kernel_rfl) (by kernel_rfl) (m := 0) rfl (lam_le lam_nil) f47_run

/-! plan.square -/
noncomputable def G49 : FuncId → Option (CF tC) := look []
theorem Y49 : SysN tC G49 := (sys_nil tC_ok tC_eq)
def S49 : FS := ⟨[[.v, .v]], [⟨[.one (.agg [.int .i64, .int .i64])], []⟩], [⟨[.one (.agg [.int .i64, .int .i64, .int .i64, .int .i64])], []⟩], [[.v, .v, .v, .v]], []⟩
def f49 (n1 : Int) (n2 : Int) : Int × Int × Int × Int :=
  (IntKind.i64.wrap (n1 * (64 : Int)), IntKind.i64.wrap (n2 * (64 : Int)), IntKind.i64.wrap (IntKind.i64.wrap (n1 * (64 : Int)) + (64 : Int)),
  IntKind.i64.wrap (IntKind.i64.wrap (n2 * (64 : Int)) + (64 : Int)))
noncomputable def F49 : CF tC := mkF tC S49 (fun a => some ((f49 a.1 a.2.1).1, (f49 a.1 a.2.1).2.1, (f49 a.1 a.2.1).2.2.1, (f49 a.1 a.2.1).2.2.2, ()))
def h49 (r : Int × Int × Int × Int) : Option (altTy tE S49.outs) := some (r.1, r.2.1, r.2.2.1, r.2.2.2, ())
theorem f49_run : ∀ a, fnS tC G49 (look []) Try.f49 S49 a = (fun a => some ((f49 a.1 a.2.1).1, (f49 a.1 a.2.1).2.1, (f49 a.1 a.2.1).2.2.1, (f49 a.1 a.2.1).2.2.2, ())) a := fun a => by
  have key : ∀ (n1 : Int) (n2 : Int), (h49
  (IntKind.i64.wrap (n1 * (64 : Int)), IntKind.i64.wrap (n2 * (64 : Int)),
    IntKind.i64.wrap (IntKind.i64.wrap (n1 * (64 : Int)) + (64 : Int)), IntKind.i64.wrap (IntKind.i64.wrap (n2 * (64 : Int)) + (64 : Int)))) = h49 (f49 n1 n2) := by
    intros
    unfold f49
    repeat' first | rfl | refine cond_h (g := h49) ?_ ?_
  exact Eq.trans (by kernel_rfl) (key a.1 a.2.1)
theorem F49_ok : CFOK tC 49 F49 := mkF_ok Y49 (fn := Try.f49) (body := bodyOf Try.f49) (by kernel_rfl) (by kernel_rfl) (by kernel_rfl) (m := 0) rfl (lam_le lam_nil) f49_run

/-! segment.near -/
noncomputable def G80 : FuncId → Option (CF tC) := look []
theorem Y80 : SysN tC G80 := (sys_nil tC_ok tC_eq)
def S80 : FS := ⟨[[.v]], [⟨[vI], []⟩], [⟨[vO], []⟩], [[.v]], []⟩
def f80 (n1 : Int) : Bool :=
  bif decide (n1 ≥ (-2097152 : Int)) then decide (n1 ≤ (2097152 : Int)) else false
noncomputable def F80 : CF tC := mkF tC S80 (fun a => some ((f80 a.1), ()))
def h80 (r : Bool) : Option (altTy tE S80.outs) := some (r, ())
theorem f80_run : ∀ a, fnS tC G80 (look []) Try.f80 S80 a = (fun a => some ((f80 a.1), ())) a := fun a => by
  have key : ∀ (n1 : Int), (bif decide (n1 ≥ (-2097152 : Int)) then h80 (decide (n1 ≤ (2097152 : Int))) else h80 false) = h80 (f80 n1) := by
    intros
    unfold f80
    repeat' first | rfl | refine cond_h (g := h80) ?_ ?_
  exact Eq.trans (by kernel_rfl) (key a.1)
theorem F80_ok : CFOK tC 80 F80 := mkF_ok Y80 (fn := Try.f80) (body := bodyOf Try.f80) (by kernel_rfl) (by kernel_rfl) (by kernel_rfl) (m := 0) rfl (lam_le lam_nil) f80_run

/-! segment.ValidRect -/
noncomputable def G68 : FuncId → Option (CF tC) := look [(80, F80)]
theorem Y68 : SysN tC G68 := (sys_cons F80_ok (mkF_nat _ _) (sys_nil tC_ok tC_eq))
def S68 : FS := ⟨[[.v, .v, .v, .v]], [⟨[.one (.agg [.int .i64, .int .i64, .int .i64, .int .i64])], []⟩], [⟨[vO], []⟩], [[.v]], []⟩
def f68 (n1 : Int) (n2 : Int) (n3 : Int) (n4 : Int) : Bool :=
  bif f80 n1 then
  bif f80 n2 then bif f80 n3 then bif f80 n4 then bif decide (n1 ≤ n3) then decide (n2 ≤ n4) else false else false else false else false
else false
noncomputable def F68 : CF tC := mkF tC S68 (fun a => some ((f68 a.1 a.2.1 a.2.2.1 a.2.2.2.1), ()))
def h68 (r : Bool) : Option (altTy tE S68.outs) := some (r, ())
theorem f68_run : ∀ a, fnS tC G68 (look []) Try.f68 S68 a = (fun a => some ((f68 a.1 a.2.1 a.2.2.1 a.2.2.2.1), ())) a := fun a => by
  have key : ∀ (n1 : Int) (n2 : Int) (n3 : Int) (n4 : Int), (bif f80 n1 then
  bif f80 n2 then
    bif f80 n3 then bif f80 n4 then bif decide (n1 ≤ n3) then h68 (decide (n2 ≤ n4)) else h68 false else h68 false else h68 false
  else h68 false
else h68 false) = h68 (f68 n1 n2 n3 n4) := by
    intros
    unfold f68
    repeat' first | rfl | refine cond_h (g := h68) ?_ ?_
  exact Eq.trans (by kernel_rfl) (key a.1 a.2.1 a.2.2.1 a.2.2.2.1)
theorem F68_ok : CFOK tC 68 F68 := mkF_ok Y68 (fn := Try.f68) (body := bodyOf Try.f68) (by kernel_rfl) (by kernel_rfl) (by kernel_rfl) (m := 0) rfl (lam_le lam_nil) f68_run

/-! segment.validPoint -/
noncomputable def G69 : FuncId → Option (CF tC) := look [(80, F80)]
theorem Y69 : SysN tC G69 := (sys_cons F80_ok (mkF_nat _ _) (sys_nil tC_ok tC_eq))
def S69 : FS := ⟨[[.v, .v]], [⟨[.one (.agg [.int .i64, .int .i64])], []⟩], [⟨[vO], []⟩], [[.v]], []⟩
def f69 (n1 : Int) (n2 : Int) : Bool :=
  bif f80 n1 then f80 n2 else false
noncomputable def F69 : CF tC := mkF tC S69 (fun a => some ((f69 a.1 a.2.1), ()))
def h69 (r : Bool) : Option (altTy tE S69.outs) := some (r, ())
theorem f69_run : ∀ a, fnS tC G69 (look []) Try.f69 S69 a = (fun a => some ((f69 a.1 a.2.1), ())) a := fun a => by
  have key : ∀ (n1 : Int) (n2 : Int), (bif f80 n1 then h69 (f80 n2) else h69 false) = h69 (f69 n1 n2) := by
    intros
    unfold f69
    repeat' first | rfl | refine cond_h (g := h69) ?_ ?_
  exact Eq.trans (by kernel_rfl) (key a.1 a.2.1)
theorem F69_ok : CFOK tC 69 F69 := mkF_ok Y69 (fn := Try.f69) (body := bodyOf Try.f69) (by kernel_rfl) (by kernel_rfl) (by kernel_rfl) (m := 0) rfl (lam_le lam_nil) f69_run

/-! segment.validVector -/
noncomputable def G70 : FuncId → Option (CF tC) := look []
theorem Y70 : SysN tC G70 := (sys_nil tC_ok tC_eq)
def S70 : FS := ⟨[[.v, .v, .v]], [⟨[.one (.agg [.int .i64, .int .i64, .int .i64])], []⟩], [⟨[vO], []⟩], [[.v]], []⟩
def f70 (n1 : Int) (n2 : Int) (n3 : Int) : Bool :=
  bif decide (n3 < (1 : Int)) then false
else
  bif decide (n3 > (67108864 : Int)) then false
  else
    bif decide (n1 < IntKind.i64.wrap ((0 : Int) - n3)) then false
    else
      bif decide (n1 > n3) then false
      else
        bif decide (n2 < IntKind.i64.wrap ((0 : Int) - n3)) then false
        else
          bif decide (n2 > n3) then false
          else IntKind.i64.wrap (IntKind.i64.wrap (n1 * n1) + IntKind.i64.wrap (n2 * n2)) == IntKind.i64.wrap (n3 * n3)
noncomputable def F70 : CF tC := mkF tC S70 (fun a => some ((f70 a.1 a.2.1 a.2.2.1), ()))
def h70 (r : Bool) : Option (altTy tE S70.outs) := some (r, ())
theorem f70_run : ∀ a, fnS tC G70 (look []) Try.f70 S70 a = (fun a => some ((f70 a.1 a.2.1 a.2.2.1), ())) a := fun a => by
  have key : ∀ (n1 : Int) (n2 : Int) (n3 : Int), (bif decide (n3 < (1 : Int)) then h70 false
else
  bif decide (n3 > (67108864 : Int)) then h70 false
  else
    bif decide (n1 < IntKind.i64.wrap ((0 : Int) - n3)) then h70 false
    else
      bif decide (n1 > n3) then h70 false
      else
        bif decide (n2 < IntKind.i64.wrap ((0 : Int) - n3)) then h70 false
        else
          bif decide (n2 > n3) then h70 false
          else h70 (IntKind.i64.wrap (IntKind.i64.wrap (n1 * n1) + IntKind.i64.wrap (n2 * n2)) == IntKind.i64.wrap (n3 * n3))) = h70 (f70 n1 n2 n3) := by
    intros
    unfold f70
    repeat' first | rfl | refine cond_h (g := h70) ?_ ?_
  exact Eq.trans (by kernel_rfl) (key a.1 a.2.1 a.2.2.1)
theorem F70_ok : CFOK tC 70 F70 := mkF_ok Y70 (fn := Try.f70) (body := bodyOf Try.f70) (by kernel_rfl) (by kernel_rfl) (by kernel_rfl) (m := 0) rfl (lam_le lam_nil) f70_run

/-! segment.less -/
noncomputable def G81 : FuncId → Option (CF tC) := look []
theorem Y81 : SysN tC G81 := (sys_nil tC_ok tC_eq)
def S81 : FS := ⟨[[.v, .v], [.v, .v]], [⟨[.one (.agg [.int .i64, .int .i64]), .one (.agg [.int .i64, .int .i64])], []⟩], [⟨[vO], []⟩], [[.v]], []⟩
def f81 (n1 : Int) (n2 : Int) (n3 : Int) (n4 : Int) : Bool :=
  decide (IntKind.i64.wrap (n1 * n4) < IntKind.i64.wrap (n3 * n2))
noncomputable def F81 : CF tC := mkF tC S81 (fun a => some ((f81 a.1 a.2.1 a.2.2.1 a.2.2.2.1), ()))
def h81 (r : Bool) : Option (altTy tE S81.outs) := some (r, ())
theorem f81_run : ∀ a, fnS tC G81 (look []) Try.f81 S81 a = (fun a => some ((f81 a.1 a.2.1 a.2.2.1 a.2.2.2.1), ())) a := fun a => by
  have key : ∀ (n1 : Int) (n2 : Int) (n3 : Int) (n4 : Int), (h81 (decide (IntKind.i64.wrap (n1 * n4) < IntKind.i64.wrap (n3 * n2)))) = h81 (f81 n1 n2 n3 n4) := by
    intros
    unfold f81
    repeat' first | rfl | refine cond_h (g := h81) ?_ ?_
  exact Eq.trans (by kernel_rfl) (key a.1 a.2.1 a.2.2.1 a.2.2.2.1)
theorem F81_ok : CFOK tC 81 F81 := mkF_ok Y81 (fn := Try.f81) (body := bodyOf Try.f81) (by kernel_rfl) (by kernel_rfl) (by kernel_rfl) (m := 0) rfl (lam_le lam_nil) f81_run

/-! segment.slab -/
noncomputable def G71 : FuncId → Option (CF tC) := look [(81, F81)]
theorem Y71 : SysN tC G71 := (sys_cons F81_ok (mkF_nat _ _) (sys_nil tC_ok tC_eq))
noncomputable def c71_31 : Code := subCode (subCode (subCode (bodyOf Try.f71) 19) 25) 31
def p71_31 : PS := ⟨1, [0], ⟨[.one (.one (.ptr 0 0 0))] ++ vBs 76, [.box [.int .i64, .int .i64, .int .i64, .int .i64]]⟩, [⟨.ret, [10], ⟨vBs 10 ++ [vO] ++ vBs 66, [.box [.int .i64, .int .i64, .int .i64, .int .i64]]⟩, []⟩], []⟩
noncomputable def j71_31 (x : Int × Int × Int × Int × Unit) : Option (Bool × Int × Int × Int × Int × Unit) :=
  some (!f81 x.snd.snd.fst x.snd.snd.snd.fst x.fst x.snd.fst, x.fst, x.snd.fst, x.snd.snd.fst, x.snd.snd.snd.fst, ())
theorem j71_31_run0 (v0 : Int) (v1 : Int) (v2 : Int) (v3 : Int) : pieceK tC G71 (look []) c71_31 p71_31 (v0, v1, v2, v3, ()) = j71_31 (v0, v1, v2, v3, ()) := by kernel_rfl
theorem j71_31_run (x : Int × Int × Int × Int × Unit) : pieceK tC G71 (look []) c71_31 p71_31 x = j71_31 x := j71_31_run0 x.1 x.2.1 x.2.2.1 x.2.2.2.1
noncomputable def W71_31 : LF tC := cutLF tC p71_31 j71_31
theorem W71_31_ok : keyed 31 (subCode (subCode (bodyOf Try.f71) 19) 25) = [c71_31] ∧ ∀ n, n ≤ 1 → Snd tC n c71_31 W71_31.k := ⟨by kernel_rfl, fun n hn => cut_ok (p := p71_31) Y71 (lam_le lam_nil n hn) hn j71_31_run⟩
noncomputable def c71_25 : Code := subCode (subCode (bodyOf Try.f71) 19) 25
def p71_25 : PS := ⟨1, [0, 12], ⟨[.one (.one (.ptr 0 0 0))] ++ vBs 11 ++ [.one (.one (.ptr 1 0 0))] ++ vBs 64, [.box [.int .i64, .int .i64, .int .i64, .int .i64], .box [.int .i64, .int .i64]]⟩, [⟨.ret, [10], ⟨vBs 10 ++ [vO] ++ vBs 66, [.box [.int .i64, .int .i64, .int .i64, .int .i64]]⟩, []⟩], []⟩
noncomputable def j71_25 (x : Int × Int × Int × Int × Int × Int × Unit) : Option (Bool × Int × Int × Int × Int × Unit) :=
  bif f81 x.snd.snd.snd.snd.fst x.snd.snd.snd.snd.snd.fst x.snd.snd.fst x.snd.snd.snd.fst then
  (j71_31 (x.fst, x.snd.fst, x.snd.snd.snd.snd.fst, x.snd.snd.snd.snd.snd.fst, ())).bind fun y47 =>
    some (y47.fst, y47.snd.fst, y47.snd.snd.fst, y47.snd.snd.snd.fst, y47.snd.snd.snd.snd.fst, ())
else
  (j71_31 (x.fst, x.snd.fst, x.snd.snd.fst, x.snd.snd.snd.fst, ())).bind fun y48 =>
    some (y48.fst, y48.snd.fst, y48.snd.snd.fst, y48.snd.snd.snd.fst, y48.snd.snd.snd.snd.fst, ())
theorem j71_25_run0 (v0 : Int) (v1 : Int) (v2 : Int) (v3 : Int) (v4 : Int) (v5 : Int) : pieceK tC G71 (look [(31, W71_31)]) c71_25 p71_25 (v0, v1, v2, v3, v4, v5, ()) = j71_25 (v0, v1, v2, v3, v4, v5, ()) := by kernel_rfl
theorem j71_25_run (x : Int × Int × Int × Int × Int × Int × Unit) : pieceK tC G71 (look [(31, W71_31)]) c71_25 p71_25 x = j71_25 x := j71_25_run0 x.1 x.2.1 x.2.2.1 x.2.2.2.1 x.2.2.2.2.1 x.2.2.2.2.2.1
noncomputable def W71_25 : LF tC := cutLF tC p71_25 j71_25
theorem W71_25_ok : keyed 25 (subCode (bodyOf Try.f71) 19) = [c71_25] ∧ ∀ n, n ≤ 1 → Snd tC n c71_25 W71_25.k := ⟨by kernel_rfl, fun n hn => cut_ok (p := p71_25) Y71 (lam_le (lam_cons W71_31_ok lam_nil) n hn) hn j71_25_run⟩
noncomputable def c71_19 : Code := subCode (bodyOf Try.f71) 19
def p71_19 : PS := ⟨1, [0, 11, 12], ⟨[.one (.one (.ptr 0 0 0))] ++ vBs 10 ++ [.one (.one (.ptr 1 0 0)), .one (.one (.ptr 2 0 0))] ++ vBs 64, [.box [.int .i64, .int .i64, .int .i64, .int .i64], .box [.int .i64, .int .i64], .box [.int .i64, .int .i64]]⟩, [⟨.ret, [10], ⟨vBs 10 ++ [vO] ++ vBs 66, [.box [.int .i64, .int .i64, .int .i64, .int .i64]]⟩, []⟩], []⟩
noncomputable def j71_19 (x : Int × Int × Int × Int × Int × Int × Int × Int × Unit) : Option (Bool × Int × Int × Int × Int × Unit) :=
  bif f81 x.fst x.snd.fst x.snd.snd.snd.snd.fst x.snd.snd.snd.snd.snd.fst then
  (j71_25
        (x.snd.snd.snd.snd.fst, x.snd.snd.snd.snd.snd.fst, x.snd.snd.fst, x.snd.snd.snd.fst, x.snd.snd.snd.snd.snd.snd.fst,
          x.snd.snd.snd.snd.snd.snd.snd.fst, ())).bind
    fun y64 => some (y64.fst, y64.snd.fst, y64.snd.snd.fst, y64.snd.snd.snd.fst, y64.snd.snd.snd.snd.fst, ())
else
  (j71_25 (x.fst, x.snd.fst, x.snd.snd.fst, x.snd.snd.snd.fst, x.snd.snd.snd.snd.snd.snd.fst, x.snd.snd.snd.snd.snd.snd.snd.fst, ())).bind
    fun y65 => some (y65.fst, y65.snd.fst, y65.snd.snd.fst, y65.snd.snd.snd.fst, y65.snd.snd.snd.snd.fst, ())
theorem j71_19_run0 (v0 : Int) (v1 : Int) (v2 : Int) (v3 : Int) (v4 : Int) (v5 : Int) (v6 : Int) (v7 : Int) : pieceK tC G71 (look [(25, W71_25)]) c71_19 p71_19 (v0, v1, v2, v3, v4, v5, v6, v7, ()) = j71_19 (v0, v1, v2, v3, v4, v5, v6, v7, ()) := by kernel_rfl
theorem j71_19_run (x : Int × Int × Int × Int × Int × Int × Int × Int × Unit) : pieceK tC G71 (look [(25, W71_25)]) c71_19 p71_19 x = j71_19 x := j71_19_run0 x.1 x.2.1 x.2.2.1 x.2.2.2.1 x.2.2.2.2.1 x.2.2.2.2.2.1 x.2.2.2.2.2.2.1 x.2.2.2.2.2.2.2.1
noncomputable def W71_19 : LF tC := cutLF tC p71_19 j71_19
theorem W71_19_ok : keyed 19 (bodyOf Try.f71) = [c71_19] ∧ ∀ n, n ≤ 1 → Snd tC n c71_19 W71_19.k := ⟨by kernel_rfl, fun n hn => cut_ok (p := p71_19) Y71 (lam_le (lam_cons W71_25_ok lam_nil) n hn) hn j71_19_run⟩
def S71 : FS := ⟨[[.p], [.v], [.v], [.v], [.v]], [⟨[.one (.one (.ptr 0 0 0)), vI, vI, vI, vI], [.box [.int .i64, .int .i64, .int .i64, .int .i64]]⟩], [⟨[vO], [.box [.int .i64, .int .i64, .int .i64, .int .i64]]⟩], [[.v]], []⟩
noncomputable def f71 (x : Int × Int × Int × Int × Int × Int × Int × Int × Unit) : Option (Bool × Int × Int × Int × Int × Unit) :=
  bif x.snd.fst == (0 : Int) then
  bif decide (x.snd.snd.fst ≤ x.fst) then
    some
      (decide (x.fst ≤ x.snd.snd.snd.fst), x.snd.snd.snd.snd.fst, x.snd.snd.snd.snd.snd.fst, x.snd.snd.snd.snd.snd.snd.fst,
        x.snd.snd.snd.snd.snd.snd.snd.fst, ())
  else some (false, x.snd.snd.snd.snd.fst, x.snd.snd.snd.snd.snd.fst, x.snd.snd.snd.snd.snd.snd.fst, x.snd.snd.snd.snd.snd.snd.snd.fst, ())
else
  bif decide (x.snd.fst < (0 : Int)) then
    (j71_19
          (x.snd.snd.snd.snd.fst, x.snd.snd.snd.snd.snd.fst, x.snd.snd.snd.snd.snd.snd.fst, x.snd.snd.snd.snd.snd.snd.snd.fst,
            IntKind.i64.wrap (x.fst - x.snd.snd.snd.fst), IntKind.i64.wrap ((0 : Int) - x.snd.fst),
            IntKind.i64.wrap (x.fst - x.snd.snd.fst), IntKind.i64.wrap ((0 : Int) - x.snd.fst), ())).bind
      fun y81 => some (y81.fst, y81.snd.fst, y81.snd.snd.fst, y81.snd.snd.snd.fst, y81.snd.snd.snd.snd.fst, ())
  else
    (j71_19
          (x.snd.snd.snd.snd.fst, x.snd.snd.snd.snd.snd.fst, x.snd.snd.snd.snd.snd.snd.fst, x.snd.snd.snd.snd.snd.snd.snd.fst,
            IntKind.i64.wrap (x.snd.snd.fst - x.fst), x.snd.fst, IntKind.i64.wrap (x.snd.snd.snd.fst - x.fst), x.snd.fst, ())).bind
      fun y82 => some (y82.fst, y82.snd.fst, y82.snd.snd.fst, y82.snd.snd.snd.fst, y82.snd.snd.snd.snd.fst, ())
noncomputable def F71 : CF tC := mkF tC S71 f71
theorem f71_run : ∀ a, fnS tC G71 (look [(19, W71_19)]) Try.f71 S71 a = f71 a := fun a => by kernel_rfl
theorem F71_ok : CFOK tC 71 F71 := mkF_ok Y71 (fn := Try.f71) (body := bodyOf Try.f71) (by kernel_rfl) (by kernel_rfl) (by kernel_rfl) (m := 1) rfl (lam_le (lam_cons W71_19_ok lam_nil)) f71_run

/-! segment.through -/
noncomputable def G53 : FuncId → Option (CF tC) := look [(69, F69), (70, F70), (68, F68), (71, F71)]
theorem Y53 : SysN tC G53 := (sys_cons F69_ok (mkF_nat _ _) (sys_cons F70_ok (mkF_nat _ _) (sys_cons F68_ok (mkF_nat _ _) (sys_cons F71_ok (mkF_nat _ _) (sys_nil tC_ok tC_eq)))))
def S53 : FS := ⟨[[.v, .v], [.v, .v, .v], [.v, .v, .v, .v]], [⟨[.one (.agg [.int .i64, .int .i64]), .one (.agg [.int .i64, .int .i64, .int .i64]), .one (.agg [.int .i64, .int .i64, .int .i64, .int .i64])], []⟩], [⟨[.tup [.agg [.int .i64, .int .i64, .int .i64, .int .i64], .one .bool]], []⟩], [[.v, .v, .v, .v], [.v]], []⟩
noncomputable def f53 (x : Int × Int × Int × Int × Int × Int × Int × Int × Int × Unit) : Option (Int × Int × Int × Int × Bool × Unit) :=
  bif !f69 x.fst x.snd.fst then some ((0 : Int), (0 : Int), (0 : Int), (0 : Int), false, ())
else
  bif !f70 x.snd.snd.fst x.snd.snd.snd.fst x.snd.snd.snd.snd.fst then some ((0 : Int), (0 : Int), (0 : Int), (0 : Int), false, ())
  else
    bif
        !f68 x.snd.snd.snd.snd.snd.fst x.snd.snd.snd.snd.snd.snd.fst x.snd.snd.snd.snd.snd.snd.snd.fst
            x.snd.snd.snd.snd.snd.snd.snd.snd.fst then
      some ((0 : Int), (0 : Int), (0 : Int), (0 : Int), false, ())
    else
      (f71
            (x.fst, x.snd.snd.fst, x.snd.snd.snd.snd.snd.fst, x.snd.snd.snd.snd.snd.snd.snd.fst, (0 : Int), (1 : Int), (8388608 : Int),
              (1 : Int), ())).bind
        fun y26 =>
        bif !y26.fst then some ((0 : Int), (0 : Int), (0 : Int), (0 : Int), false, ())
        else
          (f71
                (x.snd.fst, x.snd.snd.snd.fst, x.snd.snd.snd.snd.snd.snd.fst, x.snd.snd.snd.snd.snd.snd.snd.snd.fst, y26.snd.fst,
                  y26.snd.snd.fst, y26.snd.snd.snd.fst, y26.snd.snd.snd.snd.fst, ())).bind
            fun y25 =>
            bif !y25.fst then some ((0 : Int), (0 : Int), (0 : Int), (0 : Int), false, ())
            else some (y25.snd.fst, y25.snd.snd.fst, y25.snd.snd.snd.fst, y25.snd.snd.snd.snd.fst, true, ())
noncomputable def F53 : CF tC := mkF tC S53 f53
theorem f53_run : ∀ a, fnS tC G53 (look []) Try.f53 S53 a = f53 a := fun a => by kernel_rfl
theorem F53_ok : CFOK tC 53 F53 := mkF_ok Y53 (fn := Try.f53) (body := bodyOf Try.f53) (by kernel_rfl) (by kernel_rfl) (by kernel_rfl) (m := 0) rfl (lam_le lam_nil) f53_run

/-! segment.Minus -/
noncomputable def G48 : FuncId → Option (CF tC) := look [(68, F68)]
theorem Y48 : SysN tC G48 := (sys_cons F68_ok (mkF_nat _ _) (sys_nil tC_ok tC_eq))
def S48 : FS := ⟨[[.v, .v, .v, .v], [.v, .v, .v, .v]], [⟨[.one (.agg [.int .i64, .int .i64, .int .i64, .int .i64]), .one (.agg [.int .i64, .int .i64, .int .i64, .int .i64])], []⟩], [⟨[.tup [.agg [.int .i64, .int .i64, .int .i64, .int .i64], .one .bool]], []⟩], [[.v, .v, .v, .v], [.v]], []⟩
def f48 (n1 : Int) (n2 : Int) (n3 : Int) (n4 : Int) (n5 : Int) (n6 : Int) (n7 : Int) (n8 : Int) : Int × Int × Int × Int × Bool :=
  bif !f68 n1 n2 n3 n4 then ((0 : Int), (0 : Int), (0 : Int), (0 : Int), false)
else
  bif !f68 n5 n6 n7 n8 then ((0 : Int), (0 : Int), (0 : Int), (0 : Int), false)
  else
    bif !f68 (IntKind.i64.wrap (n1 - n7)) (IntKind.i64.wrap (n2 - n8)) (IntKind.i64.wrap (n3 - n5)) (IntKind.i64.wrap (n4 - n6)) then
      ((0 : Int), (0 : Int), (0 : Int), (0 : Int), false)
    else (IntKind.i64.wrap (n1 - n7), IntKind.i64.wrap (n2 - n8), IntKind.i64.wrap (n3 - n5), IntKind.i64.wrap (n4 - n6), true)
noncomputable def F48 : CF tC := mkF tC S48 (fun a => some ((f48 a.1 a.2.1 a.2.2.1 a.2.2.2.1 a.2.2.2.2.1 a.2.2.2.2.2.1 a.2.2.2.2.2.2.1 a.2.2.2.2.2.2.2.1).1, (f48 a.1 a.2.1 a.2.2.1 a.2.2.2.1 a.2.2.2.2.1 a.2.2.2.2.2.1 a.2.2.2.2.2.2.1 a.2.2.2.2.2.2.2.1).2.1, (f48 a.1 a.2.1 a.2.2.1 a.2.2.2.1 a.2.2.2.2.1 a.2.2.2.2.2.1 a.2.2.2.2.2.2.1 a.2.2.2.2.2.2.2.1).2.2.1, (f48 a.1 a.2.1 a.2.2.1 a.2.2.2.1 a.2.2.2.2.1 a.2.2.2.2.2.1 a.2.2.2.2.2.2.1 a.2.2.2.2.2.2.2.1).2.2.2.1, (f48 a.1 a.2.1 a.2.2.1 a.2.2.2.1 a.2.2.2.2.1 a.2.2.2.2.2.1 a.2.2.2.2.2.2.1 a.2.2.2.2.2.2.2.1).2.2.2.2, ()))
def h48 (r : Int × Int × Int × Int × Bool) : Option (altTy tE S48.outs) := some (r.1, r.2.1, r.2.2.1, r.2.2.2.1, r.2.2.2.2, ())
theorem f48_run : ∀ a, fnS tC G48 (look []) Try.f48 S48 a = (fun a => some ((f48 a.1 a.2.1 a.2.2.1 a.2.2.2.1 a.2.2.2.2.1 a.2.2.2.2.2.1 a.2.2.2.2.2.2.1 a.2.2.2.2.2.2.2.1).1, (f48 a.1 a.2.1 a.2.2.1 a.2.2.2.1 a.2.2.2.2.1 a.2.2.2.2.2.1 a.2.2.2.2.2.2.1 a.2.2.2.2.2.2.2.1).2.1, (f48 a.1 a.2.1 a.2.2.1 a.2.2.2.1 a.2.2.2.2.1 a.2.2.2.2.2.1 a.2.2.2.2.2.2.1 a.2.2.2.2.2.2.2.1).2.2.1, (f48 a.1 a.2.1 a.2.2.1 a.2.2.2.1 a.2.2.2.2.1 a.2.2.2.2.2.1 a.2.2.2.2.2.2.1 a.2.2.2.2.2.2.2.1).2.2.2.1, (f48 a.1 a.2.1 a.2.2.1 a.2.2.2.1 a.2.2.2.2.1 a.2.2.2.2.2.1 a.2.2.2.2.2.2.1 a.2.2.2.2.2.2.2.1).2.2.2.2, ())) a := fun a => by
  have key : ∀ (n1 : Int) (n2 : Int) (n3 : Int) (n4 : Int) (n5 : Int) (n6 : Int) (n7 : Int) (n8 : Int), (bif !f68 n1 n2 n3 n4 then h48 ((0 : Int), (0 : Int), (0 : Int), (0 : Int), false)
else
  bif !f68 n5 n6 n7 n8 then h48 ((0 : Int), (0 : Int), (0 : Int), (0 : Int), false)
  else
    bif !f68 (IntKind.i64.wrap (n1 - n7)) (IntKind.i64.wrap (n2 - n8)) (IntKind.i64.wrap (n3 - n5)) (IntKind.i64.wrap (n4 - n6)) then
      h48 ((0 : Int), (0 : Int), (0 : Int), (0 : Int), false)
    else h48 (IntKind.i64.wrap (n1 - n7), IntKind.i64.wrap (n2 - n8), IntKind.i64.wrap (n3 - n5), IntKind.i64.wrap (n4 - n6), true)) = h48 (f48 n1 n2 n3 n4 n5 n6 n7 n8) := by
    intros
    unfold f48
    repeat' first | rfl | refine cond_h (g := h48) ?_ ?_
  exact Eq.trans (by kernel_rfl) (key a.1 a.2.1 a.2.2.1 a.2.2.2.1 a.2.2.2.2.1 a.2.2.2.2.2.1 a.2.2.2.2.2.2.1 a.2.2.2.2.2.2.2.1)
theorem F48_ok : CFOK tC 48 F48 := mkF_ok Y48 (fn := Try.f48) (body := bodyOf Try.f48) (by kernel_rfl) (by kernel_rfl) (by kernel_rfl) (m := 0) rfl (lam_le lam_nil) f48_run

/-! segment.Meets -/
noncomputable def G50 : FuncId → Option (CF tC) := look [(53, F53)]
theorem Y50 : SysN tC G50 := (sys_cons F53_ok (mkF_nat _ _) (sys_nil tC_ok tC_eq))
def S50 : FS := ⟨[[.v, .v], [.v, .v, .v], [.v], [.v], [.v, .v, .v, .v]], [⟨[.one (.agg [.int .i64, .int .i64]), .one (.agg [.int .i64, .int .i64, .int .i64]), vI, vI, .one (.agg [.int .i64, .int .i64, .int .i64, .int .i64])], []⟩], [⟨[vO], []⟩], [[.v]], []⟩
noncomputable def f50 (x : Int × Int × Int × Int × Int × Int × Int × Int × Int × Int × Int × Unit) : Option (Bool × Unit) :=
  bif decide (x.snd.snd.snd.snd.snd.fst < (0 : Int)) then some (false, ())
else
  bif decide (x.snd.snd.snd.snd.snd.snd.fst < x.snd.snd.snd.snd.snd.fst) then some (false, ())
  else
    bif decide (x.snd.snd.snd.snd.snd.snd.fst > (65536 : Int)) then some (false, ())
    else
      (f53
            (x.fst, x.snd.fst, x.snd.snd.fst, x.snd.snd.snd.fst, x.snd.snd.snd.snd.fst, x.snd.snd.snd.snd.snd.snd.snd.fst,
              x.snd.snd.snd.snd.snd.snd.snd.snd.fst, x.snd.snd.snd.snd.snd.snd.snd.snd.snd.fst,
              x.snd.snd.snd.snd.snd.snd.snd.snd.snd.snd.fst, ())).bind
        fun y18 =>
        bif y18.snd.snd.snd.snd.fst then
          bif
              decide
                (IntKind.i64.wrap (x.snd.snd.snd.snd.snd.fst * y18.snd.snd.snd.fst) ≤
                  IntKind.i64.wrap (y18.snd.snd.fst * x.snd.snd.snd.snd.fst)) then
            some
              (decide (IntKind.i64.wrap (y18.fst * x.snd.snd.snd.snd.fst) ≤ IntKind.i64.wrap (x.snd.snd.snd.snd.snd.snd.fst * y18.snd.fst)),
                ())
          else some (false, ())
        else some (false, ())
noncomputable def F50 : CF tC := mkF tC S50 f50
theorem f50_run : ∀ a, fnS tC G50 (look []) Try.f50 S50 a = f50 a := fun a => by kernel_rfl
theorem F50_ok : CFOK tC 50 F50 := mkF_ok Y50 (fn := Try.f50) (body := bodyOf Try.f50) (by kernel_rfl) (by kernel_rfl) (by kernel_rfl) (m := 0) rfl (lam_le lam_nil) f50_run

/-! plan.sweep -/
noncomputable def G27 : FuncId → Option (CF tC) := look [(46, F46), (47, F47), (49, F49), (48, F48), (50, F50)]
theorem Y27 : SysN tC G27 := (sys_cons F46_ok (mkF_nat _ _) (sys_cons F47_ok (mkF_nat _ _) (sys_cons F49_ok (mkF_nat _ _) (sys_cons F48_ok (mkF_nat _ _) (sys_cons F50_ok (mkF_nat _ _) (sys_nil tC_ok tC_eq))))))
noncomputable def c27_34 : Code := subCode (loopOf (loopOf (bodyOf Try.f27) 0) 2) 34
def p27_34 : PS := ⟨0, [2, 3, 4, 5, 13, 14, 16, 17, 18, 19], ⟨[vB, vB, vI, vI, .one (.one (.ptr 0 0 0)), .one (.one (.ptr 1 0 0))] ++ vBs 7 ++ [vI, vI, vB, vI, .one (.one (.sl 2)), vI, vI] ++ vBs 79, [.box [.int .i64, .int .i64, .int .i64, .int .i64], .box [.int .i64, .int .i64, .int .i64], .arr 51]⟩, [⟨.normal, [2, 3, 4, 5, 13, 14, 16, 17, 18, 19], ⟨[vB, vB, vI, vI, .one (.one (.ptr 0 0 0)), .one (.one (.ptr 1 0 0))] ++ vBs 7 ++ [vI, vI, vB, vI, .one (.one (.sl 2)), vI, vI] ++ vBs 79, [.box [.int .i64, .int .i64, .int .i64, .int .i64], .box [.int .i64, .int .i64, .int .i64], .arr 51]⟩, []⟩], []⟩
noncomputable def j27_34 (x : Int × Int × Int × Int × Int × Nat × Int × Int × Int × Int × Int × Int × Int × Int × Int × List Pt × Unit) : Option (Int × Int × Int × Int × Int × Nat × Int × Int × Int × Int × Int × Int × Int × Int × Int × List Pt × Unit) :=
  some
  (x.fst, x.snd.fst, x.snd.snd.fst, x.snd.snd.snd.fst, x.snd.snd.snd.snd.fst, x.snd.snd.snd.snd.snd.fst, x.snd.snd.snd.snd.snd.snd.fst,
    IntKind.i64.wrap (x.snd.snd.snd.snd.snd.snd.snd.fst + (1 : Int)), x.snd.snd.snd.snd.snd.snd.snd.snd.fst,
    x.snd.snd.snd.snd.snd.snd.snd.snd.snd.fst, x.snd.snd.snd.snd.snd.snd.snd.snd.snd.snd.fst,
    x.snd.snd.snd.snd.snd.snd.snd.snd.snd.snd.snd.fst, x.snd.snd.snd.snd.snd.snd.snd.snd.snd.snd.snd.snd.fst,
    x.snd.snd.snd.snd.snd.snd.snd.snd.snd.snd.snd.snd.snd.fst, x.snd.snd.snd.snd.snd.snd.snd.snd.snd.snd.snd.snd.snd.snd.fst,
    x.snd.snd.snd.snd.snd.snd.snd.snd.snd.snd.snd.snd.snd.snd.snd.fst, ())
theorem j27_34_run0 (v0 : Int) (v1 : Int) (v2 : Int) (v3 : Int) (v4 : Int) (v5 : Nat) (v6 : Int) (v7 : Int) (v8 : Int) (v9 : Int) (v10 : Int) (v11 : Int) (v12 : Int) (v13 : Int) (v14 : Int) (v15 : List Pt) : pieceK tC G27 (look []) c27_34 p27_34 (v0, v1, v2, v3, v4, v5, v6, v7, v8, v9, v10, v11, v12, v13, v14, v15, ()) = j27_34 (v0, v1, v2, v3, v4, v5, v6, v7, v8, v9, v10, v11, v12, v13, v14, v15, ()) := by kernel_rfl
theorem j27_34_run (x : Int × Int × Int × Int × Int × Nat × Int × Int × Int × Int × Int × Int × Int × Int × Int × List Pt × Unit) : pieceK tC G27 (look []) c27_34 p27_34 x = j27_34 x := j27_34_run0 x.1 x.2.1 x.2.2.1 x.2.2.2.1 x.2.2.2.2.1 x.2.2.2.2.2.1 x.2.2.2.2.2.2.1 x.2.2.2.2.2.2.2.1 x.2.2.2.2.2.2.2.2.1 x.2.2.2.2.2.2.2.2.2.1 x.2.2.2.2.2.2.2.2.2.2.1 x.2.2.2.2.2.2.2.2.2.2.2.1 x.2.2.2.2.2.2.2.2.2.2.2.2.1 x.2.2.2.2.2.2.2.2.2.2.2.2.2.1 x.2.2.2.2.2.2.2.2.2.2.2.2.2.2.1 x.2.2.2.2.2.2.2.2.2.2.2.2.2.2.2.1
noncomputable def W27_34 : LF tC := cutLF tC p27_34 j27_34
theorem W27_34_ok : keyed 34 (loopOf (loopOf (bodyOf Try.f27) 0) 2) = [c27_34] ∧ ∀ n, n ≤ 0 → Snd tC n c27_34 W27_34.k := ⟨by kernel_rfl, fun n hn => cut_ok (p := p27_34) Y27 (lam_le lam_nil n hn) hn j27_34_run⟩
noncomputable def c27_6 : Code := loopOf (loopOf (bodyOf Try.f27) 0) 2
def p27_6 : LS := ⟨0, [2, 3, 4, 5, 13, 14, 16, 17, 18, 19], ⟨[vB, vB, vI, vI, .one (.one (.ptr 0 0 0)), .one (.one (.ptr 1 0 0))] ++ vBs 7 ++ [vI, vI, vB, vI, .one (.one (.sl 2)), vI, vI] ++ vBs 79, [.box [.int .i64, .int .i64, .int .i64, .int .i64], .box [.int .i64, .int .i64, .int .i64], .arr 51]⟩, [⟨.exit 2, [2, 3, 4, 5, 13, 14, 16, 17, 18], ⟨[vB, vB, vI, vI, .one (.one (.ptr 0 0 0)), .one (.one (.ptr 1 0 0))] ++ vBs 7 ++ [vI, vI, vB, vI, .one (.one (.sl 2)), vI] ++ vBs 80, [.box [.int .i64, .int .i64, .int .i64, .int .i64], .box [.int .i64, .int .i64, .int .i64], .arr 51]⟩, []⟩], []⟩
noncomputable def r27_6 (x : Int × Int × Int × Int × Int × Nat × Int × Int × Int × Int × Int × Int × Int × Int × Int × List Pt × Unit) : Option
  (Int × Int × Int × Int × Int × Nat × Int × Int × Int × Int × Int × Int × Int × Int × Int × List Pt × Unit ⊕
    Int × Int × Int × Int × Int × Nat × Int × Int × Int × Int × Int × Int × Int × Int × List Pt × Unit) :=
  bif decide (x.snd.snd.snd.snd.snd.snd.snd.fst ≤ x.snd.snd.snd.fst) then
  bif
      (f48 (f49 x.snd.snd.snd.snd.snd.snd.snd.fst x.snd.snd.snd.snd.snd.snd.fst).fst
                (f49 x.snd.snd.snd.snd.snd.snd.snd.fst x.snd.snd.snd.snd.snd.snd.fst).snd.fst
                (f49 x.snd.snd.snd.snd.snd.snd.snd.fst x.snd.snd.snd.snd.snd.snd.fst).snd.snd.fst
                (f49 x.snd.snd.snd.snd.snd.snd.snd.fst x.snd.snd.snd.snd.snd.snd.fst).snd.snd.snd x.snd.snd.snd.snd.snd.snd.snd.snd.fst
                x.snd.snd.snd.snd.snd.snd.snd.snd.snd.fst x.snd.snd.snd.snd.snd.snd.snd.snd.snd.snd.fst
                x.snd.snd.snd.snd.snd.snd.snd.snd.snd.snd.snd.fst).snd.snd.snd.snd then
    (f50
          ((0 : Int), (0 : Int), x.snd.snd.snd.snd.snd.snd.snd.snd.snd.snd.snd.snd.fst,
            x.snd.snd.snd.snd.snd.snd.snd.snd.snd.snd.snd.snd.snd.fst, x.snd.snd.snd.snd.snd.snd.snd.snd.snd.snd.snd.snd.snd.snd.fst, x.fst,
            x.snd.fst,
            (f48 (f49 x.snd.snd.snd.snd.snd.snd.snd.fst x.snd.snd.snd.snd.snd.snd.fst).fst
                (f49 x.snd.snd.snd.snd.snd.snd.snd.fst x.snd.snd.snd.snd.snd.snd.fst).snd.fst
                (f49 x.snd.snd.snd.snd.snd.snd.snd.fst x.snd.snd.snd.snd.snd.snd.fst).snd.snd.fst
                (f49 x.snd.snd.snd.snd.snd.snd.snd.fst x.snd.snd.snd.snd.snd.snd.fst).snd.snd.snd x.snd.snd.snd.snd.snd.snd.snd.snd.fst
                x.snd.snd.snd.snd.snd.snd.snd.snd.snd.fst x.snd.snd.snd.snd.snd.snd.snd.snd.snd.snd.fst
                x.snd.snd.snd.snd.snd.snd.snd.snd.snd.snd.snd.fst).fst,
            (f48 (f49 x.snd.snd.snd.snd.snd.snd.snd.fst x.snd.snd.snd.snd.snd.snd.fst).fst
                  (f49 x.snd.snd.snd.snd.snd.snd.snd.fst x.snd.snd.snd.snd.snd.snd.fst).snd.fst
                  (f49 x.snd.snd.snd.snd.snd.snd.snd.fst x.snd.snd.snd.snd.snd.snd.fst).snd.snd.fst
                  (f49 x.snd.snd.snd.snd.snd.snd.snd.fst x.snd.snd.snd.snd.snd.snd.fst).snd.snd.snd x.snd.snd.snd.snd.snd.snd.snd.snd.fst
                  x.snd.snd.snd.snd.snd.snd.snd.snd.snd.fst x.snd.snd.snd.snd.snd.snd.snd.snd.snd.snd.fst
                  x.snd.snd.snd.snd.snd.snd.snd.snd.snd.snd.snd.fst).snd.fst,
            (f48 (f49 x.snd.snd.snd.snd.snd.snd.snd.fst x.snd.snd.snd.snd.snd.snd.fst).fst
                    (f49 x.snd.snd.snd.snd.snd.snd.snd.fst x.snd.snd.snd.snd.snd.snd.fst).snd.fst
                    (f49 x.snd.snd.snd.snd.snd.snd.snd.fst x.snd.snd.snd.snd.snd.snd.fst).snd.snd.fst
                    (f49 x.snd.snd.snd.snd.snd.snd.snd.fst x.snd.snd.snd.snd.snd.snd.fst).snd.snd.snd x.snd.snd.snd.snd.snd.snd.snd.snd.fst
                    x.snd.snd.snd.snd.snd.snd.snd.snd.snd.fst x.snd.snd.snd.snd.snd.snd.snd.snd.snd.snd.fst
                    x.snd.snd.snd.snd.snd.snd.snd.snd.snd.snd.snd.fst).snd.snd.fst,
            (f48 (f49 x.snd.snd.snd.snd.snd.snd.snd.fst x.snd.snd.snd.snd.snd.snd.fst).fst
                      (f49 x.snd.snd.snd.snd.snd.snd.snd.fst x.snd.snd.snd.snd.snd.snd.fst).snd.fst
                      (f49 x.snd.snd.snd.snd.snd.snd.snd.fst x.snd.snd.snd.snd.snd.snd.fst).snd.snd.fst
                      (f49 x.snd.snd.snd.snd.snd.snd.snd.fst x.snd.snd.snd.snd.snd.snd.fst).snd.snd.snd
                      x.snd.snd.snd.snd.snd.snd.snd.snd.fst x.snd.snd.snd.snd.snd.snd.snd.snd.snd.fst
                      x.snd.snd.snd.snd.snd.snd.snd.snd.snd.snd.fst x.snd.snd.snd.snd.snd.snd.snd.snd.snd.snd.snd.fst).snd.snd.snd.fst,
            ())).bind
      fun y386 =>
      bif y386.fst then
        bif decide ((0 : Nat) + x.snd.snd.snd.snd.snd.fst ≤ x.snd.snd.snd.snd.snd.snd.snd.snd.snd.snd.snd.snd.snd.snd.snd.fst.length) then
          bif roomy (x.snd.snd.snd.snd.snd.fst + (1 : Nat)) (16 : Nat) then
            (j27_34
                  (x.fst, x.snd.fst, x.snd.snd.fst, x.snd.snd.snd.fst, x.snd.snd.snd.snd.fst, x.snd.snd.snd.snd.snd.fst + (1 : Nat),
                    x.snd.snd.snd.snd.snd.snd.fst, x.snd.snd.snd.snd.snd.snd.snd.fst, x.snd.snd.snd.snd.snd.snd.snd.snd.fst,
                    x.snd.snd.snd.snd.snd.snd.snd.snd.snd.fst, x.snd.snd.snd.snd.snd.snd.snd.snd.snd.snd.fst,
                    x.snd.snd.snd.snd.snd.snd.snd.snd.snd.snd.snd.fst, x.snd.snd.snd.snd.snd.snd.snd.snd.snd.snd.snd.snd.fst,
                    x.snd.snd.snd.snd.snd.snd.snd.snd.snd.snd.snd.snd.snd.fst,
                    x.snd.snd.snd.snd.snd.snd.snd.snd.snd.snd.snd.snd.snd.snd.fst,
                    List.take x.snd.snd.snd.snd.snd.fst
                        (List.drop (0 : Nat) x.snd.snd.snd.snd.snd.snd.snd.snd.snd.snd.snd.snd.snd.snd.snd.fst) ++
                      [Pt.mk x.snd.snd.snd.snd.snd.snd.snd.fst x.snd.snd.snd.snd.snd.snd.fst],
                    ())).bind
              fun y384 =>
              some
                (Sum.inl
                  (y384.fst, y384.snd.fst, y384.snd.snd.fst, y384.snd.snd.snd.fst, y384.snd.snd.snd.snd.fst, y384.snd.snd.snd.snd.snd.fst,
                    y384.snd.snd.snd.snd.snd.snd.fst, y384.snd.snd.snd.snd.snd.snd.snd.fst, y384.snd.snd.snd.snd.snd.snd.snd.snd.fst,
                    y384.snd.snd.snd.snd.snd.snd.snd.snd.snd.fst, y384.snd.snd.snd.snd.snd.snd.snd.snd.snd.snd.fst,
                    y384.snd.snd.snd.snd.snd.snd.snd.snd.snd.snd.snd.fst, y384.snd.snd.snd.snd.snd.snd.snd.snd.snd.snd.snd.snd.fst,
                    y384.snd.snd.snd.snd.snd.snd.snd.snd.snd.snd.snd.snd.snd.fst,
                    y384.snd.snd.snd.snd.snd.snd.snd.snd.snd.snd.snd.snd.snd.snd.fst,
                    y384.snd.snd.snd.snd.snd.snd.snd.snd.snd.snd.snd.snd.snd.snd.snd.fst, ()))
          else none
        else none
      else
        (j27_34
              (x.fst, x.snd.fst, x.snd.snd.fst, x.snd.snd.snd.fst, x.snd.snd.snd.snd.fst, x.snd.snd.snd.snd.snd.fst,
                x.snd.snd.snd.snd.snd.snd.fst, x.snd.snd.snd.snd.snd.snd.snd.fst, x.snd.snd.snd.snd.snd.snd.snd.snd.fst,
                x.snd.snd.snd.snd.snd.snd.snd.snd.snd.fst, x.snd.snd.snd.snd.snd.snd.snd.snd.snd.snd.fst,
                x.snd.snd.snd.snd.snd.snd.snd.snd.snd.snd.snd.fst, x.snd.snd.snd.snd.snd.snd.snd.snd.snd.snd.snd.snd.fst,
                x.snd.snd.snd.snd.snd.snd.snd.snd.snd.snd.snd.snd.snd.fst, x.snd.snd.snd.snd.snd.snd.snd.snd.snd.snd.snd.snd.snd.snd.fst,
                x.snd.snd.snd.snd.snd.snd.snd.snd.snd.snd.snd.snd.snd.snd.snd.fst, ())).bind
          fun y385 =>
          some
            (Sum.inl
              (y385.fst, y385.snd.fst, y385.snd.snd.fst, y385.snd.snd.snd.fst, y385.snd.snd.snd.snd.fst, y385.snd.snd.snd.snd.snd.fst,
                y385.snd.snd.snd.snd.snd.snd.fst, y385.snd.snd.snd.snd.snd.snd.snd.fst, y385.snd.snd.snd.snd.snd.snd.snd.snd.fst,
                y385.snd.snd.snd.snd.snd.snd.snd.snd.snd.fst, y385.snd.snd.snd.snd.snd.snd.snd.snd.snd.snd.fst,
                y385.snd.snd.snd.snd.snd.snd.snd.snd.snd.snd.snd.fst, y385.snd.snd.snd.snd.snd.snd.snd.snd.snd.snd.snd.snd.fst,
                y385.snd.snd.snd.snd.snd.snd.snd.snd.snd.snd.snd.snd.snd.fst,
                y385.snd.snd.snd.snd.snd.snd.snd.snd.snd.snd.snd.snd.snd.snd.fst,
                y385.snd.snd.snd.snd.snd.snd.snd.snd.snd.snd.snd.snd.snd.snd.snd.fst, ()))
  else
    (j27_34
          (x.fst, x.snd.fst, x.snd.snd.fst, x.snd.snd.snd.fst, x.snd.snd.snd.snd.fst, x.snd.snd.snd.snd.snd.fst,
            x.snd.snd.snd.snd.snd.snd.fst, x.snd.snd.snd.snd.snd.snd.snd.fst, x.snd.snd.snd.snd.snd.snd.snd.snd.fst,
            x.snd.snd.snd.snd.snd.snd.snd.snd.snd.fst, x.snd.snd.snd.snd.snd.snd.snd.snd.snd.snd.fst,
            x.snd.snd.snd.snd.snd.snd.snd.snd.snd.snd.snd.fst, x.snd.snd.snd.snd.snd.snd.snd.snd.snd.snd.snd.snd.fst,
            x.snd.snd.snd.snd.snd.snd.snd.snd.snd.snd.snd.snd.snd.fst, x.snd.snd.snd.snd.snd.snd.snd.snd.snd.snd.snd.snd.snd.snd.fst,
            x.snd.snd.snd.snd.snd.snd.snd.snd.snd.snd.snd.snd.snd.snd.snd.fst, ())).bind
      fun y387 =>
      some
        (Sum.inl
          (y387.fst, y387.snd.fst, y387.snd.snd.fst, y387.snd.snd.snd.fst, y387.snd.snd.snd.snd.fst, y387.snd.snd.snd.snd.snd.fst,
            y387.snd.snd.snd.snd.snd.snd.fst, y387.snd.snd.snd.snd.snd.snd.snd.fst, y387.snd.snd.snd.snd.snd.snd.snd.snd.fst,
            y387.snd.snd.snd.snd.snd.snd.snd.snd.snd.fst, y387.snd.snd.snd.snd.snd.snd.snd.snd.snd.snd.fst,
            y387.snd.snd.snd.snd.snd.snd.snd.snd.snd.snd.snd.fst, y387.snd.snd.snd.snd.snd.snd.snd.snd.snd.snd.snd.snd.fst,
            y387.snd.snd.snd.snd.snd.snd.snd.snd.snd.snd.snd.snd.snd.fst, y387.snd.snd.snd.snd.snd.snd.snd.snd.snd.snd.snd.snd.snd.snd.fst,
            y387.snd.snd.snd.snd.snd.snd.snd.snd.snd.snd.snd.snd.snd.snd.snd.fst, ()))
else
  some
    (Sum.inr
      (x.fst, x.snd.fst, x.snd.snd.fst, x.snd.snd.snd.fst, x.snd.snd.snd.snd.fst, x.snd.snd.snd.snd.snd.fst, x.snd.snd.snd.snd.snd.snd.fst,
        x.snd.snd.snd.snd.snd.snd.snd.snd.fst, x.snd.snd.snd.snd.snd.snd.snd.snd.snd.fst, x.snd.snd.snd.snd.snd.snd.snd.snd.snd.snd.fst,
        x.snd.snd.snd.snd.snd.snd.snd.snd.snd.snd.snd.fst, x.snd.snd.snd.snd.snd.snd.snd.snd.snd.snd.snd.snd.fst,
        x.snd.snd.snd.snd.snd.snd.snd.snd.snd.snd.snd.snd.snd.fst, x.snd.snd.snd.snd.snd.snd.snd.snd.snd.snd.snd.snd.snd.snd.fst,
        x.snd.snd.snd.snd.snd.snd.snd.snd.snd.snd.snd.snd.snd.snd.snd.fst, ()))
theorem r27_6_run0 (v0 : Int) (v1 : Int) (v2 : Int) (v3 : Int) (v4 : Int) (v5 : Nat) (v6 : Int) (v7 : Int) (v8 : Int) (v9 : Int) (v10 : Int) (v11 : Int) (v12 : Int) (v13 : Int) (v14 : Int) (v15 : List Pt) : roundK tC G27 (look [(34, W27_34)]) c27_6 p27_6 (v0, v1, v2, v3, v4, v5, v6, v7, v8, v9, v10, v11, v12, v13, v14, v15, ()) = r27_6 (v0, v1, v2, v3, v4, v5, v6, v7, v8, v9, v10, v11, v12, v13, v14, v15, ()) := by kernel_rfl
theorem r27_6_run (x : Int × Int × Int × Int × Int × Nat × Int × Int × Int × Int × Int × Int × Int × Int × Int × List Pt × Unit) : roundK tC G27 (look [(34, W27_34)]) c27_6 p27_6 x = r27_6 x := r27_6_run0 x.1 x.2.1 x.2.2.1 x.2.2.2.1 x.2.2.2.2.1 x.2.2.2.2.2.1 x.2.2.2.2.2.2.1 x.2.2.2.2.2.2.2.1 x.2.2.2.2.2.2.2.2.1 x.2.2.2.2.2.2.2.2.2.1 x.2.2.2.2.2.2.2.2.2.2.1 x.2.2.2.2.2.2.2.2.2.2.2.1 x.2.2.2.2.2.2.2.2.2.2.2.2.1 x.2.2.2.2.2.2.2.2.2.2.2.2.2.1 x.2.2.2.2.2.2.2.2.2.2.2.2.2.2.1 x.2.2.2.2.2.2.2.2.2.2.2.2.2.2.2.1
noncomputable def l27_6 (x : Int × Int × Int × Int × Int × Nat × Int × Int × Int × Int × Int × Int × Int × Int × Int × List Pt × Unit) : Option (Int × Int × Int × Int × Int × Nat × Int × Int × Int × Int × Int × Int × Int × Int × List Pt × Unit) := iterO r27_6 x
noncomputable def W27_6 : LF tC := loopW tC p27_6 2 l27_6
theorem W27_6_ok : keyed 6 (loopOf (bodyOf Try.f27) 0) = [.block 2 (.loop c27_6)] ∧ ∀ n, n ≤ 0 → Snd tC n (.block 2 (.loop c27_6)) W27_6.k := ⟨by kernel_rfl, fun n hn => loopW_ok (p := p27_6) (id := 2) Y27 (lam_le (lam_cons W27_34_ok lam_nil) n hn) hn r27_6_run⟩
noncomputable def c27_0 : Code := loopOf (bodyOf Try.f27) 0
def p27_0 : LS := ⟨0, [2, 3, 4, 5, 13, 14, 16, 17, 18], ⟨[vB, vB, vI, vI, .one (.one (.ptr 0 0 0)), .one (.one (.ptr 1 0 0))] ++ vBs 7 ++ [vI, vI, vB, vI, .one (.one (.sl 2)), vI] ++ vBs 80, [.box [.int .i64, .int .i64, .int .i64, .int .i64], .box [.int .i64, .int .i64, .int .i64], .arr 51]⟩, [⟨.exit 0, [17], ⟨vBs 17 ++ [.one (.one (.sl 0))] ++ vBs 81, [.arr 51]⟩, []⟩], [(17, 51)]⟩
noncomputable def r27_0 (x : Int × Int × Int × Int × Int × Nat × Int × Int × Int × Int × Int × Int × Int × Int × List Pt × Unit) : Option (Int × Int × Int × Int × Int × Nat × Int × Int × Int × Int × Int × Int × Int × Int × List Pt × Unit ⊕ Nat × List Pt × Unit) :=
  bif decide (x.snd.snd.snd.snd.snd.snd.fst ≤ x.snd.snd.snd.snd.fst) then
  (l27_6
        (x.fst, x.snd.fst, x.snd.snd.fst, x.snd.snd.snd.fst, x.snd.snd.snd.snd.fst, x.snd.snd.snd.snd.snd.fst,
          x.snd.snd.snd.snd.snd.snd.fst, x.snd.snd.fst, x.snd.snd.snd.snd.snd.snd.snd.fst, x.snd.snd.snd.snd.snd.snd.snd.snd.fst,
          x.snd.snd.snd.snd.snd.snd.snd.snd.snd.fst, x.snd.snd.snd.snd.snd.snd.snd.snd.snd.snd.fst,
          x.snd.snd.snd.snd.snd.snd.snd.snd.snd.snd.snd.fst, x.snd.snd.snd.snd.snd.snd.snd.snd.snd.snd.snd.snd.fst,
          x.snd.snd.snd.snd.snd.snd.snd.snd.snd.snd.snd.snd.snd.fst, x.snd.snd.snd.snd.snd.snd.snd.snd.snd.snd.snd.snd.snd.snd.fst,
          ())).bind
    fun y405 =>
    some
      (Sum.inl
        (y405.fst, y405.snd.fst, y405.snd.snd.fst, y405.snd.snd.snd.fst, y405.snd.snd.snd.snd.fst, y405.snd.snd.snd.snd.snd.fst,
          IntKind.i64.wrap (y405.snd.snd.snd.snd.snd.snd.fst + (1 : Int)), y405.snd.snd.snd.snd.snd.snd.snd.fst,
          y405.snd.snd.snd.snd.snd.snd.snd.snd.fst, y405.snd.snd.snd.snd.snd.snd.snd.snd.snd.fst,
          y405.snd.snd.snd.snd.snd.snd.snd.snd.snd.snd.fst, y405.snd.snd.snd.snd.snd.snd.snd.snd.snd.snd.snd.fst,
          y405.snd.snd.snd.snd.snd.snd.snd.snd.snd.snd.snd.snd.fst, y405.snd.snd.snd.snd.snd.snd.snd.snd.snd.snd.snd.snd.snd.fst,
          y405.snd.snd.snd.snd.snd.snd.snd.snd.snd.snd.snd.snd.snd.snd.fst, ()))
else some (Sum.inr (x.snd.snd.snd.snd.snd.fst, x.snd.snd.snd.snd.snd.snd.snd.snd.snd.snd.snd.snd.snd.snd.fst, ()))
theorem r27_0_run0 (v0 : Int) (v1 : Int) (v2 : Int) (v3 : Int) (v4 : Int) (v5 : Nat) (v6 : Int) (v7 : Int) (v8 : Int) (v9 : Int) (v10 : Int) (v11 : Int) (v12 : Int) (v13 : Int) (v14 : List Pt) : roundK tC G27 (look [(6, W27_6)]) c27_0 p27_0 (v0, v1, v2, v3, v4, v5, v6, v7, v8, v9, v10, v11, v12, v13, v14, ()) = r27_0 (v0, v1, v2, v3, v4, v5, v6, v7, v8, v9, v10, v11, v12, v13, v14, ()) := by kernel_rfl
theorem r27_0_run (x : Int × Int × Int × Int × Int × Nat × Int × Int × Int × Int × Int × Int × Int × Int × List Pt × Unit) : roundK tC G27 (look [(6, W27_6)]) c27_0 p27_0 x = r27_0 x := r27_0_run0 x.1 x.2.1 x.2.2.1 x.2.2.2.1 x.2.2.2.2.1 x.2.2.2.2.2.1 x.2.2.2.2.2.2.1 x.2.2.2.2.2.2.2.1 x.2.2.2.2.2.2.2.2.1 x.2.2.2.2.2.2.2.2.2.1 x.2.2.2.2.2.2.2.2.2.2.1 x.2.2.2.2.2.2.2.2.2.2.2.1 x.2.2.2.2.2.2.2.2.2.2.2.2.1 x.2.2.2.2.2.2.2.2.2.2.2.2.2.1 x.2.2.2.2.2.2.2.2.2.2.2.2.2.2.1
noncomputable def l27_0 (x : Int × Int × Int × Int × Int × Nat × Int × Int × Int × Int × Int × Int × Int × Int × List Pt × Unit) : Option (Nat × List Pt × Unit) := iterO r27_0 x
noncomputable def W27_0 : LF tC := loopW tC p27_0 0 l27_0
theorem W27_0_ok : keyed 0 (bodyOf Try.f27) = [.block 0 (.loop c27_0)] ∧ ∀ n, n ≤ 0 → Snd tC n (.block 0 (.loop c27_0)) W27_0.k := ⟨by kernel_rfl, fun n hn => loopW_ok (p := p27_0) (id := 0) Y27 (lam_le (lam_cons W27_6_ok lam_nil) n hn) hn r27_0_run⟩
def S27 : FS := ⟨[[.v, .v, .v, .v], [.v, .v, .v], [.v], [.v]], [⟨[.one (.agg [.int .i64, .int .i64, .int .i64, .int .i64]), .one (.agg [.int .i64, .int .i64, .int .i64]), vI, vI], []⟩], [⟨[.one (.one (.sl 0))], [.arr 51]⟩], [[.v]], [(8, 51)]⟩
noncomputable def f27 (x : Int × Int × Int × Int × Int × Int × Int × Int × Int × Unit) : Option (Nat × List Pt × Unit) :=
  (f46
      (x.fst, x.snd.snd.fst, x.snd.snd.snd.snd.fst, x.snd.snd.snd.snd.snd.snd.fst, x.snd.snd.snd.snd.snd.snd.snd.fst,
        x.snd.snd.snd.snd.snd.snd.snd.snd.fst, ())).bind
  fun y414 =>
  (f46
        (x.snd.fst, x.snd.snd.snd.fst, x.snd.snd.snd.snd.snd.fst, x.snd.snd.snd.snd.snd.snd.fst, x.snd.snd.snd.snd.snd.snd.snd.fst,
          x.snd.snd.snd.snd.snd.snd.snd.snd.fst, ())).bind
    fun y413 =>
    (f47 (y414.fst, y414.snd.fst, ())).bind fun y412 =>
      (f47 (y413.fst, y413.snd.fst, ())).bind fun y411 =>
        (l27_0
              (x.snd.snd.snd.snd.snd.snd.snd.fst, x.snd.snd.snd.snd.snd.snd.snd.snd.fst, y412.fst, y412.snd.fst, y411.snd.fst, (0 : Nat),
                y411.fst, x.fst, x.snd.fst, x.snd.snd.fst, x.snd.snd.snd.fst, x.snd.snd.snd.snd.fst, x.snd.snd.snd.snd.snd.fst,
                x.snd.snd.snd.snd.snd.snd.fst, [], ())).bind
          fun y410 => some (y410.fst, y410.snd.fst, ())
noncomputable def F27 : CF tC := mkF tC S27 f27
theorem f27_run : ∀ a, fnS tC G27 (look [(0, W27_0)]) Try.f27 S27 a = f27 a := fun a => by kernel_rfl
theorem F27_ok : CFOK tC 27 F27 := mkF_ok Y27 (fn := Try.f27) (body := bodyOf Try.f27) (by kernel_rfl) (by kernel_rfl) (by kernel_rfl) (m := 0) rfl (lam_le (lam_cons W27_0_ok lam_nil)) f27_run

/-! plan.Traced -/
noncomputable def G12 : FuncId → Option (CF tC) := look [(25, F25), (26, F26), (27, F27)]
theorem Y12 : SysN tC G12 := (sys_cons F25_ok (mkF_nat _ _) (sys_cons F26_ok (mkF_nat _ _) (sys_cons F27_ok (mkF_nat _ _) (sys_nil tC_ok tC_eq))))
def S12 : FS := ⟨[[.v, .v], [.v, .v, .v], [.v], [.v]], [⟨[.one (.agg [.int .i64, .int .i64]), .one (.agg [.int .i64, .int .i64, .int .i64]), vI, vI], []⟩], [⟨[.tup [.one (.imm 51), .one (.int .i64)]], []⟩], [[.s 51], [.v]], []⟩
noncomputable def f12 (x : Int × Int × Int × Int × Int × Int × Int × Unit) : Option (List Pt × Int × Unit) :=
  bif !f25 x.fst x.snd.fst then some ([], (1 : Int), ())
else
  bif !f26 x.snd.snd.fst x.snd.snd.snd.fst x.snd.snd.snd.snd.fst then some ([], (1 : Int), ())
  else
    bif decide (x.snd.snd.snd.snd.snd.fst < (0 : Int)) then some ([], (2 : Int), ())
    else
      bif decide (x.snd.snd.snd.snd.snd.snd.fst < x.snd.snd.snd.snd.snd.fst) then some ([], (2 : Int), ())
      else
        bif decide (x.snd.snd.snd.snd.snd.snd.fst > (2048 : Int)) then some ([], (2 : Int), ())
        else
          (f27
                (x.fst, x.snd.fst, x.fst, x.snd.fst, x.snd.snd.fst, x.snd.snd.snd.fst, x.snd.snd.snd.snd.fst, x.snd.snd.snd.snd.snd.fst,
                  x.snd.snd.snd.snd.snd.snd.fst, ())).bind
            fun y12 =>
            bif decide ((0 : Nat) + y12.fst ≤ y12.snd.fst.length) then
              some (List.take y12.fst (List.drop (0 : Nat) y12.snd.fst), (0 : Int), ())
            else none
noncomputable def F12 : CF tC := mkF tC S12 f12
theorem f12_run : ∀ a, fnS tC G12 (look []) Try.f12 S12 a = f12 a := fun a => by kernel_rfl
theorem F12_ok : CFOK tC 12 F12 := mkF_ok Y12 (fn := Try.f12) (body := bodyOf Try.f12) (by kernel_rfl) (by kernel_rfl) (by kernel_rfl) (m := 0) rfl (lam_le lam_nil) f12_run

/-! plan.Square -/
noncomputable def G31 : FuncId → Option (CF tC) := look [(45, F45), (49, F49)]
theorem Y31 : SysN tC G31 := (sys_cons F45_ok (mkF_nat _ _) (sys_cons F49_ok (mkF_nat _ _) (sys_nil tC_ok tC_eq)))
def S31 : FS := ⟨[[.v, .v]], [⟨[.one (.agg [.int .i64, .int .i64])], []⟩], [⟨[.tup [.agg [.int .i64, .int .i64, .int .i64, .int .i64], .one .bool]], []⟩], [[.v, .v, .v, .v], [.v]], []⟩
def f31 (n1 : Int) (n2 : Int) : Int × Int × Int × Int × Bool :=
  bif !f45 n1 (16384 : Int) then ((0 : Int), (0 : Int), (0 : Int), (0 : Int), false)
else
  bif !f45 n2 (16384 : Int) then ((0 : Int), (0 : Int), (0 : Int), (0 : Int), false)
  else ((f49 n1 n2).fst, (f49 n1 n2).snd.fst, (f49 n1 n2).snd.snd.fst, (f49 n1 n2).snd.snd.snd, true)
noncomputable def F31 : CF tC := mkF tC S31 (fun a => some ((f31 a.1 a.2.1).1, (f31 a.1 a.2.1).2.1, (f31 a.1 a.2.1).2.2.1, (f31 a.1 a.2.1).2.2.2.1, (f31 a.1 a.2.1).2.2.2.2, ()))
def h31 (r : Int × Int × Int × Int × Bool) : Option (altTy tE S31.outs) := some (r.1, r.2.1, r.2.2.1, r.2.2.2.1, r.2.2.2.2, ())
theorem f31_run : ∀ a, fnS tC G31 (look []) Try.f31 S31 a = (fun a => some ((f31 a.1 a.2.1).1, (f31 a.1 a.2.1).2.1, (f31 a.1 a.2.1).2.2.1, (f31 a.1 a.2.1).2.2.2.1, (f31 a.1 a.2.1).2.2.2.2, ())) a := fun a => by
  have key : ∀ (n1 : Int) (n2 : Int), (bif !f45 n1 (16384 : Int) then h31 ((0 : Int), (0 : Int), (0 : Int), (0 : Int), false)
else
  bif !f45 n2 (16384 : Int) then h31 ((0 : Int), (0 : Int), (0 : Int), (0 : Int), false)
  else h31 ((f49 n1 n2).fst, (f49 n1 n2).snd.fst, (f49 n1 n2).snd.snd.fst, (f49 n1 n2).snd.snd.snd, true)) = h31 (f31 n1 n2) := by
    intros
    unfold f31
    repeat' first | rfl | refine cond_h (g := h31) ?_ ?_
  exact Eq.trans (by kernel_rfl) (key a.1 a.2.1)
theorem F31_ok : CFOK tC 31 F31 := mkF_ok Y31 (fn := Try.f31) (body := bodyOf Try.f31) (by kernel_rfl) (by kernel_rfl) (by kernel_rfl) (m := 0) rfl (lam_le lam_nil) f31_run

/-! segment.distance -/
noncomputable def G54 : FuncId → Option (CF tC) := look []
theorem Y54 : SysN tC G54 := (sys_nil tC_ok tC_eq)
noncomputable def c54_0 : Code := loopOf (bodyOf Try.f54) 0
def p54_0 : LS := ⟨0, [4, 5, 6, 7, 8], ⟨vBs 4 ++ [.one (.one (.ptr 0 0 0)), vI, vI, vI, vI] ++ vBs 26, [.box [.int .i64, .int .i64]]⟩, [⟨.exit 0, [4, 5, 6, 7], ⟨vBs 4 ++ [.one (.one (.ptr 0 0 0)), vI, vI, vI] ++ vBs 27, [.box [.int .i64, .int .i64]]⟩, []⟩], []⟩
noncomputable def r54_0 (x : Int × Int × Int × Int × Int × Int × Unit) : Option (Int × Int × Int × Int × Int × Int × Unit ⊕ Int × Int × Int × Int × Int × Unit) :=
  bif x.snd.snd.snd.fst != (0 : Int) then
  bif x.snd.snd.snd.fst == (0 : Int) then none
  else
    some
      (Sum.inl
        (x.fst, x.snd.fst, x.snd.snd.snd.fst, x.snd.snd.fst.tmod x.snd.snd.snd.fst, x.snd.snd.snd.snd.fst, x.snd.snd.snd.snd.snd.fst, ()))
else some (Sum.inr (x.fst, x.snd.fst, x.snd.snd.fst, x.snd.snd.snd.snd.fst, x.snd.snd.snd.snd.snd.fst, ()))
theorem r54_0_run0 (v0 : Int) (v1 : Int) (v2 : Int) (v3 : Int) (v4 : Int) (v5 : Int) : roundK tC G54 (look []) c54_0 p54_0 (v0, v1, v2, v3, v4, v5, ()) = r54_0 (v0, v1, v2, v3, v4, v5, ()) := by kernel_rfl
theorem r54_0_run (x : Int × Int × Int × Int × Int × Int × Unit) : roundK tC G54 (look []) c54_0 p54_0 x = r54_0 x := r54_0_run0 x.1 x.2.1 x.2.2.1 x.2.2.2.1 x.2.2.2.2.1 x.2.2.2.2.2.1
noncomputable def l54_0 (x : Int × Int × Int × Int × Int × Int × Unit) : Option (Int × Int × Int × Int × Int × Unit) := iterO r54_0 x
noncomputable def W54_0 : LF tC := loopW tC p54_0 0 l54_0
theorem W54_0_ok : keyed 0 (bodyOf Try.f54) = [.block 0 (.loop c54_0)] ∧ ∀ n, n ≤ 0 → Snd tC n (.block 0 (.loop c54_0)) W54_0.k := ⟨by kernel_rfl, fun n hn => loopW_ok (p := p54_0) (id := 0) Y54 (lam_le lam_nil n hn) hn r54_0_run⟩
noncomputable def c54_22 : Code := subCode (bodyOf Try.f54) 22
def p54_22 : PS := ⟨0, [4, 5, 6, 7], ⟨vBs 4 ++ [.one (.one (.ptr 0 0 0)), vI, vI, vI] ++ vBs 27, [.box [.int .i64, .int .i64]]⟩, [⟨.ret, [4], ⟨vBs 4 ++ [.one (.one (.ptr 0 0 0))] ++ vBs 30, [.box [.int .i64, .int .i64]]⟩, []⟩], []⟩
noncomputable def j54_22 (x : Int × Int × Int × Int × Int × Unit) : Option (Int × Int × Unit) :=
  bif x.snd.snd.fst == (0 : Int) then none
else
  bif x.snd.snd.fst == (0 : Int) then none
  else some (IntKind.i64.wrap (x.fst.tdiv x.snd.snd.fst), IntKind.i64.wrap (x.snd.fst.tdiv x.snd.snd.fst), ())
theorem j54_22_run0 (v0 : Int) (v1 : Int) (v2 : Int) (v3 : Int) (v4 : Int) : pieceK tC G54 (look []) c54_22 p54_22 (v0, v1, v2, v3, v4, ()) = j54_22 (v0, v1, v2, v3, v4, ()) := by kernel_rfl
theorem j54_22_run (x : Int × Int × Int × Int × Int × Unit) : pieceK tC G54 (look []) c54_22 p54_22 x = j54_22 x := j54_22_run0 x.1 x.2.1 x.2.2.1 x.2.2.2.1 x.2.2.2.2.1
noncomputable def W54_22 : LF tC := cutLF tC p54_22 j54_22
theorem W54_22_ok : keyed 22 (bodyOf Try.f54) = [c54_22] ∧ ∀ n, n ≤ 0 → Snd tC n c54_22 W54_22.k := ⟨by kernel_rfl, fun n hn => cut_ok (p := p54_22) Y54 (lam_le lam_nil n hn) hn j54_22_run⟩
def S54 : FS := ⟨[[.v, .v], [.v, .v, .v]], [⟨[.one (.agg [.int .i64, .int .i64]), .one (.agg [.int .i64, .int .i64, .int .i64])], []⟩], [⟨[.one (.agg [.int .i64, .int .i64])], []⟩], [[.v, .v]], []⟩
noncomputable def f54 (x : Int × Int × Int × Int × Int × Unit) : Option (Int × Int × Unit) :=
  (l54_0
      (IntKind.i64.wrap (x.fst * x.snd.snd.snd.snd.fst), x.snd.fst, IntKind.i64.wrap (x.fst * x.snd.snd.snd.snd.fst), x.snd.fst, (0 : Int),
        (0 : Int), ())).bind
  fun y37 =>
  bif decide (y37.snd.snd.fst < (0 : Int)) then
    (j54_22 (y37.fst, y37.snd.fst, IntKind.i64.wrap ((0 : Int) - y37.snd.snd.fst), y37.snd.snd.snd.fst, y37.snd.snd.snd.snd.fst, ())).bind
      fun y35 => some (y35.fst, y35.snd.fst, ())
  else
    (j54_22 (y37.fst, y37.snd.fst, y37.snd.snd.fst, y37.snd.snd.snd.fst, y37.snd.snd.snd.snd.fst, ())).bind fun y36 =>
      some (y36.fst, y36.snd.fst, ())
noncomputable def F54 : CF tC := mkF tC S54 f54
theorem f54_run : ∀ a, fnS tC G54 (look [(0, W54_0), (22, W54_22)]) Try.f54 S54 a = f54 a := fun a => by kernel_rfl
theorem F54_ok : CFOK tC 54 F54 := mkF_ok Y54 (fn := Try.f54) (body := bodyOf Try.f54) (by kernel_rfl) (by kernel_rfl) (by kernel_rfl) (m := 0) rfl (lam_le (lam_cons W54_0_ok (lam_cons W54_22_ok lam_nil))) f54_run

/-! segment.Enter -/
noncomputable def G32 : FuncId → Option (CF tC) := look [(53, F53), (54, F54)]
theorem Y32 : SysN tC G32 := (sys_cons F53_ok (mkF_nat _ _) (sys_cons F54_ok (mkF_nat _ _) (sys_nil tC_ok tC_eq)))
def S32 : FS := ⟨[[.v, .v], [.v, .v, .v], [.v, .v, .v, .v]], [⟨[.one (.agg [.int .i64, .int .i64]), .one (.agg [.int .i64, .int .i64, .int .i64]), .one (.agg [.int .i64, .int .i64, .int .i64, .int .i64])], []⟩], [⟨[.tup [.agg [.int .i64, .int .i64], .one .bool]], []⟩], [[.v, .v], [.v]], []⟩
noncomputable def f32 (x : Int × Int × Int × Int × Int × Int × Int × Int × Int × Unit) : Option (Int × Int × Bool × Unit) :=
  (f53
      (x.fst, x.snd.fst, x.snd.snd.fst, x.snd.snd.snd.fst, x.snd.snd.snd.snd.fst, x.snd.snd.snd.snd.snd.fst, x.snd.snd.snd.snd.snd.snd.fst,
        x.snd.snd.snd.snd.snd.snd.snd.fst, x.snd.snd.snd.snd.snd.snd.snd.snd.fst, ())).bind
  fun y21 =>
  bif !y21.snd.snd.snd.snd.fst then some ((0 : Int), (0 : Int), false, ())
  else
    (f54 (y21.fst, y21.snd.fst, x.snd.snd.fst, x.snd.snd.snd.fst, x.snd.snd.snd.snd.fst, ())).bind fun y20 =>
      some (y20.fst, y20.snd.fst, true, ())
noncomputable def F32 : CF tC := mkF tC S32 f32
theorem f32_run : ∀ a, fnS tC G32 (look []) Try.f32 S32 a = f32 a := fun a => by kernel_rfl
theorem F32_ok : CFOK tC 32 F32 := mkF_ok Y32 (fn := Try.f32) (body := bodyOf Try.f32) (by kernel_rfl) (by kernel_rfl) (by kernel_rfl) (m := 0) rfl (lam_le lam_nil) f32_run

/-! ray.First -/
noncomputable def G14 : FuncId → Option (CF tC) := look [(30, F30), (12, F12), (13, F13), (31, F31), (32, F32)]
theorem Y14 : SysN tC G14 := (sys_cons F30_ok (mkF_nat _ _) (sys_cons F12_ok (mkF_nat _ _) (sys_cons F13_ok (mkF_nat _ _) (sys_cons F31_ok (mkF_nat _ _) (sys_cons F32_ok (mkF_nat _ _) (sys_nil tC_ok tC_eq))))))
noncomputable def c14_52 : Code := subCode (loopOf (bodyOf Try.f14) 0) 52
def p14_52 : PS := ⟨0, [4, 5, 6, 8, 9, 13, 14, 15, 39, 40, 41], ⟨vBs 4 ++ [.one (.one (.ptr 0 0 0)), .one (.one (.ptr 1 0 0)), .one (.one (.ptr 2 0 0)), vB, .one (.one (.ptr 3 0 0)), .one (.one (.ptr 4 0 0)), vB, vB, vB, .one (.one (.ptr 5 0 0)), .one (.one (.ptr 6 0 0)), vO] ++ vBs 23 ++ [.one (.one (.imm 51)), vI, vI] ++ vBs 40, [.box [.int .i64, .int .i64, .imm 5], .box [.int .i64, .int .i64], .box [.int .i64, .int .i64, .int .i64], .box [.int .i64, .int .i64], .box [.int .i64, .int .i64], .box [.int .i64, .int .i64], .box [.int .i64, .int .i64]]⟩, [⟨.normal, [4, 5, 6, 8, 9, 13, 14, 15, 39, 40, 41], ⟨vBs 4 ++ [.one (.one (.ptr 0 0 0)), .one (.one (.ptr 1 0 0)), .one (.one (.ptr 2 0 0)), vB, .one (.one (.ptr 3 0 0)), .one (.one (.ptr 4 0 0)), vB, vB, vB, .one (.one (.ptr 5 0 0)), .one (.one (.ptr 6 0 0)), vO] ++ vBs 23 ++ [.one (.one (.imm 51)), vI, vI] ++ vBs 40, [.box [.int .i64, .int .i64, .imm 5], .box [.int .i64, .int .i64], .box [.int .i64, .int .i64, .int .i64], .box [.int .i64, .int .i64], .box [.int .i64, .int .i64], .box [.int .i64, .int .i64], .box [.int .i64, .int .i64]]⟩, []⟩], []⟩
noncomputable def j14_52 (x : Bool × List Pt × Int × Int × Int × Int × List Int × Int × Int × Int × Int × Int × Int × Int × Int × Int × Int × Int × Int × Int × Unit) : Option
  (Bool × List Pt × Int × Int × Int × Int × List Int × Int × Int × Int × Int × Int × Int × Int × Int × Int × Int × Int × Int × Int × Unit) :=
  some
  (x.fst, x.snd.fst, x.snd.snd.fst, IntKind.i64.wrap (x.snd.snd.snd.fst + (1 : Int)), x.snd.snd.snd.snd.fst, x.snd.snd.snd.snd.snd.fst,
    x.snd.snd.snd.snd.snd.snd.fst, x.snd.snd.snd.snd.snd.snd.snd.fst, x.snd.snd.snd.snd.snd.snd.snd.snd.fst,
    x.snd.snd.snd.snd.snd.snd.snd.snd.snd.fst, x.snd.snd.snd.snd.snd.snd.snd.snd.snd.snd.fst,
    x.snd.snd.snd.snd.snd.snd.snd.snd.snd.snd.snd.fst, x.snd.snd.snd.snd.snd.snd.snd.snd.snd.snd.snd.snd.fst,
    x.snd.snd.snd.snd.snd.snd.snd.snd.snd.snd.snd.snd.snd.fst, x.snd.snd.snd.snd.snd.snd.snd.snd.snd.snd.snd.snd.snd.snd.fst,
    x.snd.snd.snd.snd.snd.snd.snd.snd.snd.snd.snd.snd.snd.snd.snd.fst,
    x.snd.snd.snd.snd.snd.snd.snd.snd.snd.snd.snd.snd.snd.snd.snd.snd.fst,
    x.snd.snd.snd.snd.snd.snd.snd.snd.snd.snd.snd.snd.snd.snd.snd.snd.snd.fst,
    x.snd.snd.snd.snd.snd.snd.snd.snd.snd.snd.snd.snd.snd.snd.snd.snd.snd.snd.fst,
    x.snd.snd.snd.snd.snd.snd.snd.snd.snd.snd.snd.snd.snd.snd.snd.snd.snd.snd.snd.fst, ())
theorem j14_52_run0 (v0 : Bool) (v1 : List Pt) (v2 : Int) (v3 : Int) (v4 : Int) (v5 : Int) (v6 : List Int) (v7 : Int) (v8 : Int) (v9 : Int) (v10 : Int) (v11 : Int) (v12 : Int) (v13 : Int) (v14 : Int) (v15 : Int) (v16 : Int) (v17 : Int) (v18 : Int) (v19 : Int) : pieceK tC G14 (look []) c14_52 p14_52 (v0, v1, v2, v3, v4, v5, v6, v7, v8, v9, v10, v11, v12, v13, v14, v15, v16, v17, v18, v19, ()) = j14_52 (v0, v1, v2, v3, v4, v5, v6, v7, v8, v9, v10, v11, v12, v13, v14, v15, v16, v17, v18, v19, ()) := by kernel_rfl
theorem j14_52_run (x : Bool × List Pt × Int × Int × Int × Int × List Int × Int × Int × Int × Int × Int × Int × Int × Int × Int × Int × Int × Int × Int × Unit) : pieceK tC G14 (look []) c14_52 p14_52 x = j14_52 x := j14_52_run0 x.1 x.2.1 x.2.2.1 x.2.2.2.1 x.2.2.2.2.1 x.2.2.2.2.2.1 x.2.2.2.2.2.2.1 x.2.2.2.2.2.2.2.1 x.2.2.2.2.2.2.2.2.1 x.2.2.2.2.2.2.2.2.2.1 x.2.2.2.2.2.2.2.2.2.2.1 x.2.2.2.2.2.2.2.2.2.2.2.1 x.2.2.2.2.2.2.2.2.2.2.2.2.1 x.2.2.2.2.2.2.2.2.2.2.2.2.2.1 x.2.2.2.2.2.2.2.2.2.2.2.2.2.2.1 x.2.2.2.2.2.2.2.2.2.2.2.2.2.2.2.1 x.2.2.2.2.2.2.2.2.2.2.2.2.2.2.2.2.1 x.2.2.2.2.2.2.2.2.2.2.2.2.2.2.2.2.2.1 x.2.2.2.2.2.2.2.2.2.2.2.2.2.2.2.2.2.2.1 x.2.2.2.2.2.2.2.2.2.2.2.2.2.2.2.2.2.2.2.1
noncomputable def W14_52 : LF tC := cutLF tC p14_52 j14_52
theorem W14_52_ok : keyed 52 (loopOf (bodyOf Try.f14) 0) = [c14_52] ∧ ∀ n, n ≤ 0 → Snd tC n c14_52 W14_52.k := ⟨by kernel_rfl, fun n hn => cut_ok (p := p14_52) Y14 (lam_le lam_nil n hn) hn j14_52_run⟩
noncomputable def c14_0 : Code := loopOf (bodyOf Try.f14) 0
def p14_0 : LS := ⟨0, [4, 5, 6, 8, 9, 13, 14, 15, 39, 40, 41], ⟨vBs 4 ++ [.one (.one (.ptr 0 0 0)), .one (.one (.ptr 1 0 0)), .one (.one (.ptr 2 0 0)), vB, .one (.one (.ptr 3 0 0)), .one (.one (.ptr 4 0 0)), vB, vB, vB, .one (.one (.ptr 5 0 0)), .one (.one (.ptr 6 0 0)), vO] ++ vBs 23 ++ [.one (.one (.imm 51)), vI, vI] ++ vBs 40, [.box [.int .i64, .int .i64, .imm 5], .box [.int .i64, .int .i64], .box [.int .i64, .int .i64, .int .i64], .box [.int .i64, .int .i64], .box [.int .i64, .int .i64], .box [.int .i64, .int .i64], .box [.int .i64, .int .i64]]⟩, [⟨.exit 0, [8, 9, 13, 14, 15], ⟨vBs 8 ++ [.one (.one (.ptr 0 0 0)), .one (.one (.ptr 1 0 0)), vB, vB, vB, .one (.one (.ptr 2 0 0)), .one (.one (.ptr 3 0 0)), vO] ++ vBs 66, [.box [.int .i64, .int .i64], .box [.int .i64, .int .i64], .box [.int .i64, .int .i64], .box [.int .i64, .int .i64]]⟩, []⟩], []⟩
noncomputable def r14_0 (x : Bool × List Pt × Int × Int × Int × Int × List Int × Int × Int × Int × Int × Int × Int × Int × Int × Int × Int × Int × Int × Int × Unit) : Option
  (Bool × List Pt × Int × Int × Int × Int × List Int × Int × Int × Int × Int × Int × Int × Int × Int × Int × Int × Int × Int × Int × Unit ⊕
    Bool × Int × Int × Int × Int × Int × Int × Int × Int × Unit) :=
  bif decide (x.snd.snd.snd.fst < x.snd.snd.fst) then
  (idxO x.snd.fst x.snd.snd.snd.fst).bind fun y173 =>
    (f13 (x.snd.snd.snd.snd.fst, x.snd.snd.snd.snd.snd.fst, x.snd.snd.snd.snd.snd.snd.fst, y173.X, y173.Y, ())).bind fun y172 =>
      bif y172.fst != (2 : Int) then
        (j14_52
              (x.fst, x.snd.fst, x.snd.snd.fst, x.snd.snd.snd.fst, x.snd.snd.snd.snd.fst, x.snd.snd.snd.snd.snd.fst,
                x.snd.snd.snd.snd.snd.snd.fst, x.snd.snd.snd.snd.snd.snd.snd.fst, x.snd.snd.snd.snd.snd.snd.snd.snd.fst,
                x.snd.snd.snd.snd.snd.snd.snd.snd.snd.fst, x.snd.snd.snd.snd.snd.snd.snd.snd.snd.snd.fst,
                x.snd.snd.snd.snd.snd.snd.snd.snd.snd.snd.snd.fst, x.snd.snd.snd.snd.snd.snd.snd.snd.snd.snd.snd.snd.fst,
                x.snd.snd.snd.snd.snd.snd.snd.snd.snd.snd.snd.snd.snd.fst, x.snd.snd.snd.snd.snd.snd.snd.snd.snd.snd.snd.snd.snd.snd.fst,
                x.snd.snd.snd.snd.snd.snd.snd.snd.snd.snd.snd.snd.snd.snd.snd.fst,
                x.snd.snd.snd.snd.snd.snd.snd.snd.snd.snd.snd.snd.snd.snd.snd.snd.fst,
                x.snd.snd.snd.snd.snd.snd.snd.snd.snd.snd.snd.snd.snd.snd.snd.snd.snd.fst,
                x.snd.snd.snd.snd.snd.snd.snd.snd.snd.snd.snd.snd.snd.snd.snd.snd.snd.snd.fst,
                x.snd.snd.snd.snd.snd.snd.snd.snd.snd.snd.snd.snd.snd.snd.snd.snd.snd.snd.snd.fst, ())).bind
          fun y167 =>
          some
            (Sum.inl
              (y167.fst, y167.snd.fst, y167.snd.snd.fst, y167.snd.snd.snd.fst, y167.snd.snd.snd.snd.fst, y167.snd.snd.snd.snd.snd.fst,
                y167.snd.snd.snd.snd.snd.snd.fst, y167.snd.snd.snd.snd.snd.snd.snd.fst, y167.snd.snd.snd.snd.snd.snd.snd.snd.fst,
                y167.snd.snd.snd.snd.snd.snd.snd.snd.snd.fst, y167.snd.snd.snd.snd.snd.snd.snd.snd.snd.snd.fst,
                y167.snd.snd.snd.snd.snd.snd.snd.snd.snd.snd.snd.fst, y167.snd.snd.snd.snd.snd.snd.snd.snd.snd.snd.snd.snd.fst,
                y167.snd.snd.snd.snd.snd.snd.snd.snd.snd.snd.snd.snd.snd.fst,
                y167.snd.snd.snd.snd.snd.snd.snd.snd.snd.snd.snd.snd.snd.snd.fst,
                y167.snd.snd.snd.snd.snd.snd.snd.snd.snd.snd.snd.snd.snd.snd.snd.fst,
                y167.snd.snd.snd.snd.snd.snd.snd.snd.snd.snd.snd.snd.snd.snd.snd.snd.fst,
                y167.snd.snd.snd.snd.snd.snd.snd.snd.snd.snd.snd.snd.snd.snd.snd.snd.snd.fst,
                y167.snd.snd.snd.snd.snd.snd.snd.snd.snd.snd.snd.snd.snd.snd.snd.snd.snd.snd.fst,
                y167.snd.snd.snd.snd.snd.snd.snd.snd.snd.snd.snd.snd.snd.snd.snd.snd.snd.snd.snd.fst, ()))
      else
        (f32
              (x.snd.snd.snd.snd.snd.snd.snd.fst, x.snd.snd.snd.snd.snd.snd.snd.snd.fst, x.snd.snd.snd.snd.snd.snd.snd.snd.snd.fst,
                x.snd.snd.snd.snd.snd.snd.snd.snd.snd.snd.fst, x.snd.snd.snd.snd.snd.snd.snd.snd.snd.snd.snd.fst, (f31 y173.X y173.Y).fst,
                (f31 y173.X y173.Y).snd.fst, (f31 y173.X y173.Y).snd.snd.fst, (f31 y173.X y173.Y).snd.snd.snd.fst, ())).bind
          fun y171 =>
          bif !x.fst then
            (j14_52
                  (true, x.snd.fst, x.snd.snd.fst, x.snd.snd.snd.fst, x.snd.snd.snd.snd.fst, x.snd.snd.snd.snd.snd.fst,
                    x.snd.snd.snd.snd.snd.snd.fst, x.snd.snd.snd.snd.snd.snd.snd.fst, x.snd.snd.snd.snd.snd.snd.snd.snd.fst,
                    x.snd.snd.snd.snd.snd.snd.snd.snd.snd.fst, x.snd.snd.snd.snd.snd.snd.snd.snd.snd.snd.fst,
                    x.snd.snd.snd.snd.snd.snd.snd.snd.snd.snd.snd.fst, x.snd.snd.snd.snd.snd.snd.snd.snd.snd.snd.snd.snd.fst,
                    x.snd.snd.snd.snd.snd.snd.snd.snd.snd.snd.snd.snd.snd.fst,
                    x.snd.snd.snd.snd.snd.snd.snd.snd.snd.snd.snd.snd.snd.snd.fst,
                    x.snd.snd.snd.snd.snd.snd.snd.snd.snd.snd.snd.snd.snd.snd.snd.fst, y171.fst, y171.snd.fst, y173.X, y173.Y, ())).bind
              fun y168 =>
              some
                (Sum.inl
                  (y168.fst, y168.snd.fst, y168.snd.snd.fst, y168.snd.snd.snd.fst, y168.snd.snd.snd.snd.fst, y168.snd.snd.snd.snd.snd.fst,
                    y168.snd.snd.snd.snd.snd.snd.fst, y168.snd.snd.snd.snd.snd.snd.snd.fst, y168.snd.snd.snd.snd.snd.snd.snd.snd.fst,
                    y168.snd.snd.snd.snd.snd.snd.snd.snd.snd.fst, y168.snd.snd.snd.snd.snd.snd.snd.snd.snd.snd.fst,
                    y168.snd.snd.snd.snd.snd.snd.snd.snd.snd.snd.snd.fst, y168.snd.snd.snd.snd.snd.snd.snd.snd.snd.snd.snd.snd.fst,
                    y168.snd.snd.snd.snd.snd.snd.snd.snd.snd.snd.snd.snd.snd.fst,
                    y168.snd.snd.snd.snd.snd.snd.snd.snd.snd.snd.snd.snd.snd.snd.fst,
                    y168.snd.snd.snd.snd.snd.snd.snd.snd.snd.snd.snd.snd.snd.snd.snd.fst,
                    y168.snd.snd.snd.snd.snd.snd.snd.snd.snd.snd.snd.snd.snd.snd.snd.snd.fst,
                    y168.snd.snd.snd.snd.snd.snd.snd.snd.snd.snd.snd.snd.snd.snd.snd.snd.snd.fst,
                    y168.snd.snd.snd.snd.snd.snd.snd.snd.snd.snd.snd.snd.snd.snd.snd.snd.snd.snd.fst,
                    y168.snd.snd.snd.snd.snd.snd.snd.snd.snd.snd.snd.snd.snd.snd.snd.snd.snd.snd.snd.fst, ()))
          else
            bif
                decide
                  (IntKind.i64.wrap (y171.fst * x.snd.snd.snd.snd.snd.snd.snd.snd.snd.snd.snd.snd.snd.snd.snd.snd.snd.fst) <
                    IntKind.i64.wrap (x.snd.snd.snd.snd.snd.snd.snd.snd.snd.snd.snd.snd.snd.snd.snd.snd.fst * y171.snd.fst)) then
              (j14_52
                    (true, x.snd.fst, x.snd.snd.fst, x.snd.snd.snd.fst, x.snd.snd.snd.snd.fst, x.snd.snd.snd.snd.snd.fst,
                      x.snd.snd.snd.snd.snd.snd.fst, x.snd.snd.snd.snd.snd.snd.snd.fst, x.snd.snd.snd.snd.snd.snd.snd.snd.fst,
                      x.snd.snd.snd.snd.snd.snd.snd.snd.snd.fst, x.snd.snd.snd.snd.snd.snd.snd.snd.snd.snd.fst,
                      x.snd.snd.snd.snd.snd.snd.snd.snd.snd.snd.snd.fst, x.snd.snd.snd.snd.snd.snd.snd.snd.snd.snd.snd.snd.fst,
                      x.snd.snd.snd.snd.snd.snd.snd.snd.snd.snd.snd.snd.snd.fst,
                      x.snd.snd.snd.snd.snd.snd.snd.snd.snd.snd.snd.snd.snd.snd.fst,
                      x.snd.snd.snd.snd.snd.snd.snd.snd.snd.snd.snd.snd.snd.snd.snd.fst, y171.fst, y171.snd.fst, y173.X, y173.Y, ())).bind
                fun y169 =>
                some
                  (Sum.inl
                    (y169.fst, y169.snd.fst, y169.snd.snd.fst, y169.snd.snd.snd.fst, y169.snd.snd.snd.snd.fst, y169.snd.snd.snd.snd.snd.fst,
                      y169.snd.snd.snd.snd.snd.snd.fst, y169.snd.snd.snd.snd.snd.snd.snd.fst, y169.snd.snd.snd.snd.snd.snd.snd.snd.fst,
                      y169.snd.snd.snd.snd.snd.snd.snd.snd.snd.fst, y169.snd.snd.snd.snd.snd.snd.snd.snd.snd.snd.fst,
                      y169.snd.snd.snd.snd.snd.snd.snd.snd.snd.snd.snd.fst, y169.snd.snd.snd.snd.snd.snd.snd.snd.snd.snd.snd.snd.fst,
                      y169.snd.snd.snd.snd.snd.snd.snd.snd.snd.snd.snd.snd.snd.fst,
                      y169.snd.snd.snd.snd.snd.snd.snd.snd.snd.snd.snd.snd.snd.snd.fst,
                      y169.snd.snd.snd.snd.snd.snd.snd.snd.snd.snd.snd.snd.snd.snd.snd.fst,
                      y169.snd.snd.snd.snd.snd.snd.snd.snd.snd.snd.snd.snd.snd.snd.snd.snd.fst,
                      y169.snd.snd.snd.snd.snd.snd.snd.snd.snd.snd.snd.snd.snd.snd.snd.snd.snd.fst,
                      y169.snd.snd.snd.snd.snd.snd.snd.snd.snd.snd.snd.snd.snd.snd.snd.snd.snd.snd.fst,
                      y169.snd.snd.snd.snd.snd.snd.snd.snd.snd.snd.snd.snd.snd.snd.snd.snd.snd.snd.snd.fst, ()))
            else
              (j14_52
                    (x.fst, x.snd.fst, x.snd.snd.fst, x.snd.snd.snd.fst, x.snd.snd.snd.snd.fst, x.snd.snd.snd.snd.snd.fst,
                      x.snd.snd.snd.snd.snd.snd.fst, x.snd.snd.snd.snd.snd.snd.snd.fst, x.snd.snd.snd.snd.snd.snd.snd.snd.fst,
                      x.snd.snd.snd.snd.snd.snd.snd.snd.snd.fst, x.snd.snd.snd.snd.snd.snd.snd.snd.snd.snd.fst,
                      x.snd.snd.snd.snd.snd.snd.snd.snd.snd.snd.snd.fst, x.snd.snd.snd.snd.snd.snd.snd.snd.snd.snd.snd.snd.fst,
                      x.snd.snd.snd.snd.snd.snd.snd.snd.snd.snd.snd.snd.snd.fst,
                      x.snd.snd.snd.snd.snd.snd.snd.snd.snd.snd.snd.snd.snd.snd.fst,
                      x.snd.snd.snd.snd.snd.snd.snd.snd.snd.snd.snd.snd.snd.snd.snd.fst,
                      x.snd.snd.snd.snd.snd.snd.snd.snd.snd.snd.snd.snd.snd.snd.snd.snd.fst,
                      x.snd.snd.snd.snd.snd.snd.snd.snd.snd.snd.snd.snd.snd.snd.snd.snd.snd.fst,
                      x.snd.snd.snd.snd.snd.snd.snd.snd.snd.snd.snd.snd.snd.snd.snd.snd.snd.snd.fst,
                      x.snd.snd.snd.snd.snd.snd.snd.snd.snd.snd.snd.snd.snd.snd.snd.snd.snd.snd.snd.fst, ())).bind
                fun y170 =>
                some
                  (Sum.inl
                    (y170.fst, y170.snd.fst, y170.snd.snd.fst, y170.snd.snd.snd.fst, y170.snd.snd.snd.snd.fst, y170.snd.snd.snd.snd.snd.fst,
                      y170.snd.snd.snd.snd.snd.snd.fst, y170.snd.snd.snd.snd.snd.snd.snd.fst, y170.snd.snd.snd.snd.snd.snd.snd.snd.fst,
                      y170.snd.snd.snd.snd.snd.snd.snd.snd.snd.fst, y170.snd.snd.snd.snd.snd.snd.snd.snd.snd.snd.fst,
                      y170.snd.snd.snd.snd.snd.snd.snd.snd.snd.snd.snd.fst, y170.snd.snd.snd.snd.snd.snd.snd.snd.snd.snd.snd.snd.fst,
                      y170.snd.snd.snd.snd.snd.snd.snd.snd.snd.snd.snd.snd.snd.fst,
                      y170.snd.snd.snd.snd.snd.snd.snd.snd.snd.snd.snd.snd.snd.snd.fst,
                      y170.snd.snd.snd.snd.snd.snd.snd.snd.snd.snd.snd.snd.snd.snd.snd.fst,
                      y170.snd.snd.snd.snd.snd.snd.snd.snd.snd.snd.snd.snd.snd.snd.snd.snd.fst,
                      y170.snd.snd.snd.snd.snd.snd.snd.snd.snd.snd.snd.snd.snd.snd.snd.snd.snd.fst,
                      y170.snd.snd.snd.snd.snd.snd.snd.snd.snd.snd.snd.snd.snd.snd.snd.snd.snd.snd.fst,
                      y170.snd.snd.snd.snd.snd.snd.snd.snd.snd.snd.snd.snd.snd.snd.snd.snd.snd.snd.snd.fst, ()))
else
  some
    (Sum.inr
      (x.fst, x.snd.snd.snd.snd.snd.snd.snd.snd.snd.snd.snd.snd.fst, x.snd.snd.snd.snd.snd.snd.snd.snd.snd.snd.snd.snd.snd.fst,
        x.snd.snd.snd.snd.snd.snd.snd.snd.snd.snd.snd.snd.snd.snd.fst, x.snd.snd.snd.snd.snd.snd.snd.snd.snd.snd.snd.snd.snd.snd.snd.fst,
        x.snd.snd.snd.snd.snd.snd.snd.snd.snd.snd.snd.snd.snd.snd.snd.snd.fst,
        x.snd.snd.snd.snd.snd.snd.snd.snd.snd.snd.snd.snd.snd.snd.snd.snd.snd.fst,
        x.snd.snd.snd.snd.snd.snd.snd.snd.snd.snd.snd.snd.snd.snd.snd.snd.snd.snd.fst,
        x.snd.snd.snd.snd.snd.snd.snd.snd.snd.snd.snd.snd.snd.snd.snd.snd.snd.snd.snd.fst, ()))
theorem r14_0_run0 (v0 : Bool) (v1 : List Pt) (v2 : Int) (v3 : Int) (v4 : Int) (v5 : Int) (v6 : List Int) (v7 : Int) (v8 : Int) (v9 : Int) (v10 : Int) (v11 : Int) (v12 : Int) (v13 : Int) (v14 : Int) (v15 : Int) (v16 : Int) (v17 : Int) (v18 : Int) (v19 : Int) : roundK tC G14 (look [(52, W14_52)]) c14_0 p14_0 (v0, v1, v2, v3, v4, v5, v6, v7, v8, v9, v10, v11, v12, v13, v14, v15, v16, v17, v18, v19, ()) = r14_0 (v0, v1, v2, v3, v4, v5, v6, v7, v8, v9, v10, v11, v12, v13, v14, v15, v16, v17, v18, v19, ()) := by kernel_rfl
theorem r14_0_run (x : Bool × List Pt × Int × Int × Int × Int × List Int × Int × Int × Int × Int × Int × Int × Int × Int × Int × Int × Int × Int × Int × Unit) : roundK tC G14 (look [(52, W14_52)]) c14_0 p14_0 x = r14_0 x := r14_0_run0 x.1 x.2.1 x.2.2.1 x.2.2.2.1 x.2.2.2.2.1 x.2.2.2.2.2.1 x.2.2.2.2.2.2.1 x.2.2.2.2.2.2.2.1 x.2.2.2.2.2.2.2.2.1 x.2.2.2.2.2.2.2.2.2.1 x.2.2.2.2.2.2.2.2.2.2.1 x.2.2.2.2.2.2.2.2.2.2.2.1 x.2.2.2.2.2.2.2.2.2.2.2.2.1 x.2.2.2.2.2.2.2.2.2.2.2.2.2.1 x.2.2.2.2.2.2.2.2.2.2.2.2.2.2.1 x.2.2.2.2.2.2.2.2.2.2.2.2.2.2.2.1 x.2.2.2.2.2.2.2.2.2.2.2.2.2.2.2.2.1 x.2.2.2.2.2.2.2.2.2.2.2.2.2.2.2.2.2.1 x.2.2.2.2.2.2.2.2.2.2.2.2.2.2.2.2.2.2.1 x.2.2.2.2.2.2.2.2.2.2.2.2.2.2.2.2.2.2.2.1
noncomputable def l14_0 (x : Bool × List Pt × Int × Int × Int × Int × List Int × Int × Int × Int × Int × Int × Int × Int × Int × Int × Int × Int × Int × Int × Unit) : Option (Bool × Int × Int × Int × Int × Int × Int × Int × Int × Unit) := iterO r14_0 x
noncomputable def W14_0 : LF tC := loopW tC p14_0 0 l14_0
theorem W14_0_ok : keyed 0 (bodyOf Try.f14) = [.block 0 (.loop c14_0)] ∧ ∀ n, n ≤ 0 → Snd tC n (.block 0 (.loop c14_0)) W14_0.k := ⟨by kernel_rfl, fun n hn => loopW_ok (p := p14_0) (id := 0) Y14 (lam_le (lam_cons W14_52_ok lam_nil) n hn) hn r14_0_run⟩
def S14 : FS := ⟨[[.v, .v, .s 5], [.v, .v], [.v, .v, .v], [.v]], [⟨[.one (.agg [.int .i64, .int .i64, .imm 5]), .one (.agg [.int .i64, .int .i64]), .one (.agg [.int .i64, .int .i64, .int .i64]), vI], []⟩], [⟨[.tup [.agg [.int .i64, .int .i64], .agg [.int .i64, .int .i64], .one .bool]], []⟩], [[.v, .v], [.v, .v], [.v]], []⟩
noncomputable def f14 (x : Int × Int × List Int × Int × Int × Int × Int × Int × Int × Unit) : Option (Int × Int × Int × Int × Bool × Unit) :=
  (f30 (x.fst, x.snd.fst, x.snd.snd.fst, x.snd.snd.snd.fst, x.snd.snd.snd.snd.fst, ())).bind fun y190 =>
  bif !y190.fst then some ((0 : Int), (0 : Int), (0 : Int), (0 : Int), false, ())
  else
    (f12
          (x.snd.snd.snd.fst, x.snd.snd.snd.snd.fst, x.snd.snd.snd.snd.snd.fst, x.snd.snd.snd.snd.snd.snd.fst,
            x.snd.snd.snd.snd.snd.snd.snd.fst, (0 : Int), x.snd.snd.snd.snd.snd.snd.snd.snd.fst, ())).bind
      fun y189 =>
      bif y189.snd.fst != (0 : Int) then some ((0 : Int), (0 : Int), (0 : Int), (0 : Int), false, ())
      else
        (l14_0
              (false, y189.fst, (↑y189.fst.length : Int), (0 : Int), x.fst, x.snd.fst, x.snd.snd.fst, x.snd.snd.snd.fst,
                x.snd.snd.snd.snd.fst, x.snd.snd.snd.snd.snd.fst, x.snd.snd.snd.snd.snd.snd.fst, x.snd.snd.snd.snd.snd.snd.snd.fst,
                (0 : Int), (0 : Int), (0 : Int), (0 : Int), (0 : Int), (0 : Int), (0 : Int), (0 : Int), ())).bind
          fun y188 =>
          some
            (y188.snd.snd.snd.snd.snd.fst, y188.snd.snd.snd.snd.snd.snd.fst, y188.snd.snd.snd.snd.snd.snd.snd.fst,
              y188.snd.snd.snd.snd.snd.snd.snd.snd.fst, y188.fst, ())
noncomputable def F14 : CF tC := mkF tC S14 f14
theorem f14_run : ∀ a, fnS tC G14 (look [(0, W14_0)]) Try.f14 S14 a = f14 a := fun a => by kernel_rfl
theorem F14_ok : CFOK tC 14 F14 := mkF_ok Y14 (fn := Try.f14) (body := bodyOf Try.f14) (by kernel_rfl) (by kernel_rfl) (by kernel_rfl) (m := 0) rfl (lam_le (lam_cons W14_0_ok lam_nil)) f14_run

/-! heading.mark -/
noncomputable def G44 : FuncId → Option (CF tC) := look []
theorem Y44 : SysN tC G44 := (sys_nil tC_ok tC_eq)
def S44 : FS := ⟨[[.v]], [⟨[vI], []⟩], [⟨[vI], []⟩], [[.v]], []⟩
def f44 (n1 : Int) : Int :=
  bits BinOp.and IntKind.i64 n1 (255 : Int)
noncomputable def F44 : CF tC := mkF tC S44 (fun a => some ((f44 a.1), ()))
def h44 (r : Int) : Option (altTy tE S44.outs) := some (r, ())
theorem f44_run : ∀ a, fnS tC G44 (look []) Try.f44 S44 a = (fun a => some ((f44 a.1), ())) a := fun a => by
  have key : ∀ (n1 : Int), (h44 (bits BinOp.and IntKind.i64 n1 (255 : Int))) = h44 (f44 n1) := by
    intros
    unfold f44
    repeat' first | rfl | refine cond_h (g := h44) ?_ ?_
  exact Eq.trans (by kernel_rfl) (key a.1)
theorem F44_ok : CFOK tC 44 F44 := mkF_ok Y44 (fn := Try.f44) (body := bodyOf Try.f44) (by kernel_rfl) (by kernel_rfl) (by kernel_rfl) (m := 0) rfl (lam_le lam_nil) f44_run

/-! heading.lowest -/
noncomputable def G43 : FuncId → Option (CF tC) := look []
theorem Y43 : SysN tC G43 := (sys_nil tC_ok tC_eq)
noncomputable def c43_6 : Code := loopOf (loopOf (bodyOf Try.f43) 0) 2
def p43_6 : LS := ⟨0, [0, 1, 2, 6, 7, 9, 13, 14], ⟨[vI, vI, vI, vB, vB, vB, .one (.one (.ptr 0 0 0)), vI, vB, vI, vB, vB, vB, .one (.agg [.int .i64, .int .i64]), vI] ++ vBs 23, [.box [.int .i64, .int .i64, .int .i64]]⟩, [⟨.exit 2, [0, 1, 2, 6, 7, 13, 14], ⟨[vI, vI, vI, vB, vB, vB, .one (.one (.ptr 0 0 0)), vI] ++ vBs 5 ++ [.one (.agg [.int .i64, .int .i64]), vI] ++ vBs 23, [.box [.int .i64, .int .i64, .int .i64]]⟩, []⟩], []⟩
noncomputable def r43_6 (x : Int × Int × Int × Int × Int × Int × Int × Int × Int × Int × Int × Unit) : Option
  (Int × Int × Int × Int × Int × Int × Int × Int × Int × Int × Int × Unit ⊕
    Int × Int × Int × Int × Int × Int × Int × Int × Int × Int × Unit) :=
  bif x.snd.snd.snd.snd.fst != (0 : Int) then
  bif x.snd.snd.snd.snd.fst == (0 : Int) then none
  else
    some
      (Sum.inl
        (x.fst, x.snd.fst, x.snd.snd.fst, x.snd.snd.snd.snd.fst, x.snd.snd.snd.fst.tmod x.snd.snd.snd.snd.fst, x.snd.snd.snd.snd.snd.fst,
          x.snd.snd.snd.snd.snd.snd.fst, x.snd.snd.snd.snd.snd.snd.snd.fst, x.snd.snd.snd.snd.snd.snd.snd.snd.fst,
          x.snd.snd.snd.snd.snd.snd.snd.snd.snd.fst, x.snd.snd.snd.snd.snd.snd.snd.snd.snd.snd.fst, ()))
else
  some
    (Sum.inr
      (x.fst, x.snd.fst, x.snd.snd.fst, x.snd.snd.snd.fst, x.snd.snd.snd.snd.snd.fst, x.snd.snd.snd.snd.snd.snd.fst,
        x.snd.snd.snd.snd.snd.snd.snd.fst, x.snd.snd.snd.snd.snd.snd.snd.snd.fst, x.snd.snd.snd.snd.snd.snd.snd.snd.snd.fst,
        x.snd.snd.snd.snd.snd.snd.snd.snd.snd.snd.fst, ()))
theorem r43_6_run0 (v0 : Int) (v1 : Int) (v2 : Int) (v3 : Int) (v4 : Int) (v5 : Int) (v6 : Int) (v7 : Int) (v8 : Int) (v9 : Int) (v10 : Int) : roundK tC G43 (look []) c43_6 p43_6 (v0, v1, v2, v3, v4, v5, v6, v7, v8, v9, v10, ()) = r43_6 (v0, v1, v2, v3, v4, v5, v6, v7, v8, v9, v10, ()) := by kernel_rfl
theorem r43_6_run (x : Int × Int × Int × Int × Int × Int × Int × Int × Int × Int × Int × Unit) : roundK tC G43 (look []) c43_6 p43_6 x = r43_6 x := r43_6_run0 x.1 x.2.1 x.2.2.1 x.2.2.2.1 x.2.2.2.2.1 x.2.2.2.2.2.1 x.2.2.2.2.2.2.1 x.2.2.2.2.2.2.2.1 x.2.2.2.2.2.2.2.2.1 x.2.2.2.2.2.2.2.2.2.1 x.2.2.2.2.2.2.2.2.2.2.1
noncomputable def l43_6 (x : Int × Int × Int × Int × Int × Int × Int × Int × Int × Int × Int × Unit) : Option (Int × Int × Int × Int × Int × Int × Int × Int × Int × Int × Unit) := iterO r43_6 x
noncomputable def W43_6 : LF tC := loopW tC p43_6 2 l43_6
theorem W43_6_ok : keyed 6 (loopOf (bodyOf Try.f43) 0) = [.block 2 (.loop c43_6)] ∧ ∀ n, n ≤ 0 → Snd tC n (.block 2 (.loop c43_6)) W43_6.k := ⟨by kernel_rfl, fun n hn => loopW_ok (p := p43_6) (id := 2) Y43 (lam_le lam_nil n hn) hn r43_6_run⟩
noncomputable def c43_0 : Code := loopOf (bodyOf Try.f43) 0
def p43_0 : LS := ⟨0, [0, 1, 2, 6, 7, 13, 14], ⟨[vI, vI, vI, vB, vB, vB, .one (.one (.ptr 0 0 0)), vI] ++ vBs 5 ++ [.one (.agg [.int .i64, .int .i64]), vI] ++ vBs 23, [.box [.int .i64, .int .i64, .int .i64]]⟩, [⟨.exit 0, [0, 1, 2, 6, 7], ⟨[vI, vI, vI, vB, vB, vB, .one (.one (.ptr 0 0 0)), vI] ++ vBs 30, [.box [.int .i64, .int .i64, .int .i64]]⟩, []⟩], []⟩
noncomputable def r43_0 (x : Int × Int × Int × Int × Int × Int × Int × Int × Int × Int × Unit) : Option (Int × Int × Int × Int × Int × Int × Int × Int × Int × Int × Unit ⊕ Int × Int × Int × Int × Int × Int × Int × Unit) :=
  bif decide (x.snd.snd.snd.snd.snd.snd.fst < (2 : Int)) then
  bif decide ((0 : Int) ≤ x.snd.snd.snd.snd.snd.snd.fst) && decide (x.snd.snd.snd.snd.snd.snd.fst < (2 : Int)) then
    (idxO [x.snd.snd.snd.snd.fst, x.snd.snd.snd.snd.snd.fst] x.snd.snd.snd.snd.snd.snd.fst).bind fun y54 =>
      (l43_6
            (x.fst, x.snd.fst, x.snd.snd.fst, x.snd.snd.snd.fst,
              bif decide (IntKind.i64.wrap ((0 : Int) - y54) > y54) then IntKind.i64.wrap ((0 : Int) - y54) else y54, x.snd.snd.snd.snd.fst,
              x.snd.snd.snd.snd.snd.fst, x.snd.snd.snd.snd.snd.snd.fst, x.snd.snd.snd.snd.snd.snd.snd.fst,
              x.snd.snd.snd.snd.snd.snd.snd.snd.fst, x.snd.snd.snd.snd.snd.snd.snd.snd.snd.fst, ())).bind
        fun y53 =>
        some
          (Sum.inl
            (y53.fst, y53.snd.fst, y53.snd.snd.fst, y53.snd.snd.snd.fst, y53.snd.snd.snd.snd.fst, y53.snd.snd.snd.snd.snd.fst,
              IntKind.i64.wrap (y53.snd.snd.snd.snd.snd.snd.fst + (1 : Int)), y53.snd.snd.snd.snd.snd.snd.snd.fst,
              y53.snd.snd.snd.snd.snd.snd.snd.snd.fst, y53.snd.snd.snd.snd.snd.snd.snd.snd.snd.fst, ()))
  else none
else
  some
    (Sum.inr
      (x.fst, x.snd.fst, x.snd.snd.fst, x.snd.snd.snd.fst, x.snd.snd.snd.snd.snd.snd.snd.fst, x.snd.snd.snd.snd.snd.snd.snd.snd.fst,
        x.snd.snd.snd.snd.snd.snd.snd.snd.snd.fst, ()))
theorem r43_0_run0 (v0 : Int) (v1 : Int) (v2 : Int) (v3 : Int) (v4 : Int) (v5 : Int) (v6 : Int) (v7 : Int) (v8 : Int) (v9 : Int) : roundK tC G43 (look [(6, W43_6)]) c43_0 p43_0 (v0, v1, v2, v3, v4, v5, v6, v7, v8, v9, ()) = r43_0 (v0, v1, v2, v3, v4, v5, v6, v7, v8, v9, ()) := by kernel_rfl
theorem r43_0_run (x : Int × Int × Int × Int × Int × Int × Int × Int × Int × Int × Unit) : roundK tC G43 (look [(6, W43_6)]) c43_0 p43_0 x = r43_0 x := r43_0_run0 x.1 x.2.1 x.2.2.1 x.2.2.2.1 x.2.2.2.2.1 x.2.2.2.2.2.1 x.2.2.2.2.2.2.1 x.2.2.2.2.2.2.2.1 x.2.2.2.2.2.2.2.2.1 x.2.2.2.2.2.2.2.2.2.1
noncomputable def l43_0 (x : Int × Int × Int × Int × Int × Int × Int × Int × Int × Int × Unit) : Option (Int × Int × Int × Int × Int × Int × Int × Unit) := iterO r43_0 x
noncomputable def W43_0 : LF tC := loopW tC p43_0 0 l43_0
theorem W43_0_ok : keyed 0 (bodyOf Try.f43) = [.block 0 (.loop c43_0)] ∧ ∀ n, n ≤ 0 → Snd tC n (.block 0 (.loop c43_0)) W43_0.k := ⟨by kernel_rfl, fun n hn => loopW_ok (p := p43_0) (id := 0) Y43 (lam_le (lam_cons W43_6_ok lam_nil) n hn) hn r43_0_run⟩
def S43 : FS := ⟨[[.v], [.v], [.v]], [⟨[vI, vI, vI], []⟩], [⟨[.one (.agg [.int .i64, .int .i64, .int .i64])], []⟩], [[.v, .v, .v]], []⟩
noncomputable def f43 (x : Int × Int × Int × Unit) : Option (Int × Int × Int × Unit) :=
  (l43_0 (x.fst, x.snd.fst, x.snd.snd.fst, x.snd.snd.fst, x.fst, x.snd.fst, (0 : Int), (0 : Int), (0 : Int), (0 : Int), ())).bind fun y65 =>
  bif y65.snd.snd.snd.fst == (0 : Int) then none
  else
    bif y65.snd.snd.snd.fst == (0 : Int) then none
    else
      bif y65.snd.snd.snd.fst == (0 : Int) then none
      else
        some
          (IntKind.i64.wrap (y65.fst.tdiv y65.snd.snd.snd.fst), IntKind.i64.wrap (y65.snd.fst.tdiv y65.snd.snd.snd.fst),
            IntKind.i64.wrap (y65.snd.snd.fst.tdiv y65.snd.snd.snd.fst), ())
noncomputable def F43 : CF tC := mkF tC S43 f43
theorem f43_run : ∀ a, fnS tC G43 (look [(0, W43_0)]) Try.f43 S43 a = f43 a := fun a => by kernel_rfl
theorem F43_ok : CFOK tC 43 F43 := mkF_ok Y43 (fn := Try.f43) (body := bodyOf Try.f43) (by kernel_rfl) (by kernel_rfl) (by kernel_rfl) (m := 0) rfl (lam_le (lam_cons W43_0_ok lam_nil)) f43_run

/-! heading.Dir -/
noncomputable def G24 : FuncId → Option (CF tC) := look [(44, F44), (43, F43)]
theorem Y24 : SysN tC G24 := (sys_cons F44_ok (mkF_nat _ _) (sys_cons F43_ok (mkF_nat _ _) (sys_nil tC_ok tC_eq)))
noncomputable def c24_0 : Code := loopOf (bodyOf Try.f24) 0
def p24_0 : LS := ⟨0, [2, 4, 21, 22], ⟨[vB, vB, .one (.one (.ptr 0 0 0)), vB, .one (.one (.ptr 1 0 0))] ++ vBs 16 ++ [vI, vI] ++ vBs 10, [.box [.int .i64, .int .i64, .int .i64], .box [.int .i64, .int .i64, .int .i64]]⟩, [⟨.exit 0, [2, 4], ⟨[vB, vB, .one (.one (.ptr 0 0 0)), vB, .one (.one (.ptr 1 0 0))] ++ vBs 28, [.box [.int .i64, .int .i64, .int .i64], .box [.int .i64, .int .i64, .int .i64]]⟩, []⟩], []⟩
noncomputable def r24_0 (x : Int × Int × Int × Int × Int × Int × Int × Int × Unit) : Option (Int × Int × Int × Int × Int × Int × Int × Int × Unit ⊕ Int × Int × Int × Int × Int × Int × Unit) :=
  bif decide (x.snd.fst < x.fst) then
  some
    (Sum.inl
      (x.fst, IntKind.i64.wrap (x.snd.fst + (1 : Int)), x.snd.snd.fst, x.snd.snd.snd.fst, x.snd.snd.snd.snd.fst,
        IntKind.i64.wrap ((0 : Int) - x.snd.snd.snd.snd.snd.snd.fst), x.snd.snd.snd.snd.snd.fst, x.snd.snd.snd.snd.snd.snd.snd.fst, ()))
else
  some
    (Sum.inr
      (x.snd.snd.fst, x.snd.snd.snd.fst, x.snd.snd.snd.snd.fst, x.snd.snd.snd.snd.snd.fst, x.snd.snd.snd.snd.snd.snd.fst,
        x.snd.snd.snd.snd.snd.snd.snd.fst, ()))
theorem r24_0_run0 (v0 : Int) (v1 : Int) (v2 : Int) (v3 : Int) (v4 : Int) (v5 : Int) (v6 : Int) (v7 : Int) : roundK tC G24 (look []) c24_0 p24_0 (v0, v1, v2, v3, v4, v5, v6, v7, ()) = r24_0 (v0, v1, v2, v3, v4, v5, v6, v7, ()) := by kernel_rfl
theorem r24_0_run (x : Int × Int × Int × Int × Int × Int × Int × Int × Unit) : roundK tC G24 (look []) c24_0 p24_0 x = r24_0 x := r24_0_run0 x.1 x.2.1 x.2.2.1 x.2.2.2.1 x.2.2.2.2.1 x.2.2.2.2.2.1 x.2.2.2.2.2.2.1 x.2.2.2.2.2.2.2.1
noncomputable def l24_0 (x : Int × Int × Int × Int × Int × Int × Int × Int × Unit) : Option (Int × Int × Int × Int × Int × Int × Unit) := iterO r24_0 x
noncomputable def W24_0 : LF tC := loopW tC p24_0 0 l24_0
theorem W24_0_ok : keyed 0 (bodyOf Try.f24) = [.block 0 (.loop c24_0)] ∧ ∀ n, n ≤ 0 → Snd tC n (.block 0 (.loop c24_0)) W24_0.k := ⟨by kernel_rfl, fun n hn => loopW_ok (p := p24_0) (id := 0) Y24 (lam_le lam_nil n hn) hn r24_0_run⟩
def S24 : FS := ⟨[[.v]], [⟨[vI], []⟩], [⟨[.one (.agg [.int .i64, .int .i64, .int .i64])], []⟩], [[.v, .v, .v]], []⟩
noncomputable def f24 (x : Int × Unit) : Option (Int × Int × Int × Unit) :=
  (f43
      (IntKind.i64.wrap ((4096 : Int) - IntKind.i64.wrap ((f44 x.fst).tmod (64 : Int) * (f44 x.fst).tmod (64 : Int))),
        IntKind.i64.wrap ((128 : Int) * (f44 x.fst).tmod (64 : Int)),
        IntKind.i64.wrap ((4096 : Int) + IntKind.i64.wrap ((f44 x.fst).tmod (64 : Int) * (f44 x.fst).tmod (64 : Int))), ())).bind
  fun y29 =>
  (l24_0
        (IntKind.i64.wrap ((f44 x.fst).tdiv (64 : Int)), (0 : Int), (0 : Int), (0 : Int), (0 : Int), y29.fst, y29.snd.fst, y29.snd.snd.fst,
          ())).bind
    fun y28 => some (y28.snd.snd.snd.fst, y28.snd.snd.snd.snd.fst, y28.snd.snd.snd.snd.snd.fst, ())
noncomputable def F24 : CF tC := mkF tC S24 f24
theorem f24_run : ∀ a, fnS tC G24 (look [(0, W24_0)]) Try.f24 S24 a = f24 a := fun a => by kernel_rfl
theorem F24_ok : CFOK tC 24 F24 := mkF_ok Y24 (fn := Try.f24) (body := bodyOf Try.f24) (by kernel_rfl) (by kernel_rfl) (by kernel_rfl) (m := 0) rfl (lam_le (lam_cons W24_0_ok lam_nil)) f24_run

/-! heading.Valid -/
noncomputable def G42 : FuncId → Option (CF tC) := look []
theorem Y42 : SysN tC G42 := (sys_nil tC_ok tC_eq)
def S42 : FS := ⟨[[.v, .v, .v]], [⟨[.one (.agg [.int .i64, .int .i64, .int .i64])], []⟩], [⟨[vO], []⟩], [[.v]], []⟩
def f42 (n1 : Int) (n2 : Int) (n3 : Int) : Bool :=
  bif decide (n3 < (1 : Int)) then false
else
  bif decide (n3 > (67108864 : Int)) then false
  else
    bif decide (n1 < IntKind.i64.wrap ((0 : Int) - n3)) then false
    else
      bif decide (n1 > n3) then false
      else
        bif decide (n2 < IntKind.i64.wrap ((0 : Int) - n3)) then false
        else
          bif decide (n2 > n3) then false
          else IntKind.i64.wrap (IntKind.i64.wrap (n1 * n1) + IntKind.i64.wrap (n2 * n2)) == IntKind.i64.wrap (n3 * n3)
noncomputable def F42 : CF tC := mkF tC S42 (fun a => some ((f42 a.1 a.2.1 a.2.2.1), ()))
def h42 (r : Bool) : Option (altTy tE S42.outs) := some (r, ())
theorem f42_run : ∀ a, fnS tC G42 (look []) Try.f42 S42 a = (fun a => some ((f42 a.1 a.2.1 a.2.2.1), ())) a := fun a => by
  have key : ∀ (n1 : Int) (n2 : Int) (n3 : Int), (bif decide (n3 < (1 : Int)) then h42 false
else
  bif decide (n3 > (67108864 : Int)) then h42 false
  else
    bif decide (n1 < IntKind.i64.wrap ((0 : Int) - n3)) then h42 false
    else
      bif decide (n1 > n3) then h42 false
      else
        bif decide (n2 < IntKind.i64.wrap ((0 : Int) - n3)) then h42 false
        else
          bif decide (n2 > n3) then h42 false
          else h42 (IntKind.i64.wrap (IntKind.i64.wrap (n1 * n1) + IntKind.i64.wrap (n2 * n2)) == IntKind.i64.wrap (n3 * n3))) = h42 (f42 n1 n2 n3) := by
    intros
    unfold f42
    repeat' first | rfl | refine cond_h (g := h42) ?_ ?_
  exact Eq.trans (by kernel_rfl) (key a.1 a.2.1 a.2.2.1)
theorem F42_ok : CFOK tC 42 F42 := mkF_ok Y42 (fn := Try.f42) (body := bodyOf Try.f42) (by kernel_rfl) (by kernel_rfl) (by kernel_rfl) (m := 0) rfl (lam_le lam_nil) f42_run

/-! heading.Turn -/
noncomputable def G23 : FuncId → Option (CF tC) := look [(42, F42), (43, F43)]
theorem Y23 : SysN tC G23 := (sys_cons F42_ok (mkF_nat _ _) (sys_cons F43_ok (mkF_nat _ _) (sys_nil tC_ok tC_eq)))
def S23 : FS := ⟨[[.v, .v, .v], [.v, .v, .v]], [⟨[.one (.agg [.int .i64, .int .i64, .int .i64]), .one (.agg [.int .i64, .int .i64, .int .i64])], []⟩], [⟨[.tup [.agg [.int .i64, .int .i64, .int .i64], .one (.int .i64)]], []⟩], [[.v, .v, .v], [.v]], []⟩
noncomputable def f23 (x : Int × Int × Int × Int × Int × Int × Unit) : Option (Int × Int × Int × Int × Unit) :=
  bif !f42 x.fst x.snd.fst x.snd.snd.fst then some ((0 : Int), (0 : Int), (0 : Int), (1 : Int), ())
else
  bif !f42 x.snd.snd.snd.fst x.snd.snd.snd.snd.fst x.snd.snd.snd.snd.snd.fst then some ((0 : Int), (0 : Int), (0 : Int), (1 : Int), ())
  else
    (f43
          (IntKind.i64.wrap (IntKind.i64.wrap (x.fst * x.snd.snd.snd.fst) - IntKind.i64.wrap (x.snd.fst * x.snd.snd.snd.snd.fst)),
            IntKind.i64.wrap (IntKind.i64.wrap (x.fst * x.snd.snd.snd.snd.fst) + IntKind.i64.wrap (x.snd.fst * x.snd.snd.snd.fst)),
            IntKind.i64.wrap (x.snd.snd.fst * x.snd.snd.snd.snd.snd.fst), ())).bind
      fun y14 =>
      bif decide (y14.snd.snd.fst > (67108864 : Int)) then some ((0 : Int), (0 : Int), (0 : Int), (2 : Int), ())
      else some (y14.fst, y14.snd.fst, y14.snd.snd.fst, (0 : Int), ())
noncomputable def F23 : CF tC := mkF tC S23 f23
theorem f23_run : ∀ a, fnS tC G23 (look []) Try.f23 S23 a = f23 a := fun a => by kernel_rfl
theorem F23_ok : CFOK tC 23 F23 := mkF_ok Y23 (fn := Try.f23) (body := bodyOf Try.f23) (by kernel_rfl) (by kernel_rfl) (by kernel_rfl) (m := 0) rfl (lam_le lam_nil) f23_run

/-! heading.Beam -/
noncomputable def G11 : FuncId → Option (CF tC) := look [(24, F24), (23, F23)]
theorem Y11 : SysN tC G11 := (sys_cons F24_ok (mkF_nat _ _) (sys_cons F23_ok (mkF_nat _ _) (sys_nil tC_ok tC_eq)))
def S11 : FS := ⟨[[.v], [.v]], [⟨[vI, vI], []⟩], [⟨[.one (.agg [.int .i64, .int .i64, .int .i64])], []⟩], [[.v, .v, .v]], []⟩
noncomputable def f11 (x : Int × Int × Unit) : Option (Int × Int × Int × Unit) :=
  (f24 (x.fst, ())).bind fun y18 =>
  (f24 (x.snd.fst, ())).bind fun y17 =>
    (f23 (y18.fst, y18.snd.fst, y18.snd.snd.fst, y17.fst, y17.snd.fst, y17.snd.snd.fst, ())).bind fun y16 =>
      some (y16.fst, y16.snd.fst, y16.snd.snd.fst, ())
noncomputable def F11 : CF tC := mkF tC S11 f11
theorem f11_run : ∀ a, fnS tC G11 (look []) Try.f11 S11 a = f11 a := fun a => by kernel_rfl
theorem F11_ok : CFOK tC 11 F11 := mkF_ok Y11 (fn := Try.f11) (body := bodyOf Try.f11) (by kernel_rfl) (by kernel_rfl) (by kernel_rfl) (m := 0) rfl (lam_le lam_nil) f11_run

/-! ray.look -/
noncomputable def G21 : FuncId → Option (CF tC) := look [(11, F11), (14, F14)]
theorem Y21 : SysN tC G21 := (sys_cons F11_ok (mkF_nat _ _) (sys_cons F14_ok (mkF_nat _ _) (sys_nil tC_ok tC_eq)))
def S21 : FS := ⟨[[.v, .v, .s 5], [.v, .v, .v], [.v], [.v]], [⟨[.one (.agg [.int .i64, .int .i64, .imm 5]), .one (.agg [.int .i64, .int .i64, .int .i64]), vI, vI], []⟩], [⟨[.tup [.agg [.int .i64, .int .i64], .one .bool]], []⟩], [[.v, .v], [.v]], []⟩
noncomputable def f21 (x : Int × Int × List Int × Int × Int × Int × Int × Int × Unit) : Option (Int × Int × Bool × Unit) :=
  (f11 (x.snd.snd.snd.snd.snd.fst, x.snd.snd.snd.snd.snd.snd.fst, ())).bind fun y21 =>
  (f14
        (x.fst, x.snd.fst, x.snd.snd.fst, x.snd.snd.snd.fst, x.snd.snd.snd.snd.fst, y21.fst, y21.snd.fst, y21.snd.snd.fst,
          x.snd.snd.snd.snd.snd.snd.snd.fst, ())).bind
    fun y20 => some (y20.fst, y20.snd.fst, y20.snd.snd.snd.snd.fst, ())
noncomputable def F21 : CF tC := mkF tC S21 f21
theorem f21_run : ∀ a, fnS tC G21 (look []) Try.f21 S21 a = f21 a := fun a => by kernel_rfl
theorem F21_ok : CFOK tC 21 F21 := mkF_ok Y21 (fn := Try.f21) (body := bodyOf Try.f21) (by kernel_rfl) (by kernel_rfl) (by kernel_rfl) (m := 0) rfl (lam_le lam_nil) f21_run

/-! ray.Measure -/
noncomputable def G9 : FuncId → Option (CF tC) := look [(19, F19), (20, F20), (21, F21)]
theorem Y9 : SysN tC G9 := (sys_cons F19_ok (mkF_nat _ _) (sys_cons F20_ok (mkF_nat _ _) (sys_cons F21_ok (mkF_nat _ _) (sys_nil tC_ok tC_eq))))
noncomputable def c9_34 : Code := subCode (bodyOf Try.f9) 34
def p9_34 : PS := ⟨0, [14], ⟨vBs 14 ++ [vI] ++ vBs 39, []⟩, [⟨.ret, [10, 11], ⟨vBs 10 ++ [vI, vI] ++ vBs 42, []⟩, []⟩], []⟩
noncomputable def j9_34 (x : Int × Unit) : Option (Int × Int × Unit) :=
  some (x.fst, (0 : Int), ())
theorem j9_34_run0 (v0 : Int) : pieceK tC G9 (look []) c9_34 p9_34 (v0, ()) = j9_34 (v0, ()) := by kernel_rfl
theorem j9_34_run (x : Int × Unit) : pieceK tC G9 (look []) c9_34 p9_34 x = j9_34 x := j9_34_run0 x.1
noncomputable def W9_34 : LF tC := cutLF tC p9_34 j9_34
theorem W9_34_ok : keyed 34 (bodyOf Try.f9) = [c9_34] ∧ ∀ n, n ≤ 0 → Snd tC n c9_34 W9_34.k := ⟨by kernel_rfl, fun n hn => cut_ok (p := p9_34) Y9 (lam_le lam_nil n hn) hn j9_34_run⟩
def S9 : FS := ⟨[[.v, .v, .s 5], [.v, .v, .v], [.v], [.v], [.v]], [⟨[.one (.agg [.int .i64, .int .i64, .imm 5]), .one (.agg [.int .i64, .int .i64, .int .i64]), vI, vI, vI], []⟩], [⟨[.tup [.one (.int .i64), .one (.int .i64)]], []⟩], [[.v], [.v]], []⟩
noncomputable def f9 (x : Int × Int × List Int × Int × Int × Int × Int × Int × Int × Unit) : Option (Int × Int × Unit) :=
  (f19 (x.fst, x.snd.fst, x.snd.snd.fst, x.snd.snd.snd.fst, x.snd.snd.snd.snd.fst, x.snd.snd.snd.snd.snd.fst, ())).bind fun y26 =>
  bif !y26.fst then some ((0 : Int), (1 : Int), ())
  else
    bif !f20 x.snd.snd.snd.snd.snd.snd.snd.fst (1 : Int) (32 : Int) then some ((0 : Int), (2 : Int), ())
    else
      bif !f20 x.snd.snd.snd.snd.snd.snd.fst (0 : Int) (255 : Int) then some ((0 : Int), (2 : Int), ())
      else
        (f21
              (x.fst, x.snd.fst, x.snd.snd.fst, x.snd.snd.snd.fst, x.snd.snd.snd.snd.fst, x.snd.snd.snd.snd.snd.fst,
                x.snd.snd.snd.snd.snd.snd.fst, (1024 : Int), ())).bind
          fun y25 =>
          bif !y25.snd.snd.fst then some ((-1 : Int), (0 : Int), ())
          else
            bif y25.snd.fst == (0 : Int) then none
            else
              bif
                  decide
                    ((bif
                          decide
                            ((0 : Int) >
                              IntKind.i64.wrap
                                (IntKind.i64.wrap (y25.fst.tdiv y25.snd.fst) +
                                  bif
                                      decide
                                        (x.snd.snd.snd.snd.snd.snd.snd.fst <
                                          bif
                                              decide
                                                (IntKind.i64.wrap ((1 : Int) - x.snd.snd.snd.snd.snd.snd.snd.fst) >
                                                  x.snd.snd.snd.snd.snd.snd.snd.snd.fst) then
                                            IntKind.i64.wrap ((1 : Int) - x.snd.snd.snd.snd.snd.snd.snd.fst)
                                          else x.snd.snd.snd.snd.snd.snd.snd.snd.fst) then
                                    x.snd.snd.snd.snd.snd.snd.snd.fst
                                  else
                                    bif
                                        decide
                                          (IntKind.i64.wrap ((1 : Int) - x.snd.snd.snd.snd.snd.snd.snd.fst) >
                                            x.snd.snd.snd.snd.snd.snd.snd.snd.fst) then
                                      IntKind.i64.wrap ((1 : Int) - x.snd.snd.snd.snd.snd.snd.snd.fst)
                                    else x.snd.snd.snd.snd.snd.snd.snd.snd.fst)) then
                        (0 : Int)
                      else
                        IntKind.i64.wrap
                          (IntKind.i64.wrap (y25.fst.tdiv y25.snd.fst) +
                            bif
                                decide
                                  (x.snd.snd.snd.snd.snd.snd.snd.fst <
                                    bif
                                        decide
                                          (IntKind.i64.wrap ((1 : Int) - x.snd.snd.snd.snd.snd.snd.snd.fst) >
                                            x.snd.snd.snd.snd.snd.snd.snd.snd.fst) then
                                      IntKind.i64.wrap ((1 : Int) - x.snd.snd.snd.snd.snd.snd.snd.fst)
                                    else x.snd.snd.snd.snd.snd.snd.snd.snd.fst) then
                              x.snd.snd.snd.snd.snd.snd.snd.fst
                            else
                              bif
                                  decide
                                    (IntKind.i64.wrap ((1 : Int) - x.snd.snd.snd.snd.snd.snd.snd.fst) >
                                      x.snd.snd.snd.snd.snd.snd.snd.snd.fst) then
                                IntKind.i64.wrap ((1 : Int) - x.snd.snd.snd.snd.snd.snd.snd.fst)
                              else x.snd.snd.snd.snd.snd.snd.snd.snd.fst)) >
                      (1024 : Int)) then
                (j9_34 ((-1 : Int), ())).bind fun y23 => some (y23.fst, y23.snd.fst, ())
              else
                (j9_34
                      (bif
                            decide
                              ((0 : Int) >
                                IntKind.i64.wrap
                                  (IntKind.i64.wrap (y25.fst.tdiv y25.snd.fst) +
                                    bif
                                        decide
                                          (x.snd.snd.snd.snd.snd.snd.snd.fst <
                                            bif
                                                decide
                                                  (IntKind.i64.wrap ((1 : Int) - x.snd.snd.snd.snd.snd.snd.snd.fst) >
                                                    x.snd.snd.snd.snd.snd.snd.snd.snd.fst) then
                                              IntKind.i64.wrap ((1 : Int) - x.snd.snd.snd.snd.snd.snd.snd.fst)
                                            else x.snd.snd.snd.snd.snd.snd.snd.snd.fst) then
                                      x.snd.snd.snd.snd.snd.snd.snd.fst
                                    else
                                      bif
                                          decide
                                            (IntKind.i64.wrap ((1 : Int) - x.snd.snd.snd.snd.snd.snd.snd.fst) >
                                              x.snd.snd.snd.snd.snd.snd.snd.snd.fst) then
                                        IntKind.i64.wrap ((1 : Int) - x.snd.snd.snd.snd.snd.snd.snd.fst)
                                      else x.snd.snd.snd.snd.snd.snd.snd.snd.fst)) then
                          (0 : Int)
                        else
                          IntKind.i64.wrap
                            (IntKind.i64.wrap (y25.fst.tdiv y25.snd.fst) +
                              bif
                                  decide
                                    (x.snd.snd.snd.snd.snd.snd.snd.fst <
                                      bif
                                          decide
                                            (IntKind.i64.wrap ((1 : Int) - x.snd.snd.snd.snd.snd.snd.snd.fst) >
                                              x.snd.snd.snd.snd.snd.snd.snd.snd.fst) then
                                        IntKind.i64.wrap ((1 : Int) - x.snd.snd.snd.snd.snd.snd.snd.fst)
                                      else x.snd.snd.snd.snd.snd.snd.snd.snd.fst) then
                                x.snd.snd.snd.snd.snd.snd.snd.fst
                              else
                                bif
                                    decide
                                      (IntKind.i64.wrap ((1 : Int) - x.snd.snd.snd.snd.snd.snd.snd.fst) >
                                        x.snd.snd.snd.snd.snd.snd.snd.snd.fst) then
                                  IntKind.i64.wrap ((1 : Int) - x.snd.snd.snd.snd.snd.snd.snd.fst)
                                else x.snd.snd.snd.snd.snd.snd.snd.snd.fst),
                        ())).bind
                  fun y24 => some (y24.fst, y24.snd.fst, ())
noncomputable def F9 : CF tC := mkF tC S9 f9
theorem f9_run : ∀ a, fnS tC G9 (look [(34, W9_34)]) Try.f9 S9 a = f9 a := fun a => by kernel_rfl
theorem F9_ok : CFOK tC 9 F9 := mkF_ok Y9 (fn := Try.f9) (body := bodyOf Try.f9) (by kernel_rfl) (by kernel_rfl) (by kernel_rfl) (m := 0) rfl (lam_le (lam_cons W9_34_ok lam_nil)) f9_run

/-! ray.validBeam -/
noncomputable def G22 : FuncId → Option (CF tC) := look [(20, F20)]
theorem Y22 : SysN tC G22 := (sys_cons F20_ok (mkF_nat _ _) (sys_nil tC_ok tC_eq))
def S22 : FS := ⟨[[.v, .v]], [⟨[.one (.agg [.int .i64, .int .i64])], []⟩], [⟨[vO], []⟩], [[.v]], []⟩
def f22 (n1 : Int) (n2 : Int) : Bool :=
  bif f20 n1 (0 : Int) (255 : Int) then f20 n2 (-1 : Int) (1024 : Int) else false
noncomputable def F22 : CF tC := mkF tC S22 (fun a => some ((f22 a.1 a.2.1), ()))
def h22 (r : Bool) : Option (altTy tE S22.outs) := some (r, ())
theorem f22_run : ∀ a, fnS tC G22 (look []) Try.f22 S22 a = (fun a => some ((f22 a.1 a.2.1), ())) a := fun a => by
  have key : ∀ (n1 : Int) (n2 : Int), (bif f20 n1 (0 : Int) (255 : Int) then h22 (f20 n2 (-1 : Int) (1024 : Int)) else h22 false) = h22 (f22 n1 n2) := by
    intros
    unfold f22
    repeat' first | rfl | refine cond_h (g := h22) ?_ ?_
  exact Eq.trans (by kernel_rfl) (key a.1 a.2.1)
theorem F22_ok : CFOK tC 22 F22 := mkF_ok Y22 (fn := Try.f22) (body := bodyOf Try.f22) (by kernel_rfl) (by kernel_rfl) (by kernel_rfl) (m := 0) rfl (lam_le lam_nil) f22_run

/-! ray.Plausible -/
noncomputable def G10 : FuncId → Option (CF tC) := look [(19, F19), (22, F22), (20, F20), (21, F21)]
theorem Y10 : SysN tC G10 := (sys_cons F19_ok (mkF_nat _ _) (sys_cons F22_ok (mkF_nat _ _) (sys_cons F20_ok (mkF_nat _ _) (sys_cons F21_ok (mkF_nat _ _) (sys_nil tC_ok tC_eq)))))
def S10 : FS := ⟨[[.v, .v, .s 5], [.v, .v, .v], [.v, .v], [.v]], [⟨[.one (.agg [.int .i64, .int .i64, .imm 5]), .one (.agg [.int .i64, .int .i64, .int .i64]), .one (.agg [.int .i64, .int .i64]), vI], []⟩], [⟨[vO], []⟩], [[.v]], []⟩
noncomputable def f10 (x : Int × Int × List Int × Int × Int × Int × Int × Int × Int × Unit) : Option (Bool × Unit) :=
  (f19 (x.fst, x.snd.fst, x.snd.snd.fst, x.snd.snd.snd.fst, x.snd.snd.snd.snd.fst, x.snd.snd.snd.snd.snd.fst, ())).bind fun y20 =>
  bif !y20.fst then some (false, ())
  else
    bif !f22 x.snd.snd.snd.snd.snd.snd.fst x.snd.snd.snd.snd.snd.snd.snd.fst then some (false, ())
    else
      bif !f20 x.snd.snd.snd.snd.snd.snd.snd.snd.fst (1 : Int) (32 : Int) then some (false, ())
      else
        bif x.snd.snd.snd.snd.snd.snd.snd.fst == (-1 : Int) then
          (f21
                (x.fst, x.snd.fst, x.snd.snd.fst, x.snd.snd.snd.fst, x.snd.snd.snd.snd.fst, x.snd.snd.snd.snd.snd.fst,
                  x.snd.snd.snd.snd.snd.snd.fst, IntKind.i64.wrap ((1024 : Int) - x.snd.snd.snd.snd.snd.snd.snd.snd.fst), ())).bind
            fun y18 => some (!y18.snd.snd.fst, ())
        else
          (f21
                (x.fst, x.snd.fst, x.snd.snd.fst, x.snd.snd.snd.fst, x.snd.snd.snd.snd.fst, x.snd.snd.snd.snd.snd.fst,
                  x.snd.snd.snd.snd.snd.snd.fst,
                  IntKind.i64.wrap (x.snd.snd.snd.snd.snd.snd.snd.fst + x.snd.snd.snd.snd.snd.snd.snd.snd.fst), ())).bind
            fun y19 =>
            bif y19.snd.snd.fst then
              some
                (decide
                    (y19.fst ≥
                      IntKind.i64.wrap
                        (IntKind.i64.wrap (x.snd.snd.snd.snd.snd.snd.snd.fst - x.snd.snd.snd.snd.snd.snd.snd.snd.fst) * y19.snd.fst)),
                  ())
            else some (false, ())
noncomputable def F10 : CF tC := mkF tC S10 f10
theorem f10_run : ∀ a, fnS tC G10 (look []) Try.f10 S10 a = f10 a := fun a => by kernel_rfl
theorem F10_ok : CFOK tC 10 F10 := mkF_ok Y10 (fn := Try.f10) (body := bodyOf Try.f10) (by kernel_rfl) (by kernel_rfl) (by kernel_rfl) (m := 0) rfl (lam_le lam_nil) f10_run
end Go.AE
