/-
  The plain functions that the seat's Go functions compute, each with the proof that the function keeps it. Printed by the generator (Gen2) and checked by the kernel.
-/
import Derived.Test.YtnoammkjjbbajaaGreatCfgT
import Derived.Test.YtnoammkjjbbajaaGreatAeCt
namespace Go.AE
open Go.Proofs Go.RowKit
set_option maxRecDepth 100000

/-! between -/
noncomputable def G39 : FuncId → Option (CF tC) := look []
theorem Y39 : SysN tC G39 := (sys_nil tC_ok tC_eq)
def S39 : FS := ⟨[[.v], [.v], [.v]], [⟨[vI, vI, vI], []⟩], [⟨[vO], []⟩], [[.v]], []⟩
def f39 (n1 : Int) (n2 : Int) (n3 : Int) : Bool :=
  bif decide (n1 ≥ n2) then decide (n1 ≤ n3) else false
noncomputable def F39 : CF tC := mkF tC S39 (fun a => some ((f39 a.1 a.2.1 a.2.2.1), ()))
def h39 (r : Bool) : Option (altTy tE S39.outs) := some (r, ())
theorem f39_run : ∀ a, fnS tC G39 (look []) Tryz.f39 S39 a = (fun a => some ((f39 a.1 a.2.1 a.2.2.1), ())) a := fun a => by
  have key : ∀ (n1 : Int) (n2 : Int) (n3 : Int), (bif decide (n1 ≥ n2) then h39 (decide (n1 ≤ n3)) else h39 false) = h39 (f39 n1 n2 n3) := by
    intros
    unfold f39
    repeat' first | rfl | refine cond_h (g := h39) ?_ ?_
  exact Eq.trans (by kernel_rfl) (key a.1 a.2.1 a.2.2.1)
theorem F39_ok : CFOK tC 39 F39 := mkF_ok Y39 (fn := Tryz.f39) (body := bodyOf Tryz.f39) (by kernel_rfl) (by kernel_rfl) (by kernel_rfl) (m := 0) rfl (lam_le lam_nil) f39_run

/-! drive.within -/
noncomputable def G38 : FuncId → Option (CF tC) := look [(39, F39)]
theorem Y38 : SysN tC G38 := (sys_cons F39_ok (mkF_nat _ _) (sys_nil tC_ok tC_eq))
def S38 : FS := ⟨[[.v], [.v]], [⟨[vI, vI], []⟩], [⟨[vO], []⟩], [[.v]], []⟩
def f38 (n1 : Int) (n2 : Int) : Bool :=
  f39 n1 (IntKind.i64.wrap ((0 : Int) - n2)) n2
noncomputable def F38 : CF tC := mkF tC S38 (fun a => some ((f38 a.1 a.2.1), ()))
def h38 (r : Bool) : Option (altTy tE S38.outs) := some (r, ())
theorem f38_run : ∀ a, fnS tC G38 (look []) Tryz.f38 S38 a = (fun a => some ((f38 a.1 a.2.1), ())) a := fun a => by
  have key : ∀ (n1 : Int) (n2 : Int), (h38 (f39 n1 (IntKind.i64.wrap ((0 : Int) - n2)) n2)) = h38 (f38 n1 n2) := by
    intros
    unfold f38
    repeat' first | rfl | refine cond_h (g := h38) ?_ ?_
  exact Eq.trans (by kernel_rfl) (key a.1 a.2.1)
theorem F38_ok : CFOK tC 38 F38 := mkF_ok Y38 (fn := Tryz.f38) (body := bodyOf Tryz.f38) (by kernel_rfl) (by kernel_rfl) (by kernel_rfl) (m := 0) rfl (lam_le lam_nil) f38_run

/-! ValidCommand -/
noncomputable def G17 : FuncId → Option (CF tC) := look [(38, F38), (39, F39)]
theorem Y17 : SysN tC G17 := (sys_cons F38_ok (mkF_nat _ _) (sys_cons F39_ok (mkF_nat _ _) (sys_nil tC_ok tC_eq)))
def S17 : FS := ⟨[[.v, .v]], [⟨[.one (.agg [.int .i64, .int .i64])], []⟩], [⟨[vO], []⟩], [[.v]], []⟩
def f17 (n1 : Int) (n2 : Int) : Bool :=
  bif f38 n1 (32 : Int) then f39 n2 (0 : Int) (32 : Int) else false
noncomputable def F17 : CF tC := mkF tC S17 (fun a => some ((f17 a.1 a.2.1), ()))
def h17 (r : Bool) : Option (altTy tE S17.outs) := some (r, ())
theorem f17_run : ∀ a, fnS tC G17 (look []) Tryz.f17 S17 a = (fun a => some ((f17 a.1 a.2.1), ())) a := fun a => by
  have key : ∀ (n1 : Int) (n2 : Int), (bif f38 n1 (32 : Int) then h17 (f39 n2 (0 : Int) (32 : Int)) else h17 false) = h17 (f17 n1 n2) := by
    intros
    unfold f17
    repeat' first | rfl | refine cond_h (g := h17) ?_ ?_
  exact Eq.trans (by kernel_rfl) (key a.1 a.2.1)
theorem F17_ok : CFOK tC 17 F17 := mkF_ok Y17 (fn := Tryz.f17) (body := bodyOf Tryz.f17) (by kernel_rfl) (by kernel_rfl) (by kernel_rfl) (m := 0) rfl (lam_le lam_nil) f17_run

/-! ValidBounds -/
noncomputable def G18 : FuncId → Option (CF tC) := look [(39, F39)]
theorem Y18 : SysN tC G18 := (sys_cons F39_ok (mkF_nat _ _) (sys_nil tC_ok tC_eq))
def S18 : FS := ⟨[[.v, .v, .v, .v]], [⟨[.one (.agg [.int .i64, .int .i64, .int .i64, .int .i64])], []⟩], [⟨[vO], []⟩], [[.v]], []⟩
def f18 (n1 : Int) (n2 : Int) (n3 : Int) (n4 : Int) : Bool :=
  bif f39 n1 (0 : Int) (8 : Int) then
  bif f39 n2 (0 : Int) (16 : Int) then bif f39 n3 (0 : Int) (8 : Int) then f39 n4 (1 : Int) (32 : Int) else false else false
else false
noncomputable def F18 : CF tC := mkF tC S18 (fun a => some ((f18 a.1 a.2.1 a.2.2.1 a.2.2.2.1), ()))
def h18 (r : Bool) : Option (altTy tE S18.outs) := some (r, ())
theorem f18_run : ∀ a, fnS tC G18 (look []) Tryz.f18 S18 a = (fun a => some ((f18 a.1 a.2.1 a.2.2.1 a.2.2.2.1), ())) a := fun a => by
  have key : ∀ (n1 : Int) (n2 : Int) (n3 : Int) (n4 : Int), (bif f39 n1 (0 : Int) (8 : Int) then
  bif f39 n2 (0 : Int) (16 : Int) then bif f39 n3 (0 : Int) (8 : Int) then h18 (f39 n4 (1 : Int) (32 : Int)) else h18 false else h18 false
else h18 false) = h18 (f18 n1 n2 n3 n4) := by
    intros
    unfold f18
    repeat' first | rfl | refine cond_h (g := h18) ?_ ?_
  exact Eq.trans (by kernel_rfl) (key a.1 a.2.1 a.2.2.1 a.2.2.2.1)
theorem F18_ok : CFOK tC 18 F18 := mkF_ok Y18 (fn := Tryz.f18) (body := bodyOf Tryz.f18) (by kernel_rfl) (by kernel_rfl) (by kernel_rfl) (m := 0) rfl (lam_le lam_nil) f18_run

/-! base.Clip -/
noncomputable def G6 : FuncId → Option (CF tC) := look []
theorem Y6 : SysN tC G6 := (sys_nil tC_ok tC_eq)
def S6 : FS := ⟨[[.v], [.v], [.v]], [⟨[vI, vI, vI], []⟩], [⟨[vI], []⟩], [[.v]], []⟩
def f6 (n1 : Int) (n2 : Int) (n3 : Int) : Int :=
  bif decide ((bif decide (n3 < n1) then n3 else n1) > n2) then bif decide (n3 < n1) then n3 else n1 else n2
noncomputable def F6 : CF tC := mkF tC S6 (fun a => some ((f6 a.1 a.2.1 a.2.2.1), ()))
def h6 (r : Int) : Option (altTy tE S6.outs) := some (r, ())
theorem f6_run : ∀ a, fnS tC G6 (look []) Tryz.f6 S6 a = (fun a => some ((f6 a.1 a.2.1 a.2.2.1), ())) a := fun a => by
  have key : ∀ (n1 : Int) (n2 : Int) (n3 : Int), (h6 (bif decide ((bif decide (n3 < n1) then n3 else n1) > n2) then bif decide (n3 < n1) then n3 else n1 else n2)) = h6 (f6 n1 n2 n3) := by
    intros
    unfold f6
    repeat' first | rfl | refine cond_h (g := h6) ?_ ?_
  exact Eq.trans (by kernel_rfl) (key a.1 a.2.1 a.2.2.1)
theorem F6_ok : CFOK tC 6 F6 := mkF_ok Y6 (fn := Tryz.f6) (body := bodyOf Tryz.f6) (by kernel_rfl) (by kernel_rfl) (by kernel_rfl) (m := 0) rfl (lam_le lam_nil) f6_run

/-! brief -/
noncomputable def G5 : FuncId → Option (CF tC) := look []
theorem Y5 : SysN tC G5 := (sys_nil tC_ok tC_eq)
noncomputable def c5_0 : Code := loopOf (bodyOf Tryz.f5) 0
def p5_0 : LS := ⟨0, [1, 5], ⟨[vB, .one (.one (.imm 62)), vB, vB, vB, vI] ++ vBs 32, []⟩, [⟨.ret, [4], ⟨vBs 4 ++ [vO] ++ vBs 33, []⟩, []⟩, ⟨.exit 0, [], ⟨vBs 38, []⟩, []⟩], []⟩
noncomputable def r5_0 (x : List Ax × Int × Unit) : Option (List Ax × Int × Unit ⊕ Bool × Unit ⊕ Unit) :=
  bif decide (x.snd.fst < (↑x.fst.length : Int)) then
  (idxO x.fst x.snd.fst).bind fun y18 =>
    bif decide ((↑y18.M.length : Int) > (4 : Int)) then some (Sum.inr (Sum.inl (false, ())))
    else
      (idxO x.fst x.snd.fst).bind fun y17 =>
        bif decide ((↑y17.E.length : Int) > (40 : Int)) then some (Sum.inr (Sum.inl (false, ())))
        else some (Sum.inl (x.fst, IntKind.i64.wrap (x.snd.fst + (1 : Int)), ()))
else some (Sum.inr (Sum.inr ()))
theorem r5_0_run0 (v0 : List Ax) (v1 : Int) : roundK tC G5 (look []) c5_0 p5_0 (v0, v1, ()) = r5_0 (v0, v1, ()) := by kernel_rfl
theorem r5_0_run (x : List Ax × Int × Unit) : roundK tC G5 (look []) c5_0 p5_0 x = r5_0 x := r5_0_run0 x.1 x.2.1
noncomputable def l5_0 (x : List Ax × Int × Unit) : Option (Bool × Unit ⊕ Unit) := iterO r5_0 x
noncomputable def W5_0 : LF tC := loopW tC p5_0 0 l5_0
theorem W5_0_ok : keyed 0 (bodyOf Tryz.f5) = [.block 0 (.loop c5_0)] ∧ ∀ n, n ≤ 0 → Snd tC n (.block 0 (.loop c5_0)) W5_0.k := ⟨by kernel_rfl, fun n hn => loopW_ok (p := p5_0) (id := 0) Y5 (lam_le lam_nil n hn) hn r5_0_run⟩
def S5 : FS := ⟨[[.v, .v, .s 5, .v, .v, .v, .v, .v, .v, .v], [.s 62]], [⟨[.one (.agg [.int .i64, .int .i64, .imm 5, .int .i64, .int .i64, .int .i64, .int .i64, .int .i64, .int .i64, .int .i64]), .one (.one (.imm 62))], []⟩], [⟨[vO], []⟩], [[.v]], []⟩
noncomputable def f5 (x : Int × Int × List Int × Int × Int × Int × Int × Int × Int × Int × List Ax × Unit) : Option (Bool × Unit) :=
  bif decide ((↑x.snd.snd.fst.length : Int) > (64 : Int)) then some (false, ())
else
  bif decide ((↑x.snd.snd.snd.snd.snd.snd.snd.snd.snd.snd.fst.length : Int) > (10 : Int)) then some (false, ())
  else
    (l5_0 (x.snd.snd.snd.snd.snd.snd.snd.snd.snd.snd.fst, (0 : Int), ())).bind fun y23 =>
      Sum.elim (fun y21 => some (y21.fst, ())) (fun _x => some (true, ())) y23
noncomputable def F5 : CF tC := mkF tC S5 f5
theorem f5_run : ∀ a, fnS tC G5 (look [(0, W5_0)]) Tryz.f5 S5 a = f5 a := fun a => by kernel_rfl
theorem F5_ok : CFOK tC 5 F5 := mkF_ok Y5 (fn := Tryz.f5) (body := bodyOf Tryz.f5) (by kernel_rfl) (by kernel_rfl) (by kernel_rfl) (m := 0) rfl (lam_le (lam_cons W5_0_ok lam_nil)) f5_run

/-! plan.size -/
noncomputable def G46 : FuncId → Option (CF tC) := look []
theorem Y46 : SysN tC G46 := (sys_nil tC_ok tC_eq)
def S46 : FS := ⟨[[.v]], [⟨[vI], []⟩], [⟨[vO], []⟩], [[.v]], []⟩
def f46 (n1 : Int) : Bool :=
  bif decide (n1 ≥ (1 : Int)) then decide (n1 ≤ (64 : Int)) else false
noncomputable def F46 : CF tC := mkF tC S46 (fun a => some ((f46 a.1), ()))
def h46 (r : Bool) : Option (altTy tE S46.outs) := some (r, ())
theorem f46_run : ∀ a, fnS tC G46 (look []) Tryz.f46 S46 a = (fun a => some ((f46 a.1), ())) a := fun a => by
  have key : ∀ (n1 : Int), (bif decide (n1 ≥ (1 : Int)) then h46 (decide (n1 ≤ (64 : Int))) else h46 false) = h46 (f46 n1) := by
    intros
    unfold f46
    repeat' first | rfl | refine cond_h (g := h46) ?_ ?_
  exact Eq.trans (by kernel_rfl) (key a.1)
theorem F46_ok : CFOK tC 46 F46 := mkF_ok Y46 (fn := Tryz.f46) (body := bodyOf Tryz.f46) (by kernel_rfl) (by kernel_rfl) (by kernel_rfl) (m := 0) rfl (lam_le lam_nil) f46_run

/-! slices.Max -/
noncomputable def G47 : FuncId → Option (CF tC) := look []
theorem Y47 : SysN tC G47 := (sys_nil tC_ok tC_eq)
noncomputable def c47_0 : Code := loopOf (bodyOf Tryz.f47) 0
def p47_0 : LS := ⟨0, [0, 3, 4], ⟨[.one (.one (.imm 5)), vB, vB, .one (.one (.int .u8)), vI] ++ vBs 20, []⟩, [⟨.exit 0, [3], ⟨[vB, vB, vB, .one (.one (.int .u8))] ++ vBs 21, []⟩, []⟩], []⟩
noncomputable def r47_0 (x : List Int × Int × Int × Unit) : Option (List Int × Int × Int × Unit ⊕ Int × Unit) :=
  bif decide (x.snd.snd.fst < (↑x.fst.length : Int)) then
  (idxO x.fst x.snd.snd.fst).bind fun y8 =>
    some (Sum.inl (x.fst, bif decide (y8 > x.snd.fst) then y8 else x.snd.fst, IntKind.i64.wrap (x.snd.snd.fst + (1 : Int)), ()))
else some (Sum.inr (x.snd.fst, ()))
theorem r47_0_run0 (v0 : List Int) (v1 : Int) (v2 : Int) : roundK tC G47 (look []) c47_0 p47_0 (v0, v1, v2, ()) = r47_0 (v0, v1, v2, ()) := by kernel_rfl
theorem r47_0_run (x : List Int × Int × Int × Unit) : roundK tC G47 (look []) c47_0 p47_0 x = r47_0 x := r47_0_run0 x.1 x.2.1 x.2.2.1
noncomputable def l47_0 (x : List Int × Int × Int × Unit) : Option (Int × Unit) := iterO r47_0 x
noncomputable def W47_0 : LF tC := loopW tC p47_0 0 l47_0
theorem W47_0_ok : keyed 0 (bodyOf Tryz.f47) = [.block 0 (.loop c47_0)] ∧ ∀ n, n ≤ 0 → Snd tC n (.block 0 (.loop c47_0)) W47_0.k := ⟨by kernel_rfl, fun n hn => loopW_ok (p := p47_0) (id := 0) Y47 (lam_le lam_nil n hn) hn r47_0_run⟩
def S47 : FS := ⟨[[.s 5]], [⟨[.one (.one (.imm 5))], []⟩], [⟨[.one (.one (.int .u8))], []⟩], [[.v]], []⟩
noncomputable def f47 (x : List Int × Unit) : Option (Int × Unit) :=
  bif decide ((↑x.fst.length : Int) < (1 : Int)) then none
else (idxO x.fst (0 : Int)).bind fun y12 => (l47_0 (x.fst, y12, (1 : Int), ())).bind fun y11 => some (y11.fst, ())
noncomputable def F47 : CF tC := mkF tC S47 f47
theorem f47_run : ∀ a, fnS tC G47 (look [(0, W47_0)]) Tryz.f47 S47 a = f47 a := fun a => by kernel_rfl
theorem F47_ok : CFOK tC 47 F47 := mkF_ok Y47 (fn := Tryz.f47) (body := bodyOf Tryz.f47) (by kernel_rfl) (by kernel_rfl) (by kernel_rfl) (m := 0) rfl (lam_le (lam_cons W47_0_ok lam_nil)) f47_run

/-! plan.Valid -/
noncomputable def G22 : FuncId → Option (CF tC) := look [(46, F46), (47, F47)]
theorem Y22 : SysN tC G22 := (sys_cons F46_ok (mkF_nat _ _) (sys_cons F47_ok (mkF_nat _ _) (sys_nil tC_ok tC_eq)))
def S22 : FS := ⟨[[.v, .v, .s 5]], [⟨[.one (.agg [.int .i64, .int .i64, .imm 5])], []⟩], [⟨[vO], []⟩], [[.v]], []⟩
noncomputable def f22 (x : Int × Int × List Int × Unit) : Option (Bool × Unit) :=
  bif !f46 x.fst then some (false, ())
else
  bif !f46 x.snd.fst then some (false, ())
  else
    bif (↑x.snd.snd.fst.length : Int) != IntKind.i64.wrap (x.fst * x.snd.fst) then some (false, ())
    else
      bif (↑x.snd.snd.fst.length : Int) == (0 : Int) then some (true, ())
      else (f47 (x.snd.snd.fst, ())).bind fun y6 => some (decide (y6.fst ≤ (2 : Int)), ())
noncomputable def F22 : CF tC := mkF tC S22 f22
theorem f22_run : ∀ a, fnS tC G22 (look []) Tryz.f22 S22 a = f22 a := fun a => by kernel_rfl
theorem F22_ok : CFOK tC 22 F22 := mkF_ok Y22 (fn := Tryz.f22) (body := bodyOf Tryz.f22) (by kernel_rfl) (by kernel_rfl) (by kernel_rfl) (m := 0) rfl (lam_le lam_nil) f22_run

/-! bytealg.IndexByte -/
def S82 : FS := ⟨[[.s 5], [.v]], [⟨[.one (.one (.imm 5)), .one (.one (.int .u8))], []⟩], [⟨[vI], []⟩], [[.v]], []⟩
def f82 (x : List Int × Int × Unit) : Option (Int × Unit) := some (ixByte x.1 x.2.1, ())
noncomputable def F82 : CF tC := mkF tC S82 f82
theorem F82_ok : CFOK tC 82 F82 := indexByte_ok tC_ok (fn := Tryz.f82) (e := 5) (by kernel_rfl) (by kernel_rfl) (by kernel_rfl) (by kernel_rfl) (by kernel_rfl) (fun args obs K z h => by
  obtain ⟨a, h1, h⟩ := bind_eq h
  obtain ⟨r, h2, h⟩ := bind_eq h
  have e1 := unAlt_ok h1
  obtain ⟨xs, v, ⟨⟩⟩ := a
  cases h2
  have e2 : (⟨[.imm 5 xs, .int .u8 v], []⟩ : St tC.E) = ⟨args, obs⟩ := e1
  injection e2 with e3 e4
  exact ⟨xs, xs, v, e3.symm, e4.symm, rfl, h⟩)

/-! bytes.IndexByte -/
noncomputable def G58 : FuncId → Option (CF tC) := look [(82, F82)]
theorem Y58 : SysN tC G58 := (sys_cons F82_ok (mkF_nat _ _) (sys_nil tC_ok tC_eq))
def S58 : FS := ⟨[[.s 5], [.v]], [⟨[.one (.one (.imm 5)), .one (.one (.int .u8))], []⟩], [⟨[vI], []⟩], [[.v]], []⟩
noncomputable def f58 (x : List Int × Int × Unit) : Option (Int × Unit) :=
  (f82 (x.fst, x.snd.fst, ())).bind fun y5 => some (y5.fst, ())
noncomputable def F58 : CF tC := mkF tC S58 f58
theorem f58_run : ∀ a, fnS tC G58 (look []) Tryz.f58 S58 a = f58 a := fun a => by kernel_rfl
theorem F58_ok : CFOK tC 58 F58 := mkF_ok Y58 (fn := Tryz.f58) (body := bodyOf Tryz.f58) (by kernel_rfl) (by kernel_rfl) (by kernel_rfl) (m := 0) rfl (lam_le lam_nil) f58_run

/-! floor.Check -/
noncomputable def G26 : FuncId → Option (CF tC) := look [(22, F22), (58, F58)]
theorem Y26 : SysN tC G26 := (sys_cons F22_ok (mkF_nat _ _) (sys_cons F58_ok (mkF_nat _ _) (sys_nil tC_ok tC_eq)))
def S26 : FS := ⟨[[.v, .v, .s 5]], [⟨[.one (.agg [.int .i64, .int .i64, .imm 5])], []⟩], [⟨[.one (.one (.lit .i64 1))], []⟩, ⟨[.one (.one (.lit .i64 3))], []⟩, ⟨[.one (.one (.lit .i64 0))], []⟩], [[.v]], []⟩
noncomputable def f26 (x : Int × Int × List Int × Unit) : Option (Unit ⊕ Unit ⊕ Unit) :=
  (f22 (x.fst, x.snd.fst, x.snd.snd.fst, ())).bind fun y7 =>
  bif !y7.fst then some (Sum.inl ())
  else
    (f58 (x.snd.snd.fst, (0 : Int), ())).bind fun y6 =>
      bif decide (y6.fst ≥ (0 : Int)) then some (Sum.inr (Sum.inl ())) else some (Sum.inr (Sum.inr ()))
noncomputable def F26 : CF tC := mkF tC S26 f26
theorem f26_run : ∀ a, fnS tC G26 (look []) Tryz.f26 S26 a = f26 a := fun a => by kernel_rfl
theorem F26_ok : CFOK tC 26 F26 := mkF_ok Y26 (fn := Tryz.f26) (body := bodyOf Tryz.f26) (by kernel_rfl) (by kernel_rfl) (by kernel_rfl) (m := 0) rfl (lam_le lam_nil) f26_run

/-! floor.value -/
noncomputable def G62 : FuncId → Option (CF tC) := look []
theorem Y62 : SysN tC G62 := (sys_nil tC_ok tC_eq)
def S62 : FS := ⟨[[.v, .v, .s 5], [.v, .v]], [⟨[.one (.agg [.int .i64, .int .i64, .imm 5]), .one (.agg [.int .i64, .int .i64])], []⟩], [⟨[.one (.one (.int .u8))], []⟩], [[.v]], []⟩
noncomputable def f62 (x : Int × Int × List Int × Int × Int × Unit) : Option (Int × Unit) :=
  bif decide (x.snd.snd.snd.fst < (0 : Int)) then some ((2 : Int), ())
else
  bif decide (x.snd.snd.snd.fst ≥ x.fst) then some ((2 : Int), ())
  else
    bif decide (x.snd.snd.snd.snd.fst < (0 : Int)) then some ((2 : Int), ())
    else
      bif decide (x.snd.snd.snd.snd.fst ≥ x.snd.fst) then some ((2 : Int), ())
      else
        (idxO x.snd.snd.fst (IntKind.i64.wrap (IntKind.i64.wrap (x.snd.snd.snd.snd.fst * x.fst) + x.snd.snd.snd.fst))).bind fun y8 =>
          some (y8, ())
noncomputable def F62 : CF tC := mkF tC S62 f62
theorem f62_run : ∀ a, fnS tC G62 (look []) Tryz.f62 S62 a = f62 a := fun a => by kernel_rfl
theorem F62_ok : CFOK tC 62 F62 := mkF_ok Y62 (fn := Tryz.f62) (body := bodyOf Tryz.f62) (by kernel_rfl) (by kernel_rfl) (by kernel_rfl) (m := 0) rfl (lam_le lam_nil) f62_run

/-! floorDiv -/
noncomputable def G60 : FuncId → Option (CF tC) := look []
theorem Y60 : SysN tC G60 := (sys_nil tC_ok tC_eq)
def S60 : FS := ⟨[[.v]], [⟨[vI], []⟩], [⟨[vI], []⟩], [[.v]], []⟩
def f60 (n1 : Int) : Int :=
  n1.fdiv (64 : Int)
noncomputable def F60 : CF tC := mkF tC S60 (fun a => some ((f60 a.1), ()))
def h60 (r : Int) : Option (altTy tE S60.outs) := some (r, ())
theorem f60_run : ∀ a, fnS tC G60 (look []) Tryz.f60 S60 a = (fun a => some ((f60 a.1), ())) a := fun a => by
  have key : ∀ (n1 : Int), (h60 (n1.fdiv (64 : Int))) = h60 (f60 n1) := by
    intros
    unfold f60
    repeat' first | rfl | refine cond_h (g := h60) ?_ ?_
  exact Eq.trans (by kernel_rfl) (key a.1)
theorem F60_ok : CFOK tC 60 F60 := mkF_ok Y60 (fn := Tryz.f60) (body := bodyOf Tryz.f60) (by kernel_rfl) (by kernel_rfl) (by kernel_rfl) (m := 0) rfl (lam_le lam_nil) f60_run

/-! floor.inside -/
noncomputable def G64 : FuncId → Option (CF tC) := look []
theorem Y64 : SysN tC G64 := (sys_nil tC_ok tC_eq)
def S64 : FS := ⟨[[.v, .v, .s 5], [.v, .v]], [⟨[.one (.agg [.int .i64, .int .i64, .imm 5]), .one (.agg [.int .i64, .int .i64])], []⟩], [⟨[vO], []⟩], [[.v]], []⟩
def f64 (n1 : Int) (n2 : Int) (_l3 : List Int) (n4 : Int) (n5 : Int) : Bool :=
  bif decide (n4 ≥ (0 : Int)) then
  bif decide (n5 ≥ (0 : Int)) then
    bif decide (n4 ≤ IntKind.i64.wrap (n1 * (64 : Int))) then decide (n5 ≤ IntKind.i64.wrap (n2 * (64 : Int))) else false
  else false
else false
noncomputable def F64 : CF tC := mkF tC S64 (fun a => some ((f64 a.1 a.2.1 a.2.2.1 a.2.2.2.1 a.2.2.2.2.1), ()))
def h64 (r : Bool) : Option (altTy tE S64.outs) := some (r, ())
theorem f64_run : ∀ a, fnS tC G64 (look []) Tryz.f64 S64 a = (fun a => some ((f64 a.1 a.2.1 a.2.2.1 a.2.2.2.1 a.2.2.2.2.1), ())) a := fun a => by
  have key : ∀ (n1 : Int) (n2 : Int) (l3 : List Int) (n4 : Int) (n5 : Int), (bif decide (n4 ≥ (0 : Int)) then
  bif decide (n5 ≥ (0 : Int)) then
    bif decide (n4 ≤ IntKind.i64.wrap (n1 * (64 : Int))) then h64 (decide (n5 ≤ IntKind.i64.wrap (n2 * (64 : Int)))) else h64 false
  else h64 false
else h64 false) = h64 (f64 n1 n2 l3 n4 n5) := by
    intros
    unfold f64
    repeat' first | rfl | refine cond_h (g := h64) ?_ ?_
  exact Eq.trans (by kernel_rfl) (key a.1 a.2.1 a.2.2.1 a.2.2.2.1 a.2.2.2.2.1)
theorem F64_ok : CFOK tC 64 F64 := mkF_ok Y64 (fn := Tryz.f64) (body := bodyOf Tryz.f64) (by kernel_rfl) (by kernel_rfl) (by kernel_rfl) (m := 0) rfl (lam_le lam_nil) f64_run

/-! plan.within -/
noncomputable def G85 : FuncId → Option (CF tC) := look []
theorem Y85 : SysN tC G85 := (sys_nil tC_ok tC_eq)
def S85 : FS := ⟨[[.v], [.v]], [⟨[vI, vI], []⟩], [⟨[vO], []⟩], [[.v]], []⟩
def f85 (n1 : Int) (n2 : Int) : Bool :=
  bif decide (n1 ≥ IntKind.i64.wrap ((0 : Int) - n2)) then decide (n1 ≤ n2) else false
noncomputable def F85 : CF tC := mkF tC S85 (fun a => some ((f85 a.1 a.2.1), ()))
def h85 (r : Bool) : Option (altTy tE S85.outs) := some (r, ())
theorem f85_run : ∀ a, fnS tC G85 (look []) Tryz.f85 S85 a = (fun a => some ((f85 a.1 a.2.1), ())) a := fun a => by
  have key : ∀ (n1 : Int) (n2 : Int), (bif decide (n1 ≥ IntKind.i64.wrap ((0 : Int) - n2)) then h85 (decide (n1 ≤ n2)) else h85 false) = h85 (f85 n1 n2) := by
    intros
    unfold f85
    repeat' first | rfl | refine cond_h (g := h85) ?_ ?_
  exact Eq.trans (by kernel_rfl) (key a.1 a.2.1)
theorem F85_ok : CFOK tC 85 F85 := mkF_ok Y85 (fn := Tryz.f85) (body := bodyOf Tryz.f85) (by kernel_rfl) (by kernel_rfl) (by kernel_rfl) (m := 0) rfl (lam_le lam_nil) f85_run

/-! plan.validPoint -/
noncomputable def G83 : FuncId → Option (CF tC) := look [(85, F85)]
theorem Y83 : SysN tC G83 := (sys_cons F85_ok (mkF_nat _ _) (sys_nil tC_ok tC_eq))
def S83 : FS := ⟨[[.v, .v]], [⟨[.one (.agg [.int .i64, .int .i64])], []⟩], [⟨[vO], []⟩], [[.v]], []⟩
def f83 (n1 : Int) (n2 : Int) : Bool :=
  bif f85 n1 (1048576 : Int) then f85 n2 (1048576 : Int) else false
noncomputable def F83 : CF tC := mkF tC S83 (fun a => some ((f83 a.1 a.2.1), ()))
def h83 (r : Bool) : Option (altTy tE S83.outs) := some (r, ())
theorem f83_run : ∀ a, fnS tC G83 (look []) Tryz.f83 S83 a = (fun a => some ((f83 a.1 a.2.1), ())) a := fun a => by
  have key : ∀ (n1 : Int) (n2 : Int), (bif f85 n1 (1048576 : Int) then h83 (f85 n2 (1048576 : Int)) else h83 false) = h83 (f83 n1 n2) := by
    intros
    unfold f83
    repeat' first | rfl | refine cond_h (g := h83) ?_ ?_
  exact Eq.trans (by kernel_rfl) (key a.1 a.2.1)
theorem F83_ok : CFOK tC 83 F83 := mkF_ok Y83 (fn := Tryz.f83) (body := bodyOf Tryz.f83) (by kernel_rfl) (by kernel_rfl) (by kernel_rfl) (m := 0) rfl (lam_le lam_nil) f83_run

/-! plan.down -/
noncomputable def G84 : FuncId → Option (CF tC) := look []
theorem Y84 : SysN tC G84 := (sys_nil tC_ok tC_eq)
noncomputable def c84_13 : Code := subCode (bodyOf Tryz.f84) 13
def p84_13 : PS := ⟨0, [5], ⟨vBs 5 ++ [vI] ++ vBs 10, []⟩, [⟨.ret, [4], ⟨vBs 4 ++ [vI] ++ vBs 11, []⟩, []⟩], []⟩
noncomputable def j84_13 (x : Int × Unit) : Option (Int × Unit) :=
  some (x.fst, ())
theorem j84_13_run0 (v0 : Int) : pieceK tC G84 (look []) c84_13 p84_13 (v0, ()) = j84_13 (v0, ()) := by kernel_rfl
theorem j84_13_run (x : Int × Unit) : pieceK tC G84 (look []) c84_13 p84_13 x = j84_13 x := j84_13_run0 x.1
noncomputable def W84_13 : LF tC := cutLF tC p84_13 j84_13
theorem W84_13_ok : keyed 13 (bodyOf Tryz.f84) = [c84_13] ∧ ∀ n, n ≤ 0 → Snd tC n c84_13 W84_13.k := ⟨by kernel_rfl, fun n hn => cut_ok (p := p84_13) Y84 (lam_le lam_nil n hn) hn j84_13_run⟩
def S84 : FS := ⟨[[.v], [.v]], [⟨[vI, vI], []⟩], [⟨[vI], []⟩], [[.v]], []⟩
noncomputable def f84 (x : Int × Int × Unit) : Option (Int × Unit) :=
  bif x.snd.fst == (0 : Int) then none
else
  bif x.snd.fst == (0 : Int) then none
  else
    bif decide (x.fst.tmod x.snd.fst < (0 : Int)) then
      (j84_13 (IntKind.i64.wrap (IntKind.i64.wrap (x.fst.tdiv x.snd.fst) - (1 : Int)), ())).bind fun y8 => some (y8.fst, ())
    else (j84_13 (IntKind.i64.wrap (x.fst.tdiv x.snd.fst), ())).bind fun y9 => some (y9.fst, ())
noncomputable def F84 : CF tC := mkF tC S84 f84
theorem f84_run : ∀ a, fnS tC G84 (look [(13, W84_13)]) Tryz.f84 S84 a = f84 a := fun a => by kernel_rfl
theorem F84_ok : CFOK tC 84 F84 := mkF_ok Y84 (fn := Tryz.f84) (body := bodyOf Tryz.f84) (by kernel_rfl) (by kernel_rfl) (by kernel_rfl) (m := 0) rfl (lam_le (lam_cons W84_13_ok lam_nil)) f84_run

/-! plan.square -/
noncomputable def G86 : FuncId → Option (CF tC) := look []
theorem Y86 : SysN tC G86 := (sys_nil tC_ok tC_eq)
def S86 : FS := ⟨[[.v, .v]], [⟨[.one (.agg [.int .i64, .int .i64])], []⟩], [⟨[.one (.agg [.int .i64, .int .i64, .int .i64, .int .i64])], []⟩], [[.v, .v, .v, .v]], []⟩
def f86 (n1 : Int) (n2 : Int) : Int × Int × Int × Int :=
  (IntKind.i64.wrap (n1 * (64 : Int)), IntKind.i64.wrap (n2 * (64 : Int)), IntKind.i64.wrap (IntKind.i64.wrap (n1 * (64 : Int)) + (64 : Int)),
  IntKind.i64.wrap (IntKind.i64.wrap (n2 * (64 : Int)) + (64 : Int)))
noncomputable def F86 : CF tC := mkF tC S86 (fun a => some ((f86 a.1 a.2.1).1, (f86 a.1 a.2.1).2.1, (f86 a.1 a.2.1).2.2.1, (f86 a.1 a.2.1).2.2.2, ()))
def h86 (r : Int × Int × Int × Int) : Option (altTy tE S86.outs) := some (r.1, r.2.1, r.2.2.1, r.2.2.2, ())
theorem f86_run : ∀ a, fnS tC G86 (look []) Tryz.f86 S86 a = (fun a => some ((f86 a.1 a.2.1).1, (f86 a.1 a.2.1).2.1, (f86 a.1 a.2.1).2.2.1, (f86 a.1 a.2.1).2.2.2, ())) a := fun a => by
  have key : ∀ (n1 : Int) (n2 : Int), (h86
  (IntKind.i64.wrap (n1 * (64 : Int)), IntKind.i64.wrap (n2 * (64 : Int)),
    IntKind.i64.wrap (IntKind.i64.wrap (n1 * (64 : Int)) + (64 : Int)), IntKind.i64.wrap (IntKind.i64.wrap (n2 * (64 : Int)) + (64 : Int)))) = h86 (f86 n1 n2) := by
    intros
    unfold f86
    repeat' first | rfl | refine cond_h (g := h86) ?_ ?_
  exact Eq.trans (by kernel_rfl) (key a.1 a.2.1)
theorem F86_ok : CFOK tC 86 F86 := mkF_ok Y86 (fn := Tryz.f86) (body := bodyOf Tryz.f86) (by kernel_rfl) (by kernel_rfl) (by kernel_rfl) (m := 0) rfl (lam_le lam_nil) f86_run

/-! plan.Of -/
noncomputable def G59 : FuncId → Option (CF tC) := look [(83, F83), (84, F84)]
theorem Y59 : SysN tC G59 := (sys_cons F83_ok (mkF_nat _ _) (sys_cons F84_ok (mkF_nat _ _) (sys_nil tC_ok tC_eq)))
def S59 : FS := ⟨[[.v, .v]], [⟨[.one (.agg [.int .i64, .int .i64])], []⟩], [⟨[.tup [.agg [.int .i64, .int .i64], .one .bool]], []⟩], [[.v, .v], [.v]], []⟩
noncomputable def f59 (x : Int × Int × Unit) : Option (Int × Int × Bool × Unit) :=
  bif !f83 x.fst x.snd.fst then some ((0 : Int), (0 : Int), false, ())
else (f84 (x.fst, (64 : Int), ())).bind fun y9 => (f84 (x.snd.fst, (64 : Int), ())).bind fun y8 => some (y9.fst, y8.fst, true, ())
noncomputable def F59 : CF tC := mkF tC S59 f59
theorem f59_run : ∀ a, fnS tC G59 (look []) Tryz.f59 S59 a = f59 a := fun a => by kernel_rfl
theorem F59_ok : CFOK tC 59 F59 := mkF_ok Y59 (fn := Tryz.f59) (body := bodyOf Tryz.f59) (by kernel_rfl) (by kernel_rfl) (by kernel_rfl) (m := 0) rfl (lam_le lam_nil) f59_run

/-! plan.Square -/
noncomputable def G61 : FuncId → Option (CF tC) := look [(85, F85), (86, F86)]
theorem Y61 : SysN tC G61 := (sys_cons F85_ok (mkF_nat _ _) (sys_cons F86_ok (mkF_nat _ _) (sys_nil tC_ok tC_eq)))
def S61 : FS := ⟨[[.v, .v]], [⟨[.one (.agg [.int .i64, .int .i64])], []⟩], [⟨[.tup [.agg [.int .i64, .int .i64, .int .i64, .int .i64], .one .bool]], []⟩], [[.v, .v, .v, .v], [.v]], []⟩
def f61 (n1 : Int) (n2 : Int) : Int × Int × Int × Int × Bool :=
  bif !f85 n1 (16384 : Int) then ((0 : Int), (0 : Int), (0 : Int), (0 : Int), false)
else
  bif !f85 n2 (16384 : Int) then ((0 : Int), (0 : Int), (0 : Int), (0 : Int), false)
  else ((f86 n1 n2).fst, (f86 n1 n2).snd.fst, (f86 n1 n2).snd.snd.fst, (f86 n1 n2).snd.snd.snd, true)
noncomputable def F61 : CF tC := mkF tC S61 (fun a => some ((f61 a.1 a.2.1).1, (f61 a.1 a.2.1).2.1, (f61 a.1 a.2.1).2.2.1, (f61 a.1 a.2.1).2.2.2.1, (f61 a.1 a.2.1).2.2.2.2, ()))
def h61 (r : Int × Int × Int × Int × Bool) : Option (altTy tE S61.outs) := some (r.1, r.2.1, r.2.2.1, r.2.2.2.1, r.2.2.2.2, ())
theorem f61_run : ∀ a, fnS tC G61 (look []) Tryz.f61 S61 a = (fun a => some ((f61 a.1 a.2.1).1, (f61 a.1 a.2.1).2.1, (f61 a.1 a.2.1).2.2.1, (f61 a.1 a.2.1).2.2.2.1, (f61 a.1 a.2.1).2.2.2.2, ())) a := fun a => by
  have key : ∀ (n1 : Int) (n2 : Int), (bif !f85 n1 (16384 : Int) then h61 ((0 : Int), (0 : Int), (0 : Int), (0 : Int), false)
else
  bif !f85 n2 (16384 : Int) then h61 ((0 : Int), (0 : Int), (0 : Int), (0 : Int), false)
  else h61 ((f86 n1 n2).fst, (f86 n1 n2).snd.fst, (f86 n1 n2).snd.snd.fst, (f86 n1 n2).snd.snd.snd, true)) = h61 (f61 n1 n2) := by
    intros
    unfold f61
    repeat' first | rfl | refine cond_h (g := h61) ?_ ?_
  exact Eq.trans (by kernel_rfl) (key a.1 a.2.1)
theorem F61_ok : CFOK tC 61 F61 := mkF_ok Y61 (fn := Tryz.f61) (body := bodyOf Tryz.f61) (by kernel_rfl) (by kernel_rfl) (by kernel_rfl) (m := 0) rfl (lam_le lam_nil) f61_run

/-! segment.near -/
noncomputable def G100 : FuncId → Option (CF tC) := look []
theorem Y100 : SysN tC G100 := (sys_nil tC_ok tC_eq)
def S100 : FS := ⟨[[.v]], [⟨[vI], []⟩], [⟨[vO], []⟩], [[.v]], []⟩
def f100 (n1 : Int) : Bool :=
  bif decide (n1 ≥ (-2097152 : Int)) then decide (n1 ≤ (2097152 : Int)) else false
noncomputable def F100 : CF tC := mkF tC S100 (fun a => some ((f100 a.1), ()))
def h100 (r : Bool) : Option (altTy tE S100.outs) := some (r, ())
theorem f100_run : ∀ a, fnS tC G100 (look []) Tryz.f100 S100 a = (fun a => some ((f100 a.1), ())) a := fun a => by
  have key : ∀ (n1 : Int), (bif decide (n1 ≥ (-2097152 : Int)) then h100 (decide (n1 ≤ (2097152 : Int))) else h100 false) = h100 (f100 n1) := by
    intros
    unfold f100
    repeat' first | rfl | refine cond_h (g := h100) ?_ ?_
  exact Eq.trans (by kernel_rfl) (key a.1)
theorem F100_ok : CFOK tC 100 F100 := mkF_ok Y100 (fn := Tryz.f100) (body := bodyOf Tryz.f100) (by kernel_rfl) (by kernel_rfl) (by kernel_rfl) (m := 0) rfl (lam_le lam_nil) f100_run

/-! segment.validPoint -/
noncomputable def G87 : FuncId → Option (CF tC) := look [(100, F100)]
theorem Y87 : SysN tC G87 := (sys_cons F100_ok (mkF_nat _ _) (sys_nil tC_ok tC_eq))
def S87 : FS := ⟨[[.v, .v]], [⟨[.one (.agg [.int .i64, .int .i64])], []⟩], [⟨[vO], []⟩], [[.v]], []⟩
def f87 (n1 : Int) (n2 : Int) : Bool :=
  bif f100 n1 then f100 n2 else false
noncomputable def F87 : CF tC := mkF tC S87 (fun a => some ((f87 a.1 a.2.1), ()))
def h87 (r : Bool) : Option (altTy tE S87.outs) := some (r, ())
theorem f87_run : ∀ a, fnS tC G87 (look []) Tryz.f87 S87 a = (fun a => some ((f87 a.1 a.2.1), ())) a := fun a => by
  have key : ∀ (n1 : Int) (n2 : Int), (bif f100 n1 then h87 (f100 n2) else h87 false) = h87 (f87 n1 n2) := by
    intros
    unfold f87
    repeat' first | rfl | refine cond_h (g := h87) ?_ ?_
  exact Eq.trans (by kernel_rfl) (key a.1 a.2.1)
theorem F87_ok : CFOK tC 87 F87 := mkF_ok Y87 (fn := Tryz.f87) (body := bodyOf Tryz.f87) (by kernel_rfl) (by kernel_rfl) (by kernel_rfl) (m := 0) rfl (lam_le lam_nil) f87_run

/-! segment.ValidRect -/
noncomputable def G88 : FuncId → Option (CF tC) := look [(100, F100)]
theorem Y88 : SysN tC G88 := (sys_cons F100_ok (mkF_nat _ _) (sys_nil tC_ok tC_eq))
def S88 : FS := ⟨[[.v, .v, .v, .v]], [⟨[.one (.agg [.int .i64, .int .i64, .int .i64, .int .i64])], []⟩], [⟨[vO], []⟩], [[.v]], []⟩
def f88 (n1 : Int) (n2 : Int) (n3 : Int) (n4 : Int) : Bool :=
  bif f100 n1 then
  bif f100 n2 then bif f100 n3 then bif f100 n4 then bif decide (n1 ≤ n3) then decide (n2 ≤ n4) else false else false else false else false
else false
noncomputable def F88 : CF tC := mkF tC S88 (fun a => some ((f88 a.1 a.2.1 a.2.2.1 a.2.2.2.1), ()))
def h88 (r : Bool) : Option (altTy tE S88.outs) := some (r, ())
theorem f88_run : ∀ a, fnS tC G88 (look []) Tryz.f88 S88 a = (fun a => some ((f88 a.1 a.2.1 a.2.2.1 a.2.2.2.1), ())) a := fun a => by
  have key : ∀ (n1 : Int) (n2 : Int) (n3 : Int) (n4 : Int), (bif f100 n1 then
  bif f100 n2 then
    bif f100 n3 then bif f100 n4 then bif decide (n1 ≤ n3) then h88 (decide (n2 ≤ n4)) else h88 false else h88 false else h88 false
  else h88 false
else h88 false) = h88 (f88 n1 n2 n3 n4) := by
    intros
    unfold f88
    repeat' first | rfl | refine cond_h (g := h88) ?_ ?_
  exact Eq.trans (by kernel_rfl) (key a.1 a.2.1 a.2.2.1 a.2.2.2.1)
theorem F88_ok : CFOK tC 88 F88 := mkF_ok Y88 (fn := Tryz.f88) (body := bodyOf Tryz.f88) (by kernel_rfl) (by kernel_rfl) (by kernel_rfl) (m := 0) rfl (lam_le lam_nil) f88_run

/-! segment.beside -/
noncomputable def G89 : FuncId → Option (CF tC) := look []
theorem Y89 : SysN tC G89 := (sys_nil tC_ok tC_eq)
def S89 : FS := ⟨[[.v], [.v], [.v]], [⟨[vI, vI, vI], []⟩], [⟨[vI], []⟩], [[.v]], []⟩
def f89 (n1 : Int) (n2 : Int) (n3 : Int) : Int :=
  bif
    decide
      (IntKind.i64.wrap (n1 - n3) > bif decide ((0 : Int) > IntKind.i64.wrap (n2 - n1)) then (0 : Int) else IntKind.i64.wrap (n2 - n1)) then
  IntKind.i64.wrap (n1 - n3)
else bif decide ((0 : Int) > IntKind.i64.wrap (n2 - n1)) then (0 : Int) else IntKind.i64.wrap (n2 - n1)
noncomputable def F89 : CF tC := mkF tC S89 (fun a => some ((f89 a.1 a.2.1 a.2.2.1), ()))
def h89 (r : Int) : Option (altTy tE S89.outs) := some (r, ())
theorem f89_run : ∀ a, fnS tC G89 (look []) Tryz.f89 S89 a = (fun a => some ((f89 a.1 a.2.1 a.2.2.1), ())) a := fun a => by
  have key : ∀ (n1 : Int) (n2 : Int) (n3 : Int), (h89
  (bif
      decide
        (IntKind.i64.wrap (n1 - n3) >
          bif decide ((0 : Int) > IntKind.i64.wrap (n2 - n1)) then (0 : Int) else IntKind.i64.wrap (n2 - n1)) then
    IntKind.i64.wrap (n1 - n3)
  else bif decide ((0 : Int) > IntKind.i64.wrap (n2 - n1)) then (0 : Int) else IntKind.i64.wrap (n2 - n1))) = h89 (f89 n1 n2 n3) := by
    intros
    unfold f89
    repeat' first | rfl | refine cond_h (g := h89) ?_ ?_
  exact Eq.trans (by kernel_rfl) (key a.1 a.2.1 a.2.2.1)
theorem F89_ok : CFOK tC 89 F89 := mkF_ok Y89 (fn := Tryz.f89) (body := bodyOf Tryz.f89) (by kernel_rfl) (by kernel_rfl) (by kernel_rfl) (m := 0) rfl (lam_le lam_nil) f89_run

/-! segment.Gap -/
noncomputable def G63 : FuncId → Option (CF tC) := look [(87, F87), (88, F88), (89, F89)]
theorem Y63 : SysN tC G63 := (sys_cons F87_ok (mkF_nat _ _) (sys_cons F88_ok (mkF_nat _ _) (sys_cons F89_ok (mkF_nat _ _) (sys_nil tC_ok tC_eq))))
def S63 : FS := ⟨[[.v, .v], [.v, .v, .v, .v]], [⟨[.one (.agg [.int .i64, .int .i64]), .one (.agg [.int .i64, .int .i64, .int .i64, .int .i64])], []⟩], [⟨[vI], []⟩], [[.v]], []⟩
def f63 (n1 : Int) (n2 : Int) (n3 : Int) (n4 : Int) (n5 : Int) (n6 : Int) : Int :=
  bif !f87 n1 n2 then (0 : Int)
else
  bif !f88 n3 n4 n5 n6 then (0 : Int)
  else IntKind.i64.wrap (IntKind.i64.wrap (f89 n1 n3 n5 * f89 n1 n3 n5) + IntKind.i64.wrap (f89 n2 n4 n6 * f89 n2 n4 n6))
noncomputable def F63 : CF tC := mkF tC S63 (fun a => some ((f63 a.1 a.2.1 a.2.2.1 a.2.2.2.1 a.2.2.2.2.1 a.2.2.2.2.2.1), ()))
def h63 (r : Int) : Option (altTy tE S63.outs) := some (r, ())
theorem f63_run : ∀ a, fnS tC G63 (look []) Tryz.f63 S63 a = (fun a => some ((f63 a.1 a.2.1 a.2.2.1 a.2.2.2.1 a.2.2.2.2.1 a.2.2.2.2.2.1), ())) a := fun a => by
  have key : ∀ (n1 : Int) (n2 : Int) (n3 : Int) (n4 : Int) (n5 : Int) (n6 : Int), (bif !f87 n1 n2 then h63 (0 : Int)
else
  bif !f88 n3 n4 n5 n6 then h63 (0 : Int)
  else h63 (IntKind.i64.wrap (IntKind.i64.wrap (f89 n1 n3 n5 * f89 n1 n3 n5) + IntKind.i64.wrap (f89 n2 n4 n6 * f89 n2 n4 n6)))) = h63 (f63 n1 n2 n3 n4 n5 n6) := by
    intros
    unfold f63
    repeat' first | rfl | refine cond_h (g := h63) ?_ ?_
  exact Eq.trans (by kernel_rfl) (key a.1 a.2.1 a.2.2.1 a.2.2.2.1 a.2.2.2.2.1 a.2.2.2.2.2.1)
theorem F63_ok : CFOK tC 63 F63 := mkF_ok Y63 (fn := Tryz.f63) (body := bodyOf Tryz.f63) (by kernel_rfl) (by kernel_rfl) (by kernel_rfl) (m := 0) rfl (lam_le lam_nil) f63_run

/-! floor.Fits -/
noncomputable def G28 : FuncId → Option (CF tC) := look [(59, F59), (26, F26), (60, F60), (61, F61), (62, F62), (63, F63), (64, F64)]
theorem Y28 : SysN tC G28 := (sys_cons F59_ok (mkF_nat _ _) (sys_cons F26_ok (mkF_nat _ _) (sys_cons F60_ok (mkF_nat _ _) (sys_cons F61_ok (mkF_nat _ _) (sys_cons F62_ok (mkF_nat _ _) (sys_cons F63_ok (mkF_nat _ _) (sys_cons F64_ok (mkF_nat _ _) (sys_nil tC_ok tC_eq))))))))
noncomputable def c28_28 : Code := subCode (loopOf (loopOf (bodyOf Tryz.f28) 0) 2) 28
def p28_28 : PS := ⟨0, [2, 3, 4, 9, 10], ⟨[vB, vB, vI, .one (.one (.ptr 0 0 0)), .one (.one (.ptr 1 0 0))] ++ vBs 4 ++ [vI, vI] ++ vBs 82, [.box [.int .i64, .int .i64, .imm 5], .box [.int .i64, .int .i64]]⟩, [⟨.normal, [2, 3, 4, 9, 10], ⟨[vB, vB, vI, .one (.one (.ptr 0 0 0)), .one (.one (.ptr 1 0 0))] ++ vBs 4 ++ [vI, vI] ++ vBs 82, [.box [.int .i64, .int .i64, .imm 5], .box [.int .i64, .int .i64]]⟩, []⟩], []⟩
noncomputable def j28_28 (x : Int × Int × Int × Int × Int × List Int × Int × Int × Unit) : Option (Int × Int × Int × Int × Int × List Int × Int × Int × Unit) :=
  some
  (x.fst, x.snd.fst, IntKind.i64.wrap (x.snd.snd.fst + (1 : Int)), x.snd.snd.snd.fst, x.snd.snd.snd.snd.fst, x.snd.snd.snd.snd.snd.fst,
    x.snd.snd.snd.snd.snd.snd.fst, x.snd.snd.snd.snd.snd.snd.snd.fst, ())
theorem j28_28_run0 (v0 : Int) (v1 : Int) (v2 : Int) (v3 : Int) (v4 : Int) (v5 : List Int) (v6 : Int) (v7 : Int) : pieceK tC G28 (look []) c28_28 p28_28 (v0, v1, v2, v3, v4, v5, v6, v7, ()) = j28_28 (v0, v1, v2, v3, v4, v5, v6, v7, ()) := by kernel_rfl
theorem j28_28_run (x : Int × Int × Int × Int × Int × List Int × Int × Int × Unit) : pieceK tC G28 (look []) c28_28 p28_28 x = j28_28 x := j28_28_run0 x.1 x.2.1 x.2.2.1 x.2.2.2.1 x.2.2.2.2.1 x.2.2.2.2.2.1 x.2.2.2.2.2.2.1 x.2.2.2.2.2.2.2.1
noncomputable def W28_28 : LF tC := cutLF tC p28_28 j28_28
theorem W28_28_ok : keyed 28 (loopOf (loopOf (bodyOf Tryz.f28) 0) 2) = [c28_28] ∧ ∀ n, n ≤ 0 → Snd tC n c28_28 W28_28.k := ⟨by kernel_rfl, fun n hn => cut_ok (p := p28_28) Y28 (lam_le lam_nil n hn) hn j28_28_run⟩
noncomputable def c28_6 : Code := loopOf (loopOf (bodyOf Tryz.f28) 0) 2
def p28_6 : LS := ⟨0, [2, 3, 4, 9, 10], ⟨[vB, vB, vI, .one (.one (.ptr 0 0 0)), .one (.one (.ptr 1 0 0))] ++ vBs 4 ++ [vI, vI] ++ vBs 82, [.box [.int .i64, .int .i64, .imm 5], .box [.int .i64, .int .i64]]⟩, [⟨.ret, [6], ⟨vBs 6 ++ [vO] ++ vBs 86, []⟩, []⟩, ⟨.exit 2, [2, 3, 4, 9], ⟨[vB, vB, vI, .one (.one (.ptr 0 0 0)), .one (.one (.ptr 1 0 0))] ++ vBs 4 ++ [vI] ++ vBs 83, [.box [.int .i64, .int .i64, .imm 5], .box [.int .i64, .int .i64]]⟩, []⟩], []⟩
noncomputable def r28_6 (x : Int × Int × Int × Int × Int × List Int × Int × Int × Unit) : Option (Int × Int × Int × Int × Int × List Int × Int × Int × Unit ⊕ Bool × Unit ⊕ Int × Int × Int × Int × List Int × Int × Int × Unit) :=
  bif decide (x.snd.snd.fst ≤ IntKind.i64.wrap (f60 (IntKind.i64.wrap (x.snd.snd.snd.snd.snd.snd.fst + x.fst)) + (1 : Int))) then
  bif (f61 x.snd.snd.fst x.snd.fst).snd.snd.snd.snd then
    (f62 (x.snd.snd.snd.fst, x.snd.snd.snd.snd.fst, x.snd.snd.snd.snd.snd.fst, x.snd.snd.fst, x.snd.fst, ())).bind fun y76 =>
      bif y76.fst == (2 : Int) then
        bif
            decide
              (f63 x.snd.snd.snd.snd.snd.snd.fst x.snd.snd.snd.snd.snd.snd.snd.fst (f61 x.snd.snd.fst x.snd.fst).fst
                  (f61 x.snd.snd.fst x.snd.fst).snd.fst (f61 x.snd.snd.fst x.snd.fst).snd.snd.fst
                  (f61 x.snd.snd.fst x.snd.fst).snd.snd.snd.fst ≤
                IntKind.i64.wrap (x.fst * x.fst)) then
          some (Sum.inr (Sum.inl (false, ())))
        else
          (j28_28
                (x.fst, x.snd.fst, x.snd.snd.fst, x.snd.snd.snd.fst, x.snd.snd.snd.snd.fst, x.snd.snd.snd.snd.snd.fst,
                  x.snd.snd.snd.snd.snd.snd.fst, x.snd.snd.snd.snd.snd.snd.snd.fst, ())).bind
            fun y74 =>
            some
              (Sum.inl
                (y74.fst, y74.snd.fst, y74.snd.snd.fst, y74.snd.snd.snd.fst, y74.snd.snd.snd.snd.fst, y74.snd.snd.snd.snd.snd.fst,
                  y74.snd.snd.snd.snd.snd.snd.fst, y74.snd.snd.snd.snd.snd.snd.snd.fst, ()))
      else
        (j28_28
              (x.fst, x.snd.fst, x.snd.snd.fst, x.snd.snd.snd.fst, x.snd.snd.snd.snd.fst, x.snd.snd.snd.snd.snd.fst,
                x.snd.snd.snd.snd.snd.snd.fst, x.snd.snd.snd.snd.snd.snd.snd.fst, ())).bind
          fun y75 =>
          some
            (Sum.inl
              (y75.fst, y75.snd.fst, y75.snd.snd.fst, y75.snd.snd.snd.fst, y75.snd.snd.snd.snd.fst, y75.snd.snd.snd.snd.snd.fst,
                y75.snd.snd.snd.snd.snd.snd.fst, y75.snd.snd.snd.snd.snd.snd.snd.fst, ()))
  else
    (j28_28
          (x.fst, x.snd.fst, x.snd.snd.fst, x.snd.snd.snd.fst, x.snd.snd.snd.snd.fst, x.snd.snd.snd.snd.snd.fst,
            x.snd.snd.snd.snd.snd.snd.fst, x.snd.snd.snd.snd.snd.snd.snd.fst, ())).bind
      fun y77 =>
      some
        (Sum.inl
          (y77.fst, y77.snd.fst, y77.snd.snd.fst, y77.snd.snd.snd.fst, y77.snd.snd.snd.snd.fst, y77.snd.snd.snd.snd.snd.fst,
            y77.snd.snd.snd.snd.snd.snd.fst, y77.snd.snd.snd.snd.snd.snd.snd.fst, ()))
else
  some
    (Sum.inr
      (Sum.inr
        (x.fst, x.snd.fst, x.snd.snd.snd.fst, x.snd.snd.snd.snd.fst, x.snd.snd.snd.snd.snd.fst, x.snd.snd.snd.snd.snd.snd.fst,
          x.snd.snd.snd.snd.snd.snd.snd.fst, ())))
theorem r28_6_run0 (v0 : Int) (v1 : Int) (v2 : Int) (v3 : Int) (v4 : Int) (v5 : List Int) (v6 : Int) (v7 : Int) : roundK tC G28 (look [(28, W28_28)]) c28_6 p28_6 (v0, v1, v2, v3, v4, v5, v6, v7, ()) = r28_6 (v0, v1, v2, v3, v4, v5, v6, v7, ()) := by kernel_rfl
theorem r28_6_run (x : Int × Int × Int × Int × Int × List Int × Int × Int × Unit) : roundK tC G28 (look [(28, W28_28)]) c28_6 p28_6 x = r28_6 x := r28_6_run0 x.1 x.2.1 x.2.2.1 x.2.2.2.1 x.2.2.2.2.1 x.2.2.2.2.2.1 x.2.2.2.2.2.2.1 x.2.2.2.2.2.2.2.1
noncomputable def l28_6 (x : Int × Int × Int × Int × Int × List Int × Int × Int × Unit) : Option (Bool × Unit ⊕ Int × Int × Int × Int × List Int × Int × Int × Unit) := iterO r28_6 x
noncomputable def W28_6 : LF tC := loopW tC p28_6 2 l28_6
theorem W28_6_ok : keyed 6 (loopOf (bodyOf Tryz.f28) 0) = [.block 2 (.loop c28_6)] ∧ ∀ n, n ≤ 0 → Snd tC n (.block 2 (.loop c28_6)) W28_6.k := ⟨by kernel_rfl, fun n hn => loopW_ok (p := p28_6) (id := 2) Y28 (lam_le (lam_cons W28_28_ok lam_nil) n hn) hn r28_6_run⟩
noncomputable def c28_0 : Code := loopOf (bodyOf Tryz.f28) 0
def p28_0 : LS := ⟨0, [2, 3, 4, 9], ⟨[vB, vB, vI, .one (.one (.ptr 0 0 0)), .one (.one (.ptr 1 0 0))] ++ vBs 4 ++ [vI] ++ vBs 83, [.box [.int .i64, .int .i64, .imm 5], .box [.int .i64, .int .i64]]⟩, [⟨.ret, [6], ⟨vBs 6 ++ [vO] ++ vBs 86, []⟩, []⟩, ⟨.exit 0, [3, 4], ⟨[vB, vB, vB, .one (.one (.ptr 0 0 0)), .one (.one (.ptr 1 0 0))] ++ vBs 88, [.box [.int .i64, .int .i64, .imm 5], .box [.int .i64, .int .i64]]⟩, []⟩], []⟩
noncomputable def r28_0 (x : Int × Int × Int × Int × List Int × Int × Int × Unit) : Option (Int × Int × Int × Int × List Int × Int × Int × Unit ⊕ Bool × Unit ⊕ Int × Int × List Int × Int × Int × Unit) :=
  bif decide (x.snd.fst ≤ IntKind.i64.wrap (f60 (IntKind.i64.wrap (x.snd.snd.snd.snd.snd.snd.fst + x.fst)) + (1 : Int))) then
  (l28_6
        (x.fst, x.snd.fst, IntKind.i64.wrap (f60 (IntKind.i64.wrap (x.snd.snd.snd.snd.snd.fst - x.fst)) - (1 : Int)), x.snd.snd.fst,
          x.snd.snd.snd.fst, x.snd.snd.snd.snd.fst, x.snd.snd.snd.snd.snd.fst, x.snd.snd.snd.snd.snd.snd.fst, ())).bind
    fun y94 =>
    Sum.elim (fun y92 => some (Sum.inr (Sum.inl (y92.fst, ()))))
      (fun y93 =>
        some
          (Sum.inl
            (y93.fst, IntKind.i64.wrap (y93.snd.fst + (1 : Int)), y93.snd.snd.fst, y93.snd.snd.snd.fst, y93.snd.snd.snd.snd.fst,
              y93.snd.snd.snd.snd.snd.fst, y93.snd.snd.snd.snd.snd.snd.fst, ())))
      y94
else
  some
    (Sum.inr
      (Sum.inr (x.snd.snd.fst, x.snd.snd.snd.fst, x.snd.snd.snd.snd.fst, x.snd.snd.snd.snd.snd.fst, x.snd.snd.snd.snd.snd.snd.fst, ())))
theorem r28_0_run0 (v0 : Int) (v1 : Int) (v2 : Int) (v3 : Int) (v4 : List Int) (v5 : Int) (v6 : Int) : roundK tC G28 (look [(6, W28_6)]) c28_0 p28_0 (v0, v1, v2, v3, v4, v5, v6, ()) = r28_0 (v0, v1, v2, v3, v4, v5, v6, ()) := by kernel_rfl
theorem r28_0_run (x : Int × Int × Int × Int × List Int × Int × Int × Unit) : roundK tC G28 (look [(6, W28_6)]) c28_0 p28_0 x = r28_0 x := r28_0_run0 x.1 x.2.1 x.2.2.1 x.2.2.2.1 x.2.2.2.2.1 x.2.2.2.2.2.1 x.2.2.2.2.2.2.1
noncomputable def l28_0 (x : Int × Int × Int × Int × List Int × Int × Int × Unit) : Option (Bool × Unit ⊕ Int × Int × List Int × Int × Int × Unit) := iterO r28_0 x
noncomputable def W28_0 : LF tC := loopW tC p28_0 0 l28_0
theorem W28_0_ok : keyed 0 (bodyOf Tryz.f28) = [.block 0 (.loop c28_0)] ∧ ∀ n, n ≤ 0 → Snd tC n (.block 0 (.loop c28_0)) W28_0.k := ⟨by kernel_rfl, fun n hn => loopW_ok (p := p28_0) (id := 0) Y28 (lam_le (lam_cons W28_6_ok lam_nil) n hn) hn r28_0_run⟩
def S28 : FS := ⟨[[.v, .v, .s 5], [.v, .v], [.v]], [⟨[.one (.agg [.int .i64, .int .i64, .imm 5]), .one (.agg [.int .i64, .int .i64]), vI], []⟩], [⟨[vO], []⟩], [[.v]], []⟩
noncomputable def f28 (x : Int × Int × List Int × Int × Int × Int × Unit) : Option (Bool × Unit) :=
  (f59 (x.snd.snd.snd.fst, x.snd.snd.snd.snd.fst, ())).bind fun y110 =>
  bif !y110.snd.snd.fst then some (false, ())
  else
    (f26 (x.fst, x.snd.fst, x.snd.snd.fst, ())).bind fun y109 =>
      Sum.elim (fun _x => some (false, ()))
        (fun y108 =>
          Sum.elim (fun _x => some (false, ()))
            (fun _x =>
              bif decide (x.snd.snd.snd.snd.snd.fst < (0 : Int)) then some (false, ())
              else
                bif decide (x.snd.snd.snd.snd.snd.fst > (1024 : Int)) then some (false, ())
                else
                  (l28_0
                        (x.snd.snd.snd.snd.snd.fst,
                          IntKind.i64.wrap (f60 (IntKind.i64.wrap (x.snd.snd.snd.snd.fst - x.snd.snd.snd.snd.snd.fst)) - (1 : Int)), x.fst,
                          x.snd.fst, x.snd.snd.fst, x.snd.snd.snd.fst, x.snd.snd.snd.snd.fst, ())).bind
                    fun y106 =>
                    Sum.elim (fun y104 => some (y104.fst, ()))
                      (fun y105 => some (f64 y105.fst y105.snd.fst y105.snd.snd.fst y105.snd.snd.snd.fst y105.snd.snd.snd.snd.fst, ()))
                      y106)
            y108)
        y109
noncomputable def F28 : CF tC := mkF tC S28 f28
theorem f28_run : ∀ a, fnS tC G28 (look [(0, W28_0)]) Tryz.f28 S28 a = f28 a := fun a => by kernel_rfl
theorem F28_ok : CFOK tC 28 F28 := mkF_ok Y28 (fn := Tryz.f28) (body := bodyOf Tryz.f28) (by kernel_rfl) (by kernel_rfl) (by kernel_rfl) (m := 0) rfl (lam_le (lam_cons W28_0_ok lam_nil)) f28_run

/-! slices.Clone[byte] -/
noncomputable def G29 : FuncId → Option (CF tC) := look []
theorem Y29 : SysN tC G29 := (sys_nil tC_ok tC_eq)
noncomputable def c29_4 : Code := subCode (bodyOf Tryz.f29) 4
def p29_4 : PS := ⟨0, [0], ⟨[.one (.one (.imm 5))] ++ vBs 7, []⟩, [⟨.ret, [2], ⟨vBs 2 ++ [.one (.one (.sl 0))] ++ vBs 5, [.arr 5]⟩, [(2, 5)]⟩], []⟩
noncomputable def j29_4 (x : List (Int) × Unit) : Option (Nat × List (Int) × Unit) := bif roomy (0 + x.1.length) 1 then some (0 + x.1.length, x.1, ()) else none
noncomputable def W29_4 : LF tC := cutLF tC p29_4 j29_4
theorem c29_4_is : NilHead c29_4 0 3 4 22 := ⟨_, _, _, _, _, _, _, _, _, _, _, rfl⟩
theorem j29_4_nil : exec tC G29 (look []) (restOf c29_4) ⟨((p29_4.s.emb ([], ())).t.set 3 (.imm 5 [])).set 4 (.bool true), (p29_4.s.emb ([], ())).h⟩ (fun e st => unP p29_4.k p29_4.outs e st) = j29_4 ([], ()) := by kernel_rfl
theorem j29_4_one (x : p29_4.s.ty tE) : exec tC G29 (look []) (restOf c29_4) ⟨((p29_4.s.emb x).t.set 3 (.imm 5 x.1)).set 4 (.bool false), (p29_4.s.emb x).h⟩ (fun e st => unP p29_4.k p29_4.outs e st) = j29_4 x := by kernel_rfl
theorem W29_4_ok : keyed 4 (bodyOf Tryz.f29) = [c29_4] ∧ ∀ n, n ≤ 0 → Snd tC n c29_4 W29_4.k := ⟨by kernel_rfl, fun n hn => nil_cut (p := p29_4) (f := j29_4) (Λ := look []) (el := 5) Y29 hn c29_4_is (by kernel_rfl) (lam_le lam_nil n hn) (fun x => ⟨5, x.1, rfl, fun t h => match t, x, h with
    | true, (xs, ()), h => by
      have h : xs = [] := h rfl
      subst h
      exact j29_4_nil
    | false, x, _ => j29_4_one x⟩) (fun _ => Nat.le_of_ble_eq_true (by kernel_rfl))⟩
def S29 : FS := ⟨[[.s 5]], [⟨[.one (.one (.imm 5))], []⟩], [⟨[.one (.one (.sl 0))], [.arr 5]⟩], [[.v]], []⟩
noncomputable def f29 (x : List (Int) × Unit) : Option (Nat × List (Int) × Unit) := (j29_4 (x.1, ())).bind fun y => some (y.1, y.2.1, ())
noncomputable def F29 : CF tC := mkF tC S29 f29
theorem f29_run : ∀ a, fnS tC G29 (look [(4, W29_4)]) Tryz.f29 S29 a = f29 a := fun a => by kernel_rfl
theorem F29_ok : CFOK tC 29 F29 := mkF_ok Y29 (fn := Tryz.f29) (body := bodyOf Tryz.f29) (by kernel_rfl) (by kernel_rfl) (by kernel_rfl) (m := 0) rfl (lam_le (lam_cons W29_4_ok lam_nil)) f29_run

/-! robot.New$1 -/
noncomputable def G27 : FuncId → Option (CF tC) := look []
theorem Y27 : SysN tC G27 := (sys_nil tC_ok tC_eq)
def S27 : FS := ⟨[[.v]], [⟨[vI], []⟩], [⟨[vO], []⟩], [[.v]], []⟩
def f27 (n1 : Int) : Bool :=
  bif decide (n1 ≥ (-1048576 : Int)) then decide (n1 ≤ (1048576 : Int)) else false
noncomputable def F27 : CF tC := mkF tC S27 (fun a => some ((f27 a.1), ()))
def h27 (r : Bool) : Option (altTy tE S27.outs) := some (r, ())
theorem f27_run : ∀ a, fnS tC G27 (look []) Tryz.f27 S27 a = (fun a => some ((f27 a.1), ())) a := fun a => by
  have key : ∀ (n1 : Int), (bif decide (n1 ≥ (-1048576 : Int)) then h27 (decide (n1 ≤ (1048576 : Int))) else h27 false) = h27 (f27 n1) := by
    intros
    unfold f27
    repeat' first | rfl | refine cond_h (g := h27) ?_ ?_
  exact Eq.trans (by kernel_rfl) (key a.1)
theorem F27_ok : CFOK tC 27 F27 := mkF_ok Y27 (fn := Tryz.f27) (body := bodyOf Tryz.f27) (by kernel_rfl) (by kernel_rfl) (by kernel_rfl) (m := 0) rfl (lam_le lam_nil) f27_run

/-! robot.New -/
noncomputable def G13 : FuncId → Option (CF tC) := look [(26, F26), (27, F27), (18, F18), (28, F28), (29, F29)]
theorem Y13 : SysN tC G13 := (sys_cons F26_ok (mkF_nat _ _) (sys_cons F27_ok (mkF_nat _ _) (sys_cons F18_ok (mkF_nat _ _) (sys_cons F28_ok (mkF_nat _ _) (sys_cons F29_ok (mkF_nat _ _) (sys_nil tC_ok tC_eq))))))
def S13 : FS := ⟨[[.v, .v, .s 5], [.v, .v, .v, .v], [.v, .v, .v]], [⟨[.one (.agg [.int .i64, .int .i64, .imm 5]), .one (.agg [.int .i64, .int .i64, .int .i64, .int .i64]), .one (.agg [.int .i64, .int .i64, .int .i64])], []⟩], [⟨[.tup [.one .nilp, .one (.lit .i64 1)]], []⟩, ⟨[.tup [.one .nilp, .one (.lit .i64 3)]], []⟩, ⟨[.tup [.one .nilp, .one (.lit .i64 9)]], []⟩, ⟨[.tup [.one (.ptr 0 0 0), .one (.lit .i64 0)]], [.box [.int .i64, .int .i64, .sl 1, .int .i64, .int .i64, .int .i64, .int .i64, .int .i64, .int .i64, .int .i64, .int .i64, .int .i64], .arr 5]⟩], [[.v], [.v]], []⟩
noncomputable def f13 (x : Int × Int × List Int × Int × Int × Int × Int × Int × Int × Int × Unit) : Option (Unit ⊕ Unit ⊕ Unit ⊕ Int × Int × Nat × Int × Int × Int × Int × Int × Int × Int × Int × Int × List Int × Unit) :=
  (f26 (x.fst, x.snd.fst, x.snd.snd.fst, ())).bind fun y33 =>
  Sum.elim (fun _x => some (Sum.inl ()))
    (fun y32 =>
      Sum.elim (fun _x => some (Sum.inr (Sum.inl ())))
        (fun _x =>
          bif !f18 x.snd.snd.snd.fst x.snd.snd.snd.snd.fst x.snd.snd.snd.snd.snd.fst x.snd.snd.snd.snd.snd.snd.fst then some (Sum.inl ())
          else
            bif !f27 x.snd.snd.snd.snd.snd.snd.snd.fst then some (Sum.inl ())
            else
              bif !f27 x.snd.snd.snd.snd.snd.snd.snd.snd.fst then some (Sum.inl ())
              else
                bif decide (x.snd.snd.snd.snd.snd.snd.snd.snd.snd.fst < (0 : Int)) then some (Sum.inl ())
                else
                  bif decide (x.snd.snd.snd.snd.snd.snd.snd.snd.snd.fst ≥ (256 : Int)) then some (Sum.inl ())
                  else
                    (f28
                          (x.fst, x.snd.fst, x.snd.snd.fst, x.snd.snd.snd.snd.snd.snd.snd.fst, x.snd.snd.snd.snd.snd.snd.snd.snd.fst,
                            (20 : Int), ())).bind
                      fun y30 =>
                      bif !y30.fst then some (Sum.inr (Sum.inr (Sum.inl ())))
                      else
                        (f29 (x.snd.snd.fst, ())).bind fun y29 =>
                          some
                            (Sum.inr
                              (Sum.inr
                                (Sum.inr
                                  (x.fst, x.snd.fst, y29.fst, x.snd.snd.snd.fst, x.snd.snd.snd.snd.fst, x.snd.snd.snd.snd.snd.fst,
                                    x.snd.snd.snd.snd.snd.snd.fst, x.snd.snd.snd.snd.snd.snd.snd.fst, x.snd.snd.snd.snd.snd.snd.snd.snd.fst,
                                    x.snd.snd.snd.snd.snd.snd.snd.snd.snd.fst, (0 : Int), (0 : Int), y29.snd.fst, ())))))
        y32)
    y33
noncomputable def F13 : CF tC := mkF tC S13 f13
theorem f13_run : ∀ a, fnS tC G13 (look []) Tryz.f13 S13 a = f13 a := fun a => by kernel_rfl
theorem F13_ok : CFOK tC 13 F13 := mkF_ok Y13 (fn := Tryz.f13) (body := bodyOf Tryz.f13) (by kernel_rfl) (by kernel_rfl) (by kernel_rfl) (m := 0) rfl (lam_le lam_nil) f13_run

/-! robot.wrong -/
noncomputable def G31 : FuncId → Option (CF tC) := look []
theorem Y31 : SysN tC G31 := (sys_nil tC_ok tC_eq)
def S31 : FS := ⟨[[.v]], [⟨[vI], []⟩], [⟨[vO], []⟩], [[.v]], []⟩
def f31 (n1 : Int) : Bool :=
  bif decide (n1 < (0 : Int)) then true else decide (n1 ≥ (256 : Int))
noncomputable def F31 : CF tC := mkF tC S31 (fun a => some ((f31 a.1), ()))
def h31 (r : Bool) : Option (altTy tE S31.outs) := some (r, ())
theorem f31_run : ∀ a, fnS tC G31 (look []) Tryz.f31 S31 a = (fun a => some ((f31 a.1), ())) a := fun a => by
  have key : ∀ (n1 : Int), (bif decide (n1 < (0 : Int)) then h31 true else h31 (decide (n1 ≥ (256 : Int)))) = h31 (f31 n1) := by
    intros
    unfold f31
    repeat' first | rfl | refine cond_h (g := h31) ?_ ?_
  exact Eq.trans (by kernel_rfl) (key a.1)
theorem F31_ok : CFOK tC 31 F31 := mkF_ok Y31 (fn := Tryz.f31) (body := bodyOf Tryz.f31) (by kernel_rfl) (by kernel_rfl) (by kernel_rfl) (m := 0) rfl (lam_le lam_nil) f31_run

/-! slices.IndexFunc[int] -/
noncomputable def G65 : FuncId → Option (CF tC) := look [(31, F31)]
theorem Y65 : SysN tC G65 := (sys_cons F31_ok (mkF_nat _ _) (sys_nil tC_ok tC_eq))
noncomputable def c65_0 : Code := loopOf (bodyOf Tryz.f65) 0
def p65_0 : LS := ⟨0, [0, 1, 7, 8], ⟨[.one (.one (.imm 3)), .one (.fn 31 [])] ++ vBs 5 ++ [vI, vI] ++ vBs 10, []⟩, [⟨.ret, [4], ⟨vBs 4 ++ [vI] ++ vBs 14, []⟩, []⟩, ⟨.exit 0, [], ⟨vBs 19, []⟩, []⟩], []⟩
noncomputable def r65_0 (x : List Int × Int × Int × Unit) : Option (List Int × Int × Int × Unit ⊕ Int × Unit ⊕ Unit) :=
  bif decide (x.snd.snd.fst < x.snd.fst) then
  (idxO x.fst x.snd.snd.fst).bind fun y7 =>
    bif f31 y7 then some (Sum.inr (Sum.inl (x.snd.snd.fst, ())))
    else some (Sum.inl (x.fst, x.snd.fst, IntKind.i64.wrap (x.snd.snd.fst + (1 : Int)), ()))
else some (Sum.inr (Sum.inr ()))
theorem r65_0_run0 (v0 : List Int) (v1 : Int) (v2 : Int) : roundK tC G65 (look []) c65_0 p65_0 (v0, v1, v2, ()) = r65_0 (v0, v1, v2, ()) := by kernel_rfl
theorem r65_0_run (x : List Int × Int × Int × Unit) : roundK tC G65 (look []) c65_0 p65_0 x = r65_0 x := r65_0_run0 x.1 x.2.1 x.2.2.1
noncomputable def l65_0 (x : List Int × Int × Int × Unit) : Option (Int × Unit ⊕ Unit) := iterO r65_0 x
noncomputable def W65_0 : LF tC := loopW tC p65_0 0 l65_0
theorem W65_0_ok : keyed 0 (bodyOf Tryz.f65) = [.block 0 (.loop c65_0)] ∧ ∀ n, n ≤ 0 → Snd tC n (.block 0 (.loop c65_0)) W65_0.k := ⟨by kernel_rfl, fun n hn => loopW_ok (p := p65_0) (id := 0) Y65 (lam_le lam_nil n hn) hn r65_0_run⟩
def S65 : FS := ⟨[[.s 3], [.f]], [⟨[.one (.one (.imm 3)), .one (.fn 31 [])], []⟩], [⟨[vI], []⟩], [[.v]], []⟩
noncomputable def f65 (x : List Int × Unit) : Option (Int × Unit) :=
  (l65_0 (x.fst, (↑x.fst.length : Int), (0 : Int), ())).bind fun y12 =>
  Sum.elim (fun y10 => some (y10.fst, ())) (fun _x => some ((-1 : Int), ())) y12
noncomputable def F65 : CF tC := mkF tC S65 f65
theorem f65_run : ∀ a, fnS tC G65 (look [(0, W65_0)]) Tryz.f65 S65 a = f65 a := fun a => by kernel_rfl
theorem F65_ok : CFOK tC 65 F65 := mkF_ok Y65 (fn := Tryz.f65) (body := bodyOf Tryz.f65) (by kernel_rfl) (by kernel_rfl) (by kernel_rfl) (m := 0) rfl (lam_le (lam_cons W65_0_ok lam_nil)) f65_run

/-! slices.ContainsFunc[int] -/
noncomputable def G30 : FuncId → Option (CF tC) := look [(65, F65), (31, F31)]
theorem Y30 : SysN tC G30 := (sys_cons F65_ok (mkF_nat _ _) (sys_cons F31_ok (mkF_nat _ _) (sys_nil tC_ok tC_eq)))
def S30 : FS := ⟨[[.s 3], [.f]], [⟨[.one (.one (.imm 3)), .one (.fn 31 [])], []⟩], [⟨[vO], []⟩], [[.v]], []⟩
noncomputable def f30 (x : List Int × Unit) : Option (Bool × Unit) :=
  (f65 (x.fst, ())).bind fun y4 => some (decide (y4.fst ≥ (0 : Int)), ())
noncomputable def F30 : CF tC := mkF tC S30 f30
theorem f30_run : ∀ a, fnS tC G30 (look []) Tryz.f30 S30 a = f30 a := fun a => by kernel_rfl
theorem F30_ok : CFOK tC 30 F30 := mkF_ok Y30 (fn := Tryz.f30) (body := bodyOf Tryz.f30) (by kernel_rfl) (by kernel_rfl) (by kernel_rfl) (m := 0) rfl (lam_le lam_nil) f30_run

/-! drive.Clip$1 -/
noncomputable def G66 : FuncId → Option (CF tC) := look []
theorem Y66 : SysN tC G66 := (sys_nil tC_ok tC_eq)
def S66 : FS := ⟨[[.v], [.v]], [⟨[vI, vI], []⟩], [⟨[vI], []⟩], [[.v]], []⟩
def f66 (n1 : Int) (n2 : Int) : Int :=
  bif decide ((bif decide (n2 < n1) then n2 else n1) > IntKind.i64.wrap ((0 : Int) - n2)) then bif decide (n2 < n1) then n2 else n1
else IntKind.i64.wrap ((0 : Int) - n2)
noncomputable def F66 : CF tC := mkF tC S66 (fun a => some ((f66 a.1 a.2.1), ()))
def h66 (r : Int) : Option (altTy tE S66.outs) := some (r, ())
theorem f66_run : ∀ a, fnS tC G66 (look []) Tryz.f66 S66 a = (fun a => some ((f66 a.1 a.2.1), ())) a := fun a => by
  have key : ∀ (n1 : Int) (n2 : Int), (h66
  (bif decide ((bif decide (n2 < n1) then n2 else n1) > IntKind.i64.wrap ((0 : Int) - n2)) then bif decide (n2 < n1) then n2 else n1
  else IntKind.i64.wrap ((0 : Int) - n2))) = h66 (f66 n1 n2) := by
    intros
    unfold f66
    repeat' first | rfl | refine cond_h (g := h66) ?_ ?_
  exact Eq.trans (by kernel_rfl) (key a.1 a.2.1)
theorem F66_ok : CFOK tC 66 F66 := mkF_ok Y66 (fn := Tryz.f66) (body := bodyOf Tryz.f66) (by kernel_rfl) (by kernel_rfl) (by kernel_rfl) (m := 0) rfl (lam_le lam_nil) f66_run

/-! drive.Clip -/
noncomputable def G32 : FuncId → Option (CF tC) := look [(18, F18), (66, F66)]
theorem Y32 : SysN tC G32 := (sys_cons F18_ok (mkF_nat _ _) (sys_cons F66_ok (mkF_nat _ _) (sys_nil tC_ok tC_eq)))
def S32 : FS := ⟨[[.v, .v, .v, .v], [.v, .v, .v, .v]], [⟨[.one (.agg [.int .i64, .int .i64, .int .i64, .int .i64]), .one (.agg [.int .i64, .int .i64, .int .i64, .int .i64])], []⟩], [⟨[.tup [.agg [.int .i64, .int .i64, .int .i64, .int .i64], .one (.int .i64)]], []⟩], [[.v, .v, .v, .v], [.v]], []⟩
def f32 (n1 : Int) (n2 : Int) (n3 : Int) (n4 : Int) (n5 : Int) (n6 : Int) (n7 : Int) (n8 : Int) : Int × Int × Int × Int × Int :=
  bif !f18 n1 n2 n3 n4 then ((0 : Int), (0 : Int), (0 : Int), (0 : Int), (1 : Int))
else (f66 n5 n1, f66 n6 n2, f66 n7 n3, f66 n8 n3, (0 : Int))
noncomputable def F32 : CF tC := mkF tC S32 (fun a => some ((f32 a.1 a.2.1 a.2.2.1 a.2.2.2.1 a.2.2.2.2.1 a.2.2.2.2.2.1 a.2.2.2.2.2.2.1 a.2.2.2.2.2.2.2.1).1, (f32 a.1 a.2.1 a.2.2.1 a.2.2.2.1 a.2.2.2.2.1 a.2.2.2.2.2.1 a.2.2.2.2.2.2.1 a.2.2.2.2.2.2.2.1).2.1, (f32 a.1 a.2.1 a.2.2.1 a.2.2.2.1 a.2.2.2.2.1 a.2.2.2.2.2.1 a.2.2.2.2.2.2.1 a.2.2.2.2.2.2.2.1).2.2.1, (f32 a.1 a.2.1 a.2.2.1 a.2.2.2.1 a.2.2.2.2.1 a.2.2.2.2.2.1 a.2.2.2.2.2.2.1 a.2.2.2.2.2.2.2.1).2.2.2.1, (f32 a.1 a.2.1 a.2.2.1 a.2.2.2.1 a.2.2.2.2.1 a.2.2.2.2.2.1 a.2.2.2.2.2.2.1 a.2.2.2.2.2.2.2.1).2.2.2.2, ()))
def h32 (r : Int × Int × Int × Int × Int) : Option (altTy tE S32.outs) := some (r.1, r.2.1, r.2.2.1, r.2.2.2.1, r.2.2.2.2, ())
theorem f32_run : ∀ a, fnS tC G32 (look []) Tryz.f32 S32 a = (fun a => some ((f32 a.1 a.2.1 a.2.2.1 a.2.2.2.1 a.2.2.2.2.1 a.2.2.2.2.2.1 a.2.2.2.2.2.2.1 a.2.2.2.2.2.2.2.1).1, (f32 a.1 a.2.1 a.2.2.1 a.2.2.2.1 a.2.2.2.2.1 a.2.2.2.2.2.1 a.2.2.2.2.2.2.1 a.2.2.2.2.2.2.2.1).2.1, (f32 a.1 a.2.1 a.2.2.1 a.2.2.2.1 a.2.2.2.2.1 a.2.2.2.2.2.1 a.2.2.2.2.2.2.1 a.2.2.2.2.2.2.2.1).2.2.1, (f32 a.1 a.2.1 a.2.2.1 a.2.2.2.1 a.2.2.2.2.1 a.2.2.2.2.2.1 a.2.2.2.2.2.2.1 a.2.2.2.2.2.2.2.1).2.2.2.1, (f32 a.1 a.2.1 a.2.2.1 a.2.2.2.1 a.2.2.2.2.1 a.2.2.2.2.2.1 a.2.2.2.2.2.2.1 a.2.2.2.2.2.2.2.1).2.2.2.2, ())) a := fun a => by
  have key : ∀ (n1 : Int) (n2 : Int) (n3 : Int) (n4 : Int) (n5 : Int) (n6 : Int) (n7 : Int) (n8 : Int), (bif !f18 n1 n2 n3 n4 then h32 ((0 : Int), (0 : Int), (0 : Int), (0 : Int), (1 : Int))
else h32 (f66 n5 n1, f66 n6 n2, f66 n7 n3, f66 n8 n3, (0 : Int))) = h32 (f32 n1 n2 n3 n4 n5 n6 n7 n8) := by
    intros
    unfold f32
    repeat' first | rfl | refine cond_h (g := h32) ?_ ?_
  exact Eq.trans (by kernel_rfl) (key a.1 a.2.1 a.2.2.1 a.2.2.2.1 a.2.2.2.2.1 a.2.2.2.2.2.1 a.2.2.2.2.2.2.1 a.2.2.2.2.2.2.2.1)
theorem F32_ok : CFOK tC 32 F32 := mkF_ok Y32 (fn := Tryz.f32) (body := bodyOf Tryz.f32) (by kernel_rfl) (by kernel_rfl) (by kernel_rfl) (m := 0) rfl (lam_le lam_nil) f32_run

/-! bytealg.Count -/
def S102 : FS := ⟨[[.s 5], [.v]], [⟨[.one (.one (.imm 5)), .one (.one (.int .u8))], []⟩], [⟨[vI], []⟩], [[.v]], []⟩
def f102 (x : List Int × Int × Unit) : Option (Int × Unit) := some (ctByte x.1 x.2.1, ())
noncomputable def F102 : CF tC := mkF tC S102 f102
theorem F102_ok : CFOK tC 102 F102 := count_ok tC_ok (fn := Tryz.f102) (e := 5) (by kernel_rfl) (by kernel_rfl) (by kernel_rfl) (by kernel_rfl) (by kernel_rfl) (fun args obs K z h => by
  obtain ⟨a, h1, h⟩ := bind_eq h
  obtain ⟨r, h2, h⟩ := bind_eq h
  have e1 := unAlt_ok h1
  obtain ⟨xs, v, ⟨⟩⟩ := a
  cases h2
  have e2 : (⟨[.imm 5 xs, .int .u8 v], []⟩ : St tC.E) = ⟨args, obs⟩ := e1
  injection e2 with e3 e4
  exact ⟨xs, xs, v, e3.symm, e4.symm, rfl, h⟩)

/-! bytes.Count -/
noncomputable def G90 : FuncId → Option (CF tC) := look [(102, F102)]
theorem Y90 : SysN tC G90 := (sys_cons F102_ok (mkF_nat _ _) (sys_nil tC_ok tC_eq))
noncomputable def c90_0 : Code := loopOf (bodyOf Tryz.f90) 0
def p90_0 : LS := ⟨0, [0, 1, 5], ⟨[.one (.one (.imm 5)), .one (.one (.imm 5)), vB, vB, vB, vI] ++ vBs 29, []⟩, [], []⟩
noncomputable def r90_0 (_x : List Int × List Int × Int × Unit) : Option (List Int × List Int × Int × Unit ⊕ Empty) :=
  none
theorem r90_0_run0 (v0 : List Int) (v1 : List Int) (v2 : Int) : roundK tC G90 (look []) c90_0 p90_0 (v0, v1, v2, ()) = r90_0 (v0, v1, v2, ()) := by kernel_rfl
theorem r90_0_run (x : List Int × List Int × Int × Unit) : roundK tC G90 (look []) c90_0 p90_0 x = r90_0 x := r90_0_run0 x.1 x.2.1 x.2.2.1
noncomputable def l90_0 (x : List Int × List Int × Int × Unit) : Option Empty := iterO r90_0 x
noncomputable def W90_0 : LF tC := loopW tC p90_0 0 l90_0
theorem W90_0_ok : keyed 0 (bodyOf Tryz.f90) = [.block 0 (.loop c90_0)] ∧ ∀ n, n ≤ 0 → Snd tC n (.block 0 (.loop c90_0)) W90_0.k := ⟨by kernel_rfl, fun n hn => loopW_ok (p := p90_0) (id := 0) Y90 (lam_le lam_nil n hn) hn r90_0_run⟩
def S90 : FS := ⟨[[.s 5], [.s 5]], [⟨[.one (.one (.imm 5)), .one (.one (.imm 5))], []⟩], [⟨[vI], []⟩], [[.v]], []⟩
noncomputable def f90 (x : List Int × List Int × Unit) : Option (Int × Unit) :=
  bif (↑x.snd.fst.length : Int) == (0 : Int) then none
else
  bif (↑x.snd.fst.length : Int) == (1 : Int) then
    (idxO x.snd.fst (0 : Int)).bind fun y10 => (f102 (x.fst, y10, ())).bind fun y9 => some (y9.fst, ())
  else (l90_0 (x.fst, x.snd.fst, (0 : Int), ())).bind fun y11 => noAlt y11
noncomputable def F90 : CF tC := mkF tC S90 f90
theorem f90_run : ∀ a, fnS tC G90 (look [(0, W90_0)]) Tryz.f90 S90 a = f90 a := fun a => by kernel_rfl
theorem F90_ok : CFOK tC 90 F90 := mkF_ok Y90 (fn := Tryz.f90) (body := bodyOf Tryz.f90) (by kernel_rfl) (by kernel_rfl) (by kernel_rfl) (m := 0) rfl (lam_le (lam_cons W90_0_ok lam_nil)) f90_run

/-! plan.Count -/
noncomputable def G67 : FuncId → Option (CF tC) := look [(22, F22), (90, F90)]
theorem Y67 : SysN tC G67 := (sys_cons F22_ok (mkF_nat _ _) (sys_cons F90_ok (mkF_nat _ _) (sys_nil tC_ok tC_eq)))
def S67 : FS := ⟨[[.v, .v, .s 5], [.v]], [⟨[.one (.agg [.int .i64, .int .i64, .imm 5]), .one (.one (.int .u8))], []⟩], [⟨[vI], []⟩], [[.v]], []⟩
noncomputable def f67 (x : Int × Int × List Int × Int × Unit) : Option (Int × Unit) :=
  (f22 (x.fst, x.snd.fst, x.snd.snd.fst, ())).bind fun y9 =>
  bif !y9.fst then some ((0 : Int), ()) else (f90 (x.snd.snd.fst, [x.snd.snd.snd.fst], ())).bind fun y8 => some (y8.fst, ())
noncomputable def F67 : CF tC := mkF tC S67 f67
theorem f67_run : ∀ a, fnS tC G67 (look []) Tryz.f67 S67 a = f67 a := fun a => by kernel_rfl
theorem F67_ok : CFOK tC 67 F67 := mkF_ok Y67 (fn := Tryz.f67) (body := bodyOf Tryz.f67) (by kernel_rfl) (by kernel_rfl) (by kernel_rfl) (m := 0) rfl (lam_le lam_nil) f67_run

/-! drive.validPoint -/
noncomputable def G44 : FuncId → Option (CF tC) := look [(38, F38)]
theorem Y44 : SysN tC G44 := (sys_cons F38_ok (mkF_nat _ _) (sys_nil tC_ok tC_eq))
def S44 : FS := ⟨[[.v, .v]], [⟨[.one (.agg [.int .i64, .int .i64])], []⟩], [⟨[vO], []⟩], [[.v]], []⟩
def f44 (n1 : Int) (n2 : Int) : Bool :=
  bif f38 n1 (1048576 : Int) then f38 n2 (1048576 : Int) else false
noncomputable def F44 : CF tC := mkF tC S44 (fun a => some ((f44 a.1 a.2.1), ()))
def h44 (r : Bool) : Option (altTy tE S44.outs) := some (r, ())
theorem f44_run : ∀ a, fnS tC G44 (look []) Tryz.f44 S44 a = (fun a => some ((f44 a.1 a.2.1), ())) a := fun a => by
  have key : ∀ (n1 : Int) (n2 : Int), (bif f38 n1 (1048576 : Int) then h44 (f38 n2 (1048576 : Int)) else h44 false) = h44 (f44 n1 n2) := by
    intros
    unfold f44
    repeat' first | rfl | refine cond_h (g := h44) ?_ ?_
  exact Eq.trans (by kernel_rfl) (key a.1 a.2.1)
theorem F44_ok : CFOK tC 44 F44 := mkF_ok Y44 (fn := Tryz.f44) (body := bodyOf Tryz.f44) (by kernel_rfl) (by kernel_rfl) (by kernel_rfl) (m := 0) rfl (lam_le lam_nil) f44_run

/-! drive.place -/
noncomputable def G45 : FuncId → Option (CF tC) := look []
theorem Y45 : SysN tC G45 := (sys_nil tC_ok tC_eq)
def S45 : FS := ⟨[[.v, .v, .v]], [⟨[.one (.agg [.int .i64, .int .i64, .int .i64])], []⟩], [⟨[.one (.agg [.int .i64, .int .i64])], []⟩], [[.v, .v]], []⟩
def f45 (n1 : Int) (n2 : Int) (_n3 : Int) : Int × Int :=
  (n1, n2)
noncomputable def F45 : CF tC := mkF tC S45 (fun a => some ((f45 a.1 a.2.1 a.2.2.1).1, (f45 a.1 a.2.1 a.2.2.1).2, ()))
def h45 (r : Int × Int) : Option (altTy tE S45.outs) := some (r.1, r.2, ())
theorem f45_run : ∀ a, fnS tC G45 (look []) Tryz.f45 S45 a = (fun a => some ((f45 a.1 a.2.1 a.2.2.1).1, (f45 a.1 a.2.1 a.2.2.1).2, ())) a := fun a => by
  have key : ∀ (n1 : Int) (n2 : Int) (n3 : Int), (h45 (n1, n2)) = h45 (f45 n1 n2 n3) := by
    intros
    unfold f45
    repeat' first | rfl | refine cond_h (g := h45) ?_ ?_
  exact Eq.trans (by kernel_rfl) (key a.1 a.2.1 a.2.2.1)
theorem F45_ok : CFOK tC 45 F45 := mkF_ok Y45 (fn := Tryz.f45) (body := bodyOf Tryz.f45) (by kernel_rfl) (by kernel_rfl) (by kernel_rfl) (m := 0) rfl (lam_le lam_nil) f45_run

/-! drive.validPose -/
noncomputable def G41 : FuncId → Option (CF tC) := look [(45, F45), (44, F44), (39, F39)]
theorem Y41 : SysN tC G41 := (sys_cons F45_ok (mkF_nat _ _) (sys_cons F44_ok (mkF_nat _ _) (sys_cons F39_ok (mkF_nat _ _) (sys_nil tC_ok tC_eq))))
def S41 : FS := ⟨[[.v, .v, .v]], [⟨[.one (.agg [.int .i64, .int .i64, .int .i64])], []⟩], [⟨[vO], []⟩], [[.v]], []⟩
def f41 (n1 : Int) (n2 : Int) (n3 : Int) : Bool :=
  bif f44 (f45 n1 n2 n3).fst (f45 n1 n2 n3).snd then f39 n3 (0 : Int) (255 : Int) else false
noncomputable def F41 : CF tC := mkF tC S41 (fun a => some ((f41 a.1 a.2.1 a.2.2.1), ()))
def h41 (r : Bool) : Option (altTy tE S41.outs) := some (r, ())
theorem f41_run : ∀ a, fnS tC G41 (look []) Tryz.f41 S41 a = (fun a => some ((f41 a.1 a.2.1 a.2.2.1), ())) a := fun a => by
  have key : ∀ (n1 : Int) (n2 : Int) (n3 : Int), (bif f44 (f45 n1 n2 n3).fst (f45 n1 n2 n3).snd then h41 (f39 n3 (0 : Int) (255 : Int)) else h41 false) = h41 (f41 n1 n2 n3) := by
    intros
    unfold f41
    repeat' first | rfl | refine cond_h (g := h41) ?_ ?_
  exact Eq.trans (by kernel_rfl) (key a.1 a.2.1 a.2.2.1)
theorem F41_ok : CFOK tC 41 F41 := mkF_ok Y41 (fn := Tryz.f41) (body := bodyOf Tryz.f41) (by kernel_rfl) (by kernel_rfl) (by kernel_rfl) (m := 0) rfl (lam_le lam_nil) f41_run

/-! drive.turned -/
noncomputable def G42 : FuncId → Option (CF tC) := look []
theorem Y42 : SysN tC G42 := (sys_nil tC_ok tC_eq)
def S42 : FS := ⟨[[.v]], [⟨[vI], []⟩], [⟨[vI], []⟩], [[.v]], []⟩
def f42 (n1 : Int) : Int :=
  (IntKind.i64.wrap (n1.tmod (256 : Int) + (256 : Int))).tmod (256 : Int)
noncomputable def F42 : CF tC := mkF tC S42 (fun a => some ((f42 a.1), ()))
def h42 (r : Int) : Option (altTy tE S42.outs) := some (r, ())
theorem f42_run : ∀ a, fnS tC G42 (look []) Tryz.f42 S42 a = (fun a => some ((f42 a.1), ())) a := fun a => by
  have key : ∀ (n1 : Int), (h42 ((IntKind.i64.wrap (n1.tmod (256 : Int) + (256 : Int))).tmod (256 : Int))) = h42 (f42 n1) := by
    intros
    unfold f42
    repeat' first | rfl | refine cond_h (g := h42) ?_ ?_
  exact Eq.trans (by kernel_rfl) (key a.1)
theorem F42_ok : CFOK tC 42 F42 := mkF_ok Y42 (fn := Tryz.f42) (body := bodyOf Tryz.f42) (by kernel_rfl) (by kernel_rfl) (by kernel_rfl) (m := 0) rfl (lam_le lam_nil) f42_run

/-! heading.mark -/
noncomputable def G93 : FuncId → Option (CF tC) := look []
theorem Y93 : SysN tC G93 := (sys_nil tC_ok tC_eq)
def S93 : FS := ⟨[[.v]], [⟨[vI], []⟩], [⟨[vI], []⟩], [[.v]], []⟩
def f93 (n1 : Int) : Int :=
  bits BinOp.and IntKind.i64 n1 (255 : Int)
noncomputable def F93 : CF tC := mkF tC S93 (fun a => some ((f93 a.1), ()))
def h93 (r : Int) : Option (altTy tE S93.outs) := some (r, ())
theorem f93_run : ∀ a, fnS tC G93 (look []) Tryz.f93 S93 a = (fun a => some ((f93 a.1), ())) a := fun a => by
  have key : ∀ (n1 : Int), (h93 (bits BinOp.and IntKind.i64 n1 (255 : Int))) = h93 (f93 n1) := by
    intros
    unfold f93
    repeat' first | rfl | refine cond_h (g := h93) ?_ ?_
  exact Eq.trans (by kernel_rfl) (key a.1)
theorem F93_ok : CFOK tC 93 F93 := mkF_ok Y93 (fn := Tryz.f93) (body := bodyOf Tryz.f93) (by kernel_rfl) (by kernel_rfl) (by kernel_rfl) (m := 0) rfl (lam_le lam_nil) f93_run

/-! heading.lowest -/
noncomputable def G94 : FuncId → Option (CF tC) := look []
theorem Y94 : SysN tC G94 := (sys_nil tC_ok tC_eq)
noncomputable def c94_6 : Code := loopOf (loopOf (bodyOf Tryz.f94) 0) 2
def p94_6 : LS := ⟨0, [0, 1, 2, 6, 7, 9, 13, 14], ⟨[vI, vI, vI, vB, vB, vB, .one (.one (.ptr 0 0 0)), vI, vB, vI, vB, vB, vB, .one (.agg [.int .i64, .int .i64]), vI] ++ vBs 23, [.box [.int .i64, .int .i64, .int .i64]]⟩, [⟨.exit 2, [0, 1, 2, 6, 7, 13, 14], ⟨[vI, vI, vI, vB, vB, vB, .one (.one (.ptr 0 0 0)), vI] ++ vBs 5 ++ [.one (.agg [.int .i64, .int .i64]), vI] ++ vBs 23, [.box [.int .i64, .int .i64, .int .i64]]⟩, []⟩], []⟩
noncomputable def r94_6 (x : Int × Int × Int × Int × Int × Int × Int × Int × Int × Int × Int × Unit) : Option
  (Int × Int × Int × Int × Int × Int × Int × Int × Int × Int × Int × Unit ⊕
    Int × Int × Int × Int × Int × Int × Int × Int × Int × Int × Unit) :=
  bif x.snd.snd.snd.snd.fst != (0 : Int) then
  bif x.snd.snd.snd.snd.fst == (0 : Int) then none
  else
    some
      (Sum.inl
        (x.fst, x.snd.fst, x.snd.snd.fst, x.snd.snd.snd.snd.fst, x.snd.snd.snd.fst.tmod x.snd.snd.snd.snd.fst, x.snd.snd.snd.snd.snd.fst,
          x.snd.snd.snd.snd.snd.snd.fst, x.snd.snd.snd.snd.snd.snd.snd.fst, x.snd.snd.snd.snd.snd.snd.snd.snd.fst,
          x.snd.snd.snd.snd.snd.snd.snd.snd.snd.fst, x.snd.snd.snd.snd.snd.snd.snd.snd.snd.snd.fst, ()))
else
  some
    (Sum.inr
      (x.fst, x.snd.fst, x.snd.snd.fst, x.snd.snd.snd.fst, x.snd.snd.snd.snd.snd.fst, x.snd.snd.snd.snd.snd.snd.fst,
        x.snd.snd.snd.snd.snd.snd.snd.fst, x.snd.snd.snd.snd.snd.snd.snd.snd.fst, x.snd.snd.snd.snd.snd.snd.snd.snd.snd.fst,
        x.snd.snd.snd.snd.snd.snd.snd.snd.snd.snd.fst, ()))
theorem r94_6_run0 (v0 : Int) (v1 : Int) (v2 : Int) (v3 : Int) (v4 : Int) (v5 : Int) (v6 : Int) (v7 : Int) (v8 : Int) (v9 : Int) (v10 : Int) : roundK tC G94 (look []) c94_6 p94_6 (v0, v1, v2, v3, v4, v5, v6, v7, v8, v9, v10, ()) = r94_6 (v0, v1, v2, v3, v4, v5, v6, v7, v8, v9, v10, ()) := by kernel_rfl
theorem r94_6_run (x : Int × Int × Int × Int × Int × Int × Int × Int × Int × Int × Int × Unit) : roundK tC G94 (look []) c94_6 p94_6 x = r94_6 x := r94_6_run0 x.1 x.2.1 x.2.2.1 x.2.2.2.1 x.2.2.2.2.1 x.2.2.2.2.2.1 x.2.2.2.2.2.2.1 x.2.2.2.2.2.2.2.1 x.2.2.2.2.2.2.2.2.1 x.2.2.2.2.2.2.2.2.2.1 x.2.2.2.2.2.2.2.2.2.2.1
noncomputable def l94_6 (x : Int × Int × Int × Int × Int × Int × Int × Int × Int × Int × Int × Unit) : Option (Int × Int × Int × Int × Int × Int × Int × Int × Int × Int × Unit) := iterO r94_6 x
noncomputable def W94_6 : LF tC := loopW tC p94_6 2 l94_6
theorem W94_6_ok : keyed 6 (loopOf (bodyOf Tryz.f94) 0) = [.block 2 (.loop c94_6)] ∧ ∀ n, n ≤ 0 → Snd tC n (.block 2 (.loop c94_6)) W94_6.k := ⟨by kernel_rfl, fun n hn => loopW_ok (p := p94_6) (id := 2) Y94 (lam_le lam_nil n hn) hn r94_6_run⟩
noncomputable def c94_0 : Code := loopOf (bodyOf Tryz.f94) 0
def p94_0 : LS := ⟨0, [0, 1, 2, 6, 7, 13, 14], ⟨[vI, vI, vI, vB, vB, vB, .one (.one (.ptr 0 0 0)), vI] ++ vBs 5 ++ [.one (.agg [.int .i64, .int .i64]), vI] ++ vBs 23, [.box [.int .i64, .int .i64, .int .i64]]⟩, [⟨.exit 0, [0, 1, 2, 6, 7], ⟨[vI, vI, vI, vB, vB, vB, .one (.one (.ptr 0 0 0)), vI] ++ vBs 30, [.box [.int .i64, .int .i64, .int .i64]]⟩, []⟩], []⟩
noncomputable def r94_0 (x : Int × Int × Int × Int × Int × Int × Int × Int × Int × Int × Unit) : Option (Int × Int × Int × Int × Int × Int × Int × Int × Int × Int × Unit ⊕ Int × Int × Int × Int × Int × Int × Int × Unit) :=
  bif decide (x.snd.snd.snd.snd.snd.snd.fst < (2 : Int)) then
  bif decide ((0 : Int) ≤ x.snd.snd.snd.snd.snd.snd.fst) && decide (x.snd.snd.snd.snd.snd.snd.fst < (2 : Int)) then
    (idxO [x.snd.snd.snd.snd.fst, x.snd.snd.snd.snd.snd.fst] x.snd.snd.snd.snd.snd.snd.fst).bind fun y54 =>
      (l94_6
            (x.fst, x.snd.fst, x.snd.snd.fst, x.snd.snd.snd.fst,
              bif decide (IntKind.i64.wrap ((0 : Int) - y54) > y54) then IntKind.i64.wrap ((0 : Int) - y54) else y54, x.snd.snd.snd.snd.fst,
              x.snd.snd.snd.snd.snd.fst, x.snd.snd.snd.snd.snd.snd.fst, x.snd.snd.snd.snd.snd.snd.snd.fst,
              x.snd.snd.snd.snd.snd.snd.snd.snd.fst, x.snd.snd.snd.snd.snd.snd.snd.snd.snd.fst, ())).bind
        fun y53 =>
        some
          (Sum.inl
            (y53.fst, y53.snd.fst, y53.snd.snd.fst, y53.snd.snd.snd.fst, y53.snd.snd.snd.snd.fst, y53.snd.snd.snd.snd.snd.fst,
              IntKind.i64.wrap (y53.snd.snd.snd.snd.snd.snd.fst + (1 : Int)), y53.snd.snd.snd.snd.snd.snd.snd.fst,
              y53.snd.snd.snd.snd.snd.snd.snd.snd.fst, y53.snd.snd.snd.snd.snd.snd.snd.snd.snd.fst, ()))
  else none
else
  some
    (Sum.inr
      (x.fst, x.snd.fst, x.snd.snd.fst, x.snd.snd.snd.fst, x.snd.snd.snd.snd.snd.snd.snd.fst, x.snd.snd.snd.snd.snd.snd.snd.snd.fst,
        x.snd.snd.snd.snd.snd.snd.snd.snd.snd.fst, ()))
theorem r94_0_run0 (v0 : Int) (v1 : Int) (v2 : Int) (v3 : Int) (v4 : Int) (v5 : Int) (v6 : Int) (v7 : Int) (v8 : Int) (v9 : Int) : roundK tC G94 (look [(6, W94_6)]) c94_0 p94_0 (v0, v1, v2, v3, v4, v5, v6, v7, v8, v9, ()) = r94_0 (v0, v1, v2, v3, v4, v5, v6, v7, v8, v9, ()) := by kernel_rfl
theorem r94_0_run (x : Int × Int × Int × Int × Int × Int × Int × Int × Int × Int × Unit) : roundK tC G94 (look [(6, W94_6)]) c94_0 p94_0 x = r94_0 x := r94_0_run0 x.1 x.2.1 x.2.2.1 x.2.2.2.1 x.2.2.2.2.1 x.2.2.2.2.2.1 x.2.2.2.2.2.2.1 x.2.2.2.2.2.2.2.1 x.2.2.2.2.2.2.2.2.1 x.2.2.2.2.2.2.2.2.2.1
noncomputable def l94_0 (x : Int × Int × Int × Int × Int × Int × Int × Int × Int × Int × Unit) : Option (Int × Int × Int × Int × Int × Int × Int × Unit) := iterO r94_0 x
noncomputable def W94_0 : LF tC := loopW tC p94_0 0 l94_0
theorem W94_0_ok : keyed 0 (bodyOf Tryz.f94) = [.block 0 (.loop c94_0)] ∧ ∀ n, n ≤ 0 → Snd tC n (.block 0 (.loop c94_0)) W94_0.k := ⟨by kernel_rfl, fun n hn => loopW_ok (p := p94_0) (id := 0) Y94 (lam_le (lam_cons W94_6_ok lam_nil) n hn) hn r94_0_run⟩
def S94 : FS := ⟨[[.v], [.v], [.v]], [⟨[vI, vI, vI], []⟩], [⟨[.one (.agg [.int .i64, .int .i64, .int .i64])], []⟩], [[.v, .v, .v]], []⟩
noncomputable def f94 (x : Int × Int × Int × Unit) : Option (Int × Int × Int × Unit) :=
  (l94_0 (x.fst, x.snd.fst, x.snd.snd.fst, x.snd.snd.fst, x.fst, x.snd.fst, (0 : Int), (0 : Int), (0 : Int), (0 : Int), ())).bind fun y65 =>
  bif y65.snd.snd.snd.fst == (0 : Int) then none
  else
    bif y65.snd.snd.snd.fst == (0 : Int) then none
    else
      bif y65.snd.snd.snd.fst == (0 : Int) then none
      else
        some
          (IntKind.i64.wrap (y65.fst.tdiv y65.snd.snd.snd.fst), IntKind.i64.wrap (y65.snd.fst.tdiv y65.snd.snd.snd.fst),
            IntKind.i64.wrap (y65.snd.snd.fst.tdiv y65.snd.snd.snd.fst), ())
noncomputable def F94 : CF tC := mkF tC S94 f94
theorem f94_run : ∀ a, fnS tC G94 (look [(0, W94_0)]) Tryz.f94 S94 a = f94 a := fun a => by kernel_rfl
theorem F94_ok : CFOK tC 94 F94 := mkF_ok Y94 (fn := Tryz.f94) (body := bodyOf Tryz.f94) (by kernel_rfl) (by kernel_rfl) (by kernel_rfl) (m := 0) rfl (lam_le (lam_cons W94_0_ok lam_nil)) f94_run

/-! heading.Dir -/
noncomputable def G73 : FuncId → Option (CF tC) := look [(93, F93), (94, F94)]
theorem Y73 : SysN tC G73 := (sys_cons F93_ok (mkF_nat _ _) (sys_cons F94_ok (mkF_nat _ _) (sys_nil tC_ok tC_eq)))
noncomputable def c73_0 : Code := loopOf (bodyOf Tryz.f73) 0
def p73_0 : LS := ⟨0, [2, 4, 21, 22], ⟨[vB, vB, .one (.one (.ptr 0 0 0)), vB, .one (.one (.ptr 1 0 0))] ++ vBs 16 ++ [vI, vI] ++ vBs 10, [.box [.int .i64, .int .i64, .int .i64], .box [.int .i64, .int .i64, .int .i64]]⟩, [⟨.exit 0, [2, 4], ⟨[vB, vB, .one (.one (.ptr 0 0 0)), vB, .one (.one (.ptr 1 0 0))] ++ vBs 28, [.box [.int .i64, .int .i64, .int .i64], .box [.int .i64, .int .i64, .int .i64]]⟩, []⟩], []⟩
noncomputable def r73_0 (x : Int × Int × Int × Int × Int × Int × Int × Int × Unit) : Option (Int × Int × Int × Int × Int × Int × Int × Int × Unit ⊕ Int × Int × Int × Int × Int × Int × Unit) :=
  bif decide (x.snd.fst < x.fst) then
  some
    (Sum.inl
      (x.fst, IntKind.i64.wrap (x.snd.fst + (1 : Int)), x.snd.snd.fst, x.snd.snd.snd.fst, x.snd.snd.snd.snd.fst,
        IntKind.i64.wrap ((0 : Int) - x.snd.snd.snd.snd.snd.snd.fst), x.snd.snd.snd.snd.snd.fst, x.snd.snd.snd.snd.snd.snd.snd.fst, ()))
else
  some
    (Sum.inr
      (x.snd.snd.fst, x.snd.snd.snd.fst, x.snd.snd.snd.snd.fst, x.snd.snd.snd.snd.snd.fst, x.snd.snd.snd.snd.snd.snd.fst,
        x.snd.snd.snd.snd.snd.snd.snd.fst, ()))
theorem r73_0_run0 (v0 : Int) (v1 : Int) (v2 : Int) (v3 : Int) (v4 : Int) (v5 : Int) (v6 : Int) (v7 : Int) : roundK tC G73 (look []) c73_0 p73_0 (v0, v1, v2, v3, v4, v5, v6, v7, ()) = r73_0 (v0, v1, v2, v3, v4, v5, v6, v7, ()) := by kernel_rfl
theorem r73_0_run (x : Int × Int × Int × Int × Int × Int × Int × Int × Unit) : roundK tC G73 (look []) c73_0 p73_0 x = r73_0 x := r73_0_run0 x.1 x.2.1 x.2.2.1 x.2.2.2.1 x.2.2.2.2.1 x.2.2.2.2.2.1 x.2.2.2.2.2.2.1 x.2.2.2.2.2.2.2.1
noncomputable def l73_0 (x : Int × Int × Int × Int × Int × Int × Int × Int × Unit) : Option (Int × Int × Int × Int × Int × Int × Unit) := iterO r73_0 x
noncomputable def W73_0 : LF tC := loopW tC p73_0 0 l73_0
theorem W73_0_ok : keyed 0 (bodyOf Tryz.f73) = [.block 0 (.loop c73_0)] ∧ ∀ n, n ≤ 0 → Snd tC n (.block 0 (.loop c73_0)) W73_0.k := ⟨by kernel_rfl, fun n hn => loopW_ok (p := p73_0) (id := 0) Y73 (lam_le lam_nil n hn) hn r73_0_run⟩
def S73 : FS := ⟨[[.v]], [⟨[vI], []⟩], [⟨[.one (.agg [.int .i64, .int .i64, .int .i64])], []⟩], [[.v, .v, .v]], []⟩
noncomputable def f73 (x : Int × Unit) : Option (Int × Int × Int × Unit) :=
  (f94
      (IntKind.i64.wrap ((4096 : Int) - IntKind.i64.wrap ((f93 x.fst).tmod (64 : Int) * (f93 x.fst).tmod (64 : Int))),
        IntKind.i64.wrap ((128 : Int) * (f93 x.fst).tmod (64 : Int)),
        IntKind.i64.wrap ((4096 : Int) + IntKind.i64.wrap ((f93 x.fst).tmod (64 : Int) * (f93 x.fst).tmod (64 : Int))), ())).bind
  fun y29 =>
  (l73_0
        (IntKind.i64.wrap ((f93 x.fst).tdiv (64 : Int)), (0 : Int), (0 : Int), (0 : Int), (0 : Int), y29.fst, y29.snd.fst, y29.snd.snd.fst,
          ())).bind
    fun y28 => some (y28.snd.snd.snd.fst, y28.snd.snd.snd.snd.fst, y28.snd.snd.snd.snd.snd.fst, ())
noncomputable def F73 : CF tC := mkF tC S73 f73
theorem f73_run : ∀ a, fnS tC G73 (look [(0, W73_0)]) Tryz.f73 S73 a = f73 a := fun a => by kernel_rfl
theorem F73_ok : CFOK tC 73 F73 := mkF_ok Y73 (fn := Tryz.f73) (body := bodyOf Tryz.f73) (by kernel_rfl) (by kernel_rfl) (by kernel_rfl) (m := 0) rfl (lam_le (lam_cons W73_0_ok lam_nil)) f73_run

/-! drive.down -/
noncomputable def G74 : FuncId → Option (CF tC) := look []
theorem Y74 : SysN tC G74 := (sys_nil tC_ok tC_eq)
noncomputable def c74_13 : Code := subCode (bodyOf Tryz.f74) 13
def p74_13 : PS := ⟨0, [5], ⟨vBs 5 ++ [vI] ++ vBs 10, []⟩, [⟨.ret, [4], ⟨vBs 4 ++ [vI] ++ vBs 11, []⟩, []⟩], []⟩
noncomputable def j74_13 (x : Int × Unit) : Option (Int × Unit) :=
  some (x.fst, ())
theorem j74_13_run0 (v0 : Int) : pieceK tC G74 (look []) c74_13 p74_13 (v0, ()) = j74_13 (v0, ()) := by kernel_rfl
theorem j74_13_run (x : Int × Unit) : pieceK tC G74 (look []) c74_13 p74_13 x = j74_13 x := j74_13_run0 x.1
noncomputable def W74_13 : LF tC := cutLF tC p74_13 j74_13
theorem W74_13_ok : keyed 13 (bodyOf Tryz.f74) = [c74_13] ∧ ∀ n, n ≤ 0 → Snd tC n c74_13 W74_13.k := ⟨by kernel_rfl, fun n hn => cut_ok (p := p74_13) Y74 (lam_le lam_nil n hn) hn j74_13_run⟩
def S74 : FS := ⟨[[.v], [.v]], [⟨[vI, vI], []⟩], [⟨[vI], []⟩], [[.v]], []⟩
noncomputable def f74 (x : Int × Int × Unit) : Option (Int × Unit) :=
  bif x.snd.fst == (0 : Int) then none
else
  bif x.snd.fst == (0 : Int) then none
  else
    bif decide (x.fst.tmod x.snd.fst < (0 : Int)) then
      (j74_13 (IntKind.i64.wrap (IntKind.i64.wrap (x.fst.tdiv x.snd.fst) - (1 : Int)), ())).bind fun y8 => some (y8.fst, ())
    else (j74_13 (IntKind.i64.wrap (x.fst.tdiv x.snd.fst), ())).bind fun y9 => some (y9.fst, ())
noncomputable def F74 : CF tC := mkF tC S74 f74
theorem f74_run : ∀ a, fnS tC G74 (look [(13, W74_13)]) Tryz.f74 S74 a = f74 a := fun a => by kernel_rfl
theorem F74_ok : CFOK tC 74 F74 := mkF_ok Y74 (fn := Tryz.f74) (body := bodyOf Tryz.f74) (by kernel_rfl) (by kernel_rfl) (by kernel_rfl) (m := 0) rfl (lam_le (lam_cons W74_13_ok lam_nil)) f74_run

/-! drive.ahead -/
noncomputable def G43 : FuncId → Option (CF tC) := look [(73, F73), (74, F74)]
theorem Y43 : SysN tC G43 := (sys_cons F73_ok (mkF_nat _ _) (sys_cons F74_ok (mkF_nat _ _) (sys_nil tC_ok tC_eq)))
def S43 : FS := ⟨[[.v], [.v]], [⟨[vI, vI], []⟩], [⟨[.one (.agg [.int .i64, .int .i64])], []⟩], [[.v, .v]], []⟩
noncomputable def f43 (x : Int × Int × Unit) : Option (Int × Int × Unit) :=
  (f73 (x.fst, ())).bind fun y12 =>
  (f74 (IntKind.i64.wrap ((bif decide (x.snd.fst > (0 : Int)) then x.snd.fst else (0 : Int)) * y12.fst), y12.snd.snd.fst, ())).bind
    fun y11 =>
    (f74 (IntKind.i64.wrap ((bif decide (x.snd.fst > (0 : Int)) then x.snd.fst else (0 : Int)) * y12.snd.fst), y12.snd.snd.fst, ())).bind
      fun y10 => some (y11.fst, y10.fst, ())
noncomputable def F43 : CF tC := mkF tC S43 f43
theorem f43_run : ∀ a, fnS tC G43 (look []) Tryz.f43 S43 a = f43 a := fun a => by kernel_rfl
theorem F43_ok : CFOK tC 43 F43 := mkF_ok Y43 (fn := Tryz.f43) (body := bodyOf Tryz.f43) (by kernel_rfl) (by kernel_rfl) (by kernel_rfl) (m := 0) rfl (lam_le lam_nil) f43_run

/-! drive.Next -/
noncomputable def G21 : FuncId → Option (CF tC) := look [(41, F41), (17, F17), (38, F38), (42, F42), (43, F43), (45, F45), (44, F44)]
theorem Y21 : SysN tC G21 := (sys_cons F41_ok (mkF_nat _ _) (sys_cons F17_ok (mkF_nat _ _) (sys_cons F38_ok (mkF_nat _ _) (sys_cons F42_ok (mkF_nat _ _) (sys_cons F43_ok (mkF_nat _ _) (sys_cons F45_ok (mkF_nat _ _) (sys_cons F44_ok (mkF_nat _ _) (sys_nil tC_ok tC_eq))))))))
def S21 : FS := ⟨[[.v, .v, .v], [.v, .v], [.v, .v, .v, .v]], [⟨[.one (.agg [.int .i64, .int .i64, .int .i64]), .one (.agg [.int .i64, .int .i64]), .one (.agg [.int .i64, .int .i64, .int .i64, .int .i64])], []⟩], [⟨[.tup [.agg [.int .i64, .int .i64, .int .i64], .one (.int .i64)]], []⟩], [[.v, .v, .v], [.v]], []⟩
noncomputable def f21 (x : Int × Int × Int × Int × Int × Int × Int × Int × Int × Unit) : Option (Int × Int × Int × Int × Unit) :=
  bif !f41 x.fst x.snd.fst x.snd.snd.fst then some ((0 : Int), (0 : Int), (0 : Int), (1 : Int), ())
else
  bif !f17 x.snd.snd.snd.fst x.snd.snd.snd.snd.fst then some ((0 : Int), (0 : Int), (0 : Int), (1 : Int), ())
  else
    bif !f38 x.snd.snd.snd.snd.snd.fst (64 : Int) then some ((0 : Int), (0 : Int), (0 : Int), (2 : Int), ())
    else
      bif !f38 x.snd.snd.snd.snd.snd.snd.fst (64 : Int) then some ((0 : Int), (0 : Int), (0 : Int), (2 : Int), ())
      else
        bif !f38 x.snd.snd.snd.snd.snd.snd.snd.fst (64 : Int) then some ((0 : Int), (0 : Int), (0 : Int), (2 : Int), ())
        else
          bif !f38 x.snd.snd.snd.snd.snd.snd.snd.snd.fst (64 : Int) then some ((0 : Int), (0 : Int), (0 : Int), (2 : Int), ())
          else
            bif x.snd.snd.snd.snd.fst == (0 : Int) then
              some
                (x.fst, x.snd.fst,
                  f42 (IntKind.i64.wrap (IntKind.i64.wrap (x.snd.snd.fst + x.snd.snd.snd.fst) + x.snd.snd.snd.snd.snd.fst)), (0 : Int), ())
            else
              (f43
                    (f42 (IntKind.i64.wrap (IntKind.i64.wrap (x.snd.snd.fst + x.snd.snd.snd.fst) + x.snd.snd.snd.snd.snd.fst)),
                      IntKind.i64.wrap (x.snd.snd.snd.snd.fst + x.snd.snd.snd.snd.snd.snd.fst), ())).bind
                fun y16 =>
                bif
                    !f44
                        (f45 (IntKind.i64.wrap (x.fst + IntKind.i64.wrap (y16.fst + x.snd.snd.snd.snd.snd.snd.snd.fst)))
                            (IntKind.i64.wrap (x.snd.fst + IntKind.i64.wrap (y16.snd.fst + x.snd.snd.snd.snd.snd.snd.snd.snd.fst)))
                            (f42 (IntKind.i64.wrap (IntKind.i64.wrap (x.snd.snd.fst + x.snd.snd.snd.fst) + x.snd.snd.snd.snd.snd.fst)))).fst
                        (f45 (IntKind.i64.wrap (x.fst + IntKind.i64.wrap (y16.fst + x.snd.snd.snd.snd.snd.snd.snd.fst)))
                            (IntKind.i64.wrap (x.snd.fst + IntKind.i64.wrap (y16.snd.fst + x.snd.snd.snd.snd.snd.snd.snd.snd.fst)))
                            (f42
                              (IntKind.i64.wrap
                                (IntKind.i64.wrap (x.snd.snd.fst + x.snd.snd.snd.fst) + x.snd.snd.snd.snd.snd.fst)))).snd then
                  some ((0 : Int), (0 : Int), (0 : Int), (2 : Int), ())
                else
                  some
                    (IntKind.i64.wrap (x.fst + IntKind.i64.wrap (y16.fst + x.snd.snd.snd.snd.snd.snd.snd.fst)),
                      IntKind.i64.wrap (x.snd.fst + IntKind.i64.wrap (y16.snd.fst + x.snd.snd.snd.snd.snd.snd.snd.snd.fst)),
                      f42 (IntKind.i64.wrap (IntKind.i64.wrap (x.snd.snd.fst + x.snd.snd.snd.fst) + x.snd.snd.snd.snd.snd.fst)), (0 : Int),
                      ())
noncomputable def F21 : CF tC := mkF tC S21 f21
theorem f21_run : ∀ a, fnS tC G21 (look []) Tryz.f21 S21 a = f21 a := fun a => by kernel_rfl
theorem F21_ok : CFOK tC 21 F21 := mkF_ok Y21 (fn := Tryz.f21) (body := bodyOf Tryz.f21) (by kernel_rfl) (by kernel_rfl) (by kernel_rfl) (m := 0) rfl (lam_le lam_nil) f21_run

/-! segment.corners -/
noncomputable def G105 : FuncId → Option (CF tC) := look []
theorem Y105 : SysN tC G105 := (sys_nil tC_ok tC_eq)
def S105 : FS := ⟨[[.v, .v, .v, .v]], [⟨[.one (.agg [.int .i64, .int .i64, .int .i64, .int .i64])], []⟩], [⟨[.one (.agg [.int .i64, .int .i64, .int .i64, .int .i64, .int .i64, .int .i64, .int .i64, .int .i64])], []⟩], [[.v, .v, .v, .v, .v, .v, .v, .v]], []⟩
def f105 (n1 : Int) (n2 : Int) (n3 : Int) (n4 : Int) : Int × Int × Int × Int × Int × Int × Int × Int :=
  (n1, n2, n3, n2, n1, n4, n3, n4)
noncomputable def F105 : CF tC := mkF tC S105 (fun a => some ((f105 a.1 a.2.1 a.2.2.1 a.2.2.2.1).1, (f105 a.1 a.2.1 a.2.2.1 a.2.2.2.1).2.1, (f105 a.1 a.2.1 a.2.2.1 a.2.2.2.1).2.2.1, (f105 a.1 a.2.1 a.2.2.1 a.2.2.2.1).2.2.2.1, (f105 a.1 a.2.1 a.2.2.1 a.2.2.2.1).2.2.2.2.1, (f105 a.1 a.2.1 a.2.2.1 a.2.2.2.1).2.2.2.2.2.1, (f105 a.1 a.2.1 a.2.2.1 a.2.2.2.1).2.2.2.2.2.2.1, (f105 a.1 a.2.1 a.2.2.1 a.2.2.2.1).2.2.2.2.2.2.2, ()))
def h105 (r : Int × Int × Int × Int × Int × Int × Int × Int) : Option (altTy tE S105.outs) := some (r.1, r.2.1, r.2.2.1, r.2.2.2.1, r.2.2.2.2.1, r.2.2.2.2.2.1, r.2.2.2.2.2.2.1, r.2.2.2.2.2.2.2, ())
theorem f105_run : ∀ a, fnS tC G105 (look []) Tryz.f105 S105 a = (fun a => some ((f105 a.1 a.2.1 a.2.2.1 a.2.2.2.1).1, (f105 a.1 a.2.1 a.2.2.1 a.2.2.2.1).2.1, (f105 a.1 a.2.1 a.2.2.1 a.2.2.2.1).2.2.1, (f105 a.1 a.2.1 a.2.2.1 a.2.2.2.1).2.2.2.1, (f105 a.1 a.2.1 a.2.2.1 a.2.2.2.1).2.2.2.2.1, (f105 a.1 a.2.1 a.2.2.1 a.2.2.2.1).2.2.2.2.2.1, (f105 a.1 a.2.1 a.2.2.1 a.2.2.2.1).2.2.2.2.2.2.1, (f105 a.1 a.2.1 a.2.2.1 a.2.2.2.1).2.2.2.2.2.2.2, ())) a := fun a => by
  have key : ∀ (n1 : Int) (n2 : Int) (n3 : Int) (n4 : Int), (h105 (n1, n2, n3, n2, n1, n4, n3, n4)) = h105 (f105 n1 n2 n3 n4) := by
    intros
    unfold f105
    repeat' first | rfl | refine cond_h (g := h105) ?_ ?_
  exact Eq.trans (by kernel_rfl) (key a.1 a.2.1 a.2.2.1 a.2.2.2.1)
theorem F105_ok : CFOK tC 105 F105 := mkF_ok Y105 (fn := Tryz.f105) (body := bodyOf Tryz.f105) (by kernel_rfl) (by kernel_rfl) (by kernel_rfl) (m := 0) rfl (lam_le lam_nil) f105_run

/-! segment.cross -/
noncomputable def G118 : FuncId → Option (CF tC) := look []
theorem Y118 : SysN tC G118 := (sys_nil tC_ok tC_eq)
def S118 : FS := ⟨[[.v, .v], [.v, .v], [.v, .v]], [⟨[.one (.agg [.int .i64, .int .i64]), .one (.agg [.int .i64, .int .i64]), .one (.agg [.int .i64, .int .i64])], []⟩], [⟨[vI], []⟩], [[.v]], []⟩
def f118 (n1 : Int) (n2 : Int) (n3 : Int) (n4 : Int) (n5 : Int) (n6 : Int) : Int :=
  IntKind.i64.wrap
  (IntKind.i64.wrap (IntKind.i64.wrap (n3 - n1) * IntKind.i64.wrap (n6 - n2)) -
    IntKind.i64.wrap (IntKind.i64.wrap (n4 - n2) * IntKind.i64.wrap (n5 - n1)))
noncomputable def F118 : CF tC := mkF tC S118 (fun a => some ((f118 a.1 a.2.1 a.2.2.1 a.2.2.2.1 a.2.2.2.2.1 a.2.2.2.2.2.1), ()))
def h118 (r : Int) : Option (altTy tE S118.outs) := some (r, ())
theorem f118_run : ∀ a, fnS tC G118 (look []) Tryz.f118 S118 a = (fun a => some ((f118 a.1 a.2.1 a.2.2.1 a.2.2.2.1 a.2.2.2.2.1 a.2.2.2.2.2.1), ())) a := fun a => by
  have key : ∀ (n1 : Int) (n2 : Int) (n3 : Int) (n4 : Int) (n5 : Int) (n6 : Int), (h118
  (IntKind.i64.wrap
    (IntKind.i64.wrap (IntKind.i64.wrap (n3 - n1) * IntKind.i64.wrap (n6 - n2)) -
      IntKind.i64.wrap (IntKind.i64.wrap (n4 - n2) * IntKind.i64.wrap (n5 - n1))))) = h118 (f118 n1 n2 n3 n4 n5 n6) := by
    intros
    unfold f118
    repeat' first | rfl | refine cond_h (g := h118) ?_ ?_
  exact Eq.trans (by kernel_rfl) (key a.1 a.2.1 a.2.2.1 a.2.2.2.1 a.2.2.2.2.1 a.2.2.2.2.2.1)
theorem F118_ok : CFOK tC 118 F118 := mkF_ok Y118 (fn := Tryz.f118) (body := bodyOf Tryz.f118) (by kernel_rfl) (by kernel_rfl) (by kernel_rfl) (m := 0) rfl (lam_le lam_nil) f118_run

/-! segment.sign -/
noncomputable def G117 : FuncId → Option (CF tC) := look []
theorem Y117 : SysN tC G117 := (sys_nil tC_ok tC_eq)
def S117 : FS := ⟨[[.v]], [⟨[vI], []⟩], [⟨[vI], []⟩], [[.v]], []⟩
def f117 (n1 : Int) : Int :=
  bif decide (n1 > (0 : Int)) then (1 : Int) else bif decide (n1 < (0 : Int)) then (-1 : Int) else (0 : Int)
noncomputable def F117 : CF tC := mkF tC S117 (fun a => some ((f117 a.1), ()))
def h117 (r : Int) : Option (altTy tE S117.outs) := some (r, ())
theorem f117_run : ∀ a, fnS tC G117 (look []) Tryz.f117 S117 a = (fun a => some ((f117 a.1), ())) a := fun a => by
  have key : ∀ (n1 : Int), (bif decide (n1 > (0 : Int)) then h117 (1 : Int) else bif decide (n1 < (0 : Int)) then h117 (-1 : Int) else h117 (0 : Int)) = h117 (f117 n1) := by
    intros
    unfold f117
    repeat' first | rfl | refine cond_h (g := h117) ?_ ?_
  exact Eq.trans (by kernel_rfl) (key a.1)
theorem F117_ok : CFOK tC 117 F117 := mkF_ok Y117 (fn := Tryz.f117) (body := bodyOf Tryz.f117) (by kernel_rfl) (by kernel_rfl) (by kernel_rfl) (m := 0) rfl (lam_le lam_nil) f117_run

/-! segment.meetsRect -/
noncomputable def G104 : FuncId → Option (CF tC) := look [(105, F105), (118, F118), (117, F117)]
theorem Y104 : SysN tC G104 := (sys_cons F105_ok (mkF_nat _ _) (sys_cons F118_ok (mkF_nat _ _) (sys_cons F117_ok (mkF_nat _ _) (sys_nil tC_ok tC_eq))))
noncomputable def c104_0 : Code := loopOf (bodyOf Tryz.f104) 0
def p104_0 : LS := ⟨0, [3, 4, 7, 8, 51, 52], ⟨[vB, vB, vB, .one (.one (.ptr 0 0 0)), .one (.one (.ptr 1 0 0)), vB, vB, vI, vI] ++ vBs 42 ++ [.one (.agg [.int .i64, .int .i64, .int .i64, .int .i64, .int .i64, .int .i64, .int .i64, .int .i64]), vI] ++ vBs 20, [.box [.int .i64, .int .i64], .box [.int .i64, .int .i64]]⟩, [⟨.exit 0, [7, 8], ⟨vBs 7 ++ [vI, vI] ++ vBs 64, []⟩, []⟩], []⟩
noncomputable def r104_0 (x : Int × Int × Int × Int × Int × Int × Int × Int × Int × Int × Int × Int × Int × Int × Int × Unit) : Option (Int × Int × Int × Int × Int × Int × Int × Int × Int × Int × Int × Int × Int × Int × Int × Unit ⊕ Int × Int × Unit) :=
  bif decide (x.snd.snd.snd.snd.snd.snd.snd.snd.snd.snd.fst < (4 : Int)) then
  bif
      decide ((0 : Int) ≤ x.snd.snd.snd.snd.snd.snd.snd.snd.snd.snd.fst) &&
        decide (x.snd.snd.snd.snd.snd.snd.snd.snd.snd.snd.fst < (4 : Int)) then
    (idxO
          [Pt.mk x.snd.snd.fst x.snd.snd.snd.fst, Pt.mk x.snd.snd.snd.snd.fst x.snd.snd.snd.snd.snd.fst,
            Pt.mk x.snd.snd.snd.snd.snd.snd.fst x.snd.snd.snd.snd.snd.snd.snd.fst,
            Pt.mk x.snd.snd.snd.snd.snd.snd.snd.snd.fst x.snd.snd.snd.snd.snd.snd.snd.snd.snd.fst]
          x.snd.snd.snd.snd.snd.snd.snd.snd.snd.snd.fst).bind
      fun y27 =>
      some
        (Sum.inl
          (bif
                decide
                  (f117
                      (f118 x.snd.snd.snd.snd.snd.snd.snd.snd.snd.snd.snd.fst x.snd.snd.snd.snd.snd.snd.snd.snd.snd.snd.snd.snd.fst
                        x.snd.snd.snd.snd.snd.snd.snd.snd.snd.snd.snd.snd.snd.fst
                        x.snd.snd.snd.snd.snd.snd.snd.snd.snd.snd.snd.snd.snd.snd.fst y27.X y27.Y) <
                    x.fst) then
              f117
                (f118 x.snd.snd.snd.snd.snd.snd.snd.snd.snd.snd.snd.fst x.snd.snd.snd.snd.snd.snd.snd.snd.snd.snd.snd.snd.fst
                  x.snd.snd.snd.snd.snd.snd.snd.snd.snd.snd.snd.snd.snd.fst x.snd.snd.snd.snd.snd.snd.snd.snd.snd.snd.snd.snd.snd.snd.fst
                  y27.X y27.Y)
            else x.fst,
            bif
                decide
                  (f117
                      (f118 x.snd.snd.snd.snd.snd.snd.snd.snd.snd.snd.snd.fst x.snd.snd.snd.snd.snd.snd.snd.snd.snd.snd.snd.snd.fst
                        x.snd.snd.snd.snd.snd.snd.snd.snd.snd.snd.snd.snd.snd.fst
                        x.snd.snd.snd.snd.snd.snd.snd.snd.snd.snd.snd.snd.snd.snd.fst y27.X y27.Y) >
                    x.snd.fst) then
              f117
                (f118 x.snd.snd.snd.snd.snd.snd.snd.snd.snd.snd.snd.fst x.snd.snd.snd.snd.snd.snd.snd.snd.snd.snd.snd.snd.fst
                  x.snd.snd.snd.snd.snd.snd.snd.snd.snd.snd.snd.snd.snd.fst x.snd.snd.snd.snd.snd.snd.snd.snd.snd.snd.snd.snd.snd.snd.fst
                  y27.X y27.Y)
            else x.snd.fst,
            x.snd.snd.fst, x.snd.snd.snd.fst, x.snd.snd.snd.snd.fst, x.snd.snd.snd.snd.snd.fst, x.snd.snd.snd.snd.snd.snd.fst,
            x.snd.snd.snd.snd.snd.snd.snd.fst, x.snd.snd.snd.snd.snd.snd.snd.snd.fst, x.snd.snd.snd.snd.snd.snd.snd.snd.snd.fst,
            IntKind.i64.wrap (x.snd.snd.snd.snd.snd.snd.snd.snd.snd.snd.fst + (1 : Int)), x.snd.snd.snd.snd.snd.snd.snd.snd.snd.snd.snd.fst,
            x.snd.snd.snd.snd.snd.snd.snd.snd.snd.snd.snd.snd.fst, x.snd.snd.snd.snd.snd.snd.snd.snd.snd.snd.snd.snd.snd.fst,
            x.snd.snd.snd.snd.snd.snd.snd.snd.snd.snd.snd.snd.snd.snd.fst, ()))
  else none
else some (Sum.inr (x.fst, x.snd.fst, ()))
theorem r104_0_run0 (v0 : Int) (v1 : Int) (v2 : Int) (v3 : Int) (v4 : Int) (v5 : Int) (v6 : Int) (v7 : Int) (v8 : Int) (v9 : Int) (v10 : Int) (v11 : Int) (v12 : Int) (v13 : Int) (v14 : Int) : roundK tC G104 (look []) c104_0 p104_0 (v0, v1, v2, v3, v4, v5, v6, v7, v8, v9, v10, v11, v12, v13, v14, ()) = r104_0 (v0, v1, v2, v3, v4, v5, v6, v7, v8, v9, v10, v11, v12, v13, v14, ()) := by kernel_rfl
theorem r104_0_run (x : Int × Int × Int × Int × Int × Int × Int × Int × Int × Int × Int × Int × Int × Int × Int × Unit) : roundK tC G104 (look []) c104_0 p104_0 x = r104_0 x := r104_0_run0 x.1 x.2.1 x.2.2.1 x.2.2.2.1 x.2.2.2.2.1 x.2.2.2.2.2.1 x.2.2.2.2.2.2.1 x.2.2.2.2.2.2.2.1 x.2.2.2.2.2.2.2.2.1 x.2.2.2.2.2.2.2.2.2.1 x.2.2.2.2.2.2.2.2.2.2.1 x.2.2.2.2.2.2.2.2.2.2.2.1 x.2.2.2.2.2.2.2.2.2.2.2.2.1 x.2.2.2.2.2.2.2.2.2.2.2.2.2.1 x.2.2.2.2.2.2.2.2.2.2.2.2.2.2.1
noncomputable def l104_0 (x : Int × Int × Int × Int × Int × Int × Int × Int × Int × Int × Int × Int × Int × Int × Int × Unit) : Option (Int × Int × Unit) := iterO r104_0 x
noncomputable def W104_0 : LF tC := loopW tC p104_0 0 l104_0
theorem W104_0_ok : keyed 0 (bodyOf Tryz.f104) = [.block 0 (.loop c104_0)] ∧ ∀ n, n ≤ 0 → Snd tC n (.block 0 (.loop c104_0)) W104_0.k := ⟨by kernel_rfl, fun n hn => loopW_ok (p := p104_0) (id := 0) Y104 (lam_le lam_nil n hn) hn r104_0_run⟩
def S104 : FS := ⟨[[.v, .v], [.v, .v], [.v, .v, .v, .v]], [⟨[.one (.agg [.int .i64, .int .i64]), .one (.agg [.int .i64, .int .i64]), .one (.agg [.int .i64, .int .i64, .int .i64, .int .i64])], []⟩], [⟨[vO], []⟩], [[.v]], []⟩
noncomputable def f104 (x : Int × Int × Int × Int × Int × Int × Int × Int × Unit) : Option (Bool × Unit) :=
  bif decide ((bif decide (x.snd.snd.fst > x.fst) then x.snd.snd.fst else x.fst) < x.snd.snd.snd.snd.fst) then some (false, ())
else
  bif decide ((bif decide (x.snd.snd.fst < x.fst) then x.snd.snd.fst else x.fst) > x.snd.snd.snd.snd.snd.snd.fst) then some (false, ())
  else
    bif decide ((bif decide (x.snd.snd.snd.fst > x.snd.fst) then x.snd.snd.snd.fst else x.snd.fst) < x.snd.snd.snd.snd.snd.fst) then
      some (false, ())
    else
      bif
          decide
            ((bif decide (x.snd.snd.snd.fst < x.snd.fst) then x.snd.snd.snd.fst else x.snd.fst) > x.snd.snd.snd.snd.snd.snd.snd.fst) then
        some (false, ())
      else
        (l104_0
              ((1 : Int), (-1 : Int),
                (f105 x.snd.snd.snd.snd.fst x.snd.snd.snd.snd.snd.fst x.snd.snd.snd.snd.snd.snd.fst x.snd.snd.snd.snd.snd.snd.snd.fst).fst,
                (f105 x.snd.snd.snd.snd.fst x.snd.snd.snd.snd.snd.fst x.snd.snd.snd.snd.snd.snd.fst
                      x.snd.snd.snd.snd.snd.snd.snd.fst).snd.fst,
                (f105 x.snd.snd.snd.snd.fst x.snd.snd.snd.snd.snd.fst x.snd.snd.snd.snd.snd.snd.fst
                        x.snd.snd.snd.snd.snd.snd.snd.fst).snd.snd.fst,
                (f105 x.snd.snd.snd.snd.fst x.snd.snd.snd.snd.snd.fst x.snd.snd.snd.snd.snd.snd.fst
                          x.snd.snd.snd.snd.snd.snd.snd.fst).snd.snd.snd.fst,
                (f105 x.snd.snd.snd.snd.fst x.snd.snd.snd.snd.snd.fst x.snd.snd.snd.snd.snd.snd.fst
                            x.snd.snd.snd.snd.snd.snd.snd.fst).snd.snd.snd.snd.fst,
                (f105 x.snd.snd.snd.snd.fst x.snd.snd.snd.snd.snd.fst x.snd.snd.snd.snd.snd.snd.fst
                              x.snd.snd.snd.snd.snd.snd.snd.fst).snd.snd.snd.snd.snd.fst,
                (f105 x.snd.snd.snd.snd.fst x.snd.snd.snd.snd.snd.fst x.snd.snd.snd.snd.snd.snd.fst
                                x.snd.snd.snd.snd.snd.snd.snd.fst).snd.snd.snd.snd.snd.snd.fst,
                (f105 x.snd.snd.snd.snd.fst x.snd.snd.snd.snd.snd.fst x.snd.snd.snd.snd.snd.snd.fst
                                x.snd.snd.snd.snd.snd.snd.snd.fst).snd.snd.snd.snd.snd.snd.snd,
                (0 : Int), x.fst, x.snd.fst, x.snd.snd.fst, x.snd.snd.snd.fst, ())).bind
          fun y31 => bif decide (y31.fst ≤ (0 : Int)) then some (decide (y31.snd.fst ≥ (0 : Int)), ()) else some (false, ())
noncomputable def F104 : CF tC := mkF tC S104 f104
theorem f104_run : ∀ a, fnS tC G104 (look [(0, W104_0)]) Tryz.f104 S104 a = f104 a := fun a => by kernel_rfl
theorem F104_ok : CFOK tC 104 F104 := mkF_ok Y104 (fn := Tryz.f104) (body := bodyOf Tryz.f104) (by kernel_rfl) (by kernel_rfl) (by kernel_rfl) (m := 0) rfl (lam_le (lam_cons W104_0_ok lam_nil)) f104_run

/-! segment.square -/
noncomputable def G119 : FuncId → Option (CF tC) := look []
theorem Y119 : SysN tC G119 := (sys_nil tC_ok tC_eq)
def S119 : FS := ⟨[[.v, .v], [.v, .v]], [⟨[.one (.agg [.int .i64, .int .i64]), .one (.agg [.int .i64, .int .i64])], []⟩], [⟨[vI], []⟩], [[.v]], []⟩
def f119 (n1 : Int) (n2 : Int) (n3 : Int) (n4 : Int) : Int :=
  IntKind.i64.wrap
  (IntKind.i64.wrap (IntKind.i64.wrap (n1 - n3) * IntKind.i64.wrap (n1 - n3)) +
    IntKind.i64.wrap (IntKind.i64.wrap (n2 - n4) * IntKind.i64.wrap (n2 - n4)))
noncomputable def F119 : CF tC := mkF tC S119 (fun a => some ((f119 a.1 a.2.1 a.2.2.1 a.2.2.2.1), ()))
def h119 (r : Int) : Option (altTy tE S119.outs) := some (r, ())
theorem f119_run : ∀ a, fnS tC G119 (look []) Tryz.f119 S119 a = (fun a => some ((f119 a.1 a.2.1 a.2.2.1 a.2.2.2.1), ())) a := fun a => by
  have key : ∀ (n1 : Int) (n2 : Int) (n3 : Int) (n4 : Int), (h119
  (IntKind.i64.wrap
    (IntKind.i64.wrap (IntKind.i64.wrap (n1 - n3) * IntKind.i64.wrap (n1 - n3)) +
      IntKind.i64.wrap (IntKind.i64.wrap (n2 - n4) * IntKind.i64.wrap (n2 - n4))))) = h119 (f119 n1 n2 n3 n4) := by
    intros
    unfold f119
    repeat' first | rfl | refine cond_h (g := h119) ?_ ?_
  exact Eq.trans (by kernel_rfl) (key a.1 a.2.1 a.2.2.1 a.2.2.2.1)
theorem F119_ok : CFOK tC 119 F119 := mkF_ok Y119 (fn := Tryz.f119) (body := bodyOf Tryz.f119) (by kernel_rfl) (by kernel_rfl) (by kernel_rfl) (m := 0) rfl (lam_le lam_nil) f119_run

/-! segment.within -/
noncomputable def G106 : FuncId → Option (CF tC) := look [(119, F119), (118, F118)]
theorem Y106 : SysN tC G106 := (sys_cons F119_ok (mkF_nat _ _) (sys_cons F118_ok (mkF_nat _ _) (sys_nil tC_ok tC_eq)))
def S106 : FS := ⟨[[.v, .v], [.v, .v], [.v, .v], [.v]], [⟨[.one (.agg [.int .i64, .int .i64]), .one (.agg [.int .i64, .int .i64]), .one (.agg [.int .i64, .int .i64]), vI], []⟩], [⟨[vO], []⟩], [[.v]], []⟩
def f106 (n1 : Int) (n2 : Int) (n3 : Int) (n4 : Int) (n5 : Int) (n6 : Int) (n7 : Int) : Bool :=
  bif
    decide
      (IntKind.i64.wrap
          (IntKind.i64.wrap (IntKind.i64.wrap (n1 - n3) * IntKind.i64.wrap (n5 - n3)) +
            IntKind.i64.wrap (IntKind.i64.wrap (n2 - n4) * IntKind.i64.wrap (n6 - n4))) ≤
        (0 : Int)) then
  decide (f119 n1 n2 n3 n4 ≤ IntKind.i64.wrap (n7 * n7))
else
  bif
      decide
        (IntKind.i64.wrap
            (IntKind.i64.wrap (IntKind.i64.wrap (n1 - n3) * IntKind.i64.wrap (n5 - n3)) +
              IntKind.i64.wrap (IntKind.i64.wrap (n2 - n4) * IntKind.i64.wrap (n6 - n4))) ≥
          IntKind.i64.wrap
            (IntKind.i64.wrap (IntKind.i64.wrap (n5 - n3) * IntKind.i64.wrap (n5 - n3)) +
              IntKind.i64.wrap (IntKind.i64.wrap (n6 - n4) * IntKind.i64.wrap (n6 - n4)))) then
    decide (f119 n1 n2 n5 n6 ≤ IntKind.i64.wrap (n7 * n7))
  else
    bif decide (f118 n3 n4 n5 n6 n1 n2 < (-4194304 : Int)) then false
    else
      bif decide (f118 n3 n4 n5 n6 n1 n2 > (4194304 : Int)) then false
      else
        decide
          (IntKind.i64.wrap (f118 n3 n4 n5 n6 n1 n2 * f118 n3 n4 n5 n6 n1 n2) ≤
            IntKind.i64.wrap
              (IntKind.i64.wrap (n7 * n7) *
                IntKind.i64.wrap
                  (IntKind.i64.wrap (IntKind.i64.wrap (n5 - n3) * IntKind.i64.wrap (n5 - n3)) +
                    IntKind.i64.wrap (IntKind.i64.wrap (n6 - n4) * IntKind.i64.wrap (n6 - n4)))))
noncomputable def F106 : CF tC := mkF tC S106 (fun a => some ((f106 a.1 a.2.1 a.2.2.1 a.2.2.2.1 a.2.2.2.2.1 a.2.2.2.2.2.1 a.2.2.2.2.2.2.1), ()))
def h106 (r : Bool) : Option (altTy tE S106.outs) := some (r, ())
theorem f106_run : ∀ a, fnS tC G106 (look []) Tryz.f106 S106 a = (fun a => some ((f106 a.1 a.2.1 a.2.2.1 a.2.2.2.1 a.2.2.2.2.1 a.2.2.2.2.2.1 a.2.2.2.2.2.2.1), ())) a := fun a => by
  have key : ∀ (n1 : Int) (n2 : Int) (n3 : Int) (n4 : Int) (n5 : Int) (n6 : Int) (n7 : Int), (bif
    decide
      (IntKind.i64.wrap
          (IntKind.i64.wrap (IntKind.i64.wrap (n1 - n3) * IntKind.i64.wrap (n5 - n3)) +
            IntKind.i64.wrap (IntKind.i64.wrap (n2 - n4) * IntKind.i64.wrap (n6 - n4))) ≤
        (0 : Int)) then
  h106 (decide (f119 n1 n2 n3 n4 ≤ IntKind.i64.wrap (n7 * n7)))
else
  bif
      decide
        (IntKind.i64.wrap
            (IntKind.i64.wrap (IntKind.i64.wrap (n1 - n3) * IntKind.i64.wrap (n5 - n3)) +
              IntKind.i64.wrap (IntKind.i64.wrap (n2 - n4) * IntKind.i64.wrap (n6 - n4))) ≥
          IntKind.i64.wrap
            (IntKind.i64.wrap (IntKind.i64.wrap (n5 - n3) * IntKind.i64.wrap (n5 - n3)) +
              IntKind.i64.wrap (IntKind.i64.wrap (n6 - n4) * IntKind.i64.wrap (n6 - n4)))) then
    h106 (decide (f119 n1 n2 n5 n6 ≤ IntKind.i64.wrap (n7 * n7)))
  else
    bif decide (f118 n3 n4 n5 n6 n1 n2 < (-4194304 : Int)) then h106 false
    else
      bif decide (f118 n3 n4 n5 n6 n1 n2 > (4194304 : Int)) then h106 false
      else
        h106
          (decide
            (IntKind.i64.wrap (f118 n3 n4 n5 n6 n1 n2 * f118 n3 n4 n5 n6 n1 n2) ≤
              IntKind.i64.wrap
                (IntKind.i64.wrap (n7 * n7) *
                  IntKind.i64.wrap
                    (IntKind.i64.wrap (IntKind.i64.wrap (n5 - n3) * IntKind.i64.wrap (n5 - n3)) +
                      IntKind.i64.wrap (IntKind.i64.wrap (n6 - n4) * IntKind.i64.wrap (n6 - n4))))))) = h106 (f106 n1 n2 n3 n4 n5 n6 n7) := by
    intros
    unfold f106
    repeat' first | rfl | refine cond_h (g := h106) ?_ ?_
  exact Eq.trans (by kernel_rfl) (key a.1 a.2.1 a.2.2.1 a.2.2.2.1 a.2.2.2.2.1 a.2.2.2.2.2.1 a.2.2.2.2.2.2.1)
theorem F106_ok : CFOK tC 106 F106 := mkF_ok Y106 (fn := Tryz.f106) (body := bodyOf Tryz.f106) (by kernel_rfl) (by kernel_rfl) (by kernel_rfl) (m := 0) rfl (lam_le lam_nil) f106_run

/-! segment.Touch -/
noncomputable def G91 : FuncId → Option (CF tC) := look [(87, F87), (88, F88), (89, F89), (104, F104), (63, F63), (105, F105), (106, F106)]
theorem Y91 : SysN tC G91 := (sys_cons F87_ok (mkF_nat _ _) (sys_cons F88_ok (mkF_nat _ _) (sys_cons F89_ok (mkF_nat _ _) (sys_cons F104_ok (mkF_nat _ _) (sys_cons F63_ok (mkF_nat _ _) (sys_cons F105_ok (mkF_nat _ _) (sys_cons F106_ok (mkF_nat _ _) (sys_nil tC_ok tC_eq))))))))
noncomputable def c91_0 : Code := loopOf (bodyOf Tryz.f91) 0
def p91_0 : LS := ⟨0, [3, 4, 5, 77, 78], ⟨[vB, vB, vB, vI, .one (.one (.ptr 0 0 0)), .one (.one (.ptr 1 0 0))] ++ vBs 71 ++ [.one (.agg [.int .i64, .int .i64, .int .i64, .int .i64, .int .i64, .int .i64, .int .i64, .int .i64]), vI] ++ vBs 8, [.box [.int .i64, .int .i64], .box [.int .i64, .int .i64]]⟩, [⟨.ret, [8], ⟨vBs 8 ++ [vO] ++ vBs 78, []⟩, []⟩, ⟨.exit 0, [], ⟨vBs 87, []⟩, []⟩], []⟩
noncomputable def r91_0 (x : Int × Int × Int × Int × Int × Int × Int × Int × Int × Int × Int × Int × Int × Int × Unit) : Option (Int × Int × Int × Int × Int × Int × Int × Int × Int × Int × Int × Int × Int × Int × Unit ⊕ Bool × Unit ⊕ Unit) :=
  bif decide (x.snd.snd.snd.snd.snd.snd.snd.snd.snd.fst < (4 : Int)) then
  bif decide ((0 : Int) ≤ x.snd.snd.snd.snd.snd.snd.snd.snd.snd.fst) && decide (x.snd.snd.snd.snd.snd.snd.snd.snd.snd.fst < (4 : Int)) then
    (idxO
          [Pt.mk x.snd.fst x.snd.snd.fst, Pt.mk x.snd.snd.snd.fst x.snd.snd.snd.snd.fst,
            Pt.mk x.snd.snd.snd.snd.snd.fst x.snd.snd.snd.snd.snd.snd.fst,
            Pt.mk x.snd.snd.snd.snd.snd.snd.snd.fst x.snd.snd.snd.snd.snd.snd.snd.snd.fst]
          x.snd.snd.snd.snd.snd.snd.snd.snd.snd.fst).bind
      fun y27 =>
      bif
          f106 y27.X y27.Y x.snd.snd.snd.snd.snd.snd.snd.snd.snd.snd.fst x.snd.snd.snd.snd.snd.snd.snd.snd.snd.snd.snd.fst
            x.snd.snd.snd.snd.snd.snd.snd.snd.snd.snd.snd.snd.fst x.snd.snd.snd.snd.snd.snd.snd.snd.snd.snd.snd.snd.snd.fst x.fst then
        some (Sum.inr (Sum.inl (true, ())))
      else
        some
          (Sum.inl
            (x.fst, x.snd.fst, x.snd.snd.fst, x.snd.snd.snd.fst, x.snd.snd.snd.snd.fst, x.snd.snd.snd.snd.snd.fst,
              x.snd.snd.snd.snd.snd.snd.fst, x.snd.snd.snd.snd.snd.snd.snd.fst, x.snd.snd.snd.snd.snd.snd.snd.snd.fst,
              IntKind.i64.wrap (x.snd.snd.snd.snd.snd.snd.snd.snd.snd.fst + (1 : Int)), x.snd.snd.snd.snd.snd.snd.snd.snd.snd.snd.fst,
              x.snd.snd.snd.snd.snd.snd.snd.snd.snd.snd.snd.fst, x.snd.snd.snd.snd.snd.snd.snd.snd.snd.snd.snd.snd.fst,
              x.snd.snd.snd.snd.snd.snd.snd.snd.snd.snd.snd.snd.snd.fst, ()))
  else none
else some (Sum.inr (Sum.inr ()))
theorem r91_0_run0 (v0 : Int) (v1 : Int) (v2 : Int) (v3 : Int) (v4 : Int) (v5 : Int) (v6 : Int) (v7 : Int) (v8 : Int) (v9 : Int) (v10 : Int) (v11 : Int) (v12 : Int) (v13 : Int) : roundK tC G91 (look []) c91_0 p91_0 (v0, v1, v2, v3, v4, v5, v6, v7, v8, v9, v10, v11, v12, v13, ()) = r91_0 (v0, v1, v2, v3, v4, v5, v6, v7, v8, v9, v10, v11, v12, v13, ()) := by kernel_rfl
theorem r91_0_run (x : Int × Int × Int × Int × Int × Int × Int × Int × Int × Int × Int × Int × Int × Int × Unit) : roundK tC G91 (look []) c91_0 p91_0 x = r91_0 x := r91_0_run0 x.1 x.2.1 x.2.2.1 x.2.2.2.1 x.2.2.2.2.1 x.2.2.2.2.2.1 x.2.2.2.2.2.2.1 x.2.2.2.2.2.2.2.1 x.2.2.2.2.2.2.2.2.1 x.2.2.2.2.2.2.2.2.2.1 x.2.2.2.2.2.2.2.2.2.2.1 x.2.2.2.2.2.2.2.2.2.2.2.1 x.2.2.2.2.2.2.2.2.2.2.2.2.1 x.2.2.2.2.2.2.2.2.2.2.2.2.2.1
noncomputable def l91_0 (x : Int × Int × Int × Int × Int × Int × Int × Int × Int × Int × Int × Int × Int × Int × Unit) : Option (Bool × Unit ⊕ Unit) := iterO r91_0 x
noncomputable def W91_0 : LF tC := loopW tC p91_0 0 l91_0
theorem W91_0_ok : keyed 0 (bodyOf Tryz.f91) = [.block 0 (.loop c91_0)] ∧ ∀ n, n ≤ 0 → Snd tC n (.block 0 (.loop c91_0)) W91_0.k := ⟨by kernel_rfl, fun n hn => loopW_ok (p := p91_0) (id := 0) Y91 (lam_le lam_nil n hn) hn r91_0_run⟩
def S91 : FS := ⟨[[.v, .v], [.v, .v], [.v, .v, .v, .v], [.v]], [⟨[.one (.agg [.int .i64, .int .i64]), .one (.agg [.int .i64, .int .i64]), .one (.agg [.int .i64, .int .i64, .int .i64, .int .i64]), vI], []⟩], [⟨[vO], []⟩], [[.v]], []⟩
noncomputable def f91 (x : Int × Int × Int × Int × Int × Int × Int × Int × Int × Unit) : Option (Bool × Unit) :=
  bif !f87 x.fst x.snd.fst then some (false, ())
else
  bif !f87 x.snd.snd.fst x.snd.snd.snd.fst then some (false, ())
  else
    bif !f88 x.snd.snd.snd.snd.fst x.snd.snd.snd.snd.snd.fst x.snd.snd.snd.snd.snd.snd.fst x.snd.snd.snd.snd.snd.snd.snd.fst then
      some (false, ())
    else
      bif decide (x.snd.snd.snd.snd.snd.snd.snd.snd.fst < (0 : Int)) then some (false, ())
      else
        bif decide (x.snd.snd.snd.snd.snd.snd.snd.snd.fst > (1024 : Int)) then some (false, ())
        else
          bif
              decide
                (f89 x.snd.snd.fst (IntKind.i64.wrap (x.fst - (1024 : Int))) (IntKind.i64.wrap (x.fst + (1024 : Int))) > (0 : Int)) then
            some (false, ())
          else
            bif
                decide
                  (f89 x.snd.snd.snd.fst (IntKind.i64.wrap (x.snd.fst - (1024 : Int))) (IntKind.i64.wrap (x.snd.fst + (1024 : Int))) >
                    (0 : Int)) then
              some (false, ())
            else
              (f104
                    (x.fst, x.snd.fst, x.snd.snd.fst, x.snd.snd.snd.fst, x.snd.snd.snd.snd.fst, x.snd.snd.snd.snd.snd.fst,
                      x.snd.snd.snd.snd.snd.snd.fst, x.snd.snd.snd.snd.snd.snd.snd.fst, ())).bind
                fun y33 =>
                bif y33.fst then some (true, ())
                else
                  bif
                      decide
                        (f63 x.fst x.snd.fst x.snd.snd.snd.snd.fst x.snd.snd.snd.snd.snd.fst x.snd.snd.snd.snd.snd.snd.fst
                            x.snd.snd.snd.snd.snd.snd.snd.fst ≤
                          IntKind.i64.wrap (x.snd.snd.snd.snd.snd.snd.snd.snd.fst * x.snd.snd.snd.snd.snd.snd.snd.snd.fst)) then
                    some (true, ())
                  else
                    bif
                        decide
                          (f63 x.snd.snd.fst x.snd.snd.snd.fst x.snd.snd.snd.snd.fst x.snd.snd.snd.snd.snd.fst x.snd.snd.snd.snd.snd.snd.fst
                              x.snd.snd.snd.snd.snd.snd.snd.fst ≤
                            IntKind.i64.wrap (x.snd.snd.snd.snd.snd.snd.snd.snd.fst * x.snd.snd.snd.snd.snd.snd.snd.snd.fst)) then
                      some (true, ())
                    else
                      (l91_0
                            (x.snd.snd.snd.snd.snd.snd.snd.snd.fst,
                              (f105 x.snd.snd.snd.snd.fst x.snd.snd.snd.snd.snd.fst x.snd.snd.snd.snd.snd.snd.fst
                                  x.snd.snd.snd.snd.snd.snd.snd.fst).fst,
                              (f105 x.snd.snd.snd.snd.fst x.snd.snd.snd.snd.snd.fst x.snd.snd.snd.snd.snd.snd.fst
                                    x.snd.snd.snd.snd.snd.snd.snd.fst).snd.fst,
                              (f105 x.snd.snd.snd.snd.fst x.snd.snd.snd.snd.snd.fst x.snd.snd.snd.snd.snd.snd.fst
                                      x.snd.snd.snd.snd.snd.snd.snd.fst).snd.snd.fst,
                              (f105 x.snd.snd.snd.snd.fst x.snd.snd.snd.snd.snd.fst x.snd.snd.snd.snd.snd.snd.fst
                                        x.snd.snd.snd.snd.snd.snd.snd.fst).snd.snd.snd.fst,
                              (f105 x.snd.snd.snd.snd.fst x.snd.snd.snd.snd.snd.fst x.snd.snd.snd.snd.snd.snd.fst
                                          x.snd.snd.snd.snd.snd.snd.snd.fst).snd.snd.snd.snd.fst,
                              (f105 x.snd.snd.snd.snd.fst x.snd.snd.snd.snd.snd.fst x.snd.snd.snd.snd.snd.snd.fst
                                            x.snd.snd.snd.snd.snd.snd.snd.fst).snd.snd.snd.snd.snd.fst,
                              (f105 x.snd.snd.snd.snd.fst x.snd.snd.snd.snd.snd.fst x.snd.snd.snd.snd.snd.snd.fst
                                              x.snd.snd.snd.snd.snd.snd.snd.fst).snd.snd.snd.snd.snd.snd.fst,
                              (f105 x.snd.snd.snd.snd.fst x.snd.snd.snd.snd.snd.fst x.snd.snd.snd.snd.snd.snd.fst
                                              x.snd.snd.snd.snd.snd.snd.snd.fst).snd.snd.snd.snd.snd.snd.snd,
                              (0 : Int), x.fst, x.snd.fst, x.snd.snd.fst, x.snd.snd.snd.fst, ())).bind
                        fun y32 => Sum.elim (fun y30 => some (y30.fst, ())) (fun _x => some (false, ())) y32
noncomputable def F91 : CF tC := mkF tC S91 f91
theorem f91_run : ∀ a, fnS tC G91 (look [(0, W91_0)]) Tryz.f91 S91 a = f91 a := fun a => by kernel_rfl
theorem F91_ok : CFOK tC 91 F91 := mkF_ok Y91 (fn := Tryz.f91) (body := bodyOf Tryz.f91) (by kernel_rfl) (by kernel_rfl) (by kernel_rfl) (m := 0) rfl (lam_le (lam_cons W91_0_ok lam_nil)) f91_run

/-! drive.Blocked -/
noncomputable def G68 : FuncId → Option (CF tC) := look [(22, F22), (67, F67), (44, F44), (38, F38), (74, F74), (91, F91)]
theorem Y68 : SysN tC G68 := (sys_cons F22_ok (mkF_nat _ _) (sys_cons F67_ok (mkF_nat _ _) (sys_cons F44_ok (mkF_nat _ _) (sys_cons F38_ok (mkF_nat _ _) (sys_cons F74_ok (mkF_nat _ _) (sys_cons F91_ok (mkF_nat _ _) (sys_nil tC_ok tC_eq)))))))
noncomputable def c68_43 : Code := subCode (loopOf (loopOf (bodyOf Tryz.f68) 0) 2) 43
def p68_43 : PS := ⟨0, [3, 4, 5, 7, 8, 10, 11, 12], ⟨[vB, vB, vB, .one (.one (.ptr 0 0 0)), .one (.one (.ptr 1 0 0)), .one (.one (.ptr 2 0 0)), vB, vI, vI, vB, vI, vI, vI] ++ vBs 123, [.box [.int .i64, .int .i64, .imm 5], .box [.int .i64, .int .i64], .box [.int .i64, .int .i64]]⟩, [⟨.ret, [6], ⟨vBs 6 ++ [vO] ++ vBs 129, []⟩, []⟩, ⟨.normal, [3, 4, 5, 7, 8, 10, 11, 12], ⟨[vB, vB, vB, .one (.one (.ptr 0 0 0)), .one (.one (.ptr 1 0 0)), .one (.one (.ptr 2 0 0)), vB, vI, vI, vB, vI, vI, vI] ++ vBs 123, [.box [.int .i64, .int .i64, .imm 5], .box [.int .i64, .int .i64], .box [.int .i64, .int .i64]]⟩, []⟩], []⟩
noncomputable def j68_43 (x : Int × Int × Int × Int × Int × Int × Int × List Int × Int × Int × Int × Int × Unit) : Option (Bool × Unit ⊕ Int × Int × Int × Int × Int × Int × Int × List Int × Int × Int × Int × Int × Unit) :=
  (f91
      (x.snd.snd.snd.snd.snd.snd.snd.snd.fst, x.snd.snd.snd.snd.snd.snd.snd.snd.snd.fst, x.snd.snd.snd.snd.snd.snd.snd.snd.snd.snd.fst,
        x.snd.snd.snd.snd.snd.snd.snd.snd.snd.snd.snd.fst, IntKind.i64.wrap (x.snd.snd.snd.snd.fst * (64 : Int)),
        IntKind.i64.wrap (x.snd.snd.snd.fst * (64 : Int)),
        IntKind.i64.wrap (IntKind.i64.wrap (x.snd.snd.snd.snd.fst + (1 : Int)) * (64 : Int)),
        IntKind.i64.wrap (IntKind.i64.wrap (x.snd.snd.snd.fst + (1 : Int)) * (64 : Int)), (20 : Int), ())).bind
  fun y64 =>
  bif y64.fst then some (Sum.inl (true, ()))
  else
    some
      (Sum.inr
        (x.fst, x.snd.fst, x.snd.snd.fst, x.snd.snd.snd.fst, x.snd.snd.snd.snd.fst, x.snd.snd.snd.snd.snd.fst,
          x.snd.snd.snd.snd.snd.snd.fst, x.snd.snd.snd.snd.snd.snd.snd.fst, x.snd.snd.snd.snd.snd.snd.snd.snd.fst,
          x.snd.snd.snd.snd.snd.snd.snd.snd.snd.fst, x.snd.snd.snd.snd.snd.snd.snd.snd.snd.snd.fst,
          x.snd.snd.snd.snd.snd.snd.snd.snd.snd.snd.snd.fst, ()))
theorem j68_43_run0 (v0 : Int) (v1 : Int) (v2 : Int) (v3 : Int) (v4 : Int) (v5 : Int) (v6 : Int) (v7 : List Int) (v8 : Int) (v9 : Int) (v10 : Int) (v11 : Int) : pieceK tC G68 (look []) c68_43 p68_43 (v0, v1, v2, v3, v4, v5, v6, v7, v8, v9, v10, v11, ()) = j68_43 (v0, v1, v2, v3, v4, v5, v6, v7, v8, v9, v10, v11, ()) := by kernel_rfl
theorem j68_43_run (x : Int × Int × Int × Int × Int × Int × Int × List Int × Int × Int × Int × Int × Unit) : pieceK tC G68 (look []) c68_43 p68_43 x = j68_43 x := j68_43_run0 x.1 x.2.1 x.2.2.1 x.2.2.2.1 x.2.2.2.2.1 x.2.2.2.2.2.1 x.2.2.2.2.2.2.1 x.2.2.2.2.2.2.2.1 x.2.2.2.2.2.2.2.2.1 x.2.2.2.2.2.2.2.2.2.1 x.2.2.2.2.2.2.2.2.2.2.1 x.2.2.2.2.2.2.2.2.2.2.2.1
noncomputable def W68_43 : LF tC := cutLF tC p68_43 j68_43
theorem W68_43_ok : keyed 43 (loopOf (loopOf (bodyOf Tryz.f68) 0) 2) = [c68_43] ∧ ∀ n, n ≤ 0 → Snd tC n c68_43 W68_43.k := ⟨by kernel_rfl, fun n hn => cut_ok (p := p68_43) Y68 (lam_le lam_nil n hn) hn j68_43_run⟩
noncomputable def c68_37 : Code := subCode (loopOf (loopOf (bodyOf Tryz.f68) 0) 2) 37
def p68_37 : PS := ⟨0, [3, 4, 5, 7, 8, 10, 11, 12], ⟨[vB, vB, vB, .one (.one (.ptr 0 0 0)), .one (.one (.ptr 1 0 0)), .one (.one (.ptr 2 0 0)), vB, vI, vI, vB, vI, vI, vI] ++ vBs 123, [.box [.int .i64, .int .i64, .imm 5], .box [.int .i64, .int .i64], .box [.int .i64, .int .i64]]⟩, [⟨.normal, [3, 4, 5, 7, 8, 10, 11, 12], ⟨[vB, vB, vB, .one (.one (.ptr 0 0 0)), .one (.one (.ptr 1 0 0)), .one (.one (.ptr 2 0 0)), vB, vI, vI, vB, vI, vI, vI] ++ vBs 123, [.box [.int .i64, .int .i64, .imm 5], .box [.int .i64, .int .i64], .box [.int .i64, .int .i64]]⟩, []⟩], []⟩
noncomputable def j68_37 (x : Int × Int × Int × Int × Int × Int × Int × List Int × Int × Int × Int × Int × Unit) : Option (Int × Int × Int × Int × Int × Int × Int × List Int × Int × Int × Int × Int × Unit) :=
  some
  (x.fst, x.snd.fst, x.snd.snd.fst, x.snd.snd.snd.fst, IntKind.i64.wrap (x.snd.snd.snd.snd.fst + (1 : Int)), x.snd.snd.snd.snd.snd.fst,
    x.snd.snd.snd.snd.snd.snd.fst, x.snd.snd.snd.snd.snd.snd.snd.fst, x.snd.snd.snd.snd.snd.snd.snd.snd.fst,
    x.snd.snd.snd.snd.snd.snd.snd.snd.snd.fst, x.snd.snd.snd.snd.snd.snd.snd.snd.snd.snd.fst,
    x.snd.snd.snd.snd.snd.snd.snd.snd.snd.snd.snd.fst, ())
theorem j68_37_run0 (v0 : Int) (v1 : Int) (v2 : Int) (v3 : Int) (v4 : Int) (v5 : Int) (v6 : Int) (v7 : List Int) (v8 : Int) (v9 : Int) (v10 : Int) (v11 : Int) : pieceK tC G68 (look []) c68_37 p68_37 (v0, v1, v2, v3, v4, v5, v6, v7, v8, v9, v10, v11, ()) = j68_37 (v0, v1, v2, v3, v4, v5, v6, v7, v8, v9, v10, v11, ()) := by kernel_rfl
theorem j68_37_run (x : Int × Int × Int × Int × Int × Int × Int × List Int × Int × Int × Int × Int × Unit) : pieceK tC G68 (look []) c68_37 p68_37 x = j68_37 x := j68_37_run0 x.1 x.2.1 x.2.2.1 x.2.2.2.1 x.2.2.2.2.1 x.2.2.2.2.2.1 x.2.2.2.2.2.2.1 x.2.2.2.2.2.2.2.1 x.2.2.2.2.2.2.2.2.1 x.2.2.2.2.2.2.2.2.2.1 x.2.2.2.2.2.2.2.2.2.2.1 x.2.2.2.2.2.2.2.2.2.2.2.1
noncomputable def W68_37 : LF tC := cutLF tC p68_37 j68_37
theorem W68_37_ok : keyed 37 (loopOf (loopOf (bodyOf Tryz.f68) 0) 2) = [c68_37] ∧ ∀ n, n ≤ 0 → Snd tC n c68_37 W68_37.k := ⟨by kernel_rfl, fun n hn => cut_ok (p := p68_37) Y68 (lam_le lam_nil n hn) hn j68_37_run⟩
noncomputable def c68_6 : Code := loopOf (loopOf (bodyOf Tryz.f68) 0) 2
def p68_6 : LS := ⟨0, [3, 4, 5, 7, 8, 10, 11, 12], ⟨[vB, vB, vB, .one (.one (.ptr 0 0 0)), .one (.one (.ptr 1 0 0)), .one (.one (.ptr 2 0 0)), vB, vI, vI, vB, vI, vI, vI] ++ vBs 123, [.box [.int .i64, .int .i64, .imm 5], .box [.int .i64, .int .i64], .box [.int .i64, .int .i64]]⟩, [⟨.ret, [6], ⟨vBs 6 ++ [vO] ++ vBs 129, []⟩, []⟩, ⟨.exit 2, [3, 4, 5, 7, 8, 10, 11], ⟨[vB, vB, vB, .one (.one (.ptr 0 0 0)), .one (.one (.ptr 1 0 0)), .one (.one (.ptr 2 0 0)), vB, vI, vI, vB, vI, vI] ++ vBs 124, [.box [.int .i64, .int .i64, .imm 5], .box [.int .i64, .int .i64], .box [.int .i64, .int .i64]]⟩, []⟩], []⟩
noncomputable def r68_6 (x : Int × Int × Int × Int × Int × Int × Int × List Int × Int × Int × Int × Int × Unit) : Option
  (Int × Int × Int × Int × Int × Int × Int × List Int × Int × Int × Int × Int × Unit ⊕
    Bool × Unit ⊕ Int × Int × Int × Int × Int × Int × List Int × Int × Int × Int × Int × Unit) :=
  bif decide (x.snd.snd.snd.snd.fst ≤ x.snd.fst) then
  bif decide (x.snd.snd.snd.snd.fst ≥ (0 : Int)) then
    bif decide (x.snd.snd.snd.snd.fst < x.snd.snd.snd.snd.snd.fst) then
      bif decide (x.snd.snd.snd.fst ≥ (0 : Int)) then
        bif decide (x.snd.snd.snd.fst < x.snd.snd.snd.snd.snd.snd.fst) then
          (idxO x.snd.snd.snd.snd.snd.snd.snd.fst
                (IntKind.i64.wrap (IntKind.i64.wrap (x.snd.snd.snd.fst * x.snd.snd.snd.snd.snd.fst) + x.snd.snd.snd.snd.fst))).bind
            fun y243 =>
            bif y243 != (2 : Int) then
              (j68_37
                    (x.fst, x.snd.fst, x.snd.snd.fst, x.snd.snd.snd.fst, x.snd.snd.snd.snd.fst, x.snd.snd.snd.snd.snd.fst,
                      x.snd.snd.snd.snd.snd.snd.fst, x.snd.snd.snd.snd.snd.snd.snd.fst, x.snd.snd.snd.snd.snd.snd.snd.snd.fst,
                      x.snd.snd.snd.snd.snd.snd.snd.snd.snd.fst, x.snd.snd.snd.snd.snd.snd.snd.snd.snd.snd.fst,
                      x.snd.snd.snd.snd.snd.snd.snd.snd.snd.snd.snd.fst, ())).bind
                fun y238 =>
                some
                  (Sum.inl
                    (y238.fst, y238.snd.fst, y238.snd.snd.fst, y238.snd.snd.snd.fst, y238.snd.snd.snd.snd.fst, y238.snd.snd.snd.snd.snd.fst,
                      y238.snd.snd.snd.snd.snd.snd.fst, y238.snd.snd.snd.snd.snd.snd.snd.fst, y238.snd.snd.snd.snd.snd.snd.snd.snd.fst,
                      y238.snd.snd.snd.snd.snd.snd.snd.snd.snd.fst, y238.snd.snd.snd.snd.snd.snd.snd.snd.snd.snd.fst,
                      y238.snd.snd.snd.snd.snd.snd.snd.snd.snd.snd.snd.fst, ()))
            else
              (j68_43
                    (x.fst, x.snd.fst, x.snd.snd.fst, x.snd.snd.snd.fst, x.snd.snd.snd.snd.fst, x.snd.snd.snd.snd.snd.fst,
                      x.snd.snd.snd.snd.snd.snd.fst, x.snd.snd.snd.snd.snd.snd.snd.fst, x.snd.snd.snd.snd.snd.snd.snd.snd.fst,
                      x.snd.snd.snd.snd.snd.snd.snd.snd.snd.fst, x.snd.snd.snd.snd.snd.snd.snd.snd.snd.snd.fst,
                      x.snd.snd.snd.snd.snd.snd.snd.snd.snd.snd.snd.fst, ())).bind
                fun y242 =>
                Sum.elim (fun y239 => some (Sum.inr (Sum.inl (y239.fst, ()))))
                  (fun y241 =>
                    (j68_37
                          (y241.fst, y241.snd.fst, y241.snd.snd.fst, y241.snd.snd.snd.fst, y241.snd.snd.snd.snd.fst,
                            y241.snd.snd.snd.snd.snd.fst, y241.snd.snd.snd.snd.snd.snd.fst, y241.snd.snd.snd.snd.snd.snd.snd.fst,
                            y241.snd.snd.snd.snd.snd.snd.snd.snd.fst, y241.snd.snd.snd.snd.snd.snd.snd.snd.snd.fst,
                            y241.snd.snd.snd.snd.snd.snd.snd.snd.snd.snd.fst, y241.snd.snd.snd.snd.snd.snd.snd.snd.snd.snd.snd.fst,
                            ())).bind
                      fun y240 =>
                      some
                        (Sum.inl
                          (y240.fst, y240.snd.fst, y240.snd.snd.fst, y240.snd.snd.snd.fst, y240.snd.snd.snd.snd.fst,
                            y240.snd.snd.snd.snd.snd.fst, y240.snd.snd.snd.snd.snd.snd.fst, y240.snd.snd.snd.snd.snd.snd.snd.fst,
                            y240.snd.snd.snd.snd.snd.snd.snd.snd.fst, y240.snd.snd.snd.snd.snd.snd.snd.snd.snd.fst,
                            y240.snd.snd.snd.snd.snd.snd.snd.snd.snd.snd.fst, y240.snd.snd.snd.snd.snd.snd.snd.snd.snd.snd.snd.fst, ())))
                  y242
        else
          (j68_43
                (x.fst, x.snd.fst, x.snd.snd.fst, x.snd.snd.snd.fst, x.snd.snd.snd.snd.fst, x.snd.snd.snd.snd.snd.fst,
                  x.snd.snd.snd.snd.snd.snd.fst, x.snd.snd.snd.snd.snd.snd.snd.fst, x.snd.snd.snd.snd.snd.snd.snd.snd.fst,
                  x.snd.snd.snd.snd.snd.snd.snd.snd.snd.fst, x.snd.snd.snd.snd.snd.snd.snd.snd.snd.snd.fst,
                  x.snd.snd.snd.snd.snd.snd.snd.snd.snd.snd.snd.fst, ())).bind
            fun y247 =>
            Sum.elim (fun y244 => some (Sum.inr (Sum.inl (y244.fst, ()))))
              (fun y246 =>
                (j68_37
                      (y246.fst, y246.snd.fst, y246.snd.snd.fst, y246.snd.snd.snd.fst, y246.snd.snd.snd.snd.fst,
                        y246.snd.snd.snd.snd.snd.fst, y246.snd.snd.snd.snd.snd.snd.fst, y246.snd.snd.snd.snd.snd.snd.snd.fst,
                        y246.snd.snd.snd.snd.snd.snd.snd.snd.fst, y246.snd.snd.snd.snd.snd.snd.snd.snd.snd.fst,
                        y246.snd.snd.snd.snd.snd.snd.snd.snd.snd.snd.fst, y246.snd.snd.snd.snd.snd.snd.snd.snd.snd.snd.snd.fst, ())).bind
                  fun y245 =>
                  some
                    (Sum.inl
                      (y245.fst, y245.snd.fst, y245.snd.snd.fst, y245.snd.snd.snd.fst, y245.snd.snd.snd.snd.fst,
                        y245.snd.snd.snd.snd.snd.fst, y245.snd.snd.snd.snd.snd.snd.fst, y245.snd.snd.snd.snd.snd.snd.snd.fst,
                        y245.snd.snd.snd.snd.snd.snd.snd.snd.fst, y245.snd.snd.snd.snd.snd.snd.snd.snd.snd.fst,
                        y245.snd.snd.snd.snd.snd.snd.snd.snd.snd.snd.fst, y245.snd.snd.snd.snd.snd.snd.snd.snd.snd.snd.snd.fst, ())))
              y247
      else
        (j68_43
              (x.fst, x.snd.fst, x.snd.snd.fst, x.snd.snd.snd.fst, x.snd.snd.snd.snd.fst, x.snd.snd.snd.snd.snd.fst,
                x.snd.snd.snd.snd.snd.snd.fst, x.snd.snd.snd.snd.snd.snd.snd.fst, x.snd.snd.snd.snd.snd.snd.snd.snd.fst,
                x.snd.snd.snd.snd.snd.snd.snd.snd.snd.fst, x.snd.snd.snd.snd.snd.snd.snd.snd.snd.snd.fst,
                x.snd.snd.snd.snd.snd.snd.snd.snd.snd.snd.snd.fst, ())).bind
          fun y251 =>
          Sum.elim (fun y248 => some (Sum.inr (Sum.inl (y248.fst, ()))))
            (fun y250 =>
              (j68_37
                    (y250.fst, y250.snd.fst, y250.snd.snd.fst, y250.snd.snd.snd.fst, y250.snd.snd.snd.snd.fst, y250.snd.snd.snd.snd.snd.fst,
                      y250.snd.snd.snd.snd.snd.snd.fst, y250.snd.snd.snd.snd.snd.snd.snd.fst, y250.snd.snd.snd.snd.snd.snd.snd.snd.fst,
                      y250.snd.snd.snd.snd.snd.snd.snd.snd.snd.fst, y250.snd.snd.snd.snd.snd.snd.snd.snd.snd.snd.fst,
                      y250.snd.snd.snd.snd.snd.snd.snd.snd.snd.snd.snd.fst, ())).bind
                fun y249 =>
                some
                  (Sum.inl
                    (y249.fst, y249.snd.fst, y249.snd.snd.fst, y249.snd.snd.snd.fst, y249.snd.snd.snd.snd.fst, y249.snd.snd.snd.snd.snd.fst,
                      y249.snd.snd.snd.snd.snd.snd.fst, y249.snd.snd.snd.snd.snd.snd.snd.fst, y249.snd.snd.snd.snd.snd.snd.snd.snd.fst,
                      y249.snd.snd.snd.snd.snd.snd.snd.snd.snd.fst, y249.snd.snd.snd.snd.snd.snd.snd.snd.snd.snd.fst,
                      y249.snd.snd.snd.snd.snd.snd.snd.snd.snd.snd.snd.fst, ())))
            y251
    else
      (j68_43
            (x.fst, x.snd.fst, x.snd.snd.fst, x.snd.snd.snd.fst, x.snd.snd.snd.snd.fst, x.snd.snd.snd.snd.snd.fst,
              x.snd.snd.snd.snd.snd.snd.fst, x.snd.snd.snd.snd.snd.snd.snd.fst, x.snd.snd.snd.snd.snd.snd.snd.snd.fst,
              x.snd.snd.snd.snd.snd.snd.snd.snd.snd.fst, x.snd.snd.snd.snd.snd.snd.snd.snd.snd.snd.fst,
              x.snd.snd.snd.snd.snd.snd.snd.snd.snd.snd.snd.fst, ())).bind
        fun y255 =>
        Sum.elim (fun y252 => some (Sum.inr (Sum.inl (y252.fst, ()))))
          (fun y254 =>
            (j68_37
                  (y254.fst, y254.snd.fst, y254.snd.snd.fst, y254.snd.snd.snd.fst, y254.snd.snd.snd.snd.fst, y254.snd.snd.snd.snd.snd.fst,
                    y254.snd.snd.snd.snd.snd.snd.fst, y254.snd.snd.snd.snd.snd.snd.snd.fst, y254.snd.snd.snd.snd.snd.snd.snd.snd.fst,
                    y254.snd.snd.snd.snd.snd.snd.snd.snd.snd.fst, y254.snd.snd.snd.snd.snd.snd.snd.snd.snd.snd.fst,
                    y254.snd.snd.snd.snd.snd.snd.snd.snd.snd.snd.snd.fst, ())).bind
              fun y253 =>
              some
                (Sum.inl
                  (y253.fst, y253.snd.fst, y253.snd.snd.fst, y253.snd.snd.snd.fst, y253.snd.snd.snd.snd.fst, y253.snd.snd.snd.snd.snd.fst,
                    y253.snd.snd.snd.snd.snd.snd.fst, y253.snd.snd.snd.snd.snd.snd.snd.fst, y253.snd.snd.snd.snd.snd.snd.snd.snd.fst,
                    y253.snd.snd.snd.snd.snd.snd.snd.snd.snd.fst, y253.snd.snd.snd.snd.snd.snd.snd.snd.snd.snd.fst,
                    y253.snd.snd.snd.snd.snd.snd.snd.snd.snd.snd.snd.fst, ())))
          y255
  else
    (j68_43
          (x.fst, x.snd.fst, x.snd.snd.fst, x.snd.snd.snd.fst, x.snd.snd.snd.snd.fst, x.snd.snd.snd.snd.snd.fst,
            x.snd.snd.snd.snd.snd.snd.fst, x.snd.snd.snd.snd.snd.snd.snd.fst, x.snd.snd.snd.snd.snd.snd.snd.snd.fst,
            x.snd.snd.snd.snd.snd.snd.snd.snd.snd.fst, x.snd.snd.snd.snd.snd.snd.snd.snd.snd.snd.fst,
            x.snd.snd.snd.snd.snd.snd.snd.snd.snd.snd.snd.fst, ())).bind
      fun y259 =>
      Sum.elim (fun y256 => some (Sum.inr (Sum.inl (y256.fst, ()))))
        (fun y258 =>
          (j68_37
                (y258.fst, y258.snd.fst, y258.snd.snd.fst, y258.snd.snd.snd.fst, y258.snd.snd.snd.snd.fst, y258.snd.snd.snd.snd.snd.fst,
                  y258.snd.snd.snd.snd.snd.snd.fst, y258.snd.snd.snd.snd.snd.snd.snd.fst, y258.snd.snd.snd.snd.snd.snd.snd.snd.fst,
                  y258.snd.snd.snd.snd.snd.snd.snd.snd.snd.fst, y258.snd.snd.snd.snd.snd.snd.snd.snd.snd.snd.fst,
                  y258.snd.snd.snd.snd.snd.snd.snd.snd.snd.snd.snd.fst, ())).bind
            fun y257 =>
            some
              (Sum.inl
                (y257.fst, y257.snd.fst, y257.snd.snd.fst, y257.snd.snd.snd.fst, y257.snd.snd.snd.snd.fst, y257.snd.snd.snd.snd.snd.fst,
                  y257.snd.snd.snd.snd.snd.snd.fst, y257.snd.snd.snd.snd.snd.snd.snd.fst, y257.snd.snd.snd.snd.snd.snd.snd.snd.fst,
                  y257.snd.snd.snd.snd.snd.snd.snd.snd.snd.fst, y257.snd.snd.snd.snd.snd.snd.snd.snd.snd.snd.fst,
                  y257.snd.snd.snd.snd.snd.snd.snd.snd.snd.snd.snd.fst, ())))
        y259
else
  some
    (Sum.inr
      (Sum.inr
        (x.fst, x.snd.fst, x.snd.snd.fst, x.snd.snd.snd.fst, x.snd.snd.snd.snd.snd.fst, x.snd.snd.snd.snd.snd.snd.fst,
          x.snd.snd.snd.snd.snd.snd.snd.fst, x.snd.snd.snd.snd.snd.snd.snd.snd.fst, x.snd.snd.snd.snd.snd.snd.snd.snd.snd.fst,
          x.snd.snd.snd.snd.snd.snd.snd.snd.snd.snd.fst, x.snd.snd.snd.snd.snd.snd.snd.snd.snd.snd.snd.fst, ())))
theorem r68_6_run0 (v0 : Int) (v1 : Int) (v2 : Int) (v3 : Int) (v4 : Int) (v5 : Int) (v6 : Int) (v7 : List Int) (v8 : Int) (v9 : Int) (v10 : Int) (v11 : Int) : roundK tC G68 (look [(43, W68_43), (37, W68_37)]) c68_6 p68_6 (v0, v1, v2, v3, v4, v5, v6, v7, v8, v9, v10, v11, ()) = r68_6 (v0, v1, v2, v3, v4, v5, v6, v7, v8, v9, v10, v11, ()) := by kernel_rfl
theorem r68_6_run (x : Int × Int × Int × Int × Int × Int × Int × List Int × Int × Int × Int × Int × Unit) : roundK tC G68 (look [(43, W68_43), (37, W68_37)]) c68_6 p68_6 x = r68_6 x := r68_6_run0 x.1 x.2.1 x.2.2.1 x.2.2.2.1 x.2.2.2.2.1 x.2.2.2.2.2.1 x.2.2.2.2.2.2.1 x.2.2.2.2.2.2.2.1 x.2.2.2.2.2.2.2.2.1 x.2.2.2.2.2.2.2.2.2.1 x.2.2.2.2.2.2.2.2.2.2.1 x.2.2.2.2.2.2.2.2.2.2.2.1
noncomputable def l68_6 (x : Int × Int × Int × Int × Int × Int × Int × List Int × Int × Int × Int × Int × Unit) : Option (Bool × Unit ⊕ Int × Int × Int × Int × Int × Int × List Int × Int × Int × Int × Int × Unit) := iterO r68_6 x
noncomputable def W68_6 : LF tC := loopW tC p68_6 2 l68_6
theorem W68_6_ok : keyed 6 (loopOf (bodyOf Tryz.f68) 0) = [.block 2 (.loop c68_6)] ∧ ∀ n, n ≤ 0 → Snd tC n (.block 2 (.loop c68_6)) W68_6.k := ⟨by kernel_rfl, fun n hn => loopW_ok (p := p68_6) (id := 2) Y68 (lam_le (lam_cons W68_43_ok (lam_cons W68_37_ok lam_nil)) n hn) hn r68_6_run⟩
noncomputable def c68_0 : Code := loopOf (bodyOf Tryz.f68) 0
def p68_0 : LS := ⟨0, [3, 4, 5, 7, 8, 10, 11], ⟨[vB, vB, vB, .one (.one (.ptr 0 0 0)), .one (.one (.ptr 1 0 0)), .one (.one (.ptr 2 0 0)), vB, vI, vI, vB, vI, vI] ++ vBs 124, [.box [.int .i64, .int .i64, .imm 5], .box [.int .i64, .int .i64], .box [.int .i64, .int .i64]]⟩, [⟨.ret, [6], ⟨vBs 6 ++ [vO] ++ vBs 129, []⟩, []⟩, ⟨.exit 0, [], ⟨vBs 136, []⟩, []⟩], []⟩
noncomputable def r68_0 (x : Int × Int × Int × Int × Int × Int × List Int × Int × Int × Int × Int × Unit) : Option (Int × Int × Int × Int × Int × Int × List Int × Int × Int × Int × Int × Unit ⊕ Bool × Unit ⊕ Unit) :=
  bif decide (x.snd.snd.snd.fst ≤ x.snd.snd.fst) then
  (l68_6
        (x.fst, x.snd.fst, x.snd.snd.fst, x.snd.snd.snd.fst, x.fst, x.snd.snd.snd.snd.fst, x.snd.snd.snd.snd.snd.fst,
          x.snd.snd.snd.snd.snd.snd.fst, x.snd.snd.snd.snd.snd.snd.snd.fst, x.snd.snd.snd.snd.snd.snd.snd.snd.fst,
          x.snd.snd.snd.snd.snd.snd.snd.snd.snd.fst, x.snd.snd.snd.snd.snd.snd.snd.snd.snd.snd.fst, ())).bind
    fun y275 =>
    Sum.elim (fun y273 => some (Sum.inr (Sum.inl (y273.fst, ()))))
      (fun y274 =>
        some
          (Sum.inl
            (y274.fst, y274.snd.fst, y274.snd.snd.fst, IntKind.i64.wrap (y274.snd.snd.snd.fst + (1 : Int)), y274.snd.snd.snd.snd.fst,
              y274.snd.snd.snd.snd.snd.fst, y274.snd.snd.snd.snd.snd.snd.fst, y274.snd.snd.snd.snd.snd.snd.snd.fst,
              y274.snd.snd.snd.snd.snd.snd.snd.snd.fst, y274.snd.snd.snd.snd.snd.snd.snd.snd.snd.fst,
              y274.snd.snd.snd.snd.snd.snd.snd.snd.snd.snd.fst, ())))
      y275
else some (Sum.inr (Sum.inr ()))
theorem r68_0_run0 (v0 : Int) (v1 : Int) (v2 : Int) (v3 : Int) (v4 : Int) (v5 : Int) (v6 : List Int) (v7 : Int) (v8 : Int) (v9 : Int) (v10 : Int) : roundK tC G68 (look [(6, W68_6)]) c68_0 p68_0 (v0, v1, v2, v3, v4, v5, v6, v7, v8, v9, v10, ()) = r68_0 (v0, v1, v2, v3, v4, v5, v6, v7, v8, v9, v10, ()) := by kernel_rfl
theorem r68_0_run (x : Int × Int × Int × Int × Int × Int × List Int × Int × Int × Int × Int × Unit) : roundK tC G68 (look [(6, W68_6)]) c68_0 p68_0 x = r68_0 x := r68_0_run0 x.1 x.2.1 x.2.2.1 x.2.2.2.1 x.2.2.2.2.1 x.2.2.2.2.2.1 x.2.2.2.2.2.2.1 x.2.2.2.2.2.2.2.1 x.2.2.2.2.2.2.2.2.1 x.2.2.2.2.2.2.2.2.2.1 x.2.2.2.2.2.2.2.2.2.2.1
noncomputable def l68_0 (x : Int × Int × Int × Int × Int × Int × List Int × Int × Int × Int × Int × Unit) : Option (Bool × Unit ⊕ Unit) := iterO r68_0 x
noncomputable def W68_0 : LF tC := loopW tC p68_0 0 l68_0
theorem W68_0_ok : keyed 0 (bodyOf Tryz.f68) = [.block 0 (.loop c68_0)] ∧ ∀ n, n ≤ 0 → Snd tC n (.block 0 (.loop c68_0)) W68_0.k := ⟨by kernel_rfl, fun n hn => loopW_ok (p := p68_0) (id := 0) Y68 (lam_le (lam_cons W68_6_ok lam_nil) n hn) hn r68_0_run⟩
def S68 : FS := ⟨[[.v, .v, .s 5], [.v, .v], [.v, .v]], [⟨[.one (.agg [.int .i64, .int .i64, .imm 5]), .one (.agg [.int .i64, .int .i64]), .one (.agg [.int .i64, .int .i64])], []⟩], [⟨[vO], []⟩], [[.v]], []⟩
noncomputable def f68 (x : Int × Int × List Int × Int × Int × Int × Int × Unit) : Option (Bool × Unit) :=
  (f22 (x.fst, x.snd.fst, x.snd.snd.fst, ())).bind fun y286 =>
  bif !y286.fst then some (true, ())
  else
    (f67 (x.fst, x.snd.fst, x.snd.snd.fst, (0 : Int), ())).bind fun y285 =>
      bif decide (y285.fst > (0 : Int)) then some (true, ())
      else
        bif !f44 x.snd.snd.snd.fst x.snd.snd.snd.snd.fst then some (true, ())
        else
          bif !f44 x.snd.snd.snd.snd.snd.fst x.snd.snd.snd.snd.snd.snd.fst then some (true, ())
          else
            bif !f38 (IntKind.i64.wrap (x.snd.snd.snd.snd.snd.fst - x.snd.snd.snd.fst)) (1024 : Int) then some (true, ())
            else
              bif !f38 (IntKind.i64.wrap (x.snd.snd.snd.snd.snd.snd.fst - x.snd.snd.snd.snd.fst)) (1024 : Int) then some (true, ())
              else
                (f74
                      (IntKind.i64.wrap
                          ((bif decide (x.snd.snd.snd.snd.snd.fst < x.snd.snd.snd.fst) then x.snd.snd.snd.snd.snd.fst
                            else x.snd.snd.snd.fst) -
                            (20 : Int)),
                        (64 : Int), ())).bind
                  fun y284 =>
                  (f74
                        (IntKind.i64.wrap
                            ((bif decide (x.snd.snd.snd.snd.snd.fst > x.snd.snd.snd.fst) then x.snd.snd.snd.snd.snd.fst
                              else x.snd.snd.snd.fst) +
                              (20 : Int)),
                          (64 : Int), ())).bind
                    fun y283 =>
                    (f74
                          (IntKind.i64.wrap
                              ((bif decide (x.snd.snd.snd.snd.snd.snd.fst < x.snd.snd.snd.snd.fst) then x.snd.snd.snd.snd.snd.snd.fst
                                else x.snd.snd.snd.snd.fst) -
                                (20 : Int)),
                            (64 : Int), ())).bind
                      fun y282 =>
                      (f74
                            (IntKind.i64.wrap
                                ((bif decide (x.snd.snd.snd.snd.snd.snd.fst > x.snd.snd.snd.snd.fst) then x.snd.snd.snd.snd.snd.snd.fst
                                  else x.snd.snd.snd.snd.fst) +
                                  (20 : Int)),
                              (64 : Int), ())).bind
                        fun y281 =>
                        (l68_0
                              (IntKind.i64.wrap (y284.fst - (1 : Int)), y283.fst, y281.fst, IntKind.i64.wrap (y282.fst - (1 : Int)), x.fst,
                                x.snd.fst, x.snd.snd.fst, x.snd.snd.snd.fst, x.snd.snd.snd.snd.fst, x.snd.snd.snd.snd.snd.fst,
                                x.snd.snd.snd.snd.snd.snd.fst, ())).bind
                          fun y280 => Sum.elim (fun y278 => some (y278.fst, ())) (fun _x => some (false, ())) y280
noncomputable def F68 : CF tC := mkF tC S68 f68
theorem f68_run : ∀ a, fnS tC G68 (look [(0, W68_0)]) Tryz.f68 S68 a = f68 a := fun a => by kernel_rfl
theorem F68_ok : CFOK tC 68 F68 := mkF_ok Y68 (fn := Tryz.f68) (body := bodyOf Tryz.f68) (by kernel_rfl) (by kernel_rfl) (by kernel_rfl) (m := 0) rfl (lam_le (lam_cons W68_0_ok lam_nil)) f68_run

/-! drive.Step -/
noncomputable def G33 : FuncId → Option (CF tC) := look [(22, F22), (67, F67), (21, F21), (45, F45), (68, F68)]
theorem Y33 : SysN tC G33 := (sys_cons F22_ok (mkF_nat _ _) (sys_cons F67_ok (mkF_nat _ _) (sys_cons F21_ok (mkF_nat _ _) (sys_cons F45_ok (mkF_nat _ _) (sys_cons F68_ok (mkF_nat _ _) (sys_nil tC_ok tC_eq))))))
noncomputable def c33_31 : Code := subCode (bodyOf Tryz.f33) 31
def p33_31 : PS := ⟨0, [8, 11], ⟨vBs 8 ++ [.one (.one (.ptr 0 0 0)), vB, vB, .one (.one (.ptr 1 0 0))] ++ vBs 39, [.box [.int .i64, .int .i64, .int .i64], .box [.int .i64, .int .i64, .int .i64]]⟩, [⟨.ret, [8, 9, 10], ⟨vBs 8 ++ [.one (.one (.ptr 0 0 0)), vO, vI] ++ vBs 40, [.box [.int .i64, .int .i64, .int .i64]]⟩, []⟩], []⟩
noncomputable def j33_31 (x : Int × Int × Int × Int × Int × Int × Unit) : Option (Bool × Int × Int × Int × Int × Unit) :=
  some (false, (0 : Int), x.snd.snd.snd.fst, x.snd.snd.snd.snd.fst, x.snd.snd.snd.snd.snd.fst, ())
theorem j33_31_run0 (v0 : Int) (v1 : Int) (v2 : Int) (v3 : Int) (v4 : Int) (v5 : Int) : pieceK tC G33 (look []) c33_31 p33_31 (v0, v1, v2, v3, v4, v5, ()) = j33_31 (v0, v1, v2, v3, v4, v5, ()) := by kernel_rfl
theorem j33_31_run (x : Int × Int × Int × Int × Int × Int × Unit) : pieceK tC G33 (look []) c33_31 p33_31 x = j33_31 x := j33_31_run0 x.1 x.2.1 x.2.2.1 x.2.2.2.1 x.2.2.2.2.1 x.2.2.2.2.2.1
noncomputable def W33_31 : LF tC := cutLF tC p33_31 j33_31
theorem W33_31_ok : keyed 31 (bodyOf Tryz.f33) = [c33_31] ∧ ∀ n, n ≤ 0 → Snd tC n c33_31 W33_31.k := ⟨by kernel_rfl, fun n hn => cut_ok (p := p33_31) Y33 (lam_le lam_nil n hn) hn j33_31_run⟩
def S33 : FS := ⟨[[.v, .v, .s 5], [.v, .v, .v], [.v, .v], [.v, .v, .v, .v]], [⟨[.one (.agg [.int .i64, .int .i64, .imm 5]), .one (.agg [.int .i64, .int .i64, .int .i64]), .one (.agg [.int .i64, .int .i64]), .one (.agg [.int .i64, .int .i64, .int .i64, .int .i64])], []⟩], [⟨[.tup [.agg [.int .i64, .int .i64, .int .i64], .one .bool, .one (.int .i64)]], []⟩], [[.v, .v, .v], [.v], [.v]], []⟩
noncomputable def f33 (x : Int × Int × List Int × Int × Int × Int × Int × Int × Int × Int × Int × Int × Unit) : Option (Int × Int × Int × Bool × Int × Unit) :=
  (f22 (x.fst, x.snd.fst, x.snd.snd.fst, ())).bind fun y51 =>
  bif !y51.fst then some ((0 : Int), (0 : Int), (0 : Int), false, (1 : Int), ())
  else
    (f67 (x.fst, x.snd.fst, x.snd.snd.fst, (0 : Int), ())).bind fun y50 =>
      bif decide (y50.fst > (0 : Int)) then some ((0 : Int), (0 : Int), (0 : Int), false, (3 : Int), ())
      else
        (f21
              (x.snd.snd.snd.fst, x.snd.snd.snd.snd.fst, x.snd.snd.snd.snd.snd.fst, x.snd.snd.snd.snd.snd.snd.fst,
                x.snd.snd.snd.snd.snd.snd.snd.fst, x.snd.snd.snd.snd.snd.snd.snd.snd.fst, x.snd.snd.snd.snd.snd.snd.snd.snd.snd.fst,
                x.snd.snd.snd.snd.snd.snd.snd.snd.snd.snd.fst, x.snd.snd.snd.snd.snd.snd.snd.snd.snd.snd.snd.fst, ())).bind
          fun y49 =>
          bif y49.snd.snd.snd.fst != (0 : Int) then some ((0 : Int), (0 : Int), (0 : Int), false, y49.snd.snd.snd.fst, ())
          else
            bif decide (x.snd.snd.snd.snd.snd.snd.snd.fst > (0 : Int)) then
              (f68
                    (x.fst, x.snd.fst, x.snd.snd.fst, (f45 x.snd.snd.snd.fst x.snd.snd.snd.snd.fst x.snd.snd.snd.snd.snd.fst).fst,
                      (f45 x.snd.snd.snd.fst x.snd.snd.snd.snd.fst x.snd.snd.snd.snd.snd.fst).snd,
                      (f45 y49.fst y49.snd.fst y49.snd.snd.fst).fst, (f45 y49.fst y49.snd.fst y49.snd.snd.fst).snd, ())).bind
                fun y47 =>
                bif y47.fst then some (x.snd.snd.snd.fst, x.snd.snd.snd.snd.fst, y49.snd.snd.fst, true, (0 : Int), ())
                else
                  (j33_31 ((0 : Int), (0 : Int), (0 : Int), y49.fst, y49.snd.fst, y49.snd.snd.fst, ())).bind fun y46 =>
                    some (y46.snd.snd.fst, y46.snd.snd.snd.fst, y46.snd.snd.snd.snd.fst, y46.fst, y46.snd.fst, ())
            else
              (j33_31 ((0 : Int), (0 : Int), (0 : Int), y49.fst, y49.snd.fst, y49.snd.snd.fst, ())).bind fun y48 =>
                some (y48.snd.snd.fst, y48.snd.snd.snd.fst, y48.snd.snd.snd.snd.fst, y48.fst, y48.snd.fst, ())
noncomputable def F33 : CF tC := mkF tC S33 f33
theorem f33_run : ∀ a, fnS tC G33 (look [(31, W33_31)]) Tryz.f33 S33 a = f33 a := fun a => by kernel_rfl
theorem F33_ok : CFOK tC 33 F33 := mkF_ok Y33 (fn := Tryz.f33) (body := bodyOf Tryz.f33) (by kernel_rfl) (by kernel_rfl) (by kernel_rfl) (m := 0) rfl (lam_le (lam_cons W33_31_ok lam_nil)) f33_run
end Go.AE
