/-
  The plain functions that the seat's Go functions compute, each with the proof that the function keeps it. Printed by the generator (Gen2) and checked by the kernel.
-/
import Derived.Test.YtkhnmonbielapaaCfgT
namespace Go.AE
open Go.Proofs Go.RowKit
set_option maxRecDepth 100000

/-! near -/
noncomputable def G39 : FuncId → Option (CF tC) := look []
theorem Y39 : SysN tC G39 := (sys_nil tC_ok tC_eq)
def S39 : FS := ⟨[[.v]], [⟨[vI], []⟩], [⟨[vO], []⟩], [[.v]], []⟩
def f39 (n1 : Int) : Bool :=
  bif decide (n1 ≥ (-2097152 : Int)) then decide (n1 ≤ (2097152 : Int)) else false
noncomputable def F39 : CF tC := mkF tC S39 (fun a => some ((f39 a.1), ()))
def h39 (r : Bool) : Option (altTy tE S39.outs) := some (r, ())
theorem f39_run : ∀ a, fnS tC G39 (look []) Try.f39 S39 a = (fun a => some ((f39 a.1), ())) a := fun a => by
  have key : ∀ (n1 : Int), (bif decide (n1 ≥ (-2097152 : Int)) then h39 (decide (n1 ≤ (2097152 : Int))) else h39 false) = h39 (f39 n1) := by
    intros
    unfold f39
    repeat' first | rfl | refine cond_h (g := h39) ?_ ?_
  exact Eq.trans (by kernel_rfl) (key a.1)
theorem F39_ok : CFOK tC 39 F39 := mkF_ok Y39 (fn := Try.f39) (body := bodyOf Try.f39) (by kernel_rfl) (by kernel_rfl) (by kernel_rfl) (m := 0) rfl (lam_le lam_nil) f39_run

/-! validPoint -/
noncomputable def G41 : FuncId → Option (CF tC) := look [(39, F39)]
theorem Y41 : SysN tC G41 := (sys_cons F39_ok (mkF_nat _ _) (sys_nil tC_ok tC_eq))
def S41 : FS := ⟨[[.v, .v]], [⟨[.one (.agg [.int .i64, .int .i64])], []⟩], [⟨[vO], []⟩], [[.v]], []⟩
def f41 (n1 : Int) (n2 : Int) : Bool :=
  bif f39 n1 then f39 n2 else false
noncomputable def F41 : CF tC := mkF tC S41 (fun a => some ((f41 a.1 a.2.1), ()))
def h41 (r : Bool) : Option (altTy tE S41.outs) := some (r, ())
theorem f41_run : ∀ a, fnS tC G41 (look []) Try.f41 S41 a = (fun a => some ((f41 a.1 a.2.1), ())) a := fun a => by
  have key : ∀ (n1 : Int) (n2 : Int), (bif f39 n1 then h41 (f39 n2) else h41 false) = h41 (f41 n1 n2) := by
    intros
    unfold f41
    repeat' first | rfl | refine cond_h (g := h41) ?_ ?_
  exact Eq.trans (by kernel_rfl) (key a.1 a.2.1)
theorem F41_ok : CFOK tC 41 F41 := mkF_ok Y41 (fn := Try.f41) (body := bodyOf Try.f41) (by kernel_rfl) (by kernel_rfl) (by kernel_rfl) (m := 0) rfl (lam_le lam_nil) f41_run

/-!  -/
noncomputable def G60 : FuncId → Option (CF tC) := look []
theorem Y60 : SysN tC G60 := (sys_nil tC_ok tC_eq)
def S60 : FS := ⟨[[.v, .v], [.v, .v]], [⟨[.one (.agg [.int .i64, .int .i64]), .one (.agg [.int .i64, .int .i64])], []⟩], [⟨[vO], []⟩], [[.v]], []⟩
def f60 (n1 : Int) (n2 : Int) (n3 : Int) (n4 : Int) : Bool :=
  decide (IntKind.i64.wrap (n1 * n4) < IntKind.i64.wrap (n3 * n2))
noncomputable def F60 : CF tC := mkF tC S60 (fun a => some ((f60 a.1 a.2.1 a.2.2.1 a.2.2.2.1), ()))
def h60 (r : Bool) : Option (altTy tE S60.outs) := some (r, ())
theorem f60_run : ∀ a, fnS tC G60 (look []) Try.f60 S60 a = (fun a => some ((f60 a.1 a.2.1 a.2.2.1 a.2.2.2.1), ())) a := fun a => by
  have key : ∀ (n1 : Int) (n2 : Int) (n3 : Int) (n4 : Int), (h60 (decide (IntKind.i64.wrap (n1 * n4) < IntKind.i64.wrap (n3 * n2)))) = h60 (f60 n1 n2 n3 n4) := by
    intros
    unfold f60
    repeat' first | rfl | refine cond_h (g := h60) ?_ ?_
  exact Eq.trans (by kernel_rfl) (key a.1 a.2.1 a.2.2.1 a.2.2.2.1)
theorem F60_ok : CFOK tC 60 F60 := mkF_ok Y60 (fn := Try.f60) (body := bodyOf Try.f60) (by kernel_rfl) (by kernel_rfl) (by kernel_rfl) (m := 0) rfl (lam_le lam_nil) f60_run

/-!  -/
noncomputable def G58 : FuncId → Option (CF tC) := look []
theorem Y58 : SysN tC G58 := (sys_nil tC_ok tC_eq)
noncomputable def c58_0 : Code := loopOf (bodyOf Try.f58) 0
def p58_0 : LS := ⟨0, [0, 1], ⟨[vI, vI] ++ vBs 10, []⟩, [⟨.exit 0, [0], ⟨[vI] ++ vBs 11, []⟩, []⟩], []⟩
noncomputable def r58_0 (x : Int × Int × Unit) : Option (Int × Int × Unit ⊕ Int × Unit) :=
  bif decide (x.snd.fst > (0 : Int)) then bif x.snd.fst == (0 : Int) then none else some (Sum.inl (x.snd.fst, x.fst.tmod x.snd.fst, ()))
else some (Sum.inr (x.fst, ()))
theorem r58_0_run0 (v0 : Int) (v1 : Int) : roundK tC G58 (look []) c58_0 p58_0 (v0, v1, ()) = r58_0 (v0, v1, ()) := by kernel_rfl
theorem r58_0_run (x : Int × Int × Unit) : roundK tC G58 (look []) c58_0 p58_0 x = r58_0 x := r58_0_run0 x.1 x.2.1
noncomputable def l58_0 (x : Int × Int × Unit) : Option (Int × Unit) := iterO r58_0 x
noncomputable def W58_0 : LF tC := loopW tC p58_0 0 l58_0
theorem W58_0_ok : keyed 0 (bodyOf Try.f58) = [.block 0 (.loop c58_0)] ∧ ∀ n, n ≤ 0 → Snd tC n (.block 0 (.loop c58_0)) W58_0.k := ⟨by kernel_rfl, fun n hn => loopW_ok (p := p58_0) (id := 0) Y58 (lam_le lam_nil n hn) hn r58_0_run⟩
def S58 : FS := ⟨[[.v], [.v]], [⟨[vI, vI], []⟩], [⟨[vI], []⟩], [[.v]], []⟩
noncomputable def f58 (x : Int × Int × Unit) : Option (Int × Unit) :=
  (l58_0 (x.fst, x.snd.fst, ())).bind fun y8 => some (y8.fst, ())
noncomputable def F58 : CF tC := mkF tC S58 f58
theorem f58_run : ∀ a, fnS tC G58 (look [(0, W58_0)]) Try.f58 S58 a = f58 a := fun a => by kernel_rfl
theorem F58_ok : CFOK tC 58 F58 := mkF_ok Y58 (fn := Try.f58) (body := bodyOf Try.f58) (by kernel_rfl) (by kernel_rfl) (by kernel_rfl) (m := 0) rfl (lam_le (lam_cons W58_0_ok lam_nil)) f58_run

/-!  -/
noncomputable def G54 : FuncId → Option (CF tC) := look []
theorem Y54 : SysN tC G54 := (sys_nil tC_ok tC_eq)
def S54 : FS := ⟨[[.v, .v, .v]], [⟨[.one (.agg [.int .i64, .int .i64, .int .i64])], []⟩], [⟨[vO], []⟩], [[.v]], []⟩
def f54 (n1 : Int) (n2 : Int) (n3 : Int) : Bool :=
  bif decide (n3 < (1 : Int)) then false
else
  bif decide (n3 > (67108864 : Int)) then false
  else
    bif decide (n1 < IntKind.i64.wrap ((0 : Int) - n3)) then false
    else
      bif decide (n1 > n3) then false
      else
        bif decide (n2 < IntKind.i64.wrap ((0 : Int) - n3)) then false
        else
          bif decide (n2 > n3) then false
          else IntKind.i64.wrap (IntKind.i64.wrap (n1 * n1) + IntKind.i64.wrap (n2 * n2)) == IntKind.i64.wrap (n3 * n3)
noncomputable def F54 : CF tC := mkF tC S54 (fun a => some ((f54 a.1 a.2.1 a.2.2.1), ()))
def h54 (r : Bool) : Option (altTy tE S54.outs) := some (r, ())
theorem f54_run : ∀ a, fnS tC G54 (look []) Try.f54 S54 a = (fun a => some ((f54 a.1 a.2.1 a.2.2.1), ())) a := fun a => by
  have key : ∀ (n1 : Int) (n2 : Int) (n3 : Int), (bif decide (n3 < (1 : Int)) then h54 false
else
  bif decide (n3 > (67108864 : Int)) then h54 false
  else
    bif decide (n1 < IntKind.i64.wrap ((0 : Int) - n3)) then h54 false
    else
      bif decide (n1 > n3) then h54 false
      else
        bif decide (n2 < IntKind.i64.wrap ((0 : Int) - n3)) then h54 false
        else
          bif decide (n2 > n3) then h54 false
          else h54 (IntKind.i64.wrap (IntKind.i64.wrap (n1 * n1) + IntKind.i64.wrap (n2 * n2)) == IntKind.i64.wrap (n3 * n3))) = h54 (f54 n1 n2 n3) := by
    intros
    unfold f54
    repeat' first | rfl | refine cond_h (g := h54) ?_ ?_
  exact Eq.trans (by kernel_rfl) (key a.1 a.2.1 a.2.2.1)
theorem F54_ok : CFOK tC 54 F54 := mkF_ok Y54 (fn := Try.f54) (body := bodyOf Try.f54) (by kernel_rfl) (by kernel_rfl) (by kernel_rfl) (m := 0) rfl (lam_le lam_nil) f54_run

/-!  -/
noncomputable def G17 : FuncId → Option (CF tC) := look [(39, F39)]
theorem Y17 : SysN tC G17 := (sys_cons F39_ok (mkF_nat _ _) (sys_nil tC_ok tC_eq))
def S17 : FS := ⟨[[.v, .v, .v, .v]], [⟨[.one (.agg [.int .i64, .int .i64, .int .i64, .int .i64])], []⟩], [⟨[vO], []⟩], [[.v]], []⟩
def f17 (n1 : Int) (n2 : Int) (n3 : Int) (n4 : Int) : Bool :=
  bif f39 n1 then
  bif f39 n2 then bif f39 n3 then bif f39 n4 then bif decide (n1 ≤ n3) then decide (n2 ≤ n4) else false else false else false else false
else false
noncomputable def F17 : CF tC := mkF tC S17 (fun a => some ((f17 a.1 a.2.1 a.2.2.1 a.2.2.2.1), ()))
def h17 (r : Bool) : Option (altTy tE S17.outs) := some (r, ())
theorem f17_run : ∀ a, fnS tC G17 (look []) Try.f17 S17 a = (fun a => some ((f17 a.1 a.2.1 a.2.2.1 a.2.2.2.1), ())) a := fun a => by
  have key : ∀ (n1 : Int) (n2 : Int) (n3 : Int) (n4 : Int), (bif f39 n1 then
  bif f39 n2 then
    bif f39 n3 then bif f39 n4 then bif decide (n1 ≤ n3) then h17 (decide (n2 ≤ n4)) else h17 false else h17 false else h17 false
  else h17 false
else h17 false) = h17 (f17 n1 n2 n3 n4) := by
    intros
    unfold f17
    repeat' first | rfl | refine cond_h (g := h17) ?_ ?_
  exact Eq.trans (by kernel_rfl) (key a.1 a.2.1 a.2.2.1 a.2.2.2.1)
theorem F17_ok : CFOK tC 17 F17 := mkF_ok Y17 (fn := Try.f17) (body := bodyOf Try.f17) (by kernel_rfl) (by kernel_rfl) (by kernel_rfl) (m := 0) rfl (lam_le lam_nil) f17_run

/-!  -/
noncomputable def G35 : FuncId → Option (CF tC) := look []
theorem Y35 : SysN tC G35 := (sys_nil tC_ok tC_eq)
noncomputable def c35_0 : Code := loopOf (bodyOf Try.f35) 0
def p35_0 : LS := ⟨0, [4, 5, 6, 7, 8], ⟨vBs 4 ++ [.one (.one (.ptr 0 0 0)), vI, vI, vI, vI] ++ vBs 26, [.box [.int .i64, .int .i64]]⟩, [⟨.exit 0, [4, 5, 6, 7], ⟨vBs 4 ++ [.one (.one (.ptr 0 0 0)), vI, vI, vI] ++ vBs 27, [.box [.int .i64, .int .i64]]⟩, []⟩], []⟩
noncomputable def r35_0 (x : Int × Int × Int × Int × Int × Int × Unit) : Option (Int × Int × Int × Int × Int × Int × Unit ⊕ Int × Int × Int × Int × Int × Unit) :=
  bif x.snd.snd.snd.fst != (0 : Int) then
  bif x.snd.snd.snd.fst == (0 : Int) then none
  else
    some
      (Sum.inl
        (x.fst, x.snd.fst, x.snd.snd.snd.fst, x.snd.snd.fst.tmod x.snd.snd.snd.fst, x.snd.snd.snd.snd.fst, x.snd.snd.snd.snd.snd.fst, ()))
else some (Sum.inr (x.fst, x.snd.fst, x.snd.snd.fst, x.snd.snd.snd.snd.fst, x.snd.snd.snd.snd.snd.fst, ()))
theorem r35_0_run0 (v0 : Int) (v1 : Int) (v2 : Int) (v3 : Int) (v4 : Int) (v5 : Int) : roundK tC G35 (look []) c35_0 p35_0 (v0, v1, v2, v3, v4, v5, ()) = r35_0 (v0, v1, v2, v3, v4, v5, ()) := by kernel_rfl
theorem r35_0_run (x : Int × Int × Int × Int × Int × Int × Unit) : roundK tC G35 (look []) c35_0 p35_0 x = r35_0 x := r35_0_run0 x.1 x.2.1 x.2.2.1 x.2.2.2.1 x.2.2.2.2.1 x.2.2.2.2.2.1
noncomputable def l35_0 (x : Int × Int × Int × Int × Int × Int × Unit) : Option (Int × Int × Int × Int × Int × Unit) := iterO r35_0 x
noncomputable def W35_0 : LF tC := loopW tC p35_0 0 l35_0
theorem W35_0_ok : keyed 0 (bodyOf Try.f35) = [.block 0 (.loop c35_0)] ∧ ∀ n, n ≤ 0 → Snd tC n (.block 0 (.loop c35_0)) W35_0.k := ⟨by kernel_rfl, fun n hn => loopW_ok (p := p35_0) (id := 0) Y35 (lam_le lam_nil n hn) hn r35_0_run⟩
noncomputable def c35_22 : Code := subCode (bodyOf Try.f35) 22
def p35_22 : PS := ⟨0, [4, 5, 6, 7], ⟨vBs 4 ++ [.one (.one (.ptr 0 0 0)), vI, vI, vI] ++ vBs 27, [.box [.int .i64, .int .i64]]⟩, [⟨.ret, [4], ⟨vBs 4 ++ [.one (.one (.ptr 0 0 0))] ++ vBs 30, [.box [.int .i64, .int .i64]]⟩, []⟩], []⟩
noncomputable def j35_22 (x : Int × Int × Int × Int × Int × Unit) : Option (Int × Int × Unit) :=
  bif x.snd.snd.fst == (0 : Int) then none
else
  bif x.snd.snd.fst == (0 : Int) then none
  else some (IntKind.i64.wrap (x.fst.tdiv x.snd.snd.fst), IntKind.i64.wrap (x.snd.fst.tdiv x.snd.snd.fst), ())
theorem j35_22_run0 (v0 : Int) (v1 : Int) (v2 : Int) (v3 : Int) (v4 : Int) : pieceK tC G35 (look []) c35_22 p35_22 (v0, v1, v2, v3, v4, ()) = j35_22 (v0, v1, v2, v3, v4, ()) := by kernel_rfl
theorem j35_22_run (x : Int × Int × Int × Int × Int × Unit) : pieceK tC G35 (look []) c35_22 p35_22 x = j35_22 x := j35_22_run0 x.1 x.2.1 x.2.2.1 x.2.2.2.1 x.2.2.2.2.1
noncomputable def W35_22 : LF tC := cutLF tC p35_22 j35_22
theorem W35_22_ok : keyed 22 (bodyOf Try.f35) = [c35_22] ∧ ∀ n, n ≤ 0 → Snd tC n c35_22 W35_22.k := ⟨by kernel_rfl, fun n hn => cut_ok (p := p35_22) Y35 (lam_le lam_nil n hn) hn j35_22_run⟩
def S35 : FS := ⟨[[.v, .v], [.v, .v, .v]], [⟨[.one (.agg [.int .i64, .int .i64]), .one (.agg [.int .i64, .int .i64, .int .i64])], []⟩], [⟨[.one (.agg [.int .i64, .int .i64])], []⟩], [[.v, .v]], []⟩
noncomputable def f35 (x : Int × Int × Int × Int × Int × Unit) : Option (Int × Int × Unit) :=
  (l35_0
      (IntKind.i64.wrap (x.fst * x.snd.snd.snd.snd.fst), x.snd.fst, IntKind.i64.wrap (x.fst * x.snd.snd.snd.snd.fst), x.snd.fst, (0 : Int),
        (0 : Int), ())).bind
  fun y37 =>
  bif decide (y37.snd.snd.fst < (0 : Int)) then
    (j35_22 (y37.fst, y37.snd.fst, IntKind.i64.wrap ((0 : Int) - y37.snd.snd.fst), y37.snd.snd.snd.fst, y37.snd.snd.snd.snd.fst, ())).bind
      fun y35 => some (y35.fst, y35.snd.fst, ())
  else
    (j35_22 (y37.fst, y37.snd.fst, y37.snd.snd.fst, y37.snd.snd.snd.fst, y37.snd.snd.snd.snd.fst, ())).bind fun y36 =>
      some (y36.fst, y36.snd.fst, ())
noncomputable def F35 : CF tC := mkF tC S35 f35
theorem f35_run : ∀ a, fnS tC G35 (look [(0, W35_0), (22, W35_22)]) Try.f35 S35 a = f35 a := fun a => by kernel_rfl
theorem F35_ok : CFOK tC 35 F35 := mkF_ok Y35 (fn := Try.f35) (body := bodyOf Try.f35) (by kernel_rfl) (by kernel_rfl) (by kernel_rfl) (m := 0) rfl (lam_le (lam_cons W35_0_ok (lam_cons W35_22_ok lam_nil))) f35_run

/-!  -/
def S57 : FS := ⟨[[.v], [.v], [.v], [.v]], [⟨[vI, vI, vI, vI], []⟩], [⟨[.one (.agg [.int .i64, .int .i64, .int .i64, .int .i64, .bool, .bool])], []⟩], [[.v, .v, .v, .v, .v, .v]], []⟩
noncomputable def G57 (rec57 : altTy tE S57.ins → Option (altTy tE S57.outs)) : FuncId → Option (CF tC) := look [(57, mkF tC S57 rec57)]
noncomputable def b57 (rec57 : altTy tE S57.ins → Option (altTy tE S57.outs)) (x : Int × Int × Int × Int × Unit) : Option (Int × Int × Int × Int × Bool × Bool × Unit) :=
  bif x.snd.fst == (0 : Int) then
  bif decide (x.fst < x.snd.snd.fst) then some ((0 : Int), (0 : Int), (0 : Int), (0 : Int), true, false, ())
  else
    bif decide (x.fst > x.snd.snd.snd.fst) then some ((0 : Int), (0 : Int), (0 : Int), (0 : Int), true, false, ())
    else
      bif x.snd.fst == (0 : Int) then some ((0 : Int), (0 : Int), (0 : Int), (0 : Int), false, true, ())
      else
        bif decide (x.snd.fst < (0 : Int)) then
          (rec57
                (IntKind.i64.wrap ((0 : Int) - x.fst), IntKind.i64.wrap ((0 : Int) - x.snd.fst),
                  IntKind.i64.wrap ((0 : Int) - x.snd.snd.snd.fst), IntKind.i64.wrap ((0 : Int) - x.snd.snd.fst), ())).bind
            fun y23 =>
            some (y23.fst, y23.snd.fst, y23.snd.snd.fst, y23.snd.snd.snd.fst, y23.snd.snd.snd.snd.fst, y23.snd.snd.snd.snd.snd.fst, ())
        else
          some
            (IntKind.i64.wrap (x.snd.snd.fst - x.fst), x.snd.fst, IntKind.i64.wrap (x.snd.snd.snd.fst - x.fst), x.snd.fst, false, false, ())
else
  bif x.snd.fst == (0 : Int) then some ((0 : Int), (0 : Int), (0 : Int), (0 : Int), false, true, ())
  else
    bif decide (x.snd.fst < (0 : Int)) then
      (rec57
            (IntKind.i64.wrap ((0 : Int) - x.fst), IntKind.i64.wrap ((0 : Int) - x.snd.fst),
              IntKind.i64.wrap ((0 : Int) - x.snd.snd.snd.fst), IntKind.i64.wrap ((0 : Int) - x.snd.snd.fst), ())).bind
        fun y24 =>
        some (y24.fst, y24.snd.fst, y24.snd.snd.fst, y24.snd.snd.snd.fst, y24.snd.snd.snd.snd.fst, y24.snd.snd.snd.snd.snd.fst, ())
    else
      some (IntKind.i64.wrap (x.snd.snd.fst - x.fst), x.snd.fst, IntKind.i64.wrap (x.snd.snd.snd.fst - x.fst), x.snd.fst, false, false, ())
noncomputable def n57 : Nat → altTy tE S57.ins → Option (altTy tE S57.outs)
  | 0 => fun _ => none
  | n + 1 => b57 (n57 n)
theorem b57_run (rec57 : altTy tE S57.ins → Option (altTy tE S57.outs)) : ∀ a, fnS tC (G57 rec57) (look []) Try.f57 S57 a = b57 rec57 a := fun a => by kernel_rfl
theorem n57_ok : ∀ n, CFOK tC 57 (mkF tC S57 (n57 n))
  | 0 => mkF_none (fn := Try.f57) (body := bodyOf Try.f57) (by kernel_rfl) (by kernel_rfl) (by kernel_rfl) _
  | n + 1 => mkF_ok (Γ := G57 (n57 n)) (sys_cons (n57_ok n) (mkF_nat _ _) (sys_nil tC_ok tC_eq)) (fn := Try.f57) (body := bodyOf Try.f57) (by kernel_rfl) (by kernel_rfl) (by kernel_rfl) (m := 0) rfl (lam_le lam_nil) (b57_run (n57 n))
noncomputable def f57 (x : altTy tE S57.ins) : Option (altTy tE S57.outs) := n57 ((fun _ => 2 : altTy tE S57.ins → Nat) x) x
noncomputable def F57 : CF tC := mkF tC S57 f57
theorem F57_ok : CFOK tC 57 F57 := mkF_fuel n57_ok _

/-!  -/
noncomputable def G19 : FuncId → Option (CF tC) := look []
theorem Y19 : SysN tC G19 := (sys_nil tC_ok tC_eq)
def S19 : FS := ⟨[[.v], [.v]], [⟨[vI, vI], []⟩], [⟨[vO], []⟩], [[.v]], []⟩
def f19 (n1 : Int) (n2 : Int) : Bool :=
  bif decide (n1 ≥ IntKind.i64.wrap ((0 : Int) - n2)) then decide (n1 ≤ n2) else false
noncomputable def F19 : CF tC := mkF tC S19 (fun a => some ((f19 a.1 a.2.1), ()))
def h19 (r : Bool) : Option (altTy tE S19.outs) := some (r, ())
theorem f19_run : ∀ a, fnS tC G19 (look []) Try.f19 S19 a = (fun a => some ((f19 a.1 a.2.1), ())) a := fun a => by
  have key : ∀ (n1 : Int) (n2 : Int), (bif decide (n1 ≥ IntKind.i64.wrap ((0 : Int) - n2)) then h19 (decide (n1 ≤ n2)) else h19 false) = h19 (f19 n1 n2) := by
    intros
    unfold f19
    repeat' first | rfl | refine cond_h (g := h19) ?_ ?_
  exact Eq.trans (by kernel_rfl) (key a.1 a.2.1)
theorem F19_ok : CFOK tC 19 F19 := mkF_ok Y19 (fn := Try.f19) (body := bodyOf Try.f19) (by kernel_rfl) (by kernel_rfl) (by kernel_rfl) (m := 0) rfl (lam_le lam_nil) f19_run

/-!  -/
noncomputable def G56 : FuncId → Option (CF tC) := look [(19, F19)]
theorem Y56 : SysN tC G56 := (sys_cons F19_ok (mkF_nat _ _) (sys_nil tC_ok tC_eq))
def S56 : FS := ⟨[[.v, .v, .v]], [⟨[.one (.agg [.int .i64, .int .i64, .int .i64])], []⟩], [⟨[vO], []⟩], [[.v]], []⟩
def f56 (n1 : Int) (n2 : Int) (n3 : Int) : Bool :=
  bif decide (n3 ≥ (1 : Int)) then
  bif decide (n3 ≤ (67108864 : Int)) then
    bif f19 n1 n3 then
      bif f19 n2 n3 then IntKind.i64.wrap (IntKind.i64.wrap (n1 * n1) + IntKind.i64.wrap (n2 * n2)) == IntKind.i64.wrap (n3 * n3) else false
    else false
  else false
else false
noncomputable def F56 : CF tC := mkF tC S56 (fun a => some ((f56 a.1 a.2.1 a.2.2.1), ()))
def h56 (r : Bool) : Option (altTy tE S56.outs) := some (r, ())
theorem f56_run : ∀ a, fnS tC G56 (look []) Try.f56 S56 a = (fun a => some ((f56 a.1 a.2.1 a.2.2.1), ())) a := fun a => by
  have key : ∀ (n1 : Int) (n2 : Int) (n3 : Int), (bif decide (n3 ≥ (1 : Int)) then
  bif decide (n3 ≤ (67108864 : Int)) then
    bif f19 n1 n3 then
      bif f19 n2 n3 then h56 (IntKind.i64.wrap (IntKind.i64.wrap (n1 * n1) + IntKind.i64.wrap (n2 * n2)) == IntKind.i64.wrap (n3 * n3))
      else h56 false
    else h56 false
  else h56 false
else h56 false) = h56 (f56 n1 n2 n3) := by
    intros
    unfold f56
    repeat' first | rfl | refine cond_h (g := h56) ?_ ?_
  exact Eq.trans (by kernel_rfl) (key a.1 a.2.1 a.2.2.1)
theorem F56_ok : CFOK tC 56 F56 := mkF_ok Y56 (fn := Try.f56) (body := bodyOf Try.f56) (by kernel_rfl) (by kernel_rfl) (by kernel_rfl) (m := 0) rfl (lam_le lam_nil) f56_run

/-!  -/
noncomputable def G43 : FuncId → Option (CF tC) := look [(19, F19)]
theorem Y43 : SysN tC G43 := (sys_cons F19_ok (mkF_nat _ _) (sys_nil tC_ok tC_eq))
def S43 : FS := ⟨[[.v, .v]], [⟨[.one (.agg [.int .i64, .int .i64])], []⟩], [⟨[vO], []⟩], [[.v]], []⟩
def f43 (n1 : Int) (n2 : Int) : Bool :=
  bif f19 n1 (2097152 : Int) then f19 n2 (2097152 : Int) else false
noncomputable def F43 : CF tC := mkF tC S43 (fun a => some ((f43 a.1 a.2.1), ()))
def h43 (r : Bool) : Option (altTy tE S43.outs) := some (r, ())
theorem f43_run : ∀ a, fnS tC G43 (look []) Try.f43 S43 a = (fun a => some ((f43 a.1 a.2.1), ())) a := fun a => by
  have key : ∀ (n1 : Int) (n2 : Int), (bif f19 n1 (2097152 : Int) then h43 (f19 n2 (2097152 : Int)) else h43 false) = h43 (f43 n1 n2) := by
    intros
    unfold f43
    repeat' first | rfl | refine cond_h (g := h43) ?_ ?_
  exact Eq.trans (by kernel_rfl) (key a.1 a.2.1)
theorem F43_ok : CFOK tC 43 F43 := mkF_ok Y43 (fn := Try.f43) (body := bodyOf Try.f43) (by kernel_rfl) (by kernel_rfl) (by kernel_rfl) (m := 0) rfl (lam_le lam_nil) f43_run

/-!  -/
noncomputable def G40 : FuncId → Option (CF tC) := look []
theorem Y40 : SysN tC G40 := (sys_nil tC_ok tC_eq)
def S40 : FS := ⟨[[.v, .v, .v, .v]], [⟨[.one (.agg [.int .i64, .int .i64, .int .i64, .int .i64])], []⟩], [⟨[vO], []⟩], [[.v]], []⟩
def f40 (n1 : Int) (n2 : Int) (n3 : Int) (n4 : Int) : Bool :=
  bif decide (n1 ≥ (-2097152 : Int)) then
  bif decide (n1 ≤ n3) then
    bif decide (n3 ≤ (2097152 : Int)) then
      bif decide (n2 ≥ (-2097152 : Int)) then bif decide (n2 ≤ n4) then decide (n4 ≤ (2097152 : Int)) else false else false
    else false
  else false
else false
noncomputable def F40 : CF tC := mkF tC S40 (fun a => some ((f40 a.1 a.2.1 a.2.2.1 a.2.2.2.1), ()))
def h40 (r : Bool) : Option (altTy tE S40.outs) := some (r, ())
theorem f40_run : ∀ a, fnS tC G40 (look []) Try.f40 S40 a = (fun a => some ((f40 a.1 a.2.1 a.2.2.1 a.2.2.2.1), ())) a := fun a => by
  have key : ∀ (n1 : Int) (n2 : Int) (n3 : Int) (n4 : Int), (bif decide (n1 ≥ (-2097152 : Int)) then
  bif decide (n1 ≤ n3) then
    bif decide (n3 ≤ (2097152 : Int)) then
      bif decide (n2 ≥ (-2097152 : Int)) then bif decide (n2 ≤ n4) then h40 (decide (n4 ≤ (2097152 : Int))) else h40 false else h40 false
    else h40 false
  else h40 false
else h40 false) = h40 (f40 n1 n2 n3 n4) := by
    intros
    unfold f40
    repeat' first | rfl | refine cond_h (g := h40) ?_ ?_
  exact Eq.trans (by kernel_rfl) (key a.1 a.2.1 a.2.2.1 a.2.2.2.1)
theorem F40_ok : CFOK tC 40 F40 := mkF_ok Y40 (fn := Try.f40) (body := bodyOf Try.f40) (by kernel_rfl) (by kernel_rfl) (by kernel_rfl) (m := 0) rfl (lam_le lam_nil) f40_run

/-!  -/
noncomputable def G36 : FuncId → Option (CF tC) := look [(43, F43), (56, F56), (40, F40)]
theorem Y36 : SysN tC G36 := (sys_cons F43_ok (mkF_nat _ _) (sys_cons F56_ok (mkF_nat _ _) (sys_cons F40_ok (mkF_nat _ _) (sys_nil tC_ok tC_eq))))
def S36 : FS := ⟨[[.v, .v], [.v, .v, .v], [.v, .v, .v, .v]], [⟨[.one (.agg [.int .i64, .int .i64]), .one (.agg [.int .i64, .int .i64, .int .i64]), .one (.agg [.int .i64, .int .i64, .int .i64, .int .i64])], []⟩], [⟨[vO], []⟩], [[.v]], []⟩
def f36 (n1 : Int) (n2 : Int) (n3 : Int) (n4 : Int) (n5 : Int) (n6 : Int) (n7 : Int) (n8 : Int) (n9 : Int) : Bool :=
  bif f43 n1 n2 then bif f56 n3 n4 n5 then f40 n6 n7 n8 n9 else false else false
noncomputable def F36 : CF tC := mkF tC S36 (fun a => some ((f36 a.1 a.2.1 a.2.2.1 a.2.2.2.1 a.2.2.2.2.1 a.2.2.2.2.2.1 a.2.2.2.2.2.2.1 a.2.2.2.2.2.2.2.1 a.2.2.2.2.2.2.2.2.1), ()))
def h36 (r : Bool) : Option (altTy tE S36.outs) := some (r, ())
theorem f36_run : ∀ a, fnS tC G36 (look []) Try.f36 S36 a = (fun a => some ((f36 a.1 a.2.1 a.2.2.1 a.2.2.2.1 a.2.2.2.2.1 a.2.2.2.2.2.1 a.2.2.2.2.2.2.1 a.2.2.2.2.2.2.2.1 a.2.2.2.2.2.2.2.2.1), ())) a := fun a => by
  have key : ∀ (n1 : Int) (n2 : Int) (n3 : Int) (n4 : Int) (n5 : Int) (n6 : Int) (n7 : Int) (n8 : Int) (n9 : Int), (bif f43 n1 n2 then bif f56 n3 n4 n5 then h36 (f40 n6 n7 n8 n9) else h36 false else h36 false) = h36 (f36 n1 n2 n3 n4 n5 n6 n7 n8 n9) := by
    intros
    unfold f36
    repeat' first | rfl | refine cond_h (g := h36) ?_ ?_
  exact Eq.trans (by kernel_rfl) (key a.1 a.2.1 a.2.2.1 a.2.2.2.1 a.2.2.2.2.1 a.2.2.2.2.2.1 a.2.2.2.2.2.2.1 a.2.2.2.2.2.2.2.1 a.2.2.2.2.2.2.2.2.1)
theorem F36_ok : CFOK tC 36 F36 := mkF_ok Y36 (fn := Try.f36) (body := bodyOf Try.f36) (by kernel_rfl) (by kernel_rfl) (by kernel_rfl) (m := 0) rfl (lam_le lam_nil) f36_run

/-!  -/
noncomputable def G18 : FuncId → Option (CF tC) := look [(40, F40)]
theorem Y18 : SysN tC G18 := (sys_cons F40_ok (mkF_nat _ _) (sys_nil tC_ok tC_eq))
def S18 : FS := ⟨[[.v, .v, .v, .v]], [⟨[.one (.agg [.int .i64, .int .i64, .int .i64, .int .i64])], []⟩], [⟨[vO], []⟩], [[.v]], []⟩
def f18 (n1 : Int) (n2 : Int) (n3 : Int) (n4 : Int) : Bool :=
  f40 n1 n2 n3 n4
noncomputable def F18 : CF tC := mkF tC S18 (fun a => some ((f18 a.1 a.2.1 a.2.2.1 a.2.2.2.1), ()))
def h18 (r : Bool) : Option (altTy tE S18.outs) := some (r, ())
theorem f18_run : ∀ a, fnS tC G18 (look []) Try.f18 S18 a = (fun a => some ((f18 a.1 a.2.1 a.2.2.1 a.2.2.2.1), ())) a := fun a => by
  have key : ∀ (n1 : Int) (n2 : Int) (n3 : Int) (n4 : Int), (h18 (f40 n1 n2 n3 n4)) = h18 (f18 n1 n2 n3 n4) := by
    intros
    unfold f18
    repeat' first | rfl | refine cond_h (g := h18) ?_ ?_
  exact Eq.trans (by kernel_rfl) (key a.1 a.2.1 a.2.2.1 a.2.2.2.1)
theorem F18_ok : CFOK tC 18 F18 := mkF_ok Y18 (fn := Try.f18) (body := bodyOf Try.f18) (by kernel_rfl) (by kernel_rfl) (by kernel_rfl) (m := 0) rfl (lam_le lam_nil) f18_run

/-!  -/
noncomputable def G37 : FuncId → Option (CF tC) := look [(57, F57)]
theorem Y37 : SysN tC G37 := (sys_cons F57_ok (mkF_nat _ _) (sys_nil tC_ok tC_eq))
noncomputable def c37_46 : Code := subCode (subCode (subCode (subCode (subCode (bodyOf Try.f37) 22) 28) 34) 40) 46
def p37_46 : PS := ⟨0, [6, 7], ⟨vBs 6 ++ [.one (.one (.ptr 0 0 0)), .one (.one (.ptr 1 0 0))] ++ vBs 84, [.box [.int .i64, .int .i64, .int .i64, .int .i64, .bool, .bool], .box [.int .i64, .int .i64, .int .i64, .int .i64, .bool, .bool]]⟩, [⟨.ret, [6], ⟨vBs 6 ++ [.one (.one (.ptr 0 0 0))] ++ vBs 85, [.box [.int .i64, .int .i64, .int .i64, .int .i64, .bool, .bool]]⟩, []⟩], []⟩
noncomputable def j37_46 (x : Int × Int × Int × Int × Bool × Bool × Int × Int × Int × Int × Bool × Bool × Unit) : Option (Int × Int × Int × Int × Bool × Bool × Unit) :=
  bif
    decide
      (IntKind.i64.wrap (x.snd.snd.snd.snd.snd.snd.fst * x.snd.snd.snd.snd.snd.snd.snd.snd.snd.fst) >
        IntKind.i64.wrap (x.snd.snd.snd.snd.snd.snd.snd.snd.fst * x.snd.snd.snd.snd.snd.snd.snd.fst)) then
  some ((0 : Int), (0 : Int), (0 : Int), (0 : Int), true, false, ())
else
  some
    (x.snd.snd.snd.snd.snd.snd.fst, x.snd.snd.snd.snd.snd.snd.snd.fst, x.snd.snd.snd.snd.snd.snd.snd.snd.fst,
      x.snd.snd.snd.snd.snd.snd.snd.snd.snd.fst, x.snd.snd.snd.snd.snd.snd.snd.snd.snd.snd.fst,
      x.snd.snd.snd.snd.snd.snd.snd.snd.snd.snd.snd.fst, ())
theorem j37_46_run0 (v0 : Int) (v1 : Int) (v2 : Int) (v3 : Int) (v4 : Bool) (v5 : Bool) (v6 : Int) (v7 : Int) (v8 : Int) (v9 : Int) (v10 : Bool) (v11 : Bool) : pieceK tC G37 (look []) c37_46 p37_46 (v0, v1, v2, v3, v4, v5, v6, v7, v8, v9, v10, v11, ()) = j37_46 (v0, v1, v2, v3, v4, v5, v6, v7, v8, v9, v10, v11, ()) := by kernel_rfl
theorem j37_46_run (x : Int × Int × Int × Int × Bool × Bool × Int × Int × Int × Int × Bool × Bool × Unit) : pieceK tC G37 (look []) c37_46 p37_46 x = j37_46 x := j37_46_run0 x.1 x.2.1 x.2.2.1 x.2.2.2.1 x.2.2.2.2.1 x.2.2.2.2.2.1 x.2.2.2.2.2.2.1 x.2.2.2.2.2.2.2.1 x.2.2.2.2.2.2.2.2.1 x.2.2.2.2.2.2.2.2.2.1 x.2.2.2.2.2.2.2.2.2.2.1 x.2.2.2.2.2.2.2.2.2.2.2.1
noncomputable def W37_46 : LF tC := cutLF tC p37_46 j37_46
theorem W37_46_ok : keyed 46 (subCode (subCode (subCode (subCode (bodyOf Try.f37) 22) 28) 34) 40) = [c37_46] ∧ ∀ n, n ≤ 0 → Snd tC n c37_46 W37_46.k := ⟨by kernel_rfl, fun n hn => cut_ok (p := p37_46) Y37 (lam_le lam_nil n hn) hn j37_46_run⟩
noncomputable def c37_40 : Code := subCode (subCode (subCode (subCode (bodyOf Try.f37) 22) 28) 34) 40
def p37_40 : PS := ⟨0, [6, 7], ⟨vBs 6 ++ [.one (.one (.ptr 0 0 0)), .one (.one (.ptr 1 0 0))] ++ vBs 84, [.box [.int .i64, .int .i64, .int .i64, .int .i64, .bool, .bool], .box [.int .i64, .int .i64, .int .i64, .int .i64, .bool, .bool]]⟩, [⟨.ret, [6], ⟨vBs 6 ++ [.one (.one (.ptr 0 0 0))] ++ vBs 85, [.box [.int .i64, .int .i64, .int .i64, .int .i64, .bool, .bool]]⟩, []⟩], []⟩
noncomputable def j37_40 (x : Int × Int × Int × Int × Bool × Bool × Int × Int × Int × Int × Bool × Bool × Unit) : Option (Int × Int × Int × Int × Bool × Bool × Unit) :=
  bif decide (x.snd.snd.snd.snd.snd.snd.fst < (0 : Int)) then
  (j37_46
        (x.fst, x.snd.fst, x.snd.snd.fst, x.snd.snd.snd.fst, x.snd.snd.snd.snd.fst, x.snd.snd.snd.snd.snd.fst, (0 : Int), (1 : Int),
          x.snd.snd.snd.snd.snd.snd.snd.snd.fst, x.snd.snd.snd.snd.snd.snd.snd.snd.snd.fst, x.snd.snd.snd.snd.snd.snd.snd.snd.snd.snd.fst,
          x.snd.snd.snd.snd.snd.snd.snd.snd.snd.snd.snd.fst, ())).bind
    fun y124 =>
    some (y124.fst, y124.snd.fst, y124.snd.snd.fst, y124.snd.snd.snd.fst, y124.snd.snd.snd.snd.fst, y124.snd.snd.snd.snd.snd.fst, ())
else
  (j37_46
        (x.fst, x.snd.fst, x.snd.snd.fst, x.snd.snd.snd.fst, x.snd.snd.snd.snd.fst, x.snd.snd.snd.snd.snd.fst,
          x.snd.snd.snd.snd.snd.snd.fst, x.snd.snd.snd.snd.snd.snd.snd.fst, x.snd.snd.snd.snd.snd.snd.snd.snd.fst,
          x.snd.snd.snd.snd.snd.snd.snd.snd.snd.fst, x.snd.snd.snd.snd.snd.snd.snd.snd.snd.snd.fst,
          x.snd.snd.snd.snd.snd.snd.snd.snd.snd.snd.snd.fst, ())).bind
    fun y125 =>
    some (y125.fst, y125.snd.fst, y125.snd.snd.fst, y125.snd.snd.snd.fst, y125.snd.snd.snd.snd.fst, y125.snd.snd.snd.snd.snd.fst, ())
theorem j37_40_run0 (v0 : Int) (v1 : Int) (v2 : Int) (v3 : Int) (v4 : Bool) (v5 : Bool) (v6 : Int) (v7 : Int) (v8 : Int) (v9 : Int) (v10 : Bool) (v11 : Bool) : pieceK tC G37 (look [(46, W37_46)]) c37_40 p37_40 (v0, v1, v2, v3, v4, v5, v6, v7, v8, v9, v10, v11, ()) = j37_40 (v0, v1, v2, v3, v4, v5, v6, v7, v8, v9, v10, v11, ()) := by kernel_rfl
theorem j37_40_run (x : Int × Int × Int × Int × Bool × Bool × Int × Int × Int × Int × Bool × Bool × Unit) : pieceK tC G37 (look [(46, W37_46)]) c37_40 p37_40 x = j37_40 x := j37_40_run0 x.1 x.2.1 x.2.2.1 x.2.2.2.1 x.2.2.2.2.1 x.2.2.2.2.2.1 x.2.2.2.2.2.2.1 x.2.2.2.2.2.2.2.1 x.2.2.2.2.2.2.2.2.1 x.2.2.2.2.2.2.2.2.2.1 x.2.2.2.2.2.2.2.2.2.2.1 x.2.2.2.2.2.2.2.2.2.2.2.1
noncomputable def W37_40 : LF tC := cutLF tC p37_40 j37_40
theorem W37_40_ok : keyed 40 (subCode (subCode (subCode (bodyOf Try.f37) 22) 28) 34) = [c37_40] ∧ ∀ n, n ≤ 0 → Snd tC n c37_40 W37_40.k := ⟨by kernel_rfl, fun n hn => cut_ok (p := p37_40) Y37 (lam_le (lam_cons W37_46_ok lam_nil) n hn) hn j37_40_run⟩
noncomputable def c37_34 : Code := subCode (subCode (subCode (bodyOf Try.f37) 22) 28) 34
def p37_34 : PS := ⟨0, [6, 7, 8], ⟨vBs 6 ++ [.one (.one (.ptr 0 0 0)), .one (.one (.ptr 1 0 0)), .one (.one (.ptr 2 0 0))] ++ vBs 83, [.box [.int .i64, .int .i64, .int .i64, .int .i64, .bool, .bool], .box [.int .i64, .int .i64, .int .i64, .int .i64, .bool, .bool], .box [.int .i64, .int .i64, .int .i64, .int .i64, .bool, .bool]]⟩, [⟨.ret, [6], ⟨vBs 6 ++ [.one (.one (.ptr 0 0 0))] ++ vBs 85, [.box [.int .i64, .int .i64, .int .i64, .int .i64, .bool, .bool]]⟩, []⟩], []⟩
noncomputable def j37_34 (x : Int × Int × Int × Int × Bool × Bool × Int × Int × Int × Int × Bool × Bool × Int × Int × Int × Int × Bool × Bool × Unit) : Option (Int × Int × Int × Int × Bool × Bool × Unit) :=
  bif
    decide
      (IntKind.i64.wrap (x.snd.snd.snd.snd.snd.snd.snd.snd.fst * x.snd.snd.snd.snd.snd.snd.snd.snd.snd.snd.snd.snd.snd.snd.snd.fst) >
        IntKind.i64.wrap (x.snd.snd.snd.snd.snd.snd.snd.snd.snd.snd.snd.snd.snd.snd.fst * x.snd.snd.snd.snd.snd.snd.snd.snd.snd.fst)) then
  (j37_40
        (x.fst, x.snd.fst, x.snd.snd.fst, x.snd.snd.snd.fst, x.snd.snd.snd.snd.fst, x.snd.snd.snd.snd.snd.fst,
          x.snd.snd.snd.snd.snd.snd.fst, x.snd.snd.snd.snd.snd.snd.snd.fst, x.snd.snd.snd.snd.snd.snd.snd.snd.snd.snd.snd.snd.snd.snd.fst,
          x.snd.snd.snd.snd.snd.snd.snd.snd.snd.snd.snd.snd.snd.snd.snd.fst, x.snd.snd.snd.snd.snd.snd.snd.snd.snd.snd.fst,
          x.snd.snd.snd.snd.snd.snd.snd.snd.snd.snd.snd.fst, ())).bind
    fun y144 =>
    some (y144.fst, y144.snd.fst, y144.snd.snd.fst, y144.snd.snd.snd.fst, y144.snd.snd.snd.snd.fst, y144.snd.snd.snd.snd.snd.fst, ())
else
  (j37_40
        (x.fst, x.snd.fst, x.snd.snd.fst, x.snd.snd.snd.fst, x.snd.snd.snd.snd.fst, x.snd.snd.snd.snd.snd.fst,
          x.snd.snd.snd.snd.snd.snd.fst, x.snd.snd.snd.snd.snd.snd.snd.fst, x.snd.snd.snd.snd.snd.snd.snd.snd.fst,
          x.snd.snd.snd.snd.snd.snd.snd.snd.snd.fst, x.snd.snd.snd.snd.snd.snd.snd.snd.snd.snd.fst,
          x.snd.snd.snd.snd.snd.snd.snd.snd.snd.snd.snd.fst, ())).bind
    fun y145 =>
    some (y145.fst, y145.snd.fst, y145.snd.snd.fst, y145.snd.snd.snd.fst, y145.snd.snd.snd.snd.fst, y145.snd.snd.snd.snd.snd.fst, ())
theorem j37_34_run0 (v0 : Int) (v1 : Int) (v2 : Int) (v3 : Int) (v4 : Bool) (v5 : Bool) (v6 : Int) (v7 : Int) (v8 : Int) (v9 : Int) (v10 : Bool) (v11 : Bool) (v12 : Int) (v13 : Int) (v14 : Int) (v15 : Int) (v16 : Bool) (v17 : Bool) : pieceK tC G37 (look [(40, W37_40)]) c37_34 p37_34 (v0, v1, v2, v3, v4, v5, v6, v7, v8, v9, v10, v11, v12, v13, v14, v15, v16, v17, ()) = j37_34 (v0, v1, v2, v3, v4, v5, v6, v7, v8, v9, v10, v11, v12, v13, v14, v15, v16, v17, ()) := by kernel_rfl
theorem j37_34_run (x : Int × Int × Int × Int × Bool × Bool × Int × Int × Int × Int × Bool × Bool × Int × Int × Int × Int × Bool × Bool × Unit) : pieceK tC G37 (look [(40, W37_40)]) c37_34 p37_34 x = j37_34 x := j37_34_run0 x.1 x.2.1 x.2.2.1 x.2.2.2.1 x.2.2.2.2.1 x.2.2.2.2.2.1 x.2.2.2.2.2.2.1 x.2.2.2.2.2.2.2.1 x.2.2.2.2.2.2.2.2.1 x.2.2.2.2.2.2.2.2.2.1 x.2.2.2.2.2.2.2.2.2.2.1 x.2.2.2.2.2.2.2.2.2.2.2.1 x.2.2.2.2.2.2.2.2.2.2.2.2.1 x.2.2.2.2.2.2.2.2.2.2.2.2.2.1 x.2.2.2.2.2.2.2.2.2.2.2.2.2.2.1 x.2.2.2.2.2.2.2.2.2.2.2.2.2.2.2.1 x.2.2.2.2.2.2.2.2.2.2.2.2.2.2.2.2.1 x.2.2.2.2.2.2.2.2.2.2.2.2.2.2.2.2.2.1
noncomputable def W37_34 : LF tC := cutLF tC p37_34 j37_34
theorem W37_34_ok : keyed 34 (subCode (subCode (bodyOf Try.f37) 22) 28) = [c37_34] ∧ ∀ n, n ≤ 0 → Snd tC n c37_34 W37_34.k := ⟨by kernel_rfl, fun n hn => cut_ok (p := p37_34) Y37 (lam_le (lam_cons W37_40_ok lam_nil) n hn) hn j37_34_run⟩
noncomputable def c37_28 : Code := subCode (subCode (bodyOf Try.f37) 22) 28
def p37_28 : PS := ⟨0, [6, 7, 8], ⟨vBs 6 ++ [.one (.one (.ptr 0 0 0)), .one (.one (.ptr 1 0 0)), .one (.one (.ptr 2 0 0))] ++ vBs 83, [.box [.int .i64, .int .i64, .int .i64, .int .i64, .bool, .bool], .box [.int .i64, .int .i64, .int .i64, .int .i64, .bool, .bool], .box [.int .i64, .int .i64, .int .i64, .int .i64, .bool, .bool]]⟩, [⟨.ret, [6], ⟨vBs 6 ++ [.one (.one (.ptr 0 0 0))] ++ vBs 85, [.box [.int .i64, .int .i64, .int .i64, .int .i64, .bool, .bool]]⟩, []⟩], []⟩
noncomputable def j37_28 (x : Int × Int × Int × Int × Bool × Bool × Int × Int × Int × Int × Bool × Bool × Int × Int × Int × Int × Bool × Bool × Unit) : Option (Int × Int × Int × Int × Bool × Bool × Unit) :=
  bif
    decide
      (IntKind.i64.wrap (x.snd.snd.snd.snd.snd.snd.fst * x.snd.snd.snd.snd.snd.snd.snd.snd.snd.snd.snd.snd.snd.fst) <
        IntKind.i64.wrap (x.snd.snd.snd.snd.snd.snd.snd.snd.snd.snd.snd.snd.fst * x.snd.snd.snd.snd.snd.snd.snd.fst)) then
  (j37_34
        (x.fst, x.snd.fst, x.snd.snd.fst, x.snd.snd.snd.fst, x.snd.snd.snd.snd.fst, x.snd.snd.snd.snd.snd.fst,
          x.snd.snd.snd.snd.snd.snd.snd.snd.snd.snd.snd.snd.fst, x.snd.snd.snd.snd.snd.snd.snd.snd.snd.snd.snd.snd.snd.fst,
          x.snd.snd.snd.snd.snd.snd.snd.snd.fst, x.snd.snd.snd.snd.snd.snd.snd.snd.snd.fst, x.snd.snd.snd.snd.snd.snd.snd.snd.snd.snd.fst,
          x.snd.snd.snd.snd.snd.snd.snd.snd.snd.snd.snd.fst, x.snd.snd.snd.snd.snd.snd.snd.snd.snd.snd.snd.snd.fst,
          x.snd.snd.snd.snd.snd.snd.snd.snd.snd.snd.snd.snd.snd.fst, x.snd.snd.snd.snd.snd.snd.snd.snd.snd.snd.snd.snd.snd.snd.fst,
          x.snd.snd.snd.snd.snd.snd.snd.snd.snd.snd.snd.snd.snd.snd.snd.fst,
          x.snd.snd.snd.snd.snd.snd.snd.snd.snd.snd.snd.snd.snd.snd.snd.snd.fst,
          x.snd.snd.snd.snd.snd.snd.snd.snd.snd.snd.snd.snd.snd.snd.snd.snd.snd.fst, ())).bind
    fun y164 =>
    some (y164.fst, y164.snd.fst, y164.snd.snd.fst, y164.snd.snd.snd.fst, y164.snd.snd.snd.snd.fst, y164.snd.snd.snd.snd.snd.fst, ())
else
  (j37_34
        (x.fst, x.snd.fst, x.snd.snd.fst, x.snd.snd.snd.fst, x.snd.snd.snd.snd.fst, x.snd.snd.snd.snd.snd.fst,
          x.snd.snd.snd.snd.snd.snd.fst, x.snd.snd.snd.snd.snd.snd.snd.fst, x.snd.snd.snd.snd.snd.snd.snd.snd.fst,
          x.snd.snd.snd.snd.snd.snd.snd.snd.snd.fst, x.snd.snd.snd.snd.snd.snd.snd.snd.snd.snd.fst,
          x.snd.snd.snd.snd.snd.snd.snd.snd.snd.snd.snd.fst, x.snd.snd.snd.snd.snd.snd.snd.snd.snd.snd.snd.snd.fst,
          x.snd.snd.snd.snd.snd.snd.snd.snd.snd.snd.snd.snd.snd.fst, x.snd.snd.snd.snd.snd.snd.snd.snd.snd.snd.snd.snd.snd.snd.fst,
          x.snd.snd.snd.snd.snd.snd.snd.snd.snd.snd.snd.snd.snd.snd.snd.fst,
          x.snd.snd.snd.snd.snd.snd.snd.snd.snd.snd.snd.snd.snd.snd.snd.snd.fst,
          x.snd.snd.snd.snd.snd.snd.snd.snd.snd.snd.snd.snd.snd.snd.snd.snd.snd.fst, ())).bind
    fun y165 =>
    some (y165.fst, y165.snd.fst, y165.snd.snd.fst, y165.snd.snd.snd.fst, y165.snd.snd.snd.snd.fst, y165.snd.snd.snd.snd.snd.fst, ())
theorem j37_28_run0 (v0 : Int) (v1 : Int) (v2 : Int) (v3 : Int) (v4 : Bool) (v5 : Bool) (v6 : Int) (v7 : Int) (v8 : Int) (v9 : Int) (v10 : Bool) (v11 : Bool) (v12 : Int) (v13 : Int) (v14 : Int) (v15 : Int) (v16 : Bool) (v17 : Bool) : pieceK tC G37 (look [(34, W37_34)]) c37_28 p37_28 (v0, v1, v2, v3, v4, v5, v6, v7, v8, v9, v10, v11, v12, v13, v14, v15, v16, v17, ()) = j37_28 (v0, v1, v2, v3, v4, v5, v6, v7, v8, v9, v10, v11, v12, v13, v14, v15, v16, v17, ()) := by kernel_rfl
theorem j37_28_run (x : Int × Int × Int × Int × Bool × Bool × Int × Int × Int × Int × Bool × Bool × Int × Int × Int × Int × Bool × Bool × Unit) : pieceK tC G37 (look [(34, W37_34)]) c37_28 p37_28 x = j37_28 x := j37_28_run0 x.1 x.2.1 x.2.2.1 x.2.2.2.1 x.2.2.2.2.1 x.2.2.2.2.2.1 x.2.2.2.2.2.2.1 x.2.2.2.2.2.2.2.1 x.2.2.2.2.2.2.2.2.1 x.2.2.2.2.2.2.2.2.2.1 x.2.2.2.2.2.2.2.2.2.2.1 x.2.2.2.2.2.2.2.2.2.2.2.1 x.2.2.2.2.2.2.2.2.2.2.2.2.1 x.2.2.2.2.2.2.2.2.2.2.2.2.2.1 x.2.2.2.2.2.2.2.2.2.2.2.2.2.2.1 x.2.2.2.2.2.2.2.2.2.2.2.2.2.2.2.1 x.2.2.2.2.2.2.2.2.2.2.2.2.2.2.2.2.1 x.2.2.2.2.2.2.2.2.2.2.2.2.2.2.2.2.2.1
noncomputable def W37_28 : LF tC := cutLF tC p37_28 j37_28
theorem W37_28_ok : keyed 28 (subCode (bodyOf Try.f37) 22) = [c37_28] ∧ ∀ n, n ≤ 0 → Snd tC n c37_28 W37_28.k := ⟨by kernel_rfl, fun n hn => cut_ok (p := p37_28) Y37 (lam_le (lam_cons W37_34_ok lam_nil) n hn) hn j37_28_run⟩
noncomputable def c37_22 : Code := subCode (bodyOf Try.f37) 22
def p37_22 : PS := ⟨0, [6, 7, 8], ⟨vBs 6 ++ [.one (.one (.ptr 0 0 0)), .one (.one (.ptr 1 0 0)), .one (.one (.ptr 2 0 0))] ++ vBs 83, [.box [.int .i64, .int .i64, .int .i64, .int .i64, .bool, .bool], .box [.int .i64, .int .i64, .int .i64, .int .i64, .bool, .bool], .box [.int .i64, .int .i64, .int .i64, .int .i64, .bool, .bool]]⟩, [⟨.ret, [6], ⟨vBs 6 ++ [.one (.one (.ptr 0 0 0))] ++ vBs 85, [.box [.int .i64, .int .i64, .int .i64, .int .i64, .bool, .bool]]⟩, []⟩], []⟩
noncomputable def j37_22 (x : Int × Int × Int × Int × Bool × Bool × Int × Int × Int × Int × Bool × Bool × Int × Int × Int × Int × Bool × Bool × Unit) : Option (Int × Int × Int × Int × Bool × Bool × Unit) :=
  bif x.snd.snd.snd.snd.snd.snd.snd.snd.snd.snd.snd.snd.snd.snd.snd.snd.snd.fst then
  (j37_28
        (x.fst, x.snd.fst, x.snd.snd.fst, x.snd.snd.snd.fst, x.snd.snd.snd.snd.fst, x.snd.snd.snd.snd.snd.fst,
          x.snd.snd.snd.snd.snd.snd.fst, x.snd.snd.snd.snd.snd.snd.snd.fst, x.snd.snd.snd.snd.snd.snd.snd.snd.fst,
          x.snd.snd.snd.snd.snd.snd.snd.snd.snd.fst, x.snd.snd.snd.snd.snd.snd.snd.snd.snd.snd.fst,
          x.snd.snd.snd.snd.snd.snd.snd.snd.snd.snd.snd.fst, x.snd.snd.snd.snd.snd.snd.fst, x.snd.snd.snd.snd.snd.snd.snd.fst,
          x.snd.snd.snd.snd.snd.snd.snd.snd.fst, x.snd.snd.snd.snd.snd.snd.snd.snd.snd.fst, x.snd.snd.snd.snd.snd.snd.snd.snd.snd.snd.fst,
          x.snd.snd.snd.snd.snd.snd.snd.snd.snd.snd.snd.fst, ())).bind
    fun y184 =>
    some (y184.fst, y184.snd.fst, y184.snd.snd.fst, y184.snd.snd.snd.fst, y184.snd.snd.snd.snd.fst, y184.snd.snd.snd.snd.snd.fst, ())
else
  (j37_28
        (x.fst, x.snd.fst, x.snd.snd.fst, x.snd.snd.snd.fst, x.snd.snd.snd.snd.fst, x.snd.snd.snd.snd.snd.fst,
          x.snd.snd.snd.snd.snd.snd.fst, x.snd.snd.snd.snd.snd.snd.snd.fst, x.snd.snd.snd.snd.snd.snd.snd.snd.fst,
          x.snd.snd.snd.snd.snd.snd.snd.snd.snd.fst, x.snd.snd.snd.snd.snd.snd.snd.snd.snd.snd.fst,
          x.snd.snd.snd.snd.snd.snd.snd.snd.snd.snd.snd.fst, x.snd.snd.snd.snd.snd.snd.snd.snd.snd.snd.snd.snd.fst,
          x.snd.snd.snd.snd.snd.snd.snd.snd.snd.snd.snd.snd.snd.fst, x.snd.snd.snd.snd.snd.snd.snd.snd.snd.snd.snd.snd.snd.snd.fst,
          x.snd.snd.snd.snd.snd.snd.snd.snd.snd.snd.snd.snd.snd.snd.snd.fst,
          x.snd.snd.snd.snd.snd.snd.snd.snd.snd.snd.snd.snd.snd.snd.snd.snd.fst,
          x.snd.snd.snd.snd.snd.snd.snd.snd.snd.snd.snd.snd.snd.snd.snd.snd.snd.fst, ())).bind
    fun y185 =>
    some (y185.fst, y185.snd.fst, y185.snd.snd.fst, y185.snd.snd.snd.fst, y185.snd.snd.snd.snd.fst, y185.snd.snd.snd.snd.snd.fst, ())
theorem j37_22_run0 (v0 : Int) (v1 : Int) (v2 : Int) (v3 : Int) (v4 : Bool) (v5 : Bool) (v6 : Int) (v7 : Int) (v8 : Int) (v9 : Int) (v10 : Bool) (v11 : Bool) (v12 : Int) (v13 : Int) (v14 : Int) (v15 : Int) (v16 : Bool) (v17 : Bool) : pieceK tC G37 (look [(28, W37_28)]) c37_22 p37_22 (v0, v1, v2, v3, v4, v5, v6, v7, v8, v9, v10, v11, v12, v13, v14, v15, v16, v17, ()) = j37_22 (v0, v1, v2, v3, v4, v5, v6, v7, v8, v9, v10, v11, v12, v13, v14, v15, v16, v17, ()) := by kernel_rfl
theorem j37_22_run (x : Int × Int × Int × Int × Bool × Bool × Int × Int × Int × Int × Bool × Bool × Int × Int × Int × Int × Bool × Bool × Unit) : pieceK tC G37 (look [(28, W37_28)]) c37_22 p37_22 x = j37_22 x := j37_22_run0 x.1 x.2.1 x.2.2.1 x.2.2.2.1 x.2.2.2.2.1 x.2.2.2.2.2.1 x.2.2.2.2.2.2.1 x.2.2.2.2.2.2.2.1 x.2.2.2.2.2.2.2.2.1 x.2.2.2.2.2.2.2.2.2.1 x.2.2.2.2.2.2.2.2.2.2.1 x.2.2.2.2.2.2.2.2.2.2.2.1 x.2.2.2.2.2.2.2.2.2.2.2.2.1 x.2.2.2.2.2.2.2.2.2.2.2.2.2.1 x.2.2.2.2.2.2.2.2.2.2.2.2.2.2.1 x.2.2.2.2.2.2.2.2.2.2.2.2.2.2.2.1 x.2.2.2.2.2.2.2.2.2.2.2.2.2.2.2.2.1 x.2.2.2.2.2.2.2.2.2.2.2.2.2.2.2.2.2.1
noncomputable def W37_22 : LF tC := cutLF tC p37_22 j37_22
theorem W37_22_ok : keyed 22 (bodyOf Try.f37) = [c37_22] ∧ ∀ n, n ≤ 0 → Snd tC n c37_22 W37_22.k := ⟨by kernel_rfl, fun n hn => cut_ok (p := p37_22) Y37 (lam_le (lam_cons W37_28_ok lam_nil) n hn) hn j37_22_run⟩
def S37 : FS := ⟨[[.v, .v], [.v, .v, .v], [.v, .v, .v, .v]], [⟨[.one (.agg [.int .i64, .int .i64]), .one (.agg [.int .i64, .int .i64, .int .i64]), .one (.agg [.int .i64, .int .i64, .int .i64, .int .i64])], []⟩], [⟨[.one (.agg [.int .i64, .int .i64, .int .i64, .int .i64, .bool, .bool])], []⟩], [[.v, .v, .v, .v, .v, .v]], []⟩
noncomputable def f37 (x : Int × Int × Int × Int × Int × Int × Int × Int × Int × Unit) : Option (Int × Int × Int × Int × Bool × Bool × Unit) :=
  (f57 (x.fst, x.snd.snd.fst, x.snd.snd.snd.snd.snd.fst, x.snd.snd.snd.snd.snd.snd.snd.fst, ())).bind fun y207 =>
  (f57 (x.snd.fst, x.snd.snd.snd.fst, x.snd.snd.snd.snd.snd.snd.fst, x.snd.snd.snd.snd.snd.snd.snd.snd.fst, ())).bind fun y206 =>
    bif y207.snd.snd.snd.snd.fst then some ((0 : Int), (0 : Int), (0 : Int), (0 : Int), true, false, ())
    else
      bif y206.snd.snd.snd.snd.fst then some ((0 : Int), (0 : Int), (0 : Int), (0 : Int), true, false, ())
      else
        bif y207.snd.snd.snd.snd.snd.fst then
          (j37_22
                ((0 : Int), (0 : Int), (0 : Int), (0 : Int), false, false, y206.fst, y206.snd.fst, y206.snd.snd.fst, y206.snd.snd.snd.fst,
                  y206.snd.snd.snd.snd.fst, y206.snd.snd.snd.snd.snd.fst, y206.fst, y206.snd.fst, y206.snd.snd.fst, y206.snd.snd.snd.fst,
                  y206.snd.snd.snd.snd.fst, y206.snd.snd.snd.snd.snd.fst, ())).bind
            fun y204 =>
            some
              (y204.fst, y204.snd.fst, y204.snd.snd.fst, y204.snd.snd.snd.fst, y204.snd.snd.snd.snd.fst, y204.snd.snd.snd.snd.snd.fst, ())
        else
          (j37_22
                ((0 : Int), (0 : Int), (0 : Int), (0 : Int), false, false, y207.fst, y207.snd.fst, y207.snd.snd.fst, y207.snd.snd.snd.fst,
                  y207.snd.snd.snd.snd.fst, y207.snd.snd.snd.snd.snd.fst, y206.fst, y206.snd.fst, y206.snd.snd.fst, y206.snd.snd.snd.fst,
                  y206.snd.snd.snd.snd.fst, y206.snd.snd.snd.snd.snd.fst, ())).bind
            fun y205 =>
            some
              (y205.fst, y205.snd.fst, y205.snd.snd.fst, y205.snd.snd.snd.fst, y205.snd.snd.snd.snd.fst, y205.snd.snd.snd.snd.snd.fst, ())
noncomputable def F37 : CF tC := mkF tC S37 f37
theorem f37_run : ∀ a, fnS tC G37 (look [(22, W37_22)]) Try.f37 S37 a = f37 a := fun a => by kernel_rfl
theorem F37_ok : CFOK tC 37 F37 := mkF_ok Y37 (fn := Try.f37) (body := bodyOf Try.f37) (by kernel_rfl) (by kernel_rfl) (by kernel_rfl) (m := 0) rfl (lam_le (lam_cons W37_22_ok lam_nil)) f37_run

/-!  -/
noncomputable def G38 : FuncId → Option (CF tC) := look [(58, F58)]
theorem Y38 : SysN tC G38 := (sys_cons F58_ok (mkF_nat _ _) (sys_nil tC_ok tC_eq))
def S38 : FS := ⟨[[.v], [.v]], [⟨[vI, vI], []⟩], [⟨[.one (.agg [.int .i64, .int .i64])], []⟩], [[.v, .v]], []⟩
noncomputable def f38 (x : Int × Int × Unit) : Option (Int × Int × Unit) :=
  (f58 (x.fst, x.snd.fst, ())).bind fun y6 =>
  bif y6.fst == (0 : Int) then none
  else bif y6.fst == (0 : Int) then none else some (IntKind.i64.wrap (x.fst.tdiv y6.fst), IntKind.i64.wrap (x.snd.fst.tdiv y6.fst), ())
noncomputable def F38 : CF tC := mkF tC S38 f38
theorem f38_run : ∀ a, fnS tC G38 (look []) Try.f38 S38 a = f38 a := fun a => by kernel_rfl
theorem F38_ok : CFOK tC 38 F38 := mkF_ok Y38 (fn := Try.f38) (body := bodyOf Try.f38) (by kernel_rfl) (by kernel_rfl) (by kernel_rfl) (m := 0) rfl (lam_le lam_nil) f38_run

/-!  -/
noncomputable def G15 : FuncId → Option (CF tC) := look [(36, F36), (37, F37), (38, F38)]
theorem Y15 : SysN tC G15 := (sys_cons F36_ok (mkF_nat _ _) (sys_cons F37_ok (mkF_nat _ _) (sys_cons F38_ok (mkF_nat _ _) (sys_nil tC_ok tC_eq))))
def S15 : FS := ⟨[[.v, .v], [.v, .v, .v], [.v, .v, .v, .v]], [⟨[.one (.agg [.int .i64, .int .i64]), .one (.agg [.int .i64, .int .i64, .int .i64]), .one (.agg [.int .i64, .int .i64, .int .i64, .int .i64])], []⟩], [⟨[.tup [.agg [.int .i64, .int .i64], .one .bool]], []⟩], [[.v, .v], [.v]], []⟩
noncomputable def f15 (x : Int × Int × Int × Int × Int × Int × Int × Int × Int × Unit) : Option (Int × Int × Bool × Unit) :=
  bif
    !f36 x.fst x.snd.fst x.snd.snd.fst x.snd.snd.snd.fst x.snd.snd.snd.snd.fst x.snd.snd.snd.snd.snd.fst x.snd.snd.snd.snd.snd.snd.fst
        x.snd.snd.snd.snd.snd.snd.snd.fst x.snd.snd.snd.snd.snd.snd.snd.snd.fst then
  some ((0 : Int), (0 : Int), false, ())
else
  (f37
        (x.fst, x.snd.fst, x.snd.snd.fst, x.snd.snd.snd.fst, x.snd.snd.snd.snd.fst, x.snd.snd.snd.snd.snd.fst,
          x.snd.snd.snd.snd.snd.snd.fst, x.snd.snd.snd.snd.snd.snd.snd.fst, x.snd.snd.snd.snd.snd.snd.snd.snd.fst, ())).bind
    fun y22 =>
    bif y22.snd.snd.snd.snd.fst then some ((0 : Int), (0 : Int), false, ())
    else (f38 (IntKind.i64.wrap (y22.fst * x.snd.snd.snd.snd.fst), y22.snd.fst, ())).bind fun y21 => some (y21.fst, y21.snd.fst, true, ())
noncomputable def F15 : CF tC := mkF tC S15 f15
theorem f15_run : ∀ a, fnS tC G15 (look []) Try.f15 S15 a = f15 a := fun a => by kernel_rfl
theorem F15_ok : CFOK tC 15 F15 := mkF_ok Y15 (fn := Try.f15) (body := bodyOf Try.f15) (by kernel_rfl) (by kernel_rfl) (by kernel_rfl) (m := 0) rfl (lam_le lam_nil) f15_run

/-!  -/
noncomputable def G16 : FuncId → Option (CF tC) := look [(36, F36), (37, F37), (38, F38)]
theorem Y16 : SysN tC G16 := (sys_cons F36_ok (mkF_nat _ _) (sys_cons F37_ok (mkF_nat _ _) (sys_cons F38_ok (mkF_nat _ _) (sys_nil tC_ok tC_eq))))
def S16 : FS := ⟨[[.v, .v], [.v, .v, .v], [.v, .v, .v, .v]], [⟨[.one (.agg [.int .i64, .int .i64]), .one (.agg [.int .i64, .int .i64, .int .i64]), .one (.agg [.int .i64, .int .i64, .int .i64, .int .i64])], []⟩], [⟨[.tup [.agg [.int .i64, .int .i64], .one .bool]], []⟩], [[.v, .v], [.v]], []⟩
noncomputable def f16 (x : Int × Int × Int × Int × Int × Int × Int × Int × Int × Unit) : Option (Int × Int × Bool × Unit) :=
  bif
    !f36 x.fst x.snd.fst x.snd.snd.fst x.snd.snd.snd.fst x.snd.snd.snd.snd.fst x.snd.snd.snd.snd.snd.fst x.snd.snd.snd.snd.snd.snd.fst
        x.snd.snd.snd.snd.snd.snd.snd.fst x.snd.snd.snd.snd.snd.snd.snd.snd.fst then
  some ((0 : Int), (0 : Int), false, ())
else
  (f37
        (x.fst, x.snd.fst, x.snd.snd.fst, x.snd.snd.snd.fst, x.snd.snd.snd.snd.fst, x.snd.snd.snd.snd.snd.fst,
          x.snd.snd.snd.snd.snd.snd.fst, x.snd.snd.snd.snd.snd.snd.snd.fst, x.snd.snd.snd.snd.snd.snd.snd.snd.fst, ())).bind
    fun y22 =>
    bif y22.snd.snd.snd.snd.fst then some ((0 : Int), (0 : Int), false, ())
    else
      (f38 (IntKind.i64.wrap (y22.snd.snd.fst * x.snd.snd.snd.snd.fst), y22.snd.snd.snd.fst, ())).bind fun y21 =>
        some (y21.fst, y21.snd.fst, true, ())
noncomputable def F16 : CF tC := mkF tC S16 f16
theorem f16_run : ∀ a, fnS tC G16 (look []) Try.f16 S16 a = f16 a := fun a => by kernel_rfl
theorem F16_ok : CFOK tC 16 F16 := mkF_ok Y16 (fn := Try.f16) (body := bodyOf Try.f16) (by kernel_rfl) (by kernel_rfl) (by kernel_rfl) (m := 0) rfl (lam_le lam_nil) f16_run

/-!  -/
noncomputable def G49 : FuncId → Option (CF tC) := look []
theorem Y49 : SysN tC G49 := (sys_nil tC_ok tC_eq)
def S49 : FS := ⟨[[.v, .v, .v, .v]], [⟨[.one (.agg [.int .i64, .int .i64, .int .i64, .int .i64])], []⟩], [⟨[.one (.agg [.int .i64, .int .i64, .int .i64, .int .i64, .int .i64, .int .i64, .int .i64, .int .i64])], []⟩], [[.v, .v, .v, .v, .v, .v, .v, .v]], []⟩
def f49 (n1 : Int) (n2 : Int) (n3 : Int) (n4 : Int) : Int × Int × Int × Int × Int × Int × Int × Int :=
  (n1, n2, n3, n2, n1, n4, n3, n4)
noncomputable def F49 : CF tC := mkF tC S49 (fun a => some ((f49 a.1 a.2.1 a.2.2.1 a.2.2.2.1).1, (f49 a.1 a.2.1 a.2.2.1 a.2.2.2.1).2.1, (f49 a.1 a.2.1 a.2.2.1 a.2.2.2.1).2.2.1, (f49 a.1 a.2.1 a.2.2.1 a.2.2.2.1).2.2.2.1, (f49 a.1 a.2.1 a.2.2.1 a.2.2.2.1).2.2.2.2.1, (f49 a.1 a.2.1 a.2.2.1 a.2.2.2.1).2.2.2.2.2.1, (f49 a.1 a.2.1 a.2.2.1 a.2.2.2.1).2.2.2.2.2.2.1, (f49 a.1 a.2.1 a.2.2.1 a.2.2.2.1).2.2.2.2.2.2.2, ()))
def h49 (r : Int × Int × Int × Int × Int × Int × Int × Int) : Option (altTy tE S49.outs) := some (r.1, r.2.1, r.2.2.1, r.2.2.2.1, r.2.2.2.2.1, r.2.2.2.2.2.1, r.2.2.2.2.2.2.1, r.2.2.2.2.2.2.2, ())
theorem f49_run : ∀ a, fnS tC G49 (look []) Try.f49 S49 a = (fun a => some ((f49 a.1 a.2.1 a.2.2.1 a.2.2.2.1).1, (f49 a.1 a.2.1 a.2.2.1 a.2.2.2.1).2.1, (f49 a.1 a.2.1 a.2.2.1 a.2.2.2.1).2.2.1, (f49 a.1 a.2.1 a.2.2.1 a.2.2.2.1).2.2.2.1, (f49 a.1 a.2.1 a.2.2.1 a.2.2.2.1).2.2.2.2.1, (f49 a.1 a.2.1 a.2.2.1 a.2.2.2.1).2.2.2.2.2.1, (f49 a.1 a.2.1 a.2.2.1 a.2.2.2.1).2.2.2.2.2.2.1, (f49 a.1 a.2.1 a.2.2.1 a.2.2.2.1).2.2.2.2.2.2.2, ())) a := fun a => by
  have key : ∀ (n1 : Int) (n2 : Int) (n3 : Int) (n4 : Int), (h49 (n1, n2, n3, n2, n1, n4, n3, n4)) = h49 (f49 n1 n2 n3 n4) := by
    intros
    unfold f49
    repeat' first | rfl | refine cond_h (g := h49) ?_ ?_
  exact Eq.trans (by kernel_rfl) (key a.1 a.2.1 a.2.2.1 a.2.2.2.1)
theorem F49_ok : CFOK tC 49 F49 := mkF_ok Y49 (fn := Try.f49) (body := bodyOf Try.f49) (by kernel_rfl) (by kernel_rfl) (by kernel_rfl) (m := 0) rfl (lam_le lam_nil) f49_run

/-!  -/
noncomputable def G42 : FuncId → Option (CF tC) := look []
theorem Y42 : SysN tC G42 := (sys_nil tC_ok tC_eq)
def S42 : FS := ⟨[[.v], [.v], [.v]], [⟨[vI, vI, vI], []⟩], [⟨[vI], []⟩], [[.v]], []⟩
def f42 (n1 : Int) (n2 : Int) (n3 : Int) : Int :=
  bif
    decide
      (IntKind.i64.wrap (n1 - n3) > bif decide ((0 : Int) > IntKind.i64.wrap (n2 - n1)) then (0 : Int) else IntKind.i64.wrap (n2 - n1)) then
  IntKind.i64.wrap (n1 - n3)
else bif decide ((0 : Int) > IntKind.i64.wrap (n2 - n1)) then (0 : Int) else IntKind.i64.wrap (n2 - n1)
noncomputable def F42 : CF tC := mkF tC S42 (fun a => some ((f42 a.1 a.2.1 a.2.2.1), ()))
def h42 (r : Int) : Option (altTy tE S42.outs) := some (r, ())
theorem f42_run : ∀ a, fnS tC G42 (look []) Try.f42 S42 a = (fun a => some ((f42 a.1 a.2.1 a.2.2.1), ())) a := fun a => by
  have key : ∀ (n1 : Int) (n2 : Int) (n3 : Int), (h42
  (bif
      decide
        (IntKind.i64.wrap (n1 - n3) >
          bif decide ((0 : Int) > IntKind.i64.wrap (n2 - n1)) then (0 : Int) else IntKind.i64.wrap (n2 - n1)) then
    IntKind.i64.wrap (n1 - n3)
  else bif decide ((0 : Int) > IntKind.i64.wrap (n2 - n1)) then (0 : Int) else IntKind.i64.wrap (n2 - n1))) = h42 (f42 n1 n2 n3) := by
    intros
    unfold f42
    repeat' first | rfl | refine cond_h (g := h42) ?_ ?_
  exact Eq.trans (by kernel_rfl) (key a.1 a.2.1 a.2.2.1)
theorem F42_ok : CFOK tC 42 F42 := mkF_ok Y42 (fn := Try.f42) (body := bodyOf Try.f42) (by kernel_rfl) (by kernel_rfl) (by kernel_rfl) (m := 0) rfl (lam_le lam_nil) f42_run

/-!  -/
noncomputable def G45 : FuncId → Option (CF tC) := look []
theorem Y45 : SysN tC G45 := (sys_nil tC_ok tC_eq)
def S45 : FS := ⟨[[.v, .v], [.v, .v], [.v, .v]], [⟨[.one (.agg [.int .i64, .int .i64]), .one (.agg [.int .i64, .int .i64]), .one (.agg [.int .i64, .int .i64])], []⟩], [⟨[vI], []⟩], [[.v]], []⟩
def f45 (n1 : Int) (n2 : Int) (n3 : Int) (n4 : Int) (n5 : Int) (n6 : Int) : Int :=
  IntKind.i64.wrap
  (IntKind.i64.wrap (IntKind.i64.wrap (n3 - n1) * IntKind.i64.wrap (n6 - n2)) -
    IntKind.i64.wrap (IntKind.i64.wrap (n4 - n2) * IntKind.i64.wrap (n5 - n1)))
noncomputable def F45 : CF tC := mkF tC S45 (fun a => some ((f45 a.1 a.2.1 a.2.2.1 a.2.2.2.1 a.2.2.2.2.1 a.2.2.2.2.2.1), ()))
def h45 (r : Int) : Option (altTy tE S45.outs) := some (r, ())
theorem f45_run : ∀ a, fnS tC G45 (look []) Try.f45 S45 a = (fun a => some ((f45 a.1 a.2.1 a.2.2.1 a.2.2.2.1 a.2.2.2.2.1 a.2.2.2.2.2.1), ())) a := fun a => by
  have key : ∀ (n1 : Int) (n2 : Int) (n3 : Int) (n4 : Int) (n5 : Int) (n6 : Int), (h45
  (IntKind.i64.wrap
    (IntKind.i64.wrap (IntKind.i64.wrap (n3 - n1) * IntKind.i64.wrap (n6 - n2)) -
      IntKind.i64.wrap (IntKind.i64.wrap (n4 - n2) * IntKind.i64.wrap (n5 - n1))))) = h45 (f45 n1 n2 n3 n4 n5 n6) := by
    intros
    unfold f45
    repeat' first | rfl | refine cond_h (g := h45) ?_ ?_
  exact Eq.trans (by kernel_rfl) (key a.1 a.2.1 a.2.2.1 a.2.2.2.1 a.2.2.2.2.1 a.2.2.2.2.2.1)
theorem F45_ok : CFOK tC 45 F45 := mkF_ok Y45 (fn := Try.f45) (body := bodyOf Try.f45) (by kernel_rfl) (by kernel_rfl) (by kernel_rfl) (m := 0) rfl (lam_le lam_nil) f45_run

/-!  -/
noncomputable def G44 : FuncId → Option (CF tC) := look []
theorem Y44 : SysN tC G44 := (sys_nil tC_ok tC_eq)
def S44 : FS := ⟨[[.v]], [⟨[vI], []⟩], [⟨[vI], []⟩], [[.v]], []⟩
def f44 (n1 : Int) : Int :=
  bif decide (n1 > (0 : Int)) then (1 : Int) else bif decide (n1 < (0 : Int)) then (-1 : Int) else (0 : Int)
noncomputable def F44 : CF tC := mkF tC S44 (fun a => some ((f44 a.1), ()))
def h44 (r : Int) : Option (altTy tE S44.outs) := some (r, ())
theorem f44_run : ∀ a, fnS tC G44 (look []) Try.f44 S44 a = (fun a => some ((f44 a.1), ())) a := fun a => by
  have key : ∀ (n1 : Int), (bif decide (n1 > (0 : Int)) then h44 (1 : Int) else bif decide (n1 < (0 : Int)) then h44 (-1 : Int) else h44 (0 : Int)) = h44 (f44 n1) := by
    intros
    unfold f44
    repeat' first | rfl | refine cond_h (g := h44) ?_ ?_
  exact Eq.trans (by kernel_rfl) (key a.1)
theorem F44_ok : CFOK tC 44 F44 := mkF_ok Y44 (fn := Try.f44) (body := bodyOf Try.f44) (by kernel_rfl) (by kernel_rfl) (by kernel_rfl) (m := 0) rfl (lam_le lam_nil) f44_run

/-!  -/
noncomputable def G59 : FuncId → Option (CF tC) := look []
theorem Y59 : SysN tC G59 := (sys_nil tC_ok tC_eq)
def S59 : FS := ⟨[[.v, .v], [.v, .v]], [⟨[.one (.agg [.int .i64, .int .i64]), .one (.agg [.int .i64, .int .i64])], []⟩], [⟨[vI], []⟩], [[.v]], []⟩
def f59 (n1 : Int) (n2 : Int) (n3 : Int) (n4 : Int) : Int :=
  IntKind.i64.wrap
  (IntKind.i64.wrap (IntKind.i64.wrap (n1 - n3) * IntKind.i64.wrap (n1 - n3)) +
    IntKind.i64.wrap (IntKind.i64.wrap (n2 - n4) * IntKind.i64.wrap (n2 - n4)))
noncomputable def F59 : CF tC := mkF tC S59 (fun a => some ((f59 a.1 a.2.1 a.2.2.1 a.2.2.2.1), ()))
def h59 (r : Int) : Option (altTy tE S59.outs) := some (r, ())
theorem f59_run : ∀ a, fnS tC G59 (look []) Try.f59 S59 a = (fun a => some ((f59 a.1 a.2.1 a.2.2.1 a.2.2.2.1), ())) a := fun a => by
  have key : ∀ (n1 : Int) (n2 : Int) (n3 : Int) (n4 : Int), (h59
  (IntKind.i64.wrap
    (IntKind.i64.wrap (IntKind.i64.wrap (n1 - n3) * IntKind.i64.wrap (n1 - n3)) +
      IntKind.i64.wrap (IntKind.i64.wrap (n2 - n4) * IntKind.i64.wrap (n2 - n4))))) = h59 (f59 n1 n2 n3 n4) := by
    intros
    unfold f59
    repeat' first | rfl | refine cond_h (g := h59) ?_ ?_
  exact Eq.trans (by kernel_rfl) (key a.1 a.2.1 a.2.2.1 a.2.2.2.1)
theorem F59_ok : CFOK tC 59 F59 := mkF_ok Y59 (fn := Try.f59) (body := bodyOf Try.f59) (by kernel_rfl) (by kernel_rfl) (by kernel_rfl) (m := 0) rfl (lam_le lam_nil) f59_run

/-!  -/
noncomputable def G52 : FuncId → Option (CF tC) := look []
theorem Y52 : SysN tC G52 := (sys_nil tC_ok tC_eq)
def S52 : FS := ⟨[[.v, .v, .v, .v]], [⟨[.one (.agg [.int .i64, .int .i64, .int .i64, .int .i64])], []⟩], [⟨[.one (.one (.imm 23))], []⟩], [[.s 23]], []⟩
def f52 (n1 : Int) (n2 : Int) (n3 : Int) (n4 : Int) : List Pt :=
  [Pt.mk n1 n2, Pt.mk n3 n2, Pt.mk n3 n4, Pt.mk n1 n4]
noncomputable def F52 : CF tC := mkF tC S52 (fun a => some ((f52 a.1 a.2.1 a.2.2.1 a.2.2.2.1), ()))
def h52 (r : List Pt) : Option (altTy tE S52.outs) := some (r, ())
theorem f52_run : ∀ a, fnS tC G52 (look []) Try.f52 S52 a = (fun a => some ((f52 a.1 a.2.1 a.2.2.1 a.2.2.2.1), ())) a := fun a => by
  have key : ∀ (n1 : Int) (n2 : Int) (n3 : Int) (n4 : Int), (h52 [Pt.mk n1 n2, Pt.mk n3 n2, Pt.mk n3 n4, Pt.mk n1 n4]) = h52 (f52 n1 n2 n3 n4) := by
    intros
    unfold f52
    repeat' first | rfl | refine cond_h (g := h52) ?_ ?_
  exact Eq.trans (by kernel_rfl) (key a.1 a.2.1 a.2.2.1 a.2.2.2.1)
theorem F52_ok : CFOK tC 52 F52 := mkF_ok Y52 (fn := Try.f52) (body := bodyOf Try.f52) (by kernel_rfl) (by kernel_rfl) (by kernel_rfl) (m := 0) rfl (lam_le lam_nil) f52_run

/-!  -/
noncomputable def G51 : FuncId → Option (CF tC) := look []
theorem Y51 : SysN tC G51 := (sys_nil tC_ok tC_eq)
def S51 : FS := ⟨[[.v, .v], [.v, .v, .v, .v]], [⟨[.one (.agg [.int .i64, .int .i64]), .one (.agg [.int .i64, .int .i64, .int .i64, .int .i64])], []⟩], [⟨[vO], []⟩], [[.v]], []⟩
def f51 (n1 : Int) (n2 : Int) (n3 : Int) (n4 : Int) (n5 : Int) (n6 : Int) : Bool :=
  bif decide (n1 ≥ n3) then bif decide (n1 ≤ n5) then bif decide (n2 ≥ n4) then decide (n2 ≤ n6) else false else false else false
noncomputable def F51 : CF tC := mkF tC S51 (fun a => some ((f51 a.1 a.2.1 a.2.2.1 a.2.2.2.1 a.2.2.2.2.1 a.2.2.2.2.2.1), ()))
def h51 (r : Bool) : Option (altTy tE S51.outs) := some (r, ())
theorem f51_run : ∀ a, fnS tC G51 (look []) Try.f51 S51 a = (fun a => some ((f51 a.1 a.2.1 a.2.2.1 a.2.2.2.1 a.2.2.2.2.1 a.2.2.2.2.2.1), ())) a := fun a => by
  have key : ∀ (n1 : Int) (n2 : Int) (n3 : Int) (n4 : Int) (n5 : Int) (n6 : Int), (bif decide (n1 ≥ n3) then bif decide (n1 ≤ n5) then bif decide (n2 ≥ n4) then h51 (decide (n2 ≤ n6)) else h51 false else h51 false
else h51 false) = h51 (f51 n1 n2 n3 n4 n5 n6) := by
    intros
    unfold f51
    repeat' first | rfl | refine cond_h (g := h51) ?_ ?_
  exact Eq.trans (by kernel_rfl) (key a.1 a.2.1 a.2.2.1 a.2.2.2.1 a.2.2.2.2.1 a.2.2.2.2.2.1)
theorem F51_ok : CFOK tC 51 F51 := mkF_ok Y51 (fn := Try.f51) (body := bodyOf Try.f51) (by kernel_rfl) (by kernel_rfl) (by kernel_rfl) (m := 0) rfl (lam_le lam_nil) f51_run

/-!  -/
noncomputable def G47 : FuncId → Option (CF tC) := look []
theorem Y47 : SysN tC G47 := (sys_nil tC_ok tC_eq)
def S47 : FS := ⟨[[.v], [.v], [.v]], [⟨[vI, vI, vI], []⟩], [⟨[vI], []⟩], [[.v]], []⟩
def f47 (n1 : Int) (n2 : Int) (n3 : Int) : Int :=
  bif
    decide
      ((0 : Int) >
        bif decide (IntKind.i64.wrap (n1 - n3) > IntKind.i64.wrap (n2 - n1)) then IntKind.i64.wrap (n1 - n3)
        else IntKind.i64.wrap (n2 - n1)) then
  (0 : Int)
else bif decide (IntKind.i64.wrap (n1 - n3) > IntKind.i64.wrap (n2 - n1)) then IntKind.i64.wrap (n1 - n3) else IntKind.i64.wrap (n2 - n1)
noncomputable def F47 : CF tC := mkF tC S47 (fun a => some ((f47 a.1 a.2.1 a.2.2.1), ()))
def h47 (r : Int) : Option (altTy tE S47.outs) := some (r, ())
theorem f47_run : ∀ a, fnS tC G47 (look []) Try.f47 S47 a = (fun a => some ((f47 a.1 a.2.1 a.2.2.1), ())) a := fun a => by
  have key : ∀ (n1 : Int) (n2 : Int) (n3 : Int), (h47
  (bif
      decide
        ((0 : Int) >
          bif decide (IntKind.i64.wrap (n1 - n3) > IntKind.i64.wrap (n2 - n1)) then IntKind.i64.wrap (n1 - n3)
          else IntKind.i64.wrap (n2 - n1)) then
    (0 : Int)
  else bif decide (IntKind.i64.wrap (n1 - n3) > IntKind.i64.wrap (n2 - n1)) then IntKind.i64.wrap (n1 - n3) else IntKind.i64.wrap (n2 - n1))) = h47 (f47 n1 n2 n3) := by
    intros
    unfold f47
    repeat' first | rfl | refine cond_h (g := h47) ?_ ?_
  exact Eq.trans (by kernel_rfl) (key a.1 a.2.1 a.2.2.1)
theorem F47_ok : CFOK tC 47 F47 := mkF_ok Y47 (fn := Try.f47) (body := bodyOf Try.f47) (by kernel_rfl) (by kernel_rfl) (by kernel_rfl) (m := 0) rfl (lam_le lam_nil) f47_run

/-!  -/
noncomputable def G46 : FuncId → Option (CF tC) := look []
theorem Y46 : SysN tC G46 := (sys_nil tC_ok tC_eq)
def S46 : FS := ⟨[[.v], [.v], [.v]], [⟨[vI, vI, vI], []⟩], [⟨[vI], []⟩], [[.v]], []⟩
def f46 (n1 : Int) (n2 : Int) (n3 : Int) : Int :=
  bif decide ((bif decide (n3 < n1) then n3 else n1) > n2) then bif decide (n3 < n1) then n3 else n1 else n2
noncomputable def F46 : CF tC := mkF tC S46 (fun a => some ((f46 a.1 a.2.1 a.2.2.1), ()))
def h46 (r : Int) : Option (altTy tE S46.outs) := some (r, ())
theorem f46_run : ∀ a, fnS tC G46 (look []) Try.f46 S46 a = (fun a => some ((f46 a.1 a.2.1 a.2.2.1), ())) a := fun a => by
  have key : ∀ (n1 : Int) (n2 : Int) (n3 : Int), (h46 (bif decide ((bif decide (n3 < n1) then n3 else n1) > n2) then bif decide (n3 < n1) then n3 else n1 else n2)) = h46 (f46 n1 n2 n3) := by
    intros
    unfold f46
    repeat' first | rfl | refine cond_h (g := h46) ?_ ?_
  exact Eq.trans (by kernel_rfl) (key a.1 a.2.1 a.2.2.1)
theorem F46_ok : CFOK tC 46 F46 := mkF_ok Y46 (fn := Try.f46) (body := bodyOf Try.f46) (by kernel_rfl) (by kernel_rfl) (by kernel_rfl) (m := 0) rfl (lam_le lam_nil) f46_run

/-!  -/
noncomputable def G20 : FuncId → Option (CF tC) := look [(41, F41), (17, F17), (42, F42)]
theorem Y20 : SysN tC G20 := (sys_cons F41_ok (mkF_nat _ _) (sys_cons F17_ok (mkF_nat _ _) (sys_cons F42_ok (mkF_nat _ _) (sys_nil tC_ok tC_eq))))
def S20 : FS := ⟨[[.v, .v], [.v, .v, .v, .v]], [⟨[.one (.agg [.int .i64, .int .i64]), .one (.agg [.int .i64, .int .i64, .int .i64, .int .i64])], []⟩], [⟨[vI], []⟩], [[.v]], []⟩
def f20 (n1 : Int) (n2 : Int) (n3 : Int) (n4 : Int) (n5 : Int) (n6 : Int) : Int :=
  bif !f41 n1 n2 then (0 : Int)
else
  bif !f17 n3 n4 n5 n6 then (0 : Int)
  else IntKind.i64.wrap (IntKind.i64.wrap (f42 n1 n3 n5 * f42 n1 n3 n5) + IntKind.i64.wrap (f42 n2 n4 n6 * f42 n2 n4 n6))
noncomputable def F20 : CF tC := mkF tC S20 (fun a => some ((f20 a.1 a.2.1 a.2.2.1 a.2.2.2.1 a.2.2.2.2.1 a.2.2.2.2.2.1), ()))
def h20 (r : Int) : Option (altTy tE S20.outs) := some (r, ())
theorem f20_run : ∀ a, fnS tC G20 (look []) Try.f20 S20 a = (fun a => some ((f20 a.1 a.2.1 a.2.2.1 a.2.2.2.1 a.2.2.2.2.1 a.2.2.2.2.2.1), ())) a := fun a => by
  have key : ∀ (n1 : Int) (n2 : Int) (n3 : Int) (n4 : Int) (n5 : Int) (n6 : Int), (bif !f41 n1 n2 then h20 (0 : Int)
else
  bif !f17 n3 n4 n5 n6 then h20 (0 : Int)
  else h20 (IntKind.i64.wrap (IntKind.i64.wrap (f42 n1 n3 n5 * f42 n1 n3 n5) + IntKind.i64.wrap (f42 n2 n4 n6 * f42 n2 n4 n6)))) = h20 (f20 n1 n2 n3 n4 n5 n6) := by
    intros
    unfold f20
    repeat' first | rfl | refine cond_h (g := h20) ?_ ?_
  exact Eq.trans (by kernel_rfl) (key a.1 a.2.1 a.2.2.1 a.2.2.2.1 a.2.2.2.2.1 a.2.2.2.2.2.1)
theorem F20_ok : CFOK tC 20 F20 := mkF_ok Y20 (fn := Try.f20) (body := bodyOf Try.f20) (by kernel_rfl) (by kernel_rfl) (by kernel_rfl) (m := 0) rfl (lam_le lam_nil) f20_run

/-!  -/
noncomputable def G31 : FuncId → Option (CF tC) := look [(43, F43), (40, F40), (47, F47)]
theorem Y31 : SysN tC G31 := (sys_cons F43_ok (mkF_nat _ _) (sys_cons F40_ok (mkF_nat _ _) (sys_cons F47_ok (mkF_nat _ _) (sys_nil tC_ok tC_eq))))
def S31 : FS := ⟨[[.v, .v], [.v, .v, .v, .v]], [⟨[.one (.agg [.int .i64, .int .i64]), .one (.agg [.int .i64, .int .i64, .int .i64, .int .i64])], []⟩], [⟨[vI], []⟩], [[.v]], []⟩
def f31 (n1 : Int) (n2 : Int) (n3 : Int) (n4 : Int) (n5 : Int) (n6 : Int) : Int :=
  bif !f43 n1 n2 then (0 : Int)
else
  bif !f40 n3 n4 n5 n6 then (0 : Int)
  else IntKind.i64.wrap (IntKind.i64.wrap (f47 n1 n3 n5 * f47 n1 n3 n5) + IntKind.i64.wrap (f47 n2 n4 n6 * f47 n2 n4 n6))
noncomputable def F31 : CF tC := mkF tC S31 (fun a => some ((f31 a.1 a.2.1 a.2.2.1 a.2.2.2.1 a.2.2.2.2.1 a.2.2.2.2.2.1), ()))
def h31 (r : Int) : Option (altTy tE S31.outs) := some (r, ())
theorem f31_run : ∀ a, fnS tC G31 (look []) Try.f31 S31 a = (fun a => some ((f31 a.1 a.2.1 a.2.2.1 a.2.2.2.1 a.2.2.2.2.1 a.2.2.2.2.2.1), ())) a := fun a => by
  have key : ∀ (n1 : Int) (n2 : Int) (n3 : Int) (n4 : Int) (n5 : Int) (n6 : Int), (bif !f43 n1 n2 then h31 (0 : Int)
else
  bif !f40 n3 n4 n5 n6 then h31 (0 : Int)
  else h31 (IntKind.i64.wrap (IntKind.i64.wrap (f47 n1 n3 n5 * f47 n1 n3 n5) + IntKind.i64.wrap (f47 n2 n4 n6 * f47 n2 n4 n6)))) = h31 (f31 n1 n2 n3 n4 n5 n6) := by
    intros
    unfold f31
    repeat' first | rfl | refine cond_h (g := h31) ?_ ?_
  exact Eq.trans (by kernel_rfl) (key a.1 a.2.1 a.2.2.1 a.2.2.2.1 a.2.2.2.2.1 a.2.2.2.2.2.1)
theorem F31_ok : CFOK tC 31 F31 := mkF_ok Y31 (fn := Try.f31) (body := bodyOf Try.f31) (by kernel_rfl) (by kernel_rfl) (by kernel_rfl) (m := 0) rfl (lam_le lam_nil) f31_run

/-!  -/
noncomputable def G28 : FuncId → Option (CF tC) := look [(41, F41), (44, F44), (45, F45)]
theorem Y28 : SysN tC G28 := (sys_cons F41_ok (mkF_nat _ _) (sys_cons F44_ok (mkF_nat _ _) (sys_cons F45_ok (mkF_nat _ _) (sys_nil tC_ok tC_eq))))
def S28 : FS := ⟨[[.v, .v], [.v, .v], [.v, .v]], [⟨[.one (.agg [.int .i64, .int .i64]), .one (.agg [.int .i64, .int .i64]), .one (.agg [.int .i64, .int .i64])], []⟩], [⟨[vI], []⟩], [[.v]], []⟩
def f28 (n1 : Int) (n2 : Int) (n3 : Int) (n4 : Int) (n5 : Int) (n6 : Int) : Int :=
  bif !f41 n1 n2 then (0 : Int) else bif !f41 n3 n4 then (0 : Int) else bif !f41 n5 n6 then (0 : Int) else f44 (f45 n1 n2 n3 n4 n5 n6)
noncomputable def F28 : CF tC := mkF tC S28 (fun a => some ((f28 a.1 a.2.1 a.2.2.1 a.2.2.2.1 a.2.2.2.2.1 a.2.2.2.2.2.1), ()))
def h28 (r : Int) : Option (altTy tE S28.outs) := some (r, ())
theorem f28_run : ∀ a, fnS tC G28 (look []) Try.f28 S28 a = (fun a => some ((f28 a.1 a.2.1 a.2.2.1 a.2.2.2.1 a.2.2.2.2.1 a.2.2.2.2.2.1), ())) a := fun a => by
  have key : ∀ (n1 : Int) (n2 : Int) (n3 : Int) (n4 : Int) (n5 : Int) (n6 : Int), (bif !f41 n1 n2 then h28 (0 : Int)
else bif !f41 n3 n4 then h28 (0 : Int) else bif !f41 n5 n6 then h28 (0 : Int) else h28 (f44 (f45 n1 n2 n3 n4 n5 n6))) = h28 (f28 n1 n2 n3 n4 n5 n6) := by
    intros
    unfold f28
    repeat' first | rfl | refine cond_h (g := h28) ?_ ?_
  exact Eq.trans (by kernel_rfl) (key a.1 a.2.1 a.2.2.1 a.2.2.2.1 a.2.2.2.2.1 a.2.2.2.2.2.1)
theorem F28_ok : CFOK tC 28 F28 := mkF_ok Y28 (fn := Try.f28) (body := bodyOf Try.f28) (by kernel_rfl) (by kernel_rfl) (by kernel_rfl) (m := 0) rfl (lam_le lam_nil) f28_run

/-!  -/
noncomputable def G29 : FuncId → Option (CF tC) := look [(43, F43), (46, F46)]
theorem Y29 : SysN tC G29 := (sys_cons F43_ok (mkF_nat _ _) (sys_cons F46_ok (mkF_nat _ _) (sys_nil tC_ok tC_eq)))
def S29 : FS := ⟨[[.v, .v], [.v, .v], [.v, .v]], [⟨[.one (.agg [.int .i64, .int .i64]), .one (.agg [.int .i64, .int .i64]), .one (.agg [.int .i64, .int .i64])], []⟩], [⟨[vI], []⟩], [[.v]], []⟩
def f29 (n1 : Int) (n2 : Int) (n3 : Int) (n4 : Int) (n5 : Int) (n6 : Int) : Int :=
  bif !f43 n1 n2 then (0 : Int)
else
  bif !f43 n3 n4 then (0 : Int)
  else
    bif !f43 n5 n6 then (0 : Int)
    else
      f46
        (IntKind.i64.wrap
          (IntKind.i64.wrap (IntKind.i64.wrap (n3 - n1) * IntKind.i64.wrap (n6 - n2)) -
            IntKind.i64.wrap (IntKind.i64.wrap (n4 - n2) * IntKind.i64.wrap (n5 - n1))))
        (-1 : Int) (1 : Int)
noncomputable def F29 : CF tC := mkF tC S29 (fun a => some ((f29 a.1 a.2.1 a.2.2.1 a.2.2.2.1 a.2.2.2.2.1 a.2.2.2.2.2.1), ()))
def h29 (r : Int) : Option (altTy tE S29.outs) := some (r, ())
theorem f29_run : ∀ a, fnS tC G29 (look []) Try.f29 S29 a = (fun a => some ((f29 a.1 a.2.1 a.2.2.1 a.2.2.2.1 a.2.2.2.2.1 a.2.2.2.2.2.1), ())) a := fun a => by
  have key : ∀ (n1 : Int) (n2 : Int) (n3 : Int) (n4 : Int) (n5 : Int) (n6 : Int), (bif !f43 n1 n2 then h29 (0 : Int)
else
  bif !f43 n3 n4 then h29 (0 : Int)
  else
    bif !f43 n5 n6 then h29 (0 : Int)
    else
      h29
        (f46
          (IntKind.i64.wrap
            (IntKind.i64.wrap (IntKind.i64.wrap (n3 - n1) * IntKind.i64.wrap (n6 - n2)) -
              IntKind.i64.wrap (IntKind.i64.wrap (n4 - n2) * IntKind.i64.wrap (n5 - n1))))
          (-1 : Int) (1 : Int))) = h29 (f29 n1 n2 n3 n4 n5 n6) := by
    intros
    unfold f29
    repeat' first | rfl | refine cond_h (g := h29) ?_ ?_
  exact Eq.trans (by kernel_rfl) (key a.1 a.2.1 a.2.2.1 a.2.2.2.1 a.2.2.2.2.1 a.2.2.2.2.2.1)
theorem F29_ok : CFOK tC 29 F29 := mkF_ok Y29 (fn := Try.f29) (body := bodyOf Try.f29) (by kernel_rfl) (by kernel_rfl) (by kernel_rfl) (m := 0) rfl (lam_le lam_nil) f29_run

/-!  -/
noncomputable def G30 : FuncId → Option (CF tC) := look [(41, F41), (28, F28)]
theorem Y30 : SysN tC G30 := (sys_cons F41_ok (mkF_nat _ _) (sys_cons F28_ok (mkF_nat _ _) (sys_nil tC_ok tC_eq)))
def S30 : FS := ⟨[[.v, .v], [.v, .v], [.v, .v], [.v, .v]], [⟨[.one (.agg [.int .i64, .int .i64]), .one (.agg [.int .i64, .int .i64]), .one (.agg [.int .i64, .int .i64]), .one (.agg [.int .i64, .int .i64])], []⟩], [⟨[vO], []⟩], [[.v]], []⟩
def f30 (n1 : Int) (n2 : Int) (n3 : Int) (n4 : Int) (n5 : Int) (n6 : Int) (n7 : Int) (n8 : Int) : Bool :=
  bif !f41 n1 n2 then false
else
  bif !f41 n3 n4 then false
  else
    bif !f41 n5 n6 then false
    else
      bif !f41 n7 n8 then false
      else
        bif decide ((bif decide (n3 > n1) then n3 else n1) < bif decide (n7 < n5) then n7 else n5) then false
        else
          bif decide ((bif decide (n7 > n5) then n7 else n5) < bif decide (n3 < n1) then n3 else n1) then false
          else
            bif decide ((bif decide (n4 > n2) then n4 else n2) < bif decide (n8 < n6) then n8 else n6) then false
            else
              bif decide ((bif decide (n8 > n6) then n8 else n6) < bif decide (n4 < n2) then n4 else n2) then false
              else
                bif decide (IntKind.i64.wrap (f28 n1 n2 n3 n4 n5 n6 * f28 n1 n2 n3 n4 n7 n8) ≤ (0 : Int)) then
                  decide (IntKind.i64.wrap (f28 n5 n6 n7 n8 n1 n2 * f28 n5 n6 n7 n8 n3 n4) ≤ (0 : Int))
                else false
noncomputable def F30 : CF tC := mkF tC S30 (fun a => some ((f30 a.1 a.2.1 a.2.2.1 a.2.2.2.1 a.2.2.2.2.1 a.2.2.2.2.2.1 a.2.2.2.2.2.2.1 a.2.2.2.2.2.2.2.1), ()))
def h30 (r : Bool) : Option (altTy tE S30.outs) := some (r, ())
theorem f30_run : ∀ a, fnS tC G30 (look []) Try.f30 S30 a = (fun a => some ((f30 a.1 a.2.1 a.2.2.1 a.2.2.2.1 a.2.2.2.2.1 a.2.2.2.2.2.1 a.2.2.2.2.2.2.1 a.2.2.2.2.2.2.2.1), ())) a := fun a => by
  have key : ∀ (n1 : Int) (n2 : Int) (n3 : Int) (n4 : Int) (n5 : Int) (n6 : Int) (n7 : Int) (n8 : Int), (bif !f41 n1 n2 then h30 false
else
  bif !f41 n3 n4 then h30 false
  else
    bif !f41 n5 n6 then h30 false
    else
      bif !f41 n7 n8 then h30 false
      else
        bif decide ((bif decide (n3 > n1) then n3 else n1) < bif decide (n7 < n5) then n7 else n5) then h30 false
        else
          bif decide ((bif decide (n7 > n5) then n7 else n5) < bif decide (n3 < n1) then n3 else n1) then h30 false
          else
            bif decide ((bif decide (n4 > n2) then n4 else n2) < bif decide (n8 < n6) then n8 else n6) then h30 false
            else
              bif decide ((bif decide (n8 > n6) then n8 else n6) < bif decide (n4 < n2) then n4 else n2) then h30 false
              else
                bif decide (IntKind.i64.wrap (f28 n1 n2 n3 n4 n5 n6 * f28 n1 n2 n3 n4 n7 n8) ≤ (0 : Int)) then
                  h30 (decide (IntKind.i64.wrap (f28 n5 n6 n7 n8 n1 n2 * f28 n5 n6 n7 n8 n3 n4) ≤ (0 : Int)))
                else h30 false) = h30 (f30 n1 n2 n3 n4 n5 n6 n7 n8) := by
    intros
    unfold f30
    repeat' first | rfl | refine cond_h (g := h30) ?_ ?_
  exact Eq.trans (by kernel_rfl) (key a.1 a.2.1 a.2.2.1 a.2.2.2.1 a.2.2.2.2.1 a.2.2.2.2.2.1 a.2.2.2.2.2.2.1 a.2.2.2.2.2.2.2.1)
theorem F30_ok : CFOK tC 30 F30 := mkF_ok Y30 (fn := Try.f30) (body := bodyOf Try.f30) (by kernel_rfl) (by kernel_rfl) (by kernel_rfl) (m := 0) rfl (lam_le lam_nil) f30_run

/-!  -/
noncomputable def G27 : FuncId → Option (CF tC) := look [(43, F43), (29, F29)]
theorem Y27 : SysN tC G27 := (sys_cons F43_ok (mkF_nat _ _) (sys_cons F29_ok (mkF_nat _ _) (sys_nil tC_ok tC_eq)))
def S27 : FS := ⟨[[.v, .v], [.v, .v], [.v, .v], [.v, .v]], [⟨[.one (.agg [.int .i64, .int .i64]), .one (.agg [.int .i64, .int .i64]), .one (.agg [.int .i64, .int .i64]), .one (.agg [.int .i64, .int .i64])], []⟩], [⟨[vO], []⟩], [[.v]], []⟩
def f27 (n1 : Int) (n2 : Int) (n3 : Int) (n4 : Int) (n5 : Int) (n6 : Int) (n7 : Int) (n8 : Int) : Bool :=
  bif !f43 n1 n2 then false
else
  bif !f43 n3 n4 then false
  else
    bif !f43 n5 n6 then false
    else
      bif !f43 n7 n8 then false
      else
        bif decide ((bif decide (n3 > n1) then n3 else n1) < bif decide (n7 < n5) then n7 else n5) then false
        else
          bif decide ((bif decide (n7 > n5) then n7 else n5) < bif decide (n3 < n1) then n3 else n1) then false
          else
            bif decide ((bif decide (n4 > n2) then n4 else n2) < bif decide (n8 < n6) then n8 else n6) then false
            else
              bif decide ((bif decide (n8 > n6) then n8 else n6) < bif decide (n4 < n2) then n4 else n2) then false
              else
                bif decide (IntKind.i64.wrap (f29 n1 n2 n3 n4 n5 n6 * f29 n1 n2 n3 n4 n7 n8) ≤ (0 : Int)) then
                  decide (IntKind.i64.wrap (f29 n5 n6 n7 n8 n1 n2 * f29 n5 n6 n7 n8 n3 n4) ≤ (0 : Int))
                else false
noncomputable def F27 : CF tC := mkF tC S27 (fun a => some ((f27 a.1 a.2.1 a.2.2.1 a.2.2.2.1 a.2.2.2.2.1 a.2.2.2.2.2.1 a.2.2.2.2.2.2.1 a.2.2.2.2.2.2.2.1), ()))
def h27 (r : Bool) : Option (altTy tE S27.outs) := some (r, ())
theorem f27_run : ∀ a, fnS tC G27 (look []) Try.f27 S27 a = (fun a => some ((f27 a.1 a.2.1 a.2.2.1 a.2.2.2.1 a.2.2.2.2.1 a.2.2.2.2.2.1 a.2.2.2.2.2.2.1 a.2.2.2.2.2.2.2.1), ())) a := fun a => by
  have key : ∀ (n1 : Int) (n2 : Int) (n3 : Int) (n4 : Int) (n5 : Int) (n6 : Int) (n7 : Int) (n8 : Int), (bif !f43 n1 n2 then h27 false
else
  bif !f43 n3 n4 then h27 false
  else
    bif !f43 n5 n6 then h27 false
    else
      bif !f43 n7 n8 then h27 false
      else
        bif decide ((bif decide (n3 > n1) then n3 else n1) < bif decide (n7 < n5) then n7 else n5) then h27 false
        else
          bif decide ((bif decide (n7 > n5) then n7 else n5) < bif decide (n3 < n1) then n3 else n1) then h27 false
          else
            bif decide ((bif decide (n4 > n2) then n4 else n2) < bif decide (n8 < n6) then n8 else n6) then h27 false
            else
              bif decide ((bif decide (n8 > n6) then n8 else n6) < bif decide (n4 < n2) then n4 else n2) then h27 false
              else
                bif decide (IntKind.i64.wrap (f29 n1 n2 n3 n4 n5 n6 * f29 n1 n2 n3 n4 n7 n8) ≤ (0 : Int)) then
                  h27 (decide (IntKind.i64.wrap (f29 n5 n6 n7 n8 n1 n2 * f29 n5 n6 n7 n8 n3 n4) ≤ (0 : Int)))
                else h27 false) = h27 (f27 n1 n2 n3 n4 n5 n6 n7 n8) := by
    intros
    unfold f27
    repeat' first | rfl | refine cond_h (g := h27) ?_ ?_
  exact Eq.trans (by kernel_rfl) (key a.1 a.2.1 a.2.2.1 a.2.2.2.1 a.2.2.2.2.1 a.2.2.2.2.2.1 a.2.2.2.2.2.2.1 a.2.2.2.2.2.2.2.1)
theorem F27_ok : CFOK tC 27 F27 := mkF_ok Y27 (fn := Try.f27) (body := bodyOf Try.f27) (by kernel_rfl) (by kernel_rfl) (by kernel_rfl) (m := 0) rfl (lam_le lam_nil) f27_run

/-!  -/
noncomputable def G25 : FuncId → Option (CF tC) := look [(17, F17)]
theorem Y25 : SysN tC G25 := (sys_cons F17_ok (mkF_nat _ _) (sys_nil tC_ok tC_eq))
def S25 : FS := ⟨[[.v, .v, .v, .v], [.v, .v, .v, .v]], [⟨[.one (.agg [.int .i64, .int .i64, .int .i64, .int .i64]), .one (.agg [.int .i64, .int .i64, .int .i64, .int .i64])], []⟩], [⟨[.tup [.agg [.int .i64, .int .i64, .int .i64, .int .i64], .one .bool]], []⟩], [[.v, .v, .v, .v], [.v]], []⟩
def f25 (n1 : Int) (n2 : Int) (n3 : Int) (n4 : Int) (n5 : Int) (n6 : Int) (n7 : Int) (n8 : Int) : Int × Int × Int × Int × Bool :=
  bif !f17 n1 n2 n3 n4 then ((0 : Int), (0 : Int), (0 : Int), (0 : Int), false)
else
  bif !f17 n5 n6 n7 n8 then ((0 : Int), (0 : Int), (0 : Int), (0 : Int), false)
  else
    bif !f17 (IntKind.i64.wrap (n1 - n7)) (IntKind.i64.wrap (n2 - n8)) (IntKind.i64.wrap (n3 - n5)) (IntKind.i64.wrap (n4 - n6)) then
      ((0 : Int), (0 : Int), (0 : Int), (0 : Int), false)
    else (IntKind.i64.wrap (n1 - n7), IntKind.i64.wrap (n2 - n8), IntKind.i64.wrap (n3 - n5), IntKind.i64.wrap (n4 - n6), true)
noncomputable def F25 : CF tC := mkF tC S25 (fun a => some ((f25 a.1 a.2.1 a.2.2.1 a.2.2.2.1 a.2.2.2.2.1 a.2.2.2.2.2.1 a.2.2.2.2.2.2.1 a.2.2.2.2.2.2.2.1).1, (f25 a.1 a.2.1 a.2.2.1 a.2.2.2.1 a.2.2.2.2.1 a.2.2.2.2.2.1 a.2.2.2.2.2.2.1 a.2.2.2.2.2.2.2.1).2.1, (f25 a.1 a.2.1 a.2.2.1 a.2.2.2.1 a.2.2.2.2.1 a.2.2.2.2.2.1 a.2.2.2.2.2.2.1 a.2.2.2.2.2.2.2.1).2.2.1, (f25 a.1 a.2.1 a.2.2.1 a.2.2.2.1 a.2.2.2.2.1 a.2.2.2.2.2.1 a.2.2.2.2.2.2.1 a.2.2.2.2.2.2.2.1).2.2.2.1, (f25 a.1 a.2.1 a.2.2.1 a.2.2.2.1 a.2.2.2.2.1 a.2.2.2.2.2.1 a.2.2.2.2.2.2.1 a.2.2.2.2.2.2.2.1).2.2.2.2, ()))
def h25 (r : Int × Int × Int × Int × Bool) : Option (altTy tE S25.outs) := some (r.1, r.2.1, r.2.2.1, r.2.2.2.1, r.2.2.2.2, ())
theorem f25_run : ∀ a, fnS tC G25 (look []) Try.f25 S25 a = (fun a => some ((f25 a.1 a.2.1 a.2.2.1 a.2.2.2.1 a.2.2.2.2.1 a.2.2.2.2.2.1 a.2.2.2.2.2.2.1 a.2.2.2.2.2.2.2.1).1, (f25 a.1 a.2.1 a.2.2.1 a.2.2.2.1 a.2.2.2.2.1 a.2.2.2.2.2.1 a.2.2.2.2.2.2.1 a.2.2.2.2.2.2.2.1).2.1, (f25 a.1 a.2.1 a.2.2.1 a.2.2.2.1 a.2.2.2.2.1 a.2.2.2.2.2.1 a.2.2.2.2.2.2.1 a.2.2.2.2.2.2.2.1).2.2.1, (f25 a.1 a.2.1 a.2.2.1 a.2.2.2.1 a.2.2.2.2.1 a.2.2.2.2.2.1 a.2.2.2.2.2.2.1 a.2.2.2.2.2.2.2.1).2.2.2.1, (f25 a.1 a.2.1 a.2.2.1 a.2.2.2.1 a.2.2.2.2.1 a.2.2.2.2.2.1 a.2.2.2.2.2.2.1 a.2.2.2.2.2.2.2.1).2.2.2.2, ())) a := fun a => by
  have key : ∀ (n1 : Int) (n2 : Int) (n3 : Int) (n4 : Int) (n5 : Int) (n6 : Int) (n7 : Int) (n8 : Int), (bif !f17 n1 n2 n3 n4 then h25 ((0 : Int), (0 : Int), (0 : Int), (0 : Int), false)
else
  bif !f17 n5 n6 n7 n8 then h25 ((0 : Int), (0 : Int), (0 : Int), (0 : Int), false)
  else
    bif !f17 (IntKind.i64.wrap (n1 - n7)) (IntKind.i64.wrap (n2 - n8)) (IntKind.i64.wrap (n3 - n5)) (IntKind.i64.wrap (n4 - n6)) then
      h25 ((0 : Int), (0 : Int), (0 : Int), (0 : Int), false)
    else h25 (IntKind.i64.wrap (n1 - n7), IntKind.i64.wrap (n2 - n8), IntKind.i64.wrap (n3 - n5), IntKind.i64.wrap (n4 - n6), true)) = h25 (f25 n1 n2 n3 n4 n5 n6 n7 n8) := by
    intros
    unfold f25
    repeat' first | rfl | refine cond_h (g := h25) ?_ ?_
  exact Eq.trans (by kernel_rfl) (key a.1 a.2.1 a.2.2.1 a.2.2.2.1 a.2.2.2.2.1 a.2.2.2.2.2.1 a.2.2.2.2.2.2.1 a.2.2.2.2.2.2.2.1)
theorem F25_ok : CFOK tC 25 F25 := mkF_ok Y25 (fn := Try.f25) (body := bodyOf Try.f25) (by kernel_rfl) (by kernel_rfl) (by kernel_rfl) (m := 0) rfl (lam_le lam_nil) f25_run

/-!  -/
noncomputable def G26 : FuncId → Option (CF tC) := look [(40, F40)]
theorem Y26 : SysN tC G26 := (sys_cons F40_ok (mkF_nat _ _) (sys_nil tC_ok tC_eq))
def S26 : FS := ⟨[[.v, .v, .v, .v], [.v, .v, .v, .v]], [⟨[.one (.agg [.int .i64, .int .i64, .int .i64, .int .i64]), .one (.agg [.int .i64, .int .i64, .int .i64, .int .i64])], []⟩], [⟨[.tup [.agg [.int .i64, .int .i64, .int .i64, .int .i64], .one .bool]], []⟩], [[.v, .v, .v, .v], [.v]], []⟩
def f26 (n1 : Int) (n2 : Int) (n3 : Int) (n4 : Int) (n5 : Int) (n6 : Int) (n7 : Int) (n8 : Int) : Int × Int × Int × Int × Bool :=
  bif !f40 n1 n2 n3 n4 then ((0 : Int), (0 : Int), (0 : Int), (0 : Int), false)
else
  bif !f40 n5 n6 n7 n8 then ((0 : Int), (0 : Int), (0 : Int), (0 : Int), false)
  else
    bif !f40 (IntKind.i64.wrap (n1 - n7)) (IntKind.i64.wrap (n2 - n8)) (IntKind.i64.wrap (n3 - n5)) (IntKind.i64.wrap (n4 - n6)) then
      ((0 : Int), (0 : Int), (0 : Int), (0 : Int), false)
    else (IntKind.i64.wrap (n1 - n7), IntKind.i64.wrap (n2 - n8), IntKind.i64.wrap (n3 - n5), IntKind.i64.wrap (n4 - n6), true)
noncomputable def F26 : CF tC := mkF tC S26 (fun a => some ((f26 a.1 a.2.1 a.2.2.1 a.2.2.2.1 a.2.2.2.2.1 a.2.2.2.2.2.1 a.2.2.2.2.2.2.1 a.2.2.2.2.2.2.2.1).1, (f26 a.1 a.2.1 a.2.2.1 a.2.2.2.1 a.2.2.2.2.1 a.2.2.2.2.2.1 a.2.2.2.2.2.2.1 a.2.2.2.2.2.2.2.1).2.1, (f26 a.1 a.2.1 a.2.2.1 a.2.2.2.1 a.2.2.2.2.1 a.2.2.2.2.2.1 a.2.2.2.2.2.2.1 a.2.2.2.2.2.2.2.1).2.2.1, (f26 a.1 a.2.1 a.2.2.1 a.2.2.2.1 a.2.2.2.2.1 a.2.2.2.2.2.1 a.2.2.2.2.2.2.1 a.2.2.2.2.2.2.2.1).2.2.2.1, (f26 a.1 a.2.1 a.2.2.1 a.2.2.2.1 a.2.2.2.2.1 a.2.2.2.2.2.1 a.2.2.2.2.2.2.1 a.2.2.2.2.2.2.2.1).2.2.2.2, ()))
def h26 (r : Int × Int × Int × Int × Bool) : Option (altTy tE S26.outs) := some (r.1, r.2.1, r.2.2.1, r.2.2.2.1, r.2.2.2.2, ())
theorem f26_run : ∀ a, fnS tC G26 (look []) Try.f26 S26 a = (fun a => some ((f26 a.1 a.2.1 a.2.2.1 a.2.2.2.1 a.2.2.2.2.1 a.2.2.2.2.2.1 a.2.2.2.2.2.2.1 a.2.2.2.2.2.2.2.1).1, (f26 a.1 a.2.1 a.2.2.1 a.2.2.2.1 a.2.2.2.2.1 a.2.2.2.2.2.1 a.2.2.2.2.2.2.1 a.2.2.2.2.2.2.2.1).2.1, (f26 a.1 a.2.1 a.2.2.1 a.2.2.2.1 a.2.2.2.2.1 a.2.2.2.2.2.1 a.2.2.2.2.2.2.1 a.2.2.2.2.2.2.2.1).2.2.1, (f26 a.1 a.2.1 a.2.2.1 a.2.2.2.1 a.2.2.2.2.1 a.2.2.2.2.2.1 a.2.2.2.2.2.2.1 a.2.2.2.2.2.2.2.1).2.2.2.1, (f26 a.1 a.2.1 a.2.2.1 a.2.2.2.1 a.2.2.2.2.1 a.2.2.2.2.2.1 a.2.2.2.2.2.2.1 a.2.2.2.2.2.2.2.1).2.2.2.2, ())) a := fun a => by
  have key : ∀ (n1 : Int) (n2 : Int) (n3 : Int) (n4 : Int) (n5 : Int) (n6 : Int) (n7 : Int) (n8 : Int), (bif !f40 n1 n2 n3 n4 then h26 ((0 : Int), (0 : Int), (0 : Int), (0 : Int), false)
else
  bif !f40 n5 n6 n7 n8 then h26 ((0 : Int), (0 : Int), (0 : Int), (0 : Int), false)
  else
    bif !f40 (IntKind.i64.wrap (n1 - n7)) (IntKind.i64.wrap (n2 - n8)) (IntKind.i64.wrap (n3 - n5)) (IntKind.i64.wrap (n4 - n6)) then
      h26 ((0 : Int), (0 : Int), (0 : Int), (0 : Int), false)
    else h26 (IntKind.i64.wrap (n1 - n7), IntKind.i64.wrap (n2 - n8), IntKind.i64.wrap (n3 - n5), IntKind.i64.wrap (n4 - n6), true)) = h26 (f26 n1 n2 n3 n4 n5 n6 n7 n8) := by
    intros
    unfold f26
    repeat' first | rfl | refine cond_h (g := h26) ?_ ?_
  exact Eq.trans (by kernel_rfl) (key a.1 a.2.1 a.2.2.1 a.2.2.2.1 a.2.2.2.2.1 a.2.2.2.2.2.1 a.2.2.2.2.2.2.1 a.2.2.2.2.2.2.2.1)
theorem F26_ok : CFOK tC 26 F26 := mkF_ok Y26 (fn := Try.f26) (body := bodyOf Try.f26) (by kernel_rfl) (by kernel_rfl) (by kernel_rfl) (m := 0) rfl (lam_le lam_nil) f26_run

/-!  -/
noncomputable def G48 : FuncId → Option (CF tC) := look [(44, F44), (45, F45), (49, F49)]
theorem Y48 : SysN tC G48 := (sys_cons F44_ok (mkF_nat _ _) (sys_cons F45_ok (mkF_nat _ _) (sys_cons F49_ok (mkF_nat _ _) (sys_nil tC_ok tC_eq))))
noncomputable def c48_0 : Code := loopOf (bodyOf Try.f48) 0
def p48_0 : LS := ⟨0, [3, 4, 7, 8, 51, 52], ⟨[vB, vB, vB, .one (.one (.ptr 0 0 0)), .one (.one (.ptr 1 0 0)), vB, vB, vI, vI] ++ vBs 42 ++ [.one (.agg [.int .i64, .int .i64, .int .i64, .int .i64, .int .i64, .int .i64, .int .i64, .int .i64]), vI] ++ vBs 20, [.box [.int .i64, .int .i64], .box [.int .i64, .int .i64]]⟩, [⟨.exit 0, [7, 8], ⟨vBs 7 ++ [vI, vI] ++ vBs 64, []⟩, []⟩], []⟩
noncomputable def r48_0 (x : Int × Int × Int × Int × Int × Int × Int × Int × Int × Int × Int × Int × Int × Int × Int × Unit) : Option (Int × Int × Int × Int × Int × Int × Int × Int × Int × Int × Int × Int × Int × Int × Int × Unit ⊕ Int × Int × Unit) :=
  bif decide (x.snd.snd.snd.snd.snd.snd.snd.snd.snd.snd.fst < (4 : Int)) then
  bif
      decide ((0 : Int) ≤ x.snd.snd.snd.snd.snd.snd.snd.snd.snd.snd.fst) &&
        decide (x.snd.snd.snd.snd.snd.snd.snd.snd.snd.snd.fst < (4 : Int)) then
    (idxO
          [Pt.mk x.snd.snd.fst x.snd.snd.snd.fst, Pt.mk x.snd.snd.snd.snd.fst x.snd.snd.snd.snd.snd.fst,
            Pt.mk x.snd.snd.snd.snd.snd.snd.fst x.snd.snd.snd.snd.snd.snd.snd.fst,
            Pt.mk x.snd.snd.snd.snd.snd.snd.snd.snd.fst x.snd.snd.snd.snd.snd.snd.snd.snd.snd.fst]
          x.snd.snd.snd.snd.snd.snd.snd.snd.snd.snd.fst).bind
      fun y27 =>
      some
        (Sum.inl
          (bif
                decide
                  (f44
                      (f45 x.snd.snd.snd.snd.snd.snd.snd.snd.snd.snd.snd.fst x.snd.snd.snd.snd.snd.snd.snd.snd.snd.snd.snd.snd.fst
                        x.snd.snd.snd.snd.snd.snd.snd.snd.snd.snd.snd.snd.snd.fst
                        x.snd.snd.snd.snd.snd.snd.snd.snd.snd.snd.snd.snd.snd.snd.fst y27.X y27.Y) <
                    x.fst) then
              f44
                (f45 x.snd.snd.snd.snd.snd.snd.snd.snd.snd.snd.snd.fst x.snd.snd.snd.snd.snd.snd.snd.snd.snd.snd.snd.snd.fst
                  x.snd.snd.snd.snd.snd.snd.snd.snd.snd.snd.snd.snd.snd.fst x.snd.snd.snd.snd.snd.snd.snd.snd.snd.snd.snd.snd.snd.snd.fst
                  y27.X y27.Y)
            else x.fst,
            bif
                decide
                  (f44
                      (f45 x.snd.snd.snd.snd.snd.snd.snd.snd.snd.snd.snd.fst x.snd.snd.snd.snd.snd.snd.snd.snd.snd.snd.snd.snd.fst
                        x.snd.snd.snd.snd.snd.snd.snd.snd.snd.snd.snd.snd.snd.fst
                        x.snd.snd.snd.snd.snd.snd.snd.snd.snd.snd.snd.snd.snd.snd.fst y27.X y27.Y) >
                    x.snd.fst) then
              f44
                (f45 x.snd.snd.snd.snd.snd.snd.snd.snd.snd.snd.snd.fst x.snd.snd.snd.snd.snd.snd.snd.snd.snd.snd.snd.snd.fst
                  x.snd.snd.snd.snd.snd.snd.snd.snd.snd.snd.snd.snd.snd.fst x.snd.snd.snd.snd.snd.snd.snd.snd.snd.snd.snd.snd.snd.snd.fst
                  y27.X y27.Y)
            else x.snd.fst,
            x.snd.snd.fst, x.snd.snd.snd.fst, x.snd.snd.snd.snd.fst, x.snd.snd.snd.snd.snd.fst, x.snd.snd.snd.snd.snd.snd.fst,
            x.snd.snd.snd.snd.snd.snd.snd.fst, x.snd.snd.snd.snd.snd.snd.snd.snd.fst, x.snd.snd.snd.snd.snd.snd.snd.snd.snd.fst,
            IntKind.i64.wrap (x.snd.snd.snd.snd.snd.snd.snd.snd.snd.snd.fst + (1 : Int)), x.snd.snd.snd.snd.snd.snd.snd.snd.snd.snd.snd.fst,
            x.snd.snd.snd.snd.snd.snd.snd.snd.snd.snd.snd.snd.fst, x.snd.snd.snd.snd.snd.snd.snd.snd.snd.snd.snd.snd.snd.fst,
            x.snd.snd.snd.snd.snd.snd.snd.snd.snd.snd.snd.snd.snd.snd.fst, ()))
  else none
else some (Sum.inr (x.fst, x.snd.fst, ()))
theorem r48_0_run0 (v0 : Int) (v1 : Int) (v2 : Int) (v3 : Int) (v4 : Int) (v5 : Int) (v6 : Int) (v7 : Int) (v8 : Int) (v9 : Int) (v10 : Int) (v11 : Int) (v12 : Int) (v13 : Int) (v14 : Int) : roundK tC G48 (look []) c48_0 p48_0 (v0, v1, v2, v3, v4, v5, v6, v7, v8, v9, v10, v11, v12, v13, v14, ()) = r48_0 (v0, v1, v2, v3, v4, v5, v6, v7, v8, v9, v10, v11, v12, v13, v14, ()) := by kernel_rfl
theorem r48_0_run (x : Int × Int × Int × Int × Int × Int × Int × Int × Int × Int × Int × Int × Int × Int × Int × Unit) : roundK tC G48 (look []) c48_0 p48_0 x = r48_0 x := r48_0_run0 x.1 x.2.1 x.2.2.1 x.2.2.2.1 x.2.2.2.2.1 x.2.2.2.2.2.1 x.2.2.2.2.2.2.1 x.2.2.2.2.2.2.2.1 x.2.2.2.2.2.2.2.2.1 x.2.2.2.2.2.2.2.2.2.1 x.2.2.2.2.2.2.2.2.2.2.1 x.2.2.2.2.2.2.2.2.2.2.2.1 x.2.2.2.2.2.2.2.2.2.2.2.2.1 x.2.2.2.2.2.2.2.2.2.2.2.2.2.1 x.2.2.2.2.2.2.2.2.2.2.2.2.2.2.1
noncomputable def l48_0 (x : Int × Int × Int × Int × Int × Int × Int × Int × Int × Int × Int × Int × Int × Int × Int × Unit) : Option (Int × Int × Unit) := iterO r48_0 x
noncomputable def W48_0 : LF tC := loopW tC p48_0 0 l48_0
theorem W48_0_ok : keyed 0 (bodyOf Try.f48) = [.block 0 (.loop c48_0)] ∧ ∀ n, n ≤ 0 → Snd tC n (.block 0 (.loop c48_0)) W48_0.k := ⟨by kernel_rfl, fun n hn => loopW_ok (p := p48_0) (id := 0) Y48 (lam_le lam_nil n hn) hn r48_0_run⟩
def S48 : FS := ⟨[[.v, .v], [.v, .v], [.v, .v, .v, .v]], [⟨[.one (.agg [.int .i64, .int .i64]), .one (.agg [.int .i64, .int .i64]), .one (.agg [.int .i64, .int .i64, .int .i64, .int .i64])], []⟩], [⟨[vO], []⟩], [[.v]], []⟩
noncomputable def f48 (x : Int × Int × Int × Int × Int × Int × Int × Int × Unit) : Option (Bool × Unit) :=
  bif decide ((bif decide (x.snd.snd.fst > x.fst) then x.snd.snd.fst else x.fst) < x.snd.snd.snd.snd.fst) then some (false, ())
else
  bif decide ((bif decide (x.snd.snd.fst < x.fst) then x.snd.snd.fst else x.fst) > x.snd.snd.snd.snd.snd.snd.fst) then some (false, ())
  else
    bif decide ((bif decide (x.snd.snd.snd.fst > x.snd.fst) then x.snd.snd.snd.fst else x.snd.fst) < x.snd.snd.snd.snd.snd.fst) then
      some (false, ())
    else
      bif
          decide
            ((bif decide (x.snd.snd.snd.fst < x.snd.fst) then x.snd.snd.snd.fst else x.snd.fst) > x.snd.snd.snd.snd.snd.snd.snd.fst) then
        some (false, ())
      else
        (l48_0
              ((1 : Int), (-1 : Int),
                (f49 x.snd.snd.snd.snd.fst x.snd.snd.snd.snd.snd.fst x.snd.snd.snd.snd.snd.snd.fst x.snd.snd.snd.snd.snd.snd.snd.fst).fst,
                (f49 x.snd.snd.snd.snd.fst x.snd.snd.snd.snd.snd.fst x.snd.snd.snd.snd.snd.snd.fst
                      x.snd.snd.snd.snd.snd.snd.snd.fst).snd.fst,
                (f49 x.snd.snd.snd.snd.fst x.snd.snd.snd.snd.snd.fst x.snd.snd.snd.snd.snd.snd.fst
                        x.snd.snd.snd.snd.snd.snd.snd.fst).snd.snd.fst,
                (f49 x.snd.snd.snd.snd.fst x.snd.snd.snd.snd.snd.fst x.snd.snd.snd.snd.snd.snd.fst
                          x.snd.snd.snd.snd.snd.snd.snd.fst).snd.snd.snd.fst,
                (f49 x.snd.snd.snd.snd.fst x.snd.snd.snd.snd.snd.fst x.snd.snd.snd.snd.snd.snd.fst
                            x.snd.snd.snd.snd.snd.snd.snd.fst).snd.snd.snd.snd.fst,
                (f49 x.snd.snd.snd.snd.fst x.snd.snd.snd.snd.snd.fst x.snd.snd.snd.snd.snd.snd.fst
                              x.snd.snd.snd.snd.snd.snd.snd.fst).snd.snd.snd.snd.snd.fst,
                (f49 x.snd.snd.snd.snd.fst x.snd.snd.snd.snd.snd.fst x.snd.snd.snd.snd.snd.snd.fst
                                x.snd.snd.snd.snd.snd.snd.snd.fst).snd.snd.snd.snd.snd.snd.fst,
                (f49 x.snd.snd.snd.snd.fst x.snd.snd.snd.snd.snd.fst x.snd.snd.snd.snd.snd.snd.fst
                                x.snd.snd.snd.snd.snd.snd.snd.fst).snd.snd.snd.snd.snd.snd.snd,
                (0 : Int), x.fst, x.snd.fst, x.snd.snd.fst, x.snd.snd.snd.fst, ())).bind
          fun y31 => bif decide (y31.fst ≤ (0 : Int)) then some (decide (y31.snd.fst ≥ (0 : Int)), ()) else some (false, ())
noncomputable def F48 : CF tC := mkF tC S48 f48
theorem f48_run : ∀ a, fnS tC G48 (look [(0, W48_0)]) Try.f48 S48 a = f48 a := fun a => by kernel_rfl
theorem F48_ok : CFOK tC 48 F48 := mkF_ok Y48 (fn := Try.f48) (body := bodyOf Try.f48) (by kernel_rfl) (by kernel_rfl) (by kernel_rfl) (m := 0) rfl (lam_le (lam_cons W48_0_ok lam_nil)) f48_run

/-!  -/
noncomputable def G50 : FuncId → Option (CF tC) := look [(45, F45), (59, F59)]
theorem Y50 : SysN tC G50 := (sys_cons F45_ok (mkF_nat _ _) (sys_cons F59_ok (mkF_nat _ _) (sys_nil tC_ok tC_eq)))
def S50 : FS := ⟨[[.v, .v], [.v, .v], [.v, .v], [.v]], [⟨[.one (.agg [.int .i64, .int .i64]), .one (.agg [.int .i64, .int .i64]), .one (.agg [.int .i64, .int .i64]), vI], []⟩], [⟨[vO], []⟩], [[.v]], []⟩
def f50 (n1 : Int) (n2 : Int) (n3 : Int) (n4 : Int) (n5 : Int) (n6 : Int) (n7 : Int) : Bool :=
  bif
    decide
      (IntKind.i64.wrap
          (IntKind.i64.wrap (IntKind.i64.wrap (n1 - n3) * IntKind.i64.wrap (n5 - n3)) +
            IntKind.i64.wrap (IntKind.i64.wrap (n2 - n4) * IntKind.i64.wrap (n6 - n4))) ≤
        (0 : Int)) then
  decide (f59 n1 n2 n3 n4 ≤ IntKind.i64.wrap (n7 * n7))
else
  bif
      decide
        (IntKind.i64.wrap
            (IntKind.i64.wrap (IntKind.i64.wrap (n1 - n3) * IntKind.i64.wrap (n5 - n3)) +
              IntKind.i64.wrap (IntKind.i64.wrap (n2 - n4) * IntKind.i64.wrap (n6 - n4))) ≥
          IntKind.i64.wrap
            (IntKind.i64.wrap (IntKind.i64.wrap (n5 - n3) * IntKind.i64.wrap (n5 - n3)) +
              IntKind.i64.wrap (IntKind.i64.wrap (n6 - n4) * IntKind.i64.wrap (n6 - n4)))) then
    decide (f59 n1 n2 n5 n6 ≤ IntKind.i64.wrap (n7 * n7))
  else
    bif decide (f45 n3 n4 n5 n6 n1 n2 < (-4194304 : Int)) then false
    else
      bif decide (f45 n3 n4 n5 n6 n1 n2 > (4194304 : Int)) then false
      else
        decide
          (IntKind.i64.wrap (f45 n3 n4 n5 n6 n1 n2 * f45 n3 n4 n5 n6 n1 n2) ≤
            IntKind.i64.wrap
              (IntKind.i64.wrap (n7 * n7) *
                IntKind.i64.wrap
                  (IntKind.i64.wrap (IntKind.i64.wrap (n5 - n3) * IntKind.i64.wrap (n5 - n3)) +
                    IntKind.i64.wrap (IntKind.i64.wrap (n6 - n4) * IntKind.i64.wrap (n6 - n4)))))
noncomputable def F50 : CF tC := mkF tC S50 (fun a => some ((f50 a.1 a.2.1 a.2.2.1 a.2.2.2.1 a.2.2.2.2.1 a.2.2.2.2.2.1 a.2.2.2.2.2.2.1), ()))
def h50 (r : Bool) : Option (altTy tE S50.outs) := some (r, ())
theorem f50_run : ∀ a, fnS tC G50 (look []) Try.f50 S50 a = (fun a => some ((f50 a.1 a.2.1 a.2.2.1 a.2.2.2.1 a.2.2.2.2.1 a.2.2.2.2.2.1 a.2.2.2.2.2.2.1), ())) a := fun a => by
  have key : ∀ (n1 : Int) (n2 : Int) (n3 : Int) (n4 : Int) (n5 : Int) (n6 : Int) (n7 : Int), (bif
    decide
      (IntKind.i64.wrap
          (IntKind.i64.wrap (IntKind.i64.wrap (n1 - n3) * IntKind.i64.wrap (n5 - n3)) +
            IntKind.i64.wrap (IntKind.i64.wrap (n2 - n4) * IntKind.i64.wrap (n6 - n4))) ≤
        (0 : Int)) then
  h50 (decide (f59 n1 n2 n3 n4 ≤ IntKind.i64.wrap (n7 * n7)))
else
  bif
      decide
        (IntKind.i64.wrap
            (IntKind.i64.wrap (IntKind.i64.wrap (n1 - n3) * IntKind.i64.wrap (n5 - n3)) +
              IntKind.i64.wrap (IntKind.i64.wrap (n2 - n4) * IntKind.i64.wrap (n6 - n4))) ≥
          IntKind.i64.wrap
            (IntKind.i64.wrap (IntKind.i64.wrap (n5 - n3) * IntKind.i64.wrap (n5 - n3)) +
              IntKind.i64.wrap (IntKind.i64.wrap (n6 - n4) * IntKind.i64.wrap (n6 - n4)))) then
    h50 (decide (f59 n1 n2 n5 n6 ≤ IntKind.i64.wrap (n7 * n7)))
  else
    bif decide (f45 n3 n4 n5 n6 n1 n2 < (-4194304 : Int)) then h50 false
    else
      bif decide (f45 n3 n4 n5 n6 n1 n2 > (4194304 : Int)) then h50 false
      else
        h50
          (decide
            (IntKind.i64.wrap (f45 n3 n4 n5 n6 n1 n2 * f45 n3 n4 n5 n6 n1 n2) ≤
              IntKind.i64.wrap
                (IntKind.i64.wrap (n7 * n7) *
                  IntKind.i64.wrap
                    (IntKind.i64.wrap (IntKind.i64.wrap (n5 - n3) * IntKind.i64.wrap (n5 - n3)) +
                      IntKind.i64.wrap (IntKind.i64.wrap (n6 - n4) * IntKind.i64.wrap (n6 - n4))))))) = h50 (f50 n1 n2 n3 n4 n5 n6 n7) := by
    intros
    unfold f50
    repeat' first | rfl | refine cond_h (g := h50) ?_ ?_
  exact Eq.trans (by kernel_rfl) (key a.1 a.2.1 a.2.2.1 a.2.2.2.1 a.2.2.2.2.1 a.2.2.2.2.2.1 a.2.2.2.2.2.2.1)
theorem F50_ok : CFOK tC 50 F50 := mkF_ok Y50 (fn := Try.f50) (body := bodyOf Try.f50) (by kernel_rfl) (by kernel_rfl) (by kernel_rfl) (m := 0) rfl (lam_le lam_nil) f50_run

/-!  -/
noncomputable def G53 : FuncId → Option (CF tC) := look [(19, F19)]
theorem Y53 : SysN tC G53 := (sys_cons F19_ok (mkF_nat _ _) (sys_nil tC_ok tC_eq))
def S53 : FS := ⟨[[.v, .v], [.v, .v], [.v, .v], [.v]], [⟨[.one (.agg [.int .i64, .int .i64]), .one (.agg [.int .i64, .int .i64]), .one (.agg [.int .i64, .int .i64]), vI], []⟩], [⟨[vO], []⟩], [[.v]], []⟩
def f53 (n1 : Int) (n2 : Int) (n3 : Int) (n4 : Int) (n5 : Int) (n6 : Int) (n7 : Int) : Bool :=
  bif !f19 (IntKind.i64.wrap (n1 - n3)) (3000 : Int) then false
else
  bif !f19 (IntKind.i64.wrap (n2 - n4)) (3000 : Int) then false
  else
    bif
        decide
          (IntKind.i64.wrap
              (IntKind.i64.wrap (IntKind.i64.wrap (n5 - n3) * IntKind.i64.wrap (n1 - n3)) +
                IntKind.i64.wrap (IntKind.i64.wrap (n6 - n4) * IntKind.i64.wrap (n2 - n4))) ≤
            (0 : Int)) then
      decide
        (IntKind.i64.wrap
            (IntKind.i64.wrap (IntKind.i64.wrap (n1 - n3) * IntKind.i64.wrap (n1 - n3)) +
              IntKind.i64.wrap (IntKind.i64.wrap (n2 - n4) * IntKind.i64.wrap (n2 - n4))) ≤
          IntKind.i64.wrap (n7 * n7))
    else
      bif
          decide
            (IntKind.i64.wrap
                (IntKind.i64.wrap (IntKind.i64.wrap (n5 - n3) * IntKind.i64.wrap (n1 - n3)) +
                  IntKind.i64.wrap (IntKind.i64.wrap (n6 - n4) * IntKind.i64.wrap (n2 - n4))) ≥
              IntKind.i64.wrap
                (IntKind.i64.wrap (IntKind.i64.wrap (n5 - n3) * IntKind.i64.wrap (n5 - n3)) +
                  IntKind.i64.wrap (IntKind.i64.wrap (n6 - n4) * IntKind.i64.wrap (n6 - n4)))) then
        decide
          (IntKind.i64.wrap
              (IntKind.i64.wrap (IntKind.i64.wrap (n1 - n5) * IntKind.i64.wrap (n1 - n5)) +
                IntKind.i64.wrap (IntKind.i64.wrap (n2 - n6) * IntKind.i64.wrap (n2 - n6))) ≤
            IntKind.i64.wrap (n7 * n7))
      else
        decide
          (IntKind.i64.wrap
              (IntKind.i64.wrap
                  (IntKind.i64.wrap (IntKind.i64.wrap (n5 - n3) * IntKind.i64.wrap (n2 - n4)) -
                    IntKind.i64.wrap (IntKind.i64.wrap (n6 - n4) * IntKind.i64.wrap (n1 - n3))) *
                IntKind.i64.wrap
                  (IntKind.i64.wrap (IntKind.i64.wrap (n5 - n3) * IntKind.i64.wrap (n2 - n4)) -
                    IntKind.i64.wrap (IntKind.i64.wrap (n6 - n4) * IntKind.i64.wrap (n1 - n3)))) ≤
            IntKind.i64.wrap
              (IntKind.i64.wrap (n7 * n7) *
                IntKind.i64.wrap
                  (IntKind.i64.wrap (IntKind.i64.wrap (n5 - n3) * IntKind.i64.wrap (n5 - n3)) +
                    IntKind.i64.wrap (IntKind.i64.wrap (n6 - n4) * IntKind.i64.wrap (n6 - n4)))))
noncomputable def F53 : CF tC := mkF tC S53 (fun a => some ((f53 a.1 a.2.1 a.2.2.1 a.2.2.2.1 a.2.2.2.2.1 a.2.2.2.2.2.1 a.2.2.2.2.2.2.1), ()))
def h53 (r : Bool) : Option (altTy tE S53.outs) := some (r, ())
theorem f53_run : ∀ a, fnS tC G53 (look []) Try.f53 S53 a = (fun a => some ((f53 a.1 a.2.1 a.2.2.1 a.2.2.2.1 a.2.2.2.2.1 a.2.2.2.2.2.1 a.2.2.2.2.2.2.1), ())) a := fun a => by
  have key : ∀ (n1 : Int) (n2 : Int) (n3 : Int) (n4 : Int) (n5 : Int) (n6 : Int) (n7 : Int), (bif !f19 (IntKind.i64.wrap (n1 - n3)) (3000 : Int) then h53 false
else
  bif !f19 (IntKind.i64.wrap (n2 - n4)) (3000 : Int) then h53 false
  else
    bif
        decide
          (IntKind.i64.wrap
              (IntKind.i64.wrap (IntKind.i64.wrap (n5 - n3) * IntKind.i64.wrap (n1 - n3)) +
                IntKind.i64.wrap (IntKind.i64.wrap (n6 - n4) * IntKind.i64.wrap (n2 - n4))) ≤
            (0 : Int)) then
      h53
        (decide
          (IntKind.i64.wrap
              (IntKind.i64.wrap (IntKind.i64.wrap (n1 - n3) * IntKind.i64.wrap (n1 - n3)) +
                IntKind.i64.wrap (IntKind.i64.wrap (n2 - n4) * IntKind.i64.wrap (n2 - n4))) ≤
            IntKind.i64.wrap (n7 * n7)))
    else
      bif
          decide
            (IntKind.i64.wrap
                (IntKind.i64.wrap (IntKind.i64.wrap (n5 - n3) * IntKind.i64.wrap (n1 - n3)) +
                  IntKind.i64.wrap (IntKind.i64.wrap (n6 - n4) * IntKind.i64.wrap (n2 - n4))) ≥
              IntKind.i64.wrap
                (IntKind.i64.wrap (IntKind.i64.wrap (n5 - n3) * IntKind.i64.wrap (n5 - n3)) +
                  IntKind.i64.wrap (IntKind.i64.wrap (n6 - n4) * IntKind.i64.wrap (n6 - n4)))) then
        h53
          (decide
            (IntKind.i64.wrap
                (IntKind.i64.wrap (IntKind.i64.wrap (n1 - n5) * IntKind.i64.wrap (n1 - n5)) +
                  IntKind.i64.wrap (IntKind.i64.wrap (n2 - n6) * IntKind.i64.wrap (n2 - n6))) ≤
              IntKind.i64.wrap (n7 * n7)))
      else
        h53
          (decide
            (IntKind.i64.wrap
                (IntKind.i64.wrap
                    (IntKind.i64.wrap (IntKind.i64.wrap (n5 - n3) * IntKind.i64.wrap (n2 - n4)) -
                      IntKind.i64.wrap (IntKind.i64.wrap (n6 - n4) * IntKind.i64.wrap (n1 - n3))) *
                  IntKind.i64.wrap
                    (IntKind.i64.wrap (IntKind.i64.wrap (n5 - n3) * IntKind.i64.wrap (n2 - n4)) -
                      IntKind.i64.wrap (IntKind.i64.wrap (n6 - n4) * IntKind.i64.wrap (n1 - n3)))) ≤
              IntKind.i64.wrap
                (IntKind.i64.wrap (n7 * n7) *
                  IntKind.i64.wrap
                    (IntKind.i64.wrap (IntKind.i64.wrap (n5 - n3) * IntKind.i64.wrap (n5 - n3)) +
                      IntKind.i64.wrap (IntKind.i64.wrap (n6 - n4) * IntKind.i64.wrap (n6 - n4))))))) = h53 (f53 n1 n2 n3 n4 n5 n6 n7) := by
    intros
    unfold f53
    repeat' first | rfl | refine cond_h (g := h53) ?_ ?_
  exact Eq.trans (by kernel_rfl) (key a.1 a.2.1 a.2.2.1 a.2.2.2.1 a.2.2.2.2.1 a.2.2.2.2.2.1 a.2.2.2.2.2.2.1)
theorem F53_ok : CFOK tC 53 F53 := mkF_ok Y53 (fn := Try.f53) (body := bodyOf Try.f53) (by kernel_rfl) (by kernel_rfl) (by kernel_rfl) (m := 0) rfl (lam_le lam_nil) f53_run

/-!  -/
noncomputable def G55 : FuncId → Option (CF tC) := look [(60, F60)]
theorem Y55 : SysN tC G55 := (sys_cons F60_ok (mkF_nat _ _) (sys_nil tC_ok tC_eq))
noncomputable def c55_31 : Code := subCode (subCode (subCode (bodyOf Try.f55) 19) 25) 31
def p55_31 : PS := ⟨1, [0], ⟨[.one (.one (.ptr 0 0 0))] ++ vBs 76, [.box [.int .i64, .int .i64, .int .i64, .int .i64]]⟩, [⟨.ret, [10], ⟨vBs 10 ++ [vO] ++ vBs 66, [.box [.int .i64, .int .i64, .int .i64, .int .i64]]⟩, []⟩], []⟩
noncomputable def j55_31 (x : Int × Int × Int × Int × Unit) : Option (Bool × Int × Int × Int × Int × Unit) :=
  some (!f60 x.snd.snd.fst x.snd.snd.snd.fst x.fst x.snd.fst, x.fst, x.snd.fst, x.snd.snd.fst, x.snd.snd.snd.fst, ())
theorem j55_31_run0 (v0 : Int) (v1 : Int) (v2 : Int) (v3 : Int) : pieceK tC G55 (look []) c55_31 p55_31 (v0, v1, v2, v3, ()) = j55_31 (v0, v1, v2, v3, ()) := by kernel_rfl
theorem j55_31_run (x : Int × Int × Int × Int × Unit) : pieceK tC G55 (look []) c55_31 p55_31 x = j55_31 x := j55_31_run0 x.1 x.2.1 x.2.2.1 x.2.2.2.1
noncomputable def W55_31 : LF tC := cutLF tC p55_31 j55_31
theorem W55_31_ok : keyed 31 (subCode (subCode (bodyOf Try.f55) 19) 25) = [c55_31] ∧ ∀ n, n ≤ 1 → Snd tC n c55_31 W55_31.k := ⟨by kernel_rfl, fun n hn => cut_ok (p := p55_31) Y55 (lam_le lam_nil n hn) hn j55_31_run⟩
noncomputable def c55_25 : Code := subCode (subCode (bodyOf Try.f55) 19) 25
def p55_25 : PS := ⟨1, [0, 12], ⟨[.one (.one (.ptr 0 0 0))] ++ vBs 11 ++ [.one (.one (.ptr 1 0 0))] ++ vBs 64, [.box [.int .i64, .int .i64, .int .i64, .int .i64], .box [.int .i64, .int .i64]]⟩, [⟨.ret, [10], ⟨vBs 10 ++ [vO] ++ vBs 66, [.box [.int .i64, .int .i64, .int .i64, .int .i64]]⟩, []⟩], []⟩
noncomputable def j55_25 (x : Int × Int × Int × Int × Int × Int × Unit) : Option (Bool × Int × Int × Int × Int × Unit) :=
  bif f60 x.snd.snd.snd.snd.fst x.snd.snd.snd.snd.snd.fst x.snd.snd.fst x.snd.snd.snd.fst then
  (j55_31 (x.fst, x.snd.fst, x.snd.snd.snd.snd.fst, x.snd.snd.snd.snd.snd.fst, ())).bind fun y47 =>
    some (y47.fst, y47.snd.fst, y47.snd.snd.fst, y47.snd.snd.snd.fst, y47.snd.snd.snd.snd.fst, ())
else
  (j55_31 (x.fst, x.snd.fst, x.snd.snd.fst, x.snd.snd.snd.fst, ())).bind fun y48 =>
    some (y48.fst, y48.snd.fst, y48.snd.snd.fst, y48.snd.snd.snd.fst, y48.snd.snd.snd.snd.fst, ())
theorem j55_25_run0 (v0 : Int) (v1 : Int) (v2 : Int) (v3 : Int) (v4 : Int) (v5 : Int) : pieceK tC G55 (look [(31, W55_31)]) c55_25 p55_25 (v0, v1, v2, v3, v4, v5, ()) = j55_25 (v0, v1, v2, v3, v4, v5, ()) := by kernel_rfl
theorem j55_25_run (x : Int × Int × Int × Int × Int × Int × Unit) : pieceK tC G55 (look [(31, W55_31)]) c55_25 p55_25 x = j55_25 x := j55_25_run0 x.1 x.2.1 x.2.2.1 x.2.2.2.1 x.2.2.2.2.1 x.2.2.2.2.2.1
noncomputable def W55_25 : LF tC := cutLF tC p55_25 j55_25
theorem W55_25_ok : keyed 25 (subCode (bodyOf Try.f55) 19) = [c55_25] ∧ ∀ n, n ≤ 1 → Snd tC n c55_25 W55_25.k := ⟨by kernel_rfl, fun n hn => cut_ok (p := p55_25) Y55 (lam_le (lam_cons W55_31_ok lam_nil) n hn) hn j55_25_run⟩
noncomputable def c55_19 : Code := subCode (bodyOf Try.f55) 19
def p55_19 : PS := ⟨1, [0, 11, 12], ⟨[.one (.one (.ptr 0 0 0))] ++ vBs 10 ++ [.one (.one (.ptr 1 0 0)), .one (.one (.ptr 2 0 0))] ++ vBs 64, [.box [.int .i64, .int .i64, .int .i64, .int .i64], .box [.int .i64, .int .i64], .box [.int .i64, .int .i64]]⟩, [⟨.ret, [10], ⟨vBs 10 ++ [vO] ++ vBs 66, [.box [.int .i64, .int .i64, .int .i64, .int .i64]]⟩, []⟩], []⟩
noncomputable def j55_19 (x : Int × Int × Int × Int × Int × Int × Int × Int × Unit) : Option (Bool × Int × Int × Int × Int × Unit) :=
  bif f60 x.fst x.snd.fst x.snd.snd.snd.snd.fst x.snd.snd.snd.snd.snd.fst then
  (j55_25
        (x.snd.snd.snd.snd.fst, x.snd.snd.snd.snd.snd.fst, x.snd.snd.fst, x.snd.snd.snd.fst, x.snd.snd.snd.snd.snd.snd.fst,
          x.snd.snd.snd.snd.snd.snd.snd.fst, ())).bind
    fun y64 => some (y64.fst, y64.snd.fst, y64.snd.snd.fst, y64.snd.snd.snd.fst, y64.snd.snd.snd.snd.fst, ())
else
  (j55_25 (x.fst, x.snd.fst, x.snd.snd.fst, x.snd.snd.snd.fst, x.snd.snd.snd.snd.snd.snd.fst, x.snd.snd.snd.snd.snd.snd.snd.fst, ())).bind
    fun y65 => some (y65.fst, y65.snd.fst, y65.snd.snd.fst, y65.snd.snd.snd.fst, y65.snd.snd.snd.snd.fst, ())
theorem j55_19_run0 (v0 : Int) (v1 : Int) (v2 : Int) (v3 : Int) (v4 : Int) (v5 : Int) (v6 : Int) (v7 : Int) : pieceK tC G55 (look [(25, W55_25)]) c55_19 p55_19 (v0, v1, v2, v3, v4, v5, v6, v7, ()) = j55_19 (v0, v1, v2, v3, v4, v5, v6, v7, ()) := by kernel_rfl
theorem j55_19_run (x : Int × Int × Int × Int × Int × Int × Int × Int × Unit) : pieceK tC G55 (look [(25, W55_25)]) c55_19 p55_19 x = j55_19 x := j55_19_run0 x.1 x.2.1 x.2.2.1 x.2.2.2.1 x.2.2.2.2.1 x.2.2.2.2.2.1 x.2.2.2.2.2.2.1 x.2.2.2.2.2.2.2.1
noncomputable def W55_19 : LF tC := cutLF tC p55_19 j55_19
theorem W55_19_ok : keyed 19 (bodyOf Try.f55) = [c55_19] ∧ ∀ n, n ≤ 1 → Snd tC n c55_19 W55_19.k := ⟨by kernel_rfl, fun n hn => cut_ok (p := p55_19) Y55 (lam_le (lam_cons W55_25_ok lam_nil) n hn) hn j55_19_run⟩
def S55 : FS := ⟨[[.p], [.v], [.v], [.v], [.v]], [⟨[.one (.one (.ptr 0 0 0)), vI, vI, vI, vI], [.box [.int .i64, .int .i64, .int .i64, .int .i64]]⟩], [⟨[vO], [.box [.int .i64, .int .i64, .int .i64, .int .i64]]⟩], [[.v]], []⟩
noncomputable def f55 (x : Int × Int × Int × Int × Int × Int × Int × Int × Unit) : Option (Bool × Int × Int × Int × Int × Unit) :=
  bif x.snd.fst == (0 : Int) then
  bif decide (x.snd.snd.fst ≤ x.fst) then
    some
      (decide (x.fst ≤ x.snd.snd.snd.fst), x.snd.snd.snd.snd.fst, x.snd.snd.snd.snd.snd.fst, x.snd.snd.snd.snd.snd.snd.fst,
        x.snd.snd.snd.snd.snd.snd.snd.fst, ())
  else some (false, x.snd.snd.snd.snd.fst, x.snd.snd.snd.snd.snd.fst, x.snd.snd.snd.snd.snd.snd.fst, x.snd.snd.snd.snd.snd.snd.snd.fst, ())
else
  bif decide (x.snd.fst < (0 : Int)) then
    (j55_19
          (x.snd.snd.snd.snd.fst, x.snd.snd.snd.snd.snd.fst, x.snd.snd.snd.snd.snd.snd.fst, x.snd.snd.snd.snd.snd.snd.snd.fst,
            IntKind.i64.wrap (x.fst - x.snd.snd.snd.fst), IntKind.i64.wrap ((0 : Int) - x.snd.fst),
            IntKind.i64.wrap (x.fst - x.snd.snd.fst), IntKind.i64.wrap ((0 : Int) - x.snd.fst), ())).bind
      fun y81 => some (y81.fst, y81.snd.fst, y81.snd.snd.fst, y81.snd.snd.snd.fst, y81.snd.snd.snd.snd.fst, ())
  else
    (j55_19
          (x.snd.snd.snd.snd.fst, x.snd.snd.snd.snd.snd.fst, x.snd.snd.snd.snd.snd.snd.fst, x.snd.snd.snd.snd.snd.snd.snd.fst,
            IntKind.i64.wrap (x.snd.snd.fst - x.fst), x.snd.fst, IntKind.i64.wrap (x.snd.snd.snd.fst - x.fst), x.snd.fst, ())).bind
      fun y82 => some (y82.fst, y82.snd.fst, y82.snd.snd.fst, y82.snd.snd.snd.fst, y82.snd.snd.snd.snd.fst, ())
noncomputable def F55 : CF tC := mkF tC S55 f55
theorem f55_run : ∀ a, fnS tC G55 (look [(19, W55_19)]) Try.f55 S55 a = f55 a := fun a => by kernel_rfl
theorem F55_ok : CFOK tC 55 F55 := mkF_ok Y55 (fn := Try.f55) (body := bodyOf Try.f55) (by kernel_rfl) (by kernel_rfl) (by kernel_rfl) (m := 1) rfl (lam_le (lam_cons W55_19_ok lam_nil)) f55_run

/-!  -/
noncomputable def G34 : FuncId → Option (CF tC) := look [(41, F41), (54, F54), (17, F17), (55, F55)]
theorem Y34 : SysN tC G34 := (sys_cons F41_ok (mkF_nat _ _) (sys_cons F54_ok (mkF_nat _ _) (sys_cons F17_ok (mkF_nat _ _) (sys_cons F55_ok (mkF_nat _ _) (sys_nil tC_ok tC_eq)))))
def S34 : FS := ⟨[[.v, .v], [.v, .v, .v], [.v, .v, .v, .v]], [⟨[.one (.agg [.int .i64, .int .i64]), .one (.agg [.int .i64, .int .i64, .int .i64]), .one (.agg [.int .i64, .int .i64, .int .i64, .int .i64])], []⟩], [⟨[.tup [.agg [.int .i64, .int .i64, .int .i64, .int .i64], .one .bool]], []⟩], [[.v, .v, .v, .v], [.v]], []⟩
noncomputable def f34 (x : Int × Int × Int × Int × Int × Int × Int × Int × Int × Unit) : Option (Int × Int × Int × Int × Bool × Unit) :=
  bif !f41 x.fst x.snd.fst then some ((0 : Int), (0 : Int), (0 : Int), (0 : Int), false, ())
else
  bif !f54 x.snd.snd.fst x.snd.snd.snd.fst x.snd.snd.snd.snd.fst then some ((0 : Int), (0 : Int), (0 : Int), (0 : Int), false, ())
  else
    bif
        !f17 x.snd.snd.snd.snd.snd.fst x.snd.snd.snd.snd.snd.snd.fst x.snd.snd.snd.snd.snd.snd.snd.fst
            x.snd.snd.snd.snd.snd.snd.snd.snd.fst then
      some ((0 : Int), (0 : Int), (0 : Int), (0 : Int), false, ())
    else
      (f55
            (x.fst, x.snd.snd.fst, x.snd.snd.snd.snd.snd.fst, x.snd.snd.snd.snd.snd.snd.snd.fst, (0 : Int), (1 : Int), (8388608 : Int),
              (1 : Int), ())).bind
        fun y26 =>
        bif !y26.fst then some ((0 : Int), (0 : Int), (0 : Int), (0 : Int), false, ())
        else
          (f55
                (x.snd.fst, x.snd.snd.snd.fst, x.snd.snd.snd.snd.snd.snd.fst, x.snd.snd.snd.snd.snd.snd.snd.snd.fst, y26.snd.fst,
                  y26.snd.snd.fst, y26.snd.snd.snd.fst, y26.snd.snd.snd.snd.fst, ())).bind
            fun y25 =>
            bif !y25.fst then some ((0 : Int), (0 : Int), (0 : Int), (0 : Int), false, ())
            else some (y25.snd.fst, y25.snd.snd.fst, y25.snd.snd.snd.fst, y25.snd.snd.snd.snd.fst, true, ())
noncomputable def F34 : CF tC := mkF tC S34 f34
theorem f34_run : ∀ a, fnS tC G34 (look []) Try.f34 S34 a = f34 a := fun a => by kernel_rfl
theorem F34_ok : CFOK tC 34 F34 := mkF_ok Y34 (fn := Try.f34) (body := bodyOf Try.f34) (by kernel_rfl) (by kernel_rfl) (by kernel_rfl) (m := 0) rfl (lam_le lam_nil) f34_run

/-!  -/
noncomputable def G13 : FuncId → Option (CF tC) := look [(34, F34), (35, F35)]
theorem Y13 : SysN tC G13 := (sys_cons F34_ok (mkF_nat _ _) (sys_cons F35_ok (mkF_nat _ _) (sys_nil tC_ok tC_eq)))
def S13 : FS := ⟨[[.v, .v], [.v, .v, .v], [.v, .v, .v, .v]], [⟨[.one (.agg [.int .i64, .int .i64]), .one (.agg [.int .i64, .int .i64, .int .i64]), .one (.agg [.int .i64, .int .i64, .int .i64, .int .i64])], []⟩], [⟨[.tup [.agg [.int .i64, .int .i64], .one .bool]], []⟩], [[.v, .v], [.v]], []⟩
noncomputable def f13 (x : Int × Int × Int × Int × Int × Int × Int × Int × Int × Unit) : Option (Int × Int × Bool × Unit) :=
  (f34
      (x.fst, x.snd.fst, x.snd.snd.fst, x.snd.snd.snd.fst, x.snd.snd.snd.snd.fst, x.snd.snd.snd.snd.snd.fst, x.snd.snd.snd.snd.snd.snd.fst,
        x.snd.snd.snd.snd.snd.snd.snd.fst, x.snd.snd.snd.snd.snd.snd.snd.snd.fst, ())).bind
  fun y21 =>
  bif !y21.snd.snd.snd.snd.fst then some ((0 : Int), (0 : Int), false, ())
  else
    (f35 (y21.fst, y21.snd.fst, x.snd.snd.fst, x.snd.snd.snd.fst, x.snd.snd.snd.snd.fst, ())).bind fun y20 =>
      some (y20.fst, y20.snd.fst, true, ())
noncomputable def F13 : CF tC := mkF tC S13 f13
theorem f13_run : ∀ a, fnS tC G13 (look []) Try.f13 S13 a = f13 a := fun a => by kernel_rfl
theorem F13_ok : CFOK tC 13 F13 := mkF_ok Y13 (fn := Try.f13) (body := bodyOf Try.f13) (by kernel_rfl) (by kernel_rfl) (by kernel_rfl) (m := 0) rfl (lam_le lam_nil) f13_run

/-!  -/
noncomputable def G14 : FuncId → Option (CF tC) := look [(34, F34), (35, F35)]
theorem Y14 : SysN tC G14 := (sys_cons F34_ok (mkF_nat _ _) (sys_cons F35_ok (mkF_nat _ _) (sys_nil tC_ok tC_eq)))
def S14 : FS := ⟨[[.v, .v], [.v, .v, .v], [.v, .v, .v, .v]], [⟨[.one (.agg [.int .i64, .int .i64]), .one (.agg [.int .i64, .int .i64, .int .i64]), .one (.agg [.int .i64, .int .i64, .int .i64, .int .i64])], []⟩], [⟨[.tup [.agg [.int .i64, .int .i64], .one .bool]], []⟩], [[.v, .v], [.v]], []⟩
noncomputable def f14 (x : Int × Int × Int × Int × Int × Int × Int × Int × Int × Unit) : Option (Int × Int × Bool × Unit) :=
  (f34
      (x.fst, x.snd.fst, x.snd.snd.fst, x.snd.snd.snd.fst, x.snd.snd.snd.snd.fst, x.snd.snd.snd.snd.snd.fst, x.snd.snd.snd.snd.snd.snd.fst,
        x.snd.snd.snd.snd.snd.snd.snd.fst, x.snd.snd.snd.snd.snd.snd.snd.snd.fst, ())).bind
  fun y21 =>
  bif !y21.snd.snd.snd.snd.fst then some ((0 : Int), (0 : Int), false, ())
  else
    (f35 (y21.snd.snd.fst, y21.snd.snd.snd.fst, x.snd.snd.fst, x.snd.snd.snd.fst, x.snd.snd.snd.snd.fst, ())).bind fun y20 =>
      some (y20.fst, y20.snd.fst, true, ())
noncomputable def F14 : CF tC := mkF tC S14 f14
theorem f14_run : ∀ a, fnS tC G14 (look []) Try.f14 S14 a = f14 a := fun a => by kernel_rfl
theorem F14_ok : CFOK tC 14 F14 := mkF_ok Y14 (fn := Try.f14) (body := bodyOf Try.f14) (by kernel_rfl) (by kernel_rfl) (by kernel_rfl) (m := 0) rfl (lam_le lam_nil) f14_run

/-!  -/
noncomputable def G21 : FuncId → Option (CF tC) := look [(34, F34)]
theorem Y21 : SysN tC G21 := (sys_cons F34_ok (mkF_nat _ _) (sys_nil tC_ok tC_eq))
def S21 : FS := ⟨[[.v, .v], [.v, .v, .v], [.v], [.v], [.v, .v, .v, .v]], [⟨[.one (.agg [.int .i64, .int .i64]), .one (.agg [.int .i64, .int .i64, .int .i64]), vI, vI, .one (.agg [.int .i64, .int .i64, .int .i64, .int .i64])], []⟩], [⟨[vO], []⟩], [[.v]], []⟩
noncomputable def f21 (x : Int × Int × Int × Int × Int × Int × Int × Int × Int × Int × Int × Unit) : Option (Bool × Unit) :=
  bif decide (x.snd.snd.snd.snd.snd.fst < (0 : Int)) then some (false, ())
else
  bif decide (x.snd.snd.snd.snd.snd.snd.fst < x.snd.snd.snd.snd.snd.fst) then some (false, ())
  else
    bif decide (x.snd.snd.snd.snd.snd.snd.fst > (65536 : Int)) then some (false, ())
    else
      (f34
            (x.fst, x.snd.fst, x.snd.snd.fst, x.snd.snd.snd.fst, x.snd.snd.snd.snd.fst, x.snd.snd.snd.snd.snd.snd.snd.fst,
              x.snd.snd.snd.snd.snd.snd.snd.snd.fst, x.snd.snd.snd.snd.snd.snd.snd.snd.snd.fst,
              x.snd.snd.snd.snd.snd.snd.snd.snd.snd.snd.fst, ())).bind
        fun y18 =>
        bif y18.snd.snd.snd.snd.fst then
          bif
              decide
                (IntKind.i64.wrap (x.snd.snd.snd.snd.snd.fst * y18.snd.snd.snd.fst) ≤
                  IntKind.i64.wrap (y18.snd.snd.fst * x.snd.snd.snd.snd.fst)) then
            some
              (decide (IntKind.i64.wrap (y18.fst * x.snd.snd.snd.snd.fst) ≤ IntKind.i64.wrap (x.snd.snd.snd.snd.snd.snd.fst * y18.snd.fst)),
                ())
          else some (false, ())
        else some (false, ())
noncomputable def F21 : CF tC := mkF tC S21 f21
theorem f21_run : ∀ a, fnS tC G21 (look []) Try.f21 S21 a = f21 a := fun a => by kernel_rfl
theorem F21_ok : CFOK tC 21 F21 := mkF_ok Y21 (fn := Try.f21) (body := bodyOf Try.f21) (by kernel_rfl) (by kernel_rfl) (by kernel_rfl) (m := 0) rfl (lam_le lam_nil) f21_run

/-!  -/
noncomputable def G23 : FuncId → Option (CF tC) := look [(34, F34)]
theorem Y23 : SysN tC G23 := (sys_cons F34_ok (mkF_nat _ _) (sys_nil tC_ok tC_eq))
def S23 : FS := ⟨[[.v, .v], [.v, .v, .v], [.v], [.v, .v, .v, .v]], [⟨[.one (.agg [.int .i64, .int .i64]), .one (.agg [.int .i64, .int .i64, .int .i64]), vI, .one (.agg [.int .i64, .int .i64, .int .i64, .int .i64])], []⟩], [⟨[vO], []⟩], [[.v]], []⟩
noncomputable def f23 (x : Int × Int × Int × Int × Int × Int × Int × Int × Int × Int × Unit) : Option (Bool × Unit) :=
  bif decide (x.snd.snd.snd.snd.snd.fst < (0 : Int)) then some (false, ())
else
  bif decide (x.snd.snd.snd.snd.snd.fst > (65536 : Int)) then some (false, ())
  else
    (f34
          (x.fst, x.snd.fst, x.snd.snd.fst, x.snd.snd.snd.fst, x.snd.snd.snd.snd.fst, x.snd.snd.snd.snd.snd.snd.fst,
            x.snd.snd.snd.snd.snd.snd.snd.fst, x.snd.snd.snd.snd.snd.snd.snd.snd.fst, x.snd.snd.snd.snd.snd.snd.snd.snd.snd.fst, ())).bind
      fun y17 =>
      bif y17.snd.snd.snd.snd.fst then
        some (decide (IntKind.i64.wrap (y17.fst * x.snd.snd.snd.snd.fst) < IntKind.i64.wrap (x.snd.snd.snd.snd.snd.fst * y17.snd.fst)), ())
      else some (false, ())
noncomputable def F23 : CF tC := mkF tC S23 f23
theorem f23_run : ∀ a, fnS tC G23 (look []) Try.f23 S23 a = f23 a := fun a => by kernel_rfl
theorem F23_ok : CFOK tC 23 F23 := mkF_ok Y23 (fn := Try.f23) (body := bodyOf Try.f23) (by kernel_rfl) (by kernel_rfl) (by kernel_rfl) (m := 0) rfl (lam_le lam_nil) f23_run

/-!  -/
noncomputable def G22 : FuncId → Option (CF tC) := look [(15, F15), (16, F16)]
theorem Y22 : SysN tC G22 := (sys_cons F15_ok (mkF_nat _ _) (sys_cons F16_ok (mkF_nat _ _) (sys_nil tC_ok tC_eq)))
def S22 : FS := ⟨[[.v, .v], [.v, .v, .v], [.v], [.v], [.v, .v, .v, .v]], [⟨[.one (.agg [.int .i64, .int .i64]), .one (.agg [.int .i64, .int .i64, .int .i64]), vI, vI, .one (.agg [.int .i64, .int .i64, .int .i64, .int .i64])], []⟩], [⟨[vO], []⟩], [[.v]], []⟩
noncomputable def f22 (x : Int × Int × Int × Int × Int × Int × Int × Int × Int × Int × Int × Unit) : Option (Bool × Unit) :=
  bif decide (x.snd.snd.snd.snd.snd.fst < (0 : Int)) then some (false, ())
else
  bif decide (x.snd.snd.snd.snd.snd.fst > x.snd.snd.snd.snd.snd.snd.fst) then some (false, ())
  else
    bif decide (x.snd.snd.snd.snd.snd.snd.fst > (65536 : Int)) then some (false, ())
    else
      (f15
            (x.fst, x.snd.fst, x.snd.snd.fst, x.snd.snd.snd.fst, x.snd.snd.snd.snd.fst, x.snd.snd.snd.snd.snd.snd.snd.fst,
              x.snd.snd.snd.snd.snd.snd.snd.snd.fst, x.snd.snd.snd.snd.snd.snd.snd.snd.snd.fst,
              x.snd.snd.snd.snd.snd.snd.snd.snd.snd.snd.fst, ())).bind
        fun y20 =>
        (f16
              (x.fst, x.snd.fst, x.snd.snd.fst, x.snd.snd.snd.fst, x.snd.snd.snd.snd.fst, x.snd.snd.snd.snd.snd.snd.snd.fst,
                x.snd.snd.snd.snd.snd.snd.snd.snd.fst, x.snd.snd.snd.snd.snd.snd.snd.snd.snd.fst,
                x.snd.snd.snd.snd.snd.snd.snd.snd.snd.snd.fst, ())).bind
          fun y19 =>
          bif y20.snd.snd.fst then
            bif decide (y20.fst ≤ IntKind.i64.wrap (x.snd.snd.snd.snd.snd.snd.fst * y20.snd.fst)) then
              some (decide (y19.fst ≥ IntKind.i64.wrap (x.snd.snd.snd.snd.snd.fst * y19.snd.fst)), ())
            else some (false, ())
          else some (false, ())
noncomputable def F22 : CF tC := mkF tC S22 f22
theorem f22_run : ∀ a, fnS tC G22 (look []) Try.f22 S22 a = f22 a := fun a => by kernel_rfl
theorem F22_ok : CFOK tC 22 F22 := mkF_ok Y22 (fn := Try.f22) (body := bodyOf Try.f22) (by kernel_rfl) (by kernel_rfl) (by kernel_rfl) (m := 0) rfl (lam_le lam_nil) f22_run

/-!  -/
noncomputable def G24 : FuncId → Option (CF tC) := look [(15, F15)]
theorem Y24 : SysN tC G24 := (sys_cons F15_ok (mkF_nat _ _) (sys_nil tC_ok tC_eq))
def S24 : FS := ⟨[[.v, .v], [.v, .v, .v], [.v], [.v, .v, .v, .v]], [⟨[.one (.agg [.int .i64, .int .i64]), .one (.agg [.int .i64, .int .i64, .int .i64]), vI, .one (.agg [.int .i64, .int .i64, .int .i64, .int .i64])], []⟩], [⟨[vO], []⟩], [[.v]], []⟩
noncomputable def f24 (x : Int × Int × Int × Int × Int × Int × Int × Int × Int × Int × Unit) : Option (Bool × Unit) :=
  bif decide (x.snd.snd.snd.snd.snd.fst < (0 : Int)) then some (false, ())
else
  bif decide (x.snd.snd.snd.snd.snd.fst > (65536 : Int)) then some (false, ())
  else
    (f15
          (x.fst, x.snd.fst, x.snd.snd.fst, x.snd.snd.snd.fst, x.snd.snd.snd.snd.fst, x.snd.snd.snd.snd.snd.snd.fst,
            x.snd.snd.snd.snd.snd.snd.snd.fst, x.snd.snd.snd.snd.snd.snd.snd.snd.fst, x.snd.snd.snd.snd.snd.snd.snd.snd.snd.fst, ())).bind
      fun y15 =>
      bif y15.snd.snd.fst then some (decide (y15.fst < IntKind.i64.wrap (x.snd.snd.snd.snd.snd.fst * y15.snd.fst)), ())
      else some (false, ())
noncomputable def F24 : CF tC := mkF tC S24 f24
theorem f24_run : ∀ a, fnS tC G24 (look []) Try.f24 S24 a = f24 a := fun a => by kernel_rfl
theorem F24_ok : CFOK tC 24 F24 := mkF_ok Y24 (fn := Try.f24) (body := bodyOf Try.f24) (by kernel_rfl) (by kernel_rfl) (by kernel_rfl) (m := 0) rfl (lam_le lam_nil) f24_run

/-!  -/
noncomputable def G32 : FuncId → Option (CF tC) := look [(41, F41), (17, F17), (42, F42), (48, F48), (20, F20), (49, F49), (50, F50)]
theorem Y32 : SysN tC G32 := (sys_cons F41_ok (mkF_nat _ _) (sys_cons F17_ok (mkF_nat _ _) (sys_cons F42_ok (mkF_nat _ _) (sys_cons F48_ok (mkF_nat _ _) (sys_cons F20_ok (mkF_nat _ _) (sys_cons F49_ok (mkF_nat _ _) (sys_cons F50_ok (mkF_nat _ _) (sys_nil tC_ok tC_eq))))))))
noncomputable def c32_0 : Code := loopOf (bodyOf Try.f32) 0
def p32_0 : LS := ⟨0, [3, 4, 5, 77, 78], ⟨[vB, vB, vB, vI, .one (.one (.ptr 0 0 0)), .one (.one (.ptr 1 0 0))] ++ vBs 71 ++ [.one (.agg [.int .i64, .int .i64, .int .i64, .int .i64, .int .i64, .int .i64, .int .i64, .int .i64]), vI] ++ vBs 8, [.box [.int .i64, .int .i64], .box [.int .i64, .int .i64]]⟩, [⟨.ret, [8], ⟨vBs 8 ++ [vO] ++ vBs 78, []⟩, []⟩, ⟨.exit 0, [], ⟨vBs 87, []⟩, []⟩], []⟩
noncomputable def r32_0 (x : Int × Int × Int × Int × Int × Int × Int × Int × Int × Int × Int × Int × Int × Int × Unit) : Option (Int × Int × Int × Int × Int × Int × Int × Int × Int × Int × Int × Int × Int × Int × Unit ⊕ Bool × Unit ⊕ Unit) :=
  bif decide (x.snd.snd.snd.snd.snd.snd.snd.snd.snd.fst < (4 : Int)) then
  bif decide ((0 : Int) ≤ x.snd.snd.snd.snd.snd.snd.snd.snd.snd.fst) && decide (x.snd.snd.snd.snd.snd.snd.snd.snd.snd.fst < (4 : Int)) then
    (idxO
          [Pt.mk x.snd.fst x.snd.snd.fst, Pt.mk x.snd.snd.snd.fst x.snd.snd.snd.snd.fst,
            Pt.mk x.snd.snd.snd.snd.snd.fst x.snd.snd.snd.snd.snd.snd.fst,
            Pt.mk x.snd.snd.snd.snd.snd.snd.snd.fst x.snd.snd.snd.snd.snd.snd.snd.snd.fst]
          x.snd.snd.snd.snd.snd.snd.snd.snd.snd.fst).bind
      fun y27 =>
      bif
          f50 y27.X y27.Y x.snd.snd.snd.snd.snd.snd.snd.snd.snd.snd.fst x.snd.snd.snd.snd.snd.snd.snd.snd.snd.snd.snd.fst
            x.snd.snd.snd.snd.snd.snd.snd.snd.snd.snd.snd.snd.fst x.snd.snd.snd.snd.snd.snd.snd.snd.snd.snd.snd.snd.snd.fst x.fst then
        some (Sum.inr (Sum.inl (true, ())))
      else
        some
          (Sum.inl
            (x.fst, x.snd.fst, x.snd.snd.fst, x.snd.snd.snd.fst, x.snd.snd.snd.snd.fst, x.snd.snd.snd.snd.snd.fst,
              x.snd.snd.snd.snd.snd.snd.fst, x.snd.snd.snd.snd.snd.snd.snd.fst, x.snd.snd.snd.snd.snd.snd.snd.snd.fst,
              IntKind.i64.wrap (x.snd.snd.snd.snd.snd.snd.snd.snd.snd.fst + (1 : Int)), x.snd.snd.snd.snd.snd.snd.snd.snd.snd.snd.fst,
              x.snd.snd.snd.snd.snd.snd.snd.snd.snd.snd.snd.fst, x.snd.snd.snd.snd.snd.snd.snd.snd.snd.snd.snd.snd.fst,
              x.snd.snd.snd.snd.snd.snd.snd.snd.snd.snd.snd.snd.snd.fst, ()))
  else none
else some (Sum.inr (Sum.inr ()))
theorem r32_0_run0 (v0 : Int) (v1 : Int) (v2 : Int) (v3 : Int) (v4 : Int) (v5 : Int) (v6 : Int) (v7 : Int) (v8 : Int) (v9 : Int) (v10 : Int) (v11 : Int) (v12 : Int) (v13 : Int) : roundK tC G32 (look []) c32_0 p32_0 (v0, v1, v2, v3, v4, v5, v6, v7, v8, v9, v10, v11, v12, v13, ()) = r32_0 (v0, v1, v2, v3, v4, v5, v6, v7, v8, v9, v10, v11, v12, v13, ()) := by kernel_rfl
theorem r32_0_run (x : Int × Int × Int × Int × Int × Int × Int × Int × Int × Int × Int × Int × Int × Int × Unit) : roundK tC G32 (look []) c32_0 p32_0 x = r32_0 x := r32_0_run0 x.1 x.2.1 x.2.2.1 x.2.2.2.1 x.2.2.2.2.1 x.2.2.2.2.2.1 x.2.2.2.2.2.2.1 x.2.2.2.2.2.2.2.1 x.2.2.2.2.2.2.2.2.1 x.2.2.2.2.2.2.2.2.2.1 x.2.2.2.2.2.2.2.2.2.2.1 x.2.2.2.2.2.2.2.2.2.2.2.1 x.2.2.2.2.2.2.2.2.2.2.2.2.1 x.2.2.2.2.2.2.2.2.2.2.2.2.2.1
noncomputable def l32_0 (x : Int × Int × Int × Int × Int × Int × Int × Int × Int × Int × Int × Int × Int × Int × Unit) : Option (Bool × Unit ⊕ Unit) := iterO r32_0 x
noncomputable def W32_0 : LF tC := loopW tC p32_0 0 l32_0
theorem W32_0_ok : keyed 0 (bodyOf Try.f32) = [.block 0 (.loop c32_0)] ∧ ∀ n, n ≤ 0 → Snd tC n (.block 0 (.loop c32_0)) W32_0.k := ⟨by kernel_rfl, fun n hn => loopW_ok (p := p32_0) (id := 0) Y32 (lam_le lam_nil n hn) hn r32_0_run⟩
def S32 : FS := ⟨[[.v, .v], [.v, .v], [.v, .v, .v, .v], [.v]], [⟨[.one (.agg [.int .i64, .int .i64]), .one (.agg [.int .i64, .int .i64]), .one (.agg [.int .i64, .int .i64, .int .i64, .int .i64]), vI], []⟩], [⟨[vO], []⟩], [[.v]], []⟩
noncomputable def f32 (x : Int × Int × Int × Int × Int × Int × Int × Int × Int × Unit) : Option (Bool × Unit) :=
  bif !f41 x.fst x.snd.fst then some (false, ())
else
  bif !f41 x.snd.snd.fst x.snd.snd.snd.fst then some (false, ())
  else
    bif !f17 x.snd.snd.snd.snd.fst x.snd.snd.snd.snd.snd.fst x.snd.snd.snd.snd.snd.snd.fst x.snd.snd.snd.snd.snd.snd.snd.fst then
      some (false, ())
    else
      bif decide (x.snd.snd.snd.snd.snd.snd.snd.snd.fst < (0 : Int)) then some (false, ())
      else
        bif decide (x.snd.snd.snd.snd.snd.snd.snd.snd.fst > (1024 : Int)) then some (false, ())
        else
          bif
              decide
                (f42 x.snd.snd.fst (IntKind.i64.wrap (x.fst - (1024 : Int))) (IntKind.i64.wrap (x.fst + (1024 : Int))) > (0 : Int)) then
            some (false, ())
          else
            bif
                decide
                  (f42 x.snd.snd.snd.fst (IntKind.i64.wrap (x.snd.fst - (1024 : Int))) (IntKind.i64.wrap (x.snd.fst + (1024 : Int))) >
                    (0 : Int)) then
              some (false, ())
            else
              (f48
                    (x.fst, x.snd.fst, x.snd.snd.fst, x.snd.snd.snd.fst, x.snd.snd.snd.snd.fst, x.snd.snd.snd.snd.snd.fst,
                      x.snd.snd.snd.snd.snd.snd.fst, x.snd.snd.snd.snd.snd.snd.snd.fst, ())).bind
                fun y33 =>
                bif y33.fst then some (true, ())
                else
                  bif
                      decide
                        (f20 x.fst x.snd.fst x.snd.snd.snd.snd.fst x.snd.snd.snd.snd.snd.fst x.snd.snd.snd.snd.snd.snd.fst
                            x.snd.snd.snd.snd.snd.snd.snd.fst ≤
                          IntKind.i64.wrap (x.snd.snd.snd.snd.snd.snd.snd.snd.fst * x.snd.snd.snd.snd.snd.snd.snd.snd.fst)) then
                    some (true, ())
                  else
                    bif
                        decide
                          (f20 x.snd.snd.fst x.snd.snd.snd.fst x.snd.snd.snd.snd.fst x.snd.snd.snd.snd.snd.fst x.snd.snd.snd.snd.snd.snd.fst
                              x.snd.snd.snd.snd.snd.snd.snd.fst ≤
                            IntKind.i64.wrap (x.snd.snd.snd.snd.snd.snd.snd.snd.fst * x.snd.snd.snd.snd.snd.snd.snd.snd.fst)) then
                      some (true, ())
                    else
                      (l32_0
                            (x.snd.snd.snd.snd.snd.snd.snd.snd.fst,
                              (f49 x.snd.snd.snd.snd.fst x.snd.snd.snd.snd.snd.fst x.snd.snd.snd.snd.snd.snd.fst
                                  x.snd.snd.snd.snd.snd.snd.snd.fst).fst,
                              (f49 x.snd.snd.snd.snd.fst x.snd.snd.snd.snd.snd.fst x.snd.snd.snd.snd.snd.snd.fst
                                    x.snd.snd.snd.snd.snd.snd.snd.fst).snd.fst,
                              (f49 x.snd.snd.snd.snd.fst x.snd.snd.snd.snd.snd.fst x.snd.snd.snd.snd.snd.snd.fst
                                      x.snd.snd.snd.snd.snd.snd.snd.fst).snd.snd.fst,
                              (f49 x.snd.snd.snd.snd.fst x.snd.snd.snd.snd.snd.fst x.snd.snd.snd.snd.snd.snd.fst
                                        x.snd.snd.snd.snd.snd.snd.snd.fst).snd.snd.snd.fst,
                              (f49 x.snd.snd.snd.snd.fst x.snd.snd.snd.snd.snd.fst x.snd.snd.snd.snd.snd.snd.fst
                                          x.snd.snd.snd.snd.snd.snd.snd.fst).snd.snd.snd.snd.fst,
                              (f49 x.snd.snd.snd.snd.fst x.snd.snd.snd.snd.snd.fst x.snd.snd.snd.snd.snd.snd.fst
                                            x.snd.snd.snd.snd.snd.snd.snd.fst).snd.snd.snd.snd.snd.fst,
                              (f49 x.snd.snd.snd.snd.fst x.snd.snd.snd.snd.snd.fst x.snd.snd.snd.snd.snd.snd.fst
                                              x.snd.snd.snd.snd.snd.snd.snd.fst).snd.snd.snd.snd.snd.snd.fst,
                              (f49 x.snd.snd.snd.snd.fst x.snd.snd.snd.snd.snd.fst x.snd.snd.snd.snd.snd.snd.fst
                                              x.snd.snd.snd.snd.snd.snd.snd.fst).snd.snd.snd.snd.snd.snd.snd,
                              (0 : Int), x.fst, x.snd.fst, x.snd.snd.fst, x.snd.snd.snd.fst, ())).bind
                        fun y32 => Sum.elim (fun y30 => some (y30.fst, ())) (fun _x => some (false, ())) y32
noncomputable def F32 : CF tC := mkF tC S32 f32
theorem f32_run : ∀ a, fnS tC G32 (look [(0, W32_0)]) Try.f32 S32 a = f32 a := fun a => by kernel_rfl
theorem F32_ok : CFOK tC 32 F32 := mkF_ok Y32 (fn := Try.f32) (body := bodyOf Try.f32) (by kernel_rfl) (by kernel_rfl) (by kernel_rfl) (m := 0) rfl (lam_le (lam_cons W32_0_ok lam_nil)) f32_run

/-!  -/
noncomputable def G33 : FuncId → Option (CF tC) := look [(43, F43), (40, F40), (19, F19), (51, F51), (31, F31), (52, F52), (27, F27), (53, F53)]
theorem Y33 : SysN tC G33 := (sys_cons F43_ok (mkF_nat _ _) (sys_cons F40_ok (mkF_nat _ _) (sys_cons F19_ok (mkF_nat _ _) (sys_cons F51_ok (mkF_nat _ _) (sys_cons F31_ok (mkF_nat _ _) (sys_cons F52_ok (mkF_nat _ _) (sys_cons F27_ok (mkF_nat _ _) (sys_cons F53_ok (mkF_nat _ _) (sys_nil tC_ok tC_eq)))))))))
noncomputable def c33_0 : Code := loopOf (bodyOf Try.f33) 0
def p33_0 : LS := ⟨0, [3, 4, 5, 9, 10], ⟨[vB, vB, vB, vI, .one (.one (.ptr 0 0 0)), .one (.one (.ptr 1 0 0)), vB, vB, vB, .one (.one (.imm 23)), vI] ++ vBs 89, [.box [.int .i64, .int .i64], .box [.int .i64, .int .i64]]⟩, [⟨.ret, [8], ⟨vBs 8 ++ [vO] ++ vBs 91, []⟩, []⟩, ⟨.exit 0, [], ⟨vBs 100, []⟩, []⟩], []⟩
noncomputable def r33_0 (x : Int × List Pt × Int × Int × Int × Int × Int × Unit) : Option (Int × List Pt × Int × Int × Int × Int × Int × Unit ⊕ Bool × Unit ⊕ Unit) :=
  bif decide (x.snd.snd.fst < (4 : Int)) then
  (idxO x.snd.fst x.snd.snd.fst).bind fun y23 =>
    (idxO x.snd.fst ((IntKind.i64.wrap (x.snd.snd.fst + (1 : Int))).tmod (4 : Int))).bind fun y22 =>
      bif f27 x.snd.snd.snd.fst x.snd.snd.snd.snd.fst x.snd.snd.snd.snd.snd.fst x.snd.snd.snd.snd.snd.snd.fst y23.X y23.Y y22.X y22.Y then
        some (Sum.inr (Sum.inl (true, ())))
      else
        (idxO x.snd.fst x.snd.snd.fst).bind fun y21 =>
          bif f53 y21.X y21.Y x.snd.snd.snd.fst x.snd.snd.snd.snd.fst x.snd.snd.snd.snd.snd.fst x.snd.snd.snd.snd.snd.snd.fst x.fst then
            some (Sum.inr (Sum.inl (true, ())))
          else
            some
              (Sum.inl
                (x.fst, x.snd.fst, IntKind.i64.wrap (x.snd.snd.fst + (1 : Int)), x.snd.snd.snd.fst, x.snd.snd.snd.snd.fst,
                  x.snd.snd.snd.snd.snd.fst, x.snd.snd.snd.snd.snd.snd.fst, ()))
else some (Sum.inr (Sum.inr ()))
theorem r33_0_run0 (v0 : Int) (v1 : List Pt) (v2 : Int) (v3 : Int) (v4 : Int) (v5 : Int) (v6 : Int) : roundK tC G33 (look []) c33_0 p33_0 (v0, v1, v2, v3, v4, v5, v6, ()) = r33_0 (v0, v1, v2, v3, v4, v5, v6, ()) := by kernel_rfl
theorem r33_0_run (x : Int × List Pt × Int × Int × Int × Int × Int × Unit) : roundK tC G33 (look []) c33_0 p33_0 x = r33_0 x := r33_0_run0 x.1 x.2.1 x.2.2.1 x.2.2.2.1 x.2.2.2.2.1 x.2.2.2.2.2.1 x.2.2.2.2.2.2.1
noncomputable def l33_0 (x : Int × List Pt × Int × Int × Int × Int × Int × Unit) : Option (Bool × Unit ⊕ Unit) := iterO r33_0 x
noncomputable def W33_0 : LF tC := loopW tC p33_0 0 l33_0
theorem W33_0_ok : keyed 0 (bodyOf Try.f33) = [.block 0 (.loop c33_0)] ∧ ∀ n, n ≤ 0 → Snd tC n (.block 0 (.loop c33_0)) W33_0.k := ⟨by kernel_rfl, fun n hn => loopW_ok (p := p33_0) (id := 0) Y33 (lam_le lam_nil n hn) hn r33_0_run⟩
def S33 : FS := ⟨[[.v, .v], [.v, .v], [.v, .v, .v, .v], [.v]], [⟨[.one (.agg [.int .i64, .int .i64]), .one (.agg [.int .i64, .int .i64]), .one (.agg [.int .i64, .int .i64, .int .i64, .int .i64]), vI], []⟩], [⟨[vO], []⟩], [[.v]], []⟩
noncomputable def f33 (x : Int × Int × Int × Int × Int × Int × Int × Int × Int × Unit) : Option (Bool × Unit) :=
  bif !f43 x.fst x.snd.fst then some (false, ())
else
  bif !f43 x.snd.snd.fst x.snd.snd.snd.fst then some (false, ())
  else
    bif !f40 x.snd.snd.snd.snd.fst x.snd.snd.snd.snd.snd.fst x.snd.snd.snd.snd.snd.snd.fst x.snd.snd.snd.snd.snd.snd.snd.fst then
      some (false, ())
    else
      bif decide (x.snd.snd.snd.snd.snd.snd.snd.snd.fst < (0 : Int)) then some (false, ())
      else
        bif decide (x.snd.snd.snd.snd.snd.snd.snd.snd.fst > (1024 : Int)) then some (false, ())
        else
          bif !f19 (IntKind.i64.wrap (x.fst - x.snd.snd.fst)) (1024 : Int) then some (false, ())
          else
            bif !f19 (IntKind.i64.wrap (x.snd.fst - x.snd.snd.snd.fst)) (1024 : Int) then some (false, ())
            else
              bif
                  f51 x.fst x.snd.fst x.snd.snd.snd.snd.fst x.snd.snd.snd.snd.snd.fst x.snd.snd.snd.snd.snd.snd.fst
                    x.snd.snd.snd.snd.snd.snd.snd.fst then
                some (true, ())
              else
                bif
                    decide
                      (f31 x.fst x.snd.fst x.snd.snd.snd.snd.fst x.snd.snd.snd.snd.snd.fst x.snd.snd.snd.snd.snd.snd.fst
                          x.snd.snd.snd.snd.snd.snd.snd.fst ≤
                        IntKind.i64.wrap (x.snd.snd.snd.snd.snd.snd.snd.snd.fst * x.snd.snd.snd.snd.snd.snd.snd.snd.fst)) then
                  some (true, ())
                else
                  bif
                      decide
                        (f31 x.snd.snd.fst x.snd.snd.snd.fst x.snd.snd.snd.snd.fst x.snd.snd.snd.snd.snd.fst x.snd.snd.snd.snd.snd.snd.fst
                            x.snd.snd.snd.snd.snd.snd.snd.fst ≤
                          IntKind.i64.wrap (x.snd.snd.snd.snd.snd.snd.snd.snd.fst * x.snd.snd.snd.snd.snd.snd.snd.snd.fst)) then
                    some (true, ())
                  else
                    (l33_0
                          (x.snd.snd.snd.snd.snd.snd.snd.snd.fst,
                            f52 x.snd.snd.snd.snd.fst x.snd.snd.snd.snd.snd.fst x.snd.snd.snd.snd.snd.snd.fst
                              x.snd.snd.snd.snd.snd.snd.snd.fst,
                            (0 : Int), x.fst, x.snd.fst, x.snd.snd.fst, x.snd.snd.snd.fst, ())).bind
                      fun y28 => Sum.elim (fun y26 => some (y26.fst, ())) (fun _x => some (false, ())) y28
noncomputable def F33 : CF tC := mkF tC S33 f33
theorem f33_run : ∀ a, fnS tC G33 (look [(0, W33_0)]) Try.f33 S33 a = f33 a := fun a => by kernel_rfl
theorem F33_ok : CFOK tC 33 F33 := mkF_ok Y33 (fn := Try.f33) (body := bodyOf Try.f33) (by kernel_rfl) (by kernel_rfl) (by kernel_rfl) (m := 0) rfl (lam_le (lam_cons W33_0_ok lam_nil)) f33_run

/-!  -/
noncomputable def G12 : FuncId → Option (CF tC) := look [(13, F13), (14, F14), (20, F20)]
theorem Y12 : SysN tC G12 := (sys_cons F13_ok (mkF_nat _ _) (sys_cons F14_ok (mkF_nat _ _) (sys_cons F20_ok (mkF_nat _ _) (sys_nil tC_ok tC_eq))))
def S12 : FS := ⟨[], [⟨[], []⟩], [⟨[vO], []⟩], [[.v]], []⟩
noncomputable def f12 (_x : Unit) : Option (Bool × Unit) :=
  (f13 ((0 : Int), (0 : Int), (3 : Int), (4 : Int), (5 : Int), (6 : Int), (0 : Int), (9 : Int), (20 : Int), ())).bind fun y9 =>
  (f14 ((0 : Int), (0 : Int), (3 : Int), (4 : Int), (5 : Int), (6 : Int), (0 : Int), (9 : Int), (20 : Int), ())).bind fun y8 =>
    bif y9.snd.snd.fst then
      bif y8.snd.snd.fst then
        bif bif y9.fst == (10 : Int) then bif y9.snd.fst == (1 : Int) then true else false else false then
          bif bif y8.fst == (15 : Int) then bif y8.snd.fst == (1 : Int) then true else false else false then
            some (f20 (0 : Int) (0 : Int) (3 : Int) (4 : Int) (9 : Int) (9 : Int) == (25 : Int), ())
          else some (false, ())
        else some (false, ())
      else some (false, ())
    else some (false, ())
noncomputable def F12 : CF tC := mkF tC S12 f12
theorem f12_run : ∀ a, fnS tC G12 (look []) Try.f12 S12 a = f12 a := fun a => by kernel_rfl
theorem F12_ok : CFOK tC 12 F12 := mkF_ok Y12 (fn := Try.f12) (body := bodyOf Try.f12) (by kernel_rfl) (by kernel_rfl) (by kernel_rfl) (m := 0) rfl (lam_le lam_nil) f12_run

/-!  -/
noncomputable def G3 : FuncId → Option (CF tC) := look [(12, F12), (13, F13), (14, F14), (15, F15), (16, F16), (17, F17), (18, F18)]
theorem Y3 : SysN tC G3 := (sys_cons F12_ok (mkF_nat _ _) (sys_cons F13_ok (mkF_nat _ _) (sys_cons F14_ok (mkF_nat _ _) (sys_cons F15_ok (mkF_nat _ _) (sys_cons F16_ok (mkF_nat _ _) (sys_cons F17_ok (mkF_nat _ _) (sys_cons F18_ok (mkF_nat _ _) (sys_nil tC_ok tC_eq))))))))
def S3 : FS := ⟨[[.v, .v, .v, .v, .v], [.v, .v, .v, .v]], [⟨[.one (.agg [.int .i64, .int .i64, .int .i64, .int .i64, .int .i64]), .one (.agg [.int .i64, .int .i64, .int .i64, .int .i64])], []⟩], [⟨[vO], []⟩], [[.v]], []⟩
noncomputable def f3 (x : Int × Int × Int × Int × Int × Int × Int × Int × Int × Unit) : Option (Bool × Unit) :=
  (f12 ()).bind fun y28 =>
  bif !y28.fst then some (false, ())
  else
    (f13
          (x.fst, x.snd.fst, x.snd.snd.fst, x.snd.snd.snd.fst, x.snd.snd.snd.snd.fst, x.snd.snd.snd.snd.snd.fst,
            x.snd.snd.snd.snd.snd.snd.fst, x.snd.snd.snd.snd.snd.snd.snd.fst, x.snd.snd.snd.snd.snd.snd.snd.snd.fst, ())).bind
      fun y27 =>
      (f14
            (x.fst, x.snd.fst, x.snd.snd.fst, x.snd.snd.snd.fst, x.snd.snd.snd.snd.fst, x.snd.snd.snd.snd.snd.fst,
              x.snd.snd.snd.snd.snd.snd.fst, x.snd.snd.snd.snd.snd.snd.snd.fst, x.snd.snd.snd.snd.snd.snd.snd.snd.fst, ())).bind
        fun y26 =>
        (f15
              (x.fst, x.snd.fst, x.snd.snd.fst, x.snd.snd.snd.fst, x.snd.snd.snd.snd.fst, x.snd.snd.snd.snd.snd.fst,
                x.snd.snd.snd.snd.snd.snd.fst, x.snd.snd.snd.snd.snd.snd.snd.fst, x.snd.snd.snd.snd.snd.snd.snd.snd.fst, ())).bind
          fun y25 =>
          (f16
                (x.fst, x.snd.fst, x.snd.snd.fst, x.snd.snd.snd.fst, x.snd.snd.snd.snd.fst, x.snd.snd.snd.snd.snd.fst,
                  x.snd.snd.snd.snd.snd.snd.fst, x.snd.snd.snd.snd.snd.snd.snd.fst, x.snd.snd.snd.snd.snd.snd.snd.snd.fst, ())).bind
            fun y24 =>
            bif bif y27.fst == y25.fst then bif y27.snd.fst == y25.snd.fst then true else false else false then
              bif bif y26.fst == y24.fst then bif y26.snd.fst == y24.snd.fst then true else false else false then
                bif y27.snd.snd.fst == y25.snd.snd.fst then
                  bif y26.snd.snd.fst == y24.snd.snd.fst then
                    some
                      (f17 x.snd.snd.snd.snd.snd.fst x.snd.snd.snd.snd.snd.snd.fst x.snd.snd.snd.snd.snd.snd.snd.fst
                            x.snd.snd.snd.snd.snd.snd.snd.snd.fst ==
                          f18 x.snd.snd.snd.snd.snd.fst x.snd.snd.snd.snd.snd.snd.fst x.snd.snd.snd.snd.snd.snd.snd.fst
                            x.snd.snd.snd.snd.snd.snd.snd.snd.fst,
                        ())
                  else some (false, ())
                else some (false, ())
              else some (false, ())
            else some (false, ())
noncomputable def F3 : CF tC := mkF tC S3 f3
theorem f3_run : ∀ a, fnS tC G3 (look []) Try.f3 S3 a = f3 a := fun a => by kernel_rfl
theorem F3_ok : CFOK tC 3 F3 := mkF_ok Y3 (fn := Try.f3) (body := bodyOf Try.f3) (by kernel_rfl) (by kernel_rfl) (by kernel_rfl) (m := 0) rfl (lam_le lam_nil) f3_run

/-!  -/
noncomputable def G4 : FuncId → Option (CF tC) := look [(12, F12), (13, F13), (19, F19), (20, F20)]
theorem Y4 : SysN tC G4 := (sys_cons F12_ok (mkF_nat _ _) (sys_cons F13_ok (mkF_nat _ _) (sys_cons F19_ok (mkF_nat _ _) (sys_cons F20_ok (mkF_nat _ _) (sys_nil tC_ok tC_eq)))))
def S4 : FS := ⟨[[.v, .v, .v, .v, .v], [.v, .v, .v, .v], [.v, .v]], [⟨[.one (.agg [.int .i64, .int .i64, .int .i64, .int .i64, .int .i64]), .one (.agg [.int .i64, .int .i64, .int .i64, .int .i64]), .one (.agg [.int .i16, .int .i16])], []⟩], [⟨[vO], []⟩], [[.v]], []⟩
noncomputable def f4 (x : Int × Int × Int × Int × Int × Int × Int × Int × Int × Int × Int × Unit) : Option (Bool × Unit) :=
  (f12 ()).bind fun y40 =>
  bif !y40.fst then (f12 ()).bind fun y30 => some (y30.fst, ())
  else
    bif !f19 x.fst (1048576 : Int) then (f12 ()).bind fun y31 => some (y31.fst, ())
    else
      bif !f19 x.snd.fst (1048576 : Int) then (f12 ()).bind fun y32 => some (y32.fst, ())
      else
        bif !f19 x.snd.snd.snd.snd.snd.fst (1048576 : Int) then (f12 ()).bind fun y33 => some (y33.fst, ())
        else
          bif !f19 x.snd.snd.snd.snd.snd.snd.snd.fst (1048576 : Int) then (f12 ()).bind fun y34 => some (y34.fst, ())
          else
            bif !f19 x.snd.snd.snd.snd.snd.snd.fst (1048576 : Int) then (f12 ()).bind fun y35 => some (y35.fst, ())
            else
              bif !f19 x.snd.snd.snd.snd.snd.snd.snd.snd.fst (1048576 : Int) then (f12 ()).bind fun y36 => some (y36.fst, ())
              else
                (f13
                      (x.fst, x.snd.fst, x.snd.snd.fst, x.snd.snd.snd.fst, x.snd.snd.snd.snd.fst, x.snd.snd.snd.snd.snd.fst,
                        x.snd.snd.snd.snd.snd.snd.fst, x.snd.snd.snd.snd.snd.snd.snd.fst, x.snd.snd.snd.snd.snd.snd.snd.snd.fst, ())).bind
                  fun y39 =>
                  (f13
                        (IntKind.i64.wrap (x.fst + IntKind.i64.wrap x.snd.snd.snd.snd.snd.snd.snd.snd.snd.fst),
                          IntKind.i64.wrap (x.snd.fst + IntKind.i64.wrap x.snd.snd.snd.snd.snd.snd.snd.snd.snd.snd.fst), x.snd.snd.fst,
                          x.snd.snd.snd.fst, x.snd.snd.snd.snd.fst,
                          IntKind.i64.wrap (x.snd.snd.snd.snd.snd.fst + IntKind.i64.wrap x.snd.snd.snd.snd.snd.snd.snd.snd.snd.fst),
                          IntKind.i64.wrap (x.snd.snd.snd.snd.snd.snd.fst + IntKind.i64.wrap x.snd.snd.snd.snd.snd.snd.snd.snd.snd.snd.fst),
                          IntKind.i64.wrap (x.snd.snd.snd.snd.snd.snd.snd.fst + IntKind.i64.wrap x.snd.snd.snd.snd.snd.snd.snd.snd.snd.fst),
                          IntKind.i64.wrap
                            (x.snd.snd.snd.snd.snd.snd.snd.snd.fst + IntKind.i64.wrap x.snd.snd.snd.snd.snd.snd.snd.snd.snd.snd.fst),
                          ())).bind
                    fun y38 =>
                    (f13
                          (x.snd.fst, x.fst, x.snd.snd.snd.fst, x.snd.snd.fst, x.snd.snd.snd.snd.fst, x.snd.snd.snd.snd.snd.snd.fst,
                            x.snd.snd.snd.snd.snd.fst, x.snd.snd.snd.snd.snd.snd.snd.snd.fst, x.snd.snd.snd.snd.snd.snd.snd.fst, ())).bind
                      fun y37 =>
                      bif bif y39.fst == y38.fst then bif y39.snd.fst == y38.snd.fst then true else false else false then
                        bif y39.snd.snd.fst == y38.snd.snd.fst then
                          bif bif y39.fst == y37.fst then bif y39.snd.fst == y37.snd.fst then true else false else false then
                            bif y39.snd.snd.fst == y37.snd.snd.fst then
                              some
                                (f20 x.fst x.snd.fst x.snd.snd.snd.snd.snd.fst x.snd.snd.snd.snd.snd.snd.fst
                                      x.snd.snd.snd.snd.snd.snd.snd.fst x.snd.snd.snd.snd.snd.snd.snd.snd.fst ==
                                    f20 x.snd.fst x.fst x.snd.snd.snd.snd.snd.snd.fst x.snd.snd.snd.snd.snd.fst
                                      x.snd.snd.snd.snd.snd.snd.snd.snd.fst x.snd.snd.snd.snd.snd.snd.snd.fst,
                                  ())
                            else some (false, ())
                          else some (false, ())
                        else some (false, ())
                      else some (false, ())
noncomputable def F4 : CF tC := mkF tC S4 f4
theorem f4_run : ∀ a, fnS tC G4 (look []) Try.f4 S4 a = f4 a := fun a => by kernel_rfl
theorem F4_ok : CFOK tC 4 F4 := mkF_ok Y4 (fn := Try.f4) (body := bodyOf Try.f4) (by kernel_rfl) (by kernel_rfl) (by kernel_rfl) (m := 0) rfl (lam_le lam_nil) f4_run

/-!  -/
noncomputable def G5 : FuncId → Option (CF tC) := look [(12, F12), (21, F21), (22, F22), (23, F23), (24, F24)]
theorem Y5 : SysN tC G5 := (sys_cons F12_ok (mkF_nat _ _) (sys_cons F21_ok (mkF_nat _ _) (sys_cons F22_ok (mkF_nat _ _) (sys_cons F23_ok (mkF_nat _ _) (sys_cons F24_ok (mkF_nat _ _) (sys_nil tC_ok tC_eq))))))
def S5 : FS := ⟨[[.v, .v, .v, .v, .v], [.v, .v, .v, .v], [.v, .v]], [⟨[.one (.agg [.int .i64, .int .i64, .int .i64, .int .i64, .int .i64]), .one (.agg [.int .i64, .int .i64, .int .i64, .int .i64]), .one (.agg [.int .i64, .int .i64])], []⟩], [⟨[vO], []⟩], [[.v]], []⟩
noncomputable def f5 (x : Int × Int × Int × Int × Int × Int × Int × Int × Int × Int × Int × Unit) : Option (Bool × Unit) :=
  (f12 ()).bind fun y22 =>
  bif !y22.fst then some (false, ())
  else
    (f21
          (x.fst, x.snd.fst, x.snd.snd.fst, x.snd.snd.snd.fst, x.snd.snd.snd.snd.fst, x.snd.snd.snd.snd.snd.snd.snd.snd.snd.fst,
            x.snd.snd.snd.snd.snd.snd.snd.snd.snd.snd.fst, x.snd.snd.snd.snd.snd.fst, x.snd.snd.snd.snd.snd.snd.fst,
            x.snd.snd.snd.snd.snd.snd.snd.fst, x.snd.snd.snd.snd.snd.snd.snd.snd.fst, ())).bind
      fun y21 =>
      (f22
            (x.fst, x.snd.fst, x.snd.snd.fst, x.snd.snd.snd.fst, x.snd.snd.snd.snd.fst, x.snd.snd.snd.snd.snd.snd.snd.snd.snd.fst,
              x.snd.snd.snd.snd.snd.snd.snd.snd.snd.snd.fst, x.snd.snd.snd.snd.snd.fst, x.snd.snd.snd.snd.snd.snd.fst,
              x.snd.snd.snd.snd.snd.snd.snd.fst, x.snd.snd.snd.snd.snd.snd.snd.snd.fst, ())).bind
        fun y20 =>
        bif y21.fst == y20.fst then
          (f23
                (x.fst, x.snd.fst, x.snd.snd.fst, x.snd.snd.snd.fst, x.snd.snd.snd.snd.fst, x.snd.snd.snd.snd.snd.snd.snd.snd.snd.snd.fst,
                  x.snd.snd.snd.snd.snd.fst, x.snd.snd.snd.snd.snd.snd.fst, x.snd.snd.snd.snd.snd.snd.snd.fst,
                  x.snd.snd.snd.snd.snd.snd.snd.snd.fst, ())).bind
            fun y19 =>
            (f24
                  (x.fst, x.snd.fst, x.snd.snd.fst, x.snd.snd.snd.fst, x.snd.snd.snd.snd.fst, x.snd.snd.snd.snd.snd.snd.snd.snd.snd.snd.fst,
                    x.snd.snd.snd.snd.snd.fst, x.snd.snd.snd.snd.snd.snd.fst, x.snd.snd.snd.snd.snd.snd.snd.fst,
                    x.snd.snd.snd.snd.snd.snd.snd.snd.fst, ())).bind
              fun y18 => some (y19.fst == y18.fst, ())
        else some (false, ())
noncomputable def F5 : CF tC := mkF tC S5 f5
theorem f5_run : ∀ a, fnS tC G5 (look []) Try.f5 S5 a = f5 a := fun a => by kernel_rfl
theorem F5_ok : CFOK tC 5 F5 := mkF_ok Y5 (fn := Try.f5) (body := bodyOf Try.f5) (by kernel_rfl) (by kernel_rfl) (by kernel_rfl) (m := 0) rfl (lam_le lam_nil) f5_run

/-!  -/
noncomputable def G6 : FuncId → Option (CF tC) := look [(12, F12), (25, F25), (26, F26), (21, F21)]
theorem Y6 : SysN tC G6 := (sys_cons F12_ok (mkF_nat _ _) (sys_cons F25_ok (mkF_nat _ _) (sys_cons F26_ok (mkF_nat _ _) (sys_cons F21_ok (mkF_nat _ _) (sys_nil tC_ok tC_eq)))))
noncomputable def c6_40 : Code := subCode (loopOf (bodyOf Try.f6) 0) 40
def p6_40 : PS := ⟨0, [3, 5, 7, 9, 13, 14], ⟨[vB, vB, vB, .one (.one (.ptr 0 0 0)), vB, .one (.one (.ptr 1 0 0)), vB, .one (.one (.ptr 2 0 0)), vB, .one (.one (.ptr 3 0 0)), vB, vB, vB, .one (.one (.sl 4)), vI] ++ vBs 75, [.box [.int .i64, .int .i64, .int .i64], .box [.int .i64, .int .i64], .box [.int .i64, .int .i64, .int .i64, .int .i64], .box [.int .i64, .int .i64, .int .i64, .int .i64], .arr 23]⟩, [⟨.normal, [3, 5, 7, 9, 13, 14], ⟨[vB, vB, vB, .one (.one (.ptr 0 0 0)), vB, .one (.one (.ptr 1 0 0)), vB, .one (.one (.ptr 2 0 0)), vB, .one (.one (.ptr 3 0 0)), vB, vB, vB, .one (.one (.sl 4)), vI] ++ vBs 75, [.box [.int .i64, .int .i64, .int .i64], .box [.int .i64, .int .i64], .box [.int .i64, .int .i64, .int .i64, .int .i64], .box [.int .i64, .int .i64, .int .i64, .int .i64], .arr 23]⟩, []⟩], []⟩
noncomputable def j6_40 (x : Nat × Int × Int × Int × Int × Int × Int × Int × Int × Int × Int × Int × Int × Int × Int × List Pt × Unit) : Option (Nat × Int × Int × Int × Int × Int × Int × Int × Int × Int × Int × Int × Int × Int × Int × List Pt × Unit) :=
  some
  (x.fst, IntKind.i64.wrap (x.snd.fst + (1 : Int)), x.snd.snd.fst, x.snd.snd.snd.fst, x.snd.snd.snd.snd.fst, x.snd.snd.snd.snd.snd.fst,
    x.snd.snd.snd.snd.snd.snd.fst, x.snd.snd.snd.snd.snd.snd.snd.fst, x.snd.snd.snd.snd.snd.snd.snd.snd.fst,
    x.snd.snd.snd.snd.snd.snd.snd.snd.snd.fst, x.snd.snd.snd.snd.snd.snd.snd.snd.snd.snd.fst,
    x.snd.snd.snd.snd.snd.snd.snd.snd.snd.snd.snd.fst, x.snd.snd.snd.snd.snd.snd.snd.snd.snd.snd.snd.snd.fst,
    x.snd.snd.snd.snd.snd.snd.snd.snd.snd.snd.snd.snd.snd.fst, x.snd.snd.snd.snd.snd.snd.snd.snd.snd.snd.snd.snd.snd.snd.fst,
    x.snd.snd.snd.snd.snd.snd.snd.snd.snd.snd.snd.snd.snd.snd.snd.fst, ())
theorem j6_40_run0 (v0 : Nat) (v1 : Int) (v2 : Int) (v3 : Int) (v4 : Int) (v5 : Int) (v6 : Int) (v7 : Int) (v8 : Int) (v9 : Int) (v10 : Int) (v11 : Int) (v12 : Int) (v13 : Int) (v14 : Int) (v15 : List Pt) : pieceK tC G6 (look []) c6_40 p6_40 (v0, v1, v2, v3, v4, v5, v6, v7, v8, v9, v10, v11, v12, v13, v14, v15, ()) = j6_40 (v0, v1, v2, v3, v4, v5, v6, v7, v8, v9, v10, v11, v12, v13, v14, v15, ()) := by kernel_rfl
theorem j6_40_run (x : Nat × Int × Int × Int × Int × Int × Int × Int × Int × Int × Int × Int × Int × Int × Int × List Pt × Unit) : pieceK tC G6 (look []) c6_40 p6_40 x = j6_40 x := j6_40_run0 x.1 x.2.1 x.2.2.1 x.2.2.2.1 x.2.2.2.2.1 x.2.2.2.2.2.1 x.2.2.2.2.2.2.1 x.2.2.2.2.2.2.2.1 x.2.2.2.2.2.2.2.2.1 x.2.2.2.2.2.2.2.2.2.1 x.2.2.2.2.2.2.2.2.2.2.1 x.2.2.2.2.2.2.2.2.2.2.2.1 x.2.2.2.2.2.2.2.2.2.2.2.2.1 x.2.2.2.2.2.2.2.2.2.2.2.2.2.1 x.2.2.2.2.2.2.2.2.2.2.2.2.2.2.1 x.2.2.2.2.2.2.2.2.2.2.2.2.2.2.2.1
noncomputable def W6_40 : LF tC := cutLF tC p6_40 j6_40
theorem W6_40_ok : keyed 40 (loopOf (bodyOf Try.f6) 0) = [c6_40] ∧ ∀ n, n ≤ 0 → Snd tC n c6_40 W6_40.k := ⟨by kernel_rfl, fun n hn => cut_ok (p := p6_40) Y6 (lam_le lam_nil n hn) hn j6_40_run⟩
noncomputable def c6_0 : Code := loopOf (bodyOf Try.f6) 0
def p6_0 : LS := ⟨0, [3, 5, 7, 9, 13, 14], ⟨[vB, vB, vB, .one (.one (.ptr 0 0 0)), vB, .one (.one (.ptr 1 0 0)), vB, .one (.one (.ptr 2 0 0)), vB, .one (.one (.ptr 3 0 0)), vB, vB, vB, .one (.one (.sl 4)), vI] ++ vBs 75, [.box [.int .i64, .int .i64, .int .i64], .box [.int .i64, .int .i64], .box [.int .i64, .int .i64, .int .i64, .int .i64], .box [.int .i64, .int .i64, .int .i64, .int .i64], .arr 23]⟩, [⟨.ret, [6], ⟨vBs 6 ++ [vO] ++ vBs 83, []⟩, []⟩, ⟨.exit 0, [], ⟨vBs 90, []⟩, []⟩], []⟩
noncomputable def r6_0 (x : Nat × Int × Int × Int × Int × Int × Int × Int × Int × Int × Int × Int × Int × Int × Int × List Pt × Unit) : Option (Nat × Int × Int × Int × Int × Int × Int × Int × Int × Int × Int × Int × Int × Int × Int × List Pt × Unit ⊕ Bool × Unit ⊕ Unit) :=
  bif decide (x.snd.fst < (4 : Int)) then
  bif decide ((0 : Int) ≤ x.snd.fst) && decide (x.snd.fst < (↑x.fst : Int)) then
    x.snd.snd.snd.snd.snd.snd.snd.snd.snd.snd.snd.snd.snd.snd.snd.fst[(0 : Nat) + x.snd.fst.toNat]?.bind fun y103 =>
      (f21
            (y103.X, y103.Y, x.snd.snd.fst, x.snd.snd.snd.fst, x.snd.snd.snd.snd.fst, x.snd.snd.snd.snd.snd.fst,
              x.snd.snd.snd.snd.snd.snd.fst, x.snd.snd.snd.snd.snd.snd.snd.fst, x.snd.snd.snd.snd.snd.snd.snd.snd.fst,
              x.snd.snd.snd.snd.snd.snd.snd.snd.snd.fst, x.snd.snd.snd.snd.snd.snd.snd.snd.snd.snd.fst, ())).bind
        fun y102 =>
        bif y102.fst then
          (f21
                ((0 : Int), (0 : Int), x.snd.snd.fst, x.snd.snd.snd.fst, x.snd.snd.snd.snd.fst, x.snd.snd.snd.snd.snd.fst,
                  x.snd.snd.snd.snd.snd.snd.fst, x.snd.snd.snd.snd.snd.snd.snd.snd.snd.snd.snd.fst,
                  x.snd.snd.snd.snd.snd.snd.snd.snd.snd.snd.snd.snd.fst, x.snd.snd.snd.snd.snd.snd.snd.snd.snd.snd.snd.snd.snd.fst,
                  x.snd.snd.snd.snd.snd.snd.snd.snd.snd.snd.snd.snd.snd.snd.fst, ())).bind
            fun y100 =>
            bif !y100.fst then some (Sum.inr (Sum.inl (false, ())))
            else
              (j6_40
                    (x.fst, x.snd.fst, x.snd.snd.fst, x.snd.snd.snd.fst, x.snd.snd.snd.snd.fst, x.snd.snd.snd.snd.snd.fst,
                      x.snd.snd.snd.snd.snd.snd.fst, x.snd.snd.snd.snd.snd.snd.snd.fst, x.snd.snd.snd.snd.snd.snd.snd.snd.fst,
                      x.snd.snd.snd.snd.snd.snd.snd.snd.snd.fst, x.snd.snd.snd.snd.snd.snd.snd.snd.snd.snd.fst,
                      x.snd.snd.snd.snd.snd.snd.snd.snd.snd.snd.snd.fst, x.snd.snd.snd.snd.snd.snd.snd.snd.snd.snd.snd.snd.fst,
                      x.snd.snd.snd.snd.snd.snd.snd.snd.snd.snd.snd.snd.snd.fst,
                      x.snd.snd.snd.snd.snd.snd.snd.snd.snd.snd.snd.snd.snd.snd.fst,
                      x.snd.snd.snd.snd.snd.snd.snd.snd.snd.snd.snd.snd.snd.snd.snd.fst, ())).bind
                fun y99 =>
                some
                  (Sum.inl
                    (y99.fst, y99.snd.fst, y99.snd.snd.fst, y99.snd.snd.snd.fst, y99.snd.snd.snd.snd.fst, y99.snd.snd.snd.snd.snd.fst,
                      y99.snd.snd.snd.snd.snd.snd.fst, y99.snd.snd.snd.snd.snd.snd.snd.fst, y99.snd.snd.snd.snd.snd.snd.snd.snd.fst,
                      y99.snd.snd.snd.snd.snd.snd.snd.snd.snd.fst, y99.snd.snd.snd.snd.snd.snd.snd.snd.snd.snd.fst,
                      y99.snd.snd.snd.snd.snd.snd.snd.snd.snd.snd.snd.fst, y99.snd.snd.snd.snd.snd.snd.snd.snd.snd.snd.snd.snd.fst,
                      y99.snd.snd.snd.snd.snd.snd.snd.snd.snd.snd.snd.snd.snd.fst,
                      y99.snd.snd.snd.snd.snd.snd.snd.snd.snd.snd.snd.snd.snd.snd.fst,
                      y99.snd.snd.snd.snd.snd.snd.snd.snd.snd.snd.snd.snd.snd.snd.snd.fst, ()))
        else
          (j6_40
                (x.fst, x.snd.fst, x.snd.snd.fst, x.snd.snd.snd.fst, x.snd.snd.snd.snd.fst, x.snd.snd.snd.snd.snd.fst,
                  x.snd.snd.snd.snd.snd.snd.fst, x.snd.snd.snd.snd.snd.snd.snd.fst, x.snd.snd.snd.snd.snd.snd.snd.snd.fst,
                  x.snd.snd.snd.snd.snd.snd.snd.snd.snd.fst, x.snd.snd.snd.snd.snd.snd.snd.snd.snd.snd.fst,
                  x.snd.snd.snd.snd.snd.snd.snd.snd.snd.snd.snd.fst, x.snd.snd.snd.snd.snd.snd.snd.snd.snd.snd.snd.snd.fst,
                  x.snd.snd.snd.snd.snd.snd.snd.snd.snd.snd.snd.snd.snd.fst, x.snd.snd.snd.snd.snd.snd.snd.snd.snd.snd.snd.snd.snd.snd.fst,
                  x.snd.snd.snd.snd.snd.snd.snd.snd.snd.snd.snd.snd.snd.snd.snd.fst, ())).bind
            fun y101 =>
            some
              (Sum.inl
                (y101.fst, y101.snd.fst, y101.snd.snd.fst, y101.snd.snd.snd.fst, y101.snd.snd.snd.snd.fst, y101.snd.snd.snd.snd.snd.fst,
                  y101.snd.snd.snd.snd.snd.snd.fst, y101.snd.snd.snd.snd.snd.snd.snd.fst, y101.snd.snd.snd.snd.snd.snd.snd.snd.fst,
                  y101.snd.snd.snd.snd.snd.snd.snd.snd.snd.fst, y101.snd.snd.snd.snd.snd.snd.snd.snd.snd.snd.fst,
                  y101.snd.snd.snd.snd.snd.snd.snd.snd.snd.snd.snd.fst, y101.snd.snd.snd.snd.snd.snd.snd.snd.snd.snd.snd.snd.fst,
                  y101.snd.snd.snd.snd.snd.snd.snd.snd.snd.snd.snd.snd.snd.fst,
                  y101.snd.snd.snd.snd.snd.snd.snd.snd.snd.snd.snd.snd.snd.snd.fst,
                  y101.snd.snd.snd.snd.snd.snd.snd.snd.snd.snd.snd.snd.snd.snd.snd.fst, ()))
  else none
else some (Sum.inr (Sum.inr ()))
theorem r6_0_run0 (v0 : Nat) (v1 : Int) (v2 : Int) (v3 : Int) (v4 : Int) (v5 : Int) (v6 : Int) (v7 : Int) (v8 : Int) (v9 : Int) (v10 : Int) (v11 : Int) (v12 : Int) (v13 : Int) (v14 : Int) (v15 : List Pt) : roundK tC G6 (look [(40, W6_40)]) c6_0 p6_0 (v0, v1, v2, v3, v4, v5, v6, v7, v8, v9, v10, v11, v12, v13, v14, v15, ()) = r6_0 (v0, v1, v2, v3, v4, v5, v6, v7, v8, v9, v10, v11, v12, v13, v14, v15, ()) := by kernel_rfl
theorem r6_0_run (x : Nat × Int × Int × Int × Int × Int × Int × Int × Int × Int × Int × Int × Int × Int × Int × List Pt × Unit) : roundK tC G6 (look [(40, W6_40)]) c6_0 p6_0 x = r6_0 x := r6_0_run0 x.1 x.2.1 x.2.2.1 x.2.2.2.1 x.2.2.2.2.1 x.2.2.2.2.2.1 x.2.2.2.2.2.2.1 x.2.2.2.2.2.2.2.1 x.2.2.2.2.2.2.2.2.1 x.2.2.2.2.2.2.2.2.2.1 x.2.2.2.2.2.2.2.2.2.2.1 x.2.2.2.2.2.2.2.2.2.2.2.1 x.2.2.2.2.2.2.2.2.2.2.2.2.1 x.2.2.2.2.2.2.2.2.2.2.2.2.2.1 x.2.2.2.2.2.2.2.2.2.2.2.2.2.2.1 x.2.2.2.2.2.2.2.2.2.2.2.2.2.2.2.1
noncomputable def l6_0 (x : Nat × Int × Int × Int × Int × Int × Int × Int × Int × Int × Int × Int × Int × Int × Int × List Pt × Unit) : Option (Bool × Unit ⊕ Unit) := iterO r6_0 x
noncomputable def W6_0 : LF tC := loopW tC p6_0 0 l6_0
theorem W6_0_ok : keyed 0 (bodyOf Try.f6) = [.block 0 (.loop c6_0)] ∧ ∀ n, n ≤ 0 → Snd tC n (.block 0 (.loop c6_0)) W6_0.k := ⟨by kernel_rfl, fun n hn => loopW_ok (p := p6_0) (id := 0) Y6 (lam_le (lam_cons W6_40_ok lam_nil) n hn) hn r6_0_run⟩
def S6 : FS := ⟨[[.v, .v, .v], [.v, .v, .v, .v, .v, .v, .v, .v], [.v, .v]], [⟨[.one (.agg [.int .i64, .int .i64, .int .i64]), .one (.agg [.int .i64, .int .i64, .int .i64, .int .i64, .int .i64, .int .i64, .int .i64, .int .i64]), .one (.agg [.int .i64, .int .i64])], []⟩], [⟨[vO], []⟩], [[.v]], []⟩
noncomputable def f6 (x : Int × Int × Int × Int × Int × Int × Int × Int × Int × Int × Int × Int × Int × Unit) : Option (Bool × Unit) :=
  (f12 ()).bind fun y109 =>
  bif !y109.fst then some (false, ())
  else
    bif
        !bif
              (f25 x.snd.snd.snd.fst x.snd.snd.snd.snd.fst x.snd.snd.snd.snd.snd.fst x.snd.snd.snd.snd.snd.snd.fst
                    x.snd.snd.snd.snd.snd.snd.snd.fst x.snd.snd.snd.snd.snd.snd.snd.snd.fst x.snd.snd.snd.snd.snd.snd.snd.snd.snd.fst
                    x.snd.snd.snd.snd.snd.snd.snd.snd.snd.snd.fst).fst ==
                (f26 x.snd.snd.snd.fst x.snd.snd.snd.snd.fst x.snd.snd.snd.snd.snd.fst x.snd.snd.snd.snd.snd.snd.fst
                    x.snd.snd.snd.snd.snd.snd.snd.fst x.snd.snd.snd.snd.snd.snd.snd.snd.fst x.snd.snd.snd.snd.snd.snd.snd.snd.snd.fst
                    x.snd.snd.snd.snd.snd.snd.snd.snd.snd.snd.fst).fst then
            bif
                (f25 x.snd.snd.snd.fst x.snd.snd.snd.snd.fst x.snd.snd.snd.snd.snd.fst x.snd.snd.snd.snd.snd.snd.fst
                        x.snd.snd.snd.snd.snd.snd.snd.fst x.snd.snd.snd.snd.snd.snd.snd.snd.fst x.snd.snd.snd.snd.snd.snd.snd.snd.snd.fst
                        x.snd.snd.snd.snd.snd.snd.snd.snd.snd.snd.fst).snd.fst ==
                  (f26 x.snd.snd.snd.fst x.snd.snd.snd.snd.fst x.snd.snd.snd.snd.snd.fst x.snd.snd.snd.snd.snd.snd.fst
                        x.snd.snd.snd.snd.snd.snd.snd.fst x.snd.snd.snd.snd.snd.snd.snd.snd.fst x.snd.snd.snd.snd.snd.snd.snd.snd.snd.fst
                        x.snd.snd.snd.snd.snd.snd.snd.snd.snd.snd.fst).snd.fst then
              bif
                  (f25 x.snd.snd.snd.fst x.snd.snd.snd.snd.fst x.snd.snd.snd.snd.snd.fst x.snd.snd.snd.snd.snd.snd.fst
                            x.snd.snd.snd.snd.snd.snd.snd.fst x.snd.snd.snd.snd.snd.snd.snd.snd.fst
                            x.snd.snd.snd.snd.snd.snd.snd.snd.snd.fst x.snd.snd.snd.snd.snd.snd.snd.snd.snd.snd.fst).snd.snd.fst ==
                    (f26 x.snd.snd.snd.fst x.snd.snd.snd.snd.fst x.snd.snd.snd.snd.snd.fst x.snd.snd.snd.snd.snd.snd.fst
                            x.snd.snd.snd.snd.snd.snd.snd.fst x.snd.snd.snd.snd.snd.snd.snd.snd.fst
                            x.snd.snd.snd.snd.snd.snd.snd.snd.snd.fst x.snd.snd.snd.snd.snd.snd.snd.snd.snd.snd.fst).snd.snd.fst then
                bif
                    (f25 x.snd.snd.snd.fst x.snd.snd.snd.snd.fst x.snd.snd.snd.snd.snd.fst x.snd.snd.snd.snd.snd.snd.fst
                                x.snd.snd.snd.snd.snd.snd.snd.fst x.snd.snd.snd.snd.snd.snd.snd.snd.fst
                                x.snd.snd.snd.snd.snd.snd.snd.snd.snd.fst x.snd.snd.snd.snd.snd.snd.snd.snd.snd.snd.fst).snd.snd.snd.fst ==
                      (f26 x.snd.snd.snd.fst x.snd.snd.snd.snd.fst x.snd.snd.snd.snd.snd.fst x.snd.snd.snd.snd.snd.snd.fst
                                x.snd.snd.snd.snd.snd.snd.snd.fst x.snd.snd.snd.snd.snd.snd.snd.snd.fst
                                x.snd.snd.snd.snd.snd.snd.snd.snd.snd.fst
                                x.snd.snd.snd.snd.snd.snd.snd.snd.snd.snd.fst).snd.snd.snd.fst then
                  true
                else false
              else false
            else false
          else false then
      some (false, ())
    else
      bif
          !(f25 x.snd.snd.snd.fst x.snd.snd.snd.snd.fst x.snd.snd.snd.snd.snd.fst x.snd.snd.snd.snd.snd.snd.fst
                        x.snd.snd.snd.snd.snd.snd.snd.fst x.snd.snd.snd.snd.snd.snd.snd.snd.fst x.snd.snd.snd.snd.snd.snd.snd.snd.snd.fst
                        x.snd.snd.snd.snd.snd.snd.snd.snd.snd.snd.fst).snd.snd.snd.snd ==
              (f26 x.snd.snd.snd.fst x.snd.snd.snd.snd.fst x.snd.snd.snd.snd.snd.fst x.snd.snd.snd.snd.snd.snd.fst
                        x.snd.snd.snd.snd.snd.snd.snd.fst x.snd.snd.snd.snd.snd.snd.snd.snd.fst x.snd.snd.snd.snd.snd.snd.snd.snd.snd.fst
                        x.snd.snd.snd.snd.snd.snd.snd.snd.snd.snd.fst).snd.snd.snd.snd then
        some (false, ())
      else
        bif
            !(f25 x.snd.snd.snd.fst x.snd.snd.snd.snd.fst x.snd.snd.snd.snd.snd.fst x.snd.snd.snd.snd.snd.snd.fst
                        x.snd.snd.snd.snd.snd.snd.snd.fst x.snd.snd.snd.snd.snd.snd.snd.snd.fst x.snd.snd.snd.snd.snd.snd.snd.snd.snd.fst
                        x.snd.snd.snd.snd.snd.snd.snd.snd.snd.snd.fst).snd.snd.snd.snd then
          some (true, ())
        else
          (l6_0
                ((4 : Nat), (0 : Int), x.fst, x.snd.fst, x.snd.snd.fst, x.snd.snd.snd.snd.snd.snd.snd.snd.snd.snd.snd.fst,
                  x.snd.snd.snd.snd.snd.snd.snd.snd.snd.snd.snd.snd.fst, x.snd.snd.snd.fst, x.snd.snd.snd.snd.fst,
                  x.snd.snd.snd.snd.snd.fst, x.snd.snd.snd.snd.snd.snd.fst,
                  (f25 x.snd.snd.snd.fst x.snd.snd.snd.snd.fst x.snd.snd.snd.snd.snd.fst x.snd.snd.snd.snd.snd.snd.fst
                      x.snd.snd.snd.snd.snd.snd.snd.fst x.snd.snd.snd.snd.snd.snd.snd.snd.fst x.snd.snd.snd.snd.snd.snd.snd.snd.snd.fst
                      x.snd.snd.snd.snd.snd.snd.snd.snd.snd.snd.fst).fst,
                  (f25 x.snd.snd.snd.fst x.snd.snd.snd.snd.fst x.snd.snd.snd.snd.snd.fst x.snd.snd.snd.snd.snd.snd.fst
                        x.snd.snd.snd.snd.snd.snd.snd.fst x.snd.snd.snd.snd.snd.snd.snd.snd.fst x.snd.snd.snd.snd.snd.snd.snd.snd.snd.fst
                        x.snd.snd.snd.snd.snd.snd.snd.snd.snd.snd.fst).snd.fst,
                  (f25 x.snd.snd.snd.fst x.snd.snd.snd.snd.fst x.snd.snd.snd.snd.snd.fst x.snd.snd.snd.snd.snd.snd.fst
                          x.snd.snd.snd.snd.snd.snd.snd.fst x.snd.snd.snd.snd.snd.snd.snd.snd.fst x.snd.snd.snd.snd.snd.snd.snd.snd.snd.fst
                          x.snd.snd.snd.snd.snd.snd.snd.snd.snd.snd.fst).snd.snd.fst,
                  (f25 x.snd.snd.snd.fst x.snd.snd.snd.snd.fst x.snd.snd.snd.snd.snd.fst x.snd.snd.snd.snd.snd.snd.fst
                            x.snd.snd.snd.snd.snd.snd.snd.fst x.snd.snd.snd.snd.snd.snd.snd.snd.fst
                            x.snd.snd.snd.snd.snd.snd.snd.snd.snd.fst x.snd.snd.snd.snd.snd.snd.snd.snd.snd.snd.fst).snd.snd.snd.fst,
                  [Pt.mk x.snd.snd.snd.snd.snd.snd.snd.fst x.snd.snd.snd.snd.snd.snd.snd.snd.fst,
                    Pt.mk x.snd.snd.snd.snd.snd.snd.snd.snd.snd.fst x.snd.snd.snd.snd.snd.snd.snd.snd.fst,
                    Pt.mk x.snd.snd.snd.snd.snd.snd.snd.fst x.snd.snd.snd.snd.snd.snd.snd.snd.snd.snd.fst,
                    Pt.mk x.snd.snd.snd.snd.snd.snd.snd.snd.snd.fst x.snd.snd.snd.snd.snd.snd.snd.snd.snd.snd.fst],
                  ())).bind
            fun y108 => Sum.elim (fun y106 => some (y106.fst, ())) (fun _x => some (true, ())) y108
noncomputable def F6 : CF tC := mkF tC S6 f6
theorem f6_run : ∀ a, fnS tC G6 (look [(0, W6_0)]) Try.f6 S6 a = f6 a := fun a => by kernel_rfl
theorem F6_ok : CFOK tC 6 F6 := mkF_ok Y6 (fn := Try.f6) (body := bodyOf Try.f6) (by kernel_rfl) (by kernel_rfl) (by kernel_rfl) (m := 0) rfl (lam_le (lam_cons W6_0_ok lam_nil)) f6_run

/-!  -/
noncomputable def G7 : FuncId → Option (CF tC) := look [(12, F12), (13, F13), (14, F14), (21, F21), (23, F23)]
theorem Y7 : SysN tC G7 := (sys_cons F12_ok (mkF_nat _ _) (sys_cons F13_ok (mkF_nat _ _) (sys_cons F14_ok (mkF_nat _ _) (sys_cons F21_ok (mkF_nat _ _) (sys_cons F23_ok (mkF_nat _ _) (sys_nil tC_ok tC_eq))))))
def S7 : FS := ⟨[[.v, .v, .v, .v, .v], [.v, .v, .v, .v], [.v, .v]], [⟨[.one (.agg [.int .i64, .int .i64, .int .i64, .int .i64, .int .i64]), .one (.agg [.int .i64, .int .i64, .int .i64, .int .i64]), .one (.agg [.int .i64, .int .i64])], []⟩], [⟨[vO], []⟩], [[.v]], []⟩
noncomputable def f7 (x : Int × Int × Int × Int × Int × Int × Int × Int × Int × Int × Int × Unit) : Option (Bool × Unit) :=
  (f12 ()).bind fun y38 =>
  bif !y38.fst then some (false, ())
  else
    (f13
          (x.fst, x.snd.fst, x.snd.snd.fst, x.snd.snd.snd.fst, x.snd.snd.snd.snd.fst, x.snd.snd.snd.snd.snd.fst,
            x.snd.snd.snd.snd.snd.snd.fst, x.snd.snd.snd.snd.snd.snd.snd.fst, x.snd.snd.snd.snd.snd.snd.snd.snd.fst, ())).bind
      fun y37 =>
      (f14
            (x.fst, x.snd.fst, x.snd.snd.fst, x.snd.snd.snd.fst, x.snd.snd.snd.snd.fst, x.snd.snd.snd.snd.snd.fst,
              x.snd.snd.snd.snd.snd.snd.fst, x.snd.snd.snd.snd.snd.snd.snd.fst, x.snd.snd.snd.snd.snd.snd.snd.snd.fst, ())).bind
        fun y36 =>
        bif !y37.snd.snd.fst == y36.snd.snd.fst then some (false, ())
        else
          bif decide (x.snd.snd.snd.snd.snd.snd.snd.snd.snd.fst < (0 : Int)) then
            (f21
                  (x.fst, x.snd.fst, x.snd.snd.fst, x.snd.snd.snd.fst, x.snd.snd.snd.snd.fst, x.snd.snd.snd.snd.snd.snd.snd.snd.snd.fst,
                    x.snd.snd.snd.snd.snd.snd.snd.snd.snd.snd.fst, x.snd.snd.snd.snd.snd.fst, x.snd.snd.snd.snd.snd.snd.fst,
                    x.snd.snd.snd.snd.snd.snd.snd.fst, x.snd.snd.snd.snd.snd.snd.snd.snd.fst, ())).bind
              fun y28 => some (!y28.fst, ())
          else
            bif decide (x.snd.snd.snd.snd.snd.snd.snd.snd.snd.fst > x.snd.snd.snd.snd.snd.snd.snd.snd.snd.snd.fst) then
              (f21
                    (x.fst, x.snd.fst, x.snd.snd.fst, x.snd.snd.snd.fst, x.snd.snd.snd.snd.fst, x.snd.snd.snd.snd.snd.snd.snd.snd.snd.fst,
                      x.snd.snd.snd.snd.snd.snd.snd.snd.snd.snd.fst, x.snd.snd.snd.snd.snd.fst, x.snd.snd.snd.snd.snd.snd.fst,
                      x.snd.snd.snd.snd.snd.snd.snd.fst, x.snd.snd.snd.snd.snd.snd.snd.snd.fst, ())).bind
                fun y29 => some (!y29.fst, ())
            else
              bif decide (x.snd.snd.snd.snd.snd.snd.snd.snd.snd.snd.fst > (65536 : Int)) then
                (f21
                      (x.fst, x.snd.fst, x.snd.snd.fst, x.snd.snd.snd.fst, x.snd.snd.snd.snd.fst, x.snd.snd.snd.snd.snd.snd.snd.snd.snd.fst,
                        x.snd.snd.snd.snd.snd.snd.snd.snd.snd.snd.fst, x.snd.snd.snd.snd.snd.fst, x.snd.snd.snd.snd.snd.snd.fst,
                        x.snd.snd.snd.snd.snd.snd.snd.fst, x.snd.snd.snd.snd.snd.snd.snd.snd.fst, ())).bind
                  fun y30 => some (!y30.fst, ())
              else
                bif !y37.snd.snd.fst then
                  (f21
                        (x.fst, x.snd.fst, x.snd.snd.fst, x.snd.snd.snd.fst, x.snd.snd.snd.snd.fst,
                          x.snd.snd.snd.snd.snd.snd.snd.snd.snd.fst, x.snd.snd.snd.snd.snd.snd.snd.snd.snd.snd.fst,
                          x.snd.snd.snd.snd.snd.fst, x.snd.snd.snd.snd.snd.snd.fst, x.snd.snd.snd.snd.snd.snd.snd.fst,
                          x.snd.snd.snd.snd.snd.snd.snd.snd.fst, ())).bind
                    fun y32 =>
                    bif !y32.fst then
                      (f23
                            (x.fst, x.snd.fst, x.snd.snd.fst, x.snd.snd.snd.fst, x.snd.snd.snd.snd.fst,
                              x.snd.snd.snd.snd.snd.snd.snd.snd.snd.snd.fst, x.snd.snd.snd.snd.snd.fst, x.snd.snd.snd.snd.snd.snd.fst,
                              x.snd.snd.snd.snd.snd.snd.snd.fst, x.snd.snd.snd.snd.snd.snd.snd.snd.fst, ())).bind
                        fun y31 => some (!y31.fst, ())
                    else some (false, ())
                else
                  bif decide (y37.snd.fst < (1 : Int)) then some (false, ())
                  else
                    bif decide (y36.snd.fst < (1 : Int)) then some (false, ())
                    else
                      bif decide (y37.snd.fst > (67108864 : Int)) then some (false, ())
                      else
                        bif decide (y36.snd.fst > (67108864 : Int)) then some (false, ())
                        else
                          bif decide (y37.fst < (0 : Int)) then some (false, ())
                          else
                            (f21
                                  (x.fst, x.snd.fst, x.snd.snd.fst, x.snd.snd.snd.fst, x.snd.snd.snd.snd.fst,
                                    x.snd.snd.snd.snd.snd.snd.snd.snd.snd.fst, x.snd.snd.snd.snd.snd.snd.snd.snd.snd.snd.fst,
                                    x.snd.snd.snd.snd.snd.fst, x.snd.snd.snd.snd.snd.snd.fst, x.snd.snd.snd.snd.snd.snd.snd.fst,
                                    x.snd.snd.snd.snd.snd.snd.snd.snd.fst, ())).bind
                              fun y35 =>
                              bif decide (y37.fst ≤ IntKind.i64.wrap (x.snd.snd.snd.snd.snd.snd.snd.snd.snd.snd.fst * y37.snd.fst)) then
                                bif
                                    y35.fst ==
                                      decide (y36.fst ≥ IntKind.i64.wrap (x.snd.snd.snd.snd.snd.snd.snd.snd.snd.fst * y36.snd.fst)) then
                                  (f23
                                        (x.fst, x.snd.fst, x.snd.snd.fst, x.snd.snd.snd.fst, x.snd.snd.snd.snd.fst,
                                          x.snd.snd.snd.snd.snd.snd.snd.snd.snd.snd.fst, x.snd.snd.snd.snd.snd.fst,
                                          x.snd.snd.snd.snd.snd.snd.fst, x.snd.snd.snd.snd.snd.snd.snd.fst,
                                          x.snd.snd.snd.snd.snd.snd.snd.snd.fst, ())).bind
                                    fun y33 =>
                                    some
                                      (y33.fst ==
                                          decide (y37.fst < IntKind.i64.wrap (x.snd.snd.snd.snd.snd.snd.snd.snd.snd.snd.fst * y37.snd.fst)),
                                        ())
                                else some (false, ())
                              else
                                bif y35.fst == false then
                                  (f23
                                        (x.fst, x.snd.fst, x.snd.snd.fst, x.snd.snd.snd.fst, x.snd.snd.snd.snd.fst,
                                          x.snd.snd.snd.snd.snd.snd.snd.snd.snd.snd.fst, x.snd.snd.snd.snd.snd.fst,
                                          x.snd.snd.snd.snd.snd.snd.fst, x.snd.snd.snd.snd.snd.snd.snd.fst,
                                          x.snd.snd.snd.snd.snd.snd.snd.snd.fst, ())).bind
                                    fun y34 =>
                                    some
                                      (y34.fst ==
                                          decide (y37.fst < IntKind.i64.wrap (x.snd.snd.snd.snd.snd.snd.snd.snd.snd.snd.fst * y37.snd.fst)),
                                        ())
                                else some (false, ())
noncomputable def F7 : CF tC := mkF tC S7 f7
theorem f7_run : ∀ a, fnS tC G7 (look []) Try.f7 S7 a = f7 a := fun a => by kernel_rfl
theorem F7_ok : CFOK tC 7 F7 := mkF_ok Y7 (fn := Try.f7) (body := bodyOf Try.f7) (by kernel_rfl) (by kernel_rfl) (by kernel_rfl) (m := 0) rfl (lam_le lam_nil) f7_run

/-!  -/
noncomputable def G8 : FuncId → Option (CF tC) := look [(12, F12), (19, F19), (25, F25), (21, F21), (23, F23)]
theorem Y8 : SysN tC G8 := (sys_cons F12_ok (mkF_nat _ _) (sys_cons F19_ok (mkF_nat _ _) (sys_cons F25_ok (mkF_nat _ _) (sys_cons F21_ok (mkF_nat _ _) (sys_cons F23_ok (mkF_nat _ _) (sys_nil tC_ok tC_eq))))))
def S8 : FS := ⟨[[.v, .v, .v, .v, .v], [.v, .v, .v, .v], [.v, .v]], [⟨[.one (.agg [.int .i64, .int .i64, .int .i64, .int .i64, .int .i64]), .one (.agg [.int .i64, .int .i64, .int .i64, .int .i64]), .one (.agg [.int .i64, .int .i64])], []⟩], [⟨[vO], []⟩], [[.v]], []⟩
noncomputable def f8 (x : Int × Int × Int × Int × Int × Int × Int × Int × Int × Int × Int × Unit) : Option (Bool × Unit) :=
  (f12 ()).bind fun y28 =>
  bif !y28.fst then (f12 ()).bind fun y21 => some (y21.fst, ())
  else
    bif !f19 x.fst (2097152 : Int) then (f12 ()).bind fun y22 => some (y22.fst, ())
    else
      bif !f19 x.snd.fst (2097152 : Int) then (f12 ()).bind fun y23 => some (y23.fst, ())
      else
        bif
            !(f25 x.snd.snd.snd.snd.snd.fst x.snd.snd.snd.snd.snd.snd.fst x.snd.snd.snd.snd.snd.snd.snd.fst
                        x.snd.snd.snd.snd.snd.snd.snd.snd.fst x.fst x.snd.fst x.fst x.snd.fst).snd.snd.snd.snd then
          some (true, ())
        else
          (f21
                (x.fst, x.snd.fst, x.snd.snd.fst, x.snd.snd.snd.fst, x.snd.snd.snd.snd.fst, x.snd.snd.snd.snd.snd.snd.snd.snd.snd.fst,
                  x.snd.snd.snd.snd.snd.snd.snd.snd.snd.snd.fst, x.snd.snd.snd.snd.snd.fst, x.snd.snd.snd.snd.snd.snd.fst,
                  x.snd.snd.snd.snd.snd.snd.snd.fst, x.snd.snd.snd.snd.snd.snd.snd.snd.fst, ())).bind
            fun y27 =>
            (f21
                  ((0 : Int), (0 : Int), x.snd.snd.fst, x.snd.snd.snd.fst, x.snd.snd.snd.snd.fst, x.snd.snd.snd.snd.snd.snd.snd.snd.snd.fst,
                    x.snd.snd.snd.snd.snd.snd.snd.snd.snd.snd.fst,
                    (f25 x.snd.snd.snd.snd.snd.fst x.snd.snd.snd.snd.snd.snd.fst x.snd.snd.snd.snd.snd.snd.snd.fst
                        x.snd.snd.snd.snd.snd.snd.snd.snd.fst x.fst x.snd.fst x.fst x.snd.fst).fst,
                    (f25 x.snd.snd.snd.snd.snd.fst x.snd.snd.snd.snd.snd.snd.fst x.snd.snd.snd.snd.snd.snd.snd.fst
                          x.snd.snd.snd.snd.snd.snd.snd.snd.fst x.fst x.snd.fst x.fst x.snd.fst).snd.fst,
                    (f25 x.snd.snd.snd.snd.snd.fst x.snd.snd.snd.snd.snd.snd.fst x.snd.snd.snd.snd.snd.snd.snd.fst
                            x.snd.snd.snd.snd.snd.snd.snd.snd.fst x.fst x.snd.fst x.fst x.snd.fst).snd.snd.fst,
                    (f25 x.snd.snd.snd.snd.snd.fst x.snd.snd.snd.snd.snd.snd.fst x.snd.snd.snd.snd.snd.snd.snd.fst
                              x.snd.snd.snd.snd.snd.snd.snd.snd.fst x.fst x.snd.fst x.fst x.snd.fst).snd.snd.snd.fst,
                    ())).bind
              fun y26 =>
              bif y27.fst == y26.fst then
                (f23
                      (x.fst, x.snd.fst, x.snd.snd.fst, x.snd.snd.snd.fst, x.snd.snd.snd.snd.fst,
                        x.snd.snd.snd.snd.snd.snd.snd.snd.snd.snd.fst, x.snd.snd.snd.snd.snd.fst, x.snd.snd.snd.snd.snd.snd.fst,
                        x.snd.snd.snd.snd.snd.snd.snd.fst, x.snd.snd.snd.snd.snd.snd.snd.snd.fst, ())).bind
                  fun y25 =>
                  (f23
                        ((0 : Int), (0 : Int), x.snd.snd.fst, x.snd.snd.snd.fst, x.snd.snd.snd.snd.fst,
                          x.snd.snd.snd.snd.snd.snd.snd.snd.snd.snd.fst,
                          (f25 x.snd.snd.snd.snd.snd.fst x.snd.snd.snd.snd.snd.snd.fst x.snd.snd.snd.snd.snd.snd.snd.fst
                              x.snd.snd.snd.snd.snd.snd.snd.snd.fst x.fst x.snd.fst x.fst x.snd.fst).fst,
                          (f25 x.snd.snd.snd.snd.snd.fst x.snd.snd.snd.snd.snd.snd.fst x.snd.snd.snd.snd.snd.snd.snd.fst
                                x.snd.snd.snd.snd.snd.snd.snd.snd.fst x.fst x.snd.fst x.fst x.snd.fst).snd.fst,
                          (f25 x.snd.snd.snd.snd.snd.fst x.snd.snd.snd.snd.snd.snd.fst x.snd.snd.snd.snd.snd.snd.snd.fst
                                  x.snd.snd.snd.snd.snd.snd.snd.snd.fst x.fst x.snd.fst x.fst x.snd.fst).snd.snd.fst,
                          (f25 x.snd.snd.snd.snd.snd.fst x.snd.snd.snd.snd.snd.snd.fst x.snd.snd.snd.snd.snd.snd.snd.fst
                                    x.snd.snd.snd.snd.snd.snd.snd.snd.fst x.fst x.snd.fst x.fst x.snd.fst).snd.snd.snd.fst,
                          ())).bind
                    fun y24 => some (y25.fst == y24.fst, ())
              else some (false, ())
noncomputable def F8 : CF tC := mkF tC S8 f8
theorem f8_run : ∀ a, fnS tC G8 (look []) Try.f8 S8 a = f8 a := fun a => by kernel_rfl
theorem F8_ok : CFOK tC 8 F8 := mkF_ok Y8 (fn := Try.f8) (body := bodyOf Try.f8) (by kernel_rfl) (by kernel_rfl) (by kernel_rfl) (m := 0) rfl (lam_le lam_nil) f8_run

/-!  -/
noncomputable def G9 : FuncId → Option (CF tC) := look [(12, F12), (27, F27), (28, F28), (29, F29), (30, F30)]
theorem Y9 : SysN tC G9 := (sys_cons F12_ok (mkF_nat _ _) (sys_cons F27_ok (mkF_nat _ _) (sys_cons F28_ok (mkF_nat _ _) (sys_cons F29_ok (mkF_nat _ _) (sys_cons F30_ok (mkF_nat _ _) (sys_nil tC_ok tC_eq))))))
def S9 : FS := ⟨[[.v, .v, .v, .v, .v, .v, .v, .v]], [⟨[.one (.agg [.int .i64, .int .i64, .int .i64, .int .i64, .int .i64, .int .i64, .int .i64, .int .i64])], []⟩], [⟨[vO], []⟩], [[.v]], []⟩
noncomputable def f9 (x : Int × Int × Int × Int × Int × Int × Int × Int × Unit) : Option (Bool × Unit) :=
  (f12 ()).bind fun y11 =>
  bif !y11.fst then some (false, ())
  else
    bif
        f28 x.fst x.snd.fst x.snd.snd.fst x.snd.snd.snd.fst x.snd.snd.snd.snd.fst x.snd.snd.snd.snd.snd.fst !=
          f29 x.fst x.snd.fst x.snd.snd.fst x.snd.snd.snd.fst x.snd.snd.snd.snd.fst x.snd.snd.snd.snd.snd.fst then
      some (false, ())
    else
      bif
          f28 x.snd.snd.fst x.snd.snd.snd.fst x.fst x.snd.fst x.snd.snd.snd.snd.fst x.snd.snd.snd.snd.snd.fst !=
            IntKind.i64.wrap
              ((0 : Int) - f29 x.fst x.snd.fst x.snd.snd.fst x.snd.snd.snd.fst x.snd.snd.snd.snd.fst x.snd.snd.snd.snd.snd.fst) then
        some (false, ())
      else
        bif
            f28 x.snd.snd.fst x.snd.snd.snd.fst x.snd.snd.snd.snd.fst x.snd.snd.snd.snd.snd.fst x.fst x.snd.fst !=
              f29 x.fst x.snd.fst x.snd.snd.fst x.snd.snd.snd.fst x.snd.snd.snd.snd.fst x.snd.snd.snd.snd.snd.fst then
          some (false, ())
        else
          bif
              f30 x.fst x.snd.fst x.snd.snd.fst x.snd.snd.snd.fst x.snd.snd.snd.snd.fst x.snd.snd.snd.snd.snd.fst
                  x.snd.snd.snd.snd.snd.snd.fst x.snd.snd.snd.snd.snd.snd.snd.fst ==
                f27 x.fst x.snd.fst x.snd.snd.fst x.snd.snd.snd.fst x.snd.snd.snd.snd.fst x.snd.snd.snd.snd.snd.fst
                  x.snd.snd.snd.snd.snd.snd.fst x.snd.snd.snd.snd.snd.snd.snd.fst then
            bif
                f30 x.snd.snd.fst x.snd.snd.snd.fst x.fst x.snd.fst x.snd.snd.snd.snd.fst x.snd.snd.snd.snd.snd.fst
                    x.snd.snd.snd.snd.snd.snd.fst x.snd.snd.snd.snd.snd.snd.snd.fst ==
                  f27 x.fst x.snd.fst x.snd.snd.fst x.snd.snd.snd.fst x.snd.snd.snd.snd.fst x.snd.snd.snd.snd.snd.fst
                    x.snd.snd.snd.snd.snd.snd.fst x.snd.snd.snd.snd.snd.snd.snd.fst then
              bif
                  f30 x.fst x.snd.fst x.snd.snd.fst x.snd.snd.snd.fst x.snd.snd.snd.snd.snd.snd.fst x.snd.snd.snd.snd.snd.snd.snd.fst
                      x.snd.snd.snd.snd.fst x.snd.snd.snd.snd.snd.fst ==
                    f27 x.fst x.snd.fst x.snd.snd.fst x.snd.snd.snd.fst x.snd.snd.snd.snd.fst x.snd.snd.snd.snd.snd.fst
                      x.snd.snd.snd.snd.snd.snd.fst x.snd.snd.snd.snd.snd.snd.snd.fst then
                some
                  (f30 x.snd.snd.snd.snd.fst x.snd.snd.snd.snd.snd.fst x.snd.snd.snd.snd.snd.snd.fst x.snd.snd.snd.snd.snd.snd.snd.fst x.fst
                        x.snd.fst x.snd.snd.fst x.snd.snd.snd.fst ==
                      f27 x.fst x.snd.fst x.snd.snd.fst x.snd.snd.snd.fst x.snd.snd.snd.snd.fst x.snd.snd.snd.snd.snd.fst
                        x.snd.snd.snd.snd.snd.snd.fst x.snd.snd.snd.snd.snd.snd.snd.fst,
                    ())
              else some (false, ())
            else some (false, ())
          else some (false, ())
noncomputable def F9 : CF tC := mkF tC S9 f9
theorem f9_run : ∀ a, fnS tC G9 (look []) Try.f9 S9 a = f9 a := fun a => by kernel_rfl
theorem F9_ok : CFOK tC 9 F9 := mkF_ok Y9 (fn := Try.f9) (body := bodyOf Try.f9) (by kernel_rfl) (by kernel_rfl) (by kernel_rfl) (m := 0) rfl (lam_le lam_nil) f9_run

/-!  -/
noncomputable def G10 : FuncId → Option (CF tC) := look [(12, F12), (20, F20), (31, F31), (32, F32), (33, F33)]
theorem Y10 : SysN tC G10 := (sys_cons F12_ok (mkF_nat _ _) (sys_cons F20_ok (mkF_nat _ _) (sys_cons F31_ok (mkF_nat _ _) (sys_cons F32_ok (mkF_nat _ _) (sys_cons F33_ok (mkF_nat _ _) (sys_nil tC_ok tC_eq))))))
def S10 : FS := ⟨[[.v, .v, .v, .v], [.v, .v, .v, .v], [.v]], [⟨[.one (.agg [.int .i64, .int .i64, .int .i64, .int .i64]), .one (.agg [.int .i64, .int .i64, .int .i64, .int .i64]), vI], []⟩], [⟨[vO], []⟩], [[.v]], []⟩
noncomputable def f10 (x : Int × Int × Int × Int × Int × Int × Int × Int × Int × Unit) : Option (Bool × Unit) :=
  (f12 ()).bind fun y16 =>
  bif !y16.fst then some (false, ())
  else
    bif
        f20 x.fst x.snd.fst x.snd.snd.snd.snd.fst x.snd.snd.snd.snd.snd.fst x.snd.snd.snd.snd.snd.snd.fst
            x.snd.snd.snd.snd.snd.snd.snd.fst ==
          f31 x.fst x.snd.fst x.snd.snd.snd.snd.fst x.snd.snd.snd.snd.snd.fst x.snd.snd.snd.snd.snd.snd.fst
            x.snd.snd.snd.snd.snd.snd.snd.fst then
      (f32
            (x.fst, x.snd.fst, x.snd.snd.fst, x.snd.snd.snd.fst, x.snd.snd.snd.snd.fst, x.snd.snd.snd.snd.snd.fst,
              x.snd.snd.snd.snd.snd.snd.fst, x.snd.snd.snd.snd.snd.snd.snd.fst, x.snd.snd.snd.snd.snd.snd.snd.snd.fst, ())).bind
        fun y15 =>
        (f33
              (x.fst, x.snd.fst, x.snd.snd.fst, x.snd.snd.snd.fst, x.snd.snd.snd.snd.fst, x.snd.snd.snd.snd.snd.fst,
                x.snd.snd.snd.snd.snd.snd.fst, x.snd.snd.snd.snd.snd.snd.snd.fst, x.snd.snd.snd.snd.snd.snd.snd.snd.fst, ())).bind
          fun y14 => some (y15.fst == y14.fst, ())
    else some (false, ())
noncomputable def F10 : CF tC := mkF tC S10 f10
theorem f10_run : ∀ a, fnS tC G10 (look []) Try.f10 S10 a = f10 a := fun a => by kernel_rfl
theorem F10_ok : CFOK tC 10 F10 := mkF_ok Y10 (fn := Try.f10) (body := bodyOf Try.f10) (by kernel_rfl) (by kernel_rfl) (by kernel_rfl) (m := 0) rfl (lam_le lam_nil) f10_run

/-!  -/
noncomputable def G11 : FuncId → Option (CF tC) := look [(12, F12), (32, F32), (17, F17), (19, F19), (20, F20), (30, F30)]
theorem Y11 : SysN tC G11 := (sys_cons F12_ok (mkF_nat _ _) (sys_cons F32_ok (mkF_nat _ _) (sys_cons F17_ok (mkF_nat _ _) (sys_cons F19_ok (mkF_nat _ _) (sys_cons F20_ok (mkF_nat _ _) (sys_cons F30_ok (mkF_nat _ _) (sys_nil tC_ok tC_eq)))))))
noncomputable def c11_52 : Code := subCode (subCode (bodyOf Try.f11) 25) 52
def p11_52 : PS := ⟨0, [4, 8, 9, 16], ⟨vBs 4 ++ [.one (.one (.ptr 0 0 0)), vB, vB, vB, .one (.one (.ptr 1 0 0)), .one (.one (.ptr 2 0 0))] ++ vBs 6 ++ [vO] ++ vBs 148, [.box [.int .i64, .int .i64, .int .i64, .int .i64], .box [.int .i64, .int .i64], .box [.int .i64, .int .i64]]⟩, [⟨.ret, [6], ⟨vBs 6 ++ [vO] ++ vBs 158, []⟩, []⟩], []⟩
noncomputable def j11_52 (x : Bool × Int × Int × Int × Int × Int × Int × Int × Int × Unit) : Option (Bool × Unit) :=
  (f32
      (x.snd.snd.snd.snd.snd.fst, x.snd.snd.snd.snd.snd.snd.fst, x.snd.snd.snd.snd.snd.snd.snd.fst, x.snd.snd.snd.snd.snd.snd.snd.snd.fst,
        x.snd.fst, x.snd.snd.fst, x.snd.snd.snd.fst, x.snd.snd.snd.snd.fst, (0 : Int), ())).bind
  fun y38 => some (y38.fst == x.fst, ())
theorem j11_52_run0 (v0 : Bool) (v1 : Int) (v2 : Int) (v3 : Int) (v4 : Int) (v5 : Int) (v6 : Int) (v7 : Int) (v8 : Int) : pieceK tC G11 (look []) c11_52 p11_52 (v0, v1, v2, v3, v4, v5, v6, v7, v8, ()) = j11_52 (v0, v1, v2, v3, v4, v5, v6, v7, v8, ()) := by kernel_rfl
theorem j11_52_run (x : Bool × Int × Int × Int × Int × Int × Int × Int × Int × Unit) : pieceK tC G11 (look []) c11_52 p11_52 x = j11_52 x := j11_52_run0 x.1 x.2.1 x.2.2.1 x.2.2.2.1 x.2.2.2.2.1 x.2.2.2.2.2.1 x.2.2.2.2.2.2.1 x.2.2.2.2.2.2.2.1 x.2.2.2.2.2.2.2.2.1
noncomputable def W11_52 : LF tC := cutLF tC p11_52 j11_52
theorem W11_52_ok : keyed 52 (subCode (bodyOf Try.f11) 25) = [c11_52] ∧ ∀ n, n ≤ 0 → Snd tC n c11_52 W11_52.k := ⟨by kernel_rfl, fun n hn => cut_ok (p := p11_52) Y11 (lam_le lam_nil n hn) hn j11_52_run⟩
noncomputable def c11_25 : Code := subCode (bodyOf Try.f11) 25
def p11_25 : PS := ⟨0, [4, 7, 8, 9, 10, 11], ⟨vBs 4 ++ [.one (.one (.ptr 0 0 0)), vB, vB, vI, .one (.one (.ptr 1 0 0)), .one (.one (.ptr 2 0 0)), vO, vO] ++ vBs 153, [.box [.int .i64, .int .i64, .int .i64, .int .i64], .box [.int .i64, .int .i64], .box [.int .i64, .int .i64]]⟩, [⟨.ret, [6], ⟨vBs 6 ++ [vO] ++ vBs 158, []⟩, []⟩], []⟩
noncomputable def j11_25 (x : Int × Bool × Bool × Int × Int × Int × Int × Int × Int × Int × Int × Unit) : Option (Bool × Unit) :=
  bif !f17 x.snd.snd.snd.fst x.snd.snd.snd.snd.fst x.snd.snd.snd.snd.snd.fst x.snd.snd.snd.snd.snd.snd.fst then
  bif !x.snd.fst then some (!x.snd.snd.fst, ()) else some (false, ())
else
  bif !f19 x.snd.snd.snd.snd.snd.snd.snd.fst (2097152 : Int) then bif !x.snd.fst then some (!x.snd.snd.fst, ()) else some (false, ())
  else
    bif !f19 x.snd.snd.snd.snd.snd.snd.snd.snd.fst (2097152 : Int) then bif !x.snd.fst then some (!x.snd.snd.fst, ()) else some (false, ())
    else
      (f32
            (x.snd.snd.snd.snd.snd.snd.snd.fst, x.snd.snd.snd.snd.snd.snd.snd.snd.fst, x.snd.snd.snd.snd.snd.snd.snd.fst,
              x.snd.snd.snd.snd.snd.snd.snd.snd.fst, x.snd.snd.snd.fst, x.snd.snd.snd.snd.fst, x.snd.snd.snd.snd.snd.fst,
              x.snd.snd.snd.snd.snd.snd.fst, x.fst, ())).bind
        fun y48 =>
        bif
            !y48.fst ==
                decide
                  (f20 x.snd.snd.snd.snd.snd.snd.snd.fst x.snd.snd.snd.snd.snd.snd.snd.snd.fst x.snd.snd.snd.fst x.snd.snd.snd.snd.fst
                      x.snd.snd.snd.snd.snd.fst x.snd.snd.snd.snd.snd.snd.fst ≤
                    IntKind.i64.wrap (x.fst * x.fst)) then
          some (false, ())
        else
          bif !f19 x.snd.snd.snd.snd.snd.snd.snd.snd.snd.fst (2097152 : Int) then some (!x.snd.fst, ())
          else
            bif !f19 x.snd.snd.snd.snd.snd.snd.snd.snd.snd.snd.fst (2097152 : Int) then some (!x.snd.fst, ())
            else
              bif !f19 (IntKind.i64.wrap (x.snd.snd.snd.snd.snd.snd.snd.fst - x.snd.snd.snd.snd.snd.snd.snd.snd.snd.fst)) (1024 : Int) then
                some (!x.snd.fst, ())
              else
                bif
                    !f19 (IntKind.i64.wrap (x.snd.snd.snd.snd.snd.snd.snd.snd.fst - x.snd.snd.snd.snd.snd.snd.snd.snd.snd.snd.fst))
                        (1024 : Int) then
                  some (!x.snd.fst, ())
                else
                  bif
                      f20 x.snd.snd.snd.snd.snd.snd.snd.fst x.snd.snd.snd.snd.snd.snd.snd.snd.fst x.snd.snd.snd.fst x.snd.snd.snd.snd.fst
                          x.snd.snd.snd.snd.snd.fst x.snd.snd.snd.snd.snd.snd.fst ==
                        (0 : Int) then
                    (j11_52
                          (true, x.snd.snd.snd.fst, x.snd.snd.snd.snd.fst, x.snd.snd.snd.snd.snd.fst, x.snd.snd.snd.snd.snd.snd.fst,
                            x.snd.snd.snd.snd.snd.snd.snd.fst, x.snd.snd.snd.snd.snd.snd.snd.snd.fst,
                            x.snd.snd.snd.snd.snd.snd.snd.snd.snd.fst, x.snd.snd.snd.snd.snd.snd.snd.snd.snd.snd.fst, ())).bind
                      fun y44 => some (y44.fst, ())
                  else
                    bif
                        f20 x.snd.snd.snd.snd.snd.snd.snd.snd.snd.fst x.snd.snd.snd.snd.snd.snd.snd.snd.snd.snd.fst x.snd.snd.snd.fst
                            x.snd.snd.snd.snd.fst x.snd.snd.snd.snd.snd.fst x.snd.snd.snd.snd.snd.snd.fst ==
                          (0 : Int) then
                      (j11_52
                            (true, x.snd.snd.snd.fst, x.snd.snd.snd.snd.fst, x.snd.snd.snd.snd.snd.fst, x.snd.snd.snd.snd.snd.snd.fst,
                              x.snd.snd.snd.snd.snd.snd.snd.fst, x.snd.snd.snd.snd.snd.snd.snd.snd.fst,
                              x.snd.snd.snd.snd.snd.snd.snd.snd.snd.fst, x.snd.snd.snd.snd.snd.snd.snd.snd.snd.snd.fst, ())).bind
                        fun y45 => some (y45.fst, ())
                    else
                      bif
                          f30 x.snd.snd.snd.snd.snd.snd.snd.fst x.snd.snd.snd.snd.snd.snd.snd.snd.fst
                            x.snd.snd.snd.snd.snd.snd.snd.snd.snd.fst x.snd.snd.snd.snd.snd.snd.snd.snd.snd.snd.fst x.snd.snd.snd.fst
                            x.snd.snd.snd.snd.fst x.snd.snd.snd.snd.snd.fst x.snd.snd.snd.snd.snd.snd.fst then
                        (j11_52
                              (true, x.snd.snd.snd.fst, x.snd.snd.snd.snd.fst, x.snd.snd.snd.snd.snd.fst, x.snd.snd.snd.snd.snd.snd.fst,
                                x.snd.snd.snd.snd.snd.snd.snd.fst, x.snd.snd.snd.snd.snd.snd.snd.snd.fst,
                                x.snd.snd.snd.snd.snd.snd.snd.snd.snd.fst, x.snd.snd.snd.snd.snd.snd.snd.snd.snd.snd.fst, ())).bind
                          fun y46 => some (y46.fst, ())
                      else
                        (j11_52
                              (f30 x.snd.snd.snd.snd.snd.snd.snd.fst x.snd.snd.snd.snd.snd.snd.snd.snd.fst
                                  x.snd.snd.snd.snd.snd.snd.snd.snd.snd.fst x.snd.snd.snd.snd.snd.snd.snd.snd.snd.snd.fst x.snd.snd.snd.fst
                                  x.snd.snd.snd.snd.snd.snd.fst x.snd.snd.snd.snd.snd.fst x.snd.snd.snd.snd.fst,
                                x.snd.snd.snd.fst, x.snd.snd.snd.snd.fst, x.snd.snd.snd.snd.snd.fst, x.snd.snd.snd.snd.snd.snd.fst,
                                x.snd.snd.snd.snd.snd.snd.snd.fst, x.snd.snd.snd.snd.snd.snd.snd.snd.fst,
                                x.snd.snd.snd.snd.snd.snd.snd.snd.snd.fst, x.snd.snd.snd.snd.snd.snd.snd.snd.snd.snd.fst, ())).bind
                          fun y47 => some (y47.fst, ())
theorem j11_25_run0 (v0 : Int) (v1 : Bool) (v2 : Bool) (v3 : Int) (v4 : Int) (v5 : Int) (v6 : Int) (v7 : Int) (v8 : Int) (v9 : Int) (v10 : Int) : pieceK tC G11 (look [(52, W11_52)]) c11_25 p11_25 (v0, v1, v2, v3, v4, v5, v6, v7, v8, v9, v10, ()) = j11_25 (v0, v1, v2, v3, v4, v5, v6, v7, v8, v9, v10, ()) := by kernel_rfl
theorem j11_25_run (x : Int × Bool × Bool × Int × Int × Int × Int × Int × Int × Int × Int × Unit) : pieceK tC G11 (look [(52, W11_52)]) c11_25 p11_25 x = j11_25 x := j11_25_run0 x.1 x.2.1 x.2.2.1 x.2.2.2.1 x.2.2.2.2.1 x.2.2.2.2.2.1 x.2.2.2.2.2.2.1 x.2.2.2.2.2.2.2.1 x.2.2.2.2.2.2.2.2.1 x.2.2.2.2.2.2.2.2.2.1 x.2.2.2.2.2.2.2.2.2.2.1
noncomputable def W11_25 : LF tC := cutLF tC p11_25 j11_25
theorem W11_25_ok : keyed 25 (bodyOf Try.f11) = [c11_25] ∧ ∀ n, n ≤ 0 → Snd tC n c11_25 W11_25.k := ⟨by kernel_rfl, fun n hn => cut_ok (p := p11_25) Y11 (lam_le (lam_cons W11_52_ok lam_nil) n hn) hn j11_25_run⟩
def S11 : FS := ⟨[[.v, .v, .v, .v], [.v, .v, .v, .v], [.v]], [⟨[.one (.agg [.int .i64, .int .i64, .int .i64, .int .i64]), .one (.agg [.int .i64, .int .i64, .int .i64, .int .i64]), .one (.one (.int .u16))], []⟩], [⟨[vO], []⟩], [[.v]], []⟩
noncomputable def f11 (x : Int × Int × Int × Int × Int × Int × Int × Int × Int × Unit) : Option (Bool × Unit) :=
  (f12 ()).bind fun y58 =>
  bif !y58.fst then some (false, ())
  else
    (f32
          (x.fst, x.snd.fst, x.snd.snd.fst, x.snd.snd.snd.fst, x.snd.snd.snd.snd.fst, x.snd.snd.snd.snd.snd.fst,
            x.snd.snd.snd.snd.snd.snd.fst, x.snd.snd.snd.snd.snd.snd.snd.fst,
            (IntKind.i64.wrap x.snd.snd.snd.snd.snd.snd.snd.snd.fst).tmod (1024 : Int), ())).bind
      fun y57 =>
      (f32
            (x.fst, x.snd.fst, x.snd.snd.fst, x.snd.snd.snd.fst, x.snd.snd.snd.snd.fst, x.snd.snd.snd.snd.snd.fst,
              x.snd.snd.snd.snd.snd.snd.fst, x.snd.snd.snd.snd.snd.snd.snd.fst,
              IntKind.i64.wrap ((IntKind.i64.wrap x.snd.snd.snd.snd.snd.snd.snd.snd.fst).tmod (1024 : Int) + (1 : Int)), ())).bind
        fun y56 =>
        bif y57.fst then
          bif !y56.fst then some (false, ())
          else
            (f32
                  (x.snd.snd.fst, x.snd.snd.snd.fst, x.fst, x.snd.fst, x.snd.snd.snd.snd.fst, x.snd.snd.snd.snd.snd.fst,
                    x.snd.snd.snd.snd.snd.snd.fst, x.snd.snd.snd.snd.snd.snd.snd.fst,
                    (IntKind.i64.wrap x.snd.snd.snd.snd.snd.snd.snd.snd.fst).tmod (1024 : Int), ())).bind
              fun y53 =>
              bif !y53.fst == y57.fst then some (false, ())
              else
                (j11_25
                      ((IntKind.i64.wrap x.snd.snd.snd.snd.snd.snd.snd.snd.fst).tmod (1024 : Int), y57.fst, y56.fst, x.snd.snd.snd.snd.fst,
                        x.snd.snd.snd.snd.snd.fst, x.snd.snd.snd.snd.snd.snd.fst, x.snd.snd.snd.snd.snd.snd.snd.fst, x.fst, x.snd.fst,
                        x.snd.snd.fst, x.snd.snd.snd.fst, ())).bind
                  fun y52 => some (y52.fst, ())
        else
          (f32
                (x.snd.snd.fst, x.snd.snd.snd.fst, x.fst, x.snd.fst, x.snd.snd.snd.snd.fst, x.snd.snd.snd.snd.snd.fst,
                  x.snd.snd.snd.snd.snd.snd.fst, x.snd.snd.snd.snd.snd.snd.snd.fst,
                  (IntKind.i64.wrap x.snd.snd.snd.snd.snd.snd.snd.snd.fst).tmod (1024 : Int), ())).bind
            fun y55 =>
            bif !y55.fst == y57.fst then some (false, ())
            else
              (j11_25
                    ((IntKind.i64.wrap x.snd.snd.snd.snd.snd.snd.snd.snd.fst).tmod (1024 : Int), y57.fst, y56.fst, x.snd.snd.snd.snd.fst,
                      x.snd.snd.snd.snd.snd.fst, x.snd.snd.snd.snd.snd.snd.fst, x.snd.snd.snd.snd.snd.snd.snd.fst, x.fst, x.snd.fst,
                      x.snd.snd.fst, x.snd.snd.snd.fst, ())).bind
                fun y54 => some (y54.fst, ())
noncomputable def F11 : CF tC := mkF tC S11 f11
theorem f11_run : ∀ a, fnS tC G11 (look [(25, W11_25)]) Try.f11 S11 a = f11 a := fun a => by kernel_rfl
theorem F11_ok : CFOK tC 11 F11 := mkF_ok Y11 (fn := Try.f11) (body := bodyOf Try.f11) (by kernel_rfl) (by kernel_rfl) (by kernel_rfl) (m := 0) rfl (lam_le (lam_cons W11_25_ok lam_nil)) f11_run
end Go.AE
