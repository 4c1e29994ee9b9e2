/-
  The plain functions that the seat's Go functions compute, each with the proof that the function keeps it. Printed by the generator (Gen2) and checked by the kernel.
-/
import Derived.Test.YtnoammkjjbbajaaGreatFb
namespace Go.AE
open Go.Proofs Go.RowKit
set_option maxRecDepth 100000

/-! posed$1 -/
noncomputable def G70 : FuncId → Option (CF tC) := look []
theorem Y70 : SysN tC G70 := (sys_nil tC_ok tC_eq)
def S70 : FS := ⟨[[.v]], [⟨[vI], []⟩], [⟨[vO], []⟩], [[.v]], []⟩
def f70 (n1 : Int) : Bool :=
  bif decide (n1 < (-1048576 : Int)) then true else decide (n1 > (1048576 : Int))
noncomputable def F70 : CF tC := mkF tC S70 (fun a => some ((f70 a.1), ()))
def h70 (r : Bool) : Option (altTy tE S70.outs) := some (r, ())
theorem f70_run : ∀ a, fnS tC G70 (look []) Tryz.f70 S70 a = (fun a => some ((f70 a.1), ())) a := fun a => by
  have key : ∀ (n1 : Int), (bif decide (n1 < (-1048576 : Int)) then h70 true else h70 (decide (n1 > (1048576 : Int)))) = h70 (f70 n1) := by
    intros
    unfold f70
    repeat' first | rfl | refine cond_h (g := h70) ?_ ?_
  exact Eq.trans (by kernel_rfl) (key a.1)
theorem F70_ok : CFOK tC 70 F70 := mkF_ok Y70 (fn := Tryz.f70) (body := bodyOf Tryz.f70) (by kernel_rfl) (by kernel_rfl) (by kernel_rfl) (m := 0) rfl (lam_le lam_nil) f70_run

/-! particle.posed -/
noncomputable def G36 : FuncId → Option (CF tC) := look [(70, F70)]
theorem Y36 : SysN tC G36 := (sys_cons F70_ok (mkF_nat _ _) (sys_nil tC_ok tC_eq))
def S36 : FS := ⟨[[.v, .v, .v]], [⟨[.one (.agg [.int .i64, .int .i64, .int .i64])], []⟩], [⟨[vO], []⟩], [[.v]], []⟩
def f36 (n1 : Int) (n2 : Int) (n3 : Int) : Bool :=
  bif !f70 n1 then bif !f70 n2 then bif decide (n3 ≥ (0 : Int)) then decide (n3 < (256 : Int)) else false else false else false
noncomputable def F36 : CF tC := mkF tC S36 (fun a => some ((f36 a.1 a.2.1 a.2.2.1), ()))
def h36 (r : Bool) : Option (altTy tE S36.outs) := some (r, ())
theorem f36_run : ∀ a, fnS tC G36 (look []) Tryz.f36 S36 a = (fun a => some ((f36 a.1 a.2.1 a.2.2.1), ())) a := fun a => by
  have key : ∀ (n1 : Int) (n2 : Int) (n3 : Int), (bif !f70 n1 then bif !f70 n2 then bif decide (n3 ≥ (0 : Int)) then h36 (decide (n3 < (256 : Int))) else h36 false else h36 false
else h36 false) = h36 (f36 n1 n2 n3) := by
    intros
    unfold f36
    repeat' first | rfl | refine cond_h (g := h36) ?_ ?_
  exact Eq.trans (by kernel_rfl) (key a.1 a.2.1 a.2.2.1)
theorem F36_ok : CFOK tC 36 F36 := mkF_ok Y36 (fn := Tryz.f36) (body := bodyOf Tryz.f36) (by kernel_rfl) (by kernel_rfl) (by kernel_rfl) (m := 0) rfl (lam_le lam_nil) f36_run

/-! particle.valid$1 -/
noncomputable def G35 : FuncId → Option (CF tC) := look [(36, F36)]
theorem Y35 : SysN tC G35 := (sys_cons F36_ok (mkF_nat _ _) (sys_nil tC_ok tC_eq))
def S35 : FS := ⟨[[.v, .v, .v, .v]], [⟨[.one (.agg [.int .i64, .int .i64, .int .i64, .int .i64])], []⟩], [⟨[vO], []⟩], [[.v]], []⟩
def f35 (n1 : Int) (n2 : Int) (n3 : Int) (n4 : Int) : Bool :=
  bif !f36 n1 n2 n3 then true else bif decide (n4 < (0 : Int)) then true else decide (n4 > (1048576 : Int))
noncomputable def F35 : CF tC := mkF tC S35 (fun a => some ((f35 a.1 a.2.1 a.2.2.1 a.2.2.2.1), ()))
def h35 (r : Bool) : Option (altTy tE S35.outs) := some (r, ())
theorem f35_run : ∀ a, fnS tC G35 (look []) Tryz.f35 S35 a = (fun a => some ((f35 a.1 a.2.1 a.2.2.1 a.2.2.2.1), ())) a := fun a => by
  have key : ∀ (n1 : Int) (n2 : Int) (n3 : Int) (n4 : Int), (bif !f36 n1 n2 n3 then h35 true else bif decide (n4 < (0 : Int)) then h35 true else h35 (decide (n4 > (1048576 : Int)))) = h35 (f35 n1 n2 n3 n4) := by
    intros
    unfold f35
    repeat' first | rfl | refine cond_h (g := h35) ?_ ?_
  exact Eq.trans (by kernel_rfl) (key a.1 a.2.1 a.2.2.1 a.2.2.2.1)
theorem F35_ok : CFOK tC 35 F35 := mkF_ok Y35 (fn := Tryz.f35) (body := bodyOf Tryz.f35) (by kernel_rfl) (by kernel_rfl) (by kernel_rfl) (m := 0) rfl (lam_le lam_nil) f35_run

/-! slices.IndexFunc[Particle] -/
noncomputable def G71 : FuncId → Option (CF tC) := look [(35, F35)]
theorem Y71 : SysN tC G71 := (sys_cons F35_ok (mkF_nat _ _) (sys_nil tC_ok tC_eq))
noncomputable def c71_0 : Code := loopOf (bodyOf Tryz.f71) 0
def p71_0 : LS := ⟨0, [0, 1, 7, 8], ⟨[.one (.one (.imm 42)), .one (.fn 35 [])] ++ vBs 5 ++ [vI, vI] ++ vBs 10, []⟩, [⟨.ret, [4], ⟨vBs 4 ++ [vI] ++ vBs 14, []⟩, []⟩, ⟨.exit 0, [], ⟨vBs 19, []⟩, []⟩], []⟩
noncomputable def r71_0 (x : List Pa × Int × Int × Unit) : Option (List Pa × Int × Int × Unit ⊕ Int × Unit ⊕ Unit) :=
  bif decide (x.snd.snd.fst < x.snd.fst) then
  (idxO x.fst x.snd.snd.fst).bind fun y7 =>
    bif f35 y7.X y7.Y y7.H y7.W then some (Sum.inr (Sum.inl (x.snd.snd.fst, ())))
    else some (Sum.inl (x.fst, x.snd.fst, IntKind.i64.wrap (x.snd.snd.fst + (1 : Int)), ()))
else some (Sum.inr (Sum.inr ()))
theorem r71_0_run0 (v0 : List Pa) (v1 : Int) (v2 : Int) : roundK tC G71 (look []) c71_0 p71_0 (v0, v1, v2, ()) = r71_0 (v0, v1, v2, ()) := by kernel_rfl
theorem r71_0_run (x : List Pa × Int × Int × Unit) : roundK tC G71 (look []) c71_0 p71_0 x = r71_0 x := r71_0_run0 x.1 x.2.1 x.2.2.1
noncomputable def l71_0 (x : List Pa × Int × Int × Unit) : Option (Int × Unit ⊕ Unit) := iterO r71_0 x
noncomputable def W71_0 : LF tC := loopW tC p71_0 0 l71_0
theorem W71_0_ok : keyed 0 (bodyOf Tryz.f71) = [.block 0 (.loop c71_0)] ∧ ∀ n, n ≤ 0 → Snd tC n (.block 0 (.loop c71_0)) W71_0.k := ⟨by kernel_rfl, fun n hn => loopW_ok (p := p71_0) (id := 0) Y71 (lam_le lam_nil n hn) hn r71_0_run⟩
def S71 : FS := ⟨[[.s 42], [.f]], [⟨[.one (.one (.imm 42)), .one (.fn 35 [])], []⟩], [⟨[vI], []⟩], [[.v]], []⟩
noncomputable def f71 (x : List Pa × Unit) : Option (Int × Unit) :=
  (l71_0 (x.fst, (↑x.fst.length : Int), (0 : Int), ())).bind fun y12 =>
  Sum.elim (fun y10 => some (y10.fst, ())) (fun _x => some ((-1 : Int), ())) y12
noncomputable def F71 : CF tC := mkF tC S71 f71
theorem f71_run : ∀ a, fnS tC G71 (look [(0, W71_0)]) Tryz.f71 S71 a = f71 a := fun a => by kernel_rfl
theorem F71_ok : CFOK tC 71 F71 := mkF_ok Y71 (fn := Tryz.f71) (body := bodyOf Tryz.f71) (by kernel_rfl) (by kernel_rfl) (by kernel_rfl) (m := 0) rfl (lam_le (lam_cons W71_0_ok lam_nil)) f71_run

/-! slices.ContainsFunc[Particle] -/
noncomputable def G37 : FuncId → Option (CF tC) := look [(71, F71), (35, F35)]
theorem Y37 : SysN tC G37 := (sys_cons F71_ok (mkF_nat _ _) (sys_cons F35_ok (mkF_nat _ _) (sys_nil tC_ok tC_eq)))
def S37 : FS := ⟨[[.s 42], [.f]], [⟨[.one (.one (.imm 42)), .one (.fn 35 [])], []⟩], [⟨[vO], []⟩], [[.v]], []⟩
noncomputable def f37 (x : List Pa × Unit) : Option (Bool × Unit) :=
  (f71 (x.fst, ())).bind fun y4 => some (decide (y4.fst ≥ (0 : Int)), ())
noncomputable def F37 : CF tC := mkF tC S37 f37
theorem f37_run : ∀ a, fnS tC G37 (look []) Tryz.f37 S37 a = f37 a := fun a => by kernel_rfl
theorem F37_ok : CFOK tC 37 F37 := mkF_ok Y37 (fn := Tryz.f37) (body := bodyOf Tryz.f37) (by kernel_rfl) (by kernel_rfl) (by kernel_rfl) (m := 0) rfl (lam_le lam_nil) f37_run

/-! particle.valid -/
noncomputable def G16 : FuncId → Option (CF tC) := look [(35, F35), (37, F37)]
theorem Y16 : SysN tC G16 := (sys_cons F35_ok (mkF_nat _ _) (sys_cons F37_ok (mkF_nat _ _) (sys_nil tC_ok tC_eq)))
def S16 : FS := ⟨[[.s 42]], [⟨[.one (.one (.imm 42))], []⟩], [⟨[vO], []⟩], [[.v]], []⟩
noncomputable def f16 (x : List Pa × Unit) : Option (Bool × Unit) :=
  bif decide ((↑x.fst.length : Int) ≤ (1024 : Int)) then (f37 (x.fst, ())).bind fun y4 => some (!y4.fst, ()) else some (false, ())
noncomputable def F16 : CF tC := mkF tC S16 f16
theorem f16_run : ∀ a, fnS tC G16 (look []) Tryz.f16 S16 a = f16 a := fun a => by kernel_rfl
theorem F16_ok : CFOK tC 16 F16 := mkF_ok Y16 (fn := Tryz.f16) (body := bodyOf Tryz.f16) (by kernel_rfl) (by kernel_rfl) (by kernel_rfl) (m := 0) rfl (lam_le lam_nil) f16_run

/-! slices.Clone[Particle] -/
noncomputable def G19 : FuncId → Option (CF tC) := look []
theorem Y19 : SysN tC G19 := (sys_nil tC_ok tC_eq)
noncomputable def c19_4 : Code := subCode (bodyOf Tryz.f19) 4
def p19_4 : PS := ⟨0, [0], ⟨[.one (.one (.imm 42))] ++ vBs 7, []⟩, [⟨.ret, [2], ⟨vBs 2 ++ [.one (.one (.sl 0))] ++ vBs 5, [.arr 42]⟩, [(2, 42)]⟩], []⟩
noncomputable def j19_4 (x : List (Pa) × Unit) : Option (Nat × List (Pa) × Unit) := bif roomy (0 + x.1.length) 32 then some (0 + x.1.length, x.1, ()) else none
noncomputable def W19_4 : LF tC := cutLF tC p19_4 j19_4
theorem c19_4_is : NilHead c19_4 0 3 4 32 := ⟨_, _, _, _, _, _, _, _, _, _, _, rfl⟩
theorem j19_4_nil : exec tC G19 (look []) (restOf c19_4) ⟨((p19_4.s.emb ([], ())).t.set 3 (.imm 42 [])).set 4 (.bool true), (p19_4.s.emb ([], ())).h⟩ (fun e st => unP p19_4.k p19_4.outs e st) = j19_4 ([], ()) := by kernel_rfl
theorem j19_4_one (x : p19_4.s.ty tE) : exec tC G19 (look []) (restOf c19_4) ⟨((p19_4.s.emb x).t.set 3 (.imm 42 x.1)).set 4 (.bool false), (p19_4.s.emb x).h⟩ (fun e st => unP p19_4.k p19_4.outs e st) = j19_4 x := by kernel_rfl
theorem W19_4_ok : keyed 4 (bodyOf Tryz.f19) = [c19_4] ∧ ∀ n, n ≤ 0 → Snd tC n c19_4 W19_4.k := ⟨by kernel_rfl, fun n hn => nil_cut (p := p19_4) (f := j19_4) (Λ := look []) (el := 42) Y19 hn c19_4_is (by kernel_rfl) (lam_le lam_nil n hn) (fun x => ⟨42, x.1, rfl, fun t h => match t, x, h with
    | true, (xs, ()), h => by
      have h : xs = [] := h rfl
      subst h
      exact j19_4_nil
    | false, x, _ => j19_4_one x⟩) (fun _ => Nat.le_of_ble_eq_true (by kernel_rfl))⟩
def S19 : FS := ⟨[[.s 42]], [⟨[.one (.one (.imm 42))], []⟩], [⟨[.one (.one (.sl 0))], [.arr 42]⟩], [[.v]], []⟩
noncomputable def f19 (x : List (Pa) × Unit) : Option (Nat × List (Pa) × Unit) := (j19_4 (x.1, ())).bind fun y => some (y.1, y.2.1, ())
noncomputable def F19 : CF tC := mkF tC S19 f19
theorem f19_run : ∀ a, fnS tC G19 (look [(4, W19_4)]) Tryz.f19 S19 a = f19 a := fun a => by kernel_rfl
theorem F19_ok : CFOK tC 19 F19 := mkF_ok Y19 (fn := Tryz.f19) (body := bodyOf Tryz.f19) (by kernel_rfl) (by kernel_rfl) (by kernel_rfl) (m := 0) rfl (lam_le (lam_cons W19_4_ok lam_nil)) f19_run

/-! particle.Next -/
noncomputable def G92 : FuncId → Option (CF tC) := look []
theorem Y92 : SysN tC G92 := (sys_nil tC_ok tC_eq)
def S92 : FS := ⟨[[.v]], [⟨[.one (.one (.int .u64))], []⟩], [⟨[.one (.one (.int .u64))], []⟩], [[.v]], []⟩
def f92 (n1 : Int) : Int :=
  IntKind.u64.wrap (IntKind.u64.wrap (n1 * (6364136223846793005 : Int)) + (1442695040888963407 : Int))
noncomputable def F92 : CF tC := mkF tC S92 (fun a => some ((f92 a.1), ()))
def h92 (r : Int) : Option (altTy tE S92.outs) := some (r, ())
theorem f92_run : ∀ a, fnS tC G92 (look []) Tryz.f92 S92 a = (fun a => some ((f92 a.1), ())) a := fun a => by
  have key : ∀ (n1 : Int), (h92 (IntKind.u64.wrap (IntKind.u64.wrap (n1 * (6364136223846793005 : Int)) + (1442695040888963407 : Int)))) = h92 (f92 n1) := by
    intros
    unfold f92
    repeat' first | rfl | refine cond_h (g := h92) ?_ ?_
  exact Eq.trans (by kernel_rfl) (key a.1)
theorem F92_ok : CFOK tC 92 F92 := mkF_ok Y92 (fn := Tryz.f92) (body := bodyOf Tryz.f92) (by kernel_rfl) (by kernel_rfl) (by kernel_rfl) (m := 0) rfl (lam_le lam_nil) f92_run

/-! particle.Draw -/
noncomputable def G72 : FuncId → Option (CF tC) := look [(92, F92)]
theorem Y72 : SysN tC G72 := (sys_cons F92_ok (mkF_nat _ _) (sys_nil tC_ok tC_eq))
def S72 : FS := ⟨[[.v], [.v]], [⟨[.one (.one (.int .u64)), vI], []⟩], [⟨[.tup [.one (.int .i64), .one (.int .u64)]], []⟩], [[.v], [.v]], []⟩
noncomputable def f72 (x : Int × Int × Unit) : Option (Int × Int × Unit) :=
  bif decide (x.snd.fst < (1 : Int)) then some ((0 : Int), x.fst, ())
else
  bif decide (x.snd.fst > (2147483648 : Int)) then some ((0 : Int), x.fst, ())
  else
    bif IntKind.u64.wrap x.snd.fst == (0 : Int) then none
    else some (IntKind.i64.wrap (((f92 x.fst).fdiv (8589934592 : Int)).tmod (IntKind.u64.wrap x.snd.fst)), f92 x.fst, ())
noncomputable def F72 : CF tC := mkF tC S72 f72
theorem f72_run : ∀ a, fnS tC G72 (look []) Tryz.f72 S72 a = f72 a := fun a => by kernel_rfl
theorem F72_ok : CFOK tC 72 F72 := mkF_ok Y72 (fn := Tryz.f72) (body := bodyOf Tryz.f72) (by kernel_rfl) (by kernel_rfl) (by kernel_rfl) (m := 0) rfl (lam_le lam_nil) f72_run

/-! source.from -/
noncomputable def G40 : FuncId → Option (CF tC) := look [(72, F72)]
theorem Y40 : SysN tC G40 := (sys_cons F72_ok (mkF_nat _ _) (sys_nil tC_ok tC_eq))
def S40 : FS := ⟨[[.p], [.v]], [⟨[.one (.one (.ptr 0 0 0)), vI], [.box [.int .u64]]⟩], [⟨[vI], [.box [.int .u64]]⟩], [[.v]], []⟩
noncomputable def f40 (x : Int × Int × Unit) : Option (Int × Int × Unit) :=
  (f72 (x.snd.fst, x.fst, ())).bind fun y7 => some (y7.fst, y7.snd.fst, ())
noncomputable def F40 : CF tC := mkF tC S40 f40
theorem f40_run : ∀ a, fnS tC G40 (look []) Tryz.f40 S40 a = f40 a := fun a => by kernel_rfl
theorem F40_ok : CFOK tC 40 F40 := mkF_ok Y40 (fn := Tryz.f40) (body := bodyOf Tryz.f40) (by kernel_rfl) (by kernel_rfl) (by kernel_rfl) (m := 1) rfl (lam_le lam_nil) f40_run

/-! source.around -/
noncomputable def G20 : FuncId → Option (CF tC) := look [(40, F40)]
theorem Y20 : SysN tC G20 := (sys_cons F40_ok (mkF_nat _ _) (sys_nil tC_ok tC_eq))
def S20 : FS := ⟨[[.p], [.v]], [⟨[.one (.one (.ptr 0 0 0)), vI], [.box [.int .u64]]⟩], [⟨[vI], [.box [.int .u64]]⟩], [[.v]], []⟩
noncomputable def f20 (x : Int × Int × Unit) : Option (Int × Int × Unit) :=
  (f40 (IntKind.i64.wrap (IntKind.i64.wrap ((2 : Int) * x.fst) + (1 : Int)), x.snd.fst, ())).bind fun y7 =>
  some (IntKind.i64.wrap (y7.fst - x.fst), y7.snd.fst, ())
noncomputable def F20 : CF tC := mkF tC S20 f20
theorem f20_run : ∀ a, fnS tC G20 (look []) Tryz.f20 S20 a = f20 a := fun a => by kernel_rfl
theorem F20_ok : CFOK tC 20 F20 := mkF_ok Y20 (fn := Tryz.f20) (body := bodyOf Tryz.f20) (by kernel_rfl) (by kernel_rfl) (by kernel_rfl) (m := 1) rfl (lam_le lam_nil) f20_run

/-! particle.Move -/
noncomputable def G8 : FuncId → Option (CF tC) := look [(16, F16), (17, F17), (18, F18), (19, F19), (20, F20), (21, F21)]
theorem Y8 : SysN tC G8 := (sys_cons F16_ok (mkF_nat _ _) (sys_cons F17_ok (mkF_nat _ _) (sys_cons F18_ok (mkF_nat _ _) (sys_cons F19_ok (mkF_nat _ _) (sys_cons F20_ok (mkF_nat _ _) (sys_cons F21_ok (mkF_nat _ _) (sys_nil tC_ok tC_eq)))))))
noncomputable def c8_49 : Code := subCode (loopOf (bodyOf Tryz.f8) 0) 49
def p8_49 : PS := ⟨0, [5, 6, 11, 12, 36, 37, 38], ⟨vBs 5 ++ [.one (.one (.ptr 0 0 0)), .one (.one (.ptr 1 0 0))] ++ vBs 4 ++ [.one (.one (.ptr 2 0 0)), .one (.one (.sl 3))] ++ vBs 23 ++ [.one (.one (.sl 3)), vI, vI] ++ vBs 45, [.box [.int .i64, .int .i64], .box [.int .i64, .int .i64, .int .i64, .int .i64], .box [.int .u64], .arr 42]⟩, [⟨.normal, [5, 6, 11, 12, 36, 37, 38], ⟨vBs 5 ++ [.one (.one (.ptr 0 0 0)), .one (.one (.ptr 1 0 0))] ++ vBs 4 ++ [.one (.one (.ptr 2 0 0)), .one (.one (.sl 3))] ++ vBs 23 ++ [.one (.one (.sl 3)), vI, vI] ++ vBs 45, [.box [.int .i64, .int .i64], .box [.int .i64, .int .i64, .int .i64, .int .i64], .box [.int .u64], .arr 42]⟩, []⟩], []⟩
noncomputable def j8_49 (x : Nat × Nat × Int × Int × Int × Int × Int × Int × Int × Int × Int × List Pa × Unit) : Option (Nat × Nat × Int × Int × Int × Int × Int × Int × Int × Int × Int × List Pa × Unit) :=
  some
  (x.fst, x.snd.fst, x.snd.snd.fst, IntKind.i64.wrap (x.snd.snd.snd.fst + (1 : Int)), x.snd.snd.snd.snd.fst, x.snd.snd.snd.snd.snd.fst,
    x.snd.snd.snd.snd.snd.snd.fst, x.snd.snd.snd.snd.snd.snd.snd.fst, x.snd.snd.snd.snd.snd.snd.snd.snd.fst,
    x.snd.snd.snd.snd.snd.snd.snd.snd.snd.fst, x.snd.snd.snd.snd.snd.snd.snd.snd.snd.snd.fst,
    x.snd.snd.snd.snd.snd.snd.snd.snd.snd.snd.snd.fst, ())
theorem j8_49_run0 (v0 : Nat) (v1 : Nat) (v2 : Int) (v3 : Int) (v4 : Int) (v5 : Int) (v6 : Int) (v7 : Int) (v8 : Int) (v9 : Int) (v10 : Int) (v11 : List Pa) : pieceK tC G8 (look []) c8_49 p8_49 (v0, v1, v2, v3, v4, v5, v6, v7, v8, v9, v10, v11, ()) = j8_49 (v0, v1, v2, v3, v4, v5, v6, v7, v8, v9, v10, v11, ()) := by kernel_rfl
theorem j8_49_run (x : Nat × Nat × Int × Int × Int × Int × Int × Int × Int × Int × Int × List Pa × Unit) : pieceK tC G8 (look []) c8_49 p8_49 x = j8_49 x := j8_49_run0 x.1 x.2.1 x.2.2.1 x.2.2.2.1 x.2.2.2.2.1 x.2.2.2.2.2.1 x.2.2.2.2.2.2.1 x.2.2.2.2.2.2.2.1 x.2.2.2.2.2.2.2.2.1 x.2.2.2.2.2.2.2.2.2.1 x.2.2.2.2.2.2.2.2.2.2.1 x.2.2.2.2.2.2.2.2.2.2.2.1
noncomputable def W8_49 : LF tC := cutLF tC p8_49 j8_49
theorem W8_49_ok : keyed 49 (loopOf (bodyOf Tryz.f8) 0) = [c8_49] ∧ ∀ n, n ≤ 0 → Snd tC n c8_49 W8_49.k := ⟨by kernel_rfl, fun n hn => cut_ok (p := p8_49) Y8 (lam_le lam_nil n hn) hn j8_49_run⟩
noncomputable def c8_0 : Code := loopOf (bodyOf Tryz.f8) 0
def p8_0 : LS := ⟨0, [5, 6, 11, 12, 36, 37, 38], ⟨vBs 5 ++ [.one (.one (.ptr 0 0 0)), .one (.one (.ptr 1 0 0))] ++ vBs 4 ++ [.one (.one (.ptr 2 0 0)), .one (.one (.sl 3))] ++ vBs 23 ++ [.one (.one (.sl 3)), vI, vI] ++ vBs 45, [.box [.int .i64, .int .i64], .box [.int .i64, .int .i64, .int .i64, .int .i64], .box [.int .u64], .arr 42]⟩, [⟨.exit 0, [11, 12], ⟨vBs 11 ++ [.one (.one (.ptr 0 0 0)), .one (.one (.sl 1))] ++ vBs 71, [.box [.int .u64], .arr 42]⟩, []⟩], []⟩
noncomputable def r8_0 (x : Nat × Nat × Int × Int × Int × Int × Int × Int × Int × Int × Int × List Pa × Unit) : Option (Nat × Nat × Int × Int × Int × Int × Int × Int × Int × Int × Int × List Pa × Unit ⊕ Nat × Int × List Pa × Unit) :=
  bif decide (x.snd.snd.snd.fst < x.snd.snd.fst) then
  bif decide ((0 : Int) ≤ x.snd.snd.snd.fst) && decide (x.snd.snd.snd.fst < (↑x.snd.fst : Int)) then
    x.snd.snd.snd.snd.snd.snd.snd.snd.snd.snd.snd.fst[(0 : Nat) + x.snd.snd.snd.fst.toNat]?.bind fun y97 =>
      (f20 (x.snd.snd.snd.snd.snd.snd.fst, x.snd.snd.snd.snd.snd.snd.snd.snd.snd.snd.fst, ())).bind fun y96 =>
        (f20 (x.snd.snd.snd.snd.snd.snd.snd.fst, y96.snd.fst, ())).bind fun y95 =>
          (f20 (x.snd.snd.snd.snd.snd.snd.snd.snd.fst, y95.snd.fst, ())).bind fun y94 =>
            (f20 (x.snd.snd.snd.snd.snd.snd.snd.snd.fst, y94.snd.fst, ())).bind fun y93 =>
              (f21 (y97.X, y97.Y, y97.H, x.snd.snd.snd.snd.fst, x.snd.snd.snd.snd.snd.fst, y96.fst, y95.fst, y94.fst, y93.fst, ())).bind
                fun y92 =>
                bif y92.snd.snd.snd.fst == (0 : Int) then
                  bif decide ((0 : Int) ≤ x.snd.snd.snd.fst) && decide (x.snd.snd.snd.fst < (↑x.fst : Int)) then
                    x.snd.snd.snd.snd.snd.snd.snd.snd.snd.snd.snd.fst[(0 : Nat) + x.snd.snd.snd.fst.toNat]?.bind fun y90 =>
                      (j8_49
                            (x.fst, x.snd.fst, x.snd.snd.fst, x.snd.snd.snd.fst, x.snd.snd.snd.snd.fst, x.snd.snd.snd.snd.snd.fst,
                              x.snd.snd.snd.snd.snd.snd.fst, x.snd.snd.snd.snd.snd.snd.snd.fst, x.snd.snd.snd.snd.snd.snd.snd.snd.fst,
                              x.snd.snd.snd.snd.snd.snd.snd.snd.snd.fst, y93.snd.fst,
                              x.snd.snd.snd.snd.snd.snd.snd.snd.snd.snd.snd.fst.set ((0 : Nat) + x.snd.snd.snd.fst.toNat)
                                (Pa.mk y92.fst y92.snd.fst y92.snd.snd.fst y90.W),
                              ())).bind
                        fun y89 =>
                        some
                          (Sum.inl
                            (y89.fst, y89.snd.fst, y89.snd.snd.fst, y89.snd.snd.snd.fst, y89.snd.snd.snd.snd.fst,
                              y89.snd.snd.snd.snd.snd.fst, y89.snd.snd.snd.snd.snd.snd.fst, y89.snd.snd.snd.snd.snd.snd.snd.fst,
                              y89.snd.snd.snd.snd.snd.snd.snd.snd.fst, y89.snd.snd.snd.snd.snd.snd.snd.snd.snd.fst,
                              y89.snd.snd.snd.snd.snd.snd.snd.snd.snd.snd.fst, y89.snd.snd.snd.snd.snd.snd.snd.snd.snd.snd.snd.fst, ()))
                  else none
                else
                  (j8_49
                        (x.fst, x.snd.fst, x.snd.snd.fst, x.snd.snd.snd.fst, x.snd.snd.snd.snd.fst, x.snd.snd.snd.snd.snd.fst,
                          x.snd.snd.snd.snd.snd.snd.fst, x.snd.snd.snd.snd.snd.snd.snd.fst, x.snd.snd.snd.snd.snd.snd.snd.snd.fst,
                          x.snd.snd.snd.snd.snd.snd.snd.snd.snd.fst, y93.snd.fst, x.snd.snd.snd.snd.snd.snd.snd.snd.snd.snd.snd.fst,
                          ())).bind
                    fun y91 =>
                    some
                      (Sum.inl
                        (y91.fst, y91.snd.fst, y91.snd.snd.fst, y91.snd.snd.snd.fst, y91.snd.snd.snd.snd.fst, y91.snd.snd.snd.snd.snd.fst,
                          y91.snd.snd.snd.snd.snd.snd.fst, y91.snd.snd.snd.snd.snd.snd.snd.fst, y91.snd.snd.snd.snd.snd.snd.snd.snd.fst,
                          y91.snd.snd.snd.snd.snd.snd.snd.snd.snd.fst, y91.snd.snd.snd.snd.snd.snd.snd.snd.snd.snd.fst,
                          y91.snd.snd.snd.snd.snd.snd.snd.snd.snd.snd.snd.fst, ()))
  else none
else some (Sum.inr (x.fst, x.snd.snd.snd.snd.snd.snd.snd.snd.snd.snd.fst, x.snd.snd.snd.snd.snd.snd.snd.snd.snd.snd.snd.fst, ()))
theorem r8_0_run0 (v0 : Nat) (v1 : Nat) (v2 : Int) (v3 : Int) (v4 : Int) (v5 : Int) (v6 : Int) (v7 : Int) (v8 : Int) (v9 : Int) (v10 : Int) (v11 : List Pa) : roundK tC G8 (look [(49, W8_49)]) c8_0 p8_0 (v0, v1, v2, v3, v4, v5, v6, v7, v8, v9, v10, v11, ()) = r8_0 (v0, v1, v2, v3, v4, v5, v6, v7, v8, v9, v10, v11, ()) := by kernel_rfl
theorem r8_0_run (x : Nat × Nat × Int × Int × Int × Int × Int × Int × Int × Int × Int × List Pa × Unit) : roundK tC G8 (look [(49, W8_49)]) c8_0 p8_0 x = r8_0 x := r8_0_run0 x.1 x.2.1 x.2.2.1 x.2.2.2.1 x.2.2.2.2.1 x.2.2.2.2.2.1 x.2.2.2.2.2.2.1 x.2.2.2.2.2.2.2.1 x.2.2.2.2.2.2.2.2.1 x.2.2.2.2.2.2.2.2.2.1 x.2.2.2.2.2.2.2.2.2.2.1 x.2.2.2.2.2.2.2.2.2.2.2.1
noncomputable def l8_0 (x : Nat × Nat × Int × Int × Int × Int × Int × Int × Int × Int × Int × List Pa × Unit) : Option (Nat × Int × List Pa × Unit) := iterO r8_0 x
noncomputable def W8_0 : LF tC := loopW tC p8_0 0 l8_0
theorem W8_0_ok : keyed 0 (bodyOf Tryz.f8) = [.block 0 (.loop c8_0)] ∧ ∀ n, n ≤ 0 → Snd tC n (.block 0 (.loop c8_0)) W8_0.k := ⟨by kernel_rfl, fun n hn => loopW_ok (p := p8_0) (id := 0) Y8 (lam_le (lam_cons W8_49_ok lam_nil) n hn) hn r8_0_run⟩
def S8 : FS := ⟨[[.s 42], [.v, .v], [.v, .v, .v, .v], [.v]], [⟨[.one (.one (.imm 42)), .one (.agg [.int .i64, .int .i64]), .one (.agg [.int .i64, .int .i64, .int .i64, .int .i64]), .one (.one (.int .u64))], []⟩], [⟨[.tup [.one (.sl 0), .one (.int .u64), .one (.int .i64)]], [.arr 42]⟩], [[.v], [.v], [.v]], [(8, 42)]⟩
noncomputable def f8 (x : List Pa × Int × Int × Int × Int × Int × Int × Int × Unit) : Option (Nat × Int × Int × List Pa × Unit) :=
  (f16 (x.fst, ())).bind fun y107 =>
  bif !y107.fst then some ((0 : Nat), (0 : Int), (1 : Int), [], ())
  else
    bif !f17 x.snd.fst x.snd.snd.fst then some ((0 : Nat), (0 : Int), (1 : Int), [], ())
    else
      bif !f18 x.snd.snd.snd.fst x.snd.snd.snd.snd.fst x.snd.snd.snd.snd.snd.fst x.snd.snd.snd.snd.snd.snd.fst then
        some ((0 : Nat), (0 : Int), (1 : Int), [], ())
      else
        (f19 (x.fst, ())).bind fun y106 =>
          (l8_0
                (y106.fst, y106.fst, (↑y106.fst : Int), (0 : Int), x.snd.fst, x.snd.snd.fst, x.snd.snd.snd.fst, x.snd.snd.snd.snd.fst,
                  x.snd.snd.snd.snd.snd.fst, x.snd.snd.snd.snd.snd.snd.fst, x.snd.snd.snd.snd.snd.snd.snd.fst, y106.snd.fst, ())).bind
            fun y105 => some (y105.fst, y105.snd.fst, (0 : Int), y105.snd.snd.fst, ())
noncomputable def F8 : CF tC := mkF tC S8 f8
theorem f8_run : ∀ a, fnS tC G8 (look [(0, W8_0)]) Tryz.f8 S8 a = f8 a := fun a => by kernel_rfl
theorem F8_ok : CFOK tC 8 F8 := mkF_ok Y8 (fn := Tryz.f8) (body := bodyOf Tryz.f8) (by kernel_rfl) (by kernel_rfl) (by kernel_rfl) (m := 0) rfl (lam_le (lam_cons W8_0_ok lam_nil)) f8_run

/-! scanned$1 -/
noncomputable def G48 : FuncId → Option (CF tC) := look []
theorem Y48 : SysN tC G48 := (sys_nil tC_ok tC_eq)
def S48 : FS := ⟨[[.v, .v]], [⟨[.one (.agg [.int .i64, .int .i64])], []⟩], [⟨[vO], []⟩], [[.v]], []⟩
def f48 (n1 : Int) (n2 : Int) : Bool :=
  bif decide (n1 < (0 : Int)) then true
else bif decide (n1 ≥ (256 : Int)) then true else bif decide (n2 < (-1 : Int)) then true else decide (n2 > (1024 : Int))
noncomputable def F48 : CF tC := mkF tC S48 (fun a => some ((f48 a.1 a.2.1), ()))
def h48 (r : Bool) : Option (altTy tE S48.outs) := some (r, ())
theorem f48_run : ∀ a, fnS tC G48 (look []) Tryz.f48 S48 a = (fun a => some ((f48 a.1 a.2.1), ())) a := fun a => by
  have key : ∀ (n1 : Int) (n2 : Int), (bif decide (n1 < (0 : Int)) then h48 true
else bif decide (n1 ≥ (256 : Int)) then h48 true else bif decide (n2 < (-1 : Int)) then h48 true else h48 (decide (n2 > (1024 : Int)))) = h48 (f48 n1 n2) := by
    intros
    unfold f48
    repeat' first | rfl | refine cond_h (g := h48) ?_ ?_
  exact Eq.trans (by kernel_rfl) (key a.1 a.2.1)
theorem F48_ok : CFOK tC 48 F48 := mkF_ok Y48 (fn := Tryz.f48) (body := bodyOf Tryz.f48) (by kernel_rfl) (by kernel_rfl) (by kernel_rfl) (m := 0) rfl (lam_le lam_nil) f48_run

/-! slices.IndexFunc[Beam] -/
noncomputable def G75 : FuncId → Option (CF tC) := look [(48, F48)]
theorem Y75 : SysN tC G75 := (sys_cons F48_ok (mkF_nat _ _) (sys_nil tC_ok tC_eq))
noncomputable def c75_0 : Code := loopOf (bodyOf Tryz.f75) 0
def p75_0 : LS := ⟨0, [0, 1, 7, 8], ⟨[.one (.one (.imm 85)), .one (.fn 48 [])] ++ vBs 5 ++ [vI, vI] ++ vBs 10, []⟩, [⟨.ret, [4], ⟨vBs 4 ++ [vI] ++ vBs 14, []⟩, []⟩, ⟨.exit 0, [], ⟨vBs 19, []⟩, []⟩], []⟩
noncomputable def r75_0 (x : List Bm × Int × Int × Unit) : Option (List Bm × Int × Int × Unit ⊕ Int × Unit ⊕ Unit) :=
  bif decide (x.snd.snd.fst < x.snd.fst) then
  (idxO x.fst x.snd.snd.fst).bind fun y7 =>
    bif f48 y7.M y7.R then some (Sum.inr (Sum.inl (x.snd.snd.fst, ())))
    else some (Sum.inl (x.fst, x.snd.fst, IntKind.i64.wrap (x.snd.snd.fst + (1 : Int)), ()))
else some (Sum.inr (Sum.inr ()))
theorem r75_0_run0 (v0 : List Bm) (v1 : Int) (v2 : Int) : roundK tC G75 (look []) c75_0 p75_0 (v0, v1, v2, ()) = r75_0 (v0, v1, v2, ()) := by kernel_rfl
theorem r75_0_run (x : List Bm × Int × Int × Unit) : roundK tC G75 (look []) c75_0 p75_0 x = r75_0 x := r75_0_run0 x.1 x.2.1 x.2.2.1
noncomputable def l75_0 (x : List Bm × Int × Int × Unit) : Option (Int × Unit ⊕ Unit) := iterO r75_0 x
noncomputable def W75_0 : LF tC := loopW tC p75_0 0 l75_0
theorem W75_0_ok : keyed 0 (bodyOf Tryz.f75) = [.block 0 (.loop c75_0)] ∧ ∀ n, n ≤ 0 → Snd tC n (.block 0 (.loop c75_0)) W75_0.k := ⟨by kernel_rfl, fun n hn => loopW_ok (p := p75_0) (id := 0) Y75 (lam_le lam_nil n hn) hn r75_0_run⟩
def S75 : FS := ⟨[[.s 85], [.f]], [⟨[.one (.one (.imm 85)), .one (.fn 48 [])], []⟩], [⟨[vI], []⟩], [[.v]], []⟩
noncomputable def f75 (x : List Bm × Unit) : Option (Int × Unit) :=
  (l75_0 (x.fst, (↑x.fst.length : Int), (0 : Int), ())).bind fun y12 =>
  Sum.elim (fun y10 => some (y10.fst, ())) (fun _x => some ((-1 : Int), ())) y12
noncomputable def F75 : CF tC := mkF tC S75 f75
theorem f75_run : ∀ a, fnS tC G75 (look [(0, W75_0)]) Tryz.f75 S75 a = f75 a := fun a => by kernel_rfl
theorem F75_ok : CFOK tC 75 F75 := mkF_ok Y75 (fn := Tryz.f75) (body := bodyOf Tryz.f75) (by kernel_rfl) (by kernel_rfl) (by kernel_rfl) (m := 0) rfl (lam_le (lam_cons W75_0_ok lam_nil)) f75_run

/-! slices.ContainsFunc[Beam] -/
noncomputable def G49 : FuncId → Option (CF tC) := look [(75, F75), (48, F48)]
theorem Y49 : SysN tC G49 := (sys_cons F75_ok (mkF_nat _ _) (sys_cons F48_ok (mkF_nat _ _) (sys_nil tC_ok tC_eq)))
def S49 : FS := ⟨[[.s 85], [.f]], [⟨[.one (.one (.imm 85)), .one (.fn 48 [])], []⟩], [⟨[vO], []⟩], [[.v]], []⟩
noncomputable def f49 (x : List Bm × Unit) : Option (Bool × Unit) :=
  (f75 (x.fst, ())).bind fun y4 => some (decide (y4.fst ≥ (0 : Int)), ())
noncomputable def F49 : CF tC := mkF tC S49 f49
theorem f49_run : ∀ a, fnS tC G49 (look []) Tryz.f49 S49 a = f49 a := fun a => by kernel_rfl
theorem F49_ok : CFOK tC 49 F49 := mkF_ok Y49 (fn := Tryz.f49) (body := bodyOf Tryz.f49) (by kernel_rfl) (by kernel_rfl) (by kernel_rfl) (m := 0) rfl (lam_le lam_nil) f49_run

/-! particle.scanned -/
noncomputable def G23 : FuncId → Option (CF tC) := look [(48, F48), (49, F49)]
theorem Y23 : SysN tC G23 := (sys_cons F48_ok (mkF_nat _ _) (sys_cons F49_ok (mkF_nat _ _) (sys_nil tC_ok tC_eq)))
def S23 : FS := ⟨[[.s 85]], [⟨[.one (.one (.imm 85))], []⟩], [⟨[vO], []⟩], [[.v]], []⟩
noncomputable def f23 (x : List Bm × Unit) : Option (Bool × Unit) :=
  bif decide ((↑x.fst.length : Int) ≤ (32 : Int)) then (f49 (x.fst, ())).bind fun y4 => some (!y4.fst, ()) else some (false, ())
noncomputable def F23 : CF tC := mkF tC S23 f23
theorem f23_run : ∀ a, fnS tC G23 (look []) Tryz.f23 S23 a = f23 a := fun a => by kernel_rfl
theorem F23_ok : CFOK tC 23 F23 := mkF_ok Y23 (fn := Tryz.f23) (body := bodyOf Tryz.f23) (by kernel_rfl) (by kernel_rfl) (by kernel_rfl) (m := 0) rfl (lam_le lam_nil) f23_run

/-! plan.validRect -/
noncomputable def G95 : FuncId → Option (CF tC) := look [(83, F83)]
theorem Y95 : SysN tC G95 := (sys_cons F83_ok (mkF_nat _ _) (sys_nil tC_ok tC_eq))
def S95 : FS := ⟨[[.v, .v, .v, .v]], [⟨[.one (.agg [.int .i64, .int .i64, .int .i64, .int .i64])], []⟩], [⟨[vO], []⟩], [[.v]], []⟩
def f95 (n1 : Int) (n2 : Int) (n3 : Int) (n4 : Int) : Bool :=
  bif decide (n1 ≤ n3) then bif decide (n2 ≤ n4) then bif f83 n1 n2 then f83 n3 n4 else false else false else false
noncomputable def F95 : CF tC := mkF tC S95 (fun a => some ((f95 a.1 a.2.1 a.2.2.1 a.2.2.2.1), ()))
def h95 (r : Bool) : Option (altTy tE S95.outs) := some (r, ())
theorem f95_run : ∀ a, fnS tC G95 (look []) Tryz.f95 S95 a = (fun a => some ((f95 a.1 a.2.1 a.2.2.1 a.2.2.2.1), ())) a := fun a => by
  have key : ∀ (n1 : Int) (n2 : Int) (n3 : Int) (n4 : Int), (bif decide (n1 ≤ n3) then bif decide (n2 ≤ n4) then bif f83 n1 n2 then h95 (f83 n3 n4) else h95 false else h95 false else h95 false) = h95 (f95 n1 n2 n3 n4) := by
    intros
    unfold f95
    repeat' first | rfl | refine cond_h (g := h95) ?_ ?_
  exact Eq.trans (by kernel_rfl) (key a.1 a.2.1 a.2.2.1 a.2.2.2.1)
theorem F95_ok : CFOK tC 95 F95 := mkF_ok Y95 (fn := Tryz.f95) (body := bodyOf Tryz.f95) (by kernel_rfl) (by kernel_rfl) (by kernel_rfl) (m := 0) rfl (lam_le lam_nil) f95_run

/-! plan.Cells -/
noncomputable def G77 : FuncId → Option (CF tC) := look [(95, F95), (96, F96)]
theorem Y77 : SysN tC G77 := (sys_cons F95_ok (mkF_nat _ _) (sys_cons F96_ok (mkF_nat _ _) (sys_nil tC_ok tC_eq)))
noncomputable def c77_6 : Code := loopOf (loopOf (bodyOf Tryz.f77) 0) 2
def p77_6 : LS := ⟨0, [4, 5, 7, 8, 9, 10], ⟨vBs 4 ++ [vI, vI, vB, vI, .one (.one (.sl 0)), vI, vI] ++ vBs 48, [.arr 113]⟩, [⟨.exit 2, [4, 5, 7, 8, 9], ⟨vBs 4 ++ [vI, vI, vB, vI, .one (.one (.sl 0)), vI] ++ vBs 49, [.arr 113]⟩, []⟩], []⟩
noncomputable def r77_6 (x : Int × Int × Int × Nat × Int × Int × List Pt × Unit) : Option (Int × Int × Int × Nat × Int × Int × List Pt × Unit ⊕ Int × Int × Int × Nat × Int × List Pt × Unit) :=
  bif decide (x.snd.snd.snd.snd.snd.fst ≤ x.snd.fst) then
  bif decide ((0 : Nat) + x.snd.snd.snd.fst ≤ x.snd.snd.snd.snd.snd.snd.fst.length) then
    bif roomy (x.snd.snd.snd.fst + (1 : Nat)) (16 : Nat) then
      some
        (Sum.inl
          (x.fst, x.snd.fst, x.snd.snd.fst, x.snd.snd.snd.fst + (1 : Nat), x.snd.snd.snd.snd.fst,
            IntKind.i64.wrap (x.snd.snd.snd.snd.snd.fst + (1 : Int)),
            List.take x.snd.snd.snd.fst (List.drop (0 : Nat) x.snd.snd.snd.snd.snd.snd.fst) ++
              [Pt.mk x.snd.snd.snd.snd.snd.fst x.snd.snd.snd.snd.fst],
            ()))
    else none
  else none
else some (Sum.inr (x.fst, x.snd.fst, x.snd.snd.fst, x.snd.snd.snd.fst, x.snd.snd.snd.snd.fst, x.snd.snd.snd.snd.snd.snd.fst, ()))
theorem r77_6_run0 (v0 : Int) (v1 : Int) (v2 : Int) (v3 : Nat) (v4 : Int) (v5 : Int) (v6 : List Pt) : roundK tC G77 (look []) c77_6 p77_6 (v0, v1, v2, v3, v4, v5, v6, ()) = r77_6 (v0, v1, v2, v3, v4, v5, v6, ()) := by kernel_rfl
theorem r77_6_run (x : Int × Int × Int × Nat × Int × Int × List Pt × Unit) : roundK tC G77 (look []) c77_6 p77_6 x = r77_6 x := r77_6_run0 x.1 x.2.1 x.2.2.1 x.2.2.2.1 x.2.2.2.2.1 x.2.2.2.2.2.1 x.2.2.2.2.2.2.1
noncomputable def l77_6 (x : Int × Int × Int × Nat × Int × Int × List Pt × Unit) : Option (Int × Int × Int × Nat × Int × List Pt × Unit) := iterO r77_6 x
noncomputable def W77_6 : LF tC := loopW tC p77_6 2 l77_6
theorem W77_6_ok : keyed 6 (loopOf (bodyOf Tryz.f77) 0) = [.block 2 (.loop c77_6)] ∧ ∀ n, n ≤ 0 → Snd tC n (.block 2 (.loop c77_6)) W77_6.k := ⟨by kernel_rfl, fun n hn => loopW_ok (p := p77_6) (id := 2) Y77 (lam_le lam_nil n hn) hn r77_6_run⟩
noncomputable def c77_0 : Code := loopOf (bodyOf Tryz.f77) 0
def p77_0 : LS := ⟨0, [4, 5, 7, 8, 9], ⟨vBs 4 ++ [vI, vI, vB, vI, .one (.one (.sl 0)), vI] ++ vBs 49, [.arr 113]⟩, [⟨.exit 0, [8], ⟨vBs 8 ++ [.one (.one (.sl 0))] ++ vBs 50, [.arr 113]⟩, []⟩], [(8, 113)]⟩
noncomputable def r77_0 (x : Int × Int × Int × Nat × Int × List Pt × Unit) : Option (Int × Int × Int × Nat × Int × List Pt × Unit ⊕ Nat × List Pt × Unit) :=
  bif decide (x.snd.snd.snd.snd.fst ≤ x.snd.snd.fst) then
  (l77_6 (x.fst, x.snd.fst, x.snd.snd.fst, x.snd.snd.snd.fst, x.snd.snd.snd.snd.fst, x.fst, x.snd.snd.snd.snd.snd.fst, ())).bind fun y64 =>
    some
      (Sum.inl
        (y64.fst, y64.snd.fst, y64.snd.snd.fst, y64.snd.snd.snd.fst, IntKind.i64.wrap (y64.snd.snd.snd.snd.fst + (1 : Int)),
          y64.snd.snd.snd.snd.snd.fst, ()))
else some (Sum.inr (x.snd.snd.snd.fst, x.snd.snd.snd.snd.snd.fst, ()))
theorem r77_0_run0 (v0 : Int) (v1 : Int) (v2 : Int) (v3 : Nat) (v4 : Int) (v5 : List Pt) : roundK tC G77 (look [(6, W77_6)]) c77_0 p77_0 (v0, v1, v2, v3, v4, v5, ()) = r77_0 (v0, v1, v2, v3, v4, v5, ()) := by kernel_rfl
theorem r77_0_run (x : Int × Int × Int × Nat × Int × List Pt × Unit) : roundK tC G77 (look [(6, W77_6)]) c77_0 p77_0 x = r77_0 x := r77_0_run0 x.1 x.2.1 x.2.2.1 x.2.2.2.1 x.2.2.2.2.1 x.2.2.2.2.2.1
noncomputable def l77_0 (x : Int × Int × Int × Nat × Int × List Pt × Unit) : Option (Nat × List Pt × Unit) := iterO r77_0 x
noncomputable def W77_0 : LF tC := loopW tC p77_0 0 l77_0
theorem W77_0_ok : keyed 0 (bodyOf Tryz.f77) = [.block 0 (.loop c77_0)] ∧ ∀ n, n ≤ 0 → Snd tC n (.block 0 (.loop c77_0)) W77_0.k := ⟨by kernel_rfl, fun n hn => loopW_ok (p := p77_0) (id := 0) Y77 (lam_le (lam_cons W77_6_ok lam_nil) n hn) hn r77_0_run⟩
def S77 : FS := ⟨[[.v, .v, .v, .v]], [⟨[.one (.agg [.int .i64, .int .i64, .int .i64, .int .i64])], []⟩], [⟨[.tup [.one (.imm 113), .one (.int .i64)]], []⟩], [[.s 113], [.v]], []⟩
noncomputable def f77 (x : Int × Int × Int × Int × Unit) : Option (List Pt × Int × Unit) :=
  bif !f95 x.fst x.snd.fst x.snd.snd.fst x.snd.snd.snd.fst then some ([], (1 : Int), ())
else
  (f96 (x.fst, x.snd.snd.fst, ())).bind fun y71 =>
    (f96 (x.snd.fst, x.snd.snd.snd.fst, ())).bind fun y70 =>
      bif
          decide
            (IntKind.i64.wrap
                (IntKind.i64.wrap (IntKind.i64.wrap (y71.snd.fst - y71.fst) + (1 : Int)) *
                  IntKind.i64.wrap (IntKind.i64.wrap (y70.snd.fst - y70.fst) + (1 : Int))) >
              (8192 : Int)) then
        some ([], (6 : Int), ())
      else
        (l77_0 (y71.fst, y71.snd.fst, y70.snd.fst, (0 : Nat), y70.fst, [], ())).bind fun y69 =>
          bif decide ((0 : Nat) + y69.fst ≤ y69.snd.fst.length) then
            some (List.take y69.fst (List.drop (0 : Nat) y69.snd.fst), (0 : Int), ())
          else none
noncomputable def F77 : CF tC := mkF tC S77 f77
theorem f77_run : ∀ a, fnS tC G77 (look [(0, W77_0)]) Tryz.f77 S77 a = f77 a := fun a => by kernel_rfl
theorem F77_ok : CFOK tC 77 F77 := mkF_ok Y77 (fn := Tryz.f77) (body := bodyOf Tryz.f77) (by kernel_rfl) (by kernel_rfl) (by kernel_rfl) (m := 0) rfl (lam_le (lam_cons W77_0_ok lam_nil)) f77_run

/-! plan.Around -/
noncomputable def G51 : FuncId → Option (CF tC) := look [(77, F77)]
theorem Y51 : SysN tC G51 := (sys_cons F77_ok (mkF_nat _ _) (sys_nil tC_ok tC_eq))
def S51 : FS := ⟨[[.v, .v]], [⟨[.one (.agg [.int .i64, .int .i64])], []⟩], [⟨[.one (.one (.imm 113))], []⟩], [[.s 113]], []⟩
noncomputable def f51 (x : Int × Int × Unit) : Option (List Pt × Unit) :=
  (f77 (x.fst, x.snd.fst, x.fst, x.snd.fst, ())).bind fun y6 => some (y6.fst, ())
noncomputable def F51 : CF tC := mkF tC S51 f51
theorem f51_run : ∀ a, fnS tC G51 (look []) Tryz.f51 S51 a = f51 a := fun a => by kernel_rfl
theorem F51_ok : CFOK tC 51 F51 := mkF_ok Y51 (fn := Tryz.f51) (body := bodyOf Tryz.f51) (by kernel_rfl) (by kernel_rfl) (by kernel_rfl) (m := 0) rfl (lam_le lam_nil) f51_run

/-! blocked$1 -/
noncomputable def G52 : FuncId → Option (CF tC) := look [(53, F53)]
theorem Y52 : SysN tC G52 := (sys_cons F53_ok (mkF_nat _ _) (sys_nil tC_ok tC_eq))
def S52 : FS := ⟨[[.v, .v], [.p]], [⟨[.one (.agg [.int .i64, .int .i64]), .one (.one (.ptr 0 0 0))], [.box [.int .i64, .int .i64, .imm 5]]⟩], [⟨[vO], [.box [.int .i64, .int .i64, .imm 5]]⟩], [[.v]], []⟩
noncomputable def f52 (x : Int × Int × Int × Int × List Int × Unit) : Option (Bool × Int × Int × List Int × Unit) :=
  (f53 (x.snd.snd.fst, x.snd.snd.snd.fst, x.snd.snd.snd.snd.fst, x.fst, x.snd.fst, ())).bind fun y11 =>
  some (y11.fst == (2 : Int), x.snd.snd.fst, x.snd.snd.snd.fst, x.snd.snd.snd.snd.fst, ())
noncomputable def F52 : CF tC := mkF tC S52 f52
theorem f52_run : ∀ a, fnS tC G52 (look []) Tryz.f52 S52 a = f52 a := fun a => by kernel_rfl
theorem F52_ok : CFOK tC 52 F52 := mkF_ok Y52 (fn := Tryz.f52) (body := bodyOf Tryz.f52) (by kernel_rfl) (by kernel_rfl) (by kernel_rfl) (m := 1) rfl (lam_le lam_nil) f52_run

/-! slices.IndexFunc[Cell] -/
noncomputable def G76 : FuncId → Option (CF tC) := look [(52, F52)]
theorem Y76 : SysN tC G76 := (sys_cons F52_ok (mkF_nat _ _) (sys_nil tC_ok tC_eq))
noncomputable def c76_0 : Code := loopOf (bodyOf Tryz.f76) 0
def p76_0 : LS := ⟨1, [0, 1, 7, 8], ⟨[.one (.one (.imm 113)), .one (.fn 52 [.ptr 0 0 0])] ++ vBs 5 ++ [vI, vI] ++ vBs 10, [.box [.int .i64, .int .i64, .imm 5]]⟩, [⟨.ret, [4], ⟨vBs 4 ++ [vI] ++ vBs 14, [.box [.int .i64, .int .i64, .imm 5]]⟩, []⟩, ⟨.exit 0, [], ⟨vBs 19, [.box [.int .i64, .int .i64, .imm 5]]⟩, []⟩], []⟩
noncomputable def r76_0 (x : List Pt × Int × Int × Int × Int × List Int × Unit) : Option (List Pt × Int × Int × Int × Int × List Int × Unit ⊕ Int × Int × Int × List Int × Unit ⊕ Int × Int × List Int × Unit) :=
  bif decide (x.snd.snd.fst < x.snd.fst) then
  (idxO x.fst x.snd.snd.fst).bind fun y24 =>
    (f52 (y24.X, y24.Y, x.snd.snd.snd.fst, x.snd.snd.snd.snd.fst, x.snd.snd.snd.snd.snd.fst, ())).bind fun y23 =>
      bif y23.fst then some (Sum.inr (Sum.inl (x.snd.snd.fst, y23.snd.fst, y23.snd.snd.fst, y23.snd.snd.snd.fst, ())))
      else
        some
          (Sum.inl (x.fst, x.snd.fst, IntKind.i64.wrap (x.snd.snd.fst + (1 : Int)), y23.snd.fst, y23.snd.snd.fst, y23.snd.snd.snd.fst, ()))
else some (Sum.inr (Sum.inr (x.snd.snd.snd.fst, x.snd.snd.snd.snd.fst, x.snd.snd.snd.snd.snd.fst, ())))
theorem r76_0_run0 (v0 : List Pt) (v1 : Int) (v2 : Int) (v3 : Int) (v4 : Int) (v5 : List Int) : roundK tC G76 (look []) c76_0 p76_0 (v0, v1, v2, v3, v4, v5, ()) = r76_0 (v0, v1, v2, v3, v4, v5, ()) := by kernel_rfl
theorem r76_0_run (x : List Pt × Int × Int × Int × Int × List Int × Unit) : roundK tC G76 (look []) c76_0 p76_0 x = r76_0 x := r76_0_run0 x.1 x.2.1 x.2.2.1 x.2.2.2.1 x.2.2.2.2.1 x.2.2.2.2.2.1
noncomputable def l76_0 (x : List Pt × Int × Int × Int × Int × List Int × Unit) : Option (Int × Int × Int × List Int × Unit ⊕ Int × Int × List Int × Unit) := iterO r76_0 x
noncomputable def W76_0 : LF tC := loopW tC p76_0 0 l76_0
theorem W76_0_ok : keyed 0 (bodyOf Tryz.f76) = [.block 0 (.loop c76_0)] ∧ ∀ n, n ≤ 1 → Snd tC n (.block 0 (.loop c76_0)) W76_0.k := ⟨by kernel_rfl, fun n hn => loopW_ok (p := p76_0) (id := 0) Y76 (lam_le lam_nil n hn) hn r76_0_run⟩
def S76 : FS := ⟨[[.s 113], [.f]], [⟨[.one (.one (.imm 113)), .one (.fn 52 [.ptr 0 0 0])], [.box [.int .i64, .int .i64, .imm 5]]⟩], [⟨[vI], [.box [.int .i64, .int .i64, .imm 5]]⟩], [[.v]], []⟩
noncomputable def f76 (x : List Pt × Int × Int × List Int × Unit) : Option (Int × Int × Int × List Int × Unit) :=
  (l76_0 (x.fst, (↑x.fst.length : Int), (0 : Int), x.snd.fst, x.snd.snd.fst, x.snd.snd.snd.fst, ())).bind fun y38 =>
  Sum.elim (fun y36 => some (y36.fst, y36.snd.fst, y36.snd.snd.fst, y36.snd.snd.snd.fst, ()))
    (fun y37 => some ((-1 : Int), y37.fst, y37.snd.fst, y37.snd.snd.fst, ())) y38
noncomputable def F76 : CF tC := mkF tC S76 f76
theorem f76_run : ∀ a, fnS tC G76 (look [(0, W76_0)]) Tryz.f76 S76 a = f76 a := fun a => by kernel_rfl
theorem F76_ok : CFOK tC 76 F76 := mkF_ok Y76 (fn := Tryz.f76) (body := bodyOf Tryz.f76) (by kernel_rfl) (by kernel_rfl) (by kernel_rfl) (m := 1) rfl (lam_le (lam_cons W76_0_ok lam_nil)) f76_run

/-! slices.ContainsFunc[Cell] -/
noncomputable def G50 : FuncId → Option (CF tC) := look [(76, F76), (52, F52)]
theorem Y50 : SysN tC G50 := (sys_cons F76_ok (mkF_nat _ _) (sys_cons F52_ok (mkF_nat _ _) (sys_nil tC_ok tC_eq)))
def S50 : FS := ⟨[[.s 113], [.f]], [⟨[.one (.one (.imm 113)), .one (.fn 52 [.ptr 0 0 0])], [.box [.int .i64, .int .i64, .imm 5]]⟩], [⟨[vO], [.box [.int .i64, .int .i64, .imm 5]]⟩], [[.v]], []⟩
noncomputable def f50 (x : List Pt × Int × Int × List Int × Unit) : Option (Bool × Int × Int × List Int × Unit) :=
  (f76 (x.fst, x.snd.fst, x.snd.snd.fst, x.snd.snd.snd.fst, ())).bind fun y13 =>
  some (decide (y13.fst ≥ (0 : Int)), y13.snd.fst, y13.snd.snd.fst, y13.snd.snd.snd.fst, ())
noncomputable def F50 : CF tC := mkF tC S50 f50
theorem f50_run : ∀ a, fnS tC G50 (look []) Tryz.f50 S50 a = f50 a := fun a => by kernel_rfl
theorem F50_ok : CFOK tC 50 F50 := mkF_ok Y50 (fn := Tryz.f50) (body := bodyOf Tryz.f50) (by kernel_rfl) (by kernel_rfl) (by kernel_rfl) (m := 1) rfl (lam_le lam_nil) f50_run

/-! particle.blocked -/
noncomputable def G24 : FuncId → Option (CF tC) := look [(51, F51), (52, F52), (50, F50)]
theorem Y24 : SysN tC G24 := (sys_cons F51_ok (mkF_nat _ _) (sys_cons F52_ok (mkF_nat _ _) (sys_cons F50_ok (mkF_nat _ _) (sys_nil tC_ok tC_eq))))
def S24 : FS := ⟨[[.v, .v, .s 5], [.v, .v]], [⟨[.one (.agg [.int .i64, .int .i64, .imm 5]), .one (.agg [.int .i64, .int .i64])], []⟩], [⟨[vO], []⟩], [[.v]], []⟩
noncomputable def f24 (x : Int × Int × List Int × Int × Int × Unit) : Option (Bool × Unit) :=
  bif decide (x.snd.snd.snd.fst < (0 : Int)) then some (true, ())
else
  bif decide (x.snd.snd.snd.snd.fst < (0 : Int)) then some (true, ())
  else
    bif decide (x.snd.snd.snd.fst > IntKind.i64.wrap (x.fst * (64 : Int))) then some (true, ())
    else
      bif decide (x.snd.snd.snd.snd.fst > IntKind.i64.wrap (x.snd.fst * (64 : Int))) then some (true, ())
      else
        (f51 (x.snd.snd.snd.fst, x.snd.snd.snd.snd.fst, ())).bind fun y13 =>
          (f50 (y13.fst, x.fst, x.snd.fst, x.snd.snd.fst, ())).bind fun y12 => some (y12.fst, ())
noncomputable def F24 : CF tC := mkF tC S24 f24
theorem f24_run : ∀ a, fnS tC G24 (look []) Tryz.f24 S24 a = f24 a := fun a => by kernel_rfl
theorem F24_ok : CFOK tC 24 F24 := mkF_ok Y24 (fn := Tryz.f24) (body := bodyOf Tryz.f24) (by kernel_rfl) (by kernel_rfl) (by kernel_rfl) (m := 0) rfl (lam_le lam_nil) f24_run

/-! ray.validBeam -/
noncomputable def G55 : FuncId → Option (CF tC) := look [(56, F56)]
theorem Y55 : SysN tC G55 := (sys_cons F56_ok (mkF_nat _ _) (sys_nil tC_ok tC_eq))
def S55 : FS := ⟨[[.v, .v]], [⟨[.one (.agg [.int .i64, .int .i64])], []⟩], [⟨[vO], []⟩], [[.v]], []⟩
def f55 (n1 : Int) (n2 : Int) : Bool :=
  bif f56 n1 (0 : Int) (255 : Int) then f56 n2 (-1 : Int) (1024 : Int) else false
noncomputable def F55 : CF tC := mkF tC S55 (fun a => some ((f55 a.1 a.2.1), ()))
def h55 (r : Bool) : Option (altTy tE S55.outs) := some (r, ())
theorem f55_run : ∀ a, fnS tC G55 (look []) Tryz.f55 S55 a = (fun a => some ((f55 a.1 a.2.1), ())) a := fun a => by
  have key : ∀ (n1 : Int) (n2 : Int), (bif f56 n1 (0 : Int) (255 : Int) then h55 (f56 n2 (-1 : Int) (1024 : Int)) else h55 false) = h55 (f55 n1 n2) := by
    intros
    unfold f55
    repeat' first | rfl | refine cond_h (g := h55) ?_ ?_
  exact Eq.trans (by kernel_rfl) (key a.1 a.2.1)
theorem F55_ok : CFOK tC 55 F55 := mkF_ok Y55 (fn := Tryz.f55) (body := bodyOf Tryz.f55) (by kernel_rfl) (by kernel_rfl) (by kernel_rfl) (m := 0) rfl (lam_le lam_nil) f55_run

/-! ray.Plausible -/
noncomputable def G25 : FuncId → Option (CF tC) := look [(54, F54), (55, F55), (56, F56), (57, F57)]
theorem Y25 : SysN tC G25 := (sys_cons F54_ok (mkF_nat _ _) (sys_cons F55_ok (mkF_nat _ _) (sys_cons F56_ok (mkF_nat _ _) (sys_cons F57_ok (mkF_nat _ _) (sys_nil tC_ok tC_eq)))))
def S25 : FS := ⟨[[.v, .v, .s 5], [.v, .v, .v], [.v, .v], [.v]], [⟨[.one (.agg [.int .i64, .int .i64, .imm 5]), .one (.agg [.int .i64, .int .i64, .int .i64]), .one (.agg [.int .i64, .int .i64]), vI], []⟩], [⟨[vO], []⟩], [[.v]], []⟩
noncomputable def f25 (x : Int × Int × List Int × Int × Int × Int × Int × Int × Int × Unit) : Option (Bool × Unit) :=
  (f54 (x.fst, x.snd.fst, x.snd.snd.fst, x.snd.snd.snd.fst, x.snd.snd.snd.snd.fst, x.snd.snd.snd.snd.snd.fst, ())).bind fun y20 =>
  bif !y20.fst then some (false, ())
  else
    bif !f55 x.snd.snd.snd.snd.snd.snd.fst x.snd.snd.snd.snd.snd.snd.snd.fst then some (false, ())
    else
      bif !f56 x.snd.snd.snd.snd.snd.snd.snd.snd.fst (1 : Int) (32 : Int) then some (false, ())
      else
        bif x.snd.snd.snd.snd.snd.snd.snd.fst == (-1 : Int) then
          (f57
                (x.fst, x.snd.fst, x.snd.snd.fst, x.snd.snd.snd.fst, x.snd.snd.snd.snd.fst, x.snd.snd.snd.snd.snd.fst,
                  x.snd.snd.snd.snd.snd.snd.fst, IntKind.i64.wrap ((1024 : Int) - x.snd.snd.snd.snd.snd.snd.snd.snd.fst), ())).bind
            fun y18 => some (!y18.snd.snd.fst, ())
        else
          (f57
                (x.fst, x.snd.fst, x.snd.snd.fst, x.snd.snd.snd.fst, x.snd.snd.snd.snd.fst, x.snd.snd.snd.snd.snd.fst,
                  x.snd.snd.snd.snd.snd.snd.fst,
                  IntKind.i64.wrap (x.snd.snd.snd.snd.snd.snd.snd.fst + x.snd.snd.snd.snd.snd.snd.snd.snd.fst), ())).bind
            fun y19 =>
            bif y19.snd.snd.fst then
              some
                (decide
                    (y19.fst ≥
                      IntKind.i64.wrap
                        (IntKind.i64.wrap (x.snd.snd.snd.snd.snd.snd.snd.fst - x.snd.snd.snd.snd.snd.snd.snd.snd.fst) * y19.snd.fst)),
                  ())
            else some (false, ())
noncomputable def F25 : CF tC := mkF tC S25 f25
theorem f25_run : ∀ a, fnS tC G25 (look []) Tryz.f25 S25 a = f25 a := fun a => by kernel_rfl
theorem F25_ok : CFOK tC 25 F25 := mkF_ok Y25 (fn := Tryz.f25) (body := bodyOf Tryz.f25) (by kernel_rfl) (by kernel_rfl) (by kernel_rfl) (m := 0) rfl (lam_le lam_nil) f25_run

/-! particle.Weigh -/
noncomputable def G9 : FuncId → Option (CF tC) := look [(16, F16), (22, F22), (23, F23), (19, F19), (24, F24), (25, F25)]
theorem Y9 : SysN tC G9 := (sys_cons F16_ok (mkF_nat _ _) (sys_cons F22_ok (mkF_nat _ _) (sys_cons F23_ok (mkF_nat _ _) (sys_cons F19_ok (mkF_nat _ _) (sys_cons F24_ok (mkF_nat _ _) (sys_cons F25_ok (mkF_nat _ _) (sys_nil tC_ok tC_eq)))))))
noncomputable def c9_46 : Code := subCode (loopOf (loopOf (bodyOf Tryz.f9) 0) 2) 46
def p9_46 : PS := ⟨0, [2, 3, 5, 10, 11, 12, 13, 39, 40, 41, 59, 60, 61], ⟨[vB, vB, .one (.one (.imm 85)), vI, vB, .one (.one (.ptr 0 0 0))] ++ vBs 4 ++ [.one (.one (.sl 1)), vI, .one (.one (.ptr 2 0 0)), vI] ++ vBs 25 ++ [.one (.one (.sl 1)), vI, vI] ++ vBs 17 ++ [.one (.one (.imm 85)), vI, vI] ++ vBs 21, [.box [.int .i64, .int .i64, .imm 5], .arr 42, .box [.int .i64, .int .i64, .int .i64, .int .i64]]⟩, [⟨.normal, [2, 3, 5, 10, 11, 12, 13, 39, 40, 41, 59, 60, 61], ⟨[vB, vB, .one (.one (.imm 85)), vI, vB, .one (.one (.ptr 0 0 0))] ++ vBs 4 ++ [.one (.one (.sl 1)), vI, .one (.one (.ptr 2 0 0)), vI] ++ vBs 25 ++ [.one (.one (.sl 1)), vI, vI] ++ vBs 17 ++ [.one (.one (.imm 85)), vI, vI] ++ vBs 21, [.box [.int .i64, .int .i64, .imm 5], .arr 42, .box [.int .i64, .int .i64, .int .i64, .int .i64]]⟩, []⟩], []⟩
noncomputable def j9_46 (x : List Bm × Int × Nat × Int × Int × Nat × Int × Int × List Bm × Int × Int × Int × Int × List Int × List Pa × Int × Int × Int × Int × Unit) : Option
  (List Bm × Int × Nat × Int × Int × Nat × Int × Int × List Bm × Int × Int × Int × Int × List Int × List Pa × Int × Int × Int × Int × Unit) :=
  some
  (x.fst, x.snd.fst, x.snd.snd.fst, x.snd.snd.snd.fst, x.snd.snd.snd.snd.fst, x.snd.snd.snd.snd.snd.fst, x.snd.snd.snd.snd.snd.snd.fst,
    x.snd.snd.snd.snd.snd.snd.snd.fst, x.snd.snd.snd.snd.snd.snd.snd.snd.fst, x.snd.snd.snd.snd.snd.snd.snd.snd.snd.fst,
    IntKind.i64.wrap (x.snd.snd.snd.snd.snd.snd.snd.snd.snd.snd.fst + (1 : Int)), x.snd.snd.snd.snd.snd.snd.snd.snd.snd.snd.snd.fst,
    x.snd.snd.snd.snd.snd.snd.snd.snd.snd.snd.snd.snd.fst, x.snd.snd.snd.snd.snd.snd.snd.snd.snd.snd.snd.snd.snd.fst,
    x.snd.snd.snd.snd.snd.snd.snd.snd.snd.snd.snd.snd.snd.snd.fst, x.snd.snd.snd.snd.snd.snd.snd.snd.snd.snd.snd.snd.snd.snd.snd.fst,
    x.snd.snd.snd.snd.snd.snd.snd.snd.snd.snd.snd.snd.snd.snd.snd.snd.fst,
    x.snd.snd.snd.snd.snd.snd.snd.snd.snd.snd.snd.snd.snd.snd.snd.snd.snd.fst,
    x.snd.snd.snd.snd.snd.snd.snd.snd.snd.snd.snd.snd.snd.snd.snd.snd.snd.snd.fst, ())
theorem j9_46_run0 (v0 : List Bm) (v1 : Int) (v2 : Nat) (v3 : Int) (v4 : Int) (v5 : Nat) (v6 : Int) (v7 : Int) (v8 : List Bm) (v9 : Int) (v10 : Int) (v11 : Int) (v12 : Int) (v13 : List Int) (v14 : List Pa) (v15 : Int) (v16 : Int) (v17 : Int) (v18 : Int) : pieceK tC G9 (look []) c9_46 p9_46 (v0, v1, v2, v3, v4, v5, v6, v7, v8, v9, v10, v11, v12, v13, v14, v15, v16, v17, v18, ()) = j9_46 (v0, v1, v2, v3, v4, v5, v6, v7, v8, v9, v10, v11, v12, v13, v14, v15, v16, v17, v18, ()) := by kernel_rfl
theorem j9_46_run (x : List Bm × Int × Nat × Int × Int × Nat × Int × Int × List Bm × Int × Int × Int × Int × List Int × List Pa × Int × Int × Int × Int × Unit) : pieceK tC G9 (look []) c9_46 p9_46 x = j9_46 x := j9_46_run0 x.1 x.2.1 x.2.2.1 x.2.2.2.1 x.2.2.2.2.1 x.2.2.2.2.2.1 x.2.2.2.2.2.2.1 x.2.2.2.2.2.2.2.1 x.2.2.2.2.2.2.2.2.1 x.2.2.2.2.2.2.2.2.2.1 x.2.2.2.2.2.2.2.2.2.2.1 x.2.2.2.2.2.2.2.2.2.2.2.1 x.2.2.2.2.2.2.2.2.2.2.2.2.1 x.2.2.2.2.2.2.2.2.2.2.2.2.2.1 x.2.2.2.2.2.2.2.2.2.2.2.2.2.2.1 x.2.2.2.2.2.2.2.2.2.2.2.2.2.2.2.1 x.2.2.2.2.2.2.2.2.2.2.2.2.2.2.2.2.1 x.2.2.2.2.2.2.2.2.2.2.2.2.2.2.2.2.2.1 x.2.2.2.2.2.2.2.2.2.2.2.2.2.2.2.2.2.2.1
noncomputable def W9_46 : LF tC := cutLF tC p9_46 j9_46
theorem W9_46_ok : keyed 46 (loopOf (loopOf (bodyOf Tryz.f9) 0) 2) = [c9_46] ∧ ∀ n, n ≤ 0 → Snd tC n c9_46 W9_46.k := ⟨by kernel_rfl, fun n hn => cut_ok (p := p9_46) Y9 (lam_le lam_nil n hn) hn j9_46_run⟩
noncomputable def c9_6 : Code := loopOf (loopOf (bodyOf Tryz.f9) 0) 2
def p9_6 : LS := ⟨0, [2, 3, 5, 10, 11, 12, 13, 39, 40, 41, 59, 60, 61], ⟨[vB, vB, .one (.one (.imm 85)), vI, vB, .one (.one (.ptr 0 0 0))] ++ vBs 4 ++ [.one (.one (.sl 1)), vI, .one (.one (.ptr 2 0 0)), vI] ++ vBs 25 ++ [.one (.one (.sl 1)), vI, vI] ++ vBs 17 ++ [.one (.one (.imm 85)), vI, vI] ++ vBs 21, [.box [.int .i64, .int .i64, .imm 5], .arr 42, .box [.int .i64, .int .i64, .int .i64, .int .i64]]⟩, [⟨.exit 2, [2, 3, 5, 10, 11, 13, 39, 40, 41], ⟨[vB, vB, .one (.one (.imm 85)), vI, vB, .one (.one (.ptr 0 0 0))] ++ vBs 4 ++ [.one (.one (.sl 1)), vI, vB, vI] ++ vBs 25 ++ [.one (.one (.sl 1)), vI, vI] ++ vBs 41, [.box [.int .i64, .int .i64, .imm 5], .arr 42]⟩, []⟩], []⟩
noncomputable def r9_6 (x : List Bm × Int × Nat × Int × Int × Nat × Int × Int × List Bm × Int × Int × Int × Int × List Int × List Pa × Int × Int × Int × Int × Unit) : Option
  (List Bm × Int × Nat × Int × Int × Nat × Int × Int × List Bm × Int × Int × Int × Int × List Int × List Pa × Int × Int × Int × Int × Unit ⊕
    List Bm × Int × Nat × Int × Int × Nat × Int × Int × Int × Int × List Int × List Pa × Unit) :=
  bif decide (x.snd.snd.snd.snd.snd.snd.snd.snd.snd.snd.fst < x.snd.snd.snd.snd.snd.snd.snd.snd.snd.fst) then
  (idxO x.snd.snd.snd.snd.snd.snd.snd.snd.fst x.snd.snd.snd.snd.snd.snd.snd.snd.snd.snd.fst).bind fun y137 =>
    (f25
          (x.snd.snd.snd.snd.snd.snd.snd.snd.snd.snd.snd.fst, x.snd.snd.snd.snd.snd.snd.snd.snd.snd.snd.snd.snd.fst,
            x.snd.snd.snd.snd.snd.snd.snd.snd.snd.snd.snd.snd.snd.fst, x.snd.snd.snd.snd.snd.snd.snd.snd.snd.snd.snd.snd.snd.snd.snd.fst,
            x.snd.snd.snd.snd.snd.snd.snd.snd.snd.snd.snd.snd.snd.snd.snd.snd.fst,
            x.snd.snd.snd.snd.snd.snd.snd.snd.snd.snd.snd.snd.snd.snd.snd.snd.snd.fst, y137.M, y137.R, x.snd.fst, ())).bind
      fun y136 =>
      bif y136.fst then
        (j9_46
              (x.fst, x.snd.fst, x.snd.snd.fst, x.snd.snd.snd.fst, IntKind.i64.wrap (x.snd.snd.snd.snd.fst + (1 : Int)),
                x.snd.snd.snd.snd.snd.fst, x.snd.snd.snd.snd.snd.snd.fst, x.snd.snd.snd.snd.snd.snd.snd.fst,
                x.snd.snd.snd.snd.snd.snd.snd.snd.fst, x.snd.snd.snd.snd.snd.snd.snd.snd.snd.fst,
                x.snd.snd.snd.snd.snd.snd.snd.snd.snd.snd.fst, x.snd.snd.snd.snd.snd.snd.snd.snd.snd.snd.snd.fst,
                x.snd.snd.snd.snd.snd.snd.snd.snd.snd.snd.snd.snd.fst, x.snd.snd.snd.snd.snd.snd.snd.snd.snd.snd.snd.snd.snd.fst,
                x.snd.snd.snd.snd.snd.snd.snd.snd.snd.snd.snd.snd.snd.snd.fst,
                x.snd.snd.snd.snd.snd.snd.snd.snd.snd.snd.snd.snd.snd.snd.snd.fst,
                x.snd.snd.snd.snd.snd.snd.snd.snd.snd.snd.snd.snd.snd.snd.snd.snd.fst,
                x.snd.snd.snd.snd.snd.snd.snd.snd.snd.snd.snd.snd.snd.snd.snd.snd.snd.fst,
                x.snd.snd.snd.snd.snd.snd.snd.snd.snd.snd.snd.snd.snd.snd.snd.snd.snd.snd.fst, ())).bind
          fun y134 =>
          some
            (Sum.inl
              (y134.fst, y134.snd.fst, y134.snd.snd.fst, y134.snd.snd.snd.fst, y134.snd.snd.snd.snd.fst, y134.snd.snd.snd.snd.snd.fst,
                y134.snd.snd.snd.snd.snd.snd.fst, y134.snd.snd.snd.snd.snd.snd.snd.fst, y134.snd.snd.snd.snd.snd.snd.snd.snd.fst,
                y134.snd.snd.snd.snd.snd.snd.snd.snd.snd.fst, y134.snd.snd.snd.snd.snd.snd.snd.snd.snd.snd.fst,
                y134.snd.snd.snd.snd.snd.snd.snd.snd.snd.snd.snd.fst, y134.snd.snd.snd.snd.snd.snd.snd.snd.snd.snd.snd.snd.fst,
                y134.snd.snd.snd.snd.snd.snd.snd.snd.snd.snd.snd.snd.snd.fst,
                y134.snd.snd.snd.snd.snd.snd.snd.snd.snd.snd.snd.snd.snd.snd.fst,
                y134.snd.snd.snd.snd.snd.snd.snd.snd.snd.snd.snd.snd.snd.snd.snd.fst,
                y134.snd.snd.snd.snd.snd.snd.snd.snd.snd.snd.snd.snd.snd.snd.snd.snd.fst,
                y134.snd.snd.snd.snd.snd.snd.snd.snd.snd.snd.snd.snd.snd.snd.snd.snd.snd.fst,
                y134.snd.snd.snd.snd.snd.snd.snd.snd.snd.snd.snd.snd.snd.snd.snd.snd.snd.snd.fst, ()))
      else
        (j9_46
              (x.fst, x.snd.fst, x.snd.snd.fst, x.snd.snd.snd.fst, x.snd.snd.snd.snd.fst, x.snd.snd.snd.snd.snd.fst,
                x.snd.snd.snd.snd.snd.snd.fst, x.snd.snd.snd.snd.snd.snd.snd.fst, x.snd.snd.snd.snd.snd.snd.snd.snd.fst,
                x.snd.snd.snd.snd.snd.snd.snd.snd.snd.fst, x.snd.snd.snd.snd.snd.snd.snd.snd.snd.snd.fst,
                x.snd.snd.snd.snd.snd.snd.snd.snd.snd.snd.snd.fst, x.snd.snd.snd.snd.snd.snd.snd.snd.snd.snd.snd.snd.fst,
                x.snd.snd.snd.snd.snd.snd.snd.snd.snd.snd.snd.snd.snd.fst, x.snd.snd.snd.snd.snd.snd.snd.snd.snd.snd.snd.snd.snd.snd.fst,
                x.snd.snd.snd.snd.snd.snd.snd.snd.snd.snd.snd.snd.snd.snd.snd.fst,
                x.snd.snd.snd.snd.snd.snd.snd.snd.snd.snd.snd.snd.snd.snd.snd.snd.fst,
                x.snd.snd.snd.snd.snd.snd.snd.snd.snd.snd.snd.snd.snd.snd.snd.snd.snd.fst,
                x.snd.snd.snd.snd.snd.snd.snd.snd.snd.snd.snd.snd.snd.snd.snd.snd.snd.snd.fst, ())).bind
          fun y135 =>
          some
            (Sum.inl
              (y135.fst, y135.snd.fst, y135.snd.snd.fst, y135.snd.snd.snd.fst, y135.snd.snd.snd.snd.fst, y135.snd.snd.snd.snd.snd.fst,
                y135.snd.snd.snd.snd.snd.snd.fst, y135.snd.snd.snd.snd.snd.snd.snd.fst, y135.snd.snd.snd.snd.snd.snd.snd.snd.fst,
                y135.snd.snd.snd.snd.snd.snd.snd.snd.snd.fst, y135.snd.snd.snd.snd.snd.snd.snd.snd.snd.snd.fst,
                y135.snd.snd.snd.snd.snd.snd.snd.snd.snd.snd.snd.fst, y135.snd.snd.snd.snd.snd.snd.snd.snd.snd.snd.snd.snd.fst,
                y135.snd.snd.snd.snd.snd.snd.snd.snd.snd.snd.snd.snd.snd.fst,
                y135.snd.snd.snd.snd.snd.snd.snd.snd.snd.snd.snd.snd.snd.snd.fst,
                y135.snd.snd.snd.snd.snd.snd.snd.snd.snd.snd.snd.snd.snd.snd.snd.fst,
                y135.snd.snd.snd.snd.snd.snd.snd.snd.snd.snd.snd.snd.snd.snd.snd.snd.fst,
                y135.snd.snd.snd.snd.snd.snd.snd.snd.snd.snd.snd.snd.snd.snd.snd.snd.snd.fst,
                y135.snd.snd.snd.snd.snd.snd.snd.snd.snd.snd.snd.snd.snd.snd.snd.snd.snd.snd.fst, ()))
else
  some
    (Sum.inr
      (x.fst, x.snd.fst, x.snd.snd.fst, x.snd.snd.snd.fst, x.snd.snd.snd.snd.fst, x.snd.snd.snd.snd.snd.fst, x.snd.snd.snd.snd.snd.snd.fst,
        x.snd.snd.snd.snd.snd.snd.snd.fst, x.snd.snd.snd.snd.snd.snd.snd.snd.snd.snd.snd.fst,
        x.snd.snd.snd.snd.snd.snd.snd.snd.snd.snd.snd.snd.fst, x.snd.snd.snd.snd.snd.snd.snd.snd.snd.snd.snd.snd.snd.fst,
        x.snd.snd.snd.snd.snd.snd.snd.snd.snd.snd.snd.snd.snd.snd.fst, ()))
theorem r9_6_run0 (v0 : List Bm) (v1 : Int) (v2 : Nat) (v3 : Int) (v4 : Int) (v5 : Nat) (v6 : Int) (v7 : Int) (v8 : List Bm) (v9 : Int) (v10 : Int) (v11 : Int) (v12 : Int) (v13 : List Int) (v14 : List Pa) (v15 : Int) (v16 : Int) (v17 : Int) (v18 : Int) : roundK tC G9 (look [(46, W9_46)]) c9_6 p9_6 (v0, v1, v2, v3, v4, v5, v6, v7, v8, v9, v10, v11, v12, v13, v14, v15, v16, v17, v18, ()) = r9_6 (v0, v1, v2, v3, v4, v5, v6, v7, v8, v9, v10, v11, v12, v13, v14, v15, v16, v17, v18, ()) := by kernel_rfl
theorem r9_6_run (x : List Bm × Int × Nat × Int × Int × Nat × Int × Int × List Bm × Int × Int × Int × Int × List Int × List Pa × Int × Int × Int × Int × Unit) : roundK tC G9 (look [(46, W9_46)]) c9_6 p9_6 x = r9_6 x := r9_6_run0 x.1 x.2.1 x.2.2.1 x.2.2.2.1 x.2.2.2.2.1 x.2.2.2.2.2.1 x.2.2.2.2.2.2.1 x.2.2.2.2.2.2.2.1 x.2.2.2.2.2.2.2.2.1 x.2.2.2.2.2.2.2.2.2.1 x.2.2.2.2.2.2.2.2.2.2.1 x.2.2.2.2.2.2.2.2.2.2.2.1 x.2.2.2.2.2.2.2.2.2.2.2.2.1 x.2.2.2.2.2.2.2.2.2.2.2.2.2.1 x.2.2.2.2.2.2.2.2.2.2.2.2.2.2.1 x.2.2.2.2.2.2.2.2.2.2.2.2.2.2.2.1 x.2.2.2.2.2.2.2.2.2.2.2.2.2.2.2.2.1 x.2.2.2.2.2.2.2.2.2.2.2.2.2.2.2.2.2.1 x.2.2.2.2.2.2.2.2.2.2.2.2.2.2.2.2.2.2.1
noncomputable def l9_6 (x : List Bm × Int × Nat × Int × Int × Nat × Int × Int × List Bm × Int × Int × Int × Int × List Int × List Pa × Int × Int × Int × Int × Unit) : Option (List Bm × Int × Nat × Int × Int × Nat × Int × Int × Int × Int × List Int × List Pa × Unit) := iterO r9_6 x
noncomputable def W9_6 : LF tC := loopW tC p9_6 2 l9_6
theorem W9_6_ok : keyed 6 (loopOf (bodyOf Tryz.f9) 0) = [.block 2 (.loop c9_6)] ∧ ∀ n, n ≤ 0 → Snd tC n (.block 2 (.loop c9_6)) W9_6.k := ⟨by kernel_rfl, fun n hn => loopW_ok (p := p9_6) (id := 2) Y9 (lam_le (lam_cons W9_46_ok lam_nil) n hn) hn r9_6_run⟩
noncomputable def c9_52 : Code := subCode (loopOf (bodyOf Tryz.f9) 0) 52
def p9_52 : PS := ⟨0, [2, 3, 5, 10, 39, 40, 41], ⟨[vB, vB, .one (.one (.imm 85)), vI, vB, .one (.one (.ptr 0 0 0))] ++ vBs 4 ++ [.one (.one (.sl 1))] ++ vBs 28 ++ [.one (.one (.sl 1)), vI, vI] ++ vBs 41, [.box [.int .i64, .int .i64, .imm 5], .arr 42]⟩, [⟨.normal, [2, 3, 5, 10, 39, 40, 41], ⟨[vB, vB, .one (.one (.imm 85)), vI, vB, .one (.one (.ptr 0 0 0))] ++ vBs 4 ++ [.one (.one (.sl 1))] ++ vBs 28 ++ [.one (.one (.sl 1)), vI, vI] ++ vBs 41, [.box [.int .i64, .int .i64, .imm 5], .arr 42]⟩, []⟩], []⟩
noncomputable def j9_52 (x : List Bm × Int × Nat × Nat × Int × Int × Int × Int × List Int × List Pa × Unit) : Option (List Bm × Int × Nat × Nat × Int × Int × Int × Int × List Int × List Pa × Unit) :=
  some
  (x.fst, x.snd.fst, x.snd.snd.fst, x.snd.snd.snd.fst, x.snd.snd.snd.snd.fst, IntKind.i64.wrap (x.snd.snd.snd.snd.snd.fst + (1 : Int)),
    x.snd.snd.snd.snd.snd.snd.fst, x.snd.snd.snd.snd.snd.snd.snd.fst, x.snd.snd.snd.snd.snd.snd.snd.snd.fst,
    x.snd.snd.snd.snd.snd.snd.snd.snd.snd.fst, ())
theorem j9_52_run0 (v0 : List Bm) (v1 : Int) (v2 : Nat) (v3 : Nat) (v4 : Int) (v5 : Int) (v6 : Int) (v7 : Int) (v8 : List Int) (v9 : List Pa) : pieceK tC G9 (look []) c9_52 p9_52 (v0, v1, v2, v3, v4, v5, v6, v7, v8, v9, ()) = j9_52 (v0, v1, v2, v3, v4, v5, v6, v7, v8, v9, ()) := by kernel_rfl
theorem j9_52_run (x : List Bm × Int × Nat × Nat × Int × Int × Int × Int × List Int × List Pa × Unit) : pieceK tC G9 (look []) c9_52 p9_52 x = j9_52 x := j9_52_run0 x.1 x.2.1 x.2.2.1 x.2.2.2.1 x.2.2.2.2.1 x.2.2.2.2.2.1 x.2.2.2.2.2.2.1 x.2.2.2.2.2.2.2.1 x.2.2.2.2.2.2.2.2.1 x.2.2.2.2.2.2.2.2.2.1
noncomputable def W9_52 : LF tC := cutLF tC p9_52 j9_52
theorem W9_52_ok : keyed 52 (loopOf (bodyOf Tryz.f9) 0) = [c9_52] ∧ ∀ n, n ≤ 0 → Snd tC n c9_52 W9_52.k := ⟨by kernel_rfl, fun n hn => cut_ok (p := p9_52) Y9 (lam_le lam_nil n hn) hn j9_52_run⟩
noncomputable def c9_0 : Code := loopOf (bodyOf Tryz.f9) 0
def p9_0 : LS := ⟨0, [2, 3, 5, 10, 39, 40, 41], ⟨[vB, vB, .one (.one (.imm 85)), vI, vB, .one (.one (.ptr 0 0 0))] ++ vBs 4 ++ [.one (.one (.sl 1))] ++ vBs 28 ++ [.one (.one (.sl 1)), vI, vI] ++ vBs 41, [.box [.int .i64, .int .i64, .imm 5], .arr 42]⟩, [⟨.exit 0, [10], ⟨vBs 10 ++ [.one (.one (.sl 0))] ++ vBs 72, [.arr 42]⟩, []⟩], []⟩
noncomputable def r9_0 (x : List Bm × Int × Nat × Nat × Int × Int × Int × Int × List Int × List Pa × Unit) : Option (List Bm × Int × Nat × Nat × Int × Int × Int × Int × List Int × List Pa × Unit ⊕ Nat × List Pa × Unit) :=
  bif decide (x.snd.snd.snd.snd.snd.fst < x.snd.snd.snd.snd.fst) then
  bif decide ((0 : Int) ≤ x.snd.snd.snd.snd.snd.fst) && decide (x.snd.snd.snd.snd.snd.fst < (↑x.snd.snd.snd.fst : Int)) then
    x.snd.snd.snd.snd.snd.snd.snd.snd.snd.fst[(0 : Nat) + x.snd.snd.snd.snd.snd.fst.toNat]?.bind fun y199 =>
      bif decide ((0 : Int) ≤ x.snd.snd.snd.snd.snd.fst) && decide (x.snd.snd.snd.snd.snd.fst < (↑x.snd.snd.fst : Int)) then
        x.snd.snd.snd.snd.snd.snd.snd.snd.snd.fst[(0 : Nat) + x.snd.snd.snd.snd.snd.fst.toNat]?.bind fun y198 =>
          (f24
                (x.snd.snd.snd.snd.snd.snd.fst, x.snd.snd.snd.snd.snd.snd.snd.fst, x.snd.snd.snd.snd.snd.snd.snd.snd.fst, y199.X, y199.Y,
                  ())).bind
            fun y197 =>
            bif y197.fst then
              (j9_52
                    (x.fst, x.snd.fst, x.snd.snd.fst, x.snd.snd.snd.fst, x.snd.snd.snd.snd.fst, x.snd.snd.snd.snd.snd.fst,
                      x.snd.snd.snd.snd.snd.snd.fst, x.snd.snd.snd.snd.snd.snd.snd.fst, x.snd.snd.snd.snd.snd.snd.snd.snd.fst,
                      x.snd.snd.snd.snd.snd.snd.snd.snd.snd.fst.set ((0 : Nat) + x.snd.snd.snd.snd.snd.fst.toNat)
                        (Pa.mk y198.X y198.Y y198.H (0 : Int)),
                      ())).bind
                fun y193 =>
                some
                  (Sum.inl
                    (y193.fst, y193.snd.fst, y193.snd.snd.fst, y193.snd.snd.snd.fst, y193.snd.snd.snd.snd.fst, y193.snd.snd.snd.snd.snd.fst,
                      y193.snd.snd.snd.snd.snd.snd.fst, y193.snd.snd.snd.snd.snd.snd.snd.fst, y193.snd.snd.snd.snd.snd.snd.snd.snd.fst,
                      y193.snd.snd.snd.snd.snd.snd.snd.snd.snd.fst, ()))
            else
              (l9_6
                    (x.fst, x.snd.fst, x.snd.snd.fst, x.snd.snd.snd.snd.snd.fst, (1 : Int), x.snd.snd.snd.fst, x.snd.snd.snd.snd.fst,
                      x.snd.snd.snd.snd.snd.fst, x.fst, (↑x.fst.length : Int), (0 : Int), x.snd.snd.snd.snd.snd.snd.fst,
                      x.snd.snd.snd.snd.snd.snd.snd.fst, x.snd.snd.snd.snd.snd.snd.snd.snd.fst,
                      x.snd.snd.snd.snd.snd.snd.snd.snd.snd.fst.set ((0 : Nat) + x.snd.snd.snd.snd.snd.fst.toNat)
                        (Pa.mk y198.X y198.Y y198.H (0 : Int)),
                      y199.X, y199.Y, y199.H, y199.W, ())).bind
                fun y196 =>
                bif decide ((0 : Int) ≤ y196.snd.snd.snd.fst) && decide (y196.snd.snd.snd.fst < (↑y196.snd.snd.fst : Int)) then
                  y196.snd.snd.snd.snd.snd.snd.snd.snd.snd.snd.snd.fst[(0 : Nat) + y196.snd.snd.snd.fst.toNat]?.bind fun y195 =>
                    (j9_52
                          (y196.fst, y196.snd.fst, y196.snd.snd.fst, y196.snd.snd.snd.snd.snd.fst, y196.snd.snd.snd.snd.snd.snd.fst,
                            y196.snd.snd.snd.snd.snd.snd.snd.fst, y196.snd.snd.snd.snd.snd.snd.snd.snd.fst,
                            y196.snd.snd.snd.snd.snd.snd.snd.snd.snd.fst, y196.snd.snd.snd.snd.snd.snd.snd.snd.snd.snd.fst,
                            y196.snd.snd.snd.snd.snd.snd.snd.snd.snd.snd.snd.fst.set ((0 : Nat) + y196.snd.snd.snd.fst.toNat)
                              (Pa.mk y195.X y195.Y y195.H (IntKind.i64.wrap (y196.snd.snd.snd.snd.fst * y196.snd.snd.snd.snd.fst))),
                            ())).bind
                      fun y194 =>
                      some
                        (Sum.inl
                          (y194.fst, y194.snd.fst, y194.snd.snd.fst, y194.snd.snd.snd.fst, y194.snd.snd.snd.snd.fst,
                            y194.snd.snd.snd.snd.snd.fst, y194.snd.snd.snd.snd.snd.snd.fst, y194.snd.snd.snd.snd.snd.snd.snd.fst,
                            y194.snd.snd.snd.snd.snd.snd.snd.snd.fst, y194.snd.snd.snd.snd.snd.snd.snd.snd.snd.fst, ()))
                else none
      else none
  else none
else some (Sum.inr (x.snd.snd.fst, x.snd.snd.snd.snd.snd.snd.snd.snd.snd.fst, ()))
theorem r9_0_run0 (v0 : List Bm) (v1 : Int) (v2 : Nat) (v3 : Nat) (v4 : Int) (v5 : Int) (v6 : Int) (v7 : Int) (v8 : List Int) (v9 : List Pa) : roundK tC G9 (look [(6, W9_6), (52, W9_52)]) c9_0 p9_0 (v0, v1, v2, v3, v4, v5, v6, v7, v8, v9, ()) = r9_0 (v0, v1, v2, v3, v4, v5, v6, v7, v8, v9, ()) := by kernel_rfl
theorem r9_0_run (x : List Bm × Int × Nat × Nat × Int × Int × Int × Int × List Int × List Pa × Unit) : roundK tC G9 (look [(6, W9_6), (52, W9_52)]) c9_0 p9_0 x = r9_0 x := r9_0_run0 x.1 x.2.1 x.2.2.1 x.2.2.2.1 x.2.2.2.2.1 x.2.2.2.2.2.1 x.2.2.2.2.2.2.1 x.2.2.2.2.2.2.2.1 x.2.2.2.2.2.2.2.2.1 x.2.2.2.2.2.2.2.2.2.1
noncomputable def l9_0 (x : List Bm × Int × Nat × Nat × Int × Int × Int × Int × List Int × List Pa × Unit) : Option (Nat × List Pa × Unit) := iterO r9_0 x
noncomputable def W9_0 : LF tC := loopW tC p9_0 0 l9_0
theorem W9_0_ok : keyed 0 (bodyOf Tryz.f9) = [.block 0 (.loop c9_0)] ∧ ∀ n, n ≤ 0 → Snd tC n (.block 0 (.loop c9_0)) W9_0.k := ⟨by kernel_rfl, fun n hn => loopW_ok (p := p9_0) (id := 0) Y9 (lam_le (lam_cons W9_6_ok (lam_cons W9_52_ok lam_nil)) n hn) hn r9_0_run⟩
def S9 : FS := ⟨[[.s 42], [.v, .v, .s 5], [.s 85], [.v]], [⟨[.one (.one (.imm 42)), .one (.agg [.int .i64, .int .i64, .imm 5]), .one (.one (.imm 85)), vI], []⟩], [⟨[.tup [.one (.sl 0), .one (.int .i64)]], [.arr 42]⟩], [[.v], [.v]], [(8, 42)]⟩
noncomputable def f9 (x : List Pa × Int × Int × List Int × List Bm × Int × Unit) : Option (Nat × Int × List Pa × Unit) :=
  (f16 (x.fst, ())).bind fun y209 =>
  bif !y209.fst then some ((0 : Nat), (1 : Int), [], ())
  else
    (f22 (x.snd.fst, x.snd.snd.fst, x.snd.snd.snd.fst, ())).bind fun y208 =>
      bif !y208.fst then some ((0 : Nat), (1 : Int), [], ())
      else
        (f23 (x.snd.snd.snd.snd.fst, ())).bind fun y207 =>
          bif !y207.fst then some ((0 : Nat), (1 : Int), [], ())
          else
            bif decide (x.snd.snd.snd.snd.snd.fst < (1 : Int)) then some ((0 : Nat), (1 : Int), [], ())
            else
              bif decide (x.snd.snd.snd.snd.snd.fst > (32 : Int)) then some ((0 : Nat), (1 : Int), [], ())
              else
                (f19 (x.fst, ())).bind fun y206 =>
                  (l9_0
                        (x.snd.snd.snd.snd.fst, x.snd.snd.snd.snd.snd.fst, y206.fst, y206.fst, (↑y206.fst : Int), (0 : Int), x.snd.fst,
                          x.snd.snd.fst, x.snd.snd.snd.fst, y206.snd.fst, ())).bind
                    fun y205 => some (y205.fst, (0 : Int), y205.snd.fst, ())
noncomputable def F9 : CF tC := mkF tC S9 f9
theorem f9_run : ∀ a, fnS tC G9 (look [(0, W9_0)]) Tryz.f9 S9 a = f9 a := fun a => by kernel_rfl
theorem F9_ok : CFOK tC 9 F9 := mkF_ok Y9 (fn := Tryz.f9) (body := bodyOf Tryz.f9) (by kernel_rfl) (by kernel_rfl) (by kernel_rfl) (m := 0) rfl (lam_le (lam_cons W9_0_ok lam_nil)) f9_run

/-! particle.Best -/
noncomputable def G10 : FuncId → Option (CF tC) := look [(16, F16)]
theorem Y10 : SysN tC G10 := (sys_cons F16_ok (mkF_nat _ _) (sys_nil tC_ok tC_eq))
noncomputable def c10_28 : Code := subCode (loopOf (bodyOf Tryz.f10) 0) 28
def p10_28 : PS := ⟨0, [2, 4, 19, 20, 21], ⟨[vB, vB, .one (.one (.ptr 0 0 0)), vB, .one (.one (.ptr 1 0 0))] ++ vBs 14 ++ [.one (.one (.imm 42)), vI, vI] ++ vBs 11, [.box [.int .i64, .int .i64, .int .i64, .int .i64], .box [.int .i64, .int .i64, .int .i64, .int .i64]]⟩, [⟨.normal, [2, 4, 19, 20, 21], ⟨[vB, vB, .one (.one (.ptr 0 0 0)), vB, .one (.one (.ptr 1 0 0))] ++ vBs 14 ++ [.one (.one (.imm 42)), vI, vI] ++ vBs 11, [.box [.int .i64, .int .i64, .int .i64, .int .i64], .box [.int .i64, .int .i64, .int .i64, .int .i64]]⟩, []⟩], []⟩
noncomputable def j10_28 (x : List Pa × Int × Int × Int × Int × Int × Int × Int × Int × Int × Int × Unit) : Option (List Pa × Int × Int × Int × Int × Int × Int × Int × Int × Int × Int × Unit) :=
  some
  (x.fst, x.snd.fst, IntKind.i64.wrap (x.snd.snd.fst + (1 : Int)), x.snd.snd.snd.fst, x.snd.snd.snd.snd.fst, x.snd.snd.snd.snd.snd.fst,
    x.snd.snd.snd.snd.snd.snd.fst, x.snd.snd.snd.snd.snd.snd.snd.fst, x.snd.snd.snd.snd.snd.snd.snd.snd.fst,
    x.snd.snd.snd.snd.snd.snd.snd.snd.snd.fst, x.snd.snd.snd.snd.snd.snd.snd.snd.snd.snd.fst, ())
theorem j10_28_run0 (v0 : List Pa) (v1 : Int) (v2 : Int) (v3 : Int) (v4 : Int) (v5 : Int) (v6 : Int) (v7 : Int) (v8 : Int) (v9 : Int) (v10 : Int) : pieceK tC G10 (look []) c10_28 p10_28 (v0, v1, v2, v3, v4, v5, v6, v7, v8, v9, v10, ()) = j10_28 (v0, v1, v2, v3, v4, v5, v6, v7, v8, v9, v10, ()) := by kernel_rfl
theorem j10_28_run (x : List Pa × Int × Int × Int × Int × Int × Int × Int × Int × Int × Int × Unit) : pieceK tC G10 (look []) c10_28 p10_28 x = j10_28 x := j10_28_run0 x.1 x.2.1 x.2.2.1 x.2.2.2.1 x.2.2.2.2.1 x.2.2.2.2.2.1 x.2.2.2.2.2.2.1 x.2.2.2.2.2.2.2.1 x.2.2.2.2.2.2.2.2.1 x.2.2.2.2.2.2.2.2.2.1 x.2.2.2.2.2.2.2.2.2.2.1
noncomputable def W10_28 : LF tC := cutLF tC p10_28 j10_28
theorem W10_28_ok : keyed 28 (loopOf (bodyOf Tryz.f10) 0) = [c10_28] ∧ ∀ n, n ≤ 0 → Snd tC n c10_28 W10_28.k := ⟨by kernel_rfl, fun n hn => cut_ok (p := p10_28) Y10 (lam_le lam_nil n hn) hn j10_28_run⟩
noncomputable def c10_0 : Code := loopOf (bodyOf Tryz.f10) 0
def p10_0 : LS := ⟨0, [2, 4, 19, 20, 21], ⟨[vB, vB, .one (.one (.ptr 0 0 0)), vB, .one (.one (.ptr 1 0 0))] ++ vBs 14 ++ [.one (.one (.imm 42)), vI, vI] ++ vBs 11, [.box [.int .i64, .int .i64, .int .i64, .int .i64], .box [.int .i64, .int .i64, .int .i64, .int .i64]]⟩, [⟨.exit 0, [2, 4], ⟨[vB, vB, .one (.one (.ptr 0 0 0)), vB, .one (.one (.ptr 1 0 0))] ++ vBs 28, [.box [.int .i64, .int .i64, .int .i64, .int .i64], .box [.int .i64, .int .i64, .int .i64, .int .i64]]⟩, []⟩], []⟩
noncomputable def r10_0 (x : List Pa × Int × Int × Int × Int × Int × Int × Int × Int × Int × Int × Unit) : Option (List Pa × Int × Int × Int × Int × Int × Int × Int × Int × Int × Int × Unit ⊕ Int × Int × Int × Int × Int × Int × Int × Int × Unit) :=
  bif decide (x.snd.snd.fst < x.snd.fst) then
  (idxO x.fst x.snd.snd.fst).bind fun y70 =>
    bif decide (y70.W > x.snd.snd.snd.snd.snd.snd.snd.snd.snd.snd.fst) then
      (j10_28
            (x.fst, x.snd.fst, x.snd.snd.fst, x.snd.snd.snd.fst, x.snd.snd.snd.snd.fst, x.snd.snd.snd.snd.snd.fst,
              x.snd.snd.snd.snd.snd.snd.fst, y70.X, y70.Y, y70.H, y70.W, ())).bind
        fun y68 =>
        some
          (Sum.inl
            (y68.fst, y68.snd.fst, y68.snd.snd.fst, y68.snd.snd.snd.fst, y68.snd.snd.snd.snd.fst, y68.snd.snd.snd.snd.snd.fst,
              y68.snd.snd.snd.snd.snd.snd.fst, y68.snd.snd.snd.snd.snd.snd.snd.fst, y68.snd.snd.snd.snd.snd.snd.snd.snd.fst,
              y68.snd.snd.snd.snd.snd.snd.snd.snd.snd.fst, y68.snd.snd.snd.snd.snd.snd.snd.snd.snd.snd.fst, ()))
    else
      (j10_28
            (x.fst, x.snd.fst, x.snd.snd.fst, x.snd.snd.snd.fst, x.snd.snd.snd.snd.fst, x.snd.snd.snd.snd.snd.fst,
              x.snd.snd.snd.snd.snd.snd.fst, x.snd.snd.snd.snd.snd.snd.snd.fst, x.snd.snd.snd.snd.snd.snd.snd.snd.fst,
              x.snd.snd.snd.snd.snd.snd.snd.snd.snd.fst, x.snd.snd.snd.snd.snd.snd.snd.snd.snd.snd.fst, ())).bind
        fun y69 =>
        some
          (Sum.inl
            (y69.fst, y69.snd.fst, y69.snd.snd.fst, y69.snd.snd.snd.fst, y69.snd.snd.snd.snd.fst, y69.snd.snd.snd.snd.snd.fst,
              y69.snd.snd.snd.snd.snd.snd.fst, y69.snd.snd.snd.snd.snd.snd.snd.fst, y69.snd.snd.snd.snd.snd.snd.snd.snd.fst,
              y69.snd.snd.snd.snd.snd.snd.snd.snd.snd.fst, y69.snd.snd.snd.snd.snd.snd.snd.snd.snd.snd.fst, ()))
else
  some
    (Sum.inr
      (x.snd.snd.snd.fst, x.snd.snd.snd.snd.fst, x.snd.snd.snd.snd.snd.fst, x.snd.snd.snd.snd.snd.snd.fst,
        x.snd.snd.snd.snd.snd.snd.snd.fst, x.snd.snd.snd.snd.snd.snd.snd.snd.fst, x.snd.snd.snd.snd.snd.snd.snd.snd.snd.fst,
        x.snd.snd.snd.snd.snd.snd.snd.snd.snd.snd.fst, ()))
theorem r10_0_run0 (v0 : List Pa) (v1 : Int) (v2 : Int) (v3 : Int) (v4 : Int) (v5 : Int) (v6 : Int) (v7 : Int) (v8 : Int) (v9 : Int) (v10 : Int) : roundK tC G10 (look [(28, W10_28)]) c10_0 p10_0 (v0, v1, v2, v3, v4, v5, v6, v7, v8, v9, v10, ()) = r10_0 (v0, v1, v2, v3, v4, v5, v6, v7, v8, v9, v10, ()) := by kernel_rfl
theorem r10_0_run (x : List Pa × Int × Int × Int × Int × Int × Int × Int × Int × Int × Int × Unit) : roundK tC G10 (look [(28, W10_28)]) c10_0 p10_0 x = r10_0 x := r10_0_run0 x.1 x.2.1 x.2.2.1 x.2.2.2.1 x.2.2.2.2.1 x.2.2.2.2.2.1 x.2.2.2.2.2.2.1 x.2.2.2.2.2.2.2.1 x.2.2.2.2.2.2.2.2.1 x.2.2.2.2.2.2.2.2.2.1 x.2.2.2.2.2.2.2.2.2.2.1
noncomputable def l10_0 (x : List Pa × Int × Int × Int × Int × Int × Int × Int × Int × Int × Int × Unit) : Option (Int × Int × Int × Int × Int × Int × Int × Int × Unit) := iterO r10_0 x
noncomputable def W10_0 : LF tC := loopW tC p10_0 0 l10_0
theorem W10_0_ok : keyed 0 (bodyOf Tryz.f10) = [.block 0 (.loop c10_0)] ∧ ∀ n, n ≤ 0 → Snd tC n (.block 0 (.loop c10_0)) W10_0.k := ⟨by kernel_rfl, fun n hn => loopW_ok (p := p10_0) (id := 0) Y10 (lam_le (lam_cons W10_28_ok lam_nil) n hn) hn r10_0_run⟩
def S10 : FS := ⟨[[.s 42]], [⟨[.one (.one (.imm 42))], []⟩], [⟨[.tup [.agg [.int .i64, .int .i64, .int .i64, .int .i64], .one .bool]], []⟩], [[.v, .v, .v, .v], [.v]], []⟩
noncomputable def f10 (x : List Pa × Unit) : Option (Int × Int × Int × Int × Bool × Unit) :=
  bif (↑x.fst.length : Int) == (0 : Int) then some ((0 : Int), (0 : Int), (0 : Int), (0 : Int), false, ())
else
  (f16 (x.fst, ())).bind fun y86 =>
    bif !y86.fst then some ((0 : Int), (0 : Int), (0 : Int), (0 : Int), false, ())
    else
      (idxO x.fst (0 : Int)).bind fun y85 =>
        (l10_0 (x.fst, (↑x.fst.length : Int), (0 : Int), (0 : Int), (0 : Int), (0 : Int), (0 : Int), y85.X, y85.Y, y85.H, y85.W, ())).bind
          fun y84 =>
          some
            (y84.snd.snd.snd.snd.fst, y84.snd.snd.snd.snd.snd.fst, y84.snd.snd.snd.snd.snd.snd.fst, y84.snd.snd.snd.snd.snd.snd.snd.fst,
              true, ())
noncomputable def F10 : CF tC := mkF tC S10 f10
theorem f10_run : ∀ a, fnS tC G10 (look [(0, W10_0)]) Tryz.f10 S10 a = f10 a := fun a => by kernel_rfl
theorem F10_ok : CFOK tC 10 F10 := mkF_ok Y10 (fn := Tryz.f10) (body := bodyOf Tryz.f10) (by kernel_rfl) (by kernel_rfl) (by kernel_rfl) (m := 0) rfl (lam_le (lam_cons W10_0_ok lam_nil)) f10_run

/-! particle.Total -/
noncomputable def G11 : FuncId → Option (CF tC) := look [(16, F16)]
theorem Y11 : SysN tC G11 := (sys_cons F16_ok (mkF_nat _ _) (sys_nil tC_ok tC_eq))
noncomputable def c11_0 : Code := loopOf (bodyOf Tryz.f11) 0
def p11_0 : LS := ⟨0, [3, 9, 10, 11], ⟨[vB, vB, vB, vI] ++ vBs 5 ++ [.one (.one (.imm 42)), vI, vI] ++ vBs 9, []⟩, [⟨.exit 0, [3], ⟨[vB, vB, vB, vI] ++ vBs 17, []⟩, []⟩], []⟩
noncomputable def r11_0 (x : Int × List Pa × Int × Int × Unit) : Option (Int × List Pa × Int × Int × Unit ⊕ Int × Unit) :=
  bif decide (x.snd.snd.snd.fst < x.snd.snd.fst) then
  (idxO x.snd.fst x.snd.snd.snd.fst).bind fun y9 =>
    some (Sum.inl (IntKind.i64.wrap (x.fst + y9.W), x.snd.fst, x.snd.snd.fst, IntKind.i64.wrap (x.snd.snd.snd.fst + (1 : Int)), ()))
else some (Sum.inr (x.fst, ()))
theorem r11_0_run0 (v0 : Int) (v1 : List Pa) (v2 : Int) (v3 : Int) : roundK tC G11 (look []) c11_0 p11_0 (v0, v1, v2, v3, ()) = r11_0 (v0, v1, v2, v3, ()) := by kernel_rfl
theorem r11_0_run (x : Int × List Pa × Int × Int × Unit) : roundK tC G11 (look []) c11_0 p11_0 x = r11_0 x := r11_0_run0 x.1 x.2.1 x.2.2.1 x.2.2.2.1
noncomputable def l11_0 (x : Int × List Pa × Int × Int × Unit) : Option (Int × Unit) := iterO r11_0 x
noncomputable def W11_0 : LF tC := loopW tC p11_0 0 l11_0
theorem W11_0_ok : keyed 0 (bodyOf Tryz.f11) = [.block 0 (.loop c11_0)] ∧ ∀ n, n ≤ 0 → Snd tC n (.block 0 (.loop c11_0)) W11_0.k := ⟨by kernel_rfl, fun n hn => loopW_ok (p := p11_0) (id := 0) Y11 (lam_le lam_nil n hn) hn r11_0_run⟩
def S11 : FS := ⟨[[.s 42]], [⟨[.one (.one (.imm 42))], []⟩], [⟨[vI], []⟩], [[.v]], []⟩
noncomputable def f11 (x : List Pa × Unit) : Option (Int × Unit) :=
  (f16 (x.fst, ())).bind fun y13 =>
  bif !y13.fst then some ((0 : Int), ())
  else (l11_0 ((0 : Int), x.fst, (↑x.fst.length : Int), (0 : Int), ())).bind fun y12 => some (y12.fst, ())
noncomputable def F11 : CF tC := mkF tC S11 f11
theorem f11_run : ∀ a, fnS tC G11 (look [(0, W11_0)]) Tryz.f11 S11 a = f11 a := fun a => by kernel_rfl
theorem F11_ok : CFOK tC 11 F11 := mkF_ok Y11 (fn := Tryz.f11) (body := bodyOf Tryz.f11) (by kernel_rfl) (by kernel_rfl) (by kernel_rfl) (m := 0) rfl (lam_le (lam_cons W11_0_ok lam_nil)) f11_run

/-! particle.Resample -/
noncomputable def G12 : FuncId → Option (CF tC) := look [(11, F11), (16, F16)]
theorem Y12 : SysN tC G12 := (sys_cons F11_ok (mkF_nat _ _) (sys_cons F16_ok (mkF_nat _ _) (sys_nil tC_ok tC_eq)))
noncomputable def c12_9 : Code := loopOf (loopOf (bodyOf Tryz.f12) 1) 3
def p12_9 : LS := ⟨0, [0, 1, 2, 8, 9, 10, 11, 12, 41, 42], ⟨[.one (.one (.imm 42)), vI, vI] ++ vBs 5 ++ [vI, .one (.one (.sl 0)), vI, vI, vI] ++ vBs 28 ++ [vI, vI] ++ vBs 31, [.arr 42]⟩, [⟨.exit 3, [0, 1, 2, 8, 9, 10, 11, 41, 42], ⟨[.one (.one (.imm 42)), vI, vI] ++ vBs 5 ++ [vI, .one (.one (.sl 0)), vI, vI] ++ vBs 29 ++ [vI, vI] ++ vBs 31, [.arr 42]⟩, []⟩], []⟩
noncomputable def r12_9 (x : List Pa × Int × Int × Int × Nat × Int × Int × Int × Int × Int × List Pa × Unit) : Option
  (List Pa × Int × Int × Int × Nat × Int × Int × Int × Int × Int × List Pa × Unit ⊕
    List Pa × Int × Int × Int × Nat × Int × Int × Int × Int × List Pa × Unit) :=
  bif
    decide
      (IntKind.i64.wrap (x.snd.fst * x.snd.snd.snd.snd.snd.snd.fst) ≤
        IntKind.i64.wrap (x.snd.snd.fst + IntKind.i64.wrap (x.snd.snd.snd.snd.snd.snd.snd.fst * x.snd.snd.snd.fst))) then
  (idxO x.fst (IntKind.i64.wrap (x.snd.snd.snd.snd.snd.fst + (1 : Int)))).bind fun y75 =>
    some
      (Sum.inl
        (x.fst, x.snd.fst, x.snd.snd.fst, x.snd.snd.snd.fst, x.snd.snd.snd.snd.fst,
          IntKind.i64.wrap (x.snd.snd.snd.snd.snd.fst + (1 : Int)), IntKind.i64.wrap (x.snd.snd.snd.snd.snd.snd.fst + y75.W),
          x.snd.snd.snd.snd.snd.snd.snd.fst, x.snd.snd.snd.snd.snd.snd.snd.snd.fst, x.snd.snd.snd.snd.snd.snd.snd.snd.snd.fst,
          x.snd.snd.snd.snd.snd.snd.snd.snd.snd.snd.fst, ()))
else
  some
    (Sum.inr
      (x.fst, x.snd.fst, x.snd.snd.fst, x.snd.snd.snd.fst, x.snd.snd.snd.snd.fst, x.snd.snd.snd.snd.snd.fst, x.snd.snd.snd.snd.snd.snd.fst,
        x.snd.snd.snd.snd.snd.snd.snd.snd.fst, x.snd.snd.snd.snd.snd.snd.snd.snd.snd.fst, x.snd.snd.snd.snd.snd.snd.snd.snd.snd.snd.fst,
        ()))
theorem r12_9_run0 (v0 : List Pa) (v1 : Int) (v2 : Int) (v3 : Int) (v4 : Nat) (v5 : Int) (v6 : Int) (v7 : Int) (v8 : Int) (v9 : Int) (v10 : List Pa) : roundK tC G12 (look []) c12_9 p12_9 (v0, v1, v2, v3, v4, v5, v6, v7, v8, v9, v10, ()) = r12_9 (v0, v1, v2, v3, v4, v5, v6, v7, v8, v9, v10, ()) := by kernel_rfl
theorem r12_9_run (x : List Pa × Int × Int × Int × Nat × Int × Int × Int × Int × Int × List Pa × Unit) : roundK tC G12 (look []) c12_9 p12_9 x = r12_9 x := r12_9_run0 x.1 x.2.1 x.2.2.1 x.2.2.2.1 x.2.2.2.2.1 x.2.2.2.2.2.1 x.2.2.2.2.2.2.1 x.2.2.2.2.2.2.2.1 x.2.2.2.2.2.2.2.2.1 x.2.2.2.2.2.2.2.2.2.1 x.2.2.2.2.2.2.2.2.2.2.1
noncomputable def l12_9 (x : List Pa × Int × Int × Int × Nat × Int × Int × Int × Int × Int × List Pa × Unit) : Option (List Pa × Int × Int × Int × Nat × Int × Int × Int × Int × List Pa × Unit) := iterO r12_9 x
noncomputable def W12_9 : LF tC := loopW tC p12_9 3 l12_9
theorem W12_9_ok : keyed 9 (loopOf (bodyOf Tryz.f12) 1) = [.block 3 (.loop c12_9)] ∧ ∀ n, n ≤ 0 → Snd tC n (.block 3 (.loop c12_9)) W12_9.k := ⟨by kernel_rfl, fun n hn => loopW_ok (p := p12_9) (id := 3) Y12 (lam_le lam_nil n hn) hn r12_9_run⟩
noncomputable def c12_3 : Code := loopOf (bodyOf Tryz.f12) 1
def p12_3 : LS := ⟨0, [0, 1, 2, 8, 9, 10, 11, 41, 42], ⟨[.one (.one (.imm 42)), vI, vI] ++ vBs 5 ++ [vI, .one (.one (.sl 0)), vI, vI] ++ vBs 29 ++ [vI, vI] ++ vBs 31, [.arr 42]⟩, [⟨.exit 1, [9], ⟨vBs 9 ++ [.one (.one (.sl 0))] ++ vBs 64, [.arr 42]⟩, []⟩], [(9, 42)]⟩
noncomputable def r12_3 (x : List Pa × Int × Int × Int × Nat × Int × Int × Int × Int × List Pa × Unit) : Option (List Pa × Int × Int × Int × Nat × Int × Int × Int × Int × List Pa × Unit ⊕ Nat × List Pa × Unit) :=
  bif decide (x.snd.snd.snd.snd.snd.snd.snd.snd.fst < x.snd.snd.snd.snd.snd.snd.snd.fst) then
  (l12_9
        (x.fst, x.snd.fst, x.snd.snd.fst, x.snd.snd.snd.fst, x.snd.snd.snd.snd.fst, x.snd.snd.snd.snd.snd.fst,
          x.snd.snd.snd.snd.snd.snd.fst, x.snd.snd.snd.snd.snd.snd.snd.snd.fst, x.snd.snd.snd.snd.snd.snd.snd.fst,
          x.snd.snd.snd.snd.snd.snd.snd.snd.fst, x.snd.snd.snd.snd.snd.snd.snd.snd.snd.fst, ())).bind
    fun y90 =>
    (idxO y90.fst y90.snd.snd.snd.snd.snd.fst).bind fun y89 =>
      bif decide ((0 : Nat) + y90.snd.snd.snd.snd.fst ≤ y90.snd.snd.snd.snd.snd.snd.snd.snd.snd.fst.length) then
        bif roomy (y90.snd.snd.snd.snd.fst + (1 : Nat)) (32 : Nat) then
          some
            (Sum.inl
              (y90.fst, y90.snd.fst, y90.snd.snd.fst, y90.snd.snd.snd.fst, y90.snd.snd.snd.snd.fst + (1 : Nat), y90.snd.snd.snd.snd.snd.fst,
                y90.snd.snd.snd.snd.snd.snd.fst, y90.snd.snd.snd.snd.snd.snd.snd.fst,
                IntKind.i64.wrap (y90.snd.snd.snd.snd.snd.snd.snd.snd.fst + (1 : Int)),
                List.take y90.snd.snd.snd.snd.fst (List.drop (0 : Nat) y90.snd.snd.snd.snd.snd.snd.snd.snd.snd.fst) ++
                  [Pa.mk y89.X y89.Y y89.H (1 : Int)],
                ()))
        else none
      else none
else some (Sum.inr (x.snd.snd.snd.snd.fst, x.snd.snd.snd.snd.snd.snd.snd.snd.snd.fst, ()))
theorem r12_3_run0 (v0 : List Pa) (v1 : Int) (v2 : Int) (v3 : Int) (v4 : Nat) (v5 : Int) (v6 : Int) (v7 : Int) (v8 : Int) (v9 : List Pa) : roundK tC G12 (look [(9, W12_9)]) c12_3 p12_3 (v0, v1, v2, v3, v4, v5, v6, v7, v8, v9, ()) = r12_3 (v0, v1, v2, v3, v4, v5, v6, v7, v8, v9, ()) := by kernel_rfl
theorem r12_3_run (x : List Pa × Int × Int × Int × Nat × Int × Int × Int × Int × List Pa × Unit) : roundK tC G12 (look [(9, W12_9)]) c12_3 p12_3 x = r12_3 x := r12_3_run0 x.1 x.2.1 x.2.2.1 x.2.2.2.1 x.2.2.2.2.1 x.2.2.2.2.2.1 x.2.2.2.2.2.2.1 x.2.2.2.2.2.2.2.1 x.2.2.2.2.2.2.2.2.1 x.2.2.2.2.2.2.2.2.2.1
noncomputable def l12_3 (x : List Pa × Int × Int × Int × Nat × Int × Int × Int × Int × List Pa × Unit) : Option (Nat × List Pa × Unit) := iterO r12_3 x
noncomputable def W12_3 : LF tC := loopW tC p12_3 1 l12_3
theorem W12_3_ok : keyed 3 (bodyOf Tryz.f12) = [.block 1 (.loop c12_3)] ∧ ∀ n, n ≤ 0 → Snd tC n (.block 1 (.loop c12_3)) W12_3.k := ⟨by kernel_rfl, fun n hn => loopW_ok (p := p12_3) (id := 1) Y12 (lam_le (lam_cons W12_9_ok lam_nil) n hn) hn r12_3_run⟩
def S12 : FS := ⟨[[.s 42], [.v], [.v]], [⟨[.one (.one (.imm 42)), vI, vI], []⟩], [⟨[.tup [.one (.sl 0), .one (.int .i64)]], [.arr 42]⟩], [[.v], [.v]], [(6, 42)]⟩
noncomputable def f12 (x : List Pa × Int × Int × Unit) : Option (Nat × Int × List Pa × Unit) :=
  (f11 (x.fst, ())).bind fun y99 =>
  (f16 (x.fst, ())).bind fun y98 =>
    bif !y98.fst then some ((0 : Nat), (1 : Int), [], ())
    else
      bif decide (x.snd.fst < (1 : Int)) then some ((0 : Nat), (2 : Int), [], ())
      else
        bif decide (x.snd.fst > (1024 : Int)) then some ((0 : Nat), (2 : Int), [], ())
        else
          bif y99.fst == (0 : Int) then some ((0 : Nat), (9 : Int), [], ())
          else
            bif decide (x.snd.snd.fst < (0 : Int)) then some ((0 : Nat), (2 : Int), [], ())
            else
              bif decide (x.snd.snd.fst ≥ y99.fst) then some ((0 : Nat), (2 : Int), [], ())
              else
                (idxO x.fst (0 : Int)).bind fun y97 =>
                  (l12_3 (x.fst, x.snd.fst, x.snd.snd.fst, y99.fst, (0 : Nat), (0 : Int), y97.W, x.snd.fst, (0 : Int), [], ())).bind
                    fun y96 => some (y96.fst, (0 : Int), y96.snd.fst, ())
noncomputable def F12 : CF tC := mkF tC S12 f12
theorem f12_run : ∀ a, fnS tC G12 (look [(3, W12_3)]) Tryz.f12 S12 a = f12 a := fun a => by kernel_rfl
theorem F12_ok : CFOK tC 12 F12 := mkF_ok Y12 (fn := Tryz.f12) (body := bodyOf Tryz.f12) (by kernel_rfl) (by kernel_rfl) (by kernel_rfl) (m := 0) rfl (lam_le (lam_cons W12_3_ok lam_nil)) f12_run

/-! flockAwake -/
noncomputable def G4 : FuncId → Option (CF tC) := look [(12, F12), (11, F11)]
theorem Y4 : SysN tC G4 := (sys_cons F12_ok (mkF_nat _ _) (sys_cons F11_ok (mkF_nat _ _) (sys_nil tC_ok tC_eq)))
def S4 : FS := ⟨[], [⟨[], []⟩], [⟨[vO], []⟩], [[.v]], []⟩
noncomputable def f4 (_x : Unit) : Option (Bool × Unit) :=
  (f12 ([Pa.mk (0 : Int) (0 : Int) (0 : Int) (1 : Int), Pa.mk (7 : Int) (0 : Int) (0 : Int) (3 : Int)], (4 : Int), (0 : Int), ())).bind
  fun y9 =>
  bif y9.snd.fst == (0 : Int) then
    bif (↑y9.fst : Int) == (4 : Int) then
      bif true && decide ((3 : Int) < (↑y9.fst : Int)) then
        y9.snd.snd.fst[(3 : Nat)]?.bind fun y8 =>
          bif y8.X == (7 : Int) then
            bif decide ((0 : Nat) + y9.fst ≤ y9.snd.snd.fst.length) then
              (f11 (List.take y9.fst (List.drop (0 : Nat) y9.snd.snd.fst), ())).bind fun y7 => some (y7.fst == (4 : Int), ())
            else none
          else some (false, ())
      else none
    else some (false, ())
  else some (false, ())
noncomputable def F4 : CF tC := mkF tC S4 f4
theorem f4_run : ∀ a, fnS tC G4 (look []) Tryz.f4 S4 a = f4 a := fun a => by kernel_rfl
theorem F4_ok : CFOK tC 4 F4 := mkF_ok Y4 (fn := Tryz.f4) (body := bodyOf Tryz.f4) (by kernel_rfl) (by kernel_rfl) (by kernel_rfl) (m := 0) rfl (lam_le lam_nil) f4_run

/-! WholeParticles -/
noncomputable def G3 : FuncId → Option (CF tC) := look [(4, F4), (5, F5), (6, F6), (7, F7), (8, F8), (9, F9), (10, F10), (11, F11), (12, F12)]
theorem Y3 : SysN tC G3 := (sys_cons F4_ok (mkF_nat _ _) (sys_cons F5_ok (mkF_nat _ _) (sys_cons F6_ok (mkF_nat _ _) (sys_cons F7_ok (mkF_nat _ _) (sys_cons F8_ok (mkF_nat _ _) (sys_cons F9_ok (mkF_nat _ _) (sys_cons F10_ok (mkF_nat _ _) (sys_cons F11_ok (mkF_nat _ _) (sys_cons F12_ok (mkF_nat _ _) (sys_nil tC_ok tC_eq))))))))))
noncomputable def c3_94 : Code := subCode (loopOf (loopOf (bodyOf Tryz.f3) 0) 2) 94
def p3_94 : PS := ⟨0, [2, 3, 7, 8, 9, 12, 13, 16, 21, 22, 23, 25, 26], ⟨[vB, vB, .one (.one (.imm 42)), .one (.one (.ptr 0 0 0)), vB, vB, vB, .one (.one (.ptr 1 0 0)), .one (.one (.imm 47)), .one (.one (.imm 28)), vB, vB, vI, .one (.one (.sl 2)), vB, vB, .one (.one (.sl 3))] ++ vBs 4 ++ [vI, vI, .one (.one (.sl 4)), vB, vI, vI] ++ vBs 193, [.box [.int .i64, .int .i64, .imm 5, .int .i64, .int .i64, .int .i64, .int .i64, .int .i64, .int .i64, .int .i64], .box [.int .i64, .int .i64, .int .i64, .int .i64], .arr 42, .arr 42, .arr 42]⟩, [⟨.normal, [2, 3, 7, 8, 9, 12, 13, 16, 21, 22, 23, 25, 26], ⟨[vB, vB, .one (.one (.imm 42)), .one (.one (.ptr 0 0 0)), vB, vB, vB, .one (.one (.ptr 1 0 0)), .one (.one (.imm 47)), .one (.one (.imm 28)), vB, vB, vI, .one (.one (.sl 2)), vB, vB, .one (.one (.sl 3))] ++ vBs 4 ++ [vI, vI, .one (.one (.sl 4)), vB, vI, vI] ++ vBs 193, [.box [.int .i64, .int .i64, .imm 5, .int .i64, .int .i64, .int .i64, .int .i64, .int .i64, .int .i64, .int .i64], .box [.int .i64, .int .i64, .int .i64, .int .i64], .arr 42, .arr 42, .arr 42]⟩, []⟩], []⟩
noncomputable def j3_94 (x : List Pa ×
  List Ev ×
    List Po ×
      Int ×
        Nat ×
          Nat ×
            Int ×
              Int ×
                Nat ×
                  Int ×
                    Int ×
                      Int ×
                        Int ×
                          List Int × Int × Int × Int × Int × Int × Int × Int × Int × Int × Int × Int × List Pa × List Pa × List Pa × Unit) : Option
  (List Pa ×
    List Ev ×
      List Po ×
        Int ×
          Nat ×
            Nat ×
              Int ×
                Int ×
                  Nat ×
                    Int ×
                      Int ×
                        Int ×
                          Int ×
                            List Int × Int × Int × Int × Int × Int × Int × Int × Int × Int × Int × Int × List Pa × List Pa × List Pa × Unit) :=
  some
  (x.fst, x.snd.fst, x.snd.snd.fst, x.snd.snd.snd.fst, x.snd.snd.snd.snd.fst, x.snd.snd.snd.snd.snd.fst, x.snd.snd.snd.snd.snd.snd.fst,
    x.snd.snd.snd.snd.snd.snd.snd.fst, x.snd.snd.snd.snd.snd.snd.snd.snd.fst, x.snd.snd.snd.snd.snd.snd.snd.snd.snd.fst,
    IntKind.i64.wrap (x.snd.snd.snd.snd.snd.snd.snd.snd.snd.snd.fst + (1 : Int)), x.snd.snd.snd.snd.snd.snd.snd.snd.snd.snd.snd.fst,
    x.snd.snd.snd.snd.snd.snd.snd.snd.snd.snd.snd.snd.fst, x.snd.snd.snd.snd.snd.snd.snd.snd.snd.snd.snd.snd.snd.fst,
    x.snd.snd.snd.snd.snd.snd.snd.snd.snd.snd.snd.snd.snd.snd.fst, x.snd.snd.snd.snd.snd.snd.snd.snd.snd.snd.snd.snd.snd.snd.snd.fst,
    x.snd.snd.snd.snd.snd.snd.snd.snd.snd.snd.snd.snd.snd.snd.snd.snd.fst,
    x.snd.snd.snd.snd.snd.snd.snd.snd.snd.snd.snd.snd.snd.snd.snd.snd.snd.fst,
    x.snd.snd.snd.snd.snd.snd.snd.snd.snd.snd.snd.snd.snd.snd.snd.snd.snd.snd.fst,
    x.snd.snd.snd.snd.snd.snd.snd.snd.snd.snd.snd.snd.snd.snd.snd.snd.snd.snd.snd.fst,
    x.snd.snd.snd.snd.snd.snd.snd.snd.snd.snd.snd.snd.snd.snd.snd.snd.snd.snd.snd.snd.fst,
    x.snd.snd.snd.snd.snd.snd.snd.snd.snd.snd.snd.snd.snd.snd.snd.snd.snd.snd.snd.snd.snd.fst,
    x.snd.snd.snd.snd.snd.snd.snd.snd.snd.snd.snd.snd.snd.snd.snd.snd.snd.snd.snd.snd.snd.snd.fst,
    x.snd.snd.snd.snd.snd.snd.snd.snd.snd.snd.snd.snd.snd.snd.snd.snd.snd.snd.snd.snd.snd.snd.snd.fst,
    x.snd.snd.snd.snd.snd.snd.snd.snd.snd.snd.snd.snd.snd.snd.snd.snd.snd.snd.snd.snd.snd.snd.snd.snd.fst,
    x.snd.snd.snd.snd.snd.snd.snd.snd.snd.snd.snd.snd.snd.snd.snd.snd.snd.snd.snd.snd.snd.snd.snd.snd.snd.fst,
    x.snd.snd.snd.snd.snd.snd.snd.snd.snd.snd.snd.snd.snd.snd.snd.snd.snd.snd.snd.snd.snd.snd.snd.snd.snd.snd.fst,
    x.snd.snd.snd.snd.snd.snd.snd.snd.snd.snd.snd.snd.snd.snd.snd.snd.snd.snd.snd.snd.snd.snd.snd.snd.snd.snd.snd.fst, ())
theorem j3_94_run0 (v0 : List Pa) (v1 : List Ev) (v2 : List Po) (v3 : Int) (v4 : Nat) (v5 : Nat) (v6 : Int) (v7 : Int) (v8 : Nat) (v9 : Int) (v10 : Int) (v11 : Int) (v12 : Int) (v13 : List Int) (v14 : Int) (v15 : Int) (v16 : Int) (v17 : Int) (v18 : Int) (v19 : Int) (v20 : Int) (v21 : Int) (v22 : Int) (v23 : Int) (v24 : Int) (v25 : List Pa) (v26 : List Pa) (v27 : List Pa) : pieceK tC G3 (look []) c3_94 p3_94 (v0, v1, v2, v3, v4, v5, v6, v7, v8, v9, v10, v11, v12, v13, v14, v15, v16, v17, v18, v19, v20, v21, v22, v23, v24, v25, v26, v27, ()) = j3_94 (v0, v1, v2, v3, v4, v5, v6, v7, v8, v9, v10, v11, v12, v13, v14, v15, v16, v17, v18, v19, v20, v21, v22, v23, v24, v25, v26, v27, ()) := by kernel_rfl
theorem j3_94_run (x : List Pa ×
  List Ev ×
    List Po ×
      Int ×
        Nat ×
          Nat ×
            Int ×
              Int ×
                Nat ×
                  Int ×
                    Int ×
                      Int ×
                        Int ×
                          List Int × Int × Int × Int × Int × Int × Int × Int × Int × Int × Int × Int × List Pa × List Pa × List Pa × Unit) : pieceK tC G3 (look []) c3_94 p3_94 x = j3_94 x := j3_94_run0 x.1 x.2.1 x.2.2.1 x.2.2.2.1 x.2.2.2.2.1 x.2.2.2.2.2.1 x.2.2.2.2.2.2.1 x.2.2.2.2.2.2.2.1 x.2.2.2.2.2.2.2.2.1 x.2.2.2.2.2.2.2.2.2.1 x.2.2.2.2.2.2.2.2.2.2.1 x.2.2.2.2.2.2.2.2.2.2.2.1 x.2.2.2.2.2.2.2.2.2.2.2.2.1 x.2.2.2.2.2.2.2.2.2.2.2.2.2.1 x.2.2.2.2.2.2.2.2.2.2.2.2.2.2.1 x.2.2.2.2.2.2.2.2.2.2.2.2.2.2.2.1 x.2.2.2.2.2.2.2.2.2.2.2.2.2.2.2.2.1 x.2.2.2.2.2.2.2.2.2.2.2.2.2.2.2.2.2.1 x.2.2.2.2.2.2.2.2.2.2.2.2.2.2.2.2.2.2.1 x.2.2.2.2.2.2.2.2.2.2.2.2.2.2.2.2.2.2.2.1 x.2.2.2.2.2.2.2.2.2.2.2.2.2.2.2.2.2.2.2.2.1 x.2.2.2.2.2.2.2.2.2.2.2.2.2.2.2.2.2.2.2.2.2.1 x.2.2.2.2.2.2.2.2.2.2.2.2.2.2.2.2.2.2.2.2.2.2.1 x.2.2.2.2.2.2.2.2.2.2.2.2.2.2.2.2.2.2.2.2.2.2.2.1 x.2.2.2.2.2.2.2.2.2.2.2.2.2.2.2.2.2.2.2.2.2.2.2.2.1 x.2.2.2.2.2.2.2.2.2.2.2.2.2.2.2.2.2.2.2.2.2.2.2.2.2.1 x.2.2.2.2.2.2.2.2.2.2.2.2.2.2.2.2.2.2.2.2.2.2.2.2.2.2.1 x.2.2.2.2.2.2.2.2.2.2.2.2.2.2.2.2.2.2.2.2.2.2.2.2.2.2.2.1
noncomputable def W3_94 : LF tC := cutLF tC p3_94 j3_94
theorem W3_94_ok : keyed 94 (loopOf (loopOf (bodyOf Tryz.f3) 0) 2) = [c3_94] ∧ ∀ n, n ≤ 0 → Snd tC n c3_94 W3_94.k := ⟨by kernel_rfl, fun n hn => cut_ok (p := p3_94) Y3 (lam_le lam_nil n hn) hn j3_94_run⟩
noncomputable def c3_6 : Code := loopOf (loopOf (bodyOf Tryz.f3) 0) 2
def p3_6 : LS := ⟨0, [2, 3, 7, 8, 9, 12, 13, 16, 21, 22, 23, 25, 26], ⟨[vB, vB, .one (.one (.imm 42)), .one (.one (.ptr 0 0 0)), vB, vB, vB, .one (.one (.ptr 1 0 0)), .one (.one (.imm 47)), .one (.one (.imm 28)), vB, vB, vI, .one (.one (.sl 2)), vB, vB, .one (.one (.sl 3))] ++ vBs 4 ++ [vI, vI, .one (.one (.sl 4)), vB, vI, vI] ++ vBs 193, [.box [.int .i64, .int .i64, .imm 5, .int .i64, .int .i64, .int .i64, .int .i64, .int .i64, .int .i64, .int .i64], .box [.int .i64, .int .i64, .int .i64, .int .i64], .arr 42, .arr 42, .arr 42]⟩, [⟨.exit 2, [2, 3, 7, 8, 9, 12, 13, 16, 21, 22, 25], ⟨[vB, vB, .one (.one (.imm 42)), .one (.one (.ptr 0 0 0)), vB, vB, vB, .one (.one (.ptr 1 0 0)), .one (.one (.imm 47)), .one (.one (.imm 28)), vB, vB, vI, .one (.one (.sl 2)), vB, vB, .one (.one (.sl 3))] ++ vBs 4 ++ [vI, vI, vB, vB, vI] ++ vBs 194, [.box [.int .i64, .int .i64, .imm 5, .int .i64, .int .i64, .int .i64, .int .i64, .int .i64, .int .i64, .int .i64], .box [.int .i64, .int .i64, .int .i64, .int .i64], .arr 42, .arr 42]⟩, []⟩], []⟩
noncomputable def r3_6 (x : List Pa ×
  List Ev ×
    List Po ×
      Int ×
        Nat ×
          Nat ×
            Int ×
              Int ×
                Nat ×
                  Int ×
                    Int ×
                      Int ×
                        Int ×
                          List Int × Int × Int × Int × Int × Int × Int × Int × Int × Int × Int × Int × List Pa × List Pa × List Pa × Unit) : Option
  (List Pa ×
      List Ev ×
        List Po ×
          Int ×
            Nat ×
              Nat ×
                Int ×
                  Int ×
                    Nat ×
                      Int ×
                        Int ×
                          Int ×
                            Int ×
                              List Int ×
                                Int × Int × Int × Int × Int × Int × Int × Int × Int × Int × Int × List Pa × List Pa × List Pa × Unit ⊕
    List Pa ×
      List Ev ×
        List Po ×
          Int ×
            Nat ×
              Nat ×
                Int ×
                  Int ×
                    Int × Int × Int × List Int × Int × Int × Int × Int × Int × Int × Int × Int × Int × Int × Int × List Pa × List Pa × Unit) :=
  bif decide (x.snd.snd.snd.snd.snd.snd.snd.snd.snd.snd.fst < (↑x.snd.snd.snd.snd.snd.snd.snd.snd.fst : Int)) then
  bif
      decide ((0 : Int) ≤ x.snd.snd.snd.snd.snd.snd.snd.snd.snd.snd.fst) &&
        decide (x.snd.snd.snd.snd.snd.snd.snd.snd.snd.snd.fst < (↑x.snd.snd.snd.snd.snd.snd.snd.snd.fst : Int)) then
    x.snd.snd.snd.snd.snd.snd.snd.snd.snd.snd.snd.snd.snd.snd.snd.snd.snd.snd.snd.snd.snd.snd.snd.snd.snd.snd.snd.fst[(0 : Nat) +
            x.snd.snd.snd.snd.snd.snd.snd.snd.snd.snd.fst.toNat]?.bind
      fun y235 =>
      (idxO x.snd.snd.fst x.snd.snd.snd.fst).bind fun y234 =>
        bif bif y235.X == y234.X then bif y235.Y == y234.Y then bif y235.H == y234.H then true else false else false else false then
          (j3_94
                (x.fst, x.snd.fst, x.snd.snd.fst, x.snd.snd.snd.fst, x.snd.snd.snd.snd.fst, x.snd.snd.snd.snd.snd.fst,
                  x.snd.snd.snd.snd.snd.snd.fst, x.snd.snd.snd.snd.snd.snd.snd.fst, x.snd.snd.snd.snd.snd.snd.snd.snd.fst,
                  IntKind.i64.wrap (x.snd.snd.snd.snd.snd.snd.snd.snd.snd.fst + (1 : Int)), x.snd.snd.snd.snd.snd.snd.snd.snd.snd.snd.fst,
                  x.snd.snd.snd.snd.snd.snd.snd.snd.snd.snd.snd.fst, x.snd.snd.snd.snd.snd.snd.snd.snd.snd.snd.snd.snd.fst,
                  x.snd.snd.snd.snd.snd.snd.snd.snd.snd.snd.snd.snd.snd.fst, x.snd.snd.snd.snd.snd.snd.snd.snd.snd.snd.snd.snd.snd.snd.fst,
                  x.snd.snd.snd.snd.snd.snd.snd.snd.snd.snd.snd.snd.snd.snd.snd.fst,
                  x.snd.snd.snd.snd.snd.snd.snd.snd.snd.snd.snd.snd.snd.snd.snd.snd.fst,
                  x.snd.snd.snd.snd.snd.snd.snd.snd.snd.snd.snd.snd.snd.snd.snd.snd.snd.fst,
                  x.snd.snd.snd.snd.snd.snd.snd.snd.snd.snd.snd.snd.snd.snd.snd.snd.snd.snd.fst,
                  x.snd.snd.snd.snd.snd.snd.snd.snd.snd.snd.snd.snd.snd.snd.snd.snd.snd.snd.snd.fst,
                  x.snd.snd.snd.snd.snd.snd.snd.snd.snd.snd.snd.snd.snd.snd.snd.snd.snd.snd.snd.snd.fst,
                  x.snd.snd.snd.snd.snd.snd.snd.snd.snd.snd.snd.snd.snd.snd.snd.snd.snd.snd.snd.snd.snd.fst,
                  x.snd.snd.snd.snd.snd.snd.snd.snd.snd.snd.snd.snd.snd.snd.snd.snd.snd.snd.snd.snd.snd.snd.fst,
                  x.snd.snd.snd.snd.snd.snd.snd.snd.snd.snd.snd.snd.snd.snd.snd.snd.snd.snd.snd.snd.snd.snd.snd.fst,
                  x.snd.snd.snd.snd.snd.snd.snd.snd.snd.snd.snd.snd.snd.snd.snd.snd.snd.snd.snd.snd.snd.snd.snd.snd.fst,
                  x.snd.snd.snd.snd.snd.snd.snd.snd.snd.snd.snd.snd.snd.snd.snd.snd.snd.snd.snd.snd.snd.snd.snd.snd.snd.fst,
                  x.snd.snd.snd.snd.snd.snd.snd.snd.snd.snd.snd.snd.snd.snd.snd.snd.snd.snd.snd.snd.snd.snd.snd.snd.snd.snd.fst,
                  x.snd.snd.snd.snd.snd.snd.snd.snd.snd.snd.snd.snd.snd.snd.snd.snd.snd.snd.snd.snd.snd.snd.snd.snd.snd.snd.snd.fst,
                  ())).bind
            fun y232 =>
            some
              (Sum.inl
                (y232.fst, y232.snd.fst, y232.snd.snd.fst, y232.snd.snd.snd.fst, y232.snd.snd.snd.snd.fst, y232.snd.snd.snd.snd.snd.fst,
                  y232.snd.snd.snd.snd.snd.snd.fst, y232.snd.snd.snd.snd.snd.snd.snd.fst, y232.snd.snd.snd.snd.snd.snd.snd.snd.fst,
                  y232.snd.snd.snd.snd.snd.snd.snd.snd.snd.fst, y232.snd.snd.snd.snd.snd.snd.snd.snd.snd.snd.fst,
                  y232.snd.snd.snd.snd.snd.snd.snd.snd.snd.snd.snd.fst, y232.snd.snd.snd.snd.snd.snd.snd.snd.snd.snd.snd.snd.fst,
                  y232.snd.snd.snd.snd.snd.snd.snd.snd.snd.snd.snd.snd.snd.fst,
                  y232.snd.snd.snd.snd.snd.snd.snd.snd.snd.snd.snd.snd.snd.snd.fst,
                  y232.snd.snd.snd.snd.snd.snd.snd.snd.snd.snd.snd.snd.snd.snd.snd.fst,
                  y232.snd.snd.snd.snd.snd.snd.snd.snd.snd.snd.snd.snd.snd.snd.snd.snd.fst,
                  y232.snd.snd.snd.snd.snd.snd.snd.snd.snd.snd.snd.snd.snd.snd.snd.snd.snd.fst,
                  y232.snd.snd.snd.snd.snd.snd.snd.snd.snd.snd.snd.snd.snd.snd.snd.snd.snd.snd.fst,
                  y232.snd.snd.snd.snd.snd.snd.snd.snd.snd.snd.snd.snd.snd.snd.snd.snd.snd.snd.snd.fst,
                  y232.snd.snd.snd.snd.snd.snd.snd.snd.snd.snd.snd.snd.snd.snd.snd.snd.snd.snd.snd.snd.fst,
                  y232.snd.snd.snd.snd.snd.snd.snd.snd.snd.snd.snd.snd.snd.snd.snd.snd.snd.snd.snd.snd.snd.fst,
                  y232.snd.snd.snd.snd.snd.snd.snd.snd.snd.snd.snd.snd.snd.snd.snd.snd.snd.snd.snd.snd.snd.snd.fst,
                  y232.snd.snd.snd.snd.snd.snd.snd.snd.snd.snd.snd.snd.snd.snd.snd.snd.snd.snd.snd.snd.snd.snd.snd.fst,
                  y232.snd.snd.snd.snd.snd.snd.snd.snd.snd.snd.snd.snd.snd.snd.snd.snd.snd.snd.snd.snd.snd.snd.snd.snd.fst,
                  y232.snd.snd.snd.snd.snd.snd.snd.snd.snd.snd.snd.snd.snd.snd.snd.snd.snd.snd.snd.snd.snd.snd.snd.snd.snd.fst,
                  y232.snd.snd.snd.snd.snd.snd.snd.snd.snd.snd.snd.snd.snd.snd.snd.snd.snd.snd.snd.snd.snd.snd.snd.snd.snd.snd.fst,
                  y232.snd.snd.snd.snd.snd.snd.snd.snd.snd.snd.snd.snd.snd.snd.snd.snd.snd.snd.snd.snd.snd.snd.snd.snd.snd.snd.snd.fst, ()))
        else
          (j3_94
                (x.fst, x.snd.fst, x.snd.snd.fst, x.snd.snd.snd.fst, x.snd.snd.snd.snd.fst, x.snd.snd.snd.snd.snd.fst,
                  x.snd.snd.snd.snd.snd.snd.fst, x.snd.snd.snd.snd.snd.snd.snd.fst, x.snd.snd.snd.snd.snd.snd.snd.snd.fst,
                  x.snd.snd.snd.snd.snd.snd.snd.snd.snd.fst, x.snd.snd.snd.snd.snd.snd.snd.snd.snd.snd.fst,
                  x.snd.snd.snd.snd.snd.snd.snd.snd.snd.snd.snd.fst, x.snd.snd.snd.snd.snd.snd.snd.snd.snd.snd.snd.snd.fst,
                  x.snd.snd.snd.snd.snd.snd.snd.snd.snd.snd.snd.snd.snd.fst, x.snd.snd.snd.snd.snd.snd.snd.snd.snd.snd.snd.snd.snd.snd.fst,
                  x.snd.snd.snd.snd.snd.snd.snd.snd.snd.snd.snd.snd.snd.snd.snd.fst,
                  x.snd.snd.snd.snd.snd.snd.snd.snd.snd.snd.snd.snd.snd.snd.snd.snd.fst,
                  x.snd.snd.snd.snd.snd.snd.snd.snd.snd.snd.snd.snd.snd.snd.snd.snd.snd.fst,
                  x.snd.snd.snd.snd.snd.snd.snd.snd.snd.snd.snd.snd.snd.snd.snd.snd.snd.snd.fst,
                  x.snd.snd.snd.snd.snd.snd.snd.snd.snd.snd.snd.snd.snd.snd.snd.snd.snd.snd.snd.fst,
                  x.snd.snd.snd.snd.snd.snd.snd.snd.snd.snd.snd.snd.snd.snd.snd.snd.snd.snd.snd.snd.fst,
                  x.snd.snd.snd.snd.snd.snd.snd.snd.snd.snd.snd.snd.snd.snd.snd.snd.snd.snd.snd.snd.snd.fst,
                  x.snd.snd.snd.snd.snd.snd.snd.snd.snd.snd.snd.snd.snd.snd.snd.snd.snd.snd.snd.snd.snd.snd.fst,
                  x.snd.snd.snd.snd.snd.snd.snd.snd.snd.snd.snd.snd.snd.snd.snd.snd.snd.snd.snd.snd.snd.snd.snd.fst,
                  x.snd.snd.snd.snd.snd.snd.snd.snd.snd.snd.snd.snd.snd.snd.snd.snd.snd.snd.snd.snd.snd.snd.snd.snd.fst,
                  x.snd.snd.snd.snd.snd.snd.snd.snd.snd.snd.snd.snd.snd.snd.snd.snd.snd.snd.snd.snd.snd.snd.snd.snd.snd.fst,
                  x.snd.snd.snd.snd.snd.snd.snd.snd.snd.snd.snd.snd.snd.snd.snd.snd.snd.snd.snd.snd.snd.snd.snd.snd.snd.snd.fst,
                  x.snd.snd.snd.snd.snd.snd.snd.snd.snd.snd.snd.snd.snd.snd.snd.snd.snd.snd.snd.snd.snd.snd.snd.snd.snd.snd.snd.fst,
                  ())).bind
            fun y233 =>
            some
              (Sum.inl
                (y233.fst, y233.snd.fst, y233.snd.snd.fst, y233.snd.snd.snd.fst, y233.snd.snd.snd.snd.fst, y233.snd.snd.snd.snd.snd.fst,
                  y233.snd.snd.snd.snd.snd.snd.fst, y233.snd.snd.snd.snd.snd.snd.snd.fst, y233.snd.snd.snd.snd.snd.snd.snd.snd.fst,
                  y233.snd.snd.snd.snd.snd.snd.snd.snd.snd.fst, y233.snd.snd.snd.snd.snd.snd.snd.snd.snd.snd.fst,
                  y233.snd.snd.snd.snd.snd.snd.snd.snd.snd.snd.snd.fst, y233.snd.snd.snd.snd.snd.snd.snd.snd.snd.snd.snd.snd.fst,
                  y233.snd.snd.snd.snd.snd.snd.snd.snd.snd.snd.snd.snd.snd.fst,
                  y233.snd.snd.snd.snd.snd.snd.snd.snd.snd.snd.snd.snd.snd.snd.fst,
                  y233.snd.snd.snd.snd.snd.snd.snd.snd.snd.snd.snd.snd.snd.snd.snd.fst,
                  y233.snd.snd.snd.snd.snd.snd.snd.snd.snd.snd.snd.snd.snd.snd.snd.snd.fst,
                  y233.snd.snd.snd.snd.snd.snd.snd.snd.snd.snd.snd.snd.snd.snd.snd.snd.snd.fst,
                  y233.snd.snd.snd.snd.snd.snd.snd.snd.snd.snd.snd.snd.snd.snd.snd.snd.snd.snd.fst,
                  y233.snd.snd.snd.snd.snd.snd.snd.snd.snd.snd.snd.snd.snd.snd.snd.snd.snd.snd.snd.fst,
                  y233.snd.snd.snd.snd.snd.snd.snd.snd.snd.snd.snd.snd.snd.snd.snd.snd.snd.snd.snd.snd.fst,
                  y233.snd.snd.snd.snd.snd.snd.snd.snd.snd.snd.snd.snd.snd.snd.snd.snd.snd.snd.snd.snd.snd.fst,
                  y233.snd.snd.snd.snd.snd.snd.snd.snd.snd.snd.snd.snd.snd.snd.snd.snd.snd.snd.snd.snd.snd.snd.fst,
                  y233.snd.snd.snd.snd.snd.snd.snd.snd.snd.snd.snd.snd.snd.snd.snd.snd.snd.snd.snd.snd.snd.snd.snd.fst,
                  y233.snd.snd.snd.snd.snd.snd.snd.snd.snd.snd.snd.snd.snd.snd.snd.snd.snd.snd.snd.snd.snd.snd.snd.snd.fst,
                  y233.snd.snd.snd.snd.snd.snd.snd.snd.snd.snd.snd.snd.snd.snd.snd.snd.snd.snd.snd.snd.snd.snd.snd.snd.snd.fst,
                  y233.snd.snd.snd.snd.snd.snd.snd.snd.snd.snd.snd.snd.snd.snd.snd.snd.snd.snd.snd.snd.snd.snd.snd.snd.snd.snd.fst,
                  y233.snd.snd.snd.snd.snd.snd.snd.snd.snd.snd.snd.snd.snd.snd.snd.snd.snd.snd.snd.snd.snd.snd.snd.snd.snd.snd.snd.fst, ()))
  else none
else
  some
    (Sum.inr
      (x.fst, x.snd.fst, x.snd.snd.fst, x.snd.snd.snd.fst, x.snd.snd.snd.snd.fst, x.snd.snd.snd.snd.snd.fst, x.snd.snd.snd.snd.snd.snd.fst,
        x.snd.snd.snd.snd.snd.snd.snd.fst, x.snd.snd.snd.snd.snd.snd.snd.snd.snd.fst, x.snd.snd.snd.snd.snd.snd.snd.snd.snd.snd.snd.fst,
        x.snd.snd.snd.snd.snd.snd.snd.snd.snd.snd.snd.snd.fst, x.snd.snd.snd.snd.snd.snd.snd.snd.snd.snd.snd.snd.snd.fst,
        x.snd.snd.snd.snd.snd.snd.snd.snd.snd.snd.snd.snd.snd.snd.fst, x.snd.snd.snd.snd.snd.snd.snd.snd.snd.snd.snd.snd.snd.snd.snd.fst,
        x.snd.snd.snd.snd.snd.snd.snd.snd.snd.snd.snd.snd.snd.snd.snd.snd.fst,
        x.snd.snd.snd.snd.snd.snd.snd.snd.snd.snd.snd.snd.snd.snd.snd.snd.snd.fst,
        x.snd.snd.snd.snd.snd.snd.snd.snd.snd.snd.snd.snd.snd.snd.snd.snd.snd.snd.fst,
        x.snd.snd.snd.snd.snd.snd.snd.snd.snd.snd.snd.snd.snd.snd.snd.snd.snd.snd.snd.fst,
        x.snd.snd.snd.snd.snd.snd.snd.snd.snd.snd.snd.snd.snd.snd.snd.snd.snd.snd.snd.snd.fst,
        x.snd.snd.snd.snd.snd.snd.snd.snd.snd.snd.snd.snd.snd.snd.snd.snd.snd.snd.snd.snd.snd.fst,
        x.snd.snd.snd.snd.snd.snd.snd.snd.snd.snd.snd.snd.snd.snd.snd.snd.snd.snd.snd.snd.snd.snd.fst,
        x.snd.snd.snd.snd.snd.snd.snd.snd.snd.snd.snd.snd.snd.snd.snd.snd.snd.snd.snd.snd.snd.snd.snd.fst,
        x.snd.snd.snd.snd.snd.snd.snd.snd.snd.snd.snd.snd.snd.snd.snd.snd.snd.snd.snd.snd.snd.snd.snd.snd.fst,
        x.snd.snd.snd.snd.snd.snd.snd.snd.snd.snd.snd.snd.snd.snd.snd.snd.snd.snd.snd.snd.snd.snd.snd.snd.snd.fst,
        x.snd.snd.snd.snd.snd.snd.snd.snd.snd.snd.snd.snd.snd.snd.snd.snd.snd.snd.snd.snd.snd.snd.snd.snd.snd.snd.fst, ()))
theorem r3_6_run0 (v0 : List Pa) (v1 : List Ev) (v2 : List Po) (v3 : Int) (v4 : Nat) (v5 : Nat) (v6 : Int) (v7 : Int) (v8 : Nat) (v9 : Int) (v10 : Int) (v11 : Int) (v12 : Int) (v13 : List Int) (v14 : Int) (v15 : Int) (v16 : Int) (v17 : Int) (v18 : Int) (v19 : Int) (v20 : Int) (v21 : Int) (v22 : Int) (v23 : Int) (v24 : Int) (v25 : List Pa) (v26 : List Pa) (v27 : List Pa) : roundK tC G3 (look [(94, W3_94)]) c3_6 p3_6 (v0, v1, v2, v3, v4, v5, v6, v7, v8, v9, v10, v11, v12, v13, v14, v15, v16, v17, v18, v19, v20, v21, v22, v23, v24, v25, v26, v27, ()) = r3_6 (v0, v1, v2, v3, v4, v5, v6, v7, v8, v9, v10, v11, v12, v13, v14, v15, v16, v17, v18, v19, v20, v21, v22, v23, v24, v25, v26, v27, ()) := by kernel_rfl
theorem r3_6_run (x : List Pa ×
  List Ev ×
    List Po ×
      Int ×
        Nat ×
          Nat ×
            Int ×
              Int ×
                Nat ×
                  Int ×
                    Int ×
                      Int ×
                        Int ×
                          List Int × Int × Int × Int × Int × Int × Int × Int × Int × Int × Int × Int × List Pa × List Pa × List Pa × Unit) : roundK tC G3 (look [(94, W3_94)]) c3_6 p3_6 x = r3_6 x := r3_6_run0 x.1 x.2.1 x.2.2.1 x.2.2.2.1 x.2.2.2.2.1 x.2.2.2.2.2.1 x.2.2.2.2.2.2.1 x.2.2.2.2.2.2.2.1 x.2.2.2.2.2.2.2.2.1 x.2.2.2.2.2.2.2.2.2.1 x.2.2.2.2.2.2.2.2.2.2.1 x.2.2.2.2.2.2.2.2.2.2.2.1 x.2.2.2.2.2.2.2.2.2.2.2.2.1 x.2.2.2.2.2.2.2.2.2.2.2.2.2.1 x.2.2.2.2.2.2.2.2.2.2.2.2.2.2.1 x.2.2.2.2.2.2.2.2.2.2.2.2.2.2.2.1 x.2.2.2.2.2.2.2.2.2.2.2.2.2.2.2.2.1 x.2.2.2.2.2.2.2.2.2.2.2.2.2.2.2.2.2.1 x.2.2.2.2.2.2.2.2.2.2.2.2.2.2.2.2.2.2.1 x.2.2.2.2.2.2.2.2.2.2.2.2.2.2.2.2.2.2.2.1 x.2.2.2.2.2.2.2.2.2.2.2.2.2.2.2.2.2.2.2.2.1 x.2.2.2.2.2.2.2.2.2.2.2.2.2.2.2.2.2.2.2.2.2.1 x.2.2.2.2.2.2.2.2.2.2.2.2.2.2.2.2.2.2.2.2.2.2.1 x.2.2.2.2.2.2.2.2.2.2.2.2.2.2.2.2.2.2.2.2.2.2.2.1 x.2.2.2.2.2.2.2.2.2.2.2.2.2.2.2.2.2.2.2.2.2.2.2.2.1 x.2.2.2.2.2.2.2.2.2.2.2.2.2.2.2.2.2.2.2.2.2.2.2.2.2.1 x.2.2.2.2.2.2.2.2.2.2.2.2.2.2.2.2.2.2.2.2.2.2.2.2.2.2.1 x.2.2.2.2.2.2.2.2.2.2.2.2.2.2.2.2.2.2.2.2.2.2.2.2.2.2.2.1
noncomputable def l3_6 (x : List Pa ×
  List Ev ×
    List Po ×
      Int ×
        Nat ×
          Nat ×
            Int ×
              Int ×
                Nat ×
                  Int ×
                    Int ×
                      Int ×
                        Int ×
                          List Int × Int × Int × Int × Int × Int × Int × Int × Int × Int × Int × Int × List Pa × List Pa × List Pa × Unit) : Option
  (List Pa ×
    List Ev ×
      List Po ×
        Int ×
          Nat ×
            Nat ×
              Int ×
                Int ×
                  Int × Int × Int × List Int × Int × Int × Int × Int × Int × Int × Int × Int × Int × Int × Int × List Pa × List Pa × Unit) := iterO r3_6 x
noncomputable def W3_6 : LF tC := loopW tC p3_6 2 l3_6
theorem W3_6_ok : keyed 6 (loopOf (bodyOf Tryz.f3) 0) = [.block 2 (.loop c3_6)] ∧ ∀ n, n ≤ 0 → Snd tC n (.block 2 (.loop c3_6)) W3_6.k := ⟨by kernel_rfl, fun n hn => loopW_ok (p := p3_6) (id := 2) Y3 (lam_le (lam_cons W3_94_ok lam_nil) n hn) hn r3_6_run⟩
noncomputable def c3_0 : Code := loopOf (bodyOf Tryz.f3) 0
def p3_0 : LS := ⟨0, [2, 3, 7, 8, 9, 11, 12], ⟨[vB, vB, .one (.one (.imm 42)), .one (.one (.ptr 0 0 0)), vB, vB, vB, .one (.one (.ptr 1 0 0)), .one (.one (.imm 47)), .one (.one (.imm 28)), vB, .one (.one (.sl 2)), vI] ++ vBs 207, [.box [.int .i64, .int .i64, .imm 5, .int .i64, .int .i64, .int .i64, .int .i64, .int .i64, .int .i64, .int .i64], .box [.int .i64, .int .i64, .int .i64, .int .i64], .arr 42]⟩, [⟨.ret, [6], ⟨vBs 6 ++ [vO] ++ vBs 213, []⟩, []⟩, ⟨.exit 0, [], ⟨vBs 220, []⟩, []⟩], []⟩
noncomputable def r3_0 (x : List Pa ×
  List Ev × List Po × Nat × Int × Int × Int × List Int × Int × Int × Int × Int × Int × Int × Int × Int × Int × Int × Int × List Pa × Unit) : Option
  (List Pa ×
      List Ev ×
        List Po × Nat × Int × Int × Int × List Int × Int × Int × Int × Int × Int × Int × Int × Int × Int × Int × Int × List Pa × Unit ⊕
    Bool × Unit ⊕ Unit) :=
  bif decide (x.snd.snd.snd.snd.fst < (↑x.snd.fst.length : Int)) then
  (idxO x.snd.fst x.snd.snd.snd.snd.fst).bind fun y277 =>
    bif y277.B then some (Sum.inr (Sum.inl (true, ())))
    else
      (idxO x.snd.fst x.snd.snd.snd.snd.fst).bind fun y276 =>
        bif
            decide
              ((0 : Nat) + x.snd.snd.snd.fst ≤
                x.snd.snd.snd.snd.snd.snd.snd.snd.snd.snd.snd.snd.snd.snd.snd.snd.snd.snd.snd.fst.length) then
          (f8
                (List.take x.snd.snd.snd.fst
                    (List.drop (0 : Nat) x.snd.snd.snd.snd.snd.snd.snd.snd.snd.snd.snd.snd.snd.snd.snd.snd.snd.snd.snd.fst),
                  y276.U, y276.F, x.snd.snd.snd.snd.snd.snd.snd.snd.snd.snd.snd.snd.snd.snd.snd.fst,
                  x.snd.snd.snd.snd.snd.snd.snd.snd.snd.snd.snd.snd.snd.snd.snd.snd.fst,
                  x.snd.snd.snd.snd.snd.snd.snd.snd.snd.snd.snd.snd.snd.snd.snd.snd.snd.fst,
                  x.snd.snd.snd.snd.snd.snd.snd.snd.snd.snd.snd.snd.snd.snd.snd.snd.snd.snd.fst, IntKind.u64.wrap x.snd.snd.snd.snd.fst,
                  ())).bind
            fun y275 =>
            bif y275.snd.snd.fst != (0 : Int) then
              bif y275.snd.snd.fst == (1 : Int) then some (Sum.inr (Sum.inl (decide ((↑x.fst.length : Int) > (0 : Int)), ())))
              else some (Sum.inr (Sum.inl (false, ())))
            else
              (idxO x.snd.fst x.snd.snd.snd.snd.fst).bind fun y274 =>
                bif decide ((0 : Nat) + y275.fst ≤ y275.snd.snd.snd.fst.length) then
                  (f9
                        (List.take y275.fst (List.drop (0 : Nat) y275.snd.snd.snd.fst), x.snd.snd.snd.snd.snd.fst,
                          x.snd.snd.snd.snd.snd.snd.fst, x.snd.snd.snd.snd.snd.snd.snd.fst, y274.S,
                          x.snd.snd.snd.snd.snd.snd.snd.snd.snd.snd.snd.snd.snd.snd.snd.snd.snd.snd.fst, ())).bind
                    fun y273 =>
                    bif y273.snd.fst != (0 : Int) then some (Sum.inr (Sum.inl (false, ())))
                    else
                      bif (↑y273.fst : Int) != (↑x.snd.snd.snd.fst : Int) then some (Sum.inr (Sum.inl (false, ())))
                      else
                        bif true && decide ((0 : Int) < (↑y273.fst : Int)) then
                          y273.snd.snd.fst[(0 : Nat)]?.bind fun y272 =>
                            (idxO x.snd.snd.fst x.snd.snd.snd.snd.fst).bind fun y271 =>
                              bif
                                  !bif y272.X == y271.X then bif y272.Y == y271.Y then bif y272.H == y271.H then true else false else false
                                    else false then
                                some (Sum.inr (Sum.inl (false, ())))
                              else
                                (idxO x.snd.fst x.snd.snd.snd.snd.fst).bind fun y270 =>
                                  bif decide ((0 : Nat) + y273.fst ≤ y273.snd.snd.fst.length) then
                                    (f10 (List.take y273.fst (List.drop (0 : Nat) y273.snd.snd.fst), ())).bind fun y269 =>
                                      bif !y269.snd.snd.snd.snd.fst then some (Sum.inr (Sum.inl (false, ())))
                                      else
                                        bif true && decide ((0 : Int) < (↑y273.fst : Int)) then
                                          y273.snd.snd.fst[(0 : Nat)]?.bind fun y268 =>
                                            bif
                                                y268.W !=
                                                  IntKind.i64.wrap
                                                    (IntKind.i64.wrap ((1 : Int) + (↑y270.S.length : Int)) *
                                                      IntKind.i64.wrap ((1 : Int) + (↑y270.S.length : Int))) then
                                              some (Sum.inr (Sum.inl (false, ())))
                                            else
                                              bif true && decide ((0 : Int) < (↑y273.fst : Int)) then
                                                y273.snd.snd.fst[(0 : Nat)]?.bind fun y267 =>
                                                  bif y269.snd.snd.snd.fst != y267.W then some (Sum.inr (Sum.inl (false, ())))
                                                  else
                                                    bif decide ((0 : Nat) + y273.fst ≤ y273.snd.snd.fst.length) then
                                                      (f11 (List.take y273.fst (List.drop (0 : Nat) y273.snd.snd.fst), ())).bind fun y266 =>
                                                        bif y266.fst == (0 : Int) then none
                                                        else
                                                          bif decide ((0 : Nat) + y273.fst ≤ y273.snd.snd.fst.length) then
                                                            (f12
                                                                  (List.take y273.fst (List.drop (0 : Nat) y273.snd.snd.fst),
                                                                    IntKind.i64.wrap ((1 : Int) + x.snd.snd.snd.snd.fst),
                                                                    x.snd.snd.snd.snd.fst.tmod y266.fst, ())).bind
                                                              fun y265 =>
                                                              bif y265.snd.fst != (0 : Int) then some (Sum.inr (Sum.inl (false, ())))
                                                              else
                                                                bif
                                                                    (↑y265.fst : Int) !=
                                                                      IntKind.i64.wrap ((1 : Int) + x.snd.snd.snd.snd.fst) then
                                                                  some (Sum.inr (Sum.inl (false, ())))
                                                                else
                                                                  (l3_6
                                                                        (x.fst, x.snd.fst, x.snd.snd.fst, x.snd.snd.snd.snd.fst, y275.fst,
                                                                          y273.fst, y266.fst,
                                                                          IntKind.i64.wrap ((1 : Int) + x.snd.snd.snd.snd.fst), y265.fst,
                                                                          (0 : Int), (0 : Int), x.snd.snd.snd.snd.snd.fst,
                                                                          x.snd.snd.snd.snd.snd.snd.fst, x.snd.snd.snd.snd.snd.snd.snd.fst,
                                                                          x.snd.snd.snd.snd.snd.snd.snd.snd.fst,
                                                                          x.snd.snd.snd.snd.snd.snd.snd.snd.snd.fst,
                                                                          x.snd.snd.snd.snd.snd.snd.snd.snd.snd.snd.fst,
                                                                          x.snd.snd.snd.snd.snd.snd.snd.snd.snd.snd.snd.fst,
                                                                          x.snd.snd.snd.snd.snd.snd.snd.snd.snd.snd.snd.snd.fst,
                                                                          x.snd.snd.snd.snd.snd.snd.snd.snd.snd.snd.snd.snd.snd.fst,
                                                                          x.snd.snd.snd.snd.snd.snd.snd.snd.snd.snd.snd.snd.snd.snd.fst,
                                                                          x.snd.snd.snd.snd.snd.snd.snd.snd.snd.snd.snd.snd.snd.snd.snd.fst,
                                                                          x.snd.snd.snd.snd.snd.snd.snd.snd.snd.snd.snd.snd.snd.snd.snd.snd.fst,
                                                                          x.snd.snd.snd.snd.snd.snd.snd.snd.snd.snd.snd.snd.snd.snd.snd.snd.snd.fst,
                                                                          x.snd.snd.snd.snd.snd.snd.snd.snd.snd.snd.snd.snd.snd.snd.snd.snd.snd.snd.fst,
                                                                          y275.snd.snd.snd.fst, y273.snd.snd.fst, y265.snd.snd.fst,
                                                                          ())).bind
                                                                    fun y264 =>
                                                                    bif
                                                                        true &&
                                                                          decide ((0 : Int) < (↑y264.snd.snd.snd.snd.snd.fst : Int)) then
                                                                      y264.snd.snd.snd.snd.snd.snd.snd.snd.snd.snd.snd.snd.snd.snd.snd.snd.snd.snd.snd.snd.snd.snd.snd.snd.fst[(0 :
                                                                              Nat)]?.bind
                                                                        fun y263 =>
                                                                        bif y264.snd.snd.snd.snd.snd.snd.fst == (0 : Int) then none
                                                                        else
                                                                          bif
                                                                              decide
                                                                                (y264.snd.snd.snd.snd.snd.snd.snd.snd.fst <
                                                                                  IntKind.i64.wrap
                                                                                    ((IntKind.i64.wrap
                                                                                          (y264.snd.snd.snd.snd.snd.snd.snd.fst *
                                                                                            y263.W)).tdiv
                                                                                      y264.snd.snd.snd.snd.snd.snd.fst)) then
                                                                            some (Sum.inr (Sum.inl (false, ())))
                                                                          else
                                                                            some
                                                                              (Sum.inl
                                                                                (y264.fst, y264.snd.fst, y264.snd.snd.fst,
                                                                                  y264.snd.snd.snd.snd.fst,
                                                                                  IntKind.i64.wrap (y264.snd.snd.snd.fst + (1 : Int)),
                                                                                  y264.snd.snd.snd.snd.snd.snd.snd.snd.snd.fst,
                                                                                  y264.snd.snd.snd.snd.snd.snd.snd.snd.snd.snd.fst,
                                                                                  y264.snd.snd.snd.snd.snd.snd.snd.snd.snd.snd.snd.fst,
                                                                                  y264.snd.snd.snd.snd.snd.snd.snd.snd.snd.snd.snd.snd.fst,
                                                                                  y264.snd.snd.snd.snd.snd.snd.snd.snd.snd.snd.snd.snd.snd.fst,
                                                                                  y264.snd.snd.snd.snd.snd.snd.snd.snd.snd.snd.snd.snd.snd.snd.fst,
                                                                                  y264.snd.snd.snd.snd.snd.snd.snd.snd.snd.snd.snd.snd.snd.snd.snd.fst,
                                                                                  y264.snd.snd.snd.snd.snd.snd.snd.snd.snd.snd.snd.snd.snd.snd.snd.snd.fst,
                                                                                  y264.snd.snd.snd.snd.snd.snd.snd.snd.snd.snd.snd.snd.snd.snd.snd.snd.snd.fst,
                                                                                  y264.snd.snd.snd.snd.snd.snd.snd.snd.snd.snd.snd.snd.snd.snd.snd.snd.snd.snd.fst,
                                                                                  y264.snd.snd.snd.snd.snd.snd.snd.snd.snd.snd.snd.snd.snd.snd.snd.snd.snd.snd.snd.fst,
                                                                                  y264.snd.snd.snd.snd.snd.snd.snd.snd.snd.snd.snd.snd.snd.snd.snd.snd.snd.snd.snd.snd.fst,
                                                                                  y264.snd.snd.snd.snd.snd.snd.snd.snd.snd.snd.snd.snd.snd.snd.snd.snd.snd.snd.snd.snd.snd.fst,
                                                                                  y264.snd.snd.snd.snd.snd.snd.snd.snd.snd.snd.snd.snd.snd.snd.snd.snd.snd.snd.snd.snd.snd.snd.fst,
                                                                                  y264.snd.snd.snd.snd.snd.snd.snd.snd.snd.snd.snd.snd.snd.snd.snd.snd.snd.snd.snd.snd.snd.snd.snd.fst,
                                                                                  ()))
                                                                    else none
                                                          else none
                                                    else none
                                              else none
                                        else none
                                  else none
                        else none
                else none
        else none
else some (Sum.inr (Sum.inr ()))
theorem r3_0_run0 (v0 : List Pa) (v1 : List Ev) (v2 : List Po) (v3 : Nat) (v4 : Int) (v5 : Int) (v6 : Int) (v7 : List Int) (v8 : Int) (v9 : Int) (v10 : Int) (v11 : Int) (v12 : Int) (v13 : Int) (v14 : Int) (v15 : Int) (v16 : Int) (v17 : Int) (v18 : Int) (v19 : List Pa) : roundK tC G3 (look [(6, W3_6)]) c3_0 p3_0 (v0, v1, v2, v3, v4, v5, v6, v7, v8, v9, v10, v11, v12, v13, v14, v15, v16, v17, v18, v19, ()) = r3_0 (v0, v1, v2, v3, v4, v5, v6, v7, v8, v9, v10, v11, v12, v13, v14, v15, v16, v17, v18, v19, ()) := by kernel_rfl
theorem r3_0_run (x : List Pa ×
  List Ev × List Po × Nat × Int × Int × Int × List Int × Int × Int × Int × Int × Int × Int × Int × Int × Int × Int × Int × List Pa × Unit) : roundK tC G3 (look [(6, W3_6)]) c3_0 p3_0 x = r3_0 x := r3_0_run0 x.1 x.2.1 x.2.2.1 x.2.2.2.1 x.2.2.2.2.1 x.2.2.2.2.2.1 x.2.2.2.2.2.2.1 x.2.2.2.2.2.2.2.1 x.2.2.2.2.2.2.2.2.1 x.2.2.2.2.2.2.2.2.2.1 x.2.2.2.2.2.2.2.2.2.2.1 x.2.2.2.2.2.2.2.2.2.2.2.1 x.2.2.2.2.2.2.2.2.2.2.2.2.1 x.2.2.2.2.2.2.2.2.2.2.2.2.2.1 x.2.2.2.2.2.2.2.2.2.2.2.2.2.2.1 x.2.2.2.2.2.2.2.2.2.2.2.2.2.2.2.1 x.2.2.2.2.2.2.2.2.2.2.2.2.2.2.2.2.1 x.2.2.2.2.2.2.2.2.2.2.2.2.2.2.2.2.2.1 x.2.2.2.2.2.2.2.2.2.2.2.2.2.2.2.2.2.2.1 x.2.2.2.2.2.2.2.2.2.2.2.2.2.2.2.2.2.2.2.1
noncomputable def l3_0 (x : List Pa ×
  List Ev × List Po × Nat × Int × Int × Int × List Int × Int × Int × Int × Int × Int × Int × Int × Int × Int × Int × Int × List Pa × Unit) : Option (Bool × Unit ⊕ Unit) := iterO r3_0 x
noncomputable def W3_0 : LF tC := loopW tC p3_0 0 l3_0
theorem W3_0_ok : keyed 0 (bodyOf Tryz.f3) = [.block 0 (.loop c3_0)] ∧ ∀ n, n ≤ 0 → Snd tC n (.block 0 (.loop c3_0)) W3_0.k := ⟨by kernel_rfl, fun n hn => loopW_ok (p := p3_0) (id := 0) Y3 (lam_le (lam_cons W3_6_ok lam_nil) n hn) hn r3_0_run⟩
def S3 : FS := ⟨[[.v, .v, .s 5, .v, .v, .v, .v, .v, .v, .v], [.s 62], [.s 42]], [⟨[.one (.agg [.int .i64, .int .i64, .imm 5, .int .i64, .int .i64, .int .i64, .int .i64, .int .i64, .int .i64, .int .i64]), .one (.one (.imm 62)), .one (.one (.imm 42))], []⟩], [⟨[vO], []⟩], [[.v]], []⟩
noncomputable def f3 (x : Int × Int × List Int × Int × Int × Int × Int × Int × Int × Int × List Ax × List Pa × Unit) : Option (Bool × Unit) :=
  (f4 ()).bind fun y288 =>
  bif !y288.fst then (f4 ()).bind fun y280 => some (y280.fst, ())
  else
    (f5
          (x.fst, x.snd.fst, x.snd.snd.fst, x.snd.snd.snd.fst, x.snd.snd.snd.snd.fst, x.snd.snd.snd.snd.snd.fst,
            x.snd.snd.snd.snd.snd.snd.fst, x.snd.snd.snd.snd.snd.snd.snd.fst, x.snd.snd.snd.snd.snd.snd.snd.snd.fst,
            x.snd.snd.snd.snd.snd.snd.snd.snd.snd.fst, x.snd.snd.snd.snd.snd.snd.snd.snd.snd.snd.fst, ())).bind
      fun y287 =>
      bif !y287.fst then (f4 ()).bind fun y281 => some (y281.fst, ())
      else
        bif decide ((↑x.snd.snd.snd.snd.snd.snd.snd.snd.snd.snd.snd.fst.length : Int) > (5 : Int)) then
          (f4 ()).bind fun y282 => some (y282.fst, ())
        else
          (f7
                (x.fst, x.snd.fst, x.snd.snd.fst, (0 : Int), (0 : Int), (0 : Int), f6 x.snd.snd.snd.snd.snd.snd.fst (1 : Int) (32 : Int),
                  x.snd.snd.snd.snd.snd.snd.snd.fst, x.snd.snd.snd.snd.snd.snd.snd.snd.fst, x.snd.snd.snd.snd.snd.snd.snd.snd.snd.fst,
                  x.snd.snd.snd.snd.snd.snd.snd.snd.snd.snd.fst, ())).bind
            fun y286 =>
            bif y286.snd.snd.fst != (0 : Int) then some ((↑y286.fst.length : Int) == (0 : Int), ())
            else
              bif roomy ((1 : Nat) + x.snd.snd.snd.snd.snd.snd.snd.snd.snd.snd.snd.fst.length) (32 : Nat) then
                (l3_0
                      (x.snd.snd.snd.snd.snd.snd.snd.snd.snd.snd.snd.fst, y286.fst, y286.snd.fst,
                        (1 : Nat) + x.snd.snd.snd.snd.snd.snd.snd.snd.snd.snd.snd.fst.length, (0 : Int), x.fst, x.snd.fst, x.snd.snd.fst,
                        x.snd.snd.snd.fst, x.snd.snd.snd.snd.fst, x.snd.snd.snd.snd.snd.fst, x.snd.snd.snd.snd.snd.snd.fst,
                        x.snd.snd.snd.snd.snd.snd.snd.fst, x.snd.snd.snd.snd.snd.snd.snd.snd.fst, x.snd.snd.snd.snd.snd.snd.snd.snd.snd.fst,
                        (0 : Int), (0 : Int), (0 : Int), f6 x.snd.snd.snd.snd.snd.snd.fst (1 : Int) (32 : Int),
                        Pa.mk x.snd.snd.snd.snd.snd.snd.snd.fst x.snd.snd.snd.snd.snd.snd.snd.snd.fst
                            x.snd.snd.snd.snd.snd.snd.snd.snd.snd.fst (1 : Int) ::
                          List.append [] x.snd.snd.snd.snd.snd.snd.snd.snd.snd.snd.snd.fst,
                        ())).bind
                  fun y285 => Sum.elim (fun y283 => some (y283.fst, ())) (fun _x => some (true, ())) y285
              else none
noncomputable def F3 : CF tC := mkF tC S3 f3
theorem f3_run : ∀ a, fnS tC G3 (look [(0, W3_0)]) Tryz.f3 S3 a = f3 a := fun a => by kernel_rfl
theorem F3_ok : CFOK tC 3 F3 := mkF_ok Y3 (fn := Tryz.f3) (body := bodyOf Tryz.f3) (by kernel_rfl) (by kernel_rfl) (by kernel_rfl) (m := 0) rfl (lam_le (lam_cons W3_0_ok lam_nil)) f3_run
end Go.AE
