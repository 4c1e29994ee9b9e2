/-
  The plain functions that the seat's Go functions compute, each with the proof that the function keeps it. Printed by the generator (Gen2) and checked by the kernel.
-/
import Derived.Test.YtilmnpkjlaamlaaCfgT
namespace Go.AE
open Go.Proofs Go.RowKit
set_option maxRecDepth 100000

/-! plan.size -/
noncomputable def G47 : FuncId → Option (CF tC) := look []
theorem Y47 : SysN tC G47 := (sys_nil tC_ok tC_eq)
def S47 : FS := ⟨[[.v]], [⟨[vI], []⟩], [⟨[vO], []⟩], [[.v]], []⟩
def f47 (n1 : Int) : Bool :=
  bif decide (n1 ≥ (1 : Int)) then decide (n1 ≤ (64 : Int)) else false
noncomputable def F47 : CF tC := mkF tC S47 (fun a => some ((f47 a.1), ()))
def h47 (r : Bool) : Option (altTy tE S47.outs) := some (r, ())
theorem f47_run : ∀ a, fnS tC G47 (look []) Try.f47 S47 a = (fun a => some ((f47 a.1), ())) a := fun a => by
  have key : ∀ (n1 : Int), (bif decide (n1 ≥ (1 : Int)) then h47 (decide (n1 ≤ (64 : Int))) else h47 false) = h47 (f47 n1) := by
    intros
    unfold f47
    repeat' first | rfl | refine cond_h (g := h47) ?_ ?_
  exact Eq.trans (by kernel_rfl) (key a.1)
theorem F47_ok : CFOK tC 47 F47 := mkF_ok Y47 (fn := Try.f47) (body := bodyOf Try.f47) (by kernel_rfl) (by kernel_rfl) (by kernel_rfl) (m := 0) rfl (lam_le lam_nil) f47_run

/-! slices.Max -/
noncomputable def G48 : FuncId → Option (CF tC) := look []
theorem Y48 : SysN tC G48 := (sys_nil tC_ok tC_eq)
noncomputable def c48_0 : Code := loopOf (bodyOf Try.f48) 0
def p48_0 : LS := ⟨0, [0, 3, 4], ⟨[.one (.one (.imm 5)), vB, vB, .one (.one (.int .u8)), vI] ++ vBs 20, []⟩, [⟨.exit 0, [3], ⟨[vB, vB, vB, .one (.one (.int .u8))] ++ vBs 21, []⟩, []⟩], []⟩
noncomputable def r48_0 (x : List Int × Int × Int × Unit) : Option (List Int × Int × Int × Unit ⊕ Int × Unit) :=
  bif decide (x.snd.snd.fst < (↑x.fst.length : Int)) then
  (idxO x.fst x.snd.snd.fst).bind fun y8 =>
    some (Sum.inl (x.fst, bif decide (y8 > x.snd.fst) then y8 else x.snd.fst, IntKind.i64.wrap (x.snd.snd.fst + (1 : Int)), ()))
else some (Sum.inr (x.snd.fst, ()))
theorem r48_0_run0 (v0 : List Int) (v1 : Int) (v2 : Int) : roundK tC G48 (look []) c48_0 p48_0 (v0, v1, v2, ()) = r48_0 (v0, v1, v2, ()) := by kernel_rfl
theorem r48_0_run (x : List Int × Int × Int × Unit) : roundK tC G48 (look []) c48_0 p48_0 x = r48_0 x := r48_0_run0 x.1 x.2.1 x.2.2.1
noncomputable def l48_0 (x : List Int × Int × Int × Unit) : Option (Int × Unit) := iterO r48_0 x
noncomputable def W48_0 : LF tC := loopW tC p48_0 0 l48_0
theorem W48_0_ok : keyed 0 (bodyOf Try.f48) = [.block 0 (.loop c48_0)] ∧ ∀ n, n ≤ 0 → Snd tC n (.block 0 (.loop c48_0)) W48_0.k := ⟨by kernel_rfl, fun n hn => loopW_ok (p := p48_0) (id := 0) Y48 (lam_le lam_nil n hn) hn r48_0_run⟩
def S48 : FS := ⟨[[.s 5]], [⟨[.one (.one (.imm 5))], []⟩], [⟨[.one (.one (.int .u8))], []⟩], [[.v]], []⟩
noncomputable def f48 (x : List Int × Unit) : Option (Int × Unit) :=
  bif decide ((↑x.fst.length : Int) < (1 : Int)) then none
else (idxO x.fst (0 : Int)).bind fun y12 => (l48_0 (x.fst, y12, (1 : Int), ())).bind fun y11 => some (y11.fst, ())
noncomputable def F48 : CF tC := mkF tC S48 f48
theorem f48_run : ∀ a, fnS tC G48 (look [(0, W48_0)]) Try.f48 S48 a = f48 a := fun a => by kernel_rfl
theorem F48_ok : CFOK tC 48 F48 := mkF_ok Y48 (fn := Try.f48) (body := bodyOf Try.f48) (by kernel_rfl) (by kernel_rfl) (by kernel_rfl) (m := 0) rfl (lam_le (lam_cons W48_0_ok lam_nil)) f48_run

/-! plan.Valid -/
noncomputable def G32 : FuncId → Option (CF tC) := look [(47, F47), (48, F48)]
theorem Y32 : SysN tC G32 := (sys_cons F47_ok (mkF_nat _ _) (sys_cons F48_ok (mkF_nat _ _) (sys_nil tC_ok tC_eq)))
def S32 : FS := ⟨[[.v, .v, .s 5]], [⟨[.one (.agg [.int .i64, .int .i64, .imm 5])], []⟩], [⟨[vO], []⟩], [[.v]], []⟩
noncomputable def f32 (x : Int × Int × List Int × Unit) : Option (Bool × Unit) :=
  bif !f47 x.fst then some (false, ())
else
  bif !f47 x.snd.fst then some (false, ())
  else
    bif (↑x.snd.snd.fst.length : Int) != IntKind.i64.wrap (x.fst * x.snd.fst) then some (false, ())
    else
      bif (↑x.snd.snd.fst.length : Int) == (0 : Int) then some (true, ())
      else (f48 (x.snd.snd.fst, ())).bind fun y6 => some (decide (y6.fst ≤ (2 : Int)), ())
noncomputable def F32 : CF tC := mkF tC S32 f32
theorem f32_run : ∀ a, fnS tC G32 (look []) Try.f32 S32 a = f32 a := fun a => by kernel_rfl
theorem F32_ok : CFOK tC 32 F32 := mkF_ok Y32 (fn := Try.f32) (body := bodyOf Try.f32) (by kernel_rfl) (by kernel_rfl) (by kernel_rfl) (m := 0) rfl (lam_le lam_nil) f32_run

/-! path.free -/
noncomputable def G40 : FuncId → Option (CF tC) := look []
theorem Y40 : SysN tC G40 := (sys_nil tC_ok tC_eq)
def S40 : FS := ⟨[[.v, .v, .s 5], [.v, .v]], [⟨[.one (.agg [.int .i64, .int .i64, .imm 5]), .one (.agg [.int .i64, .int .i64])], []⟩], [⟨[vO], []⟩], [[.v]], []⟩
noncomputable def f40 (x : Int × Int × List Int × Int × Int × Unit) : Option (Bool × Unit) :=
  bif decide (x.snd.snd.snd.fst ≥ (0 : Int)) then
  bif decide (x.snd.snd.snd.snd.fst ≥ (0 : Int)) then
    bif decide (x.snd.snd.snd.fst < x.fst) then
      bif decide (x.snd.snd.snd.snd.fst < x.snd.fst) then
        (idxO x.snd.snd.fst (IntKind.i64.wrap (IntKind.i64.wrap (x.snd.snd.snd.snd.fst * x.fst) + x.snd.snd.snd.fst))).bind fun y8 =>
          some (y8 == (1 : Int), ())
      else some (false, ())
    else some (false, ())
  else some (false, ())
else some (false, ())
noncomputable def F40 : CF tC := mkF tC S40 f40
theorem f40_run : ∀ a, fnS tC G40 (look []) Try.f40 S40 a = f40 a := fun a => by kernel_rfl
theorem F40_ok : CFOK tC 40 F40 := mkF_ok Y40 (fn := Try.f40) (body := bodyOf Try.f40) (by kernel_rfl) (by kernel_rfl) (by kernel_rfl) (m := 0) rfl (lam_le lam_nil) f40_run

/-! path.turns -/
noncomputable def G42 : FuncId → Option (CF tC) := look []
theorem Y42 : SysN tC G42 := (sys_nil tC_ok tC_eq)
def S42 : FS := ⟨[], [⟨[], []⟩], [⟨[.one (.agg [.lit .i64 1, .lit .i64 0, .lit .i64 1, .lit .i64 1, .lit .i64 0, .lit .i64 1, .lit .i64 (-1), .lit .i64 1, .lit .i64 (-1), .lit .i64 0, .lit .i64 (-1), .lit .i64 (-1), .lit .i64 0, .lit .i64 (-1), .lit .i64 1, .lit .i64 (-1)])], []⟩], [[.v, .v, .v, .v, .v, .v, .v, .v, .v, .v, .v, .v, .v, .v, .v, .v]], []⟩
def f42  : Unit :=
  ()
noncomputable def F42 : CF tC := mkF tC S42 (fun _ => some ())
theorem f42_run : ∀ a, fnS tC G42 (look []) Try.f42 S42 a = (fun _ => some ()) a := fun a => by kernel_rfl
theorem F42_ok : CFOK tC 42 F42 := mkF_ok Y42 (fn := Try.f42) (body := bodyOf Try.f42) (by kernel_rfl) (by kernel_rfl) (by kernel_rfl) (m := 0) rfl (lam_le lam_nil) f42_run

/-! path.cost -/
noncomputable def G43 : FuncId → Option (CF tC) := look [(40, F40)]
theorem Y43 : SysN tC G43 := (sys_cons F40_ok (mkF_nat _ _) (sys_nil tC_ok tC_eq))
noncomputable def c43_25 : Code := subCode (bodyOf Try.f43) 25
def p43_25 : PS := ⟨0, [6, 9], ⟨vBs 6 ++ [.one (.one (.ptr 0 0 0)), vB, vB, .one (.one (.ptr 1 0 0))] ++ vBs 52, [.box [.int .i64, .int .i64], .box [.int .i64, .int .i64]]⟩, [⟨.ret, [6, 7, 8], ⟨vBs 6 ++ [.one (.one (.ptr 0 0 0)), vI, vO] ++ vBs 53, [.box [.int .i64, .int .i64]]⟩, []⟩], []⟩
noncomputable def j43_25 (x : Int × Int × Int × Int × Unit) : Option (Int × Bool × Int × Int × Unit) :=
  some ((0 : Int), false, x.snd.snd.fst, x.snd.snd.snd.fst, ())
theorem j43_25_run0 (v0 : Int) (v1 : Int) (v2 : Int) (v3 : Int) : pieceK tC G43 (look []) c43_25 p43_25 (v0, v1, v2, v3, ()) = j43_25 (v0, v1, v2, v3, ()) := by kernel_rfl
theorem j43_25_run (x : Int × Int × Int × Int × Unit) : pieceK tC G43 (look []) c43_25 p43_25 x = j43_25 x := j43_25_run0 x.1 x.2.1 x.2.2.1 x.2.2.2.1
noncomputable def W43_25 : LF tC := cutLF tC p43_25 j43_25
theorem W43_25_ok : keyed 25 (bodyOf Try.f43) = [c43_25] ∧ ∀ n, n ≤ 0 → Snd tC n c43_25 W43_25.k := ⟨by kernel_rfl, fun n hn => cut_ok (p := p43_25) Y43 (lam_le lam_nil n hn) hn j43_25_run⟩
def S43 : FS := ⟨[[.v, .v, .s 5], [.v, .v], [.v, .v]], [⟨[.one (.agg [.int .i64, .int .i64, .imm 5]), .one (.agg [.int .i64, .int .i64]), .one (.agg [.int .i64, .int .i64])], []⟩], [⟨[.tup [.agg [.int .i64, .int .i64], .one (.int .i64), .one .bool]], []⟩], [[.v, .v], [.v], [.v]], []⟩
noncomputable def f43 (x : Int × Int × List Int × Int × Int × Int × Int × Unit) : Option (Int × Int × Int × Bool × Unit) :=
  (f40 (x.fst, x.snd.fst, x.snd.snd.fst, x.snd.snd.snd.fst, x.snd.snd.snd.snd.fst, ())).bind fun y37 =>
  bif !y37.fst then
    some
      (IntKind.i64.wrap (x.snd.snd.snd.fst + x.snd.snd.snd.snd.snd.fst),
        IntKind.i64.wrap (x.snd.snd.snd.snd.fst + x.snd.snd.snd.snd.snd.snd.fst), (0 : Int), false, ())
  else
    (f40
          (x.fst, x.snd.fst, x.snd.snd.fst, IntKind.i64.wrap (x.snd.snd.snd.fst + x.snd.snd.snd.snd.snd.fst),
            IntKind.i64.wrap (x.snd.snd.snd.snd.fst + x.snd.snd.snd.snd.snd.snd.fst), ())).bind
      fun y36 =>
      bif !y36.fst then
        some
          (IntKind.i64.wrap (x.snd.snd.snd.fst + x.snd.snd.snd.snd.snd.fst),
            IntKind.i64.wrap (x.snd.snd.snd.snd.fst + x.snd.snd.snd.snd.snd.snd.fst), (0 : Int), false, ())
      else
        bif x.snd.snd.snd.snd.snd.fst == (0 : Int) then
          some
            (IntKind.i64.wrap (x.snd.snd.snd.fst + x.snd.snd.snd.snd.snd.fst),
              IntKind.i64.wrap (x.snd.snd.snd.snd.fst + x.snd.snd.snd.snd.snd.snd.fst), (70 : Int), true, ())
        else
          bif x.snd.snd.snd.snd.snd.snd.fst == (0 : Int) then
            some
              (IntKind.i64.wrap (x.snd.snd.snd.fst + x.snd.snd.snd.snd.snd.fst),
                IntKind.i64.wrap (x.snd.snd.snd.snd.fst + x.snd.snd.snd.snd.snd.snd.fst), (70 : Int), true, ())
          else
            (f40
                  (x.fst, x.snd.fst, x.snd.snd.fst, IntKind.i64.wrap (x.snd.snd.snd.fst + x.snd.snd.snd.snd.snd.fst), x.snd.snd.snd.snd.fst,
                    ())).bind
              fun y35 =>
              bif y35.fst then
                (f40
                      (x.fst, x.snd.fst, x.snd.snd.fst, x.snd.snd.snd.fst,
                        IntKind.i64.wrap (x.snd.snd.snd.snd.fst + x.snd.snd.snd.snd.snd.snd.fst), ())).bind
                  fun y33 =>
                  bif y33.fst then
                    some
                      (IntKind.i64.wrap (x.snd.snd.snd.fst + x.snd.snd.snd.snd.snd.fst),
                        IntKind.i64.wrap (x.snd.snd.snd.snd.fst + x.snd.snd.snd.snd.snd.snd.fst), (99 : Int), true, ())
                  else
                    (j43_25
                          ((0 : Int), (0 : Int), IntKind.i64.wrap (x.snd.snd.snd.fst + x.snd.snd.snd.snd.snd.fst),
                            IntKind.i64.wrap (x.snd.snd.snd.snd.fst + x.snd.snd.snd.snd.snd.snd.fst), ())).bind
                      fun y32 => some (y32.snd.snd.fst, y32.snd.snd.snd.fst, y32.fst, y32.snd.fst, ())
              else
                (j43_25
                      ((0 : Int), (0 : Int), IntKind.i64.wrap (x.snd.snd.snd.fst + x.snd.snd.snd.snd.snd.fst),
                        IntKind.i64.wrap (x.snd.snd.snd.snd.fst + x.snd.snd.snd.snd.snd.snd.fst), ())).bind
                  fun y34 => some (y34.snd.snd.fst, y34.snd.snd.snd.fst, y34.fst, y34.snd.fst, ())
noncomputable def F43 : CF tC := mkF tC S43 f43
theorem f43_run : ∀ a, fnS tC G43 (look [(25, W43_25)]) Try.f43 S43 a = f43 a := fun a => by kernel_rfl
theorem F43_ok : CFOK tC 43 F43 := mkF_ok Y43 (fn := Try.f43) (body := bodyOf Try.f43) (by kernel_rfl) (by kernel_rfl) (by kernel_rfl) (m := 0) rfl (lam_le (lam_cons W43_25_ok lam_nil)) f43_run

/-! bits.Mul64 -/
noncomputable def G61 : FuncId → Option (CF tC) := look []
theorem Y61 : SysN tC G61 := (sys_nil tC_ok tC_eq)
def S61 : FS := ⟨[[.v], [.v]], [⟨[.one (.one (.int .u64)), .one (.one (.int .u64))], []⟩], [⟨[.tup [.one (.int .u64), .one (.int .u64)]], []⟩], [[.v], [.v]], []⟩
def f61 (n1 : Int) (n2 : Int) : Int × Int :=
  (IntKind.u64.wrap
    (IntKind.u64.wrap
        (IntKind.u64.wrap (n1.fdiv (4294967296 : Int) * n2.fdiv (4294967296 : Int)) +
          (IntKind.u64.wrap
                (IntKind.u64.wrap (n1.fdiv (4294967296 : Int) * bits BinOp.and IntKind.u64 n2 (4294967295 : Int)) +
                  (IntKind.u64.wrap
                        (bits BinOp.and IntKind.u64 n1 (4294967295 : Int) * bits BinOp.and IntKind.u64 n2 (4294967295 : Int))).fdiv
                    (4294967296 : Int))).fdiv
            (4294967296 : Int)) +
      (IntKind.u64.wrap
            (bits BinOp.and IntKind.u64
                (IntKind.u64.wrap
                  (IntKind.u64.wrap (n1.fdiv (4294967296 : Int) * bits BinOp.and IntKind.u64 n2 (4294967295 : Int)) +
                    (IntKind.u64.wrap
                          (bits BinOp.and IntKind.u64 n1 (4294967295 : Int) * bits BinOp.and IntKind.u64 n2 (4294967295 : Int))).fdiv
                      (4294967296 : Int)))
                (4294967295 : Int) +
              IntKind.u64.wrap (bits BinOp.and IntKind.u64 n1 (4294967295 : Int) * n2.fdiv (4294967296 : Int)))).fdiv
        (4294967296 : Int)),
  IntKind.u64.wrap (n1 * n2))
noncomputable def F61 : CF tC := mkF tC S61 (fun a => some ((f61 a.1 a.2.1).1, (f61 a.1 a.2.1).2, ()))
def h61 (r : Int × Int) : Option (altTy tE S61.outs) := some (r.1, r.2, ())
theorem f61_run : ∀ a, fnS tC G61 (look []) Try.f61 S61 a = (fun a => some ((f61 a.1 a.2.1).1, (f61 a.1 a.2.1).2, ())) a := fun a => by
  have key : ∀ (n1 : Int) (n2 : Int), (h61
  (IntKind.u64.wrap
      (IntKind.u64.wrap
          (IntKind.u64.wrap (n1.fdiv (4294967296 : Int) * n2.fdiv (4294967296 : Int)) +
            (IntKind.u64.wrap
                  (IntKind.u64.wrap (n1.fdiv (4294967296 : Int) * bits BinOp.and IntKind.u64 n2 (4294967295 : Int)) +
                    (IntKind.u64.wrap
                          (bits BinOp.and IntKind.u64 n1 (4294967295 : Int) * bits BinOp.and IntKind.u64 n2 (4294967295 : Int))).fdiv
                      (4294967296 : Int))).fdiv
              (4294967296 : Int)) +
        (IntKind.u64.wrap
              (bits BinOp.and IntKind.u64
                  (IntKind.u64.wrap
                    (IntKind.u64.wrap (n1.fdiv (4294967296 : Int) * bits BinOp.and IntKind.u64 n2 (4294967295 : Int)) +
                      (IntKind.u64.wrap
                            (bits BinOp.and IntKind.u64 n1 (4294967295 : Int) * bits BinOp.and IntKind.u64 n2 (4294967295 : Int))).fdiv
                        (4294967296 : Int)))
                  (4294967295 : Int) +
                IntKind.u64.wrap (bits BinOp.and IntKind.u64 n1 (4294967295 : Int) * n2.fdiv (4294967296 : Int)))).fdiv
          (4294967296 : Int)),
    IntKind.u64.wrap (n1 * n2))) = h61 (f61 n1 n2) := by
    intros
    unfold f61
    repeat' first | rfl | refine cond_h (g := h61) ?_ ?_
  exact Eq.trans (by kernel_rfl) (key a.1 a.2.1)
theorem F61_ok : CFOK tC 61 F61 := mkF_ok Y61 (fn := Try.f61) (body := bodyOf Try.f61) (by kernel_rfl) (by kernel_rfl) (by kernel_rfl) (m := 0) rfl (lam_le lam_nil) f61_run

/-! bits.Mul -/
noncomputable def G57 : FuncId → Option (CF tC) := look [(61, F61)]
theorem Y57 : SysN tC G57 := (sys_cons F61_ok (mkF_nat _ _) (sys_nil tC_ok tC_eq))
def S57 : FS := ⟨[[.v], [.v]], [⟨[.one (.one (.int .u64)), .one (.one (.int .u64))], []⟩], [⟨[.tup [.one (.int .u64), .one (.int .u64)]], []⟩], [[.v], [.v]], []⟩
def f57 (n1 : Int) (n2 : Int) : Int × Int :=
  ((f61 n1 n2).fst, (f61 n1 n2).snd)
noncomputable def F57 : CF tC := mkF tC S57 (fun a => some ((f57 a.1 a.2.1).1, (f57 a.1 a.2.1).2, ()))
def h57 (r : Int × Int) : Option (altTy tE S57.outs) := some (r.1, r.2, ())
theorem f57_run : ∀ a, fnS tC G57 (look []) Try.f57 S57 a = (fun a => some ((f57 a.1 a.2.1).1, (f57 a.1 a.2.1).2, ())) a := fun a => by
  have key : ∀ (n1 : Int) (n2 : Int), (h57 ((f61 n1 n2).fst, (f61 n1 n2).snd)) = h57 (f57 n1 n2) := by
    intros
    unfold f57
    repeat' first | rfl | refine cond_h (g := h57) ?_ ?_
  exact Eq.trans (by kernel_rfl) (key a.1 a.2.1)
theorem F57_ok : CFOK tC 57 F57 := mkF_ok Y57 (fn := Try.f57) (body := bodyOf Try.f57) (by kernel_rfl) (by kernel_rfl) (by kernel_rfl) (m := 0) rfl (lam_le lam_nil) f57_run

/-! slices.Repeat -/
noncomputable def G49 : FuncId → Option (CF tC) := look [(57, F57)]
theorem Y49 : SysN tC G49 := (sys_cons F57_ok (mkF_nat _ _) (sys_nil tC_ok tC_eq))
noncomputable def c49_0 : Code := loopOf (bodyOf Try.f49) 0
def p49_0 : LS := ⟨0, [7, 8], ⟨vBs 7 ++ [.one (.one (.sl 0)), vI] ++ vBs 39, [.arr 3]⟩, [⟨.exit 0, [7], ⟨vBs 7 ++ [.one (.one (.sl 0))] ++ vBs 40, [.arr 3]⟩, []⟩], []⟩
noncomputable def r49_0 (x : Nat × Int × List Int × Unit) : Option (Nat × Int × List Int × Unit ⊕ Nat × List Int × Unit) :=
  bif decide (x.snd.fst < (↑x.fst : Int)) then
  bif
      decide ((0 : Int) ≤ x.snd.fst) && decide (x.snd.fst ≤ (↑x.fst : Int)) && decide ((↑x.fst : Int) ≤ (↑x.fst : Int)) &&
        decide ((↑x.fst : Int) ≤ (↑x.fst : Int)) then
    bif true && decide ((0 : Int) ≤ x.snd.fst) && decide (x.snd.fst ≤ (↑x.fst : Int)) && decide ((↑x.fst : Int) ≤ (↑x.fst : Int)) then
      bif decide ((0 : Nat) + x.snd.fst.toNat + ((↑x.fst : Int).toNat - x.snd.fst.toNat) ≤ x.snd.snd.fst.length) then
        bif decide ((0 : Nat) + (x.snd.fst.toNat - (0 : Nat)) ≤ x.snd.snd.fst.length) then
          some
            (Sum.inl
              (x.fst,
                IntKind.i64.wrap
                  (x.snd.fst +
                    (↑(min (List.take (x.snd.fst.toNat - (0 : Nat)) (List.drop (0 : Nat) x.snd.snd.fst)).length
                          ((↑x.fst : Int).toNat - x.snd.fst.toNat)) :
                      Int)),
                List.take ((0 : Nat) + x.snd.fst.toNat) x.snd.snd.fst ++
                  (List.take
                      (min (List.take (x.snd.fst.toNat - (0 : Nat)) (List.drop (0 : Nat) x.snd.snd.fst)).length
                        ((↑x.fst : Int).toNat - x.snd.fst.toNat))
                      (List.take (x.snd.fst.toNat - (0 : Nat)) (List.drop (0 : Nat) x.snd.snd.fst)) ++
                    List.drop
                      ((0 : Nat) + x.snd.fst.toNat +
                        min (List.take (x.snd.fst.toNat - (0 : Nat)) (List.drop (0 : Nat) x.snd.snd.fst)).length
                          ((↑x.fst : Int).toNat - x.snd.fst.toNat))
                      x.snd.snd.fst),
                ()))
        else none
      else none
    else none
  else none
else some (Sum.inr (x.fst, x.snd.snd.fst, ()))
theorem r49_0_run0 (v0 : Nat) (v1 : Int) (v2 : List Int) : roundK tC G49 (look []) c49_0 p49_0 (v0, v1, v2, ()) = r49_0 (v0, v1, v2, ()) := by kernel_rfl
theorem r49_0_run (x : Nat × Int × List Int × Unit) : roundK tC G49 (look []) c49_0 p49_0 x = r49_0 x := r49_0_run0 x.1 x.2.1 x.2.2.1
noncomputable def l49_0 (x : Nat × Int × List Int × Unit) : Option (Nat × List Int × Unit) := iterO r49_0 x
noncomputable def W49_0 : LF tC := loopW tC p49_0 0 l49_0
theorem W49_0_ok : keyed 0 (bodyOf Try.f49) = [.block 0 (.loop c49_0)] ∧ ∀ n, n ≤ 0 → Snd tC n (.block 0 (.loop c49_0)) W49_0.k := ⟨by kernel_rfl, fun n hn => loopW_ok (p := p49_0) (id := 0) Y49 (lam_le lam_nil n hn) hn r49_0_run⟩
def S49 : FS := ⟨[[.s 3], [.v]], [⟨[.one (.one (.imm 3)), vI], []⟩], [⟨[.one (.one (.sl 0))], [.arr 3]⟩], [[.v]], [(4, 3)]⟩
noncomputable def f49 (x : List Int × Int × Unit) : Option (Nat × List Int × Unit) :=
  bif decide (x.snd.fst < (0 : Int)) then none
else
  bif decide ((f57 (IntKind.u64.wrap (↑x.fst.length : Int)) (IntKind.u64.wrap x.snd.fst)).fst > (0 : Int)) then none
  else
    bif decide ((f57 (IntKind.u64.wrap (↑x.fst.length : Int)) (IntKind.u64.wrap x.snd.fst)).snd > (9223372036854775807 : Int)) then none
    else
      bif
          decide ((0 : Int) ≤ IntKind.i64.wrap (f57 (IntKind.u64.wrap (↑x.fst.length : Int)) (IntKind.u64.wrap x.snd.fst)).snd) &&
                decide
                  (IntKind.i64.wrap (f57 (IntKind.u64.wrap (↑x.fst.length : Int)) (IntKind.u64.wrap x.snd.fst)).snd ≤
                    IntKind.i64.wrap (f57 (IntKind.u64.wrap (↑x.fst.length : Int)) (IntKind.u64.wrap x.snd.fst)).snd) &&
              decide
                (IntKind.i64.wrap (f57 (IntKind.u64.wrap (↑x.fst.length : Int)) (IntKind.u64.wrap x.snd.fst)).snd * (8 : Int) ≤
                  (140737488355328 : Int)) &&
            decide
              (IntKind.i64.wrap (f57 (IntKind.u64.wrap (↑x.fst.length : Int)) (IntKind.u64.wrap x.snd.fst)).snd ≤
                (140737488355328 : Int)) then
        bif
            decide
              ((0 : Nat) + (IntKind.i64.wrap (f57 (IntKind.u64.wrap (↑x.fst.length : Int)) (IntKind.u64.wrap x.snd.fst)).snd).toNat ≤
                (List.replicate (IntKind.i64.wrap (f57 (IntKind.u64.wrap (↑x.fst.length : Int)) (IntKind.u64.wrap x.snd.fst)).snd).toNat
                    (0 : Int)).length) then
          (l49_0
                ((IntKind.i64.wrap (f57 (IntKind.u64.wrap (↑x.fst.length : Int)) (IntKind.u64.wrap x.snd.fst)).snd).toNat,
                  (↑(min x.fst.length
                        (IntKind.i64.wrap (f57 (IntKind.u64.wrap (↑x.fst.length : Int)) (IntKind.u64.wrap x.snd.fst)).snd).toNat) :
                    Int),
                  [] ++
                    (List.take
                        (min x.fst.length
                          (IntKind.i64.wrap (f57 (IntKind.u64.wrap (↑x.fst.length : Int)) (IntKind.u64.wrap x.snd.fst)).snd).toNat)
                        x.fst ++
                      List.drop
                        ((0 : Nat) +
                          min x.fst.length
                            (IntKind.i64.wrap (f57 (IntKind.u64.wrap (↑x.fst.length : Int)) (IntKind.u64.wrap x.snd.fst)).snd).toNat)
                        (List.replicate
                          (IntKind.i64.wrap (f57 (IntKind.u64.wrap (↑x.fst.length : Int)) (IntKind.u64.wrap x.snd.fst)).snd).toNat
                          (0 : Int))),
                  ())).bind
            fun y12 => some (y12.fst, y12.snd.fst, ())
        else none
      else none
noncomputable def F49 : CF tC := mkF tC S49 f49
theorem f49_run : ∀ a, fnS tC G49 (look [(0, W49_0)]) Try.f49 S49 a = f49 a := fun a => by kernel_rfl
theorem F49_ok : CFOK tC 49 F49 := mkF_ok Y49 (fn := Try.f49) (body := bodyOf Try.f49) (by kernel_rfl) (by kernel_rfl) (by kernel_rfl) (m := 0) rfl (lam_le (lam_cons W49_0_ok lam_nil)) f49_run

/-! push -/
noncomputable def G53 : FuncId → Option (CF tC) := look []
theorem Y53 : SysN tC G53 := (sys_nil tC_ok tC_eq)
noncomputable def c53_0 : Code := loopOf (bodyOf Try.f53) 0
def p53_0 : LS := ⟨2, [0, 4, 5], ⟨[.one (.one (.ptr 1 0 0)), vB, vB, vB, .one (.one (.sl 2)), vI] ++ vBs 50, [.gone, .box [.sl 0], .arr 81]⟩, [⟨.exit 0, [0, 4], ⟨[.one (.one (.ptr 1 0 0)), vB, vB, vB, .one (.one (.sl 2))] ++ vBs 51, [.gone, .box [.sl 0], .arr 81]⟩, []⟩], []⟩
noncomputable def r53_0 (x : Nat × Int × Nat × List Vs × Unit) : Option (Nat × Int × Nat × List Vs × Unit ⊕ Nat × Nat × List Vs × Unit) :=
  bif decide (x.snd.fst > (0 : Int)) then
  bif
      decide ((0 : Int) ≤ IntKind.i64.wrap ((IntKind.i64.wrap (x.snd.fst - (1 : Int))).tdiv (2 : Int))) &&
        decide (IntKind.i64.wrap ((IntKind.i64.wrap (x.snd.fst - (1 : Int))).tdiv (2 : Int)) < (↑x.fst : Int)) then
    x.snd.snd.snd.fst[(0 : Nat) + (IntKind.i64.wrap ((IntKind.i64.wrap (x.snd.fst - (1 : Int))).tdiv (2 : Int))).toNat]?.bind fun y24 =>
      bif decide ((0 : Int) ≤ x.snd.fst) && decide (x.snd.fst < (↑x.fst : Int)) then
        x.snd.snd.snd.fst[(0 : Nat) + x.snd.fst.toNat]?.bind fun y23 =>
          bif decide (y24.N > y23.N) then
            bif
                decide ((0 : Int) ≤ IntKind.i64.wrap ((IntKind.i64.wrap (x.snd.fst - (1 : Int))).tdiv (2 : Int))) &&
                  decide (IntKind.i64.wrap ((IntKind.i64.wrap (x.snd.fst - (1 : Int))).tdiv (2 : Int)) < (↑x.fst : Int)) then
              x.snd.snd.snd.fst[(0 : Nat) + (IntKind.i64.wrap ((IntKind.i64.wrap (x.snd.fst - (1 : Int))).tdiv (2 : Int))).toNat]?.bind
                fun y22 =>
                bif decide ((0 : Int) ≤ x.snd.fst) && decide (x.snd.fst < (↑x.fst : Int)) then
                  x.snd.snd.snd.fst[(0 : Nat) + x.snd.fst.toNat]?.bind fun y21 =>
                    bif decide ((0 : Int) ≤ x.snd.fst) && decide (x.snd.fst < (↑x.fst : Int)) then
                      x.snd.snd.snd.fst[(0 : Nat) + x.snd.fst.toNat]?.bind fun _x =>
                        bif
                            decide ((0 : Int) ≤ IntKind.i64.wrap ((IntKind.i64.wrap (x.snd.fst - (1 : Int))).tdiv (2 : Int))) &&
                              decide (IntKind.i64.wrap ((IntKind.i64.wrap (x.snd.fst - (1 : Int))).tdiv (2 : Int)) < (↑x.fst : Int)) then
                          (x.snd.snd.snd.fst.set ((0 : Nat) + x.snd.fst.toNat)
                                  (Vs.mk y22.X y22.Y
                                    y22.N))[(0 : Nat) +
                                  (IntKind.i64.wrap ((IntKind.i64.wrap (x.snd.fst - (1 : Int))).tdiv (2 : Int))).toNat]?.bind
                            fun _x =>
                            some
                              (Sum.inl
                                (x.fst, IntKind.i64.wrap ((IntKind.i64.wrap (x.snd.fst - (1 : Int))).tdiv (2 : Int)), x.snd.snd.fst,
                                  (x.snd.snd.snd.fst.set ((0 : Nat) + x.snd.fst.toNat) (Vs.mk y22.X y22.Y y22.N)).set
                                    ((0 : Nat) + (IntKind.i64.wrap ((IntKind.i64.wrap (x.snd.fst - (1 : Int))).tdiv (2 : Int))).toNat)
                                    (Vs.mk y21.X y21.Y y21.N),
                                  ()))
                        else none
                    else none
                else none
            else none
          else some (Sum.inr (x.fst, x.snd.snd.fst, x.snd.snd.snd.fst, ()))
      else none
  else none
else some (Sum.inr (x.fst, x.snd.snd.fst, x.snd.snd.snd.fst, ()))
theorem r53_0_run0 (v0 : Nat) (v1 : Int) (v2 : Nat) (v3 : List Vs) : roundK tC G53 (look []) c53_0 p53_0 (v0, v1, v2, v3, ()) = r53_0 (v0, v1, v2, v3, ()) := by kernel_rfl
theorem r53_0_run (x : Nat × Int × Nat × List Vs × Unit) : roundK tC G53 (look []) c53_0 p53_0 x = r53_0 x := r53_0_run0 x.1 x.2.1 x.2.2.1 x.2.2.2.1
noncomputable def l53_0 (x : Nat × Int × Nat × List Vs × Unit) : Option (Nat × Nat × List Vs × Unit) := iterO r53_0 x
noncomputable def W53_0 : LF tC := loopW tC p53_0 0 l53_0
theorem W53_0_ok : keyed 0 (bodyOf Try.f53) = [.block 0 (.loop c53_0)] ∧ ∀ n, n ≤ 2 → Snd tC n (.block 0 (.loop c53_0)) W53_0.k := ⟨by kernel_rfl, fun n hn => loopW_ok (p := p53_0) (id := 0) Y53 (lam_le lam_nil n hn) hn r53_0_run⟩
def S53 : FS := ⟨[[.p], [.v, .v, .v]], [⟨[.one (.one (.ptr 1 0 0)), .one (.agg [.int .i64, .int .i64, .int .i64])], [.arr 81, .box [.sl 0]]⟩], [⟨[.tup []], [.gone, .box [.sl 2], .arr 81]⟩], [], []⟩
noncomputable def f53 (x : Int × Int × Int × List Vs × Nat × Unit) : Option (Nat × List Vs × Unit) :=
  bif decide ((0 : Nat) + x.snd.snd.snd.snd.fst ≤ x.snd.snd.snd.fst.length) then
  bif roomy (x.snd.snd.snd.snd.fst + (1 : Nat)) (24 : Nat) then
    (l53_0
          (x.snd.snd.snd.snd.fst + (1 : Nat), IntKind.i64.wrap ((↑(x.snd.snd.snd.snd.fst + (1 : Nat)) : Int) - (1 : Int)),
            x.snd.snd.snd.snd.fst,
            List.take x.snd.snd.snd.snd.fst (List.drop (0 : Nat) x.snd.snd.snd.fst) ++ [Vs.mk x.fst x.snd.fst x.snd.snd.fst], ())).bind
      fun y30 => some (y30.fst, y30.snd.snd.fst, ())
  else none
else none
noncomputable def F53 : CF tC := mkF tC S53 f53
theorem f53_run : ∀ a, fnS tC G53 (look [(0, W53_0)]) Try.f53 S53 a = f53 a := fun a => by kernel_rfl
theorem F53_ok : CFOK tC 53 F53 := mkF_ok Y53 (fn := Try.f53) (body := bodyOf Try.f53) (by kernel_rfl) (by kernel_rfl) (by kernel_rfl) (m := 2) rfl (lam_le (lam_cons W53_0_ok lam_nil)) f53_run

/-! pop -/
noncomputable def G52 : FuncId → Option (CF tC) := look []
theorem Y52 : SysN tC G52 := (sys_nil tC_ok tC_eq)
noncomputable def c52_37 : Code := subCode (loopOf (loopOf (bodyOf Try.f52) 0) 2) 37
def p52_37 : PS := ⟨2, [0, 2, 3, 4, 5, 6, 35, 36], ⟨[.one (.one (.ptr 1 0 0)), vB, .one (.one (.ptr 2 0 0)), .one (.one (.sl 0)), .one (.one (.ptr 3 0 0)), vI, vI] ++ vBs 28 ++ [.one (.agg [.int .i64, .int .i64]), vI] ++ vBs 43, [.arr 81, .box [.sl 0], .box [.int .i64, .int .i64, .int .i64], .box [.int .i64, .int .i64, .int .i64]]⟩, [⟨.normal, [0, 2, 3, 4, 5, 6, 35, 36], ⟨[.one (.one (.ptr 1 0 0)), vB, .one (.one (.ptr 2 0 0)), .one (.one (.sl 0)), .one (.one (.ptr 3 0 0)), vI, vI] ++ vBs 28 ++ [.one (.agg [.int .i64, .int .i64]), vI] ++ vBs 43, [.arr 81, .box [.sl 0], .box [.int .i64, .int .i64, .int .i64], .box [.int .i64, .int .i64, .int .i64]]⟩, []⟩], []⟩
noncomputable def j52_37 (x : Nat × Int × Int × Int × Int × Int × List Vs × Nat × Int × Int × Int × Int × Int × Int × Unit) : Option (Nat × Int × Int × Int × Int × Int × List Vs × Nat × Int × Int × Int × Int × Int × Int × Unit) :=
  some
  (x.fst, x.snd.fst, x.snd.snd.fst, x.snd.snd.snd.fst, x.snd.snd.snd.snd.fst, IntKind.i64.wrap (x.snd.snd.snd.snd.snd.fst + (1 : Int)),
    x.snd.snd.snd.snd.snd.snd.fst, x.snd.snd.snd.snd.snd.snd.snd.fst, x.snd.snd.snd.snd.snd.snd.snd.snd.fst,
    x.snd.snd.snd.snd.snd.snd.snd.snd.snd.fst, x.snd.snd.snd.snd.snd.snd.snd.snd.snd.snd.fst,
    x.snd.snd.snd.snd.snd.snd.snd.snd.snd.snd.snd.fst, x.snd.snd.snd.snd.snd.snd.snd.snd.snd.snd.snd.snd.fst,
    x.snd.snd.snd.snd.snd.snd.snd.snd.snd.snd.snd.snd.snd.fst, ())
theorem j52_37_run0 (v0 : Nat) (v1 : Int) (v2 : Int) (v3 : Int) (v4 : Int) (v5 : Int) (v6 : List Vs) (v7 : Nat) (v8 : Int) (v9 : Int) (v10 : Int) (v11 : Int) (v12 : Int) (v13 : Int) : pieceK tC G52 (look []) c52_37 p52_37 (v0, v1, v2, v3, v4, v5, v6, v7, v8, v9, v10, v11, v12, v13, ()) = j52_37 (v0, v1, v2, v3, v4, v5, v6, v7, v8, v9, v10, v11, v12, v13, ()) := by kernel_rfl
theorem j52_37_run (x : Nat × Int × Int × Int × Int × Int × List Vs × Nat × Int × Int × Int × Int × Int × Int × Unit) : pieceK tC G52 (look []) c52_37 p52_37 x = j52_37 x := j52_37_run0 x.1 x.2.1 x.2.2.1 x.2.2.2.1 x.2.2.2.2.1 x.2.2.2.2.2.1 x.2.2.2.2.2.2.1 x.2.2.2.2.2.2.2.1 x.2.2.2.2.2.2.2.2.1 x.2.2.2.2.2.2.2.2.2.1 x.2.2.2.2.2.2.2.2.2.2.1 x.2.2.2.2.2.2.2.2.2.2.2.1 x.2.2.2.2.2.2.2.2.2.2.2.2.1 x.2.2.2.2.2.2.2.2.2.2.2.2.2.1
noncomputable def W52_37 : LF tC := cutLF tC p52_37 j52_37
theorem W52_37_ok : keyed 37 (loopOf (loopOf (bodyOf Try.f52) 0) 2) = [c52_37] ∧ ∀ n, n ≤ 2 → Snd tC n c52_37 W52_37.k := ⟨by kernel_rfl, fun n hn => cut_ok (p := p52_37) Y52 (lam_le lam_nil n hn) hn j52_37_run⟩
noncomputable def c52_6 : Code := loopOf (loopOf (bodyOf Try.f52) 0) 2
def p52_6 : LS := ⟨2, [0, 2, 3, 4, 5, 6, 35, 36], ⟨[.one (.one (.ptr 1 0 0)), vB, .one (.one (.ptr 2 0 0)), .one (.one (.sl 0)), .one (.one (.ptr 3 0 0)), vI, vI] ++ vBs 28 ++ [.one (.agg [.int .i64, .int .i64]), vI] ++ vBs 43, [.arr 81, .box [.sl 0], .box [.int .i64, .int .i64, .int .i64], .box [.int .i64, .int .i64, .int .i64]]⟩, [⟨.exit 2, [0, 2, 3, 4, 5, 6], ⟨[.one (.one (.ptr 1 0 0)), vB, .one (.one (.ptr 2 0 0)), .one (.one (.sl 0)), .one (.one (.ptr 3 0 0)), vI, vI] ++ vBs 73, [.arr 81, .box [.sl 0], .box [.int .i64, .int .i64, .int .i64], .box [.int .i64, .int .i64, .int .i64]]⟩, []⟩], []⟩
noncomputable def r52_6 (x : Nat × Int × Int × Int × Int × Int × List Vs × Nat × Int × Int × Int × Int × Int × Int × Unit) : Option
  (Nat × Int × Int × Int × Int × Int × List Vs × Nat × Int × Int × Int × Int × Int × Int × Unit ⊕
    Nat × Int × Int × List Vs × Nat × Int × Int × Int × Int × Int × Int × Unit) :=
  bif decide (x.snd.snd.snd.snd.snd.fst < (2 : Int)) then
  bif decide ((0 : Int) ≤ x.snd.snd.snd.snd.snd.fst) && decide (x.snd.snd.snd.snd.snd.fst < (2 : Int)) then
    (idxO [x.snd.snd.snd.fst, x.snd.snd.snd.snd.fst] x.snd.snd.snd.snd.snd.fst).bind fun y119 =>
      bif decide (y119 < (↑x.fst : Int)) then
        bif decide ((0 : Int) ≤ y119) && decide (y119 < (↑x.fst : Int)) then
          x.snd.snd.snd.snd.snd.snd.fst[(0 : Nat) + y119.toNat]?.bind fun y117 =>
            bif decide ((0 : Int) ≤ x.snd.snd.fst) && decide (x.snd.snd.fst < (↑x.fst : Int)) then
              x.snd.snd.snd.snd.snd.snd.fst[(0 : Nat) + x.snd.snd.fst.toNat]?.bind fun y116 =>
                bif decide (y117.N < y116.N) then
                  (j52_37
                        (x.fst, x.snd.fst, y119, x.snd.snd.snd.fst, x.snd.snd.snd.snd.fst, x.snd.snd.snd.snd.snd.fst,
                          x.snd.snd.snd.snd.snd.snd.fst, x.snd.snd.snd.snd.snd.snd.snd.fst, x.snd.snd.snd.snd.snd.snd.snd.snd.fst,
                          x.snd.snd.snd.snd.snd.snd.snd.snd.snd.fst, x.snd.snd.snd.snd.snd.snd.snd.snd.snd.snd.fst,
                          x.snd.snd.snd.snd.snd.snd.snd.snd.snd.snd.snd.fst, x.snd.snd.snd.snd.snd.snd.snd.snd.snd.snd.snd.snd.fst,
                          x.snd.snd.snd.snd.snd.snd.snd.snd.snd.snd.snd.snd.snd.fst, ())).bind
                    fun y114 =>
                    some
                      (Sum.inl
                        (y114.fst, y114.snd.fst, y114.snd.snd.fst, y114.snd.snd.snd.fst, y114.snd.snd.snd.snd.fst,
                          y114.snd.snd.snd.snd.snd.fst, y114.snd.snd.snd.snd.snd.snd.fst, y114.snd.snd.snd.snd.snd.snd.snd.fst,
                          y114.snd.snd.snd.snd.snd.snd.snd.snd.fst, y114.snd.snd.snd.snd.snd.snd.snd.snd.snd.fst,
                          y114.snd.snd.snd.snd.snd.snd.snd.snd.snd.snd.fst, y114.snd.snd.snd.snd.snd.snd.snd.snd.snd.snd.snd.fst,
                          y114.snd.snd.snd.snd.snd.snd.snd.snd.snd.snd.snd.snd.fst,
                          y114.snd.snd.snd.snd.snd.snd.snd.snd.snd.snd.snd.snd.snd.fst, ()))
                else
                  (j52_37
                        (x.fst, x.snd.fst, x.snd.snd.fst, x.snd.snd.snd.fst, x.snd.snd.snd.snd.fst, x.snd.snd.snd.snd.snd.fst,
                          x.snd.snd.snd.snd.snd.snd.fst, x.snd.snd.snd.snd.snd.snd.snd.fst, x.snd.snd.snd.snd.snd.snd.snd.snd.fst,
                          x.snd.snd.snd.snd.snd.snd.snd.snd.snd.fst, x.snd.snd.snd.snd.snd.snd.snd.snd.snd.snd.fst,
                          x.snd.snd.snd.snd.snd.snd.snd.snd.snd.snd.snd.fst, x.snd.snd.snd.snd.snd.snd.snd.snd.snd.snd.snd.snd.fst,
                          x.snd.snd.snd.snd.snd.snd.snd.snd.snd.snd.snd.snd.snd.fst, ())).bind
                    fun y115 =>
                    some
                      (Sum.inl
                        (y115.fst, y115.snd.fst, y115.snd.snd.fst, y115.snd.snd.snd.fst, y115.snd.snd.snd.snd.fst,
                          y115.snd.snd.snd.snd.snd.fst, y115.snd.snd.snd.snd.snd.snd.fst, y115.snd.snd.snd.snd.snd.snd.snd.fst,
                          y115.snd.snd.snd.snd.snd.snd.snd.snd.fst, y115.snd.snd.snd.snd.snd.snd.snd.snd.snd.fst,
                          y115.snd.snd.snd.snd.snd.snd.snd.snd.snd.snd.fst, y115.snd.snd.snd.snd.snd.snd.snd.snd.snd.snd.snd.fst,
                          y115.snd.snd.snd.snd.snd.snd.snd.snd.snd.snd.snd.snd.fst,
                          y115.snd.snd.snd.snd.snd.snd.snd.snd.snd.snd.snd.snd.snd.fst, ()))
            else none
        else none
      else
        (j52_37
              (x.fst, x.snd.fst, x.snd.snd.fst, x.snd.snd.snd.fst, x.snd.snd.snd.snd.fst, x.snd.snd.snd.snd.snd.fst,
                x.snd.snd.snd.snd.snd.snd.fst, x.snd.snd.snd.snd.snd.snd.snd.fst, x.snd.snd.snd.snd.snd.snd.snd.snd.fst,
                x.snd.snd.snd.snd.snd.snd.snd.snd.snd.fst, x.snd.snd.snd.snd.snd.snd.snd.snd.snd.snd.fst,
                x.snd.snd.snd.snd.snd.snd.snd.snd.snd.snd.snd.fst, x.snd.snd.snd.snd.snd.snd.snd.snd.snd.snd.snd.snd.fst,
                x.snd.snd.snd.snd.snd.snd.snd.snd.snd.snd.snd.snd.snd.fst, ())).bind
          fun y118 =>
          some
            (Sum.inl
              (y118.fst, y118.snd.fst, y118.snd.snd.fst, y118.snd.snd.snd.fst, y118.snd.snd.snd.snd.fst, y118.snd.snd.snd.snd.snd.fst,
                y118.snd.snd.snd.snd.snd.snd.fst, y118.snd.snd.snd.snd.snd.snd.snd.fst, y118.snd.snd.snd.snd.snd.snd.snd.snd.fst,
                y118.snd.snd.snd.snd.snd.snd.snd.snd.snd.fst, y118.snd.snd.snd.snd.snd.snd.snd.snd.snd.snd.fst,
                y118.snd.snd.snd.snd.snd.snd.snd.snd.snd.snd.snd.fst, y118.snd.snd.snd.snd.snd.snd.snd.snd.snd.snd.snd.snd.fst,
                y118.snd.snd.snd.snd.snd.snd.snd.snd.snd.snd.snd.snd.snd.fst, ()))
  else none
else
  some
    (Sum.inr
      (x.fst, x.snd.fst, x.snd.snd.fst, x.snd.snd.snd.snd.snd.snd.fst, x.snd.snd.snd.snd.snd.snd.snd.fst,
        x.snd.snd.snd.snd.snd.snd.snd.snd.fst, x.snd.snd.snd.snd.snd.snd.snd.snd.snd.fst, x.snd.snd.snd.snd.snd.snd.snd.snd.snd.snd.fst,
        x.snd.snd.snd.snd.snd.snd.snd.snd.snd.snd.snd.fst, x.snd.snd.snd.snd.snd.snd.snd.snd.snd.snd.snd.snd.fst,
        x.snd.snd.snd.snd.snd.snd.snd.snd.snd.snd.snd.snd.snd.fst, ()))
theorem r52_6_run0 (v0 : Nat) (v1 : Int) (v2 : Int) (v3 : Int) (v4 : Int) (v5 : Int) (v6 : List Vs) (v7 : Nat) (v8 : Int) (v9 : Int) (v10 : Int) (v11 : Int) (v12 : Int) (v13 : Int) : roundK tC G52 (look [(37, W52_37)]) c52_6 p52_6 (v0, v1, v2, v3, v4, v5, v6, v7, v8, v9, v10, v11, v12, v13, ()) = r52_6 (v0, v1, v2, v3, v4, v5, v6, v7, v8, v9, v10, v11, v12, v13, ()) := by kernel_rfl
theorem r52_6_run (x : Nat × Int × Int × Int × Int × Int × List Vs × Nat × Int × Int × Int × Int × Int × Int × Unit) : roundK tC G52 (look [(37, W52_37)]) c52_6 p52_6 x = r52_6 x := r52_6_run0 x.1 x.2.1 x.2.2.1 x.2.2.2.1 x.2.2.2.2.1 x.2.2.2.2.2.1 x.2.2.2.2.2.2.1 x.2.2.2.2.2.2.2.1 x.2.2.2.2.2.2.2.2.1 x.2.2.2.2.2.2.2.2.2.1 x.2.2.2.2.2.2.2.2.2.2.1 x.2.2.2.2.2.2.2.2.2.2.2.1 x.2.2.2.2.2.2.2.2.2.2.2.2.1 x.2.2.2.2.2.2.2.2.2.2.2.2.2.1
noncomputable def l52_6 (x : Nat × Int × Int × Int × Int × Int × List Vs × Nat × Int × Int × Int × Int × Int × Int × Unit) : Option (Nat × Int × Int × List Vs × Nat × Int × Int × Int × Int × Int × Int × Unit) := iterO r52_6 x
noncomputable def W52_6 : LF tC := loopW tC p52_6 2 l52_6
theorem W52_6_ok : keyed 6 (loopOf (bodyOf Try.f52) 0) = [.block 2 (.loop c52_6)] ∧ ∀ n, n ≤ 2 → Snd tC n (.block 2 (.loop c52_6)) W52_6.k := ⟨by kernel_rfl, fun n hn => loopW_ok (p := p52_6) (id := 2) Y52 (lam_le (lam_cons W52_37_ok lam_nil) n hn) hn r52_6_run⟩
noncomputable def c52_0 : Code := loopOf (bodyOf Try.f52) 0
def p52_0 : LS := ⟨2, [0, 2, 3, 4, 5], ⟨[.one (.one (.ptr 1 0 0)), vB, .one (.one (.ptr 2 0 0)), .one (.one (.sl 0)), .one (.one (.ptr 3 0 0)), vI] ++ vBs 74, [.arr 81, .box [.sl 0], .box [.int .i64, .int .i64, .int .i64], .box [.int .i64, .int .i64, .int .i64]]⟩, [⟨.exit 0, [0, 2, 3, 4], ⟨[.one (.one (.ptr 1 0 0)), vB, .one (.one (.ptr 2 0 0)), .one (.one (.sl 0)), .one (.one (.ptr 3 0 0))] ++ vBs 75, [.arr 81, .box [.sl 0], .box [.int .i64, .int .i64, .int .i64], .box [.int .i64, .int .i64, .int .i64]]⟩, []⟩], []⟩
noncomputable def r52_0 (x : Nat × Int × List Vs × Nat × Int × Int × Int × Int × Int × Int × Unit) : Option
  (Nat × Int × List Vs × Nat × Int × Int × Int × Int × Int × Int × Unit ⊕ Nat × List Vs × Nat × Int × Int × Int × Int × Int × Int × Unit) :=
  (l52_6
      (x.fst, x.snd.fst, x.snd.fst, IntKind.i64.wrap (IntKind.i64.wrap ((2 : Int) * x.snd.fst) + (1 : Int)),
        IntKind.i64.wrap (IntKind.i64.wrap ((2 : Int) * x.snd.fst) + (2 : Int)), (0 : Int), x.snd.snd.fst, x.snd.snd.snd.fst,
        x.snd.snd.snd.snd.fst, x.snd.snd.snd.snd.snd.fst, x.snd.snd.snd.snd.snd.snd.fst, x.snd.snd.snd.snd.snd.snd.snd.fst,
        x.snd.snd.snd.snd.snd.snd.snd.snd.fst, x.snd.snd.snd.snd.snd.snd.snd.snd.snd.fst, ())).bind
  fun y148 =>
  bif y148.snd.snd.fst == y148.snd.fst then
    some
      (Sum.inr
        (y148.fst, y148.snd.snd.snd.fst, y148.snd.snd.snd.snd.fst, y148.snd.snd.snd.snd.snd.fst, y148.snd.snd.snd.snd.snd.snd.fst,
          y148.snd.snd.snd.snd.snd.snd.snd.fst, y148.snd.snd.snd.snd.snd.snd.snd.snd.fst, y148.snd.snd.snd.snd.snd.snd.snd.snd.snd.fst,
          y148.snd.snd.snd.snd.snd.snd.snd.snd.snd.snd.fst, ()))
  else
    bif decide ((0 : Int) ≤ y148.snd.snd.fst) && decide (y148.snd.snd.fst < (↑y148.fst : Int)) then
      y148.snd.snd.snd.fst[(0 : Nat) + y148.snd.snd.fst.toNat]?.bind fun y147 =>
        bif decide ((0 : Int) ≤ y148.snd.fst) && decide (y148.snd.fst < (↑y148.fst : Int)) then
          y148.snd.snd.snd.fst[(0 : Nat) + y148.snd.fst.toNat]?.bind fun y146 =>
            bif decide ((0 : Int) ≤ y148.snd.fst) && decide (y148.snd.fst < (↑y148.fst : Int)) then
              y148.snd.snd.snd.fst[(0 : Nat) + y148.snd.fst.toNat]?.bind fun _x =>
                bif decide ((0 : Int) ≤ y148.snd.snd.fst) && decide (y148.snd.snd.fst < (↑y148.fst : Int)) then
                  (y148.snd.snd.snd.fst.set ((0 : Nat) + y148.snd.fst.toNat)
                          (Vs.mk y147.X y147.Y y147.N))[(0 : Nat) + y148.snd.snd.fst.toNat]?.bind
                    fun _x =>
                    some
                      (Sum.inl
                        (y148.fst, y148.snd.snd.fst,
                          (y148.snd.snd.snd.fst.set ((0 : Nat) + y148.snd.fst.toNat) (Vs.mk y147.X y147.Y y147.N)).set
                            ((0 : Nat) + y148.snd.snd.fst.toNat) (Vs.mk y146.X y146.Y y146.N),
                          y148.snd.snd.snd.snd.fst, y148.snd.snd.snd.snd.snd.fst, y148.snd.snd.snd.snd.snd.snd.fst,
                          y148.snd.snd.snd.snd.snd.snd.snd.fst, y148.snd.snd.snd.snd.snd.snd.snd.snd.fst,
                          y148.snd.snd.snd.snd.snd.snd.snd.snd.snd.fst, y148.snd.snd.snd.snd.snd.snd.snd.snd.snd.snd.fst, ()))
                else none
            else none
        else none
    else none
theorem r52_0_run0 (v0 : Nat) (v1 : Int) (v2 : List Vs) (v3 : Nat) (v4 : Int) (v5 : Int) (v6 : Int) (v7 : Int) (v8 : Int) (v9 : Int) : roundK tC G52 (look [(6, W52_6)]) c52_0 p52_0 (v0, v1, v2, v3, v4, v5, v6, v7, v8, v9, ()) = r52_0 (v0, v1, v2, v3, v4, v5, v6, v7, v8, v9, ()) := by kernel_rfl
theorem r52_0_run (x : Nat × Int × List Vs × Nat × Int × Int × Int × Int × Int × Int × Unit) : roundK tC G52 (look [(6, W52_6)]) c52_0 p52_0 x = r52_0 x := r52_0_run0 x.1 x.2.1 x.2.2.1 x.2.2.2.1 x.2.2.2.2.1 x.2.2.2.2.2.1 x.2.2.2.2.2.2.1 x.2.2.2.2.2.2.2.1 x.2.2.2.2.2.2.2.2.1 x.2.2.2.2.2.2.2.2.2.1
noncomputable def l52_0 (x : Nat × Int × List Vs × Nat × Int × Int × Int × Int × Int × Int × Unit) : Option (Nat × List Vs × Nat × Int × Int × Int × Int × Int × Int × Unit) := iterO r52_0 x
noncomputable def W52_0 : LF tC := loopW tC p52_0 0 l52_0
theorem W52_0_ok : keyed 0 (bodyOf Try.f52) = [.block 0 (.loop c52_0)] ∧ ∀ n, n ≤ 2 → Snd tC n (.block 0 (.loop c52_0)) W52_0.k := ⟨by kernel_rfl, fun n hn => loopW_ok (p := p52_0) (id := 0) Y52 (lam_le (lam_cons W52_6_ok lam_nil) n hn) hn r52_0_run⟩
def S52 : FS := ⟨[[.p]], [⟨[.one (.one (.ptr 1 0 0))], [.arr 81, .box [.sl 0]]⟩], [⟨[.one (.agg [.int .i64, .int .i64, .int .i64])], [.arr 81, .box [.sl 0]]⟩], [[.v, .v, .v]], []⟩
noncomputable def f52 (x : List Vs × Nat × Unit) : Option (Int × Int × Int × List Vs × Nat × Unit) :=
  bif true && decide ((0 : Int) < (↑x.snd.fst : Int)) then
  x.fst[(0 : Nat)]?.bind fun y166 =>
    bif
        decide ((0 : Int) ≤ IntKind.i64.wrap ((↑x.snd.fst : Int) - (1 : Int))) &&
          decide (IntKind.i64.wrap ((↑x.snd.fst : Int) - (1 : Int)) < (↑x.snd.fst : Int)) then
      x.fst[(0 : Nat) + (IntKind.i64.wrap ((↑x.snd.fst : Int) - (1 : Int))).toNat]?.bind fun y165 =>
        bif true && decide ((0 : Int) < (↑x.snd.fst : Int)) then
          x.fst[(0 : Nat)]?.bind fun _x =>
            bif
                true && decide ((0 : Int) ≤ IntKind.i64.wrap ((↑x.snd.fst : Int) - (1 : Int))) &&
                    decide (IntKind.i64.wrap ((↑x.snd.fst : Int) - (1 : Int)) ≤ (↑x.snd.fst : Int)) &&
                  decide ((↑x.snd.fst : Int) ≤ (↑x.snd.fst : Int)) then
              (l52_0
                    ((IntKind.i64.wrap ((↑x.snd.fst : Int) - (1 : Int))).toNat - (0 : Nat), (0 : Int),
                      x.fst.set (0 : Nat) (Vs.mk y165.X y165.Y y165.N), x.snd.fst, (0 : Int), (0 : Int), (0 : Int), y166.X, y166.Y, y166.N,
                      ())).bind
                fun y163 =>
                some
                  (y163.snd.snd.snd.snd.snd.snd.fst, y163.snd.snd.snd.snd.snd.snd.snd.fst, y163.snd.snd.snd.snd.snd.snd.snd.snd.fst,
                    y163.snd.fst, y163.fst, ())
            else none
        else none
    else none
else none
noncomputable def F52 : CF tC := mkF tC S52 f52
theorem f52_run : ∀ a, fnS tC G52 (look [(0, W52_0)]) Try.f52 S52 a = f52 a := fun a => by kernel_rfl
theorem F52_ok : CFOK tC 52 F52 := mkF_ok Y52 (fn := Try.f52) (body := bodyOf Try.f52) (by kernel_rfl) (by kernel_rfl) (by kernel_rfl) (m := 2) rfl (lam_le (lam_cons W52_0_ok lam_nil)) f52_run

/-! path.costs -/
noncomputable def G41 : FuncId → Option (CF tC) := look [(49, F49), (52, F52), (53, F53), (42, F42), (43, F43)]
theorem Y41 : SysN tC G41 := (sys_cons F49_ok (mkF_nat _ _) (sys_cons F52_ok (mkF_nat _ _) (sys_cons F53_ok (mkF_nat _ _) (sys_cons F42_ok (mkF_nat _ _) (sys_cons F43_ok (mkF_nat _ _) (sys_nil tC_ok tC_eq))))))
noncomputable def c41_43 : Code := subCode (loopOf (loopOf (bodyOf Try.f41) 0) 2) 43
def p41_43 : PS := ⟨0, [2, 5, 6, 7, 48, 49], ⟨[vB, vB, .one (.one (.ptr 0 0 0)), vB, vB, .one (.one (.sl 1)), .one (.one (.ptr 2 0 0)), .one (.one (.ptr 3 0 0))] ++ vBs 40 ++ [.one (.agg [.lit .i64 1, .lit .i64 0, .lit .i64 1, .lit .i64 1, .lit .i64 0, .lit .i64 1, .lit .i64 (-1), .lit .i64 1, .lit .i64 (-1), .lit .i64 0, .lit .i64 (-1), .lit .i64 (-1), .lit .i64 0, .lit .i64 (-1), .lit .i64 1, .lit .i64 (-1)]), vI] ++ vBs 35, [.box [.int .i64, .int .i64, .imm 5], .arr 3, .box [.sl 4], .box [.int .i64, .int .i64, .int .i64], .arr 81]⟩, [⟨.normal, [2, 5, 6, 7, 48, 49], ⟨[vB, vB, .one (.one (.ptr 0 0 0)), vB, vB, .one (.one (.sl 1)), .one (.one (.ptr 2 0 0)), .one (.one (.ptr 3 0 0))] ++ vBs 40 ++ [.one (.agg [.lit .i64 1, .lit .i64 0, .lit .i64 1, .lit .i64 1, .lit .i64 0, .lit .i64 1, .lit .i64 (-1), .lit .i64 1, .lit .i64 (-1), .lit .i64 0, .lit .i64 (-1), .lit .i64 (-1), .lit .i64 0, .lit .i64 (-1), .lit .i64 1, .lit .i64 (-1)]), vI] ++ vBs 35, [.box [.int .i64, .int .i64, .imm 5], .arr 3, .box [.sl 4], .box [.int .i64, .int .i64, .int .i64], .arr 81]⟩, []⟩], []⟩
noncomputable def j41_43 (x : Nat × Int × Int × Int × List Int × List Int × Nat × Int × Int × Int × List Vs × Unit) : Option (Nat × Int × Int × Int × List Int × List Int × Nat × Int × Int × Int × List Vs × Unit) :=
  some
  (x.fst, IntKind.i64.wrap (x.snd.fst + (1 : Int)), x.snd.snd.fst, x.snd.snd.snd.fst, x.snd.snd.snd.snd.fst, x.snd.snd.snd.snd.snd.fst,
    x.snd.snd.snd.snd.snd.snd.fst, x.snd.snd.snd.snd.snd.snd.snd.fst, x.snd.snd.snd.snd.snd.snd.snd.snd.fst,
    x.snd.snd.snd.snd.snd.snd.snd.snd.snd.fst, x.snd.snd.snd.snd.snd.snd.snd.snd.snd.snd.fst, ())
theorem j41_43_run0 (v0 : Nat) (v1 : Int) (v2 : Int) (v3 : Int) (v4 : List Int) (v5 : List Int) (v6 : Nat) (v7 : Int) (v8 : Int) (v9 : Int) (v10 : List Vs) : pieceK tC G41 (look []) c41_43 p41_43 (v0, v1, v2, v3, v4, v5, v6, v7, v8, v9, v10, ()) = j41_43 (v0, v1, v2, v3, v4, v5, v6, v7, v8, v9, v10, ()) := by kernel_rfl
theorem j41_43_run (x : Nat × Int × Int × Int × List Int × List Int × Nat × Int × Int × Int × List Vs × Unit) : pieceK tC G41 (look []) c41_43 p41_43 x = j41_43 x := j41_43_run0 x.1 x.2.1 x.2.2.1 x.2.2.2.1 x.2.2.2.2.1 x.2.2.2.2.2.1 x.2.2.2.2.2.2.1 x.2.2.2.2.2.2.2.1 x.2.2.2.2.2.2.2.2.1 x.2.2.2.2.2.2.2.2.2.1 x.2.2.2.2.2.2.2.2.2.2.1
noncomputable def W41_43 : LF tC := cutLF tC p41_43 j41_43
theorem W41_43_ok : keyed 43 (loopOf (loopOf (bodyOf Try.f41) 0) 2) = [c41_43] ∧ ∀ n, n ≤ 0 → Snd tC n c41_43 W41_43.k := ⟨by kernel_rfl, fun n hn => cut_ok (p := p41_43) Y41 (lam_le lam_nil n hn) hn j41_43_run⟩
noncomputable def c41_6 : Code := loopOf (loopOf (bodyOf Try.f41) 0) 2
def p41_6 : LS := ⟨0, [2, 5, 6, 7, 48, 49], ⟨[vB, vB, .one (.one (.ptr 0 0 0)), vB, vB, .one (.one (.sl 1)), .one (.one (.ptr 2 0 0)), .one (.one (.ptr 3 0 0))] ++ vBs 40 ++ [.one (.agg [.lit .i64 1, .lit .i64 0, .lit .i64 1, .lit .i64 1, .lit .i64 0, .lit .i64 1, .lit .i64 (-1), .lit .i64 1, .lit .i64 (-1), .lit .i64 0, .lit .i64 (-1), .lit .i64 (-1), .lit .i64 0, .lit .i64 (-1), .lit .i64 1, .lit .i64 (-1)]), vI] ++ vBs 35, [.box [.int .i64, .int .i64, .imm 5], .arr 3, .box [.sl 4], .box [.int .i64, .int .i64, .int .i64], .arr 81]⟩, [⟨.exit 2, [2, 5, 6], ⟨[vB, vB, .one (.one (.ptr 0 0 0)), vB, vB, .one (.one (.sl 1)), .one (.one (.ptr 2 0 0))] ++ vBs 78, [.box [.int .i64, .int .i64, .imm 5], .arr 3, .box [.sl 3], .arr 81]⟩, []⟩], []⟩
noncomputable def r41_6 (x : Nat × Int × Int × Int × List Int × List Int × Nat × Int × Int × Int × List Vs × Unit) : Option
  (Nat × Int × Int × Int × List Int × List Int × Nat × Int × Int × Int × List Vs × Unit ⊕
    Nat × Int × Int × List Int × List Int × Nat × List Vs × Unit) :=
  bif decide (x.snd.fst < (8 : Int)) then
  bif decide ((0 : Int) ≤ x.snd.fst) && decide (x.snd.fst < (8 : Int)) then
    (idxO
          [Pt.mk (1 : Int) (0 : Int), Pt.mk (1 : Int) (1 : Int), Pt.mk (0 : Int) (1 : Int), Pt.mk (-1 : Int) (1 : Int),
            Pt.mk (-1 : Int) (0 : Int), Pt.mk (-1 : Int) (-1 : Int), Pt.mk (0 : Int) (-1 : Int), Pt.mk (1 : Int) (-1 : Int)]
          x.snd.fst).bind
      fun y109 =>
      (f43
            (x.snd.snd.fst, x.snd.snd.snd.fst, x.snd.snd.snd.snd.fst, x.snd.snd.snd.snd.snd.snd.snd.fst,
              x.snd.snd.snd.snd.snd.snd.snd.snd.fst, y109.X, y109.Y, ())).bind
        fun y108 =>
        bif y108.snd.snd.snd.fst then
          bif
              decide ((0 : Int) ≤ IntKind.i64.wrap (IntKind.i64.wrap (y108.snd.fst * x.snd.snd.fst) + y108.fst)) &&
                decide (IntKind.i64.wrap (IntKind.i64.wrap (y108.snd.fst * x.snd.snd.fst) + y108.fst) < (↑x.fst : Int)) then
            x.snd.snd.snd.snd.snd.fst[(0 : Nat) +
                    (IntKind.i64.wrap (IntKind.i64.wrap (y108.snd.fst * x.snd.snd.fst) + y108.fst)).toNat]?.bind
              fun y106 =>
              bif decide (y106 < (0 : Int)) then
                bif decide ((0 : Nat) + x.snd.snd.snd.snd.snd.snd.fst ≤ x.snd.snd.snd.snd.snd.snd.snd.snd.snd.snd.fst.length) then
                  (f53
                        (y108.fst, y108.snd.fst, IntKind.i64.wrap (x.snd.snd.snd.snd.snd.snd.snd.snd.snd.fst + y108.snd.snd.fst),
                          List.take x.snd.snd.snd.snd.snd.snd.fst (List.drop (0 : Nat) x.snd.snd.snd.snd.snd.snd.snd.snd.snd.snd.fst),
                          x.snd.snd.snd.snd.snd.snd.fst, ())).bind
                    fun y104 =>
                    (j41_43
                          (x.fst, x.snd.fst, x.snd.snd.fst, x.snd.snd.snd.fst, x.snd.snd.snd.snd.fst, x.snd.snd.snd.snd.snd.fst, y104.fst,
                            x.snd.snd.snd.snd.snd.snd.snd.fst, x.snd.snd.snd.snd.snd.snd.snd.snd.fst,
                            x.snd.snd.snd.snd.snd.snd.snd.snd.snd.fst, y104.snd.fst, ())).bind
                      fun y103 =>
                      some
                        (Sum.inl
                          (y103.fst, y103.snd.fst, y103.snd.snd.fst, y103.snd.snd.snd.fst, y103.snd.snd.snd.snd.fst,
                            y103.snd.snd.snd.snd.snd.fst, y103.snd.snd.snd.snd.snd.snd.fst, y103.snd.snd.snd.snd.snd.snd.snd.fst,
                            y103.snd.snd.snd.snd.snd.snd.snd.snd.fst, y103.snd.snd.snd.snd.snd.snd.snd.snd.snd.fst,
                            y103.snd.snd.snd.snd.snd.snd.snd.snd.snd.snd.fst, ()))
                else none
              else
                (j41_43
                      (x.fst, x.snd.fst, x.snd.snd.fst, x.snd.snd.snd.fst, x.snd.snd.snd.snd.fst, x.snd.snd.snd.snd.snd.fst,
                        x.snd.snd.snd.snd.snd.snd.fst, x.snd.snd.snd.snd.snd.snd.snd.fst, x.snd.snd.snd.snd.snd.snd.snd.snd.fst,
                        x.snd.snd.snd.snd.snd.snd.snd.snd.snd.fst, x.snd.snd.snd.snd.snd.snd.snd.snd.snd.snd.fst, ())).bind
                  fun y105 =>
                  some
                    (Sum.inl
                      (y105.fst, y105.snd.fst, y105.snd.snd.fst, y105.snd.snd.snd.fst, y105.snd.snd.snd.snd.fst,
                        y105.snd.snd.snd.snd.snd.fst, y105.snd.snd.snd.snd.snd.snd.fst, y105.snd.snd.snd.snd.snd.snd.snd.fst,
                        y105.snd.snd.snd.snd.snd.snd.snd.snd.fst, y105.snd.snd.snd.snd.snd.snd.snd.snd.snd.fst,
                        y105.snd.snd.snd.snd.snd.snd.snd.snd.snd.snd.fst, ()))
          else none
        else
          (j41_43
                (x.fst, x.snd.fst, x.snd.snd.fst, x.snd.snd.snd.fst, x.snd.snd.snd.snd.fst, x.snd.snd.snd.snd.snd.fst,
                  x.snd.snd.snd.snd.snd.snd.fst, x.snd.snd.snd.snd.snd.snd.snd.fst, x.snd.snd.snd.snd.snd.snd.snd.snd.fst,
                  x.snd.snd.snd.snd.snd.snd.snd.snd.snd.fst, x.snd.snd.snd.snd.snd.snd.snd.snd.snd.snd.fst, ())).bind
            fun y107 =>
            some
              (Sum.inl
                (y107.fst, y107.snd.fst, y107.snd.snd.fst, y107.snd.snd.snd.fst, y107.snd.snd.snd.snd.fst, y107.snd.snd.snd.snd.snd.fst,
                  y107.snd.snd.snd.snd.snd.snd.fst, y107.snd.snd.snd.snd.snd.snd.snd.fst, y107.snd.snd.snd.snd.snd.snd.snd.snd.fst,
                  y107.snd.snd.snd.snd.snd.snd.snd.snd.snd.fst, y107.snd.snd.snd.snd.snd.snd.snd.snd.snd.snd.fst, ()))
  else none
else
  some
    (Sum.inr
      (x.fst, x.snd.snd.fst, x.snd.snd.snd.fst, x.snd.snd.snd.snd.fst, x.snd.snd.snd.snd.snd.fst, x.snd.snd.snd.snd.snd.snd.fst,
        x.snd.snd.snd.snd.snd.snd.snd.snd.snd.snd.fst, ()))
theorem r41_6_run0 (v0 : Nat) (v1 : Int) (v2 : Int) (v3 : Int) (v4 : List Int) (v5 : List Int) (v6 : Nat) (v7 : Int) (v8 : Int) (v9 : Int) (v10 : List Vs) : roundK tC G41 (look [(43, W41_43)]) c41_6 p41_6 (v0, v1, v2, v3, v4, v5, v6, v7, v8, v9, v10, ()) = r41_6 (v0, v1, v2, v3, v4, v5, v6, v7, v8, v9, v10, ()) := by kernel_rfl
theorem r41_6_run (x : Nat × Int × Int × Int × List Int × List Int × Nat × Int × Int × Int × List Vs × Unit) : roundK tC G41 (look [(43, W41_43)]) c41_6 p41_6 x = r41_6 x := r41_6_run0 x.1 x.2.1 x.2.2.1 x.2.2.2.1 x.2.2.2.2.1 x.2.2.2.2.2.1 x.2.2.2.2.2.2.1 x.2.2.2.2.2.2.2.1 x.2.2.2.2.2.2.2.2.1 x.2.2.2.2.2.2.2.2.2.1 x.2.2.2.2.2.2.2.2.2.2.1
noncomputable def l41_6 (x : Nat × Int × Int × Int × List Int × List Int × Nat × Int × Int × Int × List Vs × Unit) : Option (Nat × Int × Int × List Int × List Int × Nat × List Vs × Unit) := iterO r41_6 x
noncomputable def W41_6 : LF tC := loopW tC p41_6 2 l41_6
theorem W41_6_ok : keyed 6 (loopOf (bodyOf Try.f41) 0) = [.block 2 (.loop c41_6)] ∧ ∀ n, n ≤ 0 → Snd tC n (.block 2 (.loop c41_6)) W41_6.k := ⟨by kernel_rfl, fun n hn => loopW_ok (p := p41_6) (id := 2) Y41 (lam_le (lam_cons W41_43_ok lam_nil) n hn) hn r41_6_run⟩
noncomputable def c41_0 : Code := loopOf (bodyOf Try.f41) 0
def p41_0 : LS := ⟨0, [2, 5, 6], ⟨[vB, vB, .one (.one (.ptr 0 0 0)), vB, vB, .one (.one (.sl 1)), .one (.one (.ptr 2 0 0))] ++ vBs 78, [.box [.int .i64, .int .i64, .imm 5], .arr 3, .box [.sl 3], .arr 81]⟩, [⟨.exit 0, [5], ⟨vBs 5 ++ [.one (.one (.sl 0))] ++ vBs 79, [.arr 3]⟩, []⟩], []⟩
noncomputable def r41_0 (x : Nat × Int × Int × List Int × List Int × Nat × List Vs × Unit) : Option (Nat × Int × Int × List Int × List Int × Nat × List Vs × Unit ⊕ Nat × List Int × Unit) :=
  bif decide ((↑x.snd.snd.snd.snd.snd.fst : Int) > (0 : Int)) then
  bif decide ((0 : Nat) + x.snd.snd.snd.snd.snd.fst ≤ x.snd.snd.snd.snd.snd.snd.fst.length) then
    (f52 (List.take x.snd.snd.snd.snd.snd.fst (List.drop (0 : Nat) x.snd.snd.snd.snd.snd.snd.fst), x.snd.snd.snd.snd.snd.fst, ())).bind
      fun y122 =>
      bif
          decide ((0 : Int) ≤ IntKind.i64.wrap (IntKind.i64.wrap (y122.snd.fst * x.snd.fst) + y122.fst)) &&
            decide (IntKind.i64.wrap (IntKind.i64.wrap (y122.snd.fst * x.snd.fst) + y122.fst) < (↑x.fst : Int)) then
        x.snd.snd.snd.snd.fst[(0 : Nat) + (IntKind.i64.wrap (IntKind.i64.wrap (y122.snd.fst * x.snd.fst) + y122.fst)).toNat]?.bind
          fun y121 =>
          bif decide (y121 ≥ (0 : Int)) then
            some
              (Sum.inl
                (x.fst, x.snd.fst, x.snd.snd.fst, x.snd.snd.snd.fst, x.snd.snd.snd.snd.fst, y122.snd.snd.snd.snd.fst, y122.snd.snd.snd.fst,
                  ()))
          else
            x.snd.snd.snd.snd.fst[(0 : Nat) + (IntKind.i64.wrap (IntKind.i64.wrap (y122.snd.fst * x.snd.fst) + y122.fst)).toNat]?.bind
              fun _x =>
              (l41_6
                    (x.fst, (0 : Int), x.snd.fst, x.snd.snd.fst, x.snd.snd.snd.fst,
                      x.snd.snd.snd.snd.fst.set
                        ((0 : Nat) + (IntKind.i64.wrap (IntKind.i64.wrap (y122.snd.fst * x.snd.fst) + y122.fst)).toNat) y122.snd.snd.fst,
                      y122.snd.snd.snd.snd.fst, y122.fst, y122.snd.fst, y122.snd.snd.fst, y122.snd.snd.snd.fst, ())).bind
                fun y119 =>
                some
                  (Sum.inl
                    (y119.fst, y119.snd.fst, y119.snd.snd.fst, y119.snd.snd.snd.fst, y119.snd.snd.snd.snd.fst, y119.snd.snd.snd.snd.snd.fst,
                      y119.snd.snd.snd.snd.snd.snd.fst, ()))
      else none
  else none
else some (Sum.inr (x.fst, x.snd.snd.snd.snd.fst, ()))
theorem r41_0_run0 (v0 : Nat) (v1 : Int) (v2 : Int) (v3 : List Int) (v4 : List Int) (v5 : Nat) (v6 : List Vs) : roundK tC G41 (look [(6, W41_6)]) c41_0 p41_0 (v0, v1, v2, v3, v4, v5, v6, ()) = r41_0 (v0, v1, v2, v3, v4, v5, v6, ()) := by kernel_rfl
theorem r41_0_run (x : Nat × Int × Int × List Int × List Int × Nat × List Vs × Unit) : roundK tC G41 (look [(6, W41_6)]) c41_0 p41_0 x = r41_0 x := r41_0_run0 x.1 x.2.1 x.2.2.1 x.2.2.2.1 x.2.2.2.2.1 x.2.2.2.2.2.1 x.2.2.2.2.2.2.1
noncomputable def l41_0 (x : Nat × Int × Int × List Int × List Int × Nat × List Vs × Unit) : Option (Nat × List Int × Unit) := iterO r41_0 x
noncomputable def W41_0 : LF tC := loopW tC p41_0 0 l41_0
theorem W41_0_ok : keyed 0 (bodyOf Try.f41) = [.block 0 (.loop c41_0)] ∧ ∀ n, n ≤ 0 → Snd tC n (.block 0 (.loop c41_0)) W41_0.k := ⟨by kernel_rfl, fun n hn => loopW_ok (p := p41_0) (id := 0) Y41 (lam_le (lam_cons W41_6_ok lam_nil) n hn) hn r41_0_run⟩
def S41 : FS := ⟨[[.v, .v, .s 5], [.v, .v]], [⟨[.one (.agg [.int .i64, .int .i64, .imm 5]), .one (.agg [.int .i64, .int .i64])], []⟩], [⟨[.one (.one (.sl 0))], [.arr 3]⟩], [[.v]], [(4, 3)]⟩
noncomputable def f41 (x : Int × Int × List Int × Int × Int × Unit) : Option (Nat × List Int × Unit) :=
  (f49 ([(-1 : Int)], IntKind.i64.wrap (x.fst * x.snd.fst), ())).bind fun y128 =>
  (l41_0
        (y128.fst, x.fst, x.snd.fst, x.snd.snd.fst, y128.snd.fst, (1 : Nat), [Vs.mk x.snd.snd.snd.fst x.snd.snd.snd.snd.fst (0 : Int)],
          ())).bind
    fun y127 => some (y127.fst, y127.snd.fst, ())
noncomputable def F41 : CF tC := mkF tC S41 f41
theorem f41_run : ∀ a, fnS tC G41 (look [(0, W41_0)]) Try.f41 S41 a = f41 a := fun a => by kernel_rfl
theorem F41_ok : CFOK tC 41 F41 := mkF_ok Y41 (fn := Try.f41) (body := bodyOf Try.f41) (by kernel_rfl) (by kernel_rfl) (by kernel_rfl) (m := 0) rfl (lam_le (lam_cons W41_0_ok lam_nil)) f41_run

/-! path.Costs -/
noncomputable def G24 : FuncId → Option (CF tC) := look [(32, F32), (40, F40), (41, F41)]
theorem Y24 : SysN tC G24 := (sys_cons F32_ok (mkF_nat _ _) (sys_cons F40_ok (mkF_nat _ _) (sys_cons F41_ok (mkF_nat _ _) (sys_nil tC_ok tC_eq))))
def S24 : FS := ⟨[[.v, .v, .s 5], [.v, .v]], [⟨[.one (.agg [.int .i64, .int .i64, .imm 5]), .one (.agg [.int .i64, .int .i64])], []⟩], [⟨[.tup [.one (.sl 0), .one (.int .i64)]], [.arr 3]⟩], [[.v], [.v]], [(4, 3)]⟩
noncomputable def f24 (x : Int × Int × List Int × Int × Int × Unit) : Option (Nat × Int × List Int × Unit) :=
  (f32 (x.fst, x.snd.fst, x.snd.snd.fst, ())).bind fun y15 =>
  bif !y15.fst then some ((0 : Nat), (1 : Int), [], ())
  else
    (f40 (x.fst, x.snd.fst, x.snd.snd.fst, x.snd.snd.snd.fst, x.snd.snd.snd.snd.fst, ())).bind fun y14 =>
      bif !y14.fst then some ((0 : Nat), (7 : Int), [], ())
      else
        (f41 (x.fst, x.snd.fst, x.snd.snd.fst, x.snd.snd.snd.fst, x.snd.snd.snd.snd.fst, ())).bind fun y13 =>
          some (y13.fst, (0 : Int), y13.snd.fst, ())
noncomputable def F24 : CF tC := mkF tC S24 f24
theorem f24_run : ∀ a, fnS tC G24 (look []) Try.f24 S24 a = f24 a := fun a => by kernel_rfl
theorem F24_ok : CFOK tC 24 F24 := mkF_ok Y24 (fn := Try.f24) (body := bodyOf Try.f24) (by kernel_rfl) (by kernel_rfl) (by kernel_rfl) (m := 0) rfl (lam_le lam_nil) f24_run

/-! path.Find -/
noncomputable def G25 : FuncId → Option (CF tC) := look [(32, F32), (40, F40), (41, F41), (42, F42), (43, F43)]
theorem Y25 : SysN tC G25 := (sys_cons F32_ok (mkF_nat _ _) (sys_cons F40_ok (mkF_nat _ _) (sys_cons F41_ok (mkF_nat _ _) (sys_cons F42_ok (mkF_nat _ _) (sys_cons F43_ok (mkF_nat _ _) (sys_nil tC_ok tC_eq))))))
noncomputable def c25_58 : Code := subCode (loopOf (loopOf (bodyOf Try.f25) 1) 3) 58
def p25_58 : PS := ⟨0, [3, 5, 9, 10, 11, 12, 61, 62], ⟨[vB, vB, vB, .one (.one (.ptr 0 0 0)), vB, .one (.one (.ptr 1 0 0)), vB, vB, vB, .one (.one (.sl 2)), vI, .one (.one (.sl 3)), .one (.one (.ptr 4 0 0))] ++ vBs 48 ++ [.one (.agg [.lit .i64 1, .lit .i64 0, .lit .i64 1, .lit .i64 1, .lit .i64 0, .lit .i64 1, .lit .i64 (-1), .lit .i64 1, .lit .i64 (-1), .lit .i64 0, .lit .i64 (-1), .lit .i64 (-1), .lit .i64 0, .lit .i64 (-1), .lit .i64 1, .lit .i64 (-1)]), vI] ++ vBs 46, [.box [.int .i64, .int .i64, .imm 5], .box [.int .i64, .int .i64], .arr 3, .arr 26, .box [.int .i64, .int .i64]]⟩, [⟨.normal, [3, 5, 9, 10, 11, 12, 61, 62], ⟨[vB, vB, vB, .one (.one (.ptr 0 0 0)), vB, .one (.one (.ptr 1 0 0)), vB, vB, vB, .one (.one (.sl 2)), vI, .one (.one (.sl 3)), .one (.one (.ptr 4 0 0))] ++ vBs 48 ++ [.one (.agg [.lit .i64 1, .lit .i64 0, .lit .i64 1, .lit .i64 1, .lit .i64 0, .lit .i64 1, .lit .i64 (-1), .lit .i64 1, .lit .i64 (-1), .lit .i64 0, .lit .i64 (-1), .lit .i64 (-1), .lit .i64 0, .lit .i64 (-1), .lit .i64 1, .lit .i64 (-1)]), vI] ++ vBs 46, [.box [.int .i64, .int .i64, .imm 5], .box [.int .i64, .int .i64], .arr 3, .arr 26, .box [.int .i64, .int .i64]]⟩, []⟩], []⟩
noncomputable def j25_58 (x : Nat × Int × Nat × Int × Int × Int × List Int × Int × Int × List Int × List Pt × Int × Int × Unit) : Option (Nat × Int × Nat × Int × Int × Int × List Int × Int × Int × List Int × List Pt × Int × Int × Unit) :=
  some
  (x.fst, x.snd.fst, x.snd.snd.fst, IntKind.i64.wrap (x.snd.snd.snd.fst + (1 : Int)), x.snd.snd.snd.snd.fst, x.snd.snd.snd.snd.snd.fst,
    x.snd.snd.snd.snd.snd.snd.fst, x.snd.snd.snd.snd.snd.snd.snd.fst, x.snd.snd.snd.snd.snd.snd.snd.snd.fst,
    x.snd.snd.snd.snd.snd.snd.snd.snd.snd.fst, x.snd.snd.snd.snd.snd.snd.snd.snd.snd.snd.fst,
    x.snd.snd.snd.snd.snd.snd.snd.snd.snd.snd.snd.fst, x.snd.snd.snd.snd.snd.snd.snd.snd.snd.snd.snd.snd.fst, ())
theorem j25_58_run0 (v0 : Nat) (v1 : Int) (v2 : Nat) (v3 : Int) (v4 : Int) (v5 : Int) (v6 : List Int) (v7 : Int) (v8 : Int) (v9 : List Int) (v10 : List Pt) (v11 : Int) (v12 : Int) : pieceK tC G25 (look []) c25_58 p25_58 (v0, v1, v2, v3, v4, v5, v6, v7, v8, v9, v10, v11, v12, ()) = j25_58 (v0, v1, v2, v3, v4, v5, v6, v7, v8, v9, v10, v11, v12, ()) := by kernel_rfl
theorem j25_58_run (x : Nat × Int × Nat × Int × Int × Int × List Int × Int × Int × List Int × List Pt × Int × Int × Unit) : pieceK tC G25 (look []) c25_58 p25_58 x = j25_58 x := j25_58_run0 x.1 x.2.1 x.2.2.1 x.2.2.2.1 x.2.2.2.2.1 x.2.2.2.2.2.1 x.2.2.2.2.2.2.1 x.2.2.2.2.2.2.2.1 x.2.2.2.2.2.2.2.2.1 x.2.2.2.2.2.2.2.2.2.1 x.2.2.2.2.2.2.2.2.2.2.1 x.2.2.2.2.2.2.2.2.2.2.2.1 x.2.2.2.2.2.2.2.2.2.2.2.2.1
noncomputable def W25_58 : LF tC := cutLF tC p25_58 j25_58
theorem W25_58_ok : keyed 58 (loopOf (loopOf (bodyOf Try.f25) 1) 3) = [c25_58] ∧ ∀ n, n ≤ 0 → Snd tC n c25_58 W25_58.k := ⟨by kernel_rfl, fun n hn => cut_ok (p := p25_58) Y25 (lam_le lam_nil n hn) hn j25_58_run⟩
noncomputable def c25_9 : Code := loopOf (loopOf (bodyOf Try.f25) 1) 3
def p25_9 : LS := ⟨0, [3, 5, 9, 10, 11, 12, 61, 62], ⟨[vB, vB, vB, .one (.one (.ptr 0 0 0)), vB, .one (.one (.ptr 1 0 0)), vB, vB, vB, .one (.one (.sl 2)), vI, .one (.one (.sl 3)), .one (.one (.ptr 4 0 0))] ++ vBs 48 ++ [.one (.agg [.lit .i64 1, .lit .i64 0, .lit .i64 1, .lit .i64 1, .lit .i64 0, .lit .i64 1, .lit .i64 (-1), .lit .i64 1, .lit .i64 (-1), .lit .i64 0, .lit .i64 (-1), .lit .i64 (-1), .lit .i64 0, .lit .i64 (-1), .lit .i64 1, .lit .i64 (-1)]), vI] ++ vBs 46, [.box [.int .i64, .int .i64, .imm 5], .box [.int .i64, .int .i64], .arr 3, .arr 26, .box [.int .i64, .int .i64]]⟩, [⟨.exit 3, [3, 5, 9, 10, 11, 12], ⟨[vB, vB, vB, .one (.one (.ptr 0 0 0)), vB, .one (.one (.ptr 1 0 0)), vB, vB, vB, .one (.one (.sl 2)), vI, .one (.one (.sl 3)), .one (.one (.ptr 4 0 0))] ++ vBs 96, [.box [.int .i64, .int .i64, .imm 5], .box [.int .i64, .int .i64], .arr 3, .arr 26, .box [.int .i64, .int .i64]]⟩, []⟩], []⟩
noncomputable def r25_9 (x : Nat × Int × Nat × Int × Int × Int × List Int × Int × Int × List Int × List Pt × Int × Int × Unit) : Option
  (Nat × Int × Nat × Int × Int × Int × List Int × Int × Int × List Int × List Pt × Int × Int × Unit ⊕
    Nat × Int × Nat × Int × Int × List Int × Int × Int × List Int × List Pt × Int × Int × Unit) :=
  bif decide (x.snd.snd.snd.fst < (8 : Int)) then
  bif decide ((0 : Int) ≤ x.snd.snd.snd.fst) && decide (x.snd.snd.snd.fst < (8 : Int)) then
    (idxO
          [Pt.mk (1 : Int) (0 : Int), Pt.mk (1 : Int) (1 : Int), Pt.mk (0 : Int) (1 : Int), Pt.mk (-1 : Int) (1 : Int),
            Pt.mk (-1 : Int) (0 : Int), Pt.mk (-1 : Int) (-1 : Int), Pt.mk (0 : Int) (-1 : Int), Pt.mk (1 : Int) (-1 : Int)]
          x.snd.snd.snd.fst).bind
      fun y115 =>
      (f43
            (x.snd.snd.snd.snd.fst, x.snd.snd.snd.snd.snd.fst, x.snd.snd.snd.snd.snd.snd.fst,
              x.snd.snd.snd.snd.snd.snd.snd.snd.snd.snd.snd.fst, x.snd.snd.snd.snd.snd.snd.snd.snd.snd.snd.snd.snd.fst, y115.X, y115.Y,
              ())).bind
        fun y114 =>
        bif y114.snd.snd.snd.fst then
          bif
              decide ((0 : Int) ≤ IntKind.i64.wrap (IntKind.i64.wrap (y114.snd.fst * x.snd.snd.snd.snd.fst) + y114.fst)) &&
                decide (IntKind.i64.wrap (IntKind.i64.wrap (y114.snd.fst * x.snd.snd.snd.snd.fst) + y114.fst) < (↑x.fst : Int)) then
            x.snd.snd.snd.snd.snd.snd.snd.snd.snd.fst[(0 : Nat) +
                    (IntKind.i64.wrap (IntKind.i64.wrap (y114.snd.fst * x.snd.snd.snd.snd.fst) + y114.fst)).toNat]?.bind
              fun y112 =>
              bif
                  decide
                      ((0 : Int) ≤
                        IntKind.i64.wrap
                          (IntKind.i64.wrap (x.snd.snd.snd.snd.snd.snd.snd.snd.snd.snd.snd.snd.fst * x.snd.snd.snd.snd.fst) +
                            x.snd.snd.snd.snd.snd.snd.snd.snd.snd.snd.snd.fst)) &&
                    decide
                      (IntKind.i64.wrap
                          (IntKind.i64.wrap (x.snd.snd.snd.snd.snd.snd.snd.snd.snd.snd.snd.snd.fst * x.snd.snd.snd.snd.fst) +
                            x.snd.snd.snd.snd.snd.snd.snd.snd.snd.snd.snd.fst) <
                        (↑x.fst : Int)) then
                x.snd.snd.snd.snd.snd.snd.snd.snd.snd.fst[(0 : Nat) +
                        (IntKind.i64.wrap
                            (IntKind.i64.wrap (x.snd.snd.snd.snd.snd.snd.snd.snd.snd.snd.snd.snd.fst * x.snd.snd.snd.snd.fst) +
                              x.snd.snd.snd.snd.snd.snd.snd.snd.snd.snd.snd.fst)).toNat]?.bind
                  fun y111 =>
                  bif IntKind.i64.wrap (y112 + y114.snd.snd.fst) == y111 then
                    bif decide ((0 : Nat) + x.snd.snd.fst ≤ x.snd.snd.snd.snd.snd.snd.snd.snd.snd.snd.fst.length) then
                      bif roomy (x.snd.snd.fst + (1 : Nat)) (16 : Nat) then
                        some
                          (Sum.inr
                            (x.fst, x.snd.fst, x.snd.snd.fst + (1 : Nat), x.snd.snd.snd.snd.fst, x.snd.snd.snd.snd.snd.fst,
                              x.snd.snd.snd.snd.snd.snd.fst, x.snd.snd.snd.snd.snd.snd.snd.fst, x.snd.snd.snd.snd.snd.snd.snd.snd.fst,
                              x.snd.snd.snd.snd.snd.snd.snd.snd.snd.fst,
                              List.take x.snd.snd.fst (List.drop (0 : Nat) x.snd.snd.snd.snd.snd.snd.snd.snd.snd.snd.fst) ++
                                [Pt.mk y114.fst y114.snd.fst],
                              x.snd.snd.snd.snd.snd.snd.snd.snd.snd.snd.snd.fst, x.snd.snd.snd.snd.snd.snd.snd.snd.snd.snd.snd.snd.fst, ()))
                      else none
                    else none
                  else
                    (j25_58
                          (x.fst, x.snd.fst, x.snd.snd.fst, x.snd.snd.snd.fst, x.snd.snd.snd.snd.fst, x.snd.snd.snd.snd.snd.fst,
                            x.snd.snd.snd.snd.snd.snd.fst, x.snd.snd.snd.snd.snd.snd.snd.fst, x.snd.snd.snd.snd.snd.snd.snd.snd.fst,
                            x.snd.snd.snd.snd.snd.snd.snd.snd.snd.fst, x.snd.snd.snd.snd.snd.snd.snd.snd.snd.snd.fst,
                            x.snd.snd.snd.snd.snd.snd.snd.snd.snd.snd.snd.fst, x.snd.snd.snd.snd.snd.snd.snd.snd.snd.snd.snd.snd.fst,
                            ())).bind
                      fun y110 =>
                      some
                        (Sum.inl
                          (y110.fst, y110.snd.fst, y110.snd.snd.fst, y110.snd.snd.snd.fst, y110.snd.snd.snd.snd.fst,
                            y110.snd.snd.snd.snd.snd.fst, y110.snd.snd.snd.snd.snd.snd.fst, y110.snd.snd.snd.snd.snd.snd.snd.fst,
                            y110.snd.snd.snd.snd.snd.snd.snd.snd.fst, y110.snd.snd.snd.snd.snd.snd.snd.snd.snd.fst,
                            y110.snd.snd.snd.snd.snd.snd.snd.snd.snd.snd.fst, y110.snd.snd.snd.snd.snd.snd.snd.snd.snd.snd.snd.fst,
                            y110.snd.snd.snd.snd.snd.snd.snd.snd.snd.snd.snd.snd.fst, ()))
              else none
          else none
        else
          (j25_58
                (x.fst, x.snd.fst, x.snd.snd.fst, x.snd.snd.snd.fst, x.snd.snd.snd.snd.fst, x.snd.snd.snd.snd.snd.fst,
                  x.snd.snd.snd.snd.snd.snd.fst, x.snd.snd.snd.snd.snd.snd.snd.fst, x.snd.snd.snd.snd.snd.snd.snd.snd.fst,
                  x.snd.snd.snd.snd.snd.snd.snd.snd.snd.fst, x.snd.snd.snd.snd.snd.snd.snd.snd.snd.snd.fst,
                  x.snd.snd.snd.snd.snd.snd.snd.snd.snd.snd.snd.fst, x.snd.snd.snd.snd.snd.snd.snd.snd.snd.snd.snd.snd.fst, ())).bind
            fun y113 =>
            some
              (Sum.inl
                (y113.fst, y113.snd.fst, y113.snd.snd.fst, y113.snd.snd.snd.fst, y113.snd.snd.snd.snd.fst, y113.snd.snd.snd.snd.snd.fst,
                  y113.snd.snd.snd.snd.snd.snd.fst, y113.snd.snd.snd.snd.snd.snd.snd.fst, y113.snd.snd.snd.snd.snd.snd.snd.snd.fst,
                  y113.snd.snd.snd.snd.snd.snd.snd.snd.snd.fst, y113.snd.snd.snd.snd.snd.snd.snd.snd.snd.snd.fst,
                  y113.snd.snd.snd.snd.snd.snd.snd.snd.snd.snd.snd.fst, y113.snd.snd.snd.snd.snd.snd.snd.snd.snd.snd.snd.snd.fst, ()))
  else none
else
  some
    (Sum.inr
      (x.fst, x.snd.fst, x.snd.snd.fst, x.snd.snd.snd.snd.fst, x.snd.snd.snd.snd.snd.fst, x.snd.snd.snd.snd.snd.snd.fst,
        x.snd.snd.snd.snd.snd.snd.snd.fst, x.snd.snd.snd.snd.snd.snd.snd.snd.fst, x.snd.snd.snd.snd.snd.snd.snd.snd.snd.fst,
        x.snd.snd.snd.snd.snd.snd.snd.snd.snd.snd.fst, x.snd.snd.snd.snd.snd.snd.snd.snd.snd.snd.snd.fst,
        x.snd.snd.snd.snd.snd.snd.snd.snd.snd.snd.snd.snd.fst, ()))
theorem r25_9_run0 (v0 : Nat) (v1 : Int) (v2 : Nat) (v3 : Int) (v4 : Int) (v5 : Int) (v6 : List Int) (v7 : Int) (v8 : Int) (v9 : List Int) (v10 : List Pt) (v11 : Int) (v12 : Int) : roundK tC G25 (look [(58, W25_58)]) c25_9 p25_9 (v0, v1, v2, v3, v4, v5, v6, v7, v8, v9, v10, v11, v12, ()) = r25_9 (v0, v1, v2, v3, v4, v5, v6, v7, v8, v9, v10, v11, v12, ()) := by kernel_rfl
theorem r25_9_run (x : Nat × Int × Nat × Int × Int × Int × List Int × Int × Int × List Int × List Pt × Int × Int × Unit) : roundK tC G25 (look [(58, W25_58)]) c25_9 p25_9 x = r25_9 x := r25_9_run0 x.1 x.2.1 x.2.2.1 x.2.2.2.1 x.2.2.2.2.1 x.2.2.2.2.2.1 x.2.2.2.2.2.2.1 x.2.2.2.2.2.2.2.1 x.2.2.2.2.2.2.2.2.1 x.2.2.2.2.2.2.2.2.2.1 x.2.2.2.2.2.2.2.2.2.2.1 x.2.2.2.2.2.2.2.2.2.2.2.1 x.2.2.2.2.2.2.2.2.2.2.2.2.1
noncomputable def l25_9 (x : Nat × Int × Nat × Int × Int × Int × List Int × Int × Int × List Int × List Pt × Int × Int × Unit) : Option (Nat × Int × Nat × Int × Int × List Int × Int × Int × List Int × List Pt × Int × Int × Unit) := iterO r25_9 x
noncomputable def W25_9 : LF tC := loopW tC p25_9 3 l25_9
theorem W25_9_ok : keyed 9 (loopOf (bodyOf Try.f25) 1) = [.block 3 (.loop c25_9)] ∧ ∀ n, n ≤ 0 → Snd tC n (.block 3 (.loop c25_9)) W25_9.k := ⟨by kernel_rfl, fun n hn => loopW_ok (p := p25_9) (id := 3) Y25 (lam_le (lam_cons W25_58_ok lam_nil) n hn) hn r25_9_run⟩
noncomputable def c25_3 : Code := loopOf (bodyOf Try.f25) 1
def p25_3 : LS := ⟨0, [3, 5, 9, 10, 11, 12], ⟨[vB, vB, vB, .one (.one (.ptr 0 0 0)), vB, .one (.one (.ptr 1 0 0)), vB, vB, vB, .one (.one (.sl 2)), vI, .one (.one (.sl 3)), .one (.one (.ptr 4 0 0))] ++ vBs 96, [.box [.int .i64, .int .i64, .imm 5], .box [.int .i64, .int .i64], .arr 3, .arr 26, .box [.int .i64, .int .i64]]⟩, [⟨.exit 1, [10, 11], ⟨vBs 10 ++ [vI, .one (.one (.sl 0))] ++ vBs 97, [.arr 26]⟩, []⟩], []⟩
noncomputable def r25_3 (x : Nat × Int × Nat × Int × Int × List Int × Int × Int × List Int × List Pt × Int × Int × Unit) : Option (Nat × Int × Nat × Int × Int × List Int × Int × Int × List Int × List Pt × Int × Int × Unit ⊕ Int × Nat × List Pt × Unit) :=
  bif
    !bif x.snd.snd.snd.snd.snd.snd.snd.snd.snd.snd.fst == x.snd.snd.snd.snd.snd.snd.fst then
        bif x.snd.snd.snd.snd.snd.snd.snd.snd.snd.snd.snd.fst == x.snd.snd.snd.snd.snd.snd.snd.fst then true else false
      else false then
  (l25_9
        (x.fst, x.snd.fst, x.snd.snd.fst, (0 : Int), x.snd.snd.snd.fst, x.snd.snd.snd.snd.fst, x.snd.snd.snd.snd.snd.fst,
          x.snd.snd.snd.snd.snd.snd.fst, x.snd.snd.snd.snd.snd.snd.snd.fst, x.snd.snd.snd.snd.snd.snd.snd.snd.fst,
          x.snd.snd.snd.snd.snd.snd.snd.snd.snd.fst, x.snd.snd.snd.snd.snd.snd.snd.snd.snd.snd.fst,
          x.snd.snd.snd.snd.snd.snd.snd.snd.snd.snd.snd.fst, ())).bind
    fun y133 =>
    bif
        decide ((0 : Int) ≤ IntKind.i64.wrap ((↑y133.snd.snd.fst : Int) - (1 : Int))) &&
          decide (IntKind.i64.wrap ((↑y133.snd.snd.fst : Int) - (1 : Int)) < (↑y133.snd.snd.fst : Int)) then
      y133.snd.snd.snd.snd.snd.snd.snd.snd.snd.fst[(0 : Nat) + (IntKind.i64.wrap ((↑y133.snd.snd.fst : Int) - (1 : Int))).toNat]?.bind
        fun y132 =>
        some
          (Sum.inl
            (y133.fst, y133.snd.fst, y133.snd.snd.fst, y133.snd.snd.snd.fst, y133.snd.snd.snd.snd.fst, y133.snd.snd.snd.snd.snd.fst,
              y133.snd.snd.snd.snd.snd.snd.fst, y133.snd.snd.snd.snd.snd.snd.snd.fst, y133.snd.snd.snd.snd.snd.snd.snd.snd.fst,
              y133.snd.snd.snd.snd.snd.snd.snd.snd.snd.fst, y132.X, y132.Y, ()))
    else none
else some (Sum.inr (x.snd.fst, x.snd.snd.fst, x.snd.snd.snd.snd.snd.snd.snd.snd.snd.fst, ()))
theorem r25_3_run0 (v0 : Nat) (v1 : Int) (v2 : Nat) (v3 : Int) (v4 : Int) (v5 : List Int) (v6 : Int) (v7 : Int) (v8 : List Int) (v9 : List Pt) (v10 : Int) (v11 : Int) : roundK tC G25 (look [(9, W25_9)]) c25_3 p25_3 (v0, v1, v2, v3, v4, v5, v6, v7, v8, v9, v10, v11, ()) = r25_3 (v0, v1, v2, v3, v4, v5, v6, v7, v8, v9, v10, v11, ()) := by kernel_rfl
theorem r25_3_run (x : Nat × Int × Nat × Int × Int × List Int × Int × Int × List Int × List Pt × Int × Int × Unit) : roundK tC G25 (look [(9, W25_9)]) c25_3 p25_3 x = r25_3 x := r25_3_run0 x.1 x.2.1 x.2.2.1 x.2.2.2.1 x.2.2.2.2.1 x.2.2.2.2.2.1 x.2.2.2.2.2.2.1 x.2.2.2.2.2.2.2.1 x.2.2.2.2.2.2.2.2.1 x.2.2.2.2.2.2.2.2.2.1 x.2.2.2.2.2.2.2.2.2.2.1 x.2.2.2.2.2.2.2.2.2.2.2.1
noncomputable def l25_3 (x : Nat × Int × Nat × Int × Int × List Int × Int × Int × List Int × List Pt × Int × Int × Unit) : Option (Int × Nat × List Pt × Unit) := iterO r25_3 x
noncomputable def W25_3 : LF tC := loopW tC p25_3 1 l25_3
theorem W25_3_ok : keyed 3 (bodyOf Try.f25) = [.block 1 (.loop c25_3)] ∧ ∀ n, n ≤ 0 → Snd tC n (.block 1 (.loop c25_3)) W25_3.k := ⟨by kernel_rfl, fun n hn => loopW_ok (p := p25_3) (id := 1) Y25 (lam_le (lam_cons W25_9_ok lam_nil) n hn) hn r25_3_run⟩
def S25 : FS := ⟨[[.v, .v, .s 5], [.v, .v], [.v, .v]], [⟨[.one (.agg [.int .i64, .int .i64, .imm 5]), .one (.agg [.int .i64, .int .i64]), .one (.agg [.int .i64, .int .i64])], []⟩], [⟨[.tup [.one (.sl 0), .one (.int .i64), .one (.int .i64)]], [.arr 26]⟩], [[.v], [.v], [.v]], [(6, 26)]⟩
noncomputable def f25 (x : Int × Int × List Int × Int × Int × Int × Int × Unit) : Option (Nat × Int × Int × List Pt × Unit) :=
  (f32 (x.fst, x.snd.fst, x.snd.snd.fst, ())).bind fun y146 =>
  bif !y146.fst then some ((0 : Nat), (0 : Int), (1 : Int), [], ())
  else
    (f40 (x.fst, x.snd.fst, x.snd.snd.fst, x.snd.snd.snd.fst, x.snd.snd.snd.snd.fst, ())).bind fun y145 =>
      bif !y145.fst then some ((0 : Nat), (0 : Int), (7 : Int), [], ())
      else
        (f40 (x.fst, x.snd.fst, x.snd.snd.fst, x.snd.snd.snd.snd.snd.fst, x.snd.snd.snd.snd.snd.snd.fst, ())).bind fun y144 =>
          bif !y144.fst then some ((0 : Nat), (0 : Int), (7 : Int), [], ())
          else
            (f41 (x.fst, x.snd.fst, x.snd.snd.fst, x.snd.snd.snd.snd.snd.fst, x.snd.snd.snd.snd.snd.snd.fst, ())).bind fun y143 =>
              bif
                  decide ((0 : Int) ≤ IntKind.i64.wrap (IntKind.i64.wrap (x.snd.snd.snd.snd.fst * x.fst) + x.snd.snd.snd.fst)) &&
                    decide
                      (IntKind.i64.wrap (IntKind.i64.wrap (x.snd.snd.snd.snd.fst * x.fst) + x.snd.snd.snd.fst) < (↑y143.fst : Int)) then
                y143.snd.fst[(0 : Nat) +
                        (IntKind.i64.wrap (IntKind.i64.wrap (x.snd.snd.snd.snd.fst * x.fst) + x.snd.snd.snd.fst)).toNat]?.bind
                  fun y142 =>
                  bif decide (y142 < (0 : Int)) then some ((0 : Nat), (0 : Int), (14 : Int), [], ())
                  else
                    (l25_3
                          (y143.fst, y142, (1 : Nat), x.fst, x.snd.fst, x.snd.snd.fst, x.snd.snd.snd.snd.snd.fst,
                            x.snd.snd.snd.snd.snd.snd.fst, y143.snd.fst, [Pt.mk x.snd.snd.snd.fst x.snd.snd.snd.snd.fst], x.snd.snd.snd.fst,
                            x.snd.snd.snd.snd.fst, ())).bind
                      fun y141 => some (y141.snd.fst, y141.fst, (0 : Int), y141.snd.snd.fst, ())
              else none
noncomputable def F25 : CF tC := mkF tC S25 f25
theorem f25_run : ∀ a, fnS tC G25 (look [(3, W25_3)]) Try.f25 S25 a = f25 a := fun a => by kernel_rfl
theorem F25_ok : CFOK tC 25 F25 := mkF_ok Y25 (fn := Try.f25) (body := bodyOf Try.f25) (by kernel_rfl) (by kernel_rfl) (by kernel_rfl) (m := 0) rfl (lam_le (lam_cons W25_3_ok lam_nil)) f25_run

/-! inside -/
noncomputable def G33 : FuncId → Option (CF tC) := look []
theorem Y33 : SysN tC G33 := (sys_nil tC_ok tC_eq)
def S33 : FS := ⟨[[.v, .v, .s 5], [.v, .v]], [⟨[.one (.agg [.int .i64, .int .i64, .imm 5]), .one (.agg [.int .i64, .int .i64])], []⟩], [⟨[vO], []⟩], [[.v]], []⟩
def f33 (n1 : Int) (n2 : Int) (_l3 : List Int) (n4 : Int) (n5 : Int) : Bool :=
  bif decide (n4 ≥ (0 : Int)) then bif decide (n5 ≥ (0 : Int)) then bif decide (n4 < n1) then decide (n5 < n2) else false else false
else false
noncomputable def F33 : CF tC := mkF tC S33 (fun a => some ((f33 a.1 a.2.1 a.2.2.1 a.2.2.2.1 a.2.2.2.2.1), ()))
def h33 (r : Bool) : Option (altTy tE S33.outs) := some (r, ())
theorem f33_run : ∀ a, fnS tC G33 (look []) Try.f33 S33 a = (fun a => some ((f33 a.1 a.2.1 a.2.2.1 a.2.2.2.1 a.2.2.2.2.1), ())) a := fun a => by
  have key : ∀ (n1 : Int) (n2 : Int) (l3 : List Int) (n4 : Int) (n5 : Int), (bif decide (n4 ≥ (0 : Int)) then
  bif decide (n5 ≥ (0 : Int)) then bif decide (n4 < n1) then h33 (decide (n5 < n2)) else h33 false else h33 false
else h33 false) = h33 (f33 n1 n2 l3 n4 n5) := by
    intros
    unfold f33
    repeat' first | rfl | refine cond_h (g := h33) ?_ ?_
  exact Eq.trans (by kernel_rfl) (key a.1 a.2.1 a.2.2.1 a.2.2.2.1 a.2.2.2.2.1)
theorem F33_ok : CFOK tC 33 F33 := mkF_ok Y33 (fn := Try.f33) (body := bodyOf Try.f33) (by kernel_rfl) (by kernel_rfl) (by kernel_rfl) (m := 0) rfl (lam_le lam_nil) f33_run

/-! slices.Clone[byte] -/
noncomputable def G34 : FuncId → Option (CF tC) := look []
theorem Y34 : SysN tC G34 := (sys_nil tC_ok tC_eq)
noncomputable def c34_4 : Code := subCode (bodyOf Try.f34) 4
def p34_4 : PS := ⟨0, [0], ⟨[.one (.one (.imm 5))] ++ vBs 7, []⟩, [⟨.ret, [2], ⟨vBs 2 ++ [.one (.one (.sl 0))] ++ vBs 5, [.arr 5]⟩, [(2, 5)]⟩], []⟩
noncomputable def j34_4 (x : List (Int) × Unit) : Option (Nat × List (Int) × Unit) := bif roomy (0 + x.1.length) 1 then some (0 + x.1.length, x.1, ()) else none
noncomputable def W34_4 : LF tC := cutLF tC p34_4 j34_4
theorem c34_4_is : NilHead c34_4 0 3 4 22 := ⟨_, _, _, _, _, _, _, _, _, _, _, rfl⟩
theorem j34_4_nil : exec tC G34 (look []) (restOf c34_4) ⟨((p34_4.s.emb ([], ())).t.set 3 (.imm 5 [])).set 4 (.bool true), (p34_4.s.emb ([], ())).h⟩ (fun e st => unP p34_4.k p34_4.outs e st) = j34_4 ([], ()) := by kernel_rfl
theorem j34_4_one (x : p34_4.s.ty tE) : exec tC G34 (look []) (restOf c34_4) ⟨((p34_4.s.emb x).t.set 3 (.imm 5 x.1)).set 4 (.bool false), (p34_4.s.emb x).h⟩ (fun e st => unP p34_4.k p34_4.outs e st) = j34_4 x := by kernel_rfl
theorem W34_4_ok : keyed 4 (bodyOf Try.f34) = [c34_4] ∧ ∀ n, n ≤ 0 → Snd tC n c34_4 W34_4.k := ⟨by kernel_rfl, fun n hn => nil_cut (p := p34_4) (f := j34_4) (Λ := look []) (el := 5) Y34 hn c34_4_is (by kernel_rfl) (lam_le lam_nil n hn) (fun x => ⟨5, x.1, rfl, fun t h => match t, x, h with
    | true, (xs, ()), h => by
      have h : xs = [] := h rfl
      subst h
      exact j34_4_nil
    | false, x, _ => j34_4_one x⟩) (fun _ => Nat.le_of_ble_eq_true (by kernel_rfl))⟩
def S34 : FS := ⟨[[.s 5]], [⟨[.one (.one (.imm 5))], []⟩], [⟨[.one (.one (.sl 0))], [.arr 5]⟩], [[.v]], []⟩
noncomputable def f34 (x : List (Int) × Unit) : Option (Nat × List (Int) × Unit) := (j34_4 (x.1, ())).bind fun y => some (y.1, y.2.1, ())
noncomputable def F34 : CF tC := mkF tC S34 f34
theorem f34_run : ∀ a, fnS tC G34 (look [(4, W34_4)]) Try.f34 S34 a = f34 a := fun a => by kernel_rfl
theorem F34_ok : CFOK tC 34 F34 := mkF_ok Y34 (fn := Try.f34) (body := bodyOf Try.f34) (by kernel_rfl) (by kernel_rfl) (by kernel_rfl) (m := 0) rfl (lam_le (lam_cons W34_4_ok lam_nil)) f34_run

/-! slices.Clone[int] -/
noncomputable def G44 : FuncId → Option (CF tC) := look []
theorem Y44 : SysN tC G44 := (sys_nil tC_ok tC_eq)
noncomputable def c44_4 : Code := subCode (bodyOf Try.f44) 4
def p44_4 : PS := ⟨0, [0], ⟨[.one (.one (.imm 3))] ++ vBs 7, []⟩, [⟨.ret, [2], ⟨vBs 2 ++ [.one (.one (.sl 0))] ++ vBs 5, [.arr 3]⟩, [(2, 3)]⟩], []⟩
noncomputable def j44_4 (x : List (Int) × Unit) : Option (Nat × List (Int) × Unit) := bif roomy (0 + x.1.length) 8 then some (0 + x.1.length, x.1, ()) else none
noncomputable def W44_4 : LF tC := cutLF tC p44_4 j44_4
theorem c44_4_is : NilHead c44_4 0 3 4 49 := ⟨_, _, _, _, _, _, _, _, _, _, _, rfl⟩
theorem j44_4_nil : exec tC G44 (look []) (restOf c44_4) ⟨((p44_4.s.emb ([], ())).t.set 3 (.imm 3 [])).set 4 (.bool true), (p44_4.s.emb ([], ())).h⟩ (fun e st => unP p44_4.k p44_4.outs e st) = j44_4 ([], ()) := by kernel_rfl
theorem j44_4_one (x : p44_4.s.ty tE) : exec tC G44 (look []) (restOf c44_4) ⟨((p44_4.s.emb x).t.set 3 (.imm 3 x.1)).set 4 (.bool false), (p44_4.s.emb x).h⟩ (fun e st => unP p44_4.k p44_4.outs e st) = j44_4 x := by kernel_rfl
theorem W44_4_ok : keyed 4 (bodyOf Try.f44) = [c44_4] ∧ ∀ n, n ≤ 0 → Snd tC n c44_4 W44_4.k := ⟨by kernel_rfl, fun n hn => nil_cut (p := p44_4) (f := j44_4) (Λ := look []) (el := 3) Y44 hn c44_4_is (by kernel_rfl) (lam_le lam_nil n hn) (fun x => ⟨3, x.1, rfl, fun t h => match t, x, h with
    | true, (xs, ()), h => by
      have h : xs = [] := h rfl
      subst h
      exact j44_4_nil
    | false, x, _ => j44_4_one x⟩) (fun _ => Nat.le_of_ble_eq_true (by kernel_rfl))⟩
def S44 : FS := ⟨[[.s 3]], [⟨[.one (.one (.imm 3))], []⟩], [⟨[.one (.one (.sl 0))], [.arr 3]⟩], [[.v]], []⟩
noncomputable def f44 (x : List (Int) × Unit) : Option (Nat × List (Int) × Unit) := (j44_4 (x.1, ())).bind fun y => some (y.1, y.2.1, ())
noncomputable def F44 : CF tC := mkF tC S44 f44
theorem f44_run : ∀ a, fnS tC G44 (look [(4, W44_4)]) Try.f44 S44 a = f44 a := fun a => by kernel_rfl
theorem F44_ok : CFOK tC 44 F44 := mkF_ok Y44 (fn := Try.f44) (body := bodyOf Try.f44) (by kernel_rfl) (by kernel_rfl) (by kernel_rfl) (m := 0) rfl (lam_le (lam_cons W44_4_ok lam_nil)) f44_run

/-! index -/
noncomputable def G36 : FuncId → Option (CF tC) := look []
theorem Y36 : SysN tC G36 := (sys_nil tC_ok tC_eq)
def S36 : FS := ⟨[[.q], [.v, .v]], [⟨[.one (.ro [.int .i64, .int .i64, .imm 5, .int .i64, .int .i64, .imm 3]), .one (.agg [.int .i64, .int .i64])], []⟩], [⟨[vI], []⟩], [[.v]], []⟩
def f36 (n1 : Int) (_n2 : Int) (_l3 : List Int) (_n4 : Int) (_n5 : Int) (_l6 : List Int) (n7 : Int) (n8 : Int) : Int :=
  IntKind.i64.wrap (IntKind.i64.wrap (n8 * n1) + n7)
noncomputable def F36 : CF tC := mkF tC S36 (fun a => some ((f36 a.1 a.2.1 a.2.2.1 a.2.2.2.1 a.2.2.2.2.1 a.2.2.2.2.2.1 a.2.2.2.2.2.2.1 a.2.2.2.2.2.2.2.1), ()))
def h36 (r : Int) : Option (altTy tE S36.outs) := some (r, ())
theorem f36_run : ∀ a, fnS tC G36 (look []) Try.f36 S36 a = (fun a => some ((f36 a.1 a.2.1 a.2.2.1 a.2.2.2.1 a.2.2.2.2.1 a.2.2.2.2.2.1 a.2.2.2.2.2.2.1 a.2.2.2.2.2.2.2.1), ())) a := fun a => by
  have key : ∀ (n1 : Int) (n2 : Int) (l3 : List Int) (n4 : Int) (n5 : Int) (l6 : List Int) (n7 : Int) (n8 : Int), (h36 (IntKind.i64.wrap (IntKind.i64.wrap (n8 * n1) + n7))) = h36 (f36 n1 n2 l3 n4 n5 l6 n7 n8) := by
    intros
    unfold f36
    repeat' first | rfl | refine cond_h (g := h36) ?_ ?_
  exact Eq.trans (by kernel_rfl) (key a.1 a.2.1 a.2.2.1 a.2.2.2.1 a.2.2.2.2.1 a.2.2.2.2.2.1 a.2.2.2.2.2.2.1 a.2.2.2.2.2.2.2.1)
theorem F36_ok : CFOK tC 36 F36 := mkF_ok Y36 (fn := Try.f36) (body := bodyOf Try.f36) (by kernel_rfl) (by kernel_rfl) (by kernel_rfl) (m := 0) rfl (lam_le lam_nil) f36_run

/-! around -/
noncomputable def G38 : FuncId → Option (CF tC) := look []
theorem Y38 : SysN tC G38 := (sys_nil tC_ok tC_eq)
noncomputable def c38_6 : Code := loopOf (loopOf (bodyOf Try.f38) 0) 2
def p38_6 : LS := ⟨0, [2, 3, 5, 6, 7], ⟨[vB, vB, .one (.one (.ptr 0 0 0)), .one (.one (.ptr 1 0 0)), vB, .one (.one (.sl 2)), vI, vI] ++ vBs 37, [.box [.int .i64, .int .i64, .imm 5], .box [.int .i64, .int .i64], .arr 26]⟩, [⟨.exit 2, [2, 3, 5, 6], ⟨[vB, vB, .one (.one (.ptr 0 0 0)), .one (.one (.ptr 1 0 0)), vB, .one (.one (.sl 2)), vI] ++ vBs 38, [.box [.int .i64, .int .i64, .imm 5], .box [.int .i64, .int .i64], .arr 26]⟩, []⟩], []⟩
noncomputable def r38_6 (x : Nat × Int × Int × Int × Int × List Int × Int × Int × List Pt × Unit) : Option (Nat × Int × Int × Int × Int × List Int × Int × Int × List Pt × Unit ⊕ Nat × Int × Int × Int × List Int × Int × Int × List Pt × Unit) :=
  bif
    decide
      (x.snd.snd.fst ≤
        bif decide (IntKind.i64.wrap (x.snd.snd.snd.fst - (1 : Int)) < IntKind.i64.wrap (x.snd.snd.snd.snd.snd.snd.fst + (1 : Int))) then
          IntKind.i64.wrap (x.snd.snd.snd.fst - (1 : Int))
        else IntKind.i64.wrap (x.snd.snd.snd.snd.snd.snd.fst + (1 : Int))) then
  bif decide ((0 : Nat) + x.fst ≤ x.snd.snd.snd.snd.snd.snd.snd.snd.fst.length) then
    bif roomy (x.fst + (1 : Nat)) (16 : Nat) then
      some
        (Sum.inl
          (x.fst + (1 : Nat), x.snd.fst, IntKind.i64.wrap (x.snd.snd.fst + (1 : Int)), x.snd.snd.snd.fst, x.snd.snd.snd.snd.fst,
            x.snd.snd.snd.snd.snd.fst, x.snd.snd.snd.snd.snd.snd.fst, x.snd.snd.snd.snd.snd.snd.snd.fst,
            List.take x.fst (List.drop (0 : Nat) x.snd.snd.snd.snd.snd.snd.snd.snd.fst) ++ [Pt.mk x.snd.snd.fst x.snd.fst], ()))
    else none
  else none
else
  some
    (Sum.inr
      (x.fst, x.snd.fst, x.snd.snd.snd.fst, x.snd.snd.snd.snd.fst, x.snd.snd.snd.snd.snd.fst, x.snd.snd.snd.snd.snd.snd.fst,
        x.snd.snd.snd.snd.snd.snd.snd.fst, x.snd.snd.snd.snd.snd.snd.snd.snd.fst, ()))
theorem r38_6_run0 (v0 : Nat) (v1 : Int) (v2 : Int) (v3 : Int) (v4 : Int) (v5 : List Int) (v6 : Int) (v7 : Int) (v8 : List Pt) : roundK tC G38 (look []) c38_6 p38_6 (v0, v1, v2, v3, v4, v5, v6, v7, v8, ()) = r38_6 (v0, v1, v2, v3, v4, v5, v6, v7, v8, ()) := by kernel_rfl
theorem r38_6_run (x : Nat × Int × Int × Int × Int × List Int × Int × Int × List Pt × Unit) : roundK tC G38 (look []) c38_6 p38_6 x = r38_6 x := r38_6_run0 x.1 x.2.1 x.2.2.1 x.2.2.2.1 x.2.2.2.2.1 x.2.2.2.2.2.1 x.2.2.2.2.2.2.1 x.2.2.2.2.2.2.2.1 x.2.2.2.2.2.2.2.2.1
noncomputable def l38_6 (x : Nat × Int × Int × Int × Int × List Int × Int × Int × List Pt × Unit) : Option (Nat × Int × Int × Int × List Int × Int × Int × List Pt × Unit) := iterO r38_6 x
noncomputable def W38_6 : LF tC := loopW tC p38_6 2 l38_6
theorem W38_6_ok : keyed 6 (loopOf (bodyOf Try.f38) 0) = [.block 2 (.loop c38_6)] ∧ ∀ n, n ≤ 0 → Snd tC n (.block 2 (.loop c38_6)) W38_6.k := ⟨by kernel_rfl, fun n hn => loopW_ok (p := p38_6) (id := 2) Y38 (lam_le lam_nil n hn) hn r38_6_run⟩
noncomputable def c38_0 : Code := loopOf (bodyOf Try.f38) 0
def p38_0 : LS := ⟨0, [2, 3, 5, 6], ⟨[vB, vB, .one (.one (.ptr 0 0 0)), .one (.one (.ptr 1 0 0)), vB, .one (.one (.sl 2)), vI] ++ vBs 38, [.box [.int .i64, .int .i64, .imm 5], .box [.int .i64, .int .i64], .arr 26]⟩, [⟨.exit 0, [5], ⟨vBs 5 ++ [.one (.one (.sl 0))] ++ vBs 39, [.arr 26]⟩, []⟩], [(5, 26)]⟩
noncomputable def r38_0 (x : Nat × Int × Int × Int × List Int × Int × Int × List Pt × Unit) : Option (Nat × Int × Int × Int × List Int × Int × Int × List Pt × Unit ⊕ Nat × List Pt × Unit) :=
  bif
    decide
      (x.snd.fst ≤
        bif decide (IntKind.i64.wrap (x.snd.snd.snd.fst - (1 : Int)) < IntKind.i64.wrap (x.snd.snd.snd.snd.snd.snd.fst + (1 : Int))) then
          IntKind.i64.wrap (x.snd.snd.snd.fst - (1 : Int))
        else IntKind.i64.wrap (x.snd.snd.snd.snd.snd.snd.fst + (1 : Int))) then
  (l38_6
        (x.fst, x.snd.fst,
          bif decide ((0 : Int) > IntKind.i64.wrap (x.snd.snd.snd.snd.snd.fst - (1 : Int))) then (0 : Int)
          else IntKind.i64.wrap (x.snd.snd.snd.snd.snd.fst - (1 : Int)),
          x.snd.snd.fst, x.snd.snd.snd.fst, x.snd.snd.snd.snd.fst, x.snd.snd.snd.snd.snd.fst, x.snd.snd.snd.snd.snd.snd.fst,
          x.snd.snd.snd.snd.snd.snd.snd.fst, ())).bind
    fun y79 =>
    some
      (Sum.inl
        (y79.fst, IntKind.i64.wrap (y79.snd.fst + (1 : Int)), y79.snd.snd.fst, y79.snd.snd.snd.fst, y79.snd.snd.snd.snd.fst,
          y79.snd.snd.snd.snd.snd.fst, y79.snd.snd.snd.snd.snd.snd.fst, y79.snd.snd.snd.snd.snd.snd.snd.fst, ()))
else some (Sum.inr (x.fst, x.snd.snd.snd.snd.snd.snd.snd.fst, ()))
theorem r38_0_run0 (v0 : Nat) (v1 : Int) (v2 : Int) (v3 : Int) (v4 : List Int) (v5 : Int) (v6 : Int) (v7 : List Pt) : roundK tC G38 (look [(6, W38_6)]) c38_0 p38_0 (v0, v1, v2, v3, v4, v5, v6, v7, ()) = r38_0 (v0, v1, v2, v3, v4, v5, v6, v7, ()) := by kernel_rfl
theorem r38_0_run (x : Nat × Int × Int × Int × List Int × Int × Int × List Pt × Unit) : roundK tC G38 (look [(6, W38_6)]) c38_0 p38_0 x = r38_0 x := r38_0_run0 x.1 x.2.1 x.2.2.1 x.2.2.2.1 x.2.2.2.2.1 x.2.2.2.2.2.1 x.2.2.2.2.2.2.1 x.2.2.2.2.2.2.2.1
noncomputable def l38_0 (x : Nat × Int × Int × Int × List Int × Int × Int × List Pt × Unit) : Option (Nat × List Pt × Unit) := iterO r38_0 x
noncomputable def W38_0 : LF tC := loopW tC p38_0 0 l38_0
theorem W38_0_ok : keyed 0 (bodyOf Try.f38) = [.block 0 (.loop c38_0)] ∧ ∀ n, n ≤ 0 → Snd tC n (.block 0 (.loop c38_0)) W38_0.k := ⟨by kernel_rfl, fun n hn => loopW_ok (p := p38_0) (id := 0) Y38 (lam_le (lam_cons W38_6_ok lam_nil) n hn) hn r38_0_run⟩
def S38 : FS := ⟨[[.v, .v, .s 5], [.v, .v]], [⟨[.one (.agg [.int .i64, .int .i64, .imm 5]), .one (.agg [.int .i64, .int .i64])], []⟩], [⟨[.one (.one (.sl 0))], [.arr 26]⟩], [[.v]], [(4, 26)]⟩
noncomputable def f38 (x : Int × Int × List Int × Int × Int × Unit) : Option (Nat × List Pt × Unit) :=
  (l38_0
      ((0 : Nat),
        bif decide ((0 : Int) > IntKind.i64.wrap (x.snd.snd.snd.snd.fst - (1 : Int))) then (0 : Int)
        else IntKind.i64.wrap (x.snd.snd.snd.snd.fst - (1 : Int)),
        x.fst, x.snd.fst, x.snd.snd.fst, x.snd.snd.snd.fst, x.snd.snd.snd.snd.fst, [], ())).bind
  fun y84 => some (y84.fst, y84.snd.fst, ())
noncomputable def F38 : CF tC := mkF tC S38 f38
theorem f38_run : ∀ a, fnS tC G38 (look [(0, W38_0)]) Try.f38 S38 a = f38 a := fun a => by kernel_rfl
theorem F38_ok : CFOK tC 38 F38 := mkF_ok Y38 (fn := Try.f38) (body := bodyOf Try.f38) (by kernel_rfl) (by kernel_rfl) (by kernel_rfl) (m := 0) rfl (lam_le (lam_cons W38_0_ok lam_nil)) f38_run

/-! repair.free -/
noncomputable def G58 : FuncId → Option (CF tC) := look []
theorem Y58 : SysN tC G58 := (sys_nil tC_ok tC_eq)
def S58 : FS := ⟨[[.v, .v, .s 5], [.v, .v]], [⟨[.one (.agg [.int .i64, .int .i64, .imm 5]), .one (.agg [.int .i64, .int .i64])], []⟩], [⟨[vO], []⟩], [[.v]], []⟩
noncomputable def f58 (x : Int × Int × List Int × Int × Int × Unit) : Option (Bool × Unit) :=
  (idxO x.snd.snd.fst (IntKind.i64.wrap (IntKind.i64.wrap (x.snd.snd.snd.snd.fst * x.fst) + x.snd.snd.snd.fst))).bind fun y8 =>
  some (y8 == (1 : Int), ())
noncomputable def F58 : CF tC := mkF tC S58 f58
theorem f58_run : ∀ a, fnS tC G58 (look []) Try.f58 S58 a = f58 a := fun a => by kernel_rfl
theorem F58_ok : CFOK tC 58 F58 := mkF_ok Y58 (fn := Try.f58) (body := bodyOf Try.f58) (by kernel_rfl) (by kernel_rfl) (by kernel_rfl) (m := 0) rfl (lam_le lam_nil) f58_run

/-! repair.step -/
noncomputable def G50 : FuncId → Option (CF tC) := look [(58, F58)]
theorem Y50 : SysN tC G50 := (sys_cons F58_ok (mkF_nat _ _) (sys_nil tC_ok tC_eq))
noncomputable def c50_22 : Code := subCode (bodyOf Try.f50) 22
def p50_22 : PS := ⟨0, [], ⟨vBs 54, []⟩, [⟨.ret, [6, 7], ⟨vBs 6 ++ [vI, vO] ++ vBs 46, []⟩, []⟩], []⟩
noncomputable def j50_22 (_x : Unit) : Option (Int × Bool × Unit) :=
  some ((0 : Int), false, ())
theorem j50_22_run0  : pieceK tC G50 (look []) c50_22 p50_22 (()) = j50_22 (()) := by kernel_rfl
theorem j50_22_run (x : Unit) : pieceK tC G50 (look []) c50_22 p50_22 x = j50_22 x := j50_22_run0 
noncomputable def W50_22 : LF tC := cutLF tC p50_22 j50_22
theorem W50_22_ok : keyed 22 (bodyOf Try.f50) = [c50_22] ∧ ∀ n, n ≤ 0 → Snd tC n c50_22 W50_22.k := ⟨by kernel_rfl, fun n hn => cut_ok (p := p50_22) Y50 (lam_le lam_nil n hn) hn j50_22_run⟩
def S50 : FS := ⟨[[.v, .v, .s 5], [.v, .v], [.v, .v]], [⟨[.one (.agg [.int .i64, .int .i64, .imm 5]), .one (.agg [.int .i64, .int .i64]), .one (.agg [.int .i64, .int .i64])], []⟩], [⟨[.tup [.one (.int .i64), .one .bool]], []⟩], [[.v], [.v]], []⟩
noncomputable def f50 (x : Int × Int × List Int × Int × Int × Int × Int × Unit) : Option (Int × Bool × Unit) :=
  bif
    bif x.snd.snd.snd.fst == x.snd.snd.snd.snd.snd.fst then bif x.snd.snd.snd.snd.fst == x.snd.snd.snd.snd.snd.snd.fst then true else false
    else false then
  some ((0 : Int), false, ())
else
  (f58 (x.fst, x.snd.fst, x.snd.snd.fst, x.snd.snd.snd.fst, x.snd.snd.snd.snd.fst, ())).bind fun y25 =>
    bif !y25.fst then some ((0 : Int), false, ())
    else
      (f58 (x.fst, x.snd.fst, x.snd.snd.fst, x.snd.snd.snd.snd.snd.fst, x.snd.snd.snd.snd.snd.snd.fst, ())).bind fun y24 =>
        bif !y24.fst then some ((0 : Int), false, ())
        else
          bif x.snd.snd.snd.fst == x.snd.snd.snd.snd.snd.fst then some ((70 : Int), true, ())
          else
            bif x.snd.snd.snd.snd.fst == x.snd.snd.snd.snd.snd.snd.fst then some ((70 : Int), true, ())
            else
              (f58 (x.fst, x.snd.fst, x.snd.snd.fst, x.snd.snd.snd.fst, x.snd.snd.snd.snd.snd.snd.fst, ())).bind fun y23 =>
                bif y23.fst then
                  (f58 (x.fst, x.snd.fst, x.snd.snd.fst, x.snd.snd.snd.snd.snd.fst, x.snd.snd.snd.snd.fst, ())).bind fun y21 =>
                    bif y21.fst then some ((99 : Int), true, ()) else (j50_22 ()).bind fun y20 => some (y20.fst, y20.snd.fst, ())
                else (j50_22 ()).bind fun y22 => some (y22.fst, y22.snd.fst, ())
noncomputable def F50 : CF tC := mkF tC S50 f50
theorem f50_run : ∀ a, fnS tC G50 (look [(22, W50_22)]) Try.f50 S50 a = f50 a := fun a => by kernel_rfl
theorem F50_ok : CFOK tC 50 F50 := mkF_ok Y50 (fn := Try.f50) (body := bodyOf Try.f50) (by kernel_rfl) (by kernel_rfl) (by kernel_rfl) (m := 0) rfl (lam_le (lam_cons W50_22_ok lam_nil)) f50_run

/-! held -/
noncomputable def G51 : FuncId → Option (CF tC) := look [(36, F36), (38, F38), (50, F50)]
theorem Y51 : SysN tC G51 := (sys_cons F36_ok (mkF_nat _ _) (sys_cons F38_ok (mkF_nat _ _) (sys_cons F50_ok (mkF_nat _ _) (sys_nil tC_ok tC_eq))))
noncomputable def c51_28 : Code := subCode (loopOf (bodyOf Try.f51) 0) 28
def p51_28 : PS := ⟨0, [0, 3, 5, 25, 26, 27], ⟨[.one (.ro [.int .i64, .int .i64, .imm 5, .int .i64, .int .i64, .imm 3]), vB, vB, .one (.one (.ptr 0 0 0)), vB, vI] ++ vBs 19 ++ [.one (.one (.sl 1)), vI, vI] ++ vBs 35, [.box [.int .i64, .int .i64], .arr 26]⟩, [⟨.normal, [0, 3, 5, 25, 26, 27], ⟨[.one (.ro [.int .i64, .int .i64, .imm 5, .int .i64, .int .i64, .imm 3]), vB, vB, .one (.one (.ptr 0 0 0)), vB, vI] ++ vBs 19 ++ [.one (.one (.sl 1)), vI, vI] ++ vBs 35, [.box [.int .i64, .int .i64], .arr 26]⟩, []⟩], []⟩
noncomputable def j51_28 (x : Int × Int × List Int × Int × Int × List Int × Int × Nat × Int × Int × Int × Int × List Pt × Unit) : Option (Int × Int × List Int × Int × Int × List Int × Int × Nat × Int × Int × Int × Int × List Pt × Unit) :=
  some
  (x.fst, x.snd.fst, x.snd.snd.fst, x.snd.snd.snd.fst, x.snd.snd.snd.snd.fst, x.snd.snd.snd.snd.snd.fst, x.snd.snd.snd.snd.snd.snd.fst,
    x.snd.snd.snd.snd.snd.snd.snd.fst, x.snd.snd.snd.snd.snd.snd.snd.snd.fst,
    IntKind.i64.wrap (x.snd.snd.snd.snd.snd.snd.snd.snd.snd.fst + (1 : Int)), x.snd.snd.snd.snd.snd.snd.snd.snd.snd.snd.fst,
    x.snd.snd.snd.snd.snd.snd.snd.snd.snd.snd.snd.fst, x.snd.snd.snd.snd.snd.snd.snd.snd.snd.snd.snd.snd.fst, ())
theorem j51_28_run0 (v0 : Int) (v1 : Int) (v2 : List Int) (v3 : Int) (v4 : Int) (v5 : List Int) (v6 : Int) (v7 : Nat) (v8 : Int) (v9 : Int) (v10 : Int) (v11 : Int) (v12 : List Pt) : pieceK tC G51 (look []) c51_28 p51_28 (v0, v1, v2, v3, v4, v5, v6, v7, v8, v9, v10, v11, v12, ()) = j51_28 (v0, v1, v2, v3, v4, v5, v6, v7, v8, v9, v10, v11, v12, ()) := by kernel_rfl
theorem j51_28_run (x : Int × Int × List Int × Int × Int × List Int × Int × Nat × Int × Int × Int × Int × List Pt × Unit) : pieceK tC G51 (look []) c51_28 p51_28 x = j51_28 x := j51_28_run0 x.1 x.2.1 x.2.2.1 x.2.2.2.1 x.2.2.2.2.1 x.2.2.2.2.2.1 x.2.2.2.2.2.2.1 x.2.2.2.2.2.2.2.1 x.2.2.2.2.2.2.2.2.1 x.2.2.2.2.2.2.2.2.2.1 x.2.2.2.2.2.2.2.2.2.2.1 x.2.2.2.2.2.2.2.2.2.2.2.1 x.2.2.2.2.2.2.2.2.2.2.2.2.1
noncomputable def W51_28 : LF tC := cutLF tC p51_28 j51_28
theorem W51_28_ok : keyed 28 (loopOf (bodyOf Try.f51) 0) = [c51_28] ∧ ∀ n, n ≤ 0 → Snd tC n c51_28 W51_28.k := ⟨by kernel_rfl, fun n hn => cut_ok (p := p51_28) Y51 (lam_le lam_nil n hn) hn j51_28_run⟩
noncomputable def c51_0 : Code := loopOf (bodyOf Try.f51) 0
def p51_0 : LS := ⟨0, [0, 3, 5, 25, 26, 27], ⟨[.one (.ro [.int .i64, .int .i64, .imm 5, .int .i64, .int .i64, .imm 3]), vB, vB, .one (.one (.ptr 0 0 0)), vB, vI] ++ vBs 19 ++ [.one (.one (.sl 1)), vI, vI] ++ vBs 35, [.box [.int .i64, .int .i64], .arr 26]⟩, [⟨.ret, [4], ⟨vBs 4 ++ [vO] ++ vBs 58, []⟩, []⟩, ⟨.exit 0, [], ⟨vBs 63, []⟩, []⟩], []⟩
noncomputable def r51_0 (x : Int × Int × List Int × Int × Int × List Int × Int × Nat × Int × Int × Int × Int × List Pt × Unit) : Option (Int × Int × List Int × Int × Int × List Int × Int × Nat × Int × Int × Int × Int × List Pt × Unit ⊕ Bool × Unit ⊕ Unit) :=
  bif decide (x.snd.snd.snd.snd.snd.snd.snd.snd.snd.fst < x.snd.snd.snd.snd.snd.snd.snd.snd.fst) then
  bif
      decide ((0 : Int) ≤ x.snd.snd.snd.snd.snd.snd.snd.snd.snd.fst) &&
        decide (x.snd.snd.snd.snd.snd.snd.snd.snd.snd.fst < (↑x.snd.snd.snd.snd.snd.snd.snd.fst : Int)) then
    x.snd.snd.snd.snd.snd.snd.snd.snd.snd.snd.snd.snd.fst[(0 : Nat) + x.snd.snd.snd.snd.snd.snd.snd.snd.snd.fst.toNat]?.bind fun y100 =>
      (f50
            (x.fst, x.snd.fst, x.snd.snd.fst, x.snd.snd.snd.snd.snd.snd.snd.snd.snd.snd.fst,
              x.snd.snd.snd.snd.snd.snd.snd.snd.snd.snd.snd.fst, y100.X, y100.Y, ())).bind
        fun y99 =>
        (idxO x.snd.snd.snd.snd.snd.fst
              (f36 x.fst x.snd.fst x.snd.snd.fst x.snd.snd.snd.fst x.snd.snd.snd.snd.fst x.snd.snd.snd.snd.snd.fst y100.X y100.Y)).bind
          fun y98 =>
          bif y99.snd.fst then
            bif decide (y98 ≥ (0 : Int)) then
              bif IntKind.i64.wrap (y98 + y99.fst) == x.snd.snd.snd.snd.snd.snd.fst then some (Sum.inr (Sum.inl (true, ())))
              else
                (j51_28
                      (x.fst, x.snd.fst, x.snd.snd.fst, x.snd.snd.snd.fst, x.snd.snd.snd.snd.fst, x.snd.snd.snd.snd.snd.fst,
                        x.snd.snd.snd.snd.snd.snd.fst, x.snd.snd.snd.snd.snd.snd.snd.fst, x.snd.snd.snd.snd.snd.snd.snd.snd.fst,
                        x.snd.snd.snd.snd.snd.snd.snd.snd.snd.fst, x.snd.snd.snd.snd.snd.snd.snd.snd.snd.snd.fst,
                        x.snd.snd.snd.snd.snd.snd.snd.snd.snd.snd.snd.fst, x.snd.snd.snd.snd.snd.snd.snd.snd.snd.snd.snd.snd.fst, ())).bind
                  fun y95 =>
                  some
                    (Sum.inl
                      (y95.fst, y95.snd.fst, y95.snd.snd.fst, y95.snd.snd.snd.fst, y95.snd.snd.snd.snd.fst, y95.snd.snd.snd.snd.snd.fst,
                        y95.snd.snd.snd.snd.snd.snd.fst, y95.snd.snd.snd.snd.snd.snd.snd.fst, y95.snd.snd.snd.snd.snd.snd.snd.snd.fst,
                        y95.snd.snd.snd.snd.snd.snd.snd.snd.snd.fst, y95.snd.snd.snd.snd.snd.snd.snd.snd.snd.snd.fst,
                        y95.snd.snd.snd.snd.snd.snd.snd.snd.snd.snd.snd.fst, y95.snd.snd.snd.snd.snd.snd.snd.snd.snd.snd.snd.snd.fst, ()))
            else
              (j51_28
                    (x.fst, x.snd.fst, x.snd.snd.fst, x.snd.snd.snd.fst, x.snd.snd.snd.snd.fst, x.snd.snd.snd.snd.snd.fst,
                      x.snd.snd.snd.snd.snd.snd.fst, x.snd.snd.snd.snd.snd.snd.snd.fst, x.snd.snd.snd.snd.snd.snd.snd.snd.fst,
                      x.snd.snd.snd.snd.snd.snd.snd.snd.snd.fst, x.snd.snd.snd.snd.snd.snd.snd.snd.snd.snd.fst,
                      x.snd.snd.snd.snd.snd.snd.snd.snd.snd.snd.snd.fst, x.snd.snd.snd.snd.snd.snd.snd.snd.snd.snd.snd.snd.fst, ())).bind
                fun y96 =>
                some
                  (Sum.inl
                    (y96.fst, y96.snd.fst, y96.snd.snd.fst, y96.snd.snd.snd.fst, y96.snd.snd.snd.snd.fst, y96.snd.snd.snd.snd.snd.fst,
                      y96.snd.snd.snd.snd.snd.snd.fst, y96.snd.snd.snd.snd.snd.snd.snd.fst, y96.snd.snd.snd.snd.snd.snd.snd.snd.fst,
                      y96.snd.snd.snd.snd.snd.snd.snd.snd.snd.fst, y96.snd.snd.snd.snd.snd.snd.snd.snd.snd.snd.fst,
                      y96.snd.snd.snd.snd.snd.snd.snd.snd.snd.snd.snd.fst, y96.snd.snd.snd.snd.snd.snd.snd.snd.snd.snd.snd.snd.fst, ()))
          else
            (j51_28
                  (x.fst, x.snd.fst, x.snd.snd.fst, x.snd.snd.snd.fst, x.snd.snd.snd.snd.fst, x.snd.snd.snd.snd.snd.fst,
                    x.snd.snd.snd.snd.snd.snd.fst, x.snd.snd.snd.snd.snd.snd.snd.fst, x.snd.snd.snd.snd.snd.snd.snd.snd.fst,
                    x.snd.snd.snd.snd.snd.snd.snd.snd.snd.fst, x.snd.snd.snd.snd.snd.snd.snd.snd.snd.snd.fst,
                    x.snd.snd.snd.snd.snd.snd.snd.snd.snd.snd.snd.fst, x.snd.snd.snd.snd.snd.snd.snd.snd.snd.snd.snd.snd.fst, ())).bind
              fun y97 =>
              some
                (Sum.inl
                  (y97.fst, y97.snd.fst, y97.snd.snd.fst, y97.snd.snd.snd.fst, y97.snd.snd.snd.snd.fst, y97.snd.snd.snd.snd.snd.fst,
                    y97.snd.snd.snd.snd.snd.snd.fst, y97.snd.snd.snd.snd.snd.snd.snd.fst, y97.snd.snd.snd.snd.snd.snd.snd.snd.fst,
                    y97.snd.snd.snd.snd.snd.snd.snd.snd.snd.fst, y97.snd.snd.snd.snd.snd.snd.snd.snd.snd.snd.fst,
                    y97.snd.snd.snd.snd.snd.snd.snd.snd.snd.snd.snd.fst, y97.snd.snd.snd.snd.snd.snd.snd.snd.snd.snd.snd.snd.fst, ()))
  else none
else some (Sum.inr (Sum.inr ()))
theorem r51_0_run0 (v0 : Int) (v1 : Int) (v2 : List Int) (v3 : Int) (v4 : Int) (v5 : List Int) (v6 : Int) (v7 : Nat) (v8 : Int) (v9 : Int) (v10 : Int) (v11 : Int) (v12 : List Pt) : roundK tC G51 (look [(28, W51_28)]) c51_0 p51_0 (v0, v1, v2, v3, v4, v5, v6, v7, v8, v9, v10, v11, v12, ()) = r51_0 (v0, v1, v2, v3, v4, v5, v6, v7, v8, v9, v10, v11, v12, ()) := by kernel_rfl
theorem r51_0_run (x : Int × Int × List Int × Int × Int × List Int × Int × Nat × Int × Int × Int × Int × List Pt × Unit) : roundK tC G51 (look [(28, W51_28)]) c51_0 p51_0 x = r51_0 x := r51_0_run0 x.1 x.2.1 x.2.2.1 x.2.2.2.1 x.2.2.2.2.1 x.2.2.2.2.2.1 x.2.2.2.2.2.2.1 x.2.2.2.2.2.2.2.1 x.2.2.2.2.2.2.2.2.1 x.2.2.2.2.2.2.2.2.2.1 x.2.2.2.2.2.2.2.2.2.2.1 x.2.2.2.2.2.2.2.2.2.2.2.1 x.2.2.2.2.2.2.2.2.2.2.2.2.1
noncomputable def l51_0 (x : Int × Int × List Int × Int × Int × List Int × Int × Nat × Int × Int × Int × Int × List Pt × Unit) : Option (Bool × Unit ⊕ Unit) := iterO r51_0 x
noncomputable def W51_0 : LF tC := loopW tC p51_0 0 l51_0
theorem W51_0_ok : keyed 0 (bodyOf Try.f51) = [.block 0 (.loop c51_0)] ∧ ∀ n, n ≤ 0 → Snd tC n (.block 0 (.loop c51_0)) W51_0.k := ⟨by kernel_rfl, fun n hn => loopW_ok (p := p51_0) (id := 0) Y51 (lam_le (lam_cons W51_28_ok lam_nil) n hn) hn r51_0_run⟩
def S51 : FS := ⟨[[.q], [.v, .v]], [⟨[.one (.ro [.int .i64, .int .i64, .imm 5, .int .i64, .int .i64, .imm 3]), .one (.agg [.int .i64, .int .i64])], []⟩], [⟨[vO], []⟩], [[.v]], []⟩
noncomputable def f51 (x : Int × Int × List Int × Int × Int × List Int × Int × Int × Unit) : Option (Bool × Unit) :=
  (idxO x.snd.snd.snd.snd.snd.fst
      (f36 x.fst x.snd.fst x.snd.snd.fst x.snd.snd.snd.fst x.snd.snd.snd.snd.fst x.snd.snd.snd.snd.snd.fst x.snd.snd.snd.snd.snd.snd.fst
        x.snd.snd.snd.snd.snd.snd.snd.fst)).bind
  fun y107 =>
  (f38 (x.fst, x.snd.fst, x.snd.snd.fst, x.snd.snd.snd.snd.snd.snd.fst, x.snd.snd.snd.snd.snd.snd.snd.fst, ())).bind fun y106 =>
    (l51_0
          (x.fst, x.snd.fst, x.snd.snd.fst, x.snd.snd.snd.fst, x.snd.snd.snd.snd.fst, x.snd.snd.snd.snd.snd.fst, y107, y106.fst,
            (↑y106.fst : Int), (0 : Int), x.snd.snd.snd.snd.snd.snd.fst, x.snd.snd.snd.snd.snd.snd.snd.fst, y106.snd.fst, ())).bind
      fun y105 => Sum.elim (fun y103 => some (y103.fst, ())) (fun _x => some (false, ())) y105
noncomputable def F51 : CF tC := mkF tC S51 f51
theorem f51_run : ∀ a, fnS tC G51 (look [(0, W51_0)]) Try.f51 S51 a = f51 a := fun a => by kernel_rfl
theorem F51_ok : CFOK tC 51 F51 := mkF_ok Y51 (fn := Try.f51) (body := bodyOf Try.f51) (by kernel_rfl) (by kernel_rfl) (by kernel_rfl) (m := 0) rfl (lam_le (lam_cons W51_0_ok lam_nil)) f51_run

/-! spread -/
noncomputable def G37 : FuncId → Option (CF tC) := look [(36, F36), (38, F38), (50, F50)]
theorem Y37 : SysN tC G37 := (sys_cons F36_ok (mkF_nat _ _) (sys_cons F38_ok (mkF_nat _ _) (sys_cons F50_ok (mkF_nat _ _) (sys_nil tC_ok tC_eq))))
noncomputable def c37_37 : Code := subCode (loopOf (loopOf (bodyOf Try.f37) 0) 2) 37
def p37_37 : PS := ⟨4, [0, 1, 4, 5, 7, 35, 36, 37], ⟨[.one (.one (.ptr 2 0 0)), .one (.one (.slw 4)), vB, vB, .one (.one (.ptr 5 0 0)), vI, vB, .one (.one (.ptr 6 0 0))] ++ vBs 27 ++ [.one (.one (.sl 7)), vI, vI] ++ vBs 50, [.arr 5, .arr 3, .box [.int .i64, .int .i64, .sl 0, .int .i64, .int .i64, .sl 1], .gone, .arr 26, .box [.int .i64, .int .i64], .box [.int .i64, .int .i64], .arr 26]⟩, [⟨.normal, [0, 1, 4, 5, 35, 36, 37], ⟨[.one (.one (.ptr 2 0 0)), .one (.one (.sl 4)), vB, vB, .one (.one (.ptr 5 0 0)), vI] ++ vBs 29 ++ [.one (.one (.sl 6)), vI, vI] ++ vBs 50, [.arr 5, .arr 3, .box [.int .i64, .int .i64, .sl 0, .int .i64, .int .i64, .sl 1], .gone, .arr 26, .box [.int .i64, .int .i64], .arr 26]⟩, []⟩], []⟩
noncomputable def j37_37 (x : Nat ×
  Nat × Int × Nat × Int × Int × List Int × List Int × Int × Int × Nat × Int × Int × Nat × List Pt × Int × Int × Int × Int × List Pt × Unit) : Option (Nat × Int × Nat × Int × Int × List Int × List Int × Int × Int × Nat × Int × Int × Nat × List Pt × Int × Int × List Pt × Unit) :=
  bif decide (x.fst + x.snd.fst ≤ x.snd.snd.snd.snd.snd.snd.snd.snd.snd.snd.snd.snd.snd.snd.fst.length) then
  bif roomy (x.snd.fst + (1 : Nat)) (16 : Nat) then
    some
      (x.snd.fst + (1 : Nat), x.snd.snd.fst, x.snd.snd.snd.fst, x.snd.snd.snd.snd.fst, x.snd.snd.snd.snd.snd.fst,
        x.snd.snd.snd.snd.snd.snd.fst, x.snd.snd.snd.snd.snd.snd.snd.fst, x.snd.snd.snd.snd.snd.snd.snd.snd.fst,
        x.snd.snd.snd.snd.snd.snd.snd.snd.snd.fst, x.snd.snd.snd.snd.snd.snd.snd.snd.snd.snd.fst,
        x.snd.snd.snd.snd.snd.snd.snd.snd.snd.snd.snd.fst, x.snd.snd.snd.snd.snd.snd.snd.snd.snd.snd.snd.snd.fst,
        x.snd.snd.snd.snd.snd.snd.snd.snd.snd.snd.snd.snd.snd.fst,
        List.take x.snd.fst (List.drop x.fst x.snd.snd.snd.snd.snd.snd.snd.snd.snd.snd.snd.snd.snd.snd.fst) ++
          [Pt.mk x.snd.snd.snd.snd.snd.snd.snd.snd.snd.snd.snd.snd.snd.snd.snd.snd.snd.fst
              x.snd.snd.snd.snd.snd.snd.snd.snd.snd.snd.snd.snd.snd.snd.snd.snd.snd.snd.fst],
        x.snd.snd.snd.snd.snd.snd.snd.snd.snd.snd.snd.snd.snd.snd.snd.fst,
        x.snd.snd.snd.snd.snd.snd.snd.snd.snd.snd.snd.snd.snd.snd.snd.snd.fst,
        x.snd.snd.snd.snd.snd.snd.snd.snd.snd.snd.snd.snd.snd.snd.snd.snd.snd.snd.snd.fst, ())
  else none
else none
theorem j37_37_run0 (v0 : Nat) (v1 : Nat) (v2 : Int) (v3 : Nat) (v4 : Int) (v5 : Int) (v6 : List Int) (v7 : List Int) (v8 : Int) (v9 : Int) (v10 : Nat) (v11 : Int) (v12 : Int) (v13 : Nat) (v14 : List Pt) (v15 : Int) (v16 : Int) (v17 : Int) (v18 : Int) (v19 : List Pt) : pieceK tC G37 (look []) c37_37 p37_37 (v0, v1, v2, v3, v4, v5, v6, v7, v8, v9, v10, v11, v12, v13, v14, v15, v16, v17, v18, v19, ()) = j37_37 (v0, v1, v2, v3, v4, v5, v6, v7, v8, v9, v10, v11, v12, v13, v14, v15, v16, v17, v18, v19, ()) := by kernel_rfl
theorem j37_37_run (x : Nat ×
  Nat × Int × Nat × Int × Int × List Int × List Int × Int × Int × Nat × Int × Int × Nat × List Pt × Int × Int × Int × Int × List Pt × Unit) : pieceK tC G37 (look []) c37_37 p37_37 x = j37_37 x := j37_37_run0 x.1 x.2.1 x.2.2.1 x.2.2.2.1 x.2.2.2.2.1 x.2.2.2.2.2.1 x.2.2.2.2.2.2.1 x.2.2.2.2.2.2.2.1 x.2.2.2.2.2.2.2.2.1 x.2.2.2.2.2.2.2.2.2.1 x.2.2.2.2.2.2.2.2.2.2.1 x.2.2.2.2.2.2.2.2.2.2.2.1 x.2.2.2.2.2.2.2.2.2.2.2.2.1 x.2.2.2.2.2.2.2.2.2.2.2.2.2.1 x.2.2.2.2.2.2.2.2.2.2.2.2.2.2.1 x.2.2.2.2.2.2.2.2.2.2.2.2.2.2.2.1 x.2.2.2.2.2.2.2.2.2.2.2.2.2.2.2.2.1 x.2.2.2.2.2.2.2.2.2.2.2.2.2.2.2.2.2.1 x.2.2.2.2.2.2.2.2.2.2.2.2.2.2.2.2.2.2.1 x.2.2.2.2.2.2.2.2.2.2.2.2.2.2.2.2.2.2.2.1
noncomputable def W37_37 : LF tC := cutLF tC p37_37 j37_37
theorem W37_37_ok : keyed 37 (loopOf (loopOf (bodyOf Try.f37) 0) 2) = [c37_37] ∧ ∀ n, n ≤ 4 → Snd tC n c37_37 W37_37.k := ⟨by kernel_rfl, fun n hn => cut_ok (p := p37_37) Y37 (lam_le lam_nil n hn) hn j37_37_run⟩
noncomputable def c37_40 : Code := subCode (loopOf (loopOf (bodyOf Try.f37) 0) 2) 40
def p37_40 : PS := ⟨4, [0, 1, 4, 5, 35, 36, 37], ⟨[.one (.one (.ptr 2 0 0)), .one (.one (.slw 4)), vB, vB, .one (.one (.ptr 5 0 0)), vI] ++ vBs 29 ++ [.one (.one (.sl 6)), vI, vI] ++ vBs 50, [.arr 5, .arr 3, .box [.int .i64, .int .i64, .sl 0, .int .i64, .int .i64, .sl 1], .gone, .arr 26, .box [.int .i64, .int .i64], .arr 26]⟩, [⟨.normal, [0, 1, 4, 5, 35, 36, 37], ⟨[.one (.one (.ptr 2 0 0)), .one (.one (.slw 4)), vB, vB, .one (.one (.ptr 5 0 0)), vI] ++ vBs 29 ++ [.one (.one (.sl 6)), vI, vI] ++ vBs 50, [.arr 5, .arr 3, .box [.int .i64, .int .i64, .sl 0, .int .i64, .int .i64, .sl 1], .gone, .arr 26, .box [.int .i64, .int .i64], .arr 26]⟩, []⟩], []⟩
noncomputable def j37_40 (x : Nat × Nat × Int × Nat × Int × Int × List Int × List Int × Int × Int × Nat × Int × Int × Nat × List Pt × Int × Int × List Pt × Unit) : Option (Nat × Nat × Int × Nat × Int × Int × List Int × List Int × Int × Int × Nat × Int × Int × Nat × List Pt × Int × Int × List Pt × Unit) :=
  some
  (x.fst, x.snd.fst, x.snd.snd.fst, x.snd.snd.snd.fst, x.snd.snd.snd.snd.fst, IntKind.i64.wrap (x.snd.snd.snd.snd.snd.fst + (1 : Int)),
    x.snd.snd.snd.snd.snd.snd.fst, x.snd.snd.snd.snd.snd.snd.snd.fst, x.snd.snd.snd.snd.snd.snd.snd.snd.fst,
    x.snd.snd.snd.snd.snd.snd.snd.snd.snd.fst, x.snd.snd.snd.snd.snd.snd.snd.snd.snd.snd.fst,
    x.snd.snd.snd.snd.snd.snd.snd.snd.snd.snd.snd.fst, x.snd.snd.snd.snd.snd.snd.snd.snd.snd.snd.snd.snd.fst,
    x.snd.snd.snd.snd.snd.snd.snd.snd.snd.snd.snd.snd.snd.fst, x.snd.snd.snd.snd.snd.snd.snd.snd.snd.snd.snd.snd.snd.snd.fst,
    x.snd.snd.snd.snd.snd.snd.snd.snd.snd.snd.snd.snd.snd.snd.snd.fst,
    x.snd.snd.snd.snd.snd.snd.snd.snd.snd.snd.snd.snd.snd.snd.snd.snd.fst,
    x.snd.snd.snd.snd.snd.snd.snd.snd.snd.snd.snd.snd.snd.snd.snd.snd.snd.fst, ())
theorem j37_40_run0 (v0 : Nat) (v1 : Nat) (v2 : Int) (v3 : Nat) (v4 : Int) (v5 : Int) (v6 : List Int) (v7 : List Int) (v8 : Int) (v9 : Int) (v10 : Nat) (v11 : Int) (v12 : Int) (v13 : Nat) (v14 : List Pt) (v15 : Int) (v16 : Int) (v17 : List Pt) : pieceK tC G37 (look []) c37_40 p37_40 (v0, v1, v2, v3, v4, v5, v6, v7, v8, v9, v10, v11, v12, v13, v14, v15, v16, v17, ()) = j37_40 (v0, v1, v2, v3, v4, v5, v6, v7, v8, v9, v10, v11, v12, v13, v14, v15, v16, v17, ()) := by kernel_rfl
theorem j37_40_run (x : Nat × Nat × Int × Nat × Int × Int × List Int × List Int × Int × Int × Nat × Int × Int × Nat × List Pt × Int × Int × List Pt × Unit) : pieceK tC G37 (look []) c37_40 p37_40 x = j37_40 x := j37_40_run0 x.1 x.2.1 x.2.2.1 x.2.2.2.1 x.2.2.2.2.1 x.2.2.2.2.2.1 x.2.2.2.2.2.2.1 x.2.2.2.2.2.2.2.1 x.2.2.2.2.2.2.2.2.1 x.2.2.2.2.2.2.2.2.2.1 x.2.2.2.2.2.2.2.2.2.2.1 x.2.2.2.2.2.2.2.2.2.2.2.1 x.2.2.2.2.2.2.2.2.2.2.2.2.1 x.2.2.2.2.2.2.2.2.2.2.2.2.2.1 x.2.2.2.2.2.2.2.2.2.2.2.2.2.2.1 x.2.2.2.2.2.2.2.2.2.2.2.2.2.2.2.1 x.2.2.2.2.2.2.2.2.2.2.2.2.2.2.2.2.1 x.2.2.2.2.2.2.2.2.2.2.2.2.2.2.2.2.2.1
noncomputable def W37_40 : LF tC := cutLF tC p37_40 j37_40
theorem W37_40_ok : keyed 40 (loopOf (loopOf (bodyOf Try.f37) 0) 2) = [c37_40] ∧ ∀ n, n ≤ 4 → Snd tC n c37_40 W37_40.k := ⟨by kernel_rfl, fun n hn => cut_ok (p := p37_40) Y37 (lam_le lam_nil n hn) hn j37_40_run⟩
noncomputable def c37_6 : Code := loopOf (loopOf (bodyOf Try.f37) 0) 2
def p37_6 : LS := ⟨4, [0, 1, 4, 5, 35, 36, 37], ⟨[.one (.one (.ptr 2 0 0)), .one (.one (.slw 4)), vB, vB, .one (.one (.ptr 5 0 0)), vI] ++ vBs 29 ++ [.one (.one (.sl 6)), vI, vI] ++ vBs 50, [.arr 5, .arr 3, .box [.int .i64, .int .i64, .sl 0, .int .i64, .int .i64, .sl 1], .gone, .arr 26, .box [.int .i64, .int .i64], .arr 26]⟩, [⟨.exit 2, [0, 1], ⟨[.one (.one (.ptr 2 0 0)), .one (.one (.slw 4))] ++ vBs 86, [.arr 5, .arr 3, .box [.int .i64, .int .i64, .sl 0, .int .i64, .int .i64, .sl 1], .gone, .arr 26]⟩, []⟩], []⟩
noncomputable def r37_6 (x : Nat × Nat × Int × Nat × Int × Int × List Int × List Int × Int × Int × Nat × Int × Int × Nat × List Pt × Int × Int × List Pt × Unit) : Option
  (Nat × Nat × Int × Nat × Int × Int × List Int × List Int × Int × Int × Nat × Int × Int × Nat × List Pt × Int × Int × List Pt × Unit ⊕
    Nat × Nat × List Int × List Int × Int × Int × Nat × Int × Int × Nat × List Pt × Unit) :=
  bif decide (x.snd.snd.snd.snd.snd.fst < x.snd.snd.snd.snd.fst) then
  bif decide ((0 : Int) ≤ x.snd.snd.snd.snd.snd.fst) && decide (x.snd.snd.snd.snd.snd.fst < (↑x.snd.snd.snd.fst : Int)) then
    x.snd.snd.snd.snd.snd.snd.snd.snd.snd.snd.snd.snd.snd.snd.snd.snd.snd.fst[(0 : Nat) + x.snd.snd.snd.snd.snd.fst.toNat]?.bind fun y703 =>
      bif decide ((0 : Nat) + x.snd.snd.snd.snd.snd.snd.snd.snd.snd.snd.fst ≤ x.snd.snd.snd.snd.snd.snd.fst.length) then
        (f50
              (x.snd.snd.snd.snd.snd.snd.snd.snd.fst, x.snd.snd.snd.snd.snd.snd.snd.snd.snd.fst,
                List.take x.snd.snd.snd.snd.snd.snd.snd.snd.snd.snd.fst (List.drop (0 : Nat) x.snd.snd.snd.snd.snd.snd.fst),
                x.snd.snd.snd.snd.snd.snd.snd.snd.snd.snd.snd.snd.snd.snd.snd.fst,
                x.snd.snd.snd.snd.snd.snd.snd.snd.snd.snd.snd.snd.snd.snd.snd.snd.fst, y703.X, y703.Y, ())).bind
          fun y702 =>
          bif decide ((0 : Nat) + x.snd.snd.snd.snd.snd.snd.snd.snd.snd.snd.fst ≤ x.snd.snd.snd.snd.snd.snd.fst.length) then
            bif
                decide
                  ((0 : Nat) + x.snd.snd.snd.snd.snd.snd.snd.snd.snd.snd.snd.snd.snd.fst ≤ x.snd.snd.snd.snd.snd.snd.snd.fst.length) then
              bif
                  decide
                      ((0 : Int) ≤
                        f36 x.snd.snd.snd.snd.snd.snd.snd.snd.fst x.snd.snd.snd.snd.snd.snd.snd.snd.snd.fst
                          (List.take x.snd.snd.snd.snd.snd.snd.snd.snd.snd.snd.fst (List.drop (0 : Nat) x.snd.snd.snd.snd.snd.snd.fst))
                          x.snd.snd.snd.snd.snd.snd.snd.snd.snd.snd.snd.fst x.snd.snd.snd.snd.snd.snd.snd.snd.snd.snd.snd.snd.fst
                          (List.take x.snd.snd.snd.snd.snd.snd.snd.snd.snd.snd.snd.snd.snd.fst
                            (List.drop (0 : Nat) x.snd.snd.snd.snd.snd.snd.snd.fst))
                          y703.X y703.Y) &&
                    decide
                      (f36 x.snd.snd.snd.snd.snd.snd.snd.snd.fst x.snd.snd.snd.snd.snd.snd.snd.snd.snd.fst
                          (List.take x.snd.snd.snd.snd.snd.snd.snd.snd.snd.snd.fst (List.drop (0 : Nat) x.snd.snd.snd.snd.snd.snd.fst))
                          x.snd.snd.snd.snd.snd.snd.snd.snd.snd.snd.snd.fst x.snd.snd.snd.snd.snd.snd.snd.snd.snd.snd.snd.snd.fst
                          (List.take x.snd.snd.snd.snd.snd.snd.snd.snd.snd.snd.snd.snd.snd.fst
                            (List.drop (0 : Nat) x.snd.snd.snd.snd.snd.snd.snd.fst))
                          y703.X y703.Y <
                        (↑x.snd.snd.snd.snd.snd.snd.snd.snd.snd.snd.snd.snd.snd.fst : Int)) then
                x.snd.snd.snd.snd.snd.snd.snd.fst[(0 : Nat) +
                        (f36 x.snd.snd.snd.snd.snd.snd.snd.snd.fst x.snd.snd.snd.snd.snd.snd.snd.snd.snd.fst
                            (List.take x.snd.snd.snd.snd.snd.snd.snd.snd.snd.snd.fst (List.drop (0 : Nat) x.snd.snd.snd.snd.snd.snd.fst))
                            x.snd.snd.snd.snd.snd.snd.snd.snd.snd.snd.snd.fst x.snd.snd.snd.snd.snd.snd.snd.snd.snd.snd.snd.snd.fst
                            (List.take x.snd.snd.snd.snd.snd.snd.snd.snd.snd.snd.snd.snd.snd.fst
                              (List.drop (0 : Nat) x.snd.snd.snd.snd.snd.snd.snd.fst))
                            y703.X y703.Y).toNat]?.bind
                  fun y701 =>
                  bif y702.snd.fst then
                    bif decide (y701 < (0 : Int)) then
                      bif decide ((0 : Nat) + x.snd.snd.snd.snd.snd.snd.snd.snd.snd.snd.fst ≤ x.snd.snd.snd.snd.snd.snd.fst.length) then
                        bif
                            decide
                              ((0 : Nat) + x.snd.snd.snd.snd.snd.snd.snd.snd.snd.snd.snd.snd.snd.fst ≤
                                x.snd.snd.snd.snd.snd.snd.snd.fst.length) then
                          bif
                              decide
                                  ((0 : Int) ≤
                                    f36 x.snd.snd.snd.snd.snd.snd.snd.snd.fst x.snd.snd.snd.snd.snd.snd.snd.snd.snd.fst
                                      (List.take x.snd.snd.snd.snd.snd.snd.snd.snd.snd.snd.fst
                                        (List.drop (0 : Nat) x.snd.snd.snd.snd.snd.snd.fst))
                                      x.snd.snd.snd.snd.snd.snd.snd.snd.snd.snd.snd.fst
                                      x.snd.snd.snd.snd.snd.snd.snd.snd.snd.snd.snd.snd.fst
                                      (List.take x.snd.snd.snd.snd.snd.snd.snd.snd.snd.snd.snd.snd.snd.fst
                                        (List.drop (0 : Nat) x.snd.snd.snd.snd.snd.snd.snd.fst))
                                      y703.X y703.Y) &&
                                decide
                                  (f36 x.snd.snd.snd.snd.snd.snd.snd.snd.fst x.snd.snd.snd.snd.snd.snd.snd.snd.snd.fst
                                      (List.take x.snd.snd.snd.snd.snd.snd.snd.snd.snd.snd.fst
                                        (List.drop (0 : Nat) x.snd.snd.snd.snd.snd.snd.fst))
                                      x.snd.snd.snd.snd.snd.snd.snd.snd.snd.snd.snd.fst
                                      x.snd.snd.snd.snd.snd.snd.snd.snd.snd.snd.snd.snd.fst
                                      (List.take x.snd.snd.snd.snd.snd.snd.snd.snd.snd.snd.snd.snd.snd.fst
                                        (List.drop (0 : Nat) x.snd.snd.snd.snd.snd.snd.snd.fst))
                                      y703.X y703.Y <
                                    (↑x.snd.snd.snd.snd.snd.snd.snd.snd.snd.snd.snd.snd.snd.fst : Int)) then
                            x.snd.snd.snd.snd.snd.snd.snd.fst[(0 : Nat) +
                                    (f36 x.snd.snd.snd.snd.snd.snd.snd.snd.fst x.snd.snd.snd.snd.snd.snd.snd.snd.snd.fst
                                        (List.take x.snd.snd.snd.snd.snd.snd.snd.snd.snd.snd.fst
                                          (List.drop (0 : Nat) x.snd.snd.snd.snd.snd.snd.fst))
                                        x.snd.snd.snd.snd.snd.snd.snd.snd.snd.snd.snd.fst
                                        x.snd.snd.snd.snd.snd.snd.snd.snd.snd.snd.snd.snd.fst
                                        (List.take x.snd.snd.snd.snd.snd.snd.snd.snd.snd.snd.snd.snd.snd.fst
                                          (List.drop (0 : Nat) x.snd.snd.snd.snd.snd.snd.snd.fst))
                                        y703.X y703.Y).toNat]?.bind
                              fun _x =>
                              (j37_37
                                    (x.fst, x.snd.fst, x.snd.snd.fst, x.snd.snd.snd.fst, x.snd.snd.snd.snd.fst, x.snd.snd.snd.snd.snd.fst,
                                      x.snd.snd.snd.snd.snd.snd.fst,
                                      x.snd.snd.snd.snd.snd.snd.snd.fst.set
                                        ((0 : Nat) +
                                          (f36 x.snd.snd.snd.snd.snd.snd.snd.snd.fst x.snd.snd.snd.snd.snd.snd.snd.snd.snd.fst
                                              (List.take x.snd.snd.snd.snd.snd.snd.snd.snd.snd.snd.fst
                                                (List.drop (0 : Nat) x.snd.snd.snd.snd.snd.snd.fst))
                                              x.snd.snd.snd.snd.snd.snd.snd.snd.snd.snd.snd.fst
                                              x.snd.snd.snd.snd.snd.snd.snd.snd.snd.snd.snd.snd.fst
                                              (List.take x.snd.snd.snd.snd.snd.snd.snd.snd.snd.snd.snd.snd.snd.fst
                                                (List.drop (0 : Nat) x.snd.snd.snd.snd.snd.snd.snd.fst))
                                              y703.X y703.Y).toNat)
                                        (IntKind.i64.wrap (x.snd.snd.fst + y702.fst)),
                                      x.snd.snd.snd.snd.snd.snd.snd.snd.fst, x.snd.snd.snd.snd.snd.snd.snd.snd.snd.fst,
                                      x.snd.snd.snd.snd.snd.snd.snd.snd.snd.snd.fst, x.snd.snd.snd.snd.snd.snd.snd.snd.snd.snd.snd.fst,
                                      x.snd.snd.snd.snd.snd.snd.snd.snd.snd.snd.snd.snd.fst,
                                      x.snd.snd.snd.snd.snd.snd.snd.snd.snd.snd.snd.snd.snd.fst,
                                      x.snd.snd.snd.snd.snd.snd.snd.snd.snd.snd.snd.snd.snd.snd.fst,
                                      x.snd.snd.snd.snd.snd.snd.snd.snd.snd.snd.snd.snd.snd.snd.snd.fst,
                                      x.snd.snd.snd.snd.snd.snd.snd.snd.snd.snd.snd.snd.snd.snd.snd.snd.fst, y703.X, y703.Y,
                                      x.snd.snd.snd.snd.snd.snd.snd.snd.snd.snd.snd.snd.snd.snd.snd.snd.snd.fst, ())).bind
                                fun y694 =>
                                (j37_40
                                      ((0 : Nat), y694.fst, y694.snd.fst, y694.snd.snd.fst, y694.snd.snd.snd.fst, y694.snd.snd.snd.snd.fst,
                                        y694.snd.snd.snd.snd.snd.fst, y694.snd.snd.snd.snd.snd.snd.fst,
                                        y694.snd.snd.snd.snd.snd.snd.snd.fst, y694.snd.snd.snd.snd.snd.snd.snd.snd.fst,
                                        y694.snd.snd.snd.snd.snd.snd.snd.snd.snd.fst, y694.snd.snd.snd.snd.snd.snd.snd.snd.snd.snd.fst,
                                        y694.snd.snd.snd.snd.snd.snd.snd.snd.snd.snd.snd.fst,
                                        y694.snd.snd.snd.snd.snd.snd.snd.snd.snd.snd.snd.snd.fst,
                                        y694.snd.snd.snd.snd.snd.snd.snd.snd.snd.snd.snd.snd.snd.fst,
                                        y694.snd.snd.snd.snd.snd.snd.snd.snd.snd.snd.snd.snd.snd.snd.fst,
                                        y694.snd.snd.snd.snd.snd.snd.snd.snd.snd.snd.snd.snd.snd.snd.snd.fst,
                                        y694.snd.snd.snd.snd.snd.snd.snd.snd.snd.snd.snd.snd.snd.snd.snd.snd.fst, ())).bind
                                  fun y693 =>
                                  some
                                    (Sum.inl
                                      (y693.fst, y693.snd.fst, y693.snd.snd.fst, y693.snd.snd.snd.fst, y693.snd.snd.snd.snd.fst,
                                        y693.snd.snd.snd.snd.snd.fst, y693.snd.snd.snd.snd.snd.snd.fst,
                                        y693.snd.snd.snd.snd.snd.snd.snd.fst, y693.snd.snd.snd.snd.snd.snd.snd.snd.fst,
                                        y693.snd.snd.snd.snd.snd.snd.snd.snd.snd.fst, y693.snd.snd.snd.snd.snd.snd.snd.snd.snd.snd.fst,
                                        y693.snd.snd.snd.snd.snd.snd.snd.snd.snd.snd.snd.fst,
                                        y693.snd.snd.snd.snd.snd.snd.snd.snd.snd.snd.snd.snd.fst,
                                        y693.snd.snd.snd.snd.snd.snd.snd.snd.snd.snd.snd.snd.snd.fst,
                                        y693.snd.snd.snd.snd.snd.snd.snd.snd.snd.snd.snd.snd.snd.snd.fst,
                                        y693.snd.snd.snd.snd.snd.snd.snd.snd.snd.snd.snd.snd.snd.snd.snd.fst,
                                        y693.snd.snd.snd.snd.snd.snd.snd.snd.snd.snd.snd.snd.snd.snd.snd.snd.fst,
                                        y693.snd.snd.snd.snd.snd.snd.snd.snd.snd.snd.snd.snd.snd.snd.snd.snd.snd.fst, ()))
                          else none
                        else none
                      else none
                    else
                      bif decide (IntKind.i64.wrap (x.snd.snd.fst + y702.fst) < y701) then
                        bif decide ((0 : Nat) + x.snd.snd.snd.snd.snd.snd.snd.snd.snd.snd.fst ≤ x.snd.snd.snd.snd.snd.snd.fst.length) then
                          bif
                              decide
                                ((0 : Nat) + x.snd.snd.snd.snd.snd.snd.snd.snd.snd.snd.snd.snd.snd.fst ≤
                                  x.snd.snd.snd.snd.snd.snd.snd.fst.length) then
                            bif
                                decide
                                    ((0 : Int) ≤
                                      f36 x.snd.snd.snd.snd.snd.snd.snd.snd.fst x.snd.snd.snd.snd.snd.snd.snd.snd.snd.fst
                                        (List.take x.snd.snd.snd.snd.snd.snd.snd.snd.snd.snd.fst
                                          (List.drop (0 : Nat) x.snd.snd.snd.snd.snd.snd.fst))
                                        x.snd.snd.snd.snd.snd.snd.snd.snd.snd.snd.snd.fst
                                        x.snd.snd.snd.snd.snd.snd.snd.snd.snd.snd.snd.snd.fst
                                        (List.take x.snd.snd.snd.snd.snd.snd.snd.snd.snd.snd.snd.snd.snd.fst
                                          (List.drop (0 : Nat) x.snd.snd.snd.snd.snd.snd.snd.fst))
                                        y703.X y703.Y) &&
                                  decide
                                    (f36 x.snd.snd.snd.snd.snd.snd.snd.snd.fst x.snd.snd.snd.snd.snd.snd.snd.snd.snd.fst
                                        (List.take x.snd.snd.snd.snd.snd.snd.snd.snd.snd.snd.fst
                                          (List.drop (0 : Nat) x.snd.snd.snd.snd.snd.snd.fst))
                                        x.snd.snd.snd.snd.snd.snd.snd.snd.snd.snd.snd.fst
                                        x.snd.snd.snd.snd.snd.snd.snd.snd.snd.snd.snd.snd.fst
                                        (List.take x.snd.snd.snd.snd.snd.snd.snd.snd.snd.snd.snd.snd.snd.fst
                                          (List.drop (0 : Nat) x.snd.snd.snd.snd.snd.snd.snd.fst))
                                        y703.X y703.Y <
                                      (↑x.snd.snd.snd.snd.snd.snd.snd.snd.snd.snd.snd.snd.snd.fst : Int)) then
                              x.snd.snd.snd.snd.snd.snd.snd.fst[(0 : Nat) +
                                      (f36 x.snd.snd.snd.snd.snd.snd.snd.snd.fst x.snd.snd.snd.snd.snd.snd.snd.snd.snd.fst
                                          (List.take x.snd.snd.snd.snd.snd.snd.snd.snd.snd.snd.fst
                                            (List.drop (0 : Nat) x.snd.snd.snd.snd.snd.snd.fst))
                                          x.snd.snd.snd.snd.snd.snd.snd.snd.snd.snd.snd.fst
                                          x.snd.snd.snd.snd.snd.snd.snd.snd.snd.snd.snd.snd.fst
                                          (List.take x.snd.snd.snd.snd.snd.snd.snd.snd.snd.snd.snd.snd.snd.fst
                                            (List.drop (0 : Nat) x.snd.snd.snd.snd.snd.snd.snd.fst))
                                          y703.X y703.Y).toNat]?.bind
                                fun _x =>
                                (j37_37
                                      (x.fst, x.snd.fst, x.snd.snd.fst, x.snd.snd.snd.fst, x.snd.snd.snd.snd.fst, x.snd.snd.snd.snd.snd.fst,
                                        x.snd.snd.snd.snd.snd.snd.fst,
                                        x.snd.snd.snd.snd.snd.snd.snd.fst.set
                                          ((0 : Nat) +
                                            (f36 x.snd.snd.snd.snd.snd.snd.snd.snd.fst x.snd.snd.snd.snd.snd.snd.snd.snd.snd.fst
                                                (List.take x.snd.snd.snd.snd.snd.snd.snd.snd.snd.snd.fst
                                                  (List.drop (0 : Nat) x.snd.snd.snd.snd.snd.snd.fst))
                                                x.snd.snd.snd.snd.snd.snd.snd.snd.snd.snd.snd.fst
                                                x.snd.snd.snd.snd.snd.snd.snd.snd.snd.snd.snd.snd.fst
                                                (List.take x.snd.snd.snd.snd.snd.snd.snd.snd.snd.snd.snd.snd.snd.fst
                                                  (List.drop (0 : Nat) x.snd.snd.snd.snd.snd.snd.snd.fst))
                                                y703.X y703.Y).toNat)
                                          (IntKind.i64.wrap (x.snd.snd.fst + y702.fst)),
                                        x.snd.snd.snd.snd.snd.snd.snd.snd.fst, x.snd.snd.snd.snd.snd.snd.snd.snd.snd.fst,
                                        x.snd.snd.snd.snd.snd.snd.snd.snd.snd.snd.fst, x.snd.snd.snd.snd.snd.snd.snd.snd.snd.snd.snd.fst,
                                        x.snd.snd.snd.snd.snd.snd.snd.snd.snd.snd.snd.snd.fst,
                                        x.snd.snd.snd.snd.snd.snd.snd.snd.snd.snd.snd.snd.snd.fst,
                                        x.snd.snd.snd.snd.snd.snd.snd.snd.snd.snd.snd.snd.snd.snd.fst,
                                        x.snd.snd.snd.snd.snd.snd.snd.snd.snd.snd.snd.snd.snd.snd.snd.fst,
                                        x.snd.snd.snd.snd.snd.snd.snd.snd.snd.snd.snd.snd.snd.snd.snd.snd.fst, y703.X, y703.Y,
                                        x.snd.snd.snd.snd.snd.snd.snd.snd.snd.snd.snd.snd.snd.snd.snd.snd.snd.fst, ())).bind
                                  fun y697 =>
                                  (j37_40
                                        ((0 : Nat), y697.fst, y697.snd.fst, y697.snd.snd.fst, y697.snd.snd.snd.fst,
                                          y697.snd.snd.snd.snd.fst, y697.snd.snd.snd.snd.snd.fst, y697.snd.snd.snd.snd.snd.snd.fst,
                                          y697.snd.snd.snd.snd.snd.snd.snd.fst, y697.snd.snd.snd.snd.snd.snd.snd.snd.fst,
                                          y697.snd.snd.snd.snd.snd.snd.snd.snd.snd.fst, y697.snd.snd.snd.snd.snd.snd.snd.snd.snd.snd.fst,
                                          y697.snd.snd.snd.snd.snd.snd.snd.snd.snd.snd.snd.fst,
                                          y697.snd.snd.snd.snd.snd.snd.snd.snd.snd.snd.snd.snd.fst,
                                          y697.snd.snd.snd.snd.snd.snd.snd.snd.snd.snd.snd.snd.snd.fst,
                                          y697.snd.snd.snd.snd.snd.snd.snd.snd.snd.snd.snd.snd.snd.snd.fst,
                                          y697.snd.snd.snd.snd.snd.snd.snd.snd.snd.snd.snd.snd.snd.snd.snd.fst,
                                          y697.snd.snd.snd.snd.snd.snd.snd.snd.snd.snd.snd.snd.snd.snd.snd.snd.fst, ())).bind
                                    fun y696 =>
                                    some
                                      (Sum.inl
                                        (y696.fst, y696.snd.fst, y696.snd.snd.fst, y696.snd.snd.snd.fst, y696.snd.snd.snd.snd.fst,
                                          y696.snd.snd.snd.snd.snd.fst, y696.snd.snd.snd.snd.snd.snd.fst,
                                          y696.snd.snd.snd.snd.snd.snd.snd.fst, y696.snd.snd.snd.snd.snd.snd.snd.snd.fst,
                                          y696.snd.snd.snd.snd.snd.snd.snd.snd.snd.fst, y696.snd.snd.snd.snd.snd.snd.snd.snd.snd.snd.fst,
                                          y696.snd.snd.snd.snd.snd.snd.snd.snd.snd.snd.snd.fst,
                                          y696.snd.snd.snd.snd.snd.snd.snd.snd.snd.snd.snd.snd.fst,
                                          y696.snd.snd.snd.snd.snd.snd.snd.snd.snd.snd.snd.snd.snd.fst,
                                          y696.snd.snd.snd.snd.snd.snd.snd.snd.snd.snd.snd.snd.snd.snd.fst,
                                          y696.snd.snd.snd.snd.snd.snd.snd.snd.snd.snd.snd.snd.snd.snd.snd.fst,
                                          y696.snd.snd.snd.snd.snd.snd.snd.snd.snd.snd.snd.snd.snd.snd.snd.snd.fst,
                                          y696.snd.snd.snd.snd.snd.snd.snd.snd.snd.snd.snd.snd.snd.snd.snd.snd.snd.fst, ()))
                            else none
                          else none
                        else none
                      else
                        (j37_40
                              (x.fst, x.snd.fst, x.snd.snd.fst, x.snd.snd.snd.fst, x.snd.snd.snd.snd.fst, x.snd.snd.snd.snd.snd.fst,
                                x.snd.snd.snd.snd.snd.snd.fst, x.snd.snd.snd.snd.snd.snd.snd.fst, x.snd.snd.snd.snd.snd.snd.snd.snd.fst,
                                x.snd.snd.snd.snd.snd.snd.snd.snd.snd.fst, x.snd.snd.snd.snd.snd.snd.snd.snd.snd.snd.fst,
                                x.snd.snd.snd.snd.snd.snd.snd.snd.snd.snd.snd.fst, x.snd.snd.snd.snd.snd.snd.snd.snd.snd.snd.snd.snd.fst,
                                x.snd.snd.snd.snd.snd.snd.snd.snd.snd.snd.snd.snd.snd.fst,
                                x.snd.snd.snd.snd.snd.snd.snd.snd.snd.snd.snd.snd.snd.snd.fst,
                                x.snd.snd.snd.snd.snd.snd.snd.snd.snd.snd.snd.snd.snd.snd.snd.fst,
                                x.snd.snd.snd.snd.snd.snd.snd.snd.snd.snd.snd.snd.snd.snd.snd.snd.fst,
                                x.snd.snd.snd.snd.snd.snd.snd.snd.snd.snd.snd.snd.snd.snd.snd.snd.snd.fst, ())).bind
                          fun y699 =>
                          some
                            (Sum.inl
                              (y699.fst, y699.snd.fst, y699.snd.snd.fst, y699.snd.snd.snd.fst, y699.snd.snd.snd.snd.fst,
                                y699.snd.snd.snd.snd.snd.fst, y699.snd.snd.snd.snd.snd.snd.fst, y699.snd.snd.snd.snd.snd.snd.snd.fst,
                                y699.snd.snd.snd.snd.snd.snd.snd.snd.fst, y699.snd.snd.snd.snd.snd.snd.snd.snd.snd.fst,
                                y699.snd.snd.snd.snd.snd.snd.snd.snd.snd.snd.fst, y699.snd.snd.snd.snd.snd.snd.snd.snd.snd.snd.snd.fst,
                                y699.snd.snd.snd.snd.snd.snd.snd.snd.snd.snd.snd.snd.fst,
                                y699.snd.snd.snd.snd.snd.snd.snd.snd.snd.snd.snd.snd.snd.fst,
                                y699.snd.snd.snd.snd.snd.snd.snd.snd.snd.snd.snd.snd.snd.snd.fst,
                                y699.snd.snd.snd.snd.snd.snd.snd.snd.snd.snd.snd.snd.snd.snd.snd.fst,
                                y699.snd.snd.snd.snd.snd.snd.snd.snd.snd.snd.snd.snd.snd.snd.snd.snd.fst,
                                y699.snd.snd.snd.snd.snd.snd.snd.snd.snd.snd.snd.snd.snd.snd.snd.snd.snd.fst, ()))
                  else
                    (j37_40
                          (x.fst, x.snd.fst, x.snd.snd.fst, x.snd.snd.snd.fst, x.snd.snd.snd.snd.fst, x.snd.snd.snd.snd.snd.fst,
                            x.snd.snd.snd.snd.snd.snd.fst, x.snd.snd.snd.snd.snd.snd.snd.fst, x.snd.snd.snd.snd.snd.snd.snd.snd.fst,
                            x.snd.snd.snd.snd.snd.snd.snd.snd.snd.fst, x.snd.snd.snd.snd.snd.snd.snd.snd.snd.snd.fst,
                            x.snd.snd.snd.snd.snd.snd.snd.snd.snd.snd.snd.fst, x.snd.snd.snd.snd.snd.snd.snd.snd.snd.snd.snd.snd.fst,
                            x.snd.snd.snd.snd.snd.snd.snd.snd.snd.snd.snd.snd.snd.fst,
                            x.snd.snd.snd.snd.snd.snd.snd.snd.snd.snd.snd.snd.snd.snd.fst,
                            x.snd.snd.snd.snd.snd.snd.snd.snd.snd.snd.snd.snd.snd.snd.snd.fst,
                            x.snd.snd.snd.snd.snd.snd.snd.snd.snd.snd.snd.snd.snd.snd.snd.snd.fst,
                            x.snd.snd.snd.snd.snd.snd.snd.snd.snd.snd.snd.snd.snd.snd.snd.snd.snd.fst, ())).bind
                      fun y700 =>
                      some
                        (Sum.inl
                          (y700.fst, y700.snd.fst, y700.snd.snd.fst, y700.snd.snd.snd.fst, y700.snd.snd.snd.snd.fst,
                            y700.snd.snd.snd.snd.snd.fst, y700.snd.snd.snd.snd.snd.snd.fst, y700.snd.snd.snd.snd.snd.snd.snd.fst,
                            y700.snd.snd.snd.snd.snd.snd.snd.snd.fst, y700.snd.snd.snd.snd.snd.snd.snd.snd.snd.fst,
                            y700.snd.snd.snd.snd.snd.snd.snd.snd.snd.snd.fst, y700.snd.snd.snd.snd.snd.snd.snd.snd.snd.snd.snd.fst,
                            y700.snd.snd.snd.snd.snd.snd.snd.snd.snd.snd.snd.snd.fst,
                            y700.snd.snd.snd.snd.snd.snd.snd.snd.snd.snd.snd.snd.snd.fst,
                            y700.snd.snd.snd.snd.snd.snd.snd.snd.snd.snd.snd.snd.snd.snd.fst,
                            y700.snd.snd.snd.snd.snd.snd.snd.snd.snd.snd.snd.snd.snd.snd.snd.fst,
                            y700.snd.snd.snd.snd.snd.snd.snd.snd.snd.snd.snd.snd.snd.snd.snd.snd.fst,
                            y700.snd.snd.snd.snd.snd.snd.snd.snd.snd.snd.snd.snd.snd.snd.snd.snd.snd.fst, ()))
              else none
            else none
          else none
      else none
  else none
else
  some
    (Sum.inr
      (x.fst, x.snd.fst, x.snd.snd.snd.snd.snd.snd.fst, x.snd.snd.snd.snd.snd.snd.snd.fst, x.snd.snd.snd.snd.snd.snd.snd.snd.fst,
        x.snd.snd.snd.snd.snd.snd.snd.snd.snd.fst, x.snd.snd.snd.snd.snd.snd.snd.snd.snd.snd.fst,
        x.snd.snd.snd.snd.snd.snd.snd.snd.snd.snd.snd.fst, x.snd.snd.snd.snd.snd.snd.snd.snd.snd.snd.snd.snd.fst,
        x.snd.snd.snd.snd.snd.snd.snd.snd.snd.snd.snd.snd.snd.fst, x.snd.snd.snd.snd.snd.snd.snd.snd.snd.snd.snd.snd.snd.snd.fst, ()))
theorem r37_6_run0 (v0 : Nat) (v1 : Nat) (v2 : Int) (v3 : Nat) (v4 : Int) (v5 : Int) (v6 : List Int) (v7 : List Int) (v8 : Int) (v9 : Int) (v10 : Nat) (v11 : Int) (v12 : Int) (v13 : Nat) (v14 : List Pt) (v15 : Int) (v16 : Int) (v17 : List Pt) : roundK tC G37 (look [(37, W37_37), (40, W37_40)]) c37_6 p37_6 (v0, v1, v2, v3, v4, v5, v6, v7, v8, v9, v10, v11, v12, v13, v14, v15, v16, v17, ()) = r37_6 (v0, v1, v2, v3, v4, v5, v6, v7, v8, v9, v10, v11, v12, v13, v14, v15, v16, v17, ()) := by kernel_rfl
theorem r37_6_run (x : Nat × Nat × Int × Nat × Int × Int × List Int × List Int × Int × Int × Nat × Int × Int × Nat × List Pt × Int × Int × List Pt × Unit) : roundK tC G37 (look [(37, W37_37), (40, W37_40)]) c37_6 p37_6 x = r37_6 x := r37_6_run0 x.1 x.2.1 x.2.2.1 x.2.2.2.1 x.2.2.2.2.1 x.2.2.2.2.2.1 x.2.2.2.2.2.2.1 x.2.2.2.2.2.2.2.1 x.2.2.2.2.2.2.2.2.1 x.2.2.2.2.2.2.2.2.2.1 x.2.2.2.2.2.2.2.2.2.2.1 x.2.2.2.2.2.2.2.2.2.2.2.1 x.2.2.2.2.2.2.2.2.2.2.2.2.1 x.2.2.2.2.2.2.2.2.2.2.2.2.2.1 x.2.2.2.2.2.2.2.2.2.2.2.2.2.2.1 x.2.2.2.2.2.2.2.2.2.2.2.2.2.2.2.1 x.2.2.2.2.2.2.2.2.2.2.2.2.2.2.2.2.1 x.2.2.2.2.2.2.2.2.2.2.2.2.2.2.2.2.2.1
noncomputable def l37_6 (x : Nat × Nat × Int × Nat × Int × Int × List Int × List Int × Int × Int × Nat × Int × Int × Nat × List Pt × Int × Int × List Pt × Unit) : Option (Nat × Nat × List Int × List Int × Int × Int × Nat × Int × Int × Nat × List Pt × Unit) := iterO r37_6 x
noncomputable def W37_6 : LF tC := loopW tC p37_6 2 l37_6
theorem W37_6_ok : keyed 6 (loopOf (bodyOf Try.f37) 0) = [.block 2 (.loop c37_6)] ∧ ∀ n, n ≤ 4 → Snd tC n (.block 2 (.loop c37_6)) W37_6.k := ⟨by kernel_rfl, fun n hn => loopW_ok (p := p37_6) (id := 2) Y37 (lam_le (lam_cons W37_37_ok (lam_cons W37_40_ok lam_nil)) n hn) hn r37_6_run⟩
noncomputable def c37_0 : Code := loopOf (bodyOf Try.f37) 0
def p37_0 : LS := ⟨4, [0, 1], ⟨[.one (.one (.ptr 2 0 0)), .one (.one (.slw 4))] ++ vBs 86, [.arr 5, .arr 3, .box [.int .i64, .int .i64, .sl 0, .int .i64, .int .i64, .sl 1], .gone, .arr 26]⟩, [⟨.exit 0, [], ⟨vBs 88, [.arr 5, .arr 3, .box [.int .i64, .int .i64, .sl 0, .int .i64, .int .i64, .sl 1], .gone]⟩, []⟩], [(1, 26)]⟩
noncomputable def r37_0 (x : Nat × Nat × List Int × List Int × Int × Int × Nat × Int × Int × Nat × List Pt × Unit) : Option
  (Nat × Nat × List Int × List Int × Int × Int × Nat × Int × Int × Nat × List Pt × Unit ⊕
    List Int × List Int × Int × Int × Nat × Int × Int × Nat × Unit) :=
  bif decide ((↑x.snd.fst : Int) > (0 : Int)) then
  bif true && decide ((0 : Int) < (↑x.snd.fst : Int)) then
    x.snd.snd.snd.snd.snd.snd.snd.snd.snd.snd.fst[x.fst + (0 : Nat)]?.bind fun y726 =>
      bif
          true && decide ((1 : Int) ≤ (↑x.snd.fst : Int)) && decide ((↑x.snd.fst : Int) ≤ (↑x.snd.fst : Int)) &&
            decide ((↑x.snd.fst : Int) ≤ (↑x.snd.fst : Int)) then
        bif decide ((0 : Nat) + x.snd.snd.snd.snd.snd.snd.fst ≤ x.snd.snd.fst.length) then
          bif decide ((0 : Nat) + x.snd.snd.snd.snd.snd.snd.snd.snd.snd.fst ≤ x.snd.snd.snd.fst.length) then
            bif
                decide
                    ((0 : Int) ≤
                      f36 x.snd.snd.snd.snd.fst x.snd.snd.snd.snd.snd.fst
                        (List.take x.snd.snd.snd.snd.snd.snd.fst (List.drop (0 : Nat) x.snd.snd.fst)) x.snd.snd.snd.snd.snd.snd.snd.fst
                        x.snd.snd.snd.snd.snd.snd.snd.snd.fst
                        (List.take x.snd.snd.snd.snd.snd.snd.snd.snd.snd.fst (List.drop (0 : Nat) x.snd.snd.snd.fst)) y726.X y726.Y) &&
                  decide
                    (f36 x.snd.snd.snd.snd.fst x.snd.snd.snd.snd.snd.fst
                        (List.take x.snd.snd.snd.snd.snd.snd.fst (List.drop (0 : Nat) x.snd.snd.fst)) x.snd.snd.snd.snd.snd.snd.snd.fst
                        x.snd.snd.snd.snd.snd.snd.snd.snd.fst
                        (List.take x.snd.snd.snd.snd.snd.snd.snd.snd.snd.fst (List.drop (0 : Nat) x.snd.snd.snd.fst)) y726.X y726.Y <
                      (↑x.snd.snd.snd.snd.snd.snd.snd.snd.snd.fst : Int)) then
              x.snd.snd.snd.fst[(0 : Nat) +
                      (f36 x.snd.snd.snd.snd.fst x.snd.snd.snd.snd.snd.fst
                          (List.take x.snd.snd.snd.snd.snd.snd.fst (List.drop (0 : Nat) x.snd.snd.fst)) x.snd.snd.snd.snd.snd.snd.snd.fst
                          x.snd.snd.snd.snd.snd.snd.snd.snd.fst
                          (List.take x.snd.snd.snd.snd.snd.snd.snd.snd.snd.fst (List.drop (0 : Nat) x.snd.snd.snd.fst)) y726.X
                          y726.Y).toNat]?.bind
                fun y725 =>
                bif decide (y725 < (0 : Int)) then
                  some
                    (Sum.inl
                      (x.fst + (1 : Nat), (↑x.snd.fst : Int).toNat - (1 : Nat), x.snd.snd.fst, x.snd.snd.snd.fst, x.snd.snd.snd.snd.fst,
                        x.snd.snd.snd.snd.snd.fst, x.snd.snd.snd.snd.snd.snd.fst, x.snd.snd.snd.snd.snd.snd.snd.fst,
                        x.snd.snd.snd.snd.snd.snd.snd.snd.fst, x.snd.snd.snd.snd.snd.snd.snd.snd.snd.fst,
                        x.snd.snd.snd.snd.snd.snd.snd.snd.snd.snd.fst, ()))
                else
                  bif decide ((0 : Nat) + x.snd.snd.snd.snd.snd.snd.fst ≤ x.snd.snd.fst.length) then
                    (f38
                          (x.snd.snd.snd.snd.fst, x.snd.snd.snd.snd.snd.fst,
                            List.take x.snd.snd.snd.snd.snd.snd.fst (List.drop (0 : Nat) x.snd.snd.fst), y726.X, y726.Y, ())).bind
                      fun y724 =>
                      (l37_6
                            (x.fst + (1 : Nat), (↑x.snd.fst : Int).toNat - (1 : Nat), y725, y724.fst, (↑y724.fst : Int), (0 : Int),
                              x.snd.snd.fst, x.snd.snd.snd.fst, x.snd.snd.snd.snd.fst, x.snd.snd.snd.snd.snd.fst,
                              x.snd.snd.snd.snd.snd.snd.fst, x.snd.snd.snd.snd.snd.snd.snd.fst, x.snd.snd.snd.snd.snd.snd.snd.snd.fst,
                              x.snd.snd.snd.snd.snd.snd.snd.snd.snd.fst, x.snd.snd.snd.snd.snd.snd.snd.snd.snd.snd.fst, y726.X, y726.Y,
                              y724.snd.fst, ())).bind
                        fun y723 =>
                        some
                          (Sum.inl
                            (y723.fst, y723.snd.fst, y723.snd.snd.fst, y723.snd.snd.snd.fst, y723.snd.snd.snd.snd.fst,
                              y723.snd.snd.snd.snd.snd.fst, y723.snd.snd.snd.snd.snd.snd.fst, y723.snd.snd.snd.snd.snd.snd.snd.fst,
                              y723.snd.snd.snd.snd.snd.snd.snd.snd.fst, y723.snd.snd.snd.snd.snd.snd.snd.snd.snd.fst,
                              y723.snd.snd.snd.snd.snd.snd.snd.snd.snd.snd.fst, ()))
                  else none
            else none
          else none
        else none
      else none
  else none
else
  some
    (Sum.inr
      (x.snd.snd.fst, x.snd.snd.snd.fst, x.snd.snd.snd.snd.fst, x.snd.snd.snd.snd.snd.fst, x.snd.snd.snd.snd.snd.snd.fst,
        x.snd.snd.snd.snd.snd.snd.snd.fst, x.snd.snd.snd.snd.snd.snd.snd.snd.fst, x.snd.snd.snd.snd.snd.snd.snd.snd.snd.fst, ()))
theorem r37_0_run0 (v0 : Nat) (v1 : Nat) (v2 : List Int) (v3 : List Int) (v4 : Int) (v5 : Int) (v6 : Nat) (v7 : Int) (v8 : Int) (v9 : Nat) (v10 : List Pt) : roundK tC G37 (look [(6, W37_6)]) c37_0 p37_0 (v0, v1, v2, v3, v4, v5, v6, v7, v8, v9, v10, ()) = r37_0 (v0, v1, v2, v3, v4, v5, v6, v7, v8, v9, v10, ()) := by kernel_rfl
theorem r37_0_run (x : Nat × Nat × List Int × List Int × Int × Int × Nat × Int × Int × Nat × List Pt × Unit) : roundK tC G37 (look [(6, W37_6)]) c37_0 p37_0 x = r37_0 x := r37_0_run0 x.1 x.2.1 x.2.2.1 x.2.2.2.1 x.2.2.2.2.1 x.2.2.2.2.2.1 x.2.2.2.2.2.2.1 x.2.2.2.2.2.2.2.1 x.2.2.2.2.2.2.2.2.1 x.2.2.2.2.2.2.2.2.2.1 x.2.2.2.2.2.2.2.2.2.2.1
noncomputable def l37_0 (x : Nat × Nat × List Int × List Int × Int × Int × Nat × Int × Int × Nat × List Pt × Unit) : Option (List Int × List Int × Int × Int × Nat × Int × Int × Nat × Unit) := iterO r37_0 x
noncomputable def W37_0 : LF tC := loopW tC p37_0 0 l37_0
theorem W37_0_ok : keyed 0 (bodyOf Try.f37) = [.block 0 (.loop c37_0)] ∧ ∀ n, n ≤ 4 → Snd tC n (.block 0 (.loop c37_0)) W37_0.k := ⟨by kernel_rfl, fun n hn => loopW_ok (p := p37_0) (id := 0) Y37 (lam_le (lam_cons W37_6_ok lam_nil) n hn) hn r37_0_run⟩
def S37 : FS := ⟨[[.p], [.o 26]], [⟨[.one (.one (.ptr 2 0 0)), .one (.one (.sl 3))], [.arr 5, .arr 3, .box [.int .i64, .int .i64, .sl 0, .int .i64, .int .i64, .sl 1], .arr 26]⟩], [⟨[.tup []], [.arr 5, .arr 3, .box [.int .i64, .int .i64, .sl 0, .int .i64, .int .i64, .sl 1], .gone]⟩], [], []⟩
noncomputable def f37 (x : Nat × List Int × List Int × Int × Int × Nat × Int × Int × Nat × List Pt × Unit) : Option (List Int × List Int × Int × Int × Nat × Int × Int × Nat × Unit) :=
  (l37_0
      ((0 : Nat), x.fst, x.snd.fst, x.snd.snd.fst, x.snd.snd.snd.fst, x.snd.snd.snd.snd.fst, x.snd.snd.snd.snd.snd.fst,
        x.snd.snd.snd.snd.snd.snd.fst, x.snd.snd.snd.snd.snd.snd.snd.fst, x.snd.snd.snd.snd.snd.snd.snd.snd.fst,
        x.snd.snd.snd.snd.snd.snd.snd.snd.snd.fst, ())).bind
  fun y743 =>
  some
    (y743.fst, y743.snd.fst, y743.snd.snd.fst, y743.snd.snd.snd.fst, y743.snd.snd.snd.snd.fst, y743.snd.snd.snd.snd.snd.fst,
      y743.snd.snd.snd.snd.snd.snd.fst, y743.snd.snd.snd.snd.snd.snd.snd.fst, ())
noncomputable def F37 : CF tC := mkF tC S37 f37
theorem f37_run : ∀ a, fnS tC G37 (look [(0, W37_0)]) Try.f37 S37 a = f37 a := fun a => by kernel_rfl
theorem F37_ok : CFOK tC 37 F37 := mkF_ok Y37 (fn := Try.f37) (body := bodyOf Try.f37) (by kernel_rfl) (by kernel_rfl) (by kernel_rfl) (m := 4) rfl (lam_le (lam_cons W37_0_ok lam_nil)) f37_run

/-! raise -/
noncomputable def G39 : FuncId → Option (CF tC) := look [(36, F36), (51, F51), (38, F38), (37, F37)]
theorem Y39 : SysN tC G39 := (sys_cons F36_ok (mkF_nat _ _) (sys_cons F51_ok (mkF_nat _ _) (sys_cons F38_ok (mkF_nat _ _) (sys_cons F37_ok (mkF_nat _ _) (sys_nil tC_ok tC_eq)))))
noncomputable def c39_16 : Code := subCode (loopOf (bodyOf Try.f39) 0) 16
def p39_16 : PS := ⟨4, [0, 1, 4, 5], ⟨[.one (.one (.ptr 2 0 0)), .one (.one (.slw 4)), vB, vB, .one (.one (.sl 5)), .one (.one (.ptr 6 0 0))] ++ vBs 68, [.arr 5, .arr 3, .box [.int .i64, .int .i64, .sl 0, .int .i64, .int .i64, .sl 1], .gone, .arr 26, .arr 26, .box [.int .i64, .int .i64]]⟩, [⟨.normal, [0, 1, 4], ⟨[.one (.one (.ptr 2 0 0)), .one (.one (.sl 4)), vB, vB, .one (.one (.sl 5))] ++ vBs 69, [.arr 5, .arr 3, .box [.int .i64, .int .i64, .sl 0, .int .i64, .int .i64, .sl 1], .gone, .arr 26, .arr 26]⟩, []⟩], []⟩
noncomputable def j39_16 (x : Nat × Nat × Nat × List Int × List Int × Int × Int × Nat × Int × Int × Nat × List Pt × List Pt × Int × Int × Unit) : Option (Nat × Nat × List Int × List Int × Int × Int × Nat × Int × Int × Nat × List Pt × List Pt × Unit) :=
  bif decide ((0 : Nat) + x.snd.snd.snd.snd.snd.snd.snd.fst ≤ x.snd.snd.snd.fst.length) then
  bif decide ((0 : Nat) + x.snd.snd.snd.snd.snd.snd.snd.snd.snd.snd.fst ≤ x.snd.snd.snd.snd.fst.length) then
    bif
        decide
            ((0 : Int) ≤
              f36 x.snd.snd.snd.snd.snd.fst x.snd.snd.snd.snd.snd.snd.fst
                (List.take x.snd.snd.snd.snd.snd.snd.snd.fst (List.drop (0 : Nat) x.snd.snd.snd.fst)) x.snd.snd.snd.snd.snd.snd.snd.snd.fst
                x.snd.snd.snd.snd.snd.snd.snd.snd.snd.fst
                (List.take x.snd.snd.snd.snd.snd.snd.snd.snd.snd.snd.fst (List.drop (0 : Nat) x.snd.snd.snd.snd.fst))
                x.snd.snd.snd.snd.snd.snd.snd.snd.snd.snd.snd.snd.snd.fst x.snd.snd.snd.snd.snd.snd.snd.snd.snd.snd.snd.snd.snd.snd.fst) &&
          decide
            (f36 x.snd.snd.snd.snd.snd.fst x.snd.snd.snd.snd.snd.snd.fst
                (List.take x.snd.snd.snd.snd.snd.snd.snd.fst (List.drop (0 : Nat) x.snd.snd.snd.fst)) x.snd.snd.snd.snd.snd.snd.snd.snd.fst
                x.snd.snd.snd.snd.snd.snd.snd.snd.snd.fst
                (List.take x.snd.snd.snd.snd.snd.snd.snd.snd.snd.snd.fst (List.drop (0 : Nat) x.snd.snd.snd.snd.fst))
                x.snd.snd.snd.snd.snd.snd.snd.snd.snd.snd.snd.snd.snd.fst x.snd.snd.snd.snd.snd.snd.snd.snd.snd.snd.snd.snd.snd.snd.fst <
              (↑x.snd.snd.snd.snd.snd.snd.snd.snd.snd.snd.fst : Int)) then
      x.snd.snd.snd.snd.fst[(0 : Nat) +
              (f36 x.snd.snd.snd.snd.snd.fst x.snd.snd.snd.snd.snd.snd.fst
                  (List.take x.snd.snd.snd.snd.snd.snd.snd.fst (List.drop (0 : Nat) x.snd.snd.snd.fst))
                  x.snd.snd.snd.snd.snd.snd.snd.snd.fst x.snd.snd.snd.snd.snd.snd.snd.snd.snd.fst
                  (List.take x.snd.snd.snd.snd.snd.snd.snd.snd.snd.snd.fst (List.drop (0 : Nat) x.snd.snd.snd.snd.fst))
                  x.snd.snd.snd.snd.snd.snd.snd.snd.snd.snd.snd.snd.snd.fst
                  x.snd.snd.snd.snd.snd.snd.snd.snd.snd.snd.snd.snd.snd.snd.fst).toNat]?.bind
        fun _x =>
        bif decide ((0 : Nat) + x.snd.snd.snd.snd.snd.snd.snd.fst ≤ x.snd.snd.snd.fst.length) then
          (f38
                (x.snd.snd.snd.snd.snd.fst, x.snd.snd.snd.snd.snd.snd.fst,
                  List.take x.snd.snd.snd.snd.snd.snd.snd.fst (List.drop (0 : Nat) x.snd.snd.snd.fst),
                  x.snd.snd.snd.snd.snd.snd.snd.snd.snd.snd.snd.snd.snd.fst, x.snd.snd.snd.snd.snd.snd.snd.snd.snd.snd.snd.snd.snd.snd.fst,
                  ())).bind
            fun y130 =>
            bif decide ((0 : Nat) + y130.fst ≤ y130.snd.fst.length) then
              bif decide (x.fst + x.snd.fst ≤ x.snd.snd.snd.snd.snd.snd.snd.snd.snd.snd.snd.fst.length) then
                bif roomy (x.snd.fst + (List.take y130.fst (List.drop (0 : Nat) y130.snd.fst)).length) (16 : Nat) then
                  bif decide ((0 : Nat) + y130.fst ≤ y130.snd.fst.length) then
                    bif decide ((0 : Nat) + x.snd.snd.fst ≤ x.snd.snd.snd.snd.snd.snd.snd.snd.snd.snd.snd.snd.fst.length) then
                      bif roomy (x.snd.snd.fst + (List.take y130.fst (List.drop (0 : Nat) y130.snd.fst)).length) (16 : Nat) then
                        some
                          (x.snd.fst + (List.take y130.fst (List.drop (0 : Nat) y130.snd.fst)).length,
                            x.snd.snd.fst + (List.take y130.fst (List.drop (0 : Nat) y130.snd.fst)).length, x.snd.snd.snd.fst,
                            x.snd.snd.snd.snd.fst.set
                              ((0 : Nat) +
                                (f36 x.snd.snd.snd.snd.snd.fst x.snd.snd.snd.snd.snd.snd.fst
                                    (List.take x.snd.snd.snd.snd.snd.snd.snd.fst (List.drop (0 : Nat) x.snd.snd.snd.fst))
                                    x.snd.snd.snd.snd.snd.snd.snd.snd.fst x.snd.snd.snd.snd.snd.snd.snd.snd.snd.fst
                                    (List.take x.snd.snd.snd.snd.snd.snd.snd.snd.snd.snd.fst (List.drop (0 : Nat) x.snd.snd.snd.snd.fst))
                                    x.snd.snd.snd.snd.snd.snd.snd.snd.snd.snd.snd.snd.snd.fst
                                    x.snd.snd.snd.snd.snd.snd.snd.snd.snd.snd.snd.snd.snd.snd.fst).toNat)
                              (-1 : Int),
                            x.snd.snd.snd.snd.snd.fst, x.snd.snd.snd.snd.snd.snd.fst, x.snd.snd.snd.snd.snd.snd.snd.fst,
                            x.snd.snd.snd.snd.snd.snd.snd.snd.fst, x.snd.snd.snd.snd.snd.snd.snd.snd.snd.fst,
                            x.snd.snd.snd.snd.snd.snd.snd.snd.snd.snd.fst,
                            List.take x.snd.fst (List.drop x.fst x.snd.snd.snd.snd.snd.snd.snd.snd.snd.snd.snd.fst) ++
                              List.take y130.fst (List.drop (0 : Nat) y130.snd.fst),
                            List.take x.snd.snd.fst (List.drop (0 : Nat) x.snd.snd.snd.snd.snd.snd.snd.snd.snd.snd.snd.snd.fst) ++
                              List.take y130.fst (List.drop (0 : Nat) y130.snd.fst),
                            ())
                      else none
                    else none
                  else none
                else none
              else none
            else none
        else none
    else none
  else none
else none
theorem j39_16_run0 (v0 : Nat) (v1 : Nat) (v2 : Nat) (v3 : List Int) (v4 : List Int) (v5 : Int) (v6 : Int) (v7 : Nat) (v8 : Int) (v9 : Int) (v10 : Nat) (v11 : List Pt) (v12 : List Pt) (v13 : Int) (v14 : Int) : pieceK tC G39 (look []) c39_16 p39_16 (v0, v1, v2, v3, v4, v5, v6, v7, v8, v9, v10, v11, v12, v13, v14, ()) = j39_16 (v0, v1, v2, v3, v4, v5, v6, v7, v8, v9, v10, v11, v12, v13, v14, ()) := by kernel_rfl
theorem j39_16_run (x : Nat × Nat × Nat × List Int × List Int × Int × Int × Nat × Int × Int × Nat × List Pt × List Pt × Int × Int × Unit) : pieceK tC G39 (look []) c39_16 p39_16 x = j39_16 x := j39_16_run0 x.1 x.2.1 x.2.2.1 x.2.2.2.1 x.2.2.2.2.1 x.2.2.2.2.2.1 x.2.2.2.2.2.2.1 x.2.2.2.2.2.2.2.1 x.2.2.2.2.2.2.2.2.1 x.2.2.2.2.2.2.2.2.2.1 x.2.2.2.2.2.2.2.2.2.2.1 x.2.2.2.2.2.2.2.2.2.2.2.1 x.2.2.2.2.2.2.2.2.2.2.2.2.1 x.2.2.2.2.2.2.2.2.2.2.2.2.2.1 x.2.2.2.2.2.2.2.2.2.2.2.2.2.2.1
noncomputable def W39_16 : LF tC := cutLF tC p39_16 j39_16
theorem W39_16_ok : keyed 16 (loopOf (bodyOf Try.f39) 0) = [c39_16] ∧ ∀ n, n ≤ 4 → Snd tC n c39_16 W39_16.k := ⟨by kernel_rfl, fun n hn => cut_ok (p := p39_16) Y39 (lam_le lam_nil n hn) hn j39_16_run⟩
noncomputable def c39_0 : Code := loopOf (bodyOf Try.f39) 0
def p39_0 : LS := ⟨4, [0, 1, 4], ⟨[.one (.one (.ptr 2 0 0)), .one (.one (.slw 4)), vB, vB, .one (.one (.sl 5))] ++ vBs 69, [.arr 5, .arr 3, .box [.int .i64, .int .i64, .sl 0, .int .i64, .int .i64, .sl 1], .gone, .arr 26, .arr 26]⟩, [⟨.exit 0, [0, 4], ⟨[.one (.one (.ptr 2 0 0)), vB, vB, vB, .one (.one (.sl 4))] ++ vBs 69, [.arr 5, .arr 3, .box [.int .i64, .int .i64, .sl 0, .int .i64, .int .i64, .sl 1], .gone, .arr 26]⟩, []⟩], [(4, 26), (1, 26)]⟩
noncomputable def r39_0 (x : Nat × Nat × Nat × List Int × List Int × Int × Int × Nat × Int × Int × Nat × List Pt × List Pt × Unit) : Option
  (Nat × Nat × Nat × List Int × List Int × Int × Int × Nat × Int × Int × Nat × List Pt × List Pt × Unit ⊕
    Nat × List Int × List Int × Int × Int × Nat × Int × Int × Nat × List Pt × Unit) :=
  bif decide ((↑x.snd.fst : Int) > (0 : Int)) then
  bif true && decide ((0 : Int) < (↑x.snd.fst : Int)) then
    x.snd.snd.snd.snd.snd.snd.snd.snd.snd.snd.snd.fst[x.fst + (0 : Nat)]?.bind fun y173 =>
      bif
          true && decide ((1 : Int) ≤ (↑x.snd.fst : Int)) && decide ((↑x.snd.fst : Int) ≤ (↑x.snd.fst : Int)) &&
            decide ((↑x.snd.fst : Int) ≤ (↑x.snd.fst : Int)) then
        bif
            bif y173.X == x.snd.snd.snd.snd.snd.snd.snd.snd.fst then
              bif y173.Y == x.snd.snd.snd.snd.snd.snd.snd.snd.snd.fst then true else false
            else false then
          bif decide ((0 : Nat) + x.snd.snd.snd.snd.snd.snd.snd.fst ≤ x.snd.snd.snd.fst.length) then
            bif decide ((0 : Nat) + x.snd.snd.snd.snd.snd.snd.snd.snd.snd.snd.fst ≤ x.snd.snd.snd.snd.fst.length) then
              bif
                  decide
                      ((0 : Int) ≤
                        f36 x.snd.snd.snd.snd.snd.fst x.snd.snd.snd.snd.snd.snd.fst
                          (List.take x.snd.snd.snd.snd.snd.snd.snd.fst (List.drop (0 : Nat) x.snd.snd.snd.fst))
                          x.snd.snd.snd.snd.snd.snd.snd.snd.fst x.snd.snd.snd.snd.snd.snd.snd.snd.snd.fst
                          (List.take x.snd.snd.snd.snd.snd.snd.snd.snd.snd.snd.fst (List.drop (0 : Nat) x.snd.snd.snd.snd.fst)) y173.X
                          y173.Y) &&
                    decide
                      (f36 x.snd.snd.snd.snd.snd.fst x.snd.snd.snd.snd.snd.snd.fst
                          (List.take x.snd.snd.snd.snd.snd.snd.snd.fst (List.drop (0 : Nat) x.snd.snd.snd.fst))
                          x.snd.snd.snd.snd.snd.snd.snd.snd.fst x.snd.snd.snd.snd.snd.snd.snd.snd.snd.fst
                          (List.take x.snd.snd.snd.snd.snd.snd.snd.snd.snd.snd.fst (List.drop (0 : Nat) x.snd.snd.snd.snd.fst)) y173.X
                          y173.Y <
                        (↑x.snd.snd.snd.snd.snd.snd.snd.fst : Int)) then
                x.snd.snd.snd.fst[(0 : Nat) +
                        (f36 x.snd.snd.snd.snd.snd.fst x.snd.snd.snd.snd.snd.snd.fst
                            (List.take x.snd.snd.snd.snd.snd.snd.snd.fst (List.drop (0 : Nat) x.snd.snd.snd.fst))
                            x.snd.snd.snd.snd.snd.snd.snd.snd.fst x.snd.snd.snd.snd.snd.snd.snd.snd.snd.fst
                            (List.take x.snd.snd.snd.snd.snd.snd.snd.snd.snd.snd.fst (List.drop (0 : Nat) x.snd.snd.snd.snd.fst)) y173.X
                            y173.Y).toNat]?.bind
                  fun y169 =>
                  bif y169 == (1 : Int) then
                    some
                      (Sum.inl
                        (x.fst + (1 : Nat), (↑x.snd.fst : Int).toNat - (1 : Nat), x.snd.snd.fst, x.snd.snd.snd.fst, x.snd.snd.snd.snd.fst,
                          x.snd.snd.snd.snd.snd.fst, x.snd.snd.snd.snd.snd.snd.fst, x.snd.snd.snd.snd.snd.snd.snd.fst,
                          x.snd.snd.snd.snd.snd.snd.snd.snd.fst, x.snd.snd.snd.snd.snd.snd.snd.snd.snd.fst,
                          x.snd.snd.snd.snd.snd.snd.snd.snd.snd.snd.fst, x.snd.snd.snd.snd.snd.snd.snd.snd.snd.snd.snd.fst,
                          x.snd.snd.snd.snd.snd.snd.snd.snd.snd.snd.snd.snd.fst, ()))
                  else
                    bif decide ((0 : Nat) + x.snd.snd.snd.snd.snd.snd.snd.fst ≤ x.snd.snd.snd.fst.length) then
                      bif decide ((0 : Nat) + x.snd.snd.snd.snd.snd.snd.snd.snd.snd.snd.fst ≤ x.snd.snd.snd.snd.fst.length) then
                        bif
                            decide
                                ((0 : Int) ≤
                                  f36 x.snd.snd.snd.snd.snd.fst x.snd.snd.snd.snd.snd.snd.fst
                                    (List.take x.snd.snd.snd.snd.snd.snd.snd.fst (List.drop (0 : Nat) x.snd.snd.snd.fst))
                                    x.snd.snd.snd.snd.snd.snd.snd.snd.fst x.snd.snd.snd.snd.snd.snd.snd.snd.snd.fst
                                    (List.take x.snd.snd.snd.snd.snd.snd.snd.snd.snd.snd.fst (List.drop (0 : Nat) x.snd.snd.snd.snd.fst))
                                    y173.X y173.Y) &&
                              decide
                                (f36 x.snd.snd.snd.snd.snd.fst x.snd.snd.snd.snd.snd.snd.fst
                                    (List.take x.snd.snd.snd.snd.snd.snd.snd.fst (List.drop (0 : Nat) x.snd.snd.snd.fst))
                                    x.snd.snd.snd.snd.snd.snd.snd.snd.fst x.snd.snd.snd.snd.snd.snd.snd.snd.snd.fst
                                    (List.take x.snd.snd.snd.snd.snd.snd.snd.snd.snd.snd.fst (List.drop (0 : Nat) x.snd.snd.snd.snd.fst))
                                    y173.X y173.Y <
                                  (↑x.snd.snd.snd.snd.snd.snd.snd.snd.snd.snd.fst : Int)) then
                          x.snd.snd.snd.snd.fst[(0 : Nat) +
                                  (f36 x.snd.snd.snd.snd.snd.fst x.snd.snd.snd.snd.snd.snd.fst
                                      (List.take x.snd.snd.snd.snd.snd.snd.snd.fst (List.drop (0 : Nat) x.snd.snd.snd.fst))
                                      x.snd.snd.snd.snd.snd.snd.snd.snd.fst x.snd.snd.snd.snd.snd.snd.snd.snd.snd.fst
                                      (List.take x.snd.snd.snd.snd.snd.snd.snd.snd.snd.snd.fst (List.drop (0 : Nat) x.snd.snd.snd.snd.fst))
                                      y173.X y173.Y).toNat]?.bind
                            fun y168 =>
                            bif decide (y168 < (0 : Int)) then
                              some
                                (Sum.inl
                                  (x.fst + (1 : Nat), (↑x.snd.fst : Int).toNat - (1 : Nat), x.snd.snd.fst, x.snd.snd.snd.fst,
                                    x.snd.snd.snd.snd.fst, x.snd.snd.snd.snd.snd.fst, x.snd.snd.snd.snd.snd.snd.fst,
                                    x.snd.snd.snd.snd.snd.snd.snd.fst, x.snd.snd.snd.snd.snd.snd.snd.snd.fst,
                                    x.snd.snd.snd.snd.snd.snd.snd.snd.snd.fst, x.snd.snd.snd.snd.snd.snd.snd.snd.snd.snd.fst,
                                    x.snd.snd.snd.snd.snd.snd.snd.snd.snd.snd.snd.fst,
                                    x.snd.snd.snd.snd.snd.snd.snd.snd.snd.snd.snd.snd.fst, ()))
                            else
                              bif decide ((0 : Nat) + x.snd.snd.snd.snd.snd.snd.snd.fst ≤ x.snd.snd.snd.fst.length) then
                                bif decide ((0 : Nat) + x.snd.snd.snd.snd.snd.snd.snd.snd.snd.snd.fst ≤ x.snd.snd.snd.snd.fst.length) then
                                  (f51
                                        (x.snd.snd.snd.snd.snd.fst, x.snd.snd.snd.snd.snd.snd.fst,
                                          List.take x.snd.snd.snd.snd.snd.snd.snd.fst (List.drop (0 : Nat) x.snd.snd.snd.fst),
                                          x.snd.snd.snd.snd.snd.snd.snd.snd.fst, x.snd.snd.snd.snd.snd.snd.snd.snd.snd.fst,
                                          List.take x.snd.snd.snd.snd.snd.snd.snd.snd.snd.snd.fst
                                            (List.drop (0 : Nat) x.snd.snd.snd.snd.fst),
                                          y173.X, y173.Y, ())).bind
                                    fun y167 =>
                                    bif y167.fst then
                                      some
                                        (Sum.inl
                                          (x.fst + (1 : Nat), (↑x.snd.fst : Int).toNat - (1 : Nat), x.snd.snd.fst, x.snd.snd.snd.fst,
                                            x.snd.snd.snd.snd.fst, x.snd.snd.snd.snd.snd.fst, x.snd.snd.snd.snd.snd.snd.fst,
                                            x.snd.snd.snd.snd.snd.snd.snd.fst, x.snd.snd.snd.snd.snd.snd.snd.snd.fst,
                                            x.snd.snd.snd.snd.snd.snd.snd.snd.snd.fst, x.snd.snd.snd.snd.snd.snd.snd.snd.snd.snd.fst,
                                            x.snd.snd.snd.snd.snd.snd.snd.snd.snd.snd.snd.fst,
                                            x.snd.snd.snd.snd.snd.snd.snd.snd.snd.snd.snd.snd.fst, ()))
                                    else
                                      (j39_16
                                            (x.fst + (1 : Nat), (↑x.snd.fst : Int).toNat - (1 : Nat), x.snd.snd.fst, x.snd.snd.snd.fst,
                                              x.snd.snd.snd.snd.fst, x.snd.snd.snd.snd.snd.fst, x.snd.snd.snd.snd.snd.snd.fst,
                                              x.snd.snd.snd.snd.snd.snd.snd.fst, x.snd.snd.snd.snd.snd.snd.snd.snd.fst,
                                              x.snd.snd.snd.snd.snd.snd.snd.snd.snd.fst, x.snd.snd.snd.snd.snd.snd.snd.snd.snd.snd.fst,
                                              x.snd.snd.snd.snd.snd.snd.snd.snd.snd.snd.snd.fst,
                                              x.snd.snd.snd.snd.snd.snd.snd.snd.snd.snd.snd.snd.fst, y173.X, y173.Y, ())).bind
                                        fun y166 =>
                                        some
                                          (Sum.inl
                                            ((0 : Nat), y166.fst, y166.snd.fst, y166.snd.snd.fst, y166.snd.snd.snd.fst,
                                              y166.snd.snd.snd.snd.fst, y166.snd.snd.snd.snd.snd.fst, y166.snd.snd.snd.snd.snd.snd.fst,
                                              y166.snd.snd.snd.snd.snd.snd.snd.fst, y166.snd.snd.snd.snd.snd.snd.snd.snd.fst,
                                              y166.snd.snd.snd.snd.snd.snd.snd.snd.snd.fst,
                                              y166.snd.snd.snd.snd.snd.snd.snd.snd.snd.snd.fst,
                                              y166.snd.snd.snd.snd.snd.snd.snd.snd.snd.snd.snd.fst, ()))
                                else none
                              else none
                        else none
                      else none
                    else none
              else none
            else none
          else none
        else
          bif decide ((0 : Nat) + x.snd.snd.snd.snd.snd.snd.snd.fst ≤ x.snd.snd.snd.fst.length) then
            bif decide ((0 : Nat) + x.snd.snd.snd.snd.snd.snd.snd.snd.snd.snd.fst ≤ x.snd.snd.snd.snd.fst.length) then
              bif
                  decide
                      ((0 : Int) ≤
                        f36 x.snd.snd.snd.snd.snd.fst x.snd.snd.snd.snd.snd.snd.fst
                          (List.take x.snd.snd.snd.snd.snd.snd.snd.fst (List.drop (0 : Nat) x.snd.snd.snd.fst))
                          x.snd.snd.snd.snd.snd.snd.snd.snd.fst x.snd.snd.snd.snd.snd.snd.snd.snd.snd.fst
                          (List.take x.snd.snd.snd.snd.snd.snd.snd.snd.snd.snd.fst (List.drop (0 : Nat) x.snd.snd.snd.snd.fst)) y173.X
                          y173.Y) &&
                    decide
                      (f36 x.snd.snd.snd.snd.snd.fst x.snd.snd.snd.snd.snd.snd.fst
                          (List.take x.snd.snd.snd.snd.snd.snd.snd.fst (List.drop (0 : Nat) x.snd.snd.snd.fst))
                          x.snd.snd.snd.snd.snd.snd.snd.snd.fst x.snd.snd.snd.snd.snd.snd.snd.snd.snd.fst
                          (List.take x.snd.snd.snd.snd.snd.snd.snd.snd.snd.snd.fst (List.drop (0 : Nat) x.snd.snd.snd.snd.fst)) y173.X
                          y173.Y <
                        (↑x.snd.snd.snd.snd.snd.snd.snd.snd.snd.snd.fst : Int)) then
                x.snd.snd.snd.snd.fst[(0 : Nat) +
                        (f36 x.snd.snd.snd.snd.snd.fst x.snd.snd.snd.snd.snd.snd.fst
                            (List.take x.snd.snd.snd.snd.snd.snd.snd.fst (List.drop (0 : Nat) x.snd.snd.snd.fst))
                            x.snd.snd.snd.snd.snd.snd.snd.snd.fst x.snd.snd.snd.snd.snd.snd.snd.snd.snd.fst
                            (List.take x.snd.snd.snd.snd.snd.snd.snd.snd.snd.snd.fst (List.drop (0 : Nat) x.snd.snd.snd.snd.fst)) y173.X
                            y173.Y).toNat]?.bind
                  fun y172 =>
                  bif decide (y172 < (0 : Int)) then
                    some
                      (Sum.inl
                        (x.fst + (1 : Nat), (↑x.snd.fst : Int).toNat - (1 : Nat), x.snd.snd.fst, x.snd.snd.snd.fst, x.snd.snd.snd.snd.fst,
                          x.snd.snd.snd.snd.snd.fst, x.snd.snd.snd.snd.snd.snd.fst, x.snd.snd.snd.snd.snd.snd.snd.fst,
                          x.snd.snd.snd.snd.snd.snd.snd.snd.fst, x.snd.snd.snd.snd.snd.snd.snd.snd.snd.fst,
                          x.snd.snd.snd.snd.snd.snd.snd.snd.snd.snd.fst, x.snd.snd.snd.snd.snd.snd.snd.snd.snd.snd.snd.fst,
                          x.snd.snd.snd.snd.snd.snd.snd.snd.snd.snd.snd.snd.fst, ()))
                  else
                    bif decide ((0 : Nat) + x.snd.snd.snd.snd.snd.snd.snd.fst ≤ x.snd.snd.snd.fst.length) then
                      bif decide ((0 : Nat) + x.snd.snd.snd.snd.snd.snd.snd.snd.snd.snd.fst ≤ x.snd.snd.snd.snd.fst.length) then
                        (f51
                              (x.snd.snd.snd.snd.snd.fst, x.snd.snd.snd.snd.snd.snd.fst,
                                List.take x.snd.snd.snd.snd.snd.snd.snd.fst (List.drop (0 : Nat) x.snd.snd.snd.fst),
                                x.snd.snd.snd.snd.snd.snd.snd.snd.fst, x.snd.snd.snd.snd.snd.snd.snd.snd.snd.fst,
                                List.take x.snd.snd.snd.snd.snd.snd.snd.snd.snd.snd.fst (List.drop (0 : Nat) x.snd.snd.snd.snd.fst), y173.X,
                                y173.Y, ())).bind
                          fun y171 =>
                          bif y171.fst then
                            some
                              (Sum.inl
                                (x.fst + (1 : Nat), (↑x.snd.fst : Int).toNat - (1 : Nat), x.snd.snd.fst, x.snd.snd.snd.fst,
                                  x.snd.snd.snd.snd.fst, x.snd.snd.snd.snd.snd.fst, x.snd.snd.snd.snd.snd.snd.fst,
                                  x.snd.snd.snd.snd.snd.snd.snd.fst, x.snd.snd.snd.snd.snd.snd.snd.snd.fst,
                                  x.snd.snd.snd.snd.snd.snd.snd.snd.snd.fst, x.snd.snd.snd.snd.snd.snd.snd.snd.snd.snd.fst,
                                  x.snd.snd.snd.snd.snd.snd.snd.snd.snd.snd.snd.fst, x.snd.snd.snd.snd.snd.snd.snd.snd.snd.snd.snd.snd.fst,
                                  ()))
                          else
                            (j39_16
                                  (x.fst + (1 : Nat), (↑x.snd.fst : Int).toNat - (1 : Nat), x.snd.snd.fst, x.snd.snd.snd.fst,
                                    x.snd.snd.snd.snd.fst, x.snd.snd.snd.snd.snd.fst, x.snd.snd.snd.snd.snd.snd.fst,
                                    x.snd.snd.snd.snd.snd.snd.snd.fst, x.snd.snd.snd.snd.snd.snd.snd.snd.fst,
                                    x.snd.snd.snd.snd.snd.snd.snd.snd.snd.fst, x.snd.snd.snd.snd.snd.snd.snd.snd.snd.snd.fst,
                                    x.snd.snd.snd.snd.snd.snd.snd.snd.snd.snd.snd.fst,
                                    x.snd.snd.snd.snd.snd.snd.snd.snd.snd.snd.snd.snd.fst, y173.X, y173.Y, ())).bind
                              fun y170 =>
                              some
                                (Sum.inl
                                  ((0 : Nat), y170.fst, y170.snd.fst, y170.snd.snd.fst, y170.snd.snd.snd.fst, y170.snd.snd.snd.snd.fst,
                                    y170.snd.snd.snd.snd.snd.fst, y170.snd.snd.snd.snd.snd.snd.fst, y170.snd.snd.snd.snd.snd.snd.snd.fst,
                                    y170.snd.snd.snd.snd.snd.snd.snd.snd.fst, y170.snd.snd.snd.snd.snd.snd.snd.snd.snd.fst,
                                    y170.snd.snd.snd.snd.snd.snd.snd.snd.snd.snd.fst, y170.snd.snd.snd.snd.snd.snd.snd.snd.snd.snd.snd.fst,
                                    ()))
                      else none
                    else none
              else none
            else none
          else none
      else none
  else none
else
  some
    (Sum.inr
      (x.snd.snd.fst, x.snd.snd.snd.fst, x.snd.snd.snd.snd.fst, x.snd.snd.snd.snd.snd.fst, x.snd.snd.snd.snd.snd.snd.fst,
        x.snd.snd.snd.snd.snd.snd.snd.fst, x.snd.snd.snd.snd.snd.snd.snd.snd.fst, x.snd.snd.snd.snd.snd.snd.snd.snd.snd.fst,
        x.snd.snd.snd.snd.snd.snd.snd.snd.snd.snd.fst, x.snd.snd.snd.snd.snd.snd.snd.snd.snd.snd.snd.snd.fst, ()))
theorem r39_0_run0 (v0 : Nat) (v1 : Nat) (v2 : Nat) (v3 : List Int) (v4 : List Int) (v5 : Int) (v6 : Int) (v7 : Nat) (v8 : Int) (v9 : Int) (v10 : Nat) (v11 : List Pt) (v12 : List Pt) : roundK tC G39 (look [(16, W39_16)]) c39_0 p39_0 (v0, v1, v2, v3, v4, v5, v6, v7, v8, v9, v10, v11, v12, ()) = r39_0 (v0, v1, v2, v3, v4, v5, v6, v7, v8, v9, v10, v11, v12, ()) := by kernel_rfl
theorem r39_0_run (x : Nat × Nat × Nat × List Int × List Int × Int × Int × Nat × Int × Int × Nat × List Pt × List Pt × Unit) : roundK tC G39 (look [(16, W39_16)]) c39_0 p39_0 x = r39_0 x := r39_0_run0 x.1 x.2.1 x.2.2.1 x.2.2.2.1 x.2.2.2.2.1 x.2.2.2.2.2.1 x.2.2.2.2.2.2.1 x.2.2.2.2.2.2.2.1 x.2.2.2.2.2.2.2.2.1 x.2.2.2.2.2.2.2.2.2.1 x.2.2.2.2.2.2.2.2.2.2.1 x.2.2.2.2.2.2.2.2.2.2.2.1 x.2.2.2.2.2.2.2.2.2.2.2.2.1
noncomputable def l39_0 (x : Nat × Nat × Nat × List Int × List Int × Int × Int × Nat × Int × Int × Nat × List Pt × List Pt × Unit) : Option (Nat × List Int × List Int × Int × Int × Nat × Int × Int × Nat × List Pt × Unit) := iterO r39_0 x
noncomputable def W39_0 : LF tC := loopW tC p39_0 0 l39_0
theorem W39_0_ok : keyed 0 (bodyOf Try.f39) = [.block 0 (.loop c39_0)] ∧ ∀ n, n ≤ 4 → Snd tC n (.block 0 (.loop c39_0)) W39_0.k := ⟨by kernel_rfl, fun n hn => loopW_ok (p := p39_0) (id := 0) Y39 (lam_le (lam_cons W39_16_ok lam_nil) n hn) hn r39_0_run⟩
def S39 : FS := ⟨[[.p], [.o 26]], [⟨[.one (.one (.ptr 2 0 0)), .one (.one (.sl 3))], [.arr 5, .arr 3, .box [.int .i64, .int .i64, .sl 0, .int .i64, .int .i64, .sl 1], .arr 26]⟩], [⟨[.tup []], [.gone, .gone, .box [.int .i64, .int .i64, .sl 4, .int .i64, .int .i64, .sl 5], .gone, .arr 5, .arr 3]⟩], [], []⟩
noncomputable def f39 (x : Nat × List Int × List Int × Int × Int × Nat × Int × Int × Nat × List Pt × Unit) : Option (Int × Int × Nat × Int × Int × Nat × List Int × List Int × Unit) :=
  (l39_0
      ((0 : Nat), x.fst, (0 : Nat), x.snd.fst, x.snd.snd.fst, x.snd.snd.snd.fst, x.snd.snd.snd.snd.fst, x.snd.snd.snd.snd.snd.fst,
        x.snd.snd.snd.snd.snd.snd.fst, x.snd.snd.snd.snd.snd.snd.snd.fst, x.snd.snd.snd.snd.snd.snd.snd.snd.fst,
        x.snd.snd.snd.snd.snd.snd.snd.snd.snd.fst, [], ())).bind
  fun y201 =>
  bif decide ((0 : Nat) + y201.snd.snd.snd.snd.snd.fst ≤ y201.snd.fst.length) then
    bif decide ((0 : Nat) + y201.snd.snd.snd.snd.snd.snd.snd.snd.fst ≤ y201.snd.snd.fst.length) then
      bif decide ((0 : Nat) + y201.fst ≤ y201.snd.snd.snd.snd.snd.snd.snd.snd.snd.fst.length) then
        (f37
              (y201.fst, List.take y201.snd.snd.snd.snd.snd.fst (List.drop (0 : Nat) y201.snd.fst),
                List.take y201.snd.snd.snd.snd.snd.snd.snd.snd.fst (List.drop (0 : Nat) y201.snd.snd.fst), y201.snd.snd.snd.fst,
                y201.snd.snd.snd.snd.fst, y201.snd.snd.snd.snd.snd.fst, y201.snd.snd.snd.snd.snd.snd.fst,
                y201.snd.snd.snd.snd.snd.snd.snd.fst, y201.snd.snd.snd.snd.snd.snd.snd.snd.fst,
                List.take y201.fst (List.drop (0 : Nat) y201.snd.snd.snd.snd.snd.snd.snd.snd.snd.fst), ())).bind
          fun y200 =>
          some
            (y200.snd.snd.fst, y200.snd.snd.snd.fst, y200.snd.snd.snd.snd.fst, y200.snd.snd.snd.snd.snd.fst,
              y200.snd.snd.snd.snd.snd.snd.fst, y200.snd.snd.snd.snd.snd.snd.snd.fst, y200.fst, y200.snd.fst, ())
      else none
    else none
  else none
noncomputable def F39 : CF tC := mkF tC S39 f39
theorem f39_run : ∀ a, fnS tC G39 (look [(0, W39_0)]) Try.f39 S39 a = f39 a := fun a => by kernel_rfl
theorem F39_ok : CFOK tC 39 F39 := mkF_ok Y39 (fn := Try.f39) (body := bodyOf Try.f39) (by kernel_rfl) (by kernel_rfl) (by kernel_rfl) (m := 4) rfl (lam_le (lam_cons W39_0_ok lam_nil)) f39_run

/-! fresh (of a new planner) -/
noncomputable def G935 : FuncId → Option (CF tC) := look [(24, F24), (49, F49)]
theorem Y935 : SysN tC G935 := (sys_cons F24_ok (mkF_nat _ _) (sys_cons F49_ok (mkF_nat _ _) (sys_nil tC_ok tC_eq)))
noncomputable def c935_10 : Code := subCode (bodyOf Try.f35) 10
def p935_10 : PS := ⟨2, [0, 2], ⟨[.one (.one (.ptr 1 0 0)), vB, .one (.one (.sl 2))] ++ vBs 32, [.arr 5, .box [.int .i64, .int .i64, .sl 0, .int .i64, .int .i64, .nils], .arr 3]⟩, [⟨.normal, [], ⟨vBs 35, [.arr 5, .box [.int .i64, .int .i64, .sl 0, .int .i64, .int .i64, .sl 2], .arr 3]⟩, []⟩], []⟩
noncomputable def j935_10 (x : Nat × List Int × Int × Int × Nat × Int × Int × List Int × Unit) : Option (List Int × Int × Int × Nat × Int × Int × Nat × List Int × Unit) :=
  some
  (x.snd.fst, x.snd.snd.fst, x.snd.snd.snd.fst, x.snd.snd.snd.snd.fst, x.snd.snd.snd.snd.snd.fst, x.snd.snd.snd.snd.snd.snd.fst, x.fst,
    x.snd.snd.snd.snd.snd.snd.snd.fst, ())
theorem j935_10_run0 (v0 : Nat) (v1 : List Int) (v2 : Int) (v3 : Int) (v4 : Nat) (v5 : Int) (v6 : Int) (v7 : List Int) : pieceK tC G935 (look []) c935_10 p935_10 (v0, v1, v2, v3, v4, v5, v6, v7, ()) = j935_10 (v0, v1, v2, v3, v4, v5, v6, v7, ()) := by kernel_rfl
theorem j935_10_run (x : Nat × List Int × Int × Int × Nat × Int × Int × List Int × Unit) : pieceK tC G935 (look []) c935_10 p935_10 x = j935_10 x := j935_10_run0 x.1 x.2.1 x.2.2.1 x.2.2.2.1 x.2.2.2.2.1 x.2.2.2.2.2.1 x.2.2.2.2.2.2.1 x.2.2.2.2.2.2.2.1
noncomputable def W935_10 : LF tC := cutLF tC p935_10 j935_10
theorem W935_10_ok : keyed 10 (bodyOf Try.f35) = [c935_10] ∧ ∀ n, n ≤ 2 → Snd tC n c935_10 W935_10.k := ⟨by kernel_rfl, fun n hn => cut_ok (p := p935_10) Y935 (lam_le lam_nil n hn) hn j935_10_run⟩
def S935 : FS := ⟨[[.p]], [⟨[.one (.one (.ptr 1 0 0))], [.arr 5, .box [.int .i64, .int .i64, .sl 0, .int .i64, .int .i64, .nils]]⟩], [⟨[.tup []], [.arr 5, .box [.int .i64, .int .i64, .sl 0, .int .i64, .int .i64, .sl 2], .arr 3]⟩], [], []⟩
noncomputable def f935 (x : List Int × Int × Int × Nat × Int × Int × Unit) : Option (List Int × Int × Int × Nat × Int × Int × Nat × List Int × Unit) :=
  bif decide ((0 : Nat) + x.snd.snd.snd.fst ≤ x.fst.length) then
  (f24
        (x.snd.fst, x.snd.snd.fst, List.take x.snd.snd.snd.fst (List.drop (0 : Nat) x.fst), x.snd.snd.snd.snd.fst,
          x.snd.snd.snd.snd.snd.fst, ())).bind
    fun y55 =>
    bif y55.snd.fst != (0 : Int) then
      (f49 ([(-1 : Int)], IntKind.i64.wrap (x.snd.fst * x.snd.snd.fst), ())).bind fun y53 =>
        (j935_10
              (y53.fst, x.fst, x.snd.fst, x.snd.snd.fst, x.snd.snd.snd.fst, x.snd.snd.snd.snd.fst, x.snd.snd.snd.snd.snd.fst, y53.snd.fst,
                ())).bind
          fun y52 =>
          some
            (y52.fst, y52.snd.fst, y52.snd.snd.fst, y52.snd.snd.snd.fst, y52.snd.snd.snd.snd.fst, y52.snd.snd.snd.snd.snd.fst,
              y52.snd.snd.snd.snd.snd.snd.fst, y52.snd.snd.snd.snd.snd.snd.snd.fst, ())
    else
      (j935_10
            (y55.fst, x.fst, x.snd.fst, x.snd.snd.fst, x.snd.snd.snd.fst, x.snd.snd.snd.snd.fst, x.snd.snd.snd.snd.snd.fst, y55.snd.snd.fst,
              ())).bind
        fun y54 =>
        some
          (y54.fst, y54.snd.fst, y54.snd.snd.fst, y54.snd.snd.snd.fst, y54.snd.snd.snd.snd.fst, y54.snd.snd.snd.snd.snd.fst,
            y54.snd.snd.snd.snd.snd.snd.fst, y54.snd.snd.snd.snd.snd.snd.snd.fst, ())
else none
noncomputable def F935 : CF tC := mkF tC S935 f935
theorem f935_run : ∀ a, fnS tC G935 (look [(10, W935_10)]) Try.f35 S935 a = f935 a := fun a => by kernel_rfl
theorem F935_ok : CFOK tC 35 F935 := mkF_ok Y935 (fn := Try.f35) (body := bodyOf Try.f35) (by kernel_rfl) (by kernel_rfl) (by kernel_rfl) (m := 2) rfl (lam_le (lam_cons W935_10_ok lam_nil)) f935_run

/-! fresh -/
noncomputable def G35 : FuncId → Option (CF tC) := look [(24, F24), (49, F49)]
theorem Y35 : SysN tC G35 := (sys_cons F24_ok (mkF_nat _ _) (sys_cons F49_ok (mkF_nat _ _) (sys_nil tC_ok tC_eq)))
noncomputable def c35_10 : Code := subCode (bodyOf Try.f35) 10
def p35_10 : PS := ⟨3, [0, 2], ⟨[.one (.one (.ptr 2 0 0)), vB, .one (.one (.sl 3))] ++ vBs 32, [.arr 5, .arr 3, .box [.int .i64, .int .i64, .sl 0, .int .i64, .int .i64, .sl 1], .arr 3]⟩, [⟨.normal, [], ⟨vBs 35, [.arr 5, .arr 3, .box [.int .i64, .int .i64, .sl 0, .int .i64, .int .i64, .sl 3], .arr 3]⟩, []⟩], []⟩
noncomputable def j35_10 (x : Nat × List Int × List Int × Int × Int × Nat × Int × Int × Nat × List Int × Unit) : Option (List Int × List Int × Int × Int × Nat × Int × Int × Nat × List Int × Unit) :=
  some
  (x.snd.fst, x.snd.snd.fst, x.snd.snd.snd.fst, x.snd.snd.snd.snd.fst, x.snd.snd.snd.snd.snd.fst, x.snd.snd.snd.snd.snd.snd.fst,
    x.snd.snd.snd.snd.snd.snd.snd.fst, x.fst, x.snd.snd.snd.snd.snd.snd.snd.snd.snd.fst, ())
theorem j35_10_run0 (v0 : Nat) (v1 : List Int) (v2 : List Int) (v3 : Int) (v4 : Int) (v5 : Nat) (v6 : Int) (v7 : Int) (v8 : Nat) (v9 : List Int) : pieceK tC G35 (look []) c35_10 p35_10 (v0, v1, v2, v3, v4, v5, v6, v7, v8, v9, ()) = j35_10 (v0, v1, v2, v3, v4, v5, v6, v7, v8, v9, ()) := by kernel_rfl
theorem j35_10_run (x : Nat × List Int × List Int × Int × Int × Nat × Int × Int × Nat × List Int × Unit) : pieceK tC G35 (look []) c35_10 p35_10 x = j35_10 x := j35_10_run0 x.1 x.2.1 x.2.2.1 x.2.2.2.1 x.2.2.2.2.1 x.2.2.2.2.2.1 x.2.2.2.2.2.2.1 x.2.2.2.2.2.2.2.1 x.2.2.2.2.2.2.2.2.1 x.2.2.2.2.2.2.2.2.2.1
noncomputable def W35_10 : LF tC := cutLF tC p35_10 j35_10
theorem W35_10_ok : keyed 10 (bodyOf Try.f35) = [c35_10] ∧ ∀ n, n ≤ 3 → Snd tC n c35_10 W35_10.k := ⟨by kernel_rfl, fun n hn => cut_ok (p := p35_10) Y35 (lam_le lam_nil n hn) hn j35_10_run⟩
def S35 : FS := ⟨[[.p]], [⟨[.one (.one (.ptr 2 0 0))], [.arr 5, .arr 3, .box [.int .i64, .int .i64, .sl 0, .int .i64, .int .i64, .sl 1]]⟩], [⟨[.tup []], [.arr 5, .arr 3, .box [.int .i64, .int .i64, .sl 0, .int .i64, .int .i64, .sl 3], .arr 3]⟩], [], []⟩
noncomputable def f35 (x : List Int × List Int × Int × Int × Nat × Int × Int × Nat × Unit) : Option (List Int × List Int × Int × Int × Nat × Int × Int × Nat × List Int × Unit) :=
  bif decide ((0 : Nat) + x.snd.snd.snd.snd.fst ≤ x.fst.length) then
  (f24
        (x.snd.snd.fst, x.snd.snd.snd.fst, List.take x.snd.snd.snd.snd.fst (List.drop (0 : Nat) x.fst), x.snd.snd.snd.snd.snd.fst,
          x.snd.snd.snd.snd.snd.snd.fst, ())).bind
    fun y63 =>
    bif y63.snd.fst != (0 : Int) then
      (f49 ([(-1 : Int)], IntKind.i64.wrap (x.snd.snd.fst * x.snd.snd.snd.fst), ())).bind fun y61 =>
        (j35_10
              (y61.fst, x.fst, x.snd.fst, x.snd.snd.fst, x.snd.snd.snd.fst, x.snd.snd.snd.snd.fst, x.snd.snd.snd.snd.snd.fst,
                x.snd.snd.snd.snd.snd.snd.fst, x.snd.snd.snd.snd.snd.snd.snd.fst, y61.snd.fst, ())).bind
          fun y60 =>
          some
            (y60.fst, y60.snd.fst, y60.snd.snd.fst, y60.snd.snd.snd.fst, y60.snd.snd.snd.snd.fst, y60.snd.snd.snd.snd.snd.fst,
              y60.snd.snd.snd.snd.snd.snd.fst, y60.snd.snd.snd.snd.snd.snd.snd.fst, y60.snd.snd.snd.snd.snd.snd.snd.snd.fst, ())
    else
      (j35_10
            (y63.fst, x.fst, x.snd.fst, x.snd.snd.fst, x.snd.snd.snd.fst, x.snd.snd.snd.snd.fst, x.snd.snd.snd.snd.snd.fst,
              x.snd.snd.snd.snd.snd.snd.fst, x.snd.snd.snd.snd.snd.snd.snd.fst, y63.snd.snd.fst, ())).bind
        fun y62 =>
        some
          (y62.fst, y62.snd.fst, y62.snd.snd.fst, y62.snd.snd.snd.fst, y62.snd.snd.snd.snd.fst, y62.snd.snd.snd.snd.snd.fst,
            y62.snd.snd.snd.snd.snd.snd.fst, y62.snd.snd.snd.snd.snd.snd.snd.fst, y62.snd.snd.snd.snd.snd.snd.snd.snd.fst, ())
else none
noncomputable def F35 : CF tC := mkF tC S35 f35
theorem f35_run : ∀ a, fnS tC G35 (look [(10, W35_10)]) Try.f35 S35 a = f35 a := fun a => by kernel_rfl
theorem F35_ok : CFOK tC 35 F35 := mkF_ok Y35 (fn := Try.f35) (body := bodyOf Try.f35) (by kernel_rfl) (by kernel_rfl) (by kernel_rfl) (m := 3) rfl (lam_le (lam_cons W35_10_ok lam_nil)) f35_run

/-! repair.New -/
noncomputable def G10 : FuncId → Option (CF tC) := look [(32, F32), (33, F33), (34, F34), (35, F935)]
theorem Y10 : SysN tC G10 := (sys_cons F32_ok (mkF_nat _ _) (sys_cons F33_ok (mkF_nat _ _) (sys_cons F34_ok (mkF_nat _ _) (sys_cons F935_ok (mkF_nat _ _) (sys_nil tC_ok tC_eq)))))
def S10 : FS := ⟨[[.v, .v, .s 5], [.v, .v]], [⟨[.one (.agg [.int .i64, .int .i64, .imm 5]), .one (.agg [.int .i64, .int .i64])], []⟩], [⟨[.tup [.one .nilp, .one (.lit .i64 1)]], []⟩, ⟨[.tup [.one .nilp, .one (.lit .i64 7)]], []⟩, ⟨[.tup [.one (.ptr 0 0 0), .one (.lit .i64 0)]], [.box [.int .i64, .int .i64, .sl 1, .int .i64, .int .i64, .sl 2], .arr 5, .arr 3]⟩], [[.v], [.v]], []⟩
noncomputable def f10 (x : Int × Int × List Int × Int × Int × Unit) : Option (Unit ⊕ Unit ⊕ Int × Int × Nat × Int × Int × Nat × List Int × List Int × Unit) :=
  (f32 (x.fst, x.snd.fst, x.snd.snd.fst, ())).bind fun y27 =>
  bif !y27.fst then some (Sum.inl ())
  else
    bif !f33 x.fst x.snd.fst x.snd.snd.fst x.snd.snd.snd.fst x.snd.snd.snd.snd.fst then some (Sum.inr (Sum.inl ()))
    else
      (f34 (x.snd.snd.fst, ())).bind fun y26 =>
        bif decide ((0 : Nat) + y26.fst ≤ y26.snd.fst.length) then
          (f935
                (List.take y26.fst (List.drop (0 : Nat) y26.snd.fst), x.fst, x.snd.fst, y26.fst, x.snd.snd.snd.fst, x.snd.snd.snd.snd.fst,
                  ())).bind
            fun y25 =>
            some
              (Sum.inr
                (Sum.inr
                  (y25.snd.fst, y25.snd.snd.fst, y25.snd.snd.snd.fst, y25.snd.snd.snd.snd.fst, y25.snd.snd.snd.snd.snd.fst,
                    y25.snd.snd.snd.snd.snd.snd.fst, y25.fst, y25.snd.snd.snd.snd.snd.snd.snd.fst, ())))
        else none
noncomputable def F10 : CF tC := mkF tC S10 f10
theorem f10_run : ∀ a, fnS tC G10 (look []) Try.f10 S10 a = f10 a := fun a => by kernel_rfl
theorem F10_ok : CFOK tC 10 F10 := mkF_ok Y10 (fn := Try.f10) (body := bodyOf Try.f10) (by kernel_rfl) (by kernel_rfl) (by kernel_rfl) (m := 0) rfl (lam_le lam_nil) f10_run
end Go.AE
