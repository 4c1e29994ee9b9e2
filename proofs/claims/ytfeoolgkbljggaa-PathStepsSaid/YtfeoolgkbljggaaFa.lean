/-
  The plain functions that the seat's Go functions compute, each with the proof that the function keeps it. Printed by the generator (Gen2) and checked by the kernel.
-/
import Derived.Test.YtfeoolgkbljggaaCfgT
namespace Go.AE
open Go.Proofs Go.RowKit
set_option maxRecDepth 100000

/-! plan.size -/
noncomputable def G49 : FuncId → Option (CF tC) := look []
theorem Y49 : SysN tC G49 := (sys_nil tC_ok tC_eq)
def S49 : FS := ⟨[[.v]], [⟨[vI], []⟩], [⟨[vO], []⟩], [[.v]], []⟩
def f49 (n1 : Int) : Bool :=
  bif decide (n1 ≥ (1 : Int)) then decide (n1 ≤ (64 : Int)) else false
noncomputable def F49 : CF tC := mkF tC S49 (fun a => some ((f49 a.1), ()))
def h49 (r : Bool) : Option (altTy tE S49.outs) := some (r, ())
theorem f49_run : ∀ a, fnS tC G49 (look []) Try.f49 S49 a = (fun a => some ((f49 a.1), ())) a := fun a => by
  have key : ∀ (n1 : Int), (bif decide (n1 ≥ (1 : Int)) then h49 (decide (n1 ≤ (64 : Int))) else h49 false) = h49 (f49 n1) := by
    intros
    unfold f49
    repeat' first | rfl | refine cond_h (g := h49) ?_ ?_
  exact Eq.trans (by kernel_rfl) (key a.1)
theorem F49_ok : CFOK tC 49 F49 := mkF_ok Y49 (fn := Try.f49) (body := bodyOf Try.f49) (by kernel_rfl) (by kernel_rfl) (by kernel_rfl) (m := 0) rfl (lam_le lam_nil) f49_run

/-! slices.Max -/
noncomputable def G50 : FuncId → Option (CF tC) := look []
theorem Y50 : SysN tC G50 := (sys_nil tC_ok tC_eq)
noncomputable def c50_0 : Code := loopOf (bodyOf Try.f50) 0
def p50_0 : LS := ⟨0, [0, 3, 4], ⟨[.one (.one (.imm 5)), vB, vB, .one (.one (.int .u8)), vI] ++ vBs 20, []⟩, [⟨.exit 0, [3], ⟨[vB, vB, vB, .one (.one (.int .u8))] ++ vBs 21, []⟩, []⟩], []⟩
noncomputable def r50_0 (x : List Int × Int × Int × Unit) : Option (List Int × Int × Int × Unit ⊕ Int × Unit) :=
  bif decide (x.snd.snd.fst < (↑x.fst.length : Int)) then
  (idxO x.fst x.snd.snd.fst).bind fun y8 =>
    some (Sum.inl (x.fst, bif decide (y8 > x.snd.fst) then y8 else x.snd.fst, IntKind.i64.wrap (x.snd.snd.fst + (1 : Int)), ()))
else some (Sum.inr (x.snd.fst, ()))
theorem r50_0_run0 (v0 : List Int) (v1 : Int) (v2 : Int) : roundK tC G50 (look []) c50_0 p50_0 (v0, v1, v2, ()) = r50_0 (v0, v1, v2, ()) := by kernel_rfl
theorem r50_0_run (x : List Int × Int × Int × Unit) : roundK tC G50 (look []) c50_0 p50_0 x = r50_0 x := r50_0_run0 x.1 x.2.1 x.2.2.1
noncomputable def l50_0 (x : List Int × Int × Int × Unit) : Option (Int × Unit) := iterO r50_0 x
noncomputable def W50_0 : LF tC := loopW tC p50_0 0 l50_0
theorem W50_0_ok : keyed 0 (bodyOf Try.f50) = [.block 0 (.loop c50_0)] ∧ ∀ n, n ≤ 0 → Snd tC n (.block 0 (.loop c50_0)) W50_0.k := ⟨by kernel_rfl, fun n hn => loopW_ok (p := p50_0) (id := 0) Y50 (lam_le lam_nil n hn) hn r50_0_run⟩
def S50 : FS := ⟨[[.s 5]], [⟨[.one (.one (.imm 5))], []⟩], [⟨[.one (.one (.int .u8))], []⟩], [[.v]], []⟩
noncomputable def f50 (x : List Int × Unit) : Option (Int × Unit) :=
  bif decide ((↑x.fst.length : Int) < (1 : Int)) then none
else (idxO x.fst (0 : Int)).bind fun y12 => (l50_0 (x.fst, y12, (1 : Int), ())).bind fun y11 => some (y11.fst, ())
noncomputable def F50 : CF tC := mkF tC S50 f50
theorem f50_run : ∀ a, fnS tC G50 (look [(0, W50_0)]) Try.f50 S50 a = f50 a := fun a => by kernel_rfl
theorem F50_ok : CFOK tC 50 F50 := mkF_ok Y50 (fn := Try.f50) (body := bodyOf Try.f50) (by kernel_rfl) (by kernel_rfl) (by kernel_rfl) (m := 0) rfl (lam_le (lam_cons W50_0_ok lam_nil)) f50_run

/-! plan.Valid -/
noncomputable def G37 : FuncId → Option (CF tC) := look [(49, F49), (50, F50)]
theorem Y37 : SysN tC G37 := (sys_cons F49_ok (mkF_nat _ _) (sys_cons F50_ok (mkF_nat _ _) (sys_nil tC_ok tC_eq)))
def S37 : FS := ⟨[[.v, .v, .s 5]], [⟨[.one (.agg [.int .i64, .int .i64, .imm 5])], []⟩], [⟨[vO], []⟩], [[.v]], []⟩
noncomputable def f37 (x : Int × Int × List Int × Unit) : Option (Bool × Unit) :=
  bif !f49 x.fst then some (false, ())
else
  bif !f49 x.snd.fst then some (false, ())
  else
    bif (↑x.snd.snd.fst.length : Int) != IntKind.i64.wrap (x.fst * x.snd.fst) then some (false, ())
    else
      bif (↑x.snd.snd.fst.length : Int) == (0 : Int) then some (true, ())
      else (f50 (x.snd.snd.fst, ())).bind fun y6 => some (decide (y6.fst ≤ (2 : Int)), ())
noncomputable def F37 : CF tC := mkF tC S37 f37
theorem f37_run : ∀ a, fnS tC G37 (look []) Try.f37 S37 a = f37 a := fun a => by kernel_rfl
theorem F37_ok : CFOK tC 37 F37 := mkF_ok Y37 (fn := Try.f37) (body := bodyOf Try.f37) (by kernel_rfl) (by kernel_rfl) (by kernel_rfl) (m := 0) rfl (lam_le lam_nil) f37_run

/-! path.free -/
noncomputable def G38 : FuncId → Option (CF tC) := look []
theorem Y38 : SysN tC G38 := (sys_nil tC_ok tC_eq)
def S38 : FS := ⟨[[.v, .v, .s 5], [.v, .v]], [⟨[.one (.agg [.int .i64, .int .i64, .imm 5]), .one (.agg [.int .i64, .int .i64])], []⟩], [⟨[vO], []⟩], [[.v]], []⟩
noncomputable def f38 (x : Int × Int × List Int × Int × Int × Unit) : Option (Bool × Unit) :=
  bif decide (x.snd.snd.snd.fst ≥ (0 : Int)) then
  bif decide (x.snd.snd.snd.snd.fst ≥ (0 : Int)) then
    bif decide (x.snd.snd.snd.fst < x.fst) then
      bif decide (x.snd.snd.snd.snd.fst < x.snd.fst) then
        (idxO x.snd.snd.fst (IntKind.i64.wrap (IntKind.i64.wrap (x.snd.snd.snd.snd.fst * x.fst) + x.snd.snd.snd.fst))).bind fun y8 =>
          some (y8 == (1 : Int), ())
      else some (false, ())
    else some (false, ())
  else some (false, ())
else some (false, ())
noncomputable def F38 : CF tC := mkF tC S38 f38
theorem f38_run : ∀ a, fnS tC G38 (look []) Try.f38 S38 a = f38 a := fun a => by kernel_rfl
theorem F38_ok : CFOK tC 38 F38 := mkF_ok Y38 (fn := Try.f38) (body := bodyOf Try.f38) (by kernel_rfl) (by kernel_rfl) (by kernel_rfl) (m := 0) rfl (lam_le lam_nil) f38_run

/-! path.turns -/
noncomputable def G41 : FuncId → Option (CF tC) := look []
theorem Y41 : SysN tC G41 := (sys_nil tC_ok tC_eq)
def S41 : FS := ⟨[], [⟨[], []⟩], [⟨[.one (.agg [.lit .i64 1, .lit .i64 0, .lit .i64 1, .lit .i64 1, .lit .i64 0, .lit .i64 1, .lit .i64 (-1), .lit .i64 1, .lit .i64 (-1), .lit .i64 0, .lit .i64 (-1), .lit .i64 (-1), .lit .i64 0, .lit .i64 (-1), .lit .i64 1, .lit .i64 (-1)])], []⟩], [[.v, .v, .v, .v, .v, .v, .v, .v, .v, .v, .v, .v, .v, .v, .v, .v]], []⟩
def f41  : Unit :=
  ()
noncomputable def F41 : CF tC := mkF tC S41 (fun _ => some ())
theorem f41_run : ∀ a, fnS tC G41 (look []) Try.f41 S41 a = (fun _ => some ()) a := fun a => by kernel_rfl
theorem F41_ok : CFOK tC 41 F41 := mkF_ok Y41 (fn := Try.f41) (body := bodyOf Try.f41) (by kernel_rfl) (by kernel_rfl) (by kernel_rfl) (m := 0) rfl (lam_le lam_nil) f41_run

/-! path.cost -/
noncomputable def G42 : FuncId → Option (CF tC) := look [(38, F38)]
theorem Y42 : SysN tC G42 := (sys_cons F38_ok (mkF_nat _ _) (sys_nil tC_ok tC_eq))
noncomputable def c42_25 : Code := subCode (bodyOf Try.f42) 25
def p42_25 : PS := ⟨0, [6, 9], ⟨vBs 6 ++ [.one (.one (.ptr 0 0 0)), vB, vB, .one (.one (.ptr 1 0 0))] ++ vBs 52, [.box [.int .i64, .int .i64], .box [.int .i64, .int .i64]]⟩, [⟨.ret, [6, 7, 8], ⟨vBs 6 ++ [.one (.one (.ptr 0 0 0)), vI, vO] ++ vBs 53, [.box [.int .i64, .int .i64]]⟩, []⟩], []⟩
noncomputable def j42_25 (x : Int × Int × Int × Int × Unit) : Option (Int × Bool × Int × Int × Unit) :=
  some ((0 : Int), false, x.snd.snd.fst, x.snd.snd.snd.fst, ())
theorem j42_25_run0 (v0 : Int) (v1 : Int) (v2 : Int) (v3 : Int) : pieceK tC G42 (look []) c42_25 p42_25 (v0, v1, v2, v3, ()) = j42_25 (v0, v1, v2, v3, ()) := by kernel_rfl
theorem j42_25_run (x : Int × Int × Int × Int × Unit) : pieceK tC G42 (look []) c42_25 p42_25 x = j42_25 x := j42_25_run0 x.1 x.2.1 x.2.2.1 x.2.2.2.1
noncomputable def W42_25 : LF tC := cutLF tC p42_25 j42_25
theorem W42_25_ok : keyed 25 (bodyOf Try.f42) = [c42_25] ∧ ∀ n, n ≤ 0 → Snd tC n c42_25 W42_25.k := ⟨by kernel_rfl, fun n hn => cut_ok (p := p42_25) Y42 (lam_le lam_nil n hn) hn j42_25_run⟩
def S42 : FS := ⟨[[.v, .v, .s 5], [.v, .v], [.v, .v]], [⟨[.one (.agg [.int .i64, .int .i64, .imm 5]), .one (.agg [.int .i64, .int .i64]), .one (.agg [.int .i64, .int .i64])], []⟩], [⟨[.tup [.agg [.int .i64, .int .i64], .one (.int .i64), .one .bool]], []⟩], [[.v, .v], [.v], [.v]], []⟩
noncomputable def f42 (x : Int × Int × List Int × Int × Int × Int × Int × Unit) : Option (Int × Int × Int × Bool × Unit) :=
  (f38 (x.fst, x.snd.fst, x.snd.snd.fst, x.snd.snd.snd.fst, x.snd.snd.snd.snd.fst, ())).bind fun y37 =>
  bif !y37.fst then
    some
      (IntKind.i64.wrap (x.snd.snd.snd.fst + x.snd.snd.snd.snd.snd.fst),
        IntKind.i64.wrap (x.snd.snd.snd.snd.fst + x.snd.snd.snd.snd.snd.snd.fst), (0 : Int), false, ())
  else
    (f38
          (x.fst, x.snd.fst, x.snd.snd.fst, IntKind.i64.wrap (x.snd.snd.snd.fst + x.snd.snd.snd.snd.snd.fst),
            IntKind.i64.wrap (x.snd.snd.snd.snd.fst + x.snd.snd.snd.snd.snd.snd.fst), ())).bind
      fun y36 =>
      bif !y36.fst then
        some
          (IntKind.i64.wrap (x.snd.snd.snd.fst + x.snd.snd.snd.snd.snd.fst),
            IntKind.i64.wrap (x.snd.snd.snd.snd.fst + x.snd.snd.snd.snd.snd.snd.fst), (0 : Int), false, ())
      else
        bif x.snd.snd.snd.snd.snd.fst == (0 : Int) then
          some
            (IntKind.i64.wrap (x.snd.snd.snd.fst + x.snd.snd.snd.snd.snd.fst),
              IntKind.i64.wrap (x.snd.snd.snd.snd.fst + x.snd.snd.snd.snd.snd.snd.fst), (70 : Int), true, ())
        else
          bif x.snd.snd.snd.snd.snd.snd.fst == (0 : Int) then
            some
              (IntKind.i64.wrap (x.snd.snd.snd.fst + x.snd.snd.snd.snd.snd.fst),
                IntKind.i64.wrap (x.snd.snd.snd.snd.fst + x.snd.snd.snd.snd.snd.snd.fst), (70 : Int), true, ())
          else
            (f38
                  (x.fst, x.snd.fst, x.snd.snd.fst, IntKind.i64.wrap (x.snd.snd.snd.fst + x.snd.snd.snd.snd.snd.fst), x.snd.snd.snd.snd.fst,
                    ())).bind
              fun y35 =>
              bif y35.fst then
                (f38
                      (x.fst, x.snd.fst, x.snd.snd.fst, x.snd.snd.snd.fst,
                        IntKind.i64.wrap (x.snd.snd.snd.snd.fst + x.snd.snd.snd.snd.snd.snd.fst), ())).bind
                  fun y33 =>
                  bif y33.fst then
                    some
                      (IntKind.i64.wrap (x.snd.snd.snd.fst + x.snd.snd.snd.snd.snd.fst),
                        IntKind.i64.wrap (x.snd.snd.snd.snd.fst + x.snd.snd.snd.snd.snd.snd.fst), (99 : Int), true, ())
                  else
                    (j42_25
                          ((0 : Int), (0 : Int), IntKind.i64.wrap (x.snd.snd.snd.fst + x.snd.snd.snd.snd.snd.fst),
                            IntKind.i64.wrap (x.snd.snd.snd.snd.fst + x.snd.snd.snd.snd.snd.snd.fst), ())).bind
                      fun y32 => some (y32.snd.snd.fst, y32.snd.snd.snd.fst, y32.fst, y32.snd.fst, ())
              else
                (j42_25
                      ((0 : Int), (0 : Int), IntKind.i64.wrap (x.snd.snd.snd.fst + x.snd.snd.snd.snd.snd.fst),
                        IntKind.i64.wrap (x.snd.snd.snd.snd.fst + x.snd.snd.snd.snd.snd.snd.fst), ())).bind
                  fun y34 => some (y34.snd.snd.fst, y34.snd.snd.snd.fst, y34.fst, y34.snd.fst, ())
noncomputable def F42 : CF tC := mkF tC S42 f42
theorem f42_run : ∀ a, fnS tC G42 (look [(25, W42_25)]) Try.f42 S42 a = f42 a := fun a => by kernel_rfl
theorem F42_ok : CFOK tC 42 F42 := mkF_ok Y42 (fn := Try.f42) (body := bodyOf Try.f42) (by kernel_rfl) (by kernel_rfl) (by kernel_rfl) (m := 0) rfl (lam_le (lam_cons W42_25_ok lam_nil)) f42_run

/-! bits.Mul64 -/
noncomputable def G60 : FuncId → Option (CF tC) := look []
theorem Y60 : SysN tC G60 := (sys_nil tC_ok tC_eq)
def S60 : FS := ⟨[[.v], [.v]], [⟨[.one (.one (.int .u64)), .one (.one (.int .u64))], []⟩], [⟨[.tup [.one (.int .u64), .one (.int .u64)]], []⟩], [[.v], [.v]], []⟩
def f60 (n1 : Int) (n2 : Int) : Int × Int :=
  (IntKind.u64.wrap
    (IntKind.u64.wrap
        (IntKind.u64.wrap (n1.fdiv (4294967296 : Int) * n2.fdiv (4294967296 : Int)) +
          (IntKind.u64.wrap
                (IntKind.u64.wrap (n1.fdiv (4294967296 : Int) * bits BinOp.and IntKind.u64 n2 (4294967295 : Int)) +
                  (IntKind.u64.wrap
                        (bits BinOp.and IntKind.u64 n1 (4294967295 : Int) * bits BinOp.and IntKind.u64 n2 (4294967295 : Int))).fdiv
                    (4294967296 : Int))).fdiv
            (4294967296 : Int)) +
      (IntKind.u64.wrap
            (bits BinOp.and IntKind.u64
                (IntKind.u64.wrap
                  (IntKind.u64.wrap (n1.fdiv (4294967296 : Int) * bits BinOp.and IntKind.u64 n2 (4294967295 : Int)) +
                    (IntKind.u64.wrap
                          (bits BinOp.and IntKind.u64 n1 (4294967295 : Int) * bits BinOp.and IntKind.u64 n2 (4294967295 : Int))).fdiv
                      (4294967296 : Int)))
                (4294967295 : Int) +
              IntKind.u64.wrap (bits BinOp.and IntKind.u64 n1 (4294967295 : Int) * n2.fdiv (4294967296 : Int)))).fdiv
        (4294967296 : Int)),
  IntKind.u64.wrap (n1 * n2))
noncomputable def F60 : CF tC := mkF tC S60 (fun a => some ((f60 a.1 a.2.1).1, (f60 a.1 a.2.1).2, ()))
def h60 (r : Int × Int) : Option (altTy tE S60.outs) := some (r.1, r.2, ())
theorem f60_run : ∀ a, fnS tC G60 (look []) Try.f60 S60 a = (fun a => some ((f60 a.1 a.2.1).1, (f60 a.1 a.2.1).2, ())) a := fun a => by
  have key : ∀ (n1 : Int) (n2 : Int), (h60
  (IntKind.u64.wrap
      (IntKind.u64.wrap
          (IntKind.u64.wrap (n1.fdiv (4294967296 : Int) * n2.fdiv (4294967296 : Int)) +
            (IntKind.u64.wrap
                  (IntKind.u64.wrap (n1.fdiv (4294967296 : Int) * bits BinOp.and IntKind.u64 n2 (4294967295 : Int)) +
                    (IntKind.u64.wrap
                          (bits BinOp.and IntKind.u64 n1 (4294967295 : Int) * bits BinOp.and IntKind.u64 n2 (4294967295 : Int))).fdiv
                      (4294967296 : Int))).fdiv
              (4294967296 : Int)) +
        (IntKind.u64.wrap
              (bits BinOp.and IntKind.u64
                  (IntKind.u64.wrap
                    (IntKind.u64.wrap (n1.fdiv (4294967296 : Int) * bits BinOp.and IntKind.u64 n2 (4294967295 : Int)) +
                      (IntKind.u64.wrap
                            (bits BinOp.and IntKind.u64 n1 (4294967295 : Int) * bits BinOp.and IntKind.u64 n2 (4294967295 : Int))).fdiv
                        (4294967296 : Int)))
                  (4294967295 : Int) +
                IntKind.u64.wrap (bits BinOp.and IntKind.u64 n1 (4294967295 : Int) * n2.fdiv (4294967296 : Int)))).fdiv
          (4294967296 : Int)),
    IntKind.u64.wrap (n1 * n2))) = h60 (f60 n1 n2) := by
    intros
    unfold f60
    repeat' first | rfl | refine cond_h (g := h60) ?_ ?_
  exact Eq.trans (by kernel_rfl) (key a.1 a.2.1)
theorem F60_ok : CFOK tC 60 F60 := mkF_ok Y60 (fn := Try.f60) (body := bodyOf Try.f60) (by kernel_rfl) (by kernel_rfl) (by kernel_rfl) (m := 0) rfl (lam_le lam_nil) f60_run

/-! bits.Mul -/
noncomputable def G58 : FuncId → Option (CF tC) := look [(60, F60)]
theorem Y58 : SysN tC G58 := (sys_cons F60_ok (mkF_nat _ _) (sys_nil tC_ok tC_eq))
def S58 : FS := ⟨[[.v], [.v]], [⟨[.one (.one (.int .u64)), .one (.one (.int .u64))], []⟩], [⟨[.tup [.one (.int .u64), .one (.int .u64)]], []⟩], [[.v], [.v]], []⟩
def f58 (n1 : Int) (n2 : Int) : Int × Int :=
  ((f60 n1 n2).fst, (f60 n1 n2).snd)
noncomputable def F58 : CF tC := mkF tC S58 (fun a => some ((f58 a.1 a.2.1).1, (f58 a.1 a.2.1).2, ()))
def h58 (r : Int × Int) : Option (altTy tE S58.outs) := some (r.1, r.2, ())
theorem f58_run : ∀ a, fnS tC G58 (look []) Try.f58 S58 a = (fun a => some ((f58 a.1 a.2.1).1, (f58 a.1 a.2.1).2, ())) a := fun a => by
  have key : ∀ (n1 : Int) (n2 : Int), (h58 ((f60 n1 n2).fst, (f60 n1 n2).snd)) = h58 (f58 n1 n2) := by
    intros
    unfold f58
    repeat' first | rfl | refine cond_h (g := h58) ?_ ?_
  exact Eq.trans (by kernel_rfl) (key a.1 a.2.1)
theorem F58_ok : CFOK tC 58 F58 := mkF_ok Y58 (fn := Try.f58) (body := bodyOf Try.f58) (by kernel_rfl) (by kernel_rfl) (by kernel_rfl) (m := 0) rfl (lam_le lam_nil) f58_run

/-! slices.Repeat -/
noncomputable def G51 : FuncId → Option (CF tC) := look [(58, F58)]
theorem Y51 : SysN tC G51 := (sys_cons F58_ok (mkF_nat _ _) (sys_nil tC_ok tC_eq))
noncomputable def c51_0 : Code := loopOf (bodyOf Try.f51) 0
def p51_0 : LS := ⟨0, [7, 8], ⟨vBs 7 ++ [.one (.one (.sl 0)), vI] ++ vBs 39, [.arr 3]⟩, [⟨.exit 0, [7], ⟨vBs 7 ++ [.one (.one (.sl 0))] ++ vBs 40, [.arr 3]⟩, []⟩], []⟩
noncomputable def r51_0 (x : Nat × Int × List Int × Unit) : Option (Nat × Int × List Int × Unit ⊕ Nat × List Int × Unit) :=
  bif decide (x.snd.fst < (↑x.fst : Int)) then
  bif
      decide ((0 : Int) ≤ x.snd.fst) && decide (x.snd.fst ≤ (↑x.fst : Int)) && decide ((↑x.fst : Int) ≤ (↑x.fst : Int)) &&
        decide ((↑x.fst : Int) ≤ (↑x.fst : Int)) then
    bif true && decide ((0 : Int) ≤ x.snd.fst) && decide (x.snd.fst ≤ (↑x.fst : Int)) && decide ((↑x.fst : Int) ≤ (↑x.fst : Int)) then
      bif decide ((0 : Nat) + x.snd.fst.toNat + ((↑x.fst : Int).toNat - x.snd.fst.toNat) ≤ x.snd.snd.fst.length) then
        bif decide ((0 : Nat) + (x.snd.fst.toNat - (0 : Nat)) ≤ x.snd.snd.fst.length) then
          some
            (Sum.inl
              (x.fst,
                IntKind.i64.wrap
                  (x.snd.fst +
                    (↑(min (List.take (x.snd.fst.toNat - (0 : Nat)) (List.drop (0 : Nat) x.snd.snd.fst)).length
                          ((↑x.fst : Int).toNat - x.snd.fst.toNat)) :
                      Int)),
                List.take ((0 : Nat) + x.snd.fst.toNat) x.snd.snd.fst ++
                  (List.take
                      (min (List.take (x.snd.fst.toNat - (0 : Nat)) (List.drop (0 : Nat) x.snd.snd.fst)).length
                        ((↑x.fst : Int).toNat - x.snd.fst.toNat))
                      (List.take (x.snd.fst.toNat - (0 : Nat)) (List.drop (0 : Nat) x.snd.snd.fst)) ++
                    List.drop
                      ((0 : Nat) + x.snd.fst.toNat +
                        min (List.take (x.snd.fst.toNat - (0 : Nat)) (List.drop (0 : Nat) x.snd.snd.fst)).length
                          ((↑x.fst : Int).toNat - x.snd.fst.toNat))
                      x.snd.snd.fst),
                ()))
        else none
      else none
    else none
  else none
else some (Sum.inr (x.fst, x.snd.snd.fst, ()))
theorem r51_0_run0 (v0 : Nat) (v1 : Int) (v2 : List Int) : roundK tC G51 (look []) c51_0 p51_0 (v0, v1, v2, ()) = r51_0 (v0, v1, v2, ()) := by kernel_rfl
theorem r51_0_run (x : Nat × Int × List Int × Unit) : roundK tC G51 (look []) c51_0 p51_0 x = r51_0 x := r51_0_run0 x.1 x.2.1 x.2.2.1
noncomputable def l51_0 (x : Nat × Int × List Int × Unit) : Option (Nat × List Int × Unit) := iterO r51_0 x
noncomputable def W51_0 : LF tC := loopW tC p51_0 0 l51_0
theorem W51_0_ok : keyed 0 (bodyOf Try.f51) = [.block 0 (.loop c51_0)] ∧ ∀ n, n ≤ 0 → Snd tC n (.block 0 (.loop c51_0)) W51_0.k := ⟨by kernel_rfl, fun n hn => loopW_ok (p := p51_0) (id := 0) Y51 (lam_le lam_nil n hn) hn r51_0_run⟩
def S51 : FS := ⟨[[.s 3], [.v]], [⟨[.one (.one (.imm 3)), vI], []⟩], [⟨[.one (.one (.sl 0))], [.arr 3]⟩], [[.v]], [(4, 3)]⟩
noncomputable def f51 (x : List Int × Int × Unit) : Option (Nat × List Int × Unit) :=
  bif decide (x.snd.fst < (0 : Int)) then none
else
  bif decide ((f58 (IntKind.u64.wrap (↑x.fst.length : Int)) (IntKind.u64.wrap x.snd.fst)).fst > (0 : Int)) then none
  else
    bif decide ((f58 (IntKind.u64.wrap (↑x.fst.length : Int)) (IntKind.u64.wrap x.snd.fst)).snd > (9223372036854775807 : Int)) then none
    else
      bif
          decide ((0 : Int) ≤ IntKind.i64.wrap (f58 (IntKind.u64.wrap (↑x.fst.length : Int)) (IntKind.u64.wrap x.snd.fst)).snd) &&
                decide
                  (IntKind.i64.wrap (f58 (IntKind.u64.wrap (↑x.fst.length : Int)) (IntKind.u64.wrap x.snd.fst)).snd ≤
                    IntKind.i64.wrap (f58 (IntKind.u64.wrap (↑x.fst.length : Int)) (IntKind.u64.wrap x.snd.fst)).snd) &&
              decide
                (IntKind.i64.wrap (f58 (IntKind.u64.wrap (↑x.fst.length : Int)) (IntKind.u64.wrap x.snd.fst)).snd * (8 : Int) ≤
                  (140737488355328 : Int)) &&
            decide
              (IntKind.i64.wrap (f58 (IntKind.u64.wrap (↑x.fst.length : Int)) (IntKind.u64.wrap x.snd.fst)).snd ≤
                (140737488355328 : Int)) then
        bif
            decide
              ((0 : Nat) + (IntKind.i64.wrap (f58 (IntKind.u64.wrap (↑x.fst.length : Int)) (IntKind.u64.wrap x.snd.fst)).snd).toNat ≤
                (List.replicate (IntKind.i64.wrap (f58 (IntKind.u64.wrap (↑x.fst.length : Int)) (IntKind.u64.wrap x.snd.fst)).snd).toNat
                    (0 : Int)).length) then
          (l51_0
                ((IntKind.i64.wrap (f58 (IntKind.u64.wrap (↑x.fst.length : Int)) (IntKind.u64.wrap x.snd.fst)).snd).toNat,
                  (↑(min x.fst.length
                        (IntKind.i64.wrap (f58 (IntKind.u64.wrap (↑x.fst.length : Int)) (IntKind.u64.wrap x.snd.fst)).snd).toNat) :
                    Int),
                  [] ++
                    (List.take
                        (min x.fst.length
                          (IntKind.i64.wrap (f58 (IntKind.u64.wrap (↑x.fst.length : Int)) (IntKind.u64.wrap x.snd.fst)).snd).toNat)
                        x.fst ++
                      List.drop
                        ((0 : Nat) +
                          min x.fst.length
                            (IntKind.i64.wrap (f58 (IntKind.u64.wrap (↑x.fst.length : Int)) (IntKind.u64.wrap x.snd.fst)).snd).toNat)
                        (List.replicate
                          (IntKind.i64.wrap (f58 (IntKind.u64.wrap (↑x.fst.length : Int)) (IntKind.u64.wrap x.snd.fst)).snd).toNat
                          (0 : Int))),
                  ())).bind
            fun y12 => some (y12.fst, y12.snd.fst, ())
        else none
      else none
noncomputable def F51 : CF tC := mkF tC S51 f51
theorem f51_run : ∀ a, fnS tC G51 (look [(0, W51_0)]) Try.f51 S51 a = f51 a := fun a => by kernel_rfl
theorem F51_ok : CFOK tC 51 F51 := mkF_ok Y51 (fn := Try.f51) (body := bodyOf Try.f51) (by kernel_rfl) (by kernel_rfl) (by kernel_rfl) (m := 0) rfl (lam_le (lam_cons W51_0_ok lam_nil)) f51_run

/-! push -/
noncomputable def G53 : FuncId → Option (CF tC) := look []
theorem Y53 : SysN tC G53 := (sys_nil tC_ok tC_eq)
noncomputable def c53_0 : Code := loopOf (bodyOf Try.f53) 0
def p53_0 : LS := ⟨2, [0, 4, 5], ⟨[.one (.one (.ptr 1 0 0)), vB, vB, vB, .one (.one (.sl 2)), vI] ++ vBs 50, [.gone, .box [.sl 0], .arr 72]⟩, [⟨.exit 0, [0, 4], ⟨[.one (.one (.ptr 1 0 0)), vB, vB, vB, .one (.one (.sl 2))] ++ vBs 51, [.gone, .box [.sl 0], .arr 72]⟩, []⟩], []⟩
noncomputable def r53_0 (x : Nat × Int × Nat × List Vs × Unit) : Option (Nat × Int × Nat × List Vs × Unit ⊕ Nat × Nat × List Vs × Unit) :=
  bif decide (x.snd.fst > (0 : Int)) then
  bif
      decide ((0 : Int) ≤ IntKind.i64.wrap ((IntKind.i64.wrap (x.snd.fst - (1 : Int))).tdiv (2 : Int))) &&
        decide (IntKind.i64.wrap ((IntKind.i64.wrap (x.snd.fst - (1 : Int))).tdiv (2 : Int)) < (↑x.fst : Int)) then
    x.snd.snd.snd.fst[(0 : Nat) + (IntKind.i64.wrap ((IntKind.i64.wrap (x.snd.fst - (1 : Int))).tdiv (2 : Int))).toNat]?.bind fun y24 =>
      bif decide ((0 : Int) ≤ x.snd.fst) && decide (x.snd.fst < (↑x.fst : Int)) then
        x.snd.snd.snd.fst[(0 : Nat) + x.snd.fst.toNat]?.bind fun y23 =>
          bif decide (y24.N > y23.N) then
            bif
                decide ((0 : Int) ≤ IntKind.i64.wrap ((IntKind.i64.wrap (x.snd.fst - (1 : Int))).tdiv (2 : Int))) &&
                  decide (IntKind.i64.wrap ((IntKind.i64.wrap (x.snd.fst - (1 : Int))).tdiv (2 : Int)) < (↑x.fst : Int)) then
              x.snd.snd.snd.fst[(0 : Nat) + (IntKind.i64.wrap ((IntKind.i64.wrap (x.snd.fst - (1 : Int))).tdiv (2 : Int))).toNat]?.bind
                fun y22 =>
                bif decide ((0 : Int) ≤ x.snd.fst) && decide (x.snd.fst < (↑x.fst : Int)) then
                  x.snd.snd.snd.fst[(0 : Nat) + x.snd.fst.toNat]?.bind fun y21 =>
                    bif decide ((0 : Int) ≤ x.snd.fst) && decide (x.snd.fst < (↑x.fst : Int)) then
                      x.snd.snd.snd.fst[(0 : Nat) + x.snd.fst.toNat]?.bind fun _x =>
                        bif
                            decide ((0 : Int) ≤ IntKind.i64.wrap ((IntKind.i64.wrap (x.snd.fst - (1 : Int))).tdiv (2 : Int))) &&
                              decide (IntKind.i64.wrap ((IntKind.i64.wrap (x.snd.fst - (1 : Int))).tdiv (2 : Int)) < (↑x.fst : Int)) then
                          (x.snd.snd.snd.fst.set ((0 : Nat) + x.snd.fst.toNat)
                                  (Vs.mk y22.X y22.Y
                                    y22.N))[(0 : Nat) +
                                  (IntKind.i64.wrap ((IntKind.i64.wrap (x.snd.fst - (1 : Int))).tdiv (2 : Int))).toNat]?.bind
                            fun _x =>
                            some
                              (Sum.inl
                                (x.fst, IntKind.i64.wrap ((IntKind.i64.wrap (x.snd.fst - (1 : Int))).tdiv (2 : Int)), x.snd.snd.fst,
                                  (x.snd.snd.snd.fst.set ((0 : Nat) + x.snd.fst.toNat) (Vs.mk y22.X y22.Y y22.N)).set
                                    ((0 : Nat) + (IntKind.i64.wrap ((IntKind.i64.wrap (x.snd.fst - (1 : Int))).tdiv (2 : Int))).toNat)
                                    (Vs.mk y21.X y21.Y y21.N),
                                  ()))
                        else none
                    else none
                else none
            else none
          else some (Sum.inr (x.fst, x.snd.snd.fst, x.snd.snd.snd.fst, ()))
      else none
  else none
else some (Sum.inr (x.fst, x.snd.snd.fst, x.snd.snd.snd.fst, ()))
theorem r53_0_run0 (v0 : Nat) (v1 : Int) (v2 : Nat) (v3 : List Vs) : roundK tC G53 (look []) c53_0 p53_0 (v0, v1, v2, v3, ()) = r53_0 (v0, v1, v2, v3, ()) := by kernel_rfl
theorem r53_0_run (x : Nat × Int × Nat × List Vs × Unit) : roundK tC G53 (look []) c53_0 p53_0 x = r53_0 x := r53_0_run0 x.1 x.2.1 x.2.2.1 x.2.2.2.1
noncomputable def l53_0 (x : Nat × Int × Nat × List Vs × Unit) : Option (Nat × Nat × List Vs × Unit) := iterO r53_0 x
noncomputable def W53_0 : LF tC := loopW tC p53_0 0 l53_0
theorem W53_0_ok : keyed 0 (bodyOf Try.f53) = [.block 0 (.loop c53_0)] ∧ ∀ n, n ≤ 2 → Snd tC n (.block 0 (.loop c53_0)) W53_0.k := ⟨by kernel_rfl, fun n hn => loopW_ok (p := p53_0) (id := 0) Y53 (lam_le lam_nil n hn) hn r53_0_run⟩
def S53 : FS := ⟨[[.p], [.v, .v, .v]], [⟨[.one (.one (.ptr 1 0 0)), .one (.agg [.int .i64, .int .i64, .int .i64])], [.arr 72, .box [.sl 0]]⟩], [⟨[.tup []], [.gone, .box [.sl 2], .arr 72]⟩], [], []⟩
noncomputable def f53 (x : Int × Int × Int × List Vs × Nat × Unit) : Option (Nat × List Vs × Unit) :=
  bif decide ((0 : Nat) + x.snd.snd.snd.snd.fst ≤ x.snd.snd.snd.fst.length) then
  bif roomy (x.snd.snd.snd.snd.fst + (1 : Nat)) (24 : Nat) then
    (l53_0
          (x.snd.snd.snd.snd.fst + (1 : Nat), IntKind.i64.wrap ((↑(x.snd.snd.snd.snd.fst + (1 : Nat)) : Int) - (1 : Int)),
            x.snd.snd.snd.snd.fst,
            List.take x.snd.snd.snd.snd.fst (List.drop (0 : Nat) x.snd.snd.snd.fst) ++ [Vs.mk x.fst x.snd.fst x.snd.snd.fst], ())).bind
      fun y30 => some (y30.fst, y30.snd.snd.fst, ())
  else none
else none
noncomputable def F53 : CF tC := mkF tC S53 f53
theorem f53_run : ∀ a, fnS tC G53 (look [(0, W53_0)]) Try.f53 S53 a = f53 a := fun a => by kernel_rfl
theorem F53_ok : CFOK tC 53 F53 := mkF_ok Y53 (fn := Try.f53) (body := bodyOf Try.f53) (by kernel_rfl) (by kernel_rfl) (by kernel_rfl) (m := 2) rfl (lam_le (lam_cons W53_0_ok lam_nil)) f53_run

/-! pop -/
noncomputable def G52 : FuncId → Option (CF tC) := look []
theorem Y52 : SysN tC G52 := (sys_nil tC_ok tC_eq)
noncomputable def c52_37 : Code := subCode (loopOf (loopOf (bodyOf Try.f52) 0) 2) 37
def p52_37 : PS := ⟨2, [0, 2, 3, 4, 5, 6, 35, 36], ⟨[.one (.one (.ptr 1 0 0)), vB, .one (.one (.ptr 2 0 0)), .one (.one (.sl 0)), .one (.one (.ptr 3 0 0)), vI, vI] ++ vBs 28 ++ [.one (.agg [.int .i64, .int .i64]), vI] ++ vBs 43, [.arr 72, .box [.sl 0], .box [.int .i64, .int .i64, .int .i64], .box [.int .i64, .int .i64, .int .i64]]⟩, [⟨.normal, [0, 2, 3, 4, 5, 6, 35, 36], ⟨[.one (.one (.ptr 1 0 0)), vB, .one (.one (.ptr 2 0 0)), .one (.one (.sl 0)), .one (.one (.ptr 3 0 0)), vI, vI] ++ vBs 28 ++ [.one (.agg [.int .i64, .int .i64]), vI] ++ vBs 43, [.arr 72, .box [.sl 0], .box [.int .i64, .int .i64, .int .i64], .box [.int .i64, .int .i64, .int .i64]]⟩, []⟩], []⟩
noncomputable def j52_37 (x : Nat × Int × Int × Int × Int × Int × List Vs × Nat × Int × Int × Int × Int × Int × Int × Unit) : Option (Nat × Int × Int × Int × Int × Int × List Vs × Nat × Int × Int × Int × Int × Int × Int × Unit) :=
  some
  (x.fst, x.snd.fst, x.snd.snd.fst, x.snd.snd.snd.fst, x.snd.snd.snd.snd.fst, IntKind.i64.wrap (x.snd.snd.snd.snd.snd.fst + (1 : Int)),
    x.snd.snd.snd.snd.snd.snd.fst, x.snd.snd.snd.snd.snd.snd.snd.fst, x.snd.snd.snd.snd.snd.snd.snd.snd.fst,
    x.snd.snd.snd.snd.snd.snd.snd.snd.snd.fst, x.snd.snd.snd.snd.snd.snd.snd.snd.snd.snd.fst,
    x.snd.snd.snd.snd.snd.snd.snd.snd.snd.snd.snd.fst, x.snd.snd.snd.snd.snd.snd.snd.snd.snd.snd.snd.snd.fst,
    x.snd.snd.snd.snd.snd.snd.snd.snd.snd.snd.snd.snd.snd.fst, ())
theorem j52_37_run0 (v0 : Nat) (v1 : Int) (v2 : Int) (v3 : Int) (v4 : Int) (v5 : Int) (v6 : List Vs) (v7 : Nat) (v8 : Int) (v9 : Int) (v10 : Int) (v11 : Int) (v12 : Int) (v13 : Int) : pieceK tC G52 (look []) c52_37 p52_37 (v0, v1, v2, v3, v4, v5, v6, v7, v8, v9, v10, v11, v12, v13, ()) = j52_37 (v0, v1, v2, v3, v4, v5, v6, v7, v8, v9, v10, v11, v12, v13, ()) := by kernel_rfl
theorem j52_37_run (x : Nat × Int × Int × Int × Int × Int × List Vs × Nat × Int × Int × Int × Int × Int × Int × Unit) : pieceK tC G52 (look []) c52_37 p52_37 x = j52_37 x := j52_37_run0 x.1 x.2.1 x.2.2.1 x.2.2.2.1 x.2.2.2.2.1 x.2.2.2.2.2.1 x.2.2.2.2.2.2.1 x.2.2.2.2.2.2.2.1 x.2.2.2.2.2.2.2.2.1 x.2.2.2.2.2.2.2.2.2.1 x.2.2.2.2.2.2.2.2.2.2.1 x.2.2.2.2.2.2.2.2.2.2.2.1 x.2.2.2.2.2.2.2.2.2.2.2.2.1 x.2.2.2.2.2.2.2.2.2.2.2.2.2.1
noncomputable def W52_37 : LF tC := cutLF tC p52_37 j52_37
theorem W52_37_ok : keyed 37 (loopOf (loopOf (bodyOf Try.f52) 0) 2) = [c52_37] ∧ ∀ n, n ≤ 2 → Snd tC n c52_37 W52_37.k := ⟨by kernel_rfl, fun n hn => cut_ok (p := p52_37) Y52 (lam_le lam_nil n hn) hn j52_37_run⟩
noncomputable def c52_6 : Code := loopOf (loopOf (bodyOf Try.f52) 0) 2
def p52_6 : LS := ⟨2, [0, 2, 3, 4, 5, 6, 35, 36], ⟨[.one (.one (.ptr 1 0 0)), vB, .one (.one (.ptr 2 0 0)), .one (.one (.sl 0)), .one (.one (.ptr 3 0 0)), vI, vI] ++ vBs 28 ++ [.one (.agg [.int .i64, .int .i64]), vI] ++ vBs 43, [.arr 72, .box [.sl 0], .box [.int .i64, .int .i64, .int .i64], .box [.int .i64, .int .i64, .int .i64]]⟩, [⟨.exit 2, [0, 2, 3, 4, 5, 6], ⟨[.one (.one (.ptr 1 0 0)), vB, .one (.one (.ptr 2 0 0)), .one (.one (.sl 0)), .one (.one (.ptr 3 0 0)), vI, vI] ++ vBs 73, [.arr 72, .box [.sl 0], .box [.int .i64, .int .i64, .int .i64], .box [.int .i64, .int .i64, .int .i64]]⟩, []⟩], []⟩
noncomputable def r52_6 (x : Nat × Int × Int × Int × Int × Int × List Vs × Nat × Int × Int × Int × Int × Int × Int × Unit) : Option
  (Nat × Int × Int × Int × Int × Int × List Vs × Nat × Int × Int × Int × Int × Int × Int × Unit ⊕
    Nat × Int × Int × List Vs × Nat × Int × Int × Int × Int × Int × Int × Unit) :=
  bif decide (x.snd.snd.snd.snd.snd.fst < (2 : Int)) then
  bif decide ((0 : Int) ≤ x.snd.snd.snd.snd.snd.fst) && decide (x.snd.snd.snd.snd.snd.fst < (2 : Int)) then
    (idxO [x.snd.snd.snd.fst, x.snd.snd.snd.snd.fst] x.snd.snd.snd.snd.snd.fst).bind fun y119 =>
      bif decide (y119 < (↑x.fst : Int)) then
        bif decide ((0 : Int) ≤ y119) && decide (y119 < (↑x.fst : Int)) then
          x.snd.snd.snd.snd.snd.snd.fst[(0 : Nat) + y119.toNat]?.bind fun y117 =>
            bif decide ((0 : Int) ≤ x.snd.snd.fst) && decide (x.snd.snd.fst < (↑x.fst : Int)) then
              x.snd.snd.snd.snd.snd.snd.fst[(0 : Nat) + x.snd.snd.fst.toNat]?.bind fun y116 =>
                bif decide (y117.N < y116.N) then
                  (j52_37
                        (x.fst, x.snd.fst, y119, x.snd.snd.snd.fst, x.snd.snd.snd.snd.fst, x.snd.snd.snd.snd.snd.fst,
                          x.snd.snd.snd.snd.snd.snd.fst, x.snd.snd.snd.snd.snd.snd.snd.fst, x.snd.snd.snd.snd.snd.snd.snd.snd.fst,
                          x.snd.snd.snd.snd.snd.snd.snd.snd.snd.fst, x.snd.snd.snd.snd.snd.snd.snd.snd.snd.snd.fst,
                          x.snd.snd.snd.snd.snd.snd.snd.snd.snd.snd.snd.fst, x.snd.snd.snd.snd.snd.snd.snd.snd.snd.snd.snd.snd.fst,
                          x.snd.snd.snd.snd.snd.snd.snd.snd.snd.snd.snd.snd.snd.fst, ())).bind
                    fun y114 =>
                    some
                      (Sum.inl
                        (y114.fst, y114.snd.fst, y114.snd.snd.fst, y114.snd.snd.snd.fst, y114.snd.snd.snd.snd.fst,
                          y114.snd.snd.snd.snd.snd.fst, y114.snd.snd.snd.snd.snd.snd.fst, y114.snd.snd.snd.snd.snd.snd.snd.fst,
                          y114.snd.snd.snd.snd.snd.snd.snd.snd.fst, y114.snd.snd.snd.snd.snd.snd.snd.snd.snd.fst,
                          y114.snd.snd.snd.snd.snd.snd.snd.snd.snd.snd.fst, y114.snd.snd.snd.snd.snd.snd.snd.snd.snd.snd.snd.fst,
                          y114.snd.snd.snd.snd.snd.snd.snd.snd.snd.snd.snd.snd.fst,
                          y114.snd.snd.snd.snd.snd.snd.snd.snd.snd.snd.snd.snd.snd.fst, ()))
                else
                  (j52_37
                        (x.fst, x.snd.fst, x.snd.snd.fst, x.snd.snd.snd.fst, x.snd.snd.snd.snd.fst, x.snd.snd.snd.snd.snd.fst,
                          x.snd.snd.snd.snd.snd.snd.fst, x.snd.snd.snd.snd.snd.snd.snd.fst, x.snd.snd.snd.snd.snd.snd.snd.snd.fst,
                          x.snd.snd.snd.snd.snd.snd.snd.snd.snd.fst, x.snd.snd.snd.snd.snd.snd.snd.snd.snd.snd.fst,
                          x.snd.snd.snd.snd.snd.snd.snd.snd.snd.snd.snd.fst, x.snd.snd.snd.snd.snd.snd.snd.snd.snd.snd.snd.snd.fst,
                          x.snd.snd.snd.snd.snd.snd.snd.snd.snd.snd.snd.snd.snd.fst, ())).bind
                    fun y115 =>
                    some
                      (Sum.inl
                        (y115.fst, y115.snd.fst, y115.snd.snd.fst, y115.snd.snd.snd.fst, y115.snd.snd.snd.snd.fst,
                          y115.snd.snd.snd.snd.snd.fst, y115.snd.snd.snd.snd.snd.snd.fst, y115.snd.snd.snd.snd.snd.snd.snd.fst,
                          y115.snd.snd.snd.snd.snd.snd.snd.snd.fst, y115.snd.snd.snd.snd.snd.snd.snd.snd.snd.fst,
                          y115.snd.snd.snd.snd.snd.snd.snd.snd.snd.snd.fst, y115.snd.snd.snd.snd.snd.snd.snd.snd.snd.snd.snd.fst,
                          y115.snd.snd.snd.snd.snd.snd.snd.snd.snd.snd.snd.snd.fst,
                          y115.snd.snd.snd.snd.snd.snd.snd.snd.snd.snd.snd.snd.snd.fst, ()))
            else none
        else none
      else
        (j52_37
              (x.fst, x.snd.fst, x.snd.snd.fst, x.snd.snd.snd.fst, x.snd.snd.snd.snd.fst, x.snd.snd.snd.snd.snd.fst,
                x.snd.snd.snd.snd.snd.snd.fst, x.snd.snd.snd.snd.snd.snd.snd.fst, x.snd.snd.snd.snd.snd.snd.snd.snd.fst,
                x.snd.snd.snd.snd.snd.snd.snd.snd.snd.fst, x.snd.snd.snd.snd.snd.snd.snd.snd.snd.snd.fst,
                x.snd.snd.snd.snd.snd.snd.snd.snd.snd.snd.snd.fst, x.snd.snd.snd.snd.snd.snd.snd.snd.snd.snd.snd.snd.fst,
                x.snd.snd.snd.snd.snd.snd.snd.snd.snd.snd.snd.snd.snd.fst, ())).bind
          fun y118 =>
          some
            (Sum.inl
              (y118.fst, y118.snd.fst, y118.snd.snd.fst, y118.snd.snd.snd.fst, y118.snd.snd.snd.snd.fst, y118.snd.snd.snd.snd.snd.fst,
                y118.snd.snd.snd.snd.snd.snd.fst, y118.snd.snd.snd.snd.snd.snd.snd.fst, y118.snd.snd.snd.snd.snd.snd.snd.snd.fst,
                y118.snd.snd.snd.snd.snd.snd.snd.snd.snd.fst, y118.snd.snd.snd.snd.snd.snd.snd.snd.snd.snd.fst,
                y118.snd.snd.snd.snd.snd.snd.snd.snd.snd.snd.snd.fst, y118.snd.snd.snd.snd.snd.snd.snd.snd.snd.snd.snd.snd.fst,
                y118.snd.snd.snd.snd.snd.snd.snd.snd.snd.snd.snd.snd.snd.fst, ()))
  else none
else
  some
    (Sum.inr
      (x.fst, x.snd.fst, x.snd.snd.fst, x.snd.snd.snd.snd.snd.snd.fst, x.snd.snd.snd.snd.snd.snd.snd.fst,
        x.snd.snd.snd.snd.snd.snd.snd.snd.fst, x.snd.snd.snd.snd.snd.snd.snd.snd.snd.fst, x.snd.snd.snd.snd.snd.snd.snd.snd.snd.snd.fst,
        x.snd.snd.snd.snd.snd.snd.snd.snd.snd.snd.snd.fst, x.snd.snd.snd.snd.snd.snd.snd.snd.snd.snd.snd.snd.fst,
        x.snd.snd.snd.snd.snd.snd.snd.snd.snd.snd.snd.snd.snd.fst, ()))
theorem r52_6_run0 (v0 : Nat) (v1 : Int) (v2 : Int) (v3 : Int) (v4 : Int) (v5 : Int) (v6 : List Vs) (v7 : Nat) (v8 : Int) (v9 : Int) (v10 : Int) (v11 : Int) (v12 : Int) (v13 : Int) : roundK tC G52 (look [(37, W52_37)]) c52_6 p52_6 (v0, v1, v2, v3, v4, v5, v6, v7, v8, v9, v10, v11, v12, v13, ()) = r52_6 (v0, v1, v2, v3, v4, v5, v6, v7, v8, v9, v10, v11, v12, v13, ()) := by kernel_rfl
theorem r52_6_run (x : Nat × Int × Int × Int × Int × Int × List Vs × Nat × Int × Int × Int × Int × Int × Int × Unit) : roundK tC G52 (look [(37, W52_37)]) c52_6 p52_6 x = r52_6 x := r52_6_run0 x.1 x.2.1 x.2.2.1 x.2.2.2.1 x.2.2.2.2.1 x.2.2.2.2.2.1 x.2.2.2.2.2.2.1 x.2.2.2.2.2.2.2.1 x.2.2.2.2.2.2.2.2.1 x.2.2.2.2.2.2.2.2.2.1 x.2.2.2.2.2.2.2.2.2.2.1 x.2.2.2.2.2.2.2.2.2.2.2.1 x.2.2.2.2.2.2.2.2.2.2.2.2.1 x.2.2.2.2.2.2.2.2.2.2.2.2.2.1
noncomputable def l52_6 (x : Nat × Int × Int × Int × Int × Int × List Vs × Nat × Int × Int × Int × Int × Int × Int × Unit) : Option (Nat × Int × Int × List Vs × Nat × Int × Int × Int × Int × Int × Int × Unit) := iterO r52_6 x
noncomputable def W52_6 : LF tC := loopW tC p52_6 2 l52_6
theorem W52_6_ok : keyed 6 (loopOf (bodyOf Try.f52) 0) = [.block 2 (.loop c52_6)] ∧ ∀ n, n ≤ 2 → Snd tC n (.block 2 (.loop c52_6)) W52_6.k := ⟨by kernel_rfl, fun n hn => loopW_ok (p := p52_6) (id := 2) Y52 (lam_le (lam_cons W52_37_ok lam_nil) n hn) hn r52_6_run⟩
noncomputable def c52_0 : Code := loopOf (bodyOf Try.f52) 0
def p52_0 : LS := ⟨2, [0, 2, 3, 4, 5], ⟨[.one (.one (.ptr 1 0 0)), vB, .one (.one (.ptr 2 0 0)), .one (.one (.sl 0)), .one (.one (.ptr 3 0 0)), vI] ++ vBs 74, [.arr 72, .box [.sl 0], .box [.int .i64, .int .i64, .int .i64], .box [.int .i64, .int .i64, .int .i64]]⟩, [⟨.exit 0, [0, 2, 3, 4], ⟨[.one (.one (.ptr 1 0 0)), vB, .one (.one (.ptr 2 0 0)), .one (.one (.sl 0)), .one (.one (.ptr 3 0 0))] ++ vBs 75, [.arr 72, .box [.sl 0], .box [.int .i64, .int .i64, .int .i64], .box [.int .i64, .int .i64, .int .i64]]⟩, []⟩], []⟩
noncomputable def r52_0 (x : Nat × Int × List Vs × Nat × Int × Int × Int × Int × Int × Int × Unit) : Option
  (Nat × Int × List Vs × Nat × Int × Int × Int × Int × Int × Int × Unit ⊕ Nat × List Vs × Nat × Int × Int × Int × Int × Int × Int × Unit) :=
  (l52_6
      (x.fst, x.snd.fst, x.snd.fst, IntKind.i64.wrap (IntKind.i64.wrap ((2 : Int) * x.snd.fst) + (1 : Int)),
        IntKind.i64.wrap (IntKind.i64.wrap ((2 : Int) * x.snd.fst) + (2 : Int)), (0 : Int), x.snd.snd.fst, x.snd.snd.snd.fst,
        x.snd.snd.snd.snd.fst, x.snd.snd.snd.snd.snd.fst, x.snd.snd.snd.snd.snd.snd.fst, x.snd.snd.snd.snd.snd.snd.snd.fst,
        x.snd.snd.snd.snd.snd.snd.snd.snd.fst, x.snd.snd.snd.snd.snd.snd.snd.snd.snd.fst, ())).bind
  fun y148 =>
  bif y148.snd.snd.fst == y148.snd.fst then
    some
      (Sum.inr
        (y148.fst, y148.snd.snd.snd.fst, y148.snd.snd.snd.snd.fst, y148.snd.snd.snd.snd.snd.fst, y148.snd.snd.snd.snd.snd.snd.fst,
          y148.snd.snd.snd.snd.snd.snd.snd.fst, y148.snd.snd.snd.snd.snd.snd.snd.snd.fst, y148.snd.snd.snd.snd.snd.snd.snd.snd.snd.fst,
          y148.snd.snd.snd.snd.snd.snd.snd.snd.snd.snd.fst, ()))
  else
    bif decide ((0 : Int) ≤ y148.snd.snd.fst) && decide (y148.snd.snd.fst < (↑y148.fst : Int)) then
      y148.snd.snd.snd.fst[(0 : Nat) + y148.snd.snd.fst.toNat]?.bind fun y147 =>
        bif decide ((0 : Int) ≤ y148.snd.fst) && decide (y148.snd.fst < (↑y148.fst : Int)) then
          y148.snd.snd.snd.fst[(0 : Nat) + y148.snd.fst.toNat]?.bind fun y146 =>
            bif decide ((0 : Int) ≤ y148.snd.fst) && decide (y148.snd.fst < (↑y148.fst : Int)) then
              y148.snd.snd.snd.fst[(0 : Nat) + y148.snd.fst.toNat]?.bind fun _x =>
                bif decide ((0 : Int) ≤ y148.snd.snd.fst) && decide (y148.snd.snd.fst < (↑y148.fst : Int)) then
                  (y148.snd.snd.snd.fst.set ((0 : Nat) + y148.snd.fst.toNat)
                          (Vs.mk y147.X y147.Y y147.N))[(0 : Nat) + y148.snd.snd.fst.toNat]?.bind
                    fun _x =>
                    some
                      (Sum.inl
                        (y148.fst, y148.snd.snd.fst,
                          (y148.snd.snd.snd.fst.set ((0 : Nat) + y148.snd.fst.toNat) (Vs.mk y147.X y147.Y y147.N)).set
                            ((0 : Nat) + y148.snd.snd.fst.toNat) (Vs.mk y146.X y146.Y y146.N),
                          y148.snd.snd.snd.snd.fst, y148.snd.snd.snd.snd.snd.fst, y148.snd.snd.snd.snd.snd.snd.fst,
                          y148.snd.snd.snd.snd.snd.snd.snd.fst, y148.snd.snd.snd.snd.snd.snd.snd.snd.fst,
                          y148.snd.snd.snd.snd.snd.snd.snd.snd.snd.fst, y148.snd.snd.snd.snd.snd.snd.snd.snd.snd.snd.fst, ()))
                else none
            else none
        else none
    else none
theorem r52_0_run0 (v0 : Nat) (v1 : Int) (v2 : List Vs) (v3 : Nat) (v4 : Int) (v5 : Int) (v6 : Int) (v7 : Int) (v8 : Int) (v9 : Int) : roundK tC G52 (look [(6, W52_6)]) c52_0 p52_0 (v0, v1, v2, v3, v4, v5, v6, v7, v8, v9, ()) = r52_0 (v0, v1, v2, v3, v4, v5, v6, v7, v8, v9, ()) := by kernel_rfl
theorem r52_0_run (x : Nat × Int × List Vs × Nat × Int × Int × Int × Int × Int × Int × Unit) : roundK tC G52 (look [(6, W52_6)]) c52_0 p52_0 x = r52_0 x := r52_0_run0 x.1 x.2.1 x.2.2.1 x.2.2.2.1 x.2.2.2.2.1 x.2.2.2.2.2.1 x.2.2.2.2.2.2.1 x.2.2.2.2.2.2.2.1 x.2.2.2.2.2.2.2.2.1 x.2.2.2.2.2.2.2.2.2.1
noncomputable def l52_0 (x : Nat × Int × List Vs × Nat × Int × Int × Int × Int × Int × Int × Unit) : Option (Nat × List Vs × Nat × Int × Int × Int × Int × Int × Int × Unit) := iterO r52_0 x
noncomputable def W52_0 : LF tC := loopW tC p52_0 0 l52_0
theorem W52_0_ok : keyed 0 (bodyOf Try.f52) = [.block 0 (.loop c52_0)] ∧ ∀ n, n ≤ 2 → Snd tC n (.block 0 (.loop c52_0)) W52_0.k := ⟨by kernel_rfl, fun n hn => loopW_ok (p := p52_0) (id := 0) Y52 (lam_le (lam_cons W52_6_ok lam_nil) n hn) hn r52_0_run⟩
def S52 : FS := ⟨[[.p]], [⟨[.one (.one (.ptr 1 0 0))], [.arr 72, .box [.sl 0]]⟩], [⟨[.one (.agg [.int .i64, .int .i64, .int .i64])], [.arr 72, .box [.sl 0]]⟩], [[.v, .v, .v]], []⟩
noncomputable def f52 (x : List Vs × Nat × Unit) : Option (Int × Int × Int × List Vs × Nat × Unit) :=
  bif true && decide ((0 : Int) < (↑x.snd.fst : Int)) then
  x.fst[(0 : Nat)]?.bind fun y166 =>
    bif
        decide ((0 : Int) ≤ IntKind.i64.wrap ((↑x.snd.fst : Int) - (1 : Int))) &&
          decide (IntKind.i64.wrap ((↑x.snd.fst : Int) - (1 : Int)) < (↑x.snd.fst : Int)) then
      x.fst[(0 : Nat) + (IntKind.i64.wrap ((↑x.snd.fst : Int) - (1 : Int))).toNat]?.bind fun y165 =>
        bif true && decide ((0 : Int) < (↑x.snd.fst : Int)) then
          x.fst[(0 : Nat)]?.bind fun _x =>
            bif
                true && decide ((0 : Int) ≤ IntKind.i64.wrap ((↑x.snd.fst : Int) - (1 : Int))) &&
                    decide (IntKind.i64.wrap ((↑x.snd.fst : Int) - (1 : Int)) ≤ (↑x.snd.fst : Int)) &&
                  decide ((↑x.snd.fst : Int) ≤ (↑x.snd.fst : Int)) then
              (l52_0
                    ((IntKind.i64.wrap ((↑x.snd.fst : Int) - (1 : Int))).toNat - (0 : Nat), (0 : Int),
                      x.fst.set (0 : Nat) (Vs.mk y165.X y165.Y y165.N), x.snd.fst, (0 : Int), (0 : Int), (0 : Int), y166.X, y166.Y, y166.N,
                      ())).bind
                fun y163 =>
                some
                  (y163.snd.snd.snd.snd.snd.snd.fst, y163.snd.snd.snd.snd.snd.snd.snd.fst, y163.snd.snd.snd.snd.snd.snd.snd.snd.fst,
                    y163.snd.fst, y163.fst, ())
            else none
        else none
    else none
else none
noncomputable def F52 : CF tC := mkF tC S52 f52
theorem f52_run : ∀ a, fnS tC G52 (look [(0, W52_0)]) Try.f52 S52 a = f52 a := fun a => by kernel_rfl
theorem F52_ok : CFOK tC 52 F52 := mkF_ok Y52 (fn := Try.f52) (body := bodyOf Try.f52) (by kernel_rfl) (by kernel_rfl) (by kernel_rfl) (m := 2) rfl (lam_le (lam_cons W52_0_ok lam_nil)) f52_run

/-! path.costs -/
noncomputable def G39 : FuncId → Option (CF tC) := look [(51, F51), (52, F52), (53, F53), (41, F41), (42, F42)]
theorem Y39 : SysN tC G39 := (sys_cons F51_ok (mkF_nat _ _) (sys_cons F52_ok (mkF_nat _ _) (sys_cons F53_ok (mkF_nat _ _) (sys_cons F41_ok (mkF_nat _ _) (sys_cons F42_ok (mkF_nat _ _) (sys_nil tC_ok tC_eq))))))
noncomputable def c39_43 : Code := subCode (loopOf (loopOf (bodyOf Try.f39) 0) 2) 43
def p39_43 : PS := ⟨0, [2, 5, 6, 7, 48, 49], ⟨[vB, vB, .one (.one (.ptr 0 0 0)), vB, vB, .one (.one (.sl 1)), .one (.one (.ptr 2 0 0)), .one (.one (.ptr 3 0 0))] ++ vBs 40 ++ [.one (.agg [.lit .i64 1, .lit .i64 0, .lit .i64 1, .lit .i64 1, .lit .i64 0, .lit .i64 1, .lit .i64 (-1), .lit .i64 1, .lit .i64 (-1), .lit .i64 0, .lit .i64 (-1), .lit .i64 (-1), .lit .i64 0, .lit .i64 (-1), .lit .i64 1, .lit .i64 (-1)]), vI] ++ vBs 35, [.box [.int .i64, .int .i64, .imm 5], .arr 3, .box [.sl 4], .box [.int .i64, .int .i64, .int .i64], .arr 72]⟩, [⟨.normal, [2, 5, 6, 7, 48, 49], ⟨[vB, vB, .one (.one (.ptr 0 0 0)), vB, vB, .one (.one (.sl 1)), .one (.one (.ptr 2 0 0)), .one (.one (.ptr 3 0 0))] ++ vBs 40 ++ [.one (.agg [.lit .i64 1, .lit .i64 0, .lit .i64 1, .lit .i64 1, .lit .i64 0, .lit .i64 1, .lit .i64 (-1), .lit .i64 1, .lit .i64 (-1), .lit .i64 0, .lit .i64 (-1), .lit .i64 (-1), .lit .i64 0, .lit .i64 (-1), .lit .i64 1, .lit .i64 (-1)]), vI] ++ vBs 35, [.box [.int .i64, .int .i64, .imm 5], .arr 3, .box [.sl 4], .box [.int .i64, .int .i64, .int .i64], .arr 72]⟩, []⟩], []⟩
noncomputable def j39_43 (x : Nat × Int × Int × Int × List Int × List Int × Nat × Int × Int × Int × List Vs × Unit) : Option (Nat × Int × Int × Int × List Int × List Int × Nat × Int × Int × Int × List Vs × Unit) :=
  some
  (x.fst, IntKind.i64.wrap (x.snd.fst + (1 : Int)), x.snd.snd.fst, x.snd.snd.snd.fst, x.snd.snd.snd.snd.fst, x.snd.snd.snd.snd.snd.fst,
    x.snd.snd.snd.snd.snd.snd.fst, x.snd.snd.snd.snd.snd.snd.snd.fst, x.snd.snd.snd.snd.snd.snd.snd.snd.fst,
    x.snd.snd.snd.snd.snd.snd.snd.snd.snd.fst, x.snd.snd.snd.snd.snd.snd.snd.snd.snd.snd.fst, ())
theorem j39_43_run0 (v0 : Nat) (v1 : Int) (v2 : Int) (v3 : Int) (v4 : List Int) (v5 : List Int) (v6 : Nat) (v7 : Int) (v8 : Int) (v9 : Int) (v10 : List Vs) : pieceK tC G39 (look []) c39_43 p39_43 (v0, v1, v2, v3, v4, v5, v6, v7, v8, v9, v10, ()) = j39_43 (v0, v1, v2, v3, v4, v5, v6, v7, v8, v9, v10, ()) := by kernel_rfl
theorem j39_43_run (x : Nat × Int × Int × Int × List Int × List Int × Nat × Int × Int × Int × List Vs × Unit) : pieceK tC G39 (look []) c39_43 p39_43 x = j39_43 x := j39_43_run0 x.1 x.2.1 x.2.2.1 x.2.2.2.1 x.2.2.2.2.1 x.2.2.2.2.2.1 x.2.2.2.2.2.2.1 x.2.2.2.2.2.2.2.1 x.2.2.2.2.2.2.2.2.1 x.2.2.2.2.2.2.2.2.2.1 x.2.2.2.2.2.2.2.2.2.2.1
noncomputable def W39_43 : LF tC := cutLF tC p39_43 j39_43
theorem W39_43_ok : keyed 43 (loopOf (loopOf (bodyOf Try.f39) 0) 2) = [c39_43] ∧ ∀ n, n ≤ 0 → Snd tC n c39_43 W39_43.k := ⟨by kernel_rfl, fun n hn => cut_ok (p := p39_43) Y39 (lam_le lam_nil n hn) hn j39_43_run⟩
noncomputable def c39_6 : Code := loopOf (loopOf (bodyOf Try.f39) 0) 2
def p39_6 : LS := ⟨0, [2, 5, 6, 7, 48, 49], ⟨[vB, vB, .one (.one (.ptr 0 0 0)), vB, vB, .one (.one (.sl 1)), .one (.one (.ptr 2 0 0)), .one (.one (.ptr 3 0 0))] ++ vBs 40 ++ [.one (.agg [.lit .i64 1, .lit .i64 0, .lit .i64 1, .lit .i64 1, .lit .i64 0, .lit .i64 1, .lit .i64 (-1), .lit .i64 1, .lit .i64 (-1), .lit .i64 0, .lit .i64 (-1), .lit .i64 (-1), .lit .i64 0, .lit .i64 (-1), .lit .i64 1, .lit .i64 (-1)]), vI] ++ vBs 35, [.box [.int .i64, .int .i64, .imm 5], .arr 3, .box [.sl 4], .box [.int .i64, .int .i64, .int .i64], .arr 72]⟩, [⟨.exit 2, [2, 5, 6], ⟨[vB, vB, .one (.one (.ptr 0 0 0)), vB, vB, .one (.one (.sl 1)), .one (.one (.ptr 2 0 0))] ++ vBs 78, [.box [.int .i64, .int .i64, .imm 5], .arr 3, .box [.sl 3], .arr 72]⟩, []⟩], []⟩
noncomputable def r39_6 (x : Nat × Int × Int × Int × List Int × List Int × Nat × Int × Int × Int × List Vs × Unit) : Option
  (Nat × Int × Int × Int × List Int × List Int × Nat × Int × Int × Int × List Vs × Unit ⊕
    Nat × Int × Int × List Int × List Int × Nat × List Vs × Unit) :=
  bif decide (x.snd.fst < (8 : Int)) then
  bif decide ((0 : Int) ≤ x.snd.fst) && decide (x.snd.fst < (8 : Int)) then
    (idxO
          [Pt.mk (1 : Int) (0 : Int), Pt.mk (1 : Int) (1 : Int), Pt.mk (0 : Int) (1 : Int), Pt.mk (-1 : Int) (1 : Int),
            Pt.mk (-1 : Int) (0 : Int), Pt.mk (-1 : Int) (-1 : Int), Pt.mk (0 : Int) (-1 : Int), Pt.mk (1 : Int) (-1 : Int)]
          x.snd.fst).bind
      fun y109 =>
      (f42
            (x.snd.snd.fst, x.snd.snd.snd.fst, x.snd.snd.snd.snd.fst, x.snd.snd.snd.snd.snd.snd.snd.fst,
              x.snd.snd.snd.snd.snd.snd.snd.snd.fst, y109.X, y109.Y, ())).bind
        fun y108 =>
        bif y108.snd.snd.snd.fst then
          bif
              decide ((0 : Int) ≤ IntKind.i64.wrap (IntKind.i64.wrap (y108.snd.fst * x.snd.snd.fst) + y108.fst)) &&
                decide (IntKind.i64.wrap (IntKind.i64.wrap (y108.snd.fst * x.snd.snd.fst) + y108.fst) < (↑x.fst : Int)) then
            x.snd.snd.snd.snd.snd.fst[(0 : Nat) +
                    (IntKind.i64.wrap (IntKind.i64.wrap (y108.snd.fst * x.snd.snd.fst) + y108.fst)).toNat]?.bind
              fun y106 =>
              bif decide (y106 < (0 : Int)) then
                bif decide ((0 : Nat) + x.snd.snd.snd.snd.snd.snd.fst ≤ x.snd.snd.snd.snd.snd.snd.snd.snd.snd.snd.fst.length) then
                  (f53
                        (y108.fst, y108.snd.fst, IntKind.i64.wrap (x.snd.snd.snd.snd.snd.snd.snd.snd.snd.fst + y108.snd.snd.fst),
                          List.take x.snd.snd.snd.snd.snd.snd.fst (List.drop (0 : Nat) x.snd.snd.snd.snd.snd.snd.snd.snd.snd.snd.fst),
                          x.snd.snd.snd.snd.snd.snd.fst, ())).bind
                    fun y104 =>
                    (j39_43
                          (x.fst, x.snd.fst, x.snd.snd.fst, x.snd.snd.snd.fst, x.snd.snd.snd.snd.fst, x.snd.snd.snd.snd.snd.fst, y104.fst,
                            x.snd.snd.snd.snd.snd.snd.snd.fst, x.snd.snd.snd.snd.snd.snd.snd.snd.fst,
                            x.snd.snd.snd.snd.snd.snd.snd.snd.snd.fst, y104.snd.fst, ())).bind
                      fun y103 =>
                      some
                        (Sum.inl
                          (y103.fst, y103.snd.fst, y103.snd.snd.fst, y103.snd.snd.snd.fst, y103.snd.snd.snd.snd.fst,
                            y103.snd.snd.snd.snd.snd.fst, y103.snd.snd.snd.snd.snd.snd.fst, y103.snd.snd.snd.snd.snd.snd.snd.fst,
                            y103.snd.snd.snd.snd.snd.snd.snd.snd.fst, y103.snd.snd.snd.snd.snd.snd.snd.snd.snd.fst,
                            y103.snd.snd.snd.snd.snd.snd.snd.snd.snd.snd.fst, ()))
                else none
              else
                (j39_43
                      (x.fst, x.snd.fst, x.snd.snd.fst, x.snd.snd.snd.fst, x.snd.snd.snd.snd.fst, x.snd.snd.snd.snd.snd.fst,
                        x.snd.snd.snd.snd.snd.snd.fst, x.snd.snd.snd.snd.snd.snd.snd.fst, x.snd.snd.snd.snd.snd.snd.snd.snd.fst,
                        x.snd.snd.snd.snd.snd.snd.snd.snd.snd.fst, x.snd.snd.snd.snd.snd.snd.snd.snd.snd.snd.fst, ())).bind
                  fun y105 =>
                  some
                    (Sum.inl
                      (y105.fst, y105.snd.fst, y105.snd.snd.fst, y105.snd.snd.snd.fst, y105.snd.snd.snd.snd.fst,
                        y105.snd.snd.snd.snd.snd.fst, y105.snd.snd.snd.snd.snd.snd.fst, y105.snd.snd.snd.snd.snd.snd.snd.fst,
                        y105.snd.snd.snd.snd.snd.snd.snd.snd.fst, y105.snd.snd.snd.snd.snd.snd.snd.snd.snd.fst,
                        y105.snd.snd.snd.snd.snd.snd.snd.snd.snd.snd.fst, ()))
          else none
        else
          (j39_43
                (x.fst, x.snd.fst, x.snd.snd.fst, x.snd.snd.snd.fst, x.snd.snd.snd.snd.fst, x.snd.snd.snd.snd.snd.fst,
                  x.snd.snd.snd.snd.snd.snd.fst, x.snd.snd.snd.snd.snd.snd.snd.fst, x.snd.snd.snd.snd.snd.snd.snd.snd.fst,
                  x.snd.snd.snd.snd.snd.snd.snd.snd.snd.fst, x.snd.snd.snd.snd.snd.snd.snd.snd.snd.snd.fst, ())).bind
            fun y107 =>
            some
              (Sum.inl
                (y107.fst, y107.snd.fst, y107.snd.snd.fst, y107.snd.snd.snd.fst, y107.snd.snd.snd.snd.fst, y107.snd.snd.snd.snd.snd.fst,
                  y107.snd.snd.snd.snd.snd.snd.fst, y107.snd.snd.snd.snd.snd.snd.snd.fst, y107.snd.snd.snd.snd.snd.snd.snd.snd.fst,
                  y107.snd.snd.snd.snd.snd.snd.snd.snd.snd.fst, y107.snd.snd.snd.snd.snd.snd.snd.snd.snd.snd.fst, ()))
  else none
else
  some
    (Sum.inr
      (x.fst, x.snd.snd.fst, x.snd.snd.snd.fst, x.snd.snd.snd.snd.fst, x.snd.snd.snd.snd.snd.fst, x.snd.snd.snd.snd.snd.snd.fst,
        x.snd.snd.snd.snd.snd.snd.snd.snd.snd.snd.fst, ()))
theorem r39_6_run0 (v0 : Nat) (v1 : Int) (v2 : Int) (v3 : Int) (v4 : List Int) (v5 : List Int) (v6 : Nat) (v7 : Int) (v8 : Int) (v9 : Int) (v10 : List Vs) : roundK tC G39 (look [(43, W39_43)]) c39_6 p39_6 (v0, v1, v2, v3, v4, v5, v6, v7, v8, v9, v10, ()) = r39_6 (v0, v1, v2, v3, v4, v5, v6, v7, v8, v9, v10, ()) := by kernel_rfl
theorem r39_6_run (x : Nat × Int × Int × Int × List Int × List Int × Nat × Int × Int × Int × List Vs × Unit) : roundK tC G39 (look [(43, W39_43)]) c39_6 p39_6 x = r39_6 x := r39_6_run0 x.1 x.2.1 x.2.2.1 x.2.2.2.1 x.2.2.2.2.1 x.2.2.2.2.2.1 x.2.2.2.2.2.2.1 x.2.2.2.2.2.2.2.1 x.2.2.2.2.2.2.2.2.1 x.2.2.2.2.2.2.2.2.2.1 x.2.2.2.2.2.2.2.2.2.2.1
noncomputable def l39_6 (x : Nat × Int × Int × Int × List Int × List Int × Nat × Int × Int × Int × List Vs × Unit) : Option (Nat × Int × Int × List Int × List Int × Nat × List Vs × Unit) := iterO r39_6 x
noncomputable def W39_6 : LF tC := loopW tC p39_6 2 l39_6
theorem W39_6_ok : keyed 6 (loopOf (bodyOf Try.f39) 0) = [.block 2 (.loop c39_6)] ∧ ∀ n, n ≤ 0 → Snd tC n (.block 2 (.loop c39_6)) W39_6.k := ⟨by kernel_rfl, fun n hn => loopW_ok (p := p39_6) (id := 2) Y39 (lam_le (lam_cons W39_43_ok lam_nil) n hn) hn r39_6_run⟩
noncomputable def c39_0 : Code := loopOf (bodyOf Try.f39) 0
def p39_0 : LS := ⟨0, [2, 5, 6], ⟨[vB, vB, .one (.one (.ptr 0 0 0)), vB, vB, .one (.one (.sl 1)), .one (.one (.ptr 2 0 0))] ++ vBs 78, [.box [.int .i64, .int .i64, .imm 5], .arr 3, .box [.sl 3], .arr 72]⟩, [⟨.exit 0, [5], ⟨vBs 5 ++ [.one (.one (.sl 0))] ++ vBs 79, [.arr 3]⟩, []⟩], []⟩
noncomputable def r39_0 (x : Nat × Int × Int × List Int × List Int × Nat × List Vs × Unit) : Option (Nat × Int × Int × List Int × List Int × Nat × List Vs × Unit ⊕ Nat × List Int × Unit) :=
  bif decide ((↑x.snd.snd.snd.snd.snd.fst : Int) > (0 : Int)) then
  bif decide ((0 : Nat) + x.snd.snd.snd.snd.snd.fst ≤ x.snd.snd.snd.snd.snd.snd.fst.length) then
    (f52 (List.take x.snd.snd.snd.snd.snd.fst (List.drop (0 : Nat) x.snd.snd.snd.snd.snd.snd.fst), x.snd.snd.snd.snd.snd.fst, ())).bind
      fun y122 =>
      bif
          decide ((0 : Int) ≤ IntKind.i64.wrap (IntKind.i64.wrap (y122.snd.fst * x.snd.fst) + y122.fst)) &&
            decide (IntKind.i64.wrap (IntKind.i64.wrap (y122.snd.fst * x.snd.fst) + y122.fst) < (↑x.fst : Int)) then
        x.snd.snd.snd.snd.fst[(0 : Nat) + (IntKind.i64.wrap (IntKind.i64.wrap (y122.snd.fst * x.snd.fst) + y122.fst)).toNat]?.bind
          fun y121 =>
          bif decide (y121 ≥ (0 : Int)) then
            some
              (Sum.inl
                (x.fst, x.snd.fst, x.snd.snd.fst, x.snd.snd.snd.fst, x.snd.snd.snd.snd.fst, y122.snd.snd.snd.snd.fst, y122.snd.snd.snd.fst,
                  ()))
          else
            x.snd.snd.snd.snd.fst[(0 : Nat) + (IntKind.i64.wrap (IntKind.i64.wrap (y122.snd.fst * x.snd.fst) + y122.fst)).toNat]?.bind
              fun _x =>
              (l39_6
                    (x.fst, (0 : Int), x.snd.fst, x.snd.snd.fst, x.snd.snd.snd.fst,
                      x.snd.snd.snd.snd.fst.set
                        ((0 : Nat) + (IntKind.i64.wrap (IntKind.i64.wrap (y122.snd.fst * x.snd.fst) + y122.fst)).toNat) y122.snd.snd.fst,
                      y122.snd.snd.snd.snd.fst, y122.fst, y122.snd.fst, y122.snd.snd.fst, y122.snd.snd.snd.fst, ())).bind
                fun y119 =>
                some
                  (Sum.inl
                    (y119.fst, y119.snd.fst, y119.snd.snd.fst, y119.snd.snd.snd.fst, y119.snd.snd.snd.snd.fst, y119.snd.snd.snd.snd.snd.fst,
                      y119.snd.snd.snd.snd.snd.snd.fst, ()))
      else none
  else none
else some (Sum.inr (x.fst, x.snd.snd.snd.snd.fst, ()))
theorem r39_0_run0 (v0 : Nat) (v1 : Int) (v2 : Int) (v3 : List Int) (v4 : List Int) (v5 : Nat) (v6 : List Vs) : roundK tC G39 (look [(6, W39_6)]) c39_0 p39_0 (v0, v1, v2, v3, v4, v5, v6, ()) = r39_0 (v0, v1, v2, v3, v4, v5, v6, ()) := by kernel_rfl
theorem r39_0_run (x : Nat × Int × Int × List Int × List Int × Nat × List Vs × Unit) : roundK tC G39 (look [(6, W39_6)]) c39_0 p39_0 x = r39_0 x := r39_0_run0 x.1 x.2.1 x.2.2.1 x.2.2.2.1 x.2.2.2.2.1 x.2.2.2.2.2.1 x.2.2.2.2.2.2.1
noncomputable def l39_0 (x : Nat × Int × Int × List Int × List Int × Nat × List Vs × Unit) : Option (Nat × List Int × Unit) := iterO r39_0 x
noncomputable def W39_0 : LF tC := loopW tC p39_0 0 l39_0
theorem W39_0_ok : keyed 0 (bodyOf Try.f39) = [.block 0 (.loop c39_0)] ∧ ∀ n, n ≤ 0 → Snd tC n (.block 0 (.loop c39_0)) W39_0.k := ⟨by kernel_rfl, fun n hn => loopW_ok (p := p39_0) (id := 0) Y39 (lam_le (lam_cons W39_6_ok lam_nil) n hn) hn r39_0_run⟩
def S39 : FS := ⟨[[.v, .v, .s 5], [.v, .v]], [⟨[.one (.agg [.int .i64, .int .i64, .imm 5]), .one (.agg [.int .i64, .int .i64])], []⟩], [⟨[.one (.one (.sl 0))], [.arr 3]⟩], [[.v]], [(4, 3)]⟩
noncomputable def f39 (x : Int × Int × List Int × Int × Int × Unit) : Option (Nat × List Int × Unit) :=
  (f51 ([(-1 : Int)], IntKind.i64.wrap (x.fst * x.snd.fst), ())).bind fun y128 =>
  (l39_0
        (y128.fst, x.fst, x.snd.fst, x.snd.snd.fst, y128.snd.fst, (1 : Nat), [Vs.mk x.snd.snd.snd.fst x.snd.snd.snd.snd.fst (0 : Int)],
          ())).bind
    fun y127 => some (y127.fst, y127.snd.fst, ())
noncomputable def F39 : CF tC := mkF tC S39 f39
theorem f39_run : ∀ a, fnS tC G39 (look [(0, W39_0)]) Try.f39 S39 a = f39 a := fun a => by kernel_rfl
theorem F39_ok : CFOK tC 39 F39 := mkF_ok Y39 (fn := Try.f39) (body := bodyOf Try.f39) (by kernel_rfl) (by kernel_rfl) (by kernel_rfl) (m := 0) rfl (lam_le (lam_cons W39_0_ok lam_nil)) f39_run

/-! path.Costs -/
noncomputable def G17 : FuncId → Option (CF tC) := look [(37, F37), (38, F38), (39, F39)]
theorem Y17 : SysN tC G17 := (sys_cons F37_ok (mkF_nat _ _) (sys_cons F38_ok (mkF_nat _ _) (sys_cons F39_ok (mkF_nat _ _) (sys_nil tC_ok tC_eq))))
def S17 : FS := ⟨[[.v, .v, .s 5], [.v, .v]], [⟨[.one (.agg [.int .i64, .int .i64, .imm 5]), .one (.agg [.int .i64, .int .i64])], []⟩], [⟨[.tup [.one (.sl 0), .one (.int .i64)]], [.arr 3]⟩], [[.v], [.v]], [(4, 3)]⟩
noncomputable def f17 (x : Int × Int × List Int × Int × Int × Unit) : Option (Nat × Int × List Int × Unit) :=
  (f37 (x.fst, x.snd.fst, x.snd.snd.fst, ())).bind fun y15 =>
  bif !y15.fst then some ((0 : Nat), (1 : Int), [], ())
  else
    (f38 (x.fst, x.snd.fst, x.snd.snd.fst, x.snd.snd.snd.fst, x.snd.snd.snd.snd.fst, ())).bind fun y14 =>
      bif !y14.fst then some ((0 : Nat), (7 : Int), [], ())
      else
        (f39 (x.fst, x.snd.fst, x.snd.snd.fst, x.snd.snd.snd.fst, x.snd.snd.snd.snd.fst, ())).bind fun y13 =>
          some (y13.fst, (0 : Int), y13.snd.fst, ())
noncomputable def F17 : CF tC := mkF tC S17 f17
theorem f17_run : ∀ a, fnS tC G17 (look []) Try.f17 S17 a = f17 a := fun a => by kernel_rfl
theorem F17_ok : CFOK tC 17 F17 := mkF_ok Y17 (fn := Try.f17) (body := bodyOf Try.f17) (by kernel_rfl) (by kernel_rfl) (by kernel_rfl) (m := 0) rfl (lam_le lam_nil) f17_run

/-! path.Find -/
noncomputable def G21 : FuncId → Option (CF tC) := look [(37, F37), (38, F38), (39, F39), (41, F41), (42, F42)]
theorem Y21 : SysN tC G21 := (sys_cons F37_ok (mkF_nat _ _) (sys_cons F38_ok (mkF_nat _ _) (sys_cons F39_ok (mkF_nat _ _) (sys_cons F41_ok (mkF_nat _ _) (sys_cons F42_ok (mkF_nat _ _) (sys_nil tC_ok tC_eq))))))
noncomputable def c21_58 : Code := subCode (loopOf (loopOf (bodyOf Try.f21) 1) 3) 58
def p21_58 : PS := ⟨0, [3, 5, 9, 10, 11, 12, 61, 62], ⟨[vB, vB, vB, .one (.one (.ptr 0 0 0)), vB, .one (.one (.ptr 1 0 0)), vB, vB, vB, .one (.one (.sl 2)), vI, .one (.one (.sl 3)), .one (.one (.ptr 4 0 0))] ++ vBs 48 ++ [.one (.agg [.lit .i64 1, .lit .i64 0, .lit .i64 1, .lit .i64 1, .lit .i64 0, .lit .i64 1, .lit .i64 (-1), .lit .i64 1, .lit .i64 (-1), .lit .i64 0, .lit .i64 (-1), .lit .i64 (-1), .lit .i64 0, .lit .i64 (-1), .lit .i64 1, .lit .i64 (-1)]), vI] ++ vBs 46, [.box [.int .i64, .int .i64, .imm 5], .box [.int .i64, .int .i64], .arr 3, .arr 26, .box [.int .i64, .int .i64]]⟩, [⟨.normal, [3, 5, 9, 10, 11, 12, 61, 62], ⟨[vB, vB, vB, .one (.one (.ptr 0 0 0)), vB, .one (.one (.ptr 1 0 0)), vB, vB, vB, .one (.one (.sl 2)), vI, .one (.one (.sl 3)), .one (.one (.ptr 4 0 0))] ++ vBs 48 ++ [.one (.agg [.lit .i64 1, .lit .i64 0, .lit .i64 1, .lit .i64 1, .lit .i64 0, .lit .i64 1, .lit .i64 (-1), .lit .i64 1, .lit .i64 (-1), .lit .i64 0, .lit .i64 (-1), .lit .i64 (-1), .lit .i64 0, .lit .i64 (-1), .lit .i64 1, .lit .i64 (-1)]), vI] ++ vBs 46, [.box [.int .i64, .int .i64, .imm 5], .box [.int .i64, .int .i64], .arr 3, .arr 26, .box [.int .i64, .int .i64]]⟩, []⟩], []⟩
noncomputable def j21_58 (x : Nat × Int × Nat × Int × Int × Int × List Int × Int × Int × List Int × List Pt × Int × Int × Unit) : Option (Nat × Int × Nat × Int × Int × Int × List Int × Int × Int × List Int × List Pt × Int × Int × Unit) :=
  some
  (x.fst, x.snd.fst, x.snd.snd.fst, IntKind.i64.wrap (x.snd.snd.snd.fst + (1 : Int)), x.snd.snd.snd.snd.fst, x.snd.snd.snd.snd.snd.fst,
    x.snd.snd.snd.snd.snd.snd.fst, x.snd.snd.snd.snd.snd.snd.snd.fst, x.snd.snd.snd.snd.snd.snd.snd.snd.fst,
    x.snd.snd.snd.snd.snd.snd.snd.snd.snd.fst, x.snd.snd.snd.snd.snd.snd.snd.snd.snd.snd.fst,
    x.snd.snd.snd.snd.snd.snd.snd.snd.snd.snd.snd.fst, x.snd.snd.snd.snd.snd.snd.snd.snd.snd.snd.snd.snd.fst, ())
theorem j21_58_run0 (v0 : Nat) (v1 : Int) (v2 : Nat) (v3 : Int) (v4 : Int) (v5 : Int) (v6 : List Int) (v7 : Int) (v8 : Int) (v9 : List Int) (v10 : List Pt) (v11 : Int) (v12 : Int) : pieceK tC G21 (look []) c21_58 p21_58 (v0, v1, v2, v3, v4, v5, v6, v7, v8, v9, v10, v11, v12, ()) = j21_58 (v0, v1, v2, v3, v4, v5, v6, v7, v8, v9, v10, v11, v12, ()) := by kernel_rfl
theorem j21_58_run (x : Nat × Int × Nat × Int × Int × Int × List Int × Int × Int × List Int × List Pt × Int × Int × Unit) : pieceK tC G21 (look []) c21_58 p21_58 x = j21_58 x := j21_58_run0 x.1 x.2.1 x.2.2.1 x.2.2.2.1 x.2.2.2.2.1 x.2.2.2.2.2.1 x.2.2.2.2.2.2.1 x.2.2.2.2.2.2.2.1 x.2.2.2.2.2.2.2.2.1 x.2.2.2.2.2.2.2.2.2.1 x.2.2.2.2.2.2.2.2.2.2.1 x.2.2.2.2.2.2.2.2.2.2.2.1 x.2.2.2.2.2.2.2.2.2.2.2.2.1
noncomputable def W21_58 : LF tC := cutLF tC p21_58 j21_58
theorem W21_58_ok : keyed 58 (loopOf (loopOf (bodyOf Try.f21) 1) 3) = [c21_58] ∧ ∀ n, n ≤ 0 → Snd tC n c21_58 W21_58.k := ⟨by kernel_rfl, fun n hn => cut_ok (p := p21_58) Y21 (lam_le lam_nil n hn) hn j21_58_run⟩
noncomputable def c21_9 : Code := loopOf (loopOf (bodyOf Try.f21) 1) 3
def p21_9 : LS := ⟨0, [3, 5, 9, 10, 11, 12, 61, 62], ⟨[vB, vB, vB, .one (.one (.ptr 0 0 0)), vB, .one (.one (.ptr 1 0 0)), vB, vB, vB, .one (.one (.sl 2)), vI, .one (.one (.sl 3)), .one (.one (.ptr 4 0 0))] ++ vBs 48 ++ [.one (.agg [.lit .i64 1, .lit .i64 0, .lit .i64 1, .lit .i64 1, .lit .i64 0, .lit .i64 1, .lit .i64 (-1), .lit .i64 1, .lit .i64 (-1), .lit .i64 0, .lit .i64 (-1), .lit .i64 (-1), .lit .i64 0, .lit .i64 (-1), .lit .i64 1, .lit .i64 (-1)]), vI] ++ vBs 46, [.box [.int .i64, .int .i64, .imm 5], .box [.int .i64, .int .i64], .arr 3, .arr 26, .box [.int .i64, .int .i64]]⟩, [⟨.exit 3, [3, 5, 9, 10, 11, 12], ⟨[vB, vB, vB, .one (.one (.ptr 0 0 0)), vB, .one (.one (.ptr 1 0 0)), vB, vB, vB, .one (.one (.sl 2)), vI, .one (.one (.sl 3)), .one (.one (.ptr 4 0 0))] ++ vBs 96, [.box [.int .i64, .int .i64, .imm 5], .box [.int .i64, .int .i64], .arr 3, .arr 26, .box [.int .i64, .int .i64]]⟩, []⟩], []⟩
noncomputable def r21_9 (x : Nat × Int × Nat × Int × Int × Int × List Int × Int × Int × List Int × List Pt × Int × Int × Unit) : Option
  (Nat × Int × Nat × Int × Int × Int × List Int × Int × Int × List Int × List Pt × Int × Int × Unit ⊕
    Nat × Int × Nat × Int × Int × List Int × Int × Int × List Int × List Pt × Int × Int × Unit) :=
  bif decide (x.snd.snd.snd.fst < (8 : Int)) then
  bif decide ((0 : Int) ≤ x.snd.snd.snd.fst) && decide (x.snd.snd.snd.fst < (8 : Int)) then
    (idxO
          [Pt.mk (1 : Int) (0 : Int), Pt.mk (1 : Int) (1 : Int), Pt.mk (0 : Int) (1 : Int), Pt.mk (-1 : Int) (1 : Int),
            Pt.mk (-1 : Int) (0 : Int), Pt.mk (-1 : Int) (-1 : Int), Pt.mk (0 : Int) (-1 : Int), Pt.mk (1 : Int) (-1 : Int)]
          x.snd.snd.snd.fst).bind
      fun y115 =>
      (f42
            (x.snd.snd.snd.snd.fst, x.snd.snd.snd.snd.snd.fst, x.snd.snd.snd.snd.snd.snd.fst,
              x.snd.snd.snd.snd.snd.snd.snd.snd.snd.snd.snd.fst, x.snd.snd.snd.snd.snd.snd.snd.snd.snd.snd.snd.snd.fst, y115.X, y115.Y,
              ())).bind
        fun y114 =>
        bif y114.snd.snd.snd.fst then
          bif
              decide ((0 : Int) ≤ IntKind.i64.wrap (IntKind.i64.wrap (y114.snd.fst * x.snd.snd.snd.snd.fst) + y114.fst)) &&
                decide (IntKind.i64.wrap (IntKind.i64.wrap (y114.snd.fst * x.snd.snd.snd.snd.fst) + y114.fst) < (↑x.fst : Int)) then
            x.snd.snd.snd.snd.snd.snd.snd.snd.snd.fst[(0 : Nat) +
                    (IntKind.i64.wrap (IntKind.i64.wrap (y114.snd.fst * x.snd.snd.snd.snd.fst) + y114.fst)).toNat]?.bind
              fun y112 =>
              bif
                  decide
                      ((0 : Int) ≤
                        IntKind.i64.wrap
                          (IntKind.i64.wrap (x.snd.snd.snd.snd.snd.snd.snd.snd.snd.snd.snd.snd.fst * x.snd.snd.snd.snd.fst) +
                            x.snd.snd.snd.snd.snd.snd.snd.snd.snd.snd.snd.fst)) &&
                    decide
                      (IntKind.i64.wrap
                          (IntKind.i64.wrap (x.snd.snd.snd.snd.snd.snd.snd.snd.snd.snd.snd.snd.fst * x.snd.snd.snd.snd.fst) +
                            x.snd.snd.snd.snd.snd.snd.snd.snd.snd.snd.snd.fst) <
                        (↑x.fst : Int)) then
                x.snd.snd.snd.snd.snd.snd.snd.snd.snd.fst[(0 : Nat) +
                        (IntKind.i64.wrap
                            (IntKind.i64.wrap (x.snd.snd.snd.snd.snd.snd.snd.snd.snd.snd.snd.snd.fst * x.snd.snd.snd.snd.fst) +
                              x.snd.snd.snd.snd.snd.snd.snd.snd.snd.snd.snd.fst)).toNat]?.bind
                  fun y111 =>
                  bif IntKind.i64.wrap (y112 + y114.snd.snd.fst) == y111 then
                    bif decide ((0 : Nat) + x.snd.snd.fst ≤ x.snd.snd.snd.snd.snd.snd.snd.snd.snd.snd.fst.length) then
                      bif roomy (x.snd.snd.fst + (1 : Nat)) (16 : Nat) then
                        some
                          (Sum.inr
                            (x.fst, x.snd.fst, x.snd.snd.fst + (1 : Nat), x.snd.snd.snd.snd.fst, x.snd.snd.snd.snd.snd.fst,
                              x.snd.snd.snd.snd.snd.snd.fst, x.snd.snd.snd.snd.snd.snd.snd.fst, x.snd.snd.snd.snd.snd.snd.snd.snd.fst,
                              x.snd.snd.snd.snd.snd.snd.snd.snd.snd.fst,
                              List.take x.snd.snd.fst (List.drop (0 : Nat) x.snd.snd.snd.snd.snd.snd.snd.snd.snd.snd.fst) ++
                                [Pt.mk y114.fst y114.snd.fst],
                              x.snd.snd.snd.snd.snd.snd.snd.snd.snd.snd.snd.fst, x.snd.snd.snd.snd.snd.snd.snd.snd.snd.snd.snd.snd.fst, ()))
                      else none
                    else none
                  else
                    (j21_58
                          (x.fst, x.snd.fst, x.snd.snd.fst, x.snd.snd.snd.fst, x.snd.snd.snd.snd.fst, x.snd.snd.snd.snd.snd.fst,
                            x.snd.snd.snd.snd.snd.snd.fst, x.snd.snd.snd.snd.snd.snd.snd.fst, x.snd.snd.snd.snd.snd.snd.snd.snd.fst,
                            x.snd.snd.snd.snd.snd.snd.snd.snd.snd.fst, x.snd.snd.snd.snd.snd.snd.snd.snd.snd.snd.fst,
                            x.snd.snd.snd.snd.snd.snd.snd.snd.snd.snd.snd.fst, x.snd.snd.snd.snd.snd.snd.snd.snd.snd.snd.snd.snd.fst,
                            ())).bind
                      fun y110 =>
                      some
                        (Sum.inl
                          (y110.fst, y110.snd.fst, y110.snd.snd.fst, y110.snd.snd.snd.fst, y110.snd.snd.snd.snd.fst,
                            y110.snd.snd.snd.snd.snd.fst, y110.snd.snd.snd.snd.snd.snd.fst, y110.snd.snd.snd.snd.snd.snd.snd.fst,
                            y110.snd.snd.snd.snd.snd.snd.snd.snd.fst, y110.snd.snd.snd.snd.snd.snd.snd.snd.snd.fst,
                            y110.snd.snd.snd.snd.snd.snd.snd.snd.snd.snd.fst, y110.snd.snd.snd.snd.snd.snd.snd.snd.snd.snd.snd.fst,
                            y110.snd.snd.snd.snd.snd.snd.snd.snd.snd.snd.snd.snd.fst, ()))
              else none
          else none
        else
          (j21_58
                (x.fst, x.snd.fst, x.snd.snd.fst, x.snd.snd.snd.fst, x.snd.snd.snd.snd.fst, x.snd.snd.snd.snd.snd.fst,
                  x.snd.snd.snd.snd.snd.snd.fst, x.snd.snd.snd.snd.snd.snd.snd.fst, x.snd.snd.snd.snd.snd.snd.snd.snd.fst,
                  x.snd.snd.snd.snd.snd.snd.snd.snd.snd.fst, x.snd.snd.snd.snd.snd.snd.snd.snd.snd.snd.fst,
                  x.snd.snd.snd.snd.snd.snd.snd.snd.snd.snd.snd.fst, x.snd.snd.snd.snd.snd.snd.snd.snd.snd.snd.snd.snd.fst, ())).bind
            fun y113 =>
            some
              (Sum.inl
                (y113.fst, y113.snd.fst, y113.snd.snd.fst, y113.snd.snd.snd.fst, y113.snd.snd.snd.snd.fst, y113.snd.snd.snd.snd.snd.fst,
                  y113.snd.snd.snd.snd.snd.snd.fst, y113.snd.snd.snd.snd.snd.snd.snd.fst, y113.snd.snd.snd.snd.snd.snd.snd.snd.fst,
                  y113.snd.snd.snd.snd.snd.snd.snd.snd.snd.fst, y113.snd.snd.snd.snd.snd.snd.snd.snd.snd.snd.fst,
                  y113.snd.snd.snd.snd.snd.snd.snd.snd.snd.snd.snd.fst, y113.snd.snd.snd.snd.snd.snd.snd.snd.snd.snd.snd.snd.fst, ()))
  else none
else
  some
    (Sum.inr
      (x.fst, x.snd.fst, x.snd.snd.fst, x.snd.snd.snd.snd.fst, x.snd.snd.snd.snd.snd.fst, x.snd.snd.snd.snd.snd.snd.fst,
        x.snd.snd.snd.snd.snd.snd.snd.fst, x.snd.snd.snd.snd.snd.snd.snd.snd.fst, x.snd.snd.snd.snd.snd.snd.snd.snd.snd.fst,
        x.snd.snd.snd.snd.snd.snd.snd.snd.snd.snd.fst, x.snd.snd.snd.snd.snd.snd.snd.snd.snd.snd.snd.fst,
        x.snd.snd.snd.snd.snd.snd.snd.snd.snd.snd.snd.snd.fst, ()))
theorem r21_9_run0 (v0 : Nat) (v1 : Int) (v2 : Nat) (v3 : Int) (v4 : Int) (v5 : Int) (v6 : List Int) (v7 : Int) (v8 : Int) (v9 : List Int) (v10 : List Pt) (v11 : Int) (v12 : Int) : roundK tC G21 (look [(58, W21_58)]) c21_9 p21_9 (v0, v1, v2, v3, v4, v5, v6, v7, v8, v9, v10, v11, v12, ()) = r21_9 (v0, v1, v2, v3, v4, v5, v6, v7, v8, v9, v10, v11, v12, ()) := by kernel_rfl
theorem r21_9_run (x : Nat × Int × Nat × Int × Int × Int × List Int × Int × Int × List Int × List Pt × Int × Int × Unit) : roundK tC G21 (look [(58, W21_58)]) c21_9 p21_9 x = r21_9 x := r21_9_run0 x.1 x.2.1 x.2.2.1 x.2.2.2.1 x.2.2.2.2.1 x.2.2.2.2.2.1 x.2.2.2.2.2.2.1 x.2.2.2.2.2.2.2.1 x.2.2.2.2.2.2.2.2.1 x.2.2.2.2.2.2.2.2.2.1 x.2.2.2.2.2.2.2.2.2.2.1 x.2.2.2.2.2.2.2.2.2.2.2.1 x.2.2.2.2.2.2.2.2.2.2.2.2.1
noncomputable def l21_9 (x : Nat × Int × Nat × Int × Int × Int × List Int × Int × Int × List Int × List Pt × Int × Int × Unit) : Option (Nat × Int × Nat × Int × Int × List Int × Int × Int × List Int × List Pt × Int × Int × Unit) := iterO r21_9 x
noncomputable def W21_9 : LF tC := loopW tC p21_9 3 l21_9
theorem W21_9_ok : keyed 9 (loopOf (bodyOf Try.f21) 1) = [.block 3 (.loop c21_9)] ∧ ∀ n, n ≤ 0 → Snd tC n (.block 3 (.loop c21_9)) W21_9.k := ⟨by kernel_rfl, fun n hn => loopW_ok (p := p21_9) (id := 3) Y21 (lam_le (lam_cons W21_58_ok lam_nil) n hn) hn r21_9_run⟩
noncomputable def c21_3 : Code := loopOf (bodyOf Try.f21) 1
def p21_3 : LS := ⟨0, [3, 5, 9, 10, 11, 12], ⟨[vB, vB, vB, .one (.one (.ptr 0 0 0)), vB, .one (.one (.ptr 1 0 0)), vB, vB, vB, .one (.one (.sl 2)), vI, .one (.one (.sl 3)), .one (.one (.ptr 4 0 0))] ++ vBs 96, [.box [.int .i64, .int .i64, .imm 5], .box [.int .i64, .int .i64], .arr 3, .arr 26, .box [.int .i64, .int .i64]]⟩, [⟨.exit 1, [10, 11], ⟨vBs 10 ++ [vI, .one (.one (.sl 0))] ++ vBs 97, [.arr 26]⟩, []⟩], []⟩
noncomputable def r21_3 (x : Nat × Int × Nat × Int × Int × List Int × Int × Int × List Int × List Pt × Int × Int × Unit) : Option (Nat × Int × Nat × Int × Int × List Int × Int × Int × List Int × List Pt × Int × Int × Unit ⊕ Int × Nat × List Pt × Unit) :=
  bif
    !bif x.snd.snd.snd.snd.snd.snd.snd.snd.snd.snd.fst == x.snd.snd.snd.snd.snd.snd.fst then
        bif x.snd.snd.snd.snd.snd.snd.snd.snd.snd.snd.snd.fst == x.snd.snd.snd.snd.snd.snd.snd.fst then true else false
      else false then
  (l21_9
        (x.fst, x.snd.fst, x.snd.snd.fst, (0 : Int), x.snd.snd.snd.fst, x.snd.snd.snd.snd.fst, x.snd.snd.snd.snd.snd.fst,
          x.snd.snd.snd.snd.snd.snd.fst, x.snd.snd.snd.snd.snd.snd.snd.fst, x.snd.snd.snd.snd.snd.snd.snd.snd.fst,
          x.snd.snd.snd.snd.snd.snd.snd.snd.snd.fst, x.snd.snd.snd.snd.snd.snd.snd.snd.snd.snd.fst,
          x.snd.snd.snd.snd.snd.snd.snd.snd.snd.snd.snd.fst, ())).bind
    fun y133 =>
    bif
        decide ((0 : Int) ≤ IntKind.i64.wrap ((↑y133.snd.snd.fst : Int) - (1 : Int))) &&
          decide (IntKind.i64.wrap ((↑y133.snd.snd.fst : Int) - (1 : Int)) < (↑y133.snd.snd.fst : Int)) then
      y133.snd.snd.snd.snd.snd.snd.snd.snd.snd.fst[(0 : Nat) + (IntKind.i64.wrap ((↑y133.snd.snd.fst : Int) - (1 : Int))).toNat]?.bind
        fun y132 =>
        some
          (Sum.inl
            (y133.fst, y133.snd.fst, y133.snd.snd.fst, y133.snd.snd.snd.fst, y133.snd.snd.snd.snd.fst, y133.snd.snd.snd.snd.snd.fst,
              y133.snd.snd.snd.snd.snd.snd.fst, y133.snd.snd.snd.snd.snd.snd.snd.fst, y133.snd.snd.snd.snd.snd.snd.snd.snd.fst,
              y133.snd.snd.snd.snd.snd.snd.snd.snd.snd.fst, y132.X, y132.Y, ()))
    else none
else some (Sum.inr (x.snd.fst, x.snd.snd.fst, x.snd.snd.snd.snd.snd.snd.snd.snd.snd.fst, ()))
theorem r21_3_run0 (v0 : Nat) (v1 : Int) (v2 : Nat) (v3 : Int) (v4 : Int) (v5 : List Int) (v6 : Int) (v7 : Int) (v8 : List Int) (v9 : List Pt) (v10 : Int) (v11 : Int) : roundK tC G21 (look [(9, W21_9)]) c21_3 p21_3 (v0, v1, v2, v3, v4, v5, v6, v7, v8, v9, v10, v11, ()) = r21_3 (v0, v1, v2, v3, v4, v5, v6, v7, v8, v9, v10, v11, ()) := by kernel_rfl
theorem r21_3_run (x : Nat × Int × Nat × Int × Int × List Int × Int × Int × List Int × List Pt × Int × Int × Unit) : roundK tC G21 (look [(9, W21_9)]) c21_3 p21_3 x = r21_3 x := r21_3_run0 x.1 x.2.1 x.2.2.1 x.2.2.2.1 x.2.2.2.2.1 x.2.2.2.2.2.1 x.2.2.2.2.2.2.1 x.2.2.2.2.2.2.2.1 x.2.2.2.2.2.2.2.2.1 x.2.2.2.2.2.2.2.2.2.1 x.2.2.2.2.2.2.2.2.2.2.1 x.2.2.2.2.2.2.2.2.2.2.2.1
noncomputable def l21_3 (x : Nat × Int × Nat × Int × Int × List Int × Int × Int × List Int × List Pt × Int × Int × Unit) : Option (Int × Nat × List Pt × Unit) := iterO r21_3 x
noncomputable def W21_3 : LF tC := loopW tC p21_3 1 l21_3
theorem W21_3_ok : keyed 3 (bodyOf Try.f21) = [.block 1 (.loop c21_3)] ∧ ∀ n, n ≤ 0 → Snd tC n (.block 1 (.loop c21_3)) W21_3.k := ⟨by kernel_rfl, fun n hn => loopW_ok (p := p21_3) (id := 1) Y21 (lam_le (lam_cons W21_9_ok lam_nil) n hn) hn r21_3_run⟩
def S21 : FS := ⟨[[.v, .v, .s 5], [.v, .v], [.v, .v]], [⟨[.one (.agg [.int .i64, .int .i64, .imm 5]), .one (.agg [.int .i64, .int .i64]), .one (.agg [.int .i64, .int .i64])], []⟩], [⟨[.tup [.one (.sl 0), .one (.int .i64), .one (.int .i64)]], [.arr 26]⟩], [[.v], [.v], [.v]], [(6, 26)]⟩
noncomputable def f21 (x : Int × Int × List Int × Int × Int × Int × Int × Unit) : Option (Nat × Int × Int × List Pt × Unit) :=
  (f37 (x.fst, x.snd.fst, x.snd.snd.fst, ())).bind fun y146 =>
  bif !y146.fst then some ((0 : Nat), (0 : Int), (1 : Int), [], ())
  else
    (f38 (x.fst, x.snd.fst, x.snd.snd.fst, x.snd.snd.snd.fst, x.snd.snd.snd.snd.fst, ())).bind fun y145 =>
      bif !y145.fst then some ((0 : Nat), (0 : Int), (7 : Int), [], ())
      else
        (f38 (x.fst, x.snd.fst, x.snd.snd.fst, x.snd.snd.snd.snd.snd.fst, x.snd.snd.snd.snd.snd.snd.fst, ())).bind fun y144 =>
          bif !y144.fst then some ((0 : Nat), (0 : Int), (7 : Int), [], ())
          else
            (f39 (x.fst, x.snd.fst, x.snd.snd.fst, x.snd.snd.snd.snd.snd.fst, x.snd.snd.snd.snd.snd.snd.fst, ())).bind fun y143 =>
              bif
                  decide ((0 : Int) ≤ IntKind.i64.wrap (IntKind.i64.wrap (x.snd.snd.snd.snd.fst * x.fst) + x.snd.snd.snd.fst)) &&
                    decide
                      (IntKind.i64.wrap (IntKind.i64.wrap (x.snd.snd.snd.snd.fst * x.fst) + x.snd.snd.snd.fst) < (↑y143.fst : Int)) then
                y143.snd.fst[(0 : Nat) +
                        (IntKind.i64.wrap (IntKind.i64.wrap (x.snd.snd.snd.snd.fst * x.fst) + x.snd.snd.snd.fst)).toNat]?.bind
                  fun y142 =>
                  bif decide (y142 < (0 : Int)) then some ((0 : Nat), (0 : Int), (14 : Int), [], ())
                  else
                    (l21_3
                          (y143.fst, y142, (1 : Nat), x.fst, x.snd.fst, x.snd.snd.fst, x.snd.snd.snd.snd.snd.fst,
                            x.snd.snd.snd.snd.snd.snd.fst, y143.snd.fst, [Pt.mk x.snd.snd.snd.fst x.snd.snd.snd.snd.fst], x.snd.snd.snd.fst,
                            x.snd.snd.snd.snd.fst, ())).bind
                      fun y141 => some (y141.snd.fst, y141.fst, (0 : Int), y141.snd.snd.fst, ())
              else none
noncomputable def F21 : CF tC := mkF tC S21 f21
theorem f21_run : ∀ a, fnS tC G21 (look [(3, W21_3)]) Try.f21 S21 a = f21 a := fun a => by kernel_rfl
theorem F21_ok : CFOK tC 21 F21 := mkF_ok Y21 (fn := Try.f21) (body := bodyOf Try.f21) (by kernel_rfl) (by kernel_rfl) (by kernel_rfl) (m := 0) rfl (lam_le (lam_cons W21_3_ok lam_nil)) f21_run

/-! slices.Index -/
noncomputable def G54 : FuncId → Option (CF tC) := look []
theorem Y54 : SysN tC G54 := (sys_nil tC_ok tC_eq)
noncomputable def c54_0 : Code := loopOf (bodyOf Try.f54) 0
def p54_0 : LS := ⟨0, [0, 3, 7, 8], ⟨[.one (.one (.imm 26)), vB, vB, .one (.one (.ptr 0 0 0)), vB, vB, vB, vI, vI] ++ vBs 10, [.box [.int .i64, .int .i64]]⟩, [⟨.ret, [4], ⟨vBs 4 ++ [vI] ++ vBs 14, []⟩, []⟩, ⟨.exit 0, [], ⟨vBs 19, []⟩, []⟩], []⟩
noncomputable def r54_0 (x : List Pt × Int × Int × Int × Int × Unit) : Option (List Pt × Int × Int × Int × Int × Unit ⊕ Int × Unit ⊕ Unit) :=
  bif decide (x.snd.snd.fst < x.snd.fst) then
  (idxO x.fst x.snd.snd.fst).bind fun y11 =>
    bif bif x.snd.snd.snd.fst == y11.X then bif x.snd.snd.snd.snd.fst == y11.Y then true else false else false then
      some (Sum.inr (Sum.inl (x.snd.snd.fst, ())))
    else some (Sum.inl (x.fst, x.snd.fst, IntKind.i64.wrap (x.snd.snd.fst + (1 : Int)), x.snd.snd.snd.fst, x.snd.snd.snd.snd.fst, ()))
else some (Sum.inr (Sum.inr ()))
theorem r54_0_run0 (v0 : List Pt) (v1 : Int) (v2 : Int) (v3 : Int) (v4 : Int) : roundK tC G54 (look []) c54_0 p54_0 (v0, v1, v2, v3, v4, ()) = r54_0 (v0, v1, v2, v3, v4, ()) := by kernel_rfl
theorem r54_0_run (x : List Pt × Int × Int × Int × Int × Unit) : roundK tC G54 (look []) c54_0 p54_0 x = r54_0 x := r54_0_run0 x.1 x.2.1 x.2.2.1 x.2.2.2.1 x.2.2.2.2.1
noncomputable def l54_0 (x : List Pt × Int × Int × Int × Int × Unit) : Option (Int × Unit ⊕ Unit) := iterO r54_0 x
noncomputable def W54_0 : LF tC := loopW tC p54_0 0 l54_0
theorem W54_0_ok : keyed 0 (bodyOf Try.f54) = [.block 0 (.loop c54_0)] ∧ ∀ n, n ≤ 0 → Snd tC n (.block 0 (.loop c54_0)) W54_0.k := ⟨by kernel_rfl, fun n hn => loopW_ok (p := p54_0) (id := 0) Y54 (lam_le lam_nil n hn) hn r54_0_run⟩
def S54 : FS := ⟨[[.s 26], [.v, .v]], [⟨[.one (.one (.imm 26)), .one (.agg [.int .i64, .int .i64])], []⟩], [⟨[vI], []⟩], [[.v]], []⟩
noncomputable def f54 (x : List Pt × Int × Int × Unit) : Option (Int × Unit) :=
  (l54_0 (x.fst, (↑x.fst.length : Int), (0 : Int), x.snd.fst, x.snd.snd.fst, ())).bind fun y16 =>
  Sum.elim (fun y14 => some (y14.fst, ())) (fun _x => some ((-1 : Int), ())) y16
noncomputable def F54 : CF tC := mkF tC S54 f54
theorem f54_run : ∀ a, fnS tC G54 (look [(0, W54_0)]) Try.f54 S54 a = f54 a := fun a => by kernel_rfl
theorem F54_ok : CFOK tC 54 F54 := mkF_ok Y54 (fn := Try.f54) (body := bodyOf Try.f54) (by kernel_rfl) (by kernel_rfl) (by kernel_rfl) (m := 0) rfl (lam_le (lam_cons W54_0_ok lam_nil)) f54_run

/-! slices.Contains -/
noncomputable def G44 : FuncId → Option (CF tC) := look [(54, F54)]
theorem Y44 : SysN tC G44 := (sys_cons F54_ok (mkF_nat _ _) (sys_nil tC_ok tC_eq))
def S44 : FS := ⟨[[.s 26], [.v, .v]], [⟨[.one (.one (.imm 26)), .one (.agg [.int .i64, .int .i64])], []⟩], [⟨[vO], []⟩], [[.v]], []⟩
noncomputable def f44 (x : List Pt × Int × Int × Unit) : Option (Bool × Unit) :=
  (f54 (x.fst, x.snd.fst, x.snd.snd.fst, ())).bind fun y6 => some (decide (y6.fst ≥ (0 : Int)), ())
noncomputable def F44 : CF tC := mkF tC S44 f44
theorem f44_run : ∀ a, fnS tC G44 (look []) Try.f44 S44 a = f44 a := fun a => by kernel_rfl
theorem F44_ok : CFOK tC 44 F44 := mkF_ok Y44 (fn := Try.f44) (body := bodyOf Try.f44) (by kernel_rfl) (by kernel_rfl) (by kernel_rfl) (m := 0) rfl (lam_le lam_nil) f44_run

/-! path.Step -/
noncomputable def G32 : FuncId → Option (CF tC) := look [(37, F37), (38, F38), (41, F41), (44, F44), (42, F42)]
theorem Y32 : SysN tC G32 := (sys_cons F37_ok (mkF_nat _ _) (sys_cons F38_ok (mkF_nat _ _) (sys_cons F41_ok (mkF_nat _ _) (sys_cons F44_ok (mkF_nat _ _) (sys_cons F42_ok (mkF_nat _ _) (sys_nil tC_ok tC_eq))))))
def S32 : FS := ⟨[[.v, .v, .s 5], [.v, .v], [.v, .v]], [⟨[.one (.agg [.int .i64, .int .i64, .imm 5]), .one (.agg [.int .i64, .int .i64]), .one (.agg [.int .i64, .int .i64])], []⟩], [⟨[.tup [.one (.int .i64), .one .bool]], []⟩], [[.v], [.v]], []⟩
noncomputable def f32 (x : Int × Int × List Int × Int × Int × Int × Int × Unit) : Option (Int × Bool × Unit) :=
  (f37 (x.fst, x.snd.fst, x.snd.snd.fst, ())).bind fun y22 =>
  bif !y22.fst then some ((0 : Int), false, ())
  else
    (f38 (x.fst, x.snd.fst, x.snd.snd.fst, x.snd.snd.snd.fst, x.snd.snd.snd.snd.fst, ())).bind fun y21 =>
      bif !y21.fst then some ((0 : Int), false, ())
      else
        (f38 (x.fst, x.snd.fst, x.snd.snd.fst, x.snd.snd.snd.snd.snd.fst, x.snd.snd.snd.snd.snd.snd.fst, ())).bind fun y20 =>
          bif !y20.fst then some ((0 : Int), false, ())
          else
            (f44
                  ([Pt.mk (1 : Int) (0 : Int), Pt.mk (1 : Int) (1 : Int), Pt.mk (0 : Int) (1 : Int), Pt.mk (-1 : Int) (1 : Int),
                      Pt.mk (-1 : Int) (0 : Int), Pt.mk (-1 : Int) (-1 : Int), Pt.mk (0 : Int) (-1 : Int), Pt.mk (1 : Int) (-1 : Int)],
                    IntKind.i64.wrap (x.snd.snd.snd.snd.snd.fst - x.snd.snd.snd.fst),
                    IntKind.i64.wrap (x.snd.snd.snd.snd.snd.snd.fst - x.snd.snd.snd.snd.fst), ())).bind
              fun y19 =>
              bif !y19.fst then some ((0 : Int), false, ())
              else
                (f42
                      (x.fst, x.snd.fst, x.snd.snd.fst, x.snd.snd.snd.fst, x.snd.snd.snd.snd.fst,
                        IntKind.i64.wrap (x.snd.snd.snd.snd.snd.fst - x.snd.snd.snd.fst),
                        IntKind.i64.wrap (x.snd.snd.snd.snd.snd.snd.fst - x.snd.snd.snd.snd.fst), ())).bind
                  fun y18 => some (y18.snd.snd.fst, y18.snd.snd.snd.fst, ())
noncomputable def F32 : CF tC := mkF tC S32 f32
theorem f32_run : ∀ a, fnS tC G32 (look []) Try.f32 S32 a = f32 a := fun a => by kernel_rfl
theorem F32_ok : CFOK tC 32 F32 := mkF_ok Y32 (fn := Try.f32) (body := bodyOf Try.f32) (by kernel_rfl) (by kernel_rfl) (by kernel_rfl) (m := 0) rfl (lam_le lam_nil) f32_run

/-! Length$1 -/
noncomputable def G48 : FuncId → Option (CF tC) := look [(38, F38)]
theorem Y48 : SysN tC G48 := (sys_cons F38_ok (mkF_nat _ _) (sys_nil tC_ok tC_eq))
def S48 : FS := ⟨[[.v, .v], [.p]], [⟨[.one (.agg [.int .i64, .int .i64]), .one (.one (.ptr 0 0 0))], [.box [.int .i64, .int .i64, .imm 5]]⟩], [⟨[vO], [.box [.int .i64, .int .i64, .imm 5]]⟩], [[.v]], []⟩
noncomputable def f48 (x : Int × Int × Int × Int × List Int × Unit) : Option (Bool × Int × Int × List Int × Unit) :=
  (f38 (x.snd.snd.fst, x.snd.snd.snd.fst, x.snd.snd.snd.snd.fst, x.fst, x.snd.fst, ())).bind fun y11 =>
  some (!y11.fst, x.snd.snd.fst, x.snd.snd.snd.fst, x.snd.snd.snd.snd.fst, ())
noncomputable def F48 : CF tC := mkF tC S48 f48
theorem f48_run : ∀ a, fnS tC G48 (look []) Try.f48 S48 a = f48 a := fun a => by kernel_rfl
theorem F48_ok : CFOK tC 48 F48 := mkF_ok Y48 (fn := Try.f48) (body := bodyOf Try.f48) (by kernel_rfl) (by kernel_rfl) (by kernel_rfl) (m := 1) rfl (lam_le lam_nil) f48_run

/-! slices.IndexFunc -/
noncomputable def G57 : FuncId → Option (CF tC) := look [(48, F48)]
theorem Y57 : SysN tC G57 := (sys_cons F48_ok (mkF_nat _ _) (sys_nil tC_ok tC_eq))
noncomputable def c57_0 : Code := loopOf (bodyOf Try.f57) 0
def p57_0 : LS := ⟨1, [0, 1, 7, 8], ⟨[.one (.one (.imm 26)), .one (.fn 48 [.ptr 0 0 0])] ++ vBs 5 ++ [vI, vI] ++ vBs 10, [.box [.int .i64, .int .i64, .imm 5]]⟩, [⟨.ret, [4], ⟨vBs 4 ++ [vI] ++ vBs 14, [.box [.int .i64, .int .i64, .imm 5]]⟩, []⟩, ⟨.exit 0, [], ⟨vBs 19, [.box [.int .i64, .int .i64, .imm 5]]⟩, []⟩], []⟩
noncomputable def r57_0 (x : List Pt × Int × Int × Int × Int × List Int × Unit) : Option (List Pt × Int × Int × Int × Int × List Int × Unit ⊕ Int × Int × Int × List Int × Unit ⊕ Int × Int × List Int × Unit) :=
  bif decide (x.snd.snd.fst < x.snd.fst) then
  (idxO x.fst x.snd.snd.fst).bind fun y24 =>
    (f48 (y24.X, y24.Y, x.snd.snd.snd.fst, x.snd.snd.snd.snd.fst, x.snd.snd.snd.snd.snd.fst, ())).bind fun y23 =>
      bif y23.fst then some (Sum.inr (Sum.inl (x.snd.snd.fst, y23.snd.fst, y23.snd.snd.fst, y23.snd.snd.snd.fst, ())))
      else
        some
          (Sum.inl (x.fst, x.snd.fst, IntKind.i64.wrap (x.snd.snd.fst + (1 : Int)), y23.snd.fst, y23.snd.snd.fst, y23.snd.snd.snd.fst, ()))
else some (Sum.inr (Sum.inr (x.snd.snd.snd.fst, x.snd.snd.snd.snd.fst, x.snd.snd.snd.snd.snd.fst, ())))
theorem r57_0_run0 (v0 : List Pt) (v1 : Int) (v2 : Int) (v3 : Int) (v4 : Int) (v5 : List Int) : roundK tC G57 (look []) c57_0 p57_0 (v0, v1, v2, v3, v4, v5, ()) = r57_0 (v0, v1, v2, v3, v4, v5, ()) := by kernel_rfl
theorem r57_0_run (x : List Pt × Int × Int × Int × Int × List Int × Unit) : roundK tC G57 (look []) c57_0 p57_0 x = r57_0 x := r57_0_run0 x.1 x.2.1 x.2.2.1 x.2.2.2.1 x.2.2.2.2.1 x.2.2.2.2.2.1
noncomputable def l57_0 (x : List Pt × Int × Int × Int × Int × List Int × Unit) : Option (Int × Int × Int × List Int × Unit ⊕ Int × Int × List Int × Unit) := iterO r57_0 x
noncomputable def W57_0 : LF tC := loopW tC p57_0 0 l57_0
theorem W57_0_ok : keyed 0 (bodyOf Try.f57) = [.block 0 (.loop c57_0)] ∧ ∀ n, n ≤ 1 → Snd tC n (.block 0 (.loop c57_0)) W57_0.k := ⟨by kernel_rfl, fun n hn => loopW_ok (p := p57_0) (id := 0) Y57 (lam_le lam_nil n hn) hn r57_0_run⟩
def S57 : FS := ⟨[[.s 26], [.f]], [⟨[.one (.one (.imm 26)), .one (.fn 48 [.ptr 0 0 0])], [.box [.int .i64, .int .i64, .imm 5]]⟩], [⟨[vI], [.box [.int .i64, .int .i64, .imm 5]]⟩], [[.v]], []⟩
noncomputable def f57 (x : List Pt × Int × Int × List Int × Unit) : Option (Int × Int × Int × List Int × Unit) :=
  (l57_0 (x.fst, (↑x.fst.length : Int), (0 : Int), x.snd.fst, x.snd.snd.fst, x.snd.snd.snd.fst, ())).bind fun y38 =>
  Sum.elim (fun y36 => some (y36.fst, y36.snd.fst, y36.snd.snd.fst, y36.snd.snd.snd.fst, ()))
    (fun y37 => some ((-1 : Int), y37.fst, y37.snd.fst, y37.snd.snd.fst, ())) y38
noncomputable def F57 : CF tC := mkF tC S57 f57
theorem f57_run : ∀ a, fnS tC G57 (look [(0, W57_0)]) Try.f57 S57 a = f57 a := fun a => by kernel_rfl
theorem F57_ok : CFOK tC 57 F57 := mkF_ok Y57 (fn := Try.f57) (body := bodyOf Try.f57) (by kernel_rfl) (by kernel_rfl) (by kernel_rfl) (m := 1) rfl (lam_le (lam_cons W57_0_ok lam_nil)) f57_run

/-! slices.ContainsFunc -/
noncomputable def G47 : FuncId → Option (CF tC) := look [(57, F57)]
theorem Y47 : SysN tC G47 := (sys_cons F57_ok (mkF_nat _ _) (sys_nil tC_ok tC_eq))
def S47 : FS := ⟨[[.s 26], [.f]], [⟨[.one (.one (.imm 26)), .one (.fn 48 [.ptr 0 0 0])], [.box [.int .i64, .int .i64, .imm 5]]⟩], [⟨[vO], [.box [.int .i64, .int .i64, .imm 5]]⟩], [[.v]], []⟩
noncomputable def f47 (x : List Pt × Int × Int × List Int × Unit) : Option (Bool × Int × Int × List Int × Unit) :=
  (f57 (x.fst, x.snd.fst, x.snd.snd.fst, x.snd.snd.snd.fst, ())).bind fun y13 =>
  some (decide (y13.fst ≥ (0 : Int)), y13.snd.fst, y13.snd.snd.fst, y13.snd.snd.snd.fst, ())
noncomputable def F47 : CF tC := mkF tC S47 f47
theorem f47_run : ∀ a, fnS tC G47 (look []) Try.f47 S47 a = f47 a := fun a => by kernel_rfl
theorem F47_ok : CFOK tC 47 F47 := mkF_ok Y47 (fn := Try.f47) (body := bodyOf Try.f47) (by kernel_rfl) (by kernel_rfl) (by kernel_rfl) (m := 1) rfl (lam_le lam_nil) f47_run

end Go.AE
