/-
  The plain functions that the seat's Go functions compute, each with the proof that the function keeps it. Printed by the generator (Gen2) and checked by the kernel.
-/
import Derived.Test.YtmhbjgelllhnbaaSo
namespace Go.AE
open Go.Proofs Go.RowKit
set_option maxRecDepth 100000

/-! plan.size -/
noncomputable def G41 : FuncId → Option (CF tC) := look []
theorem Y41 : SysN tC G41 := (sys_nil tC_ok tC_eq)
def S41 : FS := ⟨[[.v]], [⟨[vI], []⟩], [⟨[vO], []⟩], [[.v]], []⟩
def f41 (n1 : Int) : Bool :=
  bif decide (n1 ≥ (1 : Int)) then decide (n1 ≤ (64 : Int)) else false
noncomputable def F41 : CF tC := mkF tC S41 (fun a => some ((f41 a.1), ()))
def h41 (r : Bool) : Option (altTy tE S41.outs) := some (r, ())
theorem f41_run : ∀ a, fnS tC G41 (look []) Try.f41 S41 a = (fun a => some ((f41 a.1), ())) a := fun a => by
  have key : ∀ (n1 : Int), (bif decide (n1 ≥ (1 : Int)) then h41 (decide (n1 ≤ (64 : Int))) else h41 false) = h41 (f41 n1) := by
    intros
    unfold f41
    repeat' first | rfl | refine cond_h (g := h41) ?_ ?_
  exact Eq.trans (by kernel_rfl) (key a.1)
theorem F41_ok : CFOK tC 41 F41 := mkF_ok Y41 (fn := Try.f41) (body := bodyOf Try.f41) (by kernel_rfl) (by kernel_rfl) (by kernel_rfl) (m := 0) rfl (lam_le lam_nil) f41_run

/-! slices.Max -/
noncomputable def G42 : FuncId → Option (CF tC) := look []
theorem Y42 : SysN tC G42 := (sys_nil tC_ok tC_eq)
noncomputable def c42_0 : Code := loopOf (bodyOf Try.f42) 0
def p42_0 : LS := ⟨0, [0, 3, 4], ⟨[.one (.one (.imm 5)), vB, vB, .one (.one (.int .u8)), vI] ++ vBs 20, []⟩, [⟨.exit 0, [3], ⟨[vB, vB, vB, .one (.one (.int .u8))] ++ vBs 21, []⟩, []⟩], []⟩
noncomputable def r42_0 (x : List Int × Int × Int × Unit) : Option (List Int × Int × Int × Unit ⊕ Int × Unit) :=
  bif decide (x.snd.snd.fst < (↑x.fst.length : Int)) then
  (idxO x.fst x.snd.snd.fst).bind fun y8 =>
    some (Sum.inl (x.fst, bif decide (y8 > x.snd.fst) then y8 else x.snd.fst, IntKind.i64.wrap (x.snd.snd.fst + (1 : Int)), ()))
else some (Sum.inr (x.snd.fst, ()))
theorem r42_0_run0 (v0 : List Int) (v1 : Int) (v2 : Int) : roundK tC G42 (look []) c42_0 p42_0 (v0, v1, v2, ()) = r42_0 (v0, v1, v2, ()) := by kernel_rfl
theorem r42_0_run (x : List Int × Int × Int × Unit) : roundK tC G42 (look []) c42_0 p42_0 x = r42_0 x := r42_0_run0 x.1 x.2.1 x.2.2.1
noncomputable def l42_0 (x : List Int × Int × Int × Unit) : Option (Int × Unit) := iterO r42_0 x
noncomputable def W42_0 : LF tC := loopW tC p42_0 0 l42_0
theorem W42_0_ok : keyed 0 (bodyOf Try.f42) = [.block 0 (.loop c42_0)] ∧ ∀ n, n ≤ 0 → Snd tC n (.block 0 (.loop c42_0)) W42_0.k := ⟨by kernel_rfl, fun n hn => loopW_ok (p := p42_0) (id := 0) Y42 (lam_le lam_nil n hn) hn r42_0_run⟩
def S42 : FS := ⟨[[.s 5]], [⟨[.one (.one (.imm 5))], []⟩], [⟨[.one (.one (.int .u8))], []⟩], [[.v]], []⟩
noncomputable def f42 (x : List Int × Unit) : Option (Int × Unit) :=
  bif decide ((↑x.fst.length : Int) < (1 : Int)) then none
else (idxO x.fst (0 : Int)).bind fun y12 => (l42_0 (x.fst, y12, (1 : Int), ())).bind fun y11 => some (y11.fst, ())
noncomputable def F42 : CF tC := mkF tC S42 f42
theorem f42_run : ∀ a, fnS tC G42 (look [(0, W42_0)]) Try.f42 S42 a = f42 a := fun a => by kernel_rfl
theorem F42_ok : CFOK tC 42 F42 := mkF_ok Y42 (fn := Try.f42) (body := bodyOf Try.f42) (by kernel_rfl) (by kernel_rfl) (by kernel_rfl) (m := 0) rfl (lam_le (lam_cons W42_0_ok lam_nil)) f42_run

/-! plan.Valid -/
noncomputable def G22 : FuncId → Option (CF tC) := look [(41, F41), (42, F42)]
theorem Y22 : SysN tC G22 := (sys_cons F41_ok (mkF_nat _ _) (sys_cons F42_ok (mkF_nat _ _) (sys_nil tC_ok tC_eq)))
def S22 : FS := ⟨[[.v, .v, .s 5]], [⟨[.one (.agg [.int .i64, .int .i64, .imm 5])], []⟩], [⟨[vO], []⟩], [[.v]], []⟩
noncomputable def f22 (x : Int × Int × List Int × Unit) : Option (Bool × Unit) :=
  bif !f41 x.fst then some (false, ())
else
  bif !f41 x.snd.fst then some (false, ())
  else
    bif (↑x.snd.snd.fst.length : Int) != IntKind.i64.wrap (x.fst * x.snd.fst) then some (false, ())
    else
      bif (↑x.snd.snd.fst.length : Int) == (0 : Int) then some (true, ())
      else (f42 (x.snd.snd.fst, ())).bind fun y6 => some (decide (y6.fst ≤ (2 : Int)), ())
noncomputable def F22 : CF tC := mkF tC S22 f22
theorem f22_run : ∀ a, fnS tC G22 (look []) Try.f22 S22 a = f22 a := fun a => by kernel_rfl
theorem F22_ok : CFOK tC 22 F22 := mkF_ok Y22 (fn := Try.f22) (body := bodyOf Try.f22) (by kernel_rfl) (by kernel_rfl) (by kernel_rfl) (m := 0) rfl (lam_le lam_nil) f22_run

/-! path.free -/
noncomputable def G24 : FuncId → Option (CF tC) := look []
theorem Y24 : SysN tC G24 := (sys_nil tC_ok tC_eq)
def S24 : FS := ⟨[[.v, .v, .s 5], [.v, .v]], [⟨[.one (.agg [.int .i64, .int .i64, .imm 5]), .one (.agg [.int .i64, .int .i64])], []⟩], [⟨[vO], []⟩], [[.v]], []⟩
noncomputable def f24 (x : Int × Int × List Int × Int × Int × Unit) : Option (Bool × Unit) :=
  bif decide (x.snd.snd.snd.fst ≥ (0 : Int)) then
  bif decide (x.snd.snd.snd.snd.fst ≥ (0 : Int)) then
    bif decide (x.snd.snd.snd.fst < x.fst) then
      bif decide (x.snd.snd.snd.snd.fst < x.snd.fst) then
        (idxO x.snd.snd.fst (IntKind.i64.wrap (IntKind.i64.wrap (x.snd.snd.snd.snd.fst * x.fst) + x.snd.snd.snd.fst))).bind fun y8 =>
          some (y8 == (1 : Int), ())
      else some (false, ())
    else some (false, ())
  else some (false, ())
else some (false, ())
noncomputable def F24 : CF tC := mkF tC S24 f24
theorem f24_run : ∀ a, fnS tC G24 (look []) Try.f24 S24 a = f24 a := fun a => by kernel_rfl
theorem F24_ok : CFOK tC 24 F24 := mkF_ok Y24 (fn := Try.f24) (body := bodyOf Try.f24) (by kernel_rfl) (by kernel_rfl) (by kernel_rfl) (m := 0) rfl (lam_le lam_nil) f24_run

/-! path.turns -/
noncomputable def G26 : FuncId → Option (CF tC) := look []
theorem Y26 : SysN tC G26 := (sys_nil tC_ok tC_eq)
def S26 : FS := ⟨[], [⟨[], []⟩], [⟨[.one (.agg [.lit .i64 1, .lit .i64 0, .lit .i64 1, .lit .i64 1, .lit .i64 0, .lit .i64 1, .lit .i64 (-1), .lit .i64 1, .lit .i64 (-1), .lit .i64 0, .lit .i64 (-1), .lit .i64 (-1), .lit .i64 0, .lit .i64 (-1), .lit .i64 1, .lit .i64 (-1)])], []⟩], [[.v, .v, .v, .v, .v, .v, .v, .v, .v, .v, .v, .v, .v, .v, .v, .v]], []⟩
def f26  : Unit :=
  ()
noncomputable def F26 : CF tC := mkF tC S26 (fun _ => some ())
theorem f26_run : ∀ a, fnS tC G26 (look []) Try.f26 S26 a = (fun _ => some ()) a := fun a => by kernel_rfl
theorem F26_ok : CFOK tC 26 F26 := mkF_ok Y26 (fn := Try.f26) (body := bodyOf Try.f26) (by kernel_rfl) (by kernel_rfl) (by kernel_rfl) (m := 0) rfl (lam_le lam_nil) f26_run

/-! path.cost -/
noncomputable def G27 : FuncId → Option (CF tC) := look [(24, F24)]
theorem Y27 : SysN tC G27 := (sys_cons F24_ok (mkF_nat _ _) (sys_nil tC_ok tC_eq))
noncomputable def c27_25 : Code := subCode (bodyOf Try.f27) 25
def p27_25 : PS := ⟨0, [6, 9], ⟨vBs 6 ++ [.one (.one (.ptr 0 0 0)), vB, vB, .one (.one (.ptr 1 0 0))] ++ vBs 52, [.box [.int .i64, .int .i64], .box [.int .i64, .int .i64]]⟩, [⟨.ret, [6, 7, 8], ⟨vBs 6 ++ [.one (.one (.ptr 0 0 0)), vI, vO] ++ vBs 53, [.box [.int .i64, .int .i64]]⟩, []⟩], []⟩
noncomputable def j27_25 (x : Int × Int × Int × Int × Unit) : Option (Int × Bool × Int × Int × Unit) :=
  some ((0 : Int), false, x.snd.snd.fst, x.snd.snd.snd.fst, ())
theorem j27_25_run0 (v0 : Int) (v1 : Int) (v2 : Int) (v3 : Int) : pieceK tC G27 (look []) c27_25 p27_25 (v0, v1, v2, v3, ()) = j27_25 (v0, v1, v2, v3, ()) := by kernel_rfl
theorem j27_25_run (x : Int × Int × Int × Int × Unit) : pieceK tC G27 (look []) c27_25 p27_25 x = j27_25 x := j27_25_run0 x.1 x.2.1 x.2.2.1 x.2.2.2.1
noncomputable def W27_25 : LF tC := cutLF tC p27_25 j27_25
theorem W27_25_ok : keyed 25 (bodyOf Try.f27) = [c27_25] ∧ ∀ n, n ≤ 0 → Snd tC n c27_25 W27_25.k := ⟨by kernel_rfl, fun n hn => cut_ok (p := p27_25) Y27 (lam_le lam_nil n hn) hn j27_25_run⟩
def S27 : FS := ⟨[[.v, .v, .s 5], [.v, .v], [.v, .v]], [⟨[.one (.agg [.int .i64, .int .i64, .imm 5]), .one (.agg [.int .i64, .int .i64]), .one (.agg [.int .i64, .int .i64])], []⟩], [⟨[.tup [.agg [.int .i64, .int .i64], .one (.int .i64), .one .bool]], []⟩], [[.v, .v], [.v], [.v]], []⟩
noncomputable def f27 (x : Int × Int × List Int × Int × Int × Int × Int × Unit) : Option (Int × Int × Int × Bool × Unit) :=
  (f24 (x.fst, x.snd.fst, x.snd.snd.fst, x.snd.snd.snd.fst, x.snd.snd.snd.snd.fst, ())).bind fun y37 =>
  bif !y37.fst then
    some
      (IntKind.i64.wrap (x.snd.snd.snd.fst + x.snd.snd.snd.snd.snd.fst),
        IntKind.i64.wrap (x.snd.snd.snd.snd.fst + x.snd.snd.snd.snd.snd.snd.fst), (0 : Int), false, ())
  else
    (f24
          (x.fst, x.snd.fst, x.snd.snd.fst, IntKind.i64.wrap (x.snd.snd.snd.fst + x.snd.snd.snd.snd.snd.fst),
            IntKind.i64.wrap (x.snd.snd.snd.snd.fst + x.snd.snd.snd.snd.snd.snd.fst), ())).bind
      fun y36 =>
      bif !y36.fst then
        some
          (IntKind.i64.wrap (x.snd.snd.snd.fst + x.snd.snd.snd.snd.snd.fst),
            IntKind.i64.wrap (x.snd.snd.snd.snd.fst + x.snd.snd.snd.snd.snd.snd.fst), (0 : Int), false, ())
      else
        bif x.snd.snd.snd.snd.snd.fst == (0 : Int) then
          some
            (IntKind.i64.wrap (x.snd.snd.snd.fst + x.snd.snd.snd.snd.snd.fst),
              IntKind.i64.wrap (x.snd.snd.snd.snd.fst + x.snd.snd.snd.snd.snd.snd.fst), (70 : Int), true, ())
        else
          bif x.snd.snd.snd.snd.snd.snd.fst == (0 : Int) then
            some
              (IntKind.i64.wrap (x.snd.snd.snd.fst + x.snd.snd.snd.snd.snd.fst),
                IntKind.i64.wrap (x.snd.snd.snd.snd.fst + x.snd.snd.snd.snd.snd.snd.fst), (70 : Int), true, ())
          else
            (f24
                  (x.fst, x.snd.fst, x.snd.snd.fst, IntKind.i64.wrap (x.snd.snd.snd.fst + x.snd.snd.snd.snd.snd.fst), x.snd.snd.snd.snd.fst,
                    ())).bind
              fun y35 =>
              bif y35.fst then
                (f24
                      (x.fst, x.snd.fst, x.snd.snd.fst, x.snd.snd.snd.fst,
                        IntKind.i64.wrap (x.snd.snd.snd.snd.fst + x.snd.snd.snd.snd.snd.snd.fst), ())).bind
                  fun y33 =>
                  bif y33.fst then
                    some
                      (IntKind.i64.wrap (x.snd.snd.snd.fst + x.snd.snd.snd.snd.snd.fst),
                        IntKind.i64.wrap (x.snd.snd.snd.snd.fst + x.snd.snd.snd.snd.snd.snd.fst), (99 : Int), true, ())
                  else
                    (j27_25
                          ((0 : Int), (0 : Int), IntKind.i64.wrap (x.snd.snd.snd.fst + x.snd.snd.snd.snd.snd.fst),
                            IntKind.i64.wrap (x.snd.snd.snd.snd.fst + x.snd.snd.snd.snd.snd.snd.fst), ())).bind
                      fun y32 => some (y32.snd.snd.fst, y32.snd.snd.snd.fst, y32.fst, y32.snd.fst, ())
              else
                (j27_25
                      ((0 : Int), (0 : Int), IntKind.i64.wrap (x.snd.snd.snd.fst + x.snd.snd.snd.snd.snd.fst),
                        IntKind.i64.wrap (x.snd.snd.snd.snd.fst + x.snd.snd.snd.snd.snd.snd.fst), ())).bind
                  fun y34 => some (y34.snd.snd.fst, y34.snd.snd.snd.fst, y34.fst, y34.snd.fst, ())
noncomputable def F27 : CF tC := mkF tC S27 f27
theorem f27_run : ∀ a, fnS tC G27 (look [(25, W27_25)]) Try.f27 S27 a = f27 a := fun a => by kernel_rfl
theorem F27_ok : CFOK tC 27 F27 := mkF_ok Y27 (fn := Try.f27) (body := bodyOf Try.f27) (by kernel_rfl) (by kernel_rfl) (by kernel_rfl) (m := 0) rfl (lam_le (lam_cons W27_25_ok lam_nil)) f27_run

/-! bits.Mul64 -/
noncomputable def G67 : FuncId → Option (CF tC) := look []
theorem Y67 : SysN tC G67 := (sys_nil tC_ok tC_eq)
def S67 : FS := ⟨[[.v], [.v]], [⟨[.one (.one (.int .u64)), .one (.one (.int .u64))], []⟩], [⟨[.tup [.one (.int .u64), .one (.int .u64)]], []⟩], [[.v], [.v]], []⟩
def f67 (n1 : Int) (n2 : Int) : Int × Int :=
  (IntKind.u64.wrap
    (IntKind.u64.wrap
        (IntKind.u64.wrap (n1.fdiv (4294967296 : Int) * n2.fdiv (4294967296 : Int)) +
          (IntKind.u64.wrap
                (IntKind.u64.wrap (n1.fdiv (4294967296 : Int) * bits BinOp.and IntKind.u64 n2 (4294967295 : Int)) +
                  (IntKind.u64.wrap
                        (bits BinOp.and IntKind.u64 n1 (4294967295 : Int) * bits BinOp.and IntKind.u64 n2 (4294967295 : Int))).fdiv
                    (4294967296 : Int))).fdiv
            (4294967296 : Int)) +
      (IntKind.u64.wrap
            (bits BinOp.and IntKind.u64
                (IntKind.u64.wrap
                  (IntKind.u64.wrap (n1.fdiv (4294967296 : Int) * bits BinOp.and IntKind.u64 n2 (4294967295 : Int)) +
                    (IntKind.u64.wrap
                          (bits BinOp.and IntKind.u64 n1 (4294967295 : Int) * bits BinOp.and IntKind.u64 n2 (4294967295 : Int))).fdiv
                      (4294967296 : Int)))
                (4294967295 : Int) +
              IntKind.u64.wrap (bits BinOp.and IntKind.u64 n1 (4294967295 : Int) * n2.fdiv (4294967296 : Int)))).fdiv
        (4294967296 : Int)),
  IntKind.u64.wrap (n1 * n2))
noncomputable def F67 : CF tC := mkF tC S67 (fun a => some ((f67 a.1 a.2.1).1, (f67 a.1 a.2.1).2, ()))
def h67 (r : Int × Int) : Option (altTy tE S67.outs) := some (r.1, r.2, ())
theorem f67_run : ∀ a, fnS tC G67 (look []) Try.f67 S67 a = (fun a => some ((f67 a.1 a.2.1).1, (f67 a.1 a.2.1).2, ())) a := fun a => by
  have key : ∀ (n1 : Int) (n2 : Int), (h67
  (IntKind.u64.wrap
      (IntKind.u64.wrap
          (IntKind.u64.wrap (n1.fdiv (4294967296 : Int) * n2.fdiv (4294967296 : Int)) +
            (IntKind.u64.wrap
                  (IntKind.u64.wrap (n1.fdiv (4294967296 : Int) * bits BinOp.and IntKind.u64 n2 (4294967295 : Int)) +
                    (IntKind.u64.wrap
                          (bits BinOp.and IntKind.u64 n1 (4294967295 : Int) * bits BinOp.and IntKind.u64 n2 (4294967295 : Int))).fdiv
                      (4294967296 : Int))).fdiv
              (4294967296 : Int)) +
        (IntKind.u64.wrap
              (bits BinOp.and IntKind.u64
                  (IntKind.u64.wrap
                    (IntKind.u64.wrap (n1.fdiv (4294967296 : Int) * bits BinOp.and IntKind.u64 n2 (4294967295 : Int)) +
                      (IntKind.u64.wrap
                            (bits BinOp.and IntKind.u64 n1 (4294967295 : Int) * bits BinOp.and IntKind.u64 n2 (4294967295 : Int))).fdiv
                        (4294967296 : Int)))
                  (4294967295 : Int) +
                IntKind.u64.wrap (bits BinOp.and IntKind.u64 n1 (4294967295 : Int) * n2.fdiv (4294967296 : Int)))).fdiv
          (4294967296 : Int)),
    IntKind.u64.wrap (n1 * n2))) = h67 (f67 n1 n2) := by
    intros
    unfold f67
    repeat' first | rfl | refine cond_h (g := h67) ?_ ?_
  exact Eq.trans (by kernel_rfl) (key a.1 a.2.1)
theorem F67_ok : CFOK tC 67 F67 := mkF_ok Y67 (fn := Try.f67) (body := bodyOf Try.f67) (by kernel_rfl) (by kernel_rfl) (by kernel_rfl) (m := 0) rfl (lam_le lam_nil) f67_run

/-! bits.Mul -/
noncomputable def G53 : FuncId → Option (CF tC) := look [(67, F67)]
theorem Y53 : SysN tC G53 := (sys_cons F67_ok (mkF_nat _ _) (sys_nil tC_ok tC_eq))
def S53 : FS := ⟨[[.v], [.v]], [⟨[.one (.one (.int .u64)), .one (.one (.int .u64))], []⟩], [⟨[.tup [.one (.int .u64), .one (.int .u64)]], []⟩], [[.v], [.v]], []⟩
def f53 (n1 : Int) (n2 : Int) : Int × Int :=
  ((f67 n1 n2).fst, (f67 n1 n2).snd)
noncomputable def F53 : CF tC := mkF tC S53 (fun a => some ((f53 a.1 a.2.1).1, (f53 a.1 a.2.1).2, ()))
def h53 (r : Int × Int) : Option (altTy tE S53.outs) := some (r.1, r.2, ())
theorem f53_run : ∀ a, fnS tC G53 (look []) Try.f53 S53 a = (fun a => some ((f53 a.1 a.2.1).1, (f53 a.1 a.2.1).2, ())) a := fun a => by
  have key : ∀ (n1 : Int) (n2 : Int), (h53 ((f67 n1 n2).fst, (f67 n1 n2).snd)) = h53 (f53 n1 n2) := by
    intros
    unfold f53
    repeat' first | rfl | refine cond_h (g := h53) ?_ ?_
  exact Eq.trans (by kernel_rfl) (key a.1 a.2.1)
theorem F53_ok : CFOK tC 53 F53 := mkF_ok Y53 (fn := Try.f53) (body := bodyOf Try.f53) (by kernel_rfl) (by kernel_rfl) (by kernel_rfl) (m := 0) rfl (lam_le lam_nil) f53_run

/-! slices.Repeat -/
noncomputable def G44 : FuncId → Option (CF tC) := look [(53, F53)]
theorem Y44 : SysN tC G44 := (sys_cons F53_ok (mkF_nat _ _) (sys_nil tC_ok tC_eq))
noncomputable def c44_0 : Code := loopOf (bodyOf Try.f44) 0
def p44_0 : LS := ⟨0, [7, 8], ⟨vBs 7 ++ [.one (.one (.sl 0)), vI] ++ vBs 39, [.arr 3]⟩, [⟨.exit 0, [7], ⟨vBs 7 ++ [.one (.one (.sl 0))] ++ vBs 40, [.arr 3]⟩, []⟩], []⟩
noncomputable def r44_0 (x : Nat × Int × List Int × Unit) : Option (Nat × Int × List Int × Unit ⊕ Nat × List Int × Unit) :=
  bif decide (x.snd.fst < (↑x.fst : Int)) then
  bif
      decide ((0 : Int) ≤ x.snd.fst) && decide (x.snd.fst ≤ (↑x.fst : Int)) && decide ((↑x.fst : Int) ≤ (↑x.fst : Int)) &&
        decide ((↑x.fst : Int) ≤ (↑x.fst : Int)) then
    bif true && decide ((0 : Int) ≤ x.snd.fst) && decide (x.snd.fst ≤ (↑x.fst : Int)) && decide ((↑x.fst : Int) ≤ (↑x.fst : Int)) then
      bif decide ((0 : Nat) + x.snd.fst.toNat + ((↑x.fst : Int).toNat - x.snd.fst.toNat) ≤ x.snd.snd.fst.length) then
        bif decide ((0 : Nat) + (x.snd.fst.toNat - (0 : Nat)) ≤ x.snd.snd.fst.length) then
          some
            (Sum.inl
              (x.fst,
                IntKind.i64.wrap
                  (x.snd.fst +
                    (↑(min (List.take (x.snd.fst.toNat - (0 : Nat)) (List.drop (0 : Nat) x.snd.snd.fst)).length
                          ((↑x.fst : Int).toNat - x.snd.fst.toNat)) :
                      Int)),
                List.take ((0 : Nat) + x.snd.fst.toNat) x.snd.snd.fst ++
                  (List.take
                      (min (List.take (x.snd.fst.toNat - (0 : Nat)) (List.drop (0 : Nat) x.snd.snd.fst)).length
                        ((↑x.fst : Int).toNat - x.snd.fst.toNat))
                      (List.take (x.snd.fst.toNat - (0 : Nat)) (List.drop (0 : Nat) x.snd.snd.fst)) ++
                    List.drop
                      ((0 : Nat) + x.snd.fst.toNat +
                        min (List.take (x.snd.fst.toNat - (0 : Nat)) (List.drop (0 : Nat) x.snd.snd.fst)).length
                          ((↑x.fst : Int).toNat - x.snd.fst.toNat))
                      x.snd.snd.fst),
                ()))
        else none
      else none
    else none
  else none
else some (Sum.inr (x.fst, x.snd.snd.fst, ()))
theorem r44_0_run0 (v0 : Nat) (v1 : Int) (v2 : List Int) : roundK tC G44 (look []) c44_0 p44_0 (v0, v1, v2, ()) = r44_0 (v0, v1, v2, ()) := by kernel_rfl
theorem r44_0_run (x : Nat × Int × List Int × Unit) : roundK tC G44 (look []) c44_0 p44_0 x = r44_0 x := r44_0_run0 x.1 x.2.1 x.2.2.1
noncomputable def l44_0 (x : Nat × Int × List Int × Unit) : Option (Nat × List Int × Unit) := iterO r44_0 x
noncomputable def W44_0 : LF tC := loopW tC p44_0 0 l44_0
theorem W44_0_ok : keyed 0 (bodyOf Try.f44) = [.block 0 (.loop c44_0)] ∧ ∀ n, n ≤ 0 → Snd tC n (.block 0 (.loop c44_0)) W44_0.k := ⟨by kernel_rfl, fun n hn => loopW_ok (p := p44_0) (id := 0) Y44 (lam_le lam_nil n hn) hn r44_0_run⟩
def S44 : FS := ⟨[[.s 3], [.v]], [⟨[.one (.one (.imm 3)), vI], []⟩], [⟨[.one (.one (.sl 0))], [.arr 3]⟩], [[.v]], [(4, 3)]⟩
noncomputable def f44 (x : List Int × Int × Unit) : Option (Nat × List Int × Unit) :=
  bif decide (x.snd.fst < (0 : Int)) then none
else
  bif decide ((f53 (IntKind.u64.wrap (↑x.fst.length : Int)) (IntKind.u64.wrap x.snd.fst)).fst > (0 : Int)) then none
  else
    bif decide ((f53 (IntKind.u64.wrap (↑x.fst.length : Int)) (IntKind.u64.wrap x.snd.fst)).snd > (9223372036854775807 : Int)) then none
    else
      bif
          decide ((0 : Int) ≤ IntKind.i64.wrap (f53 (IntKind.u64.wrap (↑x.fst.length : Int)) (IntKind.u64.wrap x.snd.fst)).snd) &&
                decide
                  (IntKind.i64.wrap (f53 (IntKind.u64.wrap (↑x.fst.length : Int)) (IntKind.u64.wrap x.snd.fst)).snd ≤
                    IntKind.i64.wrap (f53 (IntKind.u64.wrap (↑x.fst.length : Int)) (IntKind.u64.wrap x.snd.fst)).snd) &&
              decide
                (IntKind.i64.wrap (f53 (IntKind.u64.wrap (↑x.fst.length : Int)) (IntKind.u64.wrap x.snd.fst)).snd * (8 : Int) ≤
                  (140737488355328 : Int)) &&
            decide
              (IntKind.i64.wrap (f53 (IntKind.u64.wrap (↑x.fst.length : Int)) (IntKind.u64.wrap x.snd.fst)).snd ≤
                (140737488355328 : Int)) then
        bif
            decide
              ((0 : Nat) + (IntKind.i64.wrap (f53 (IntKind.u64.wrap (↑x.fst.length : Int)) (IntKind.u64.wrap x.snd.fst)).snd).toNat ≤
                (List.replicate (IntKind.i64.wrap (f53 (IntKind.u64.wrap (↑x.fst.length : Int)) (IntKind.u64.wrap x.snd.fst)).snd).toNat
                    (0 : Int)).length) then
          (l44_0
                ((IntKind.i64.wrap (f53 (IntKind.u64.wrap (↑x.fst.length : Int)) (IntKind.u64.wrap x.snd.fst)).snd).toNat,
                  (↑(min x.fst.length
                        (IntKind.i64.wrap (f53 (IntKind.u64.wrap (↑x.fst.length : Int)) (IntKind.u64.wrap x.snd.fst)).snd).toNat) :
                    Int),
                  [] ++
                    (List.take
                        (min x.fst.length
                          (IntKind.i64.wrap (f53 (IntKind.u64.wrap (↑x.fst.length : Int)) (IntKind.u64.wrap x.snd.fst)).snd).toNat)
                        x.fst ++
                      List.drop
                        ((0 : Nat) +
                          min x.fst.length
                            (IntKind.i64.wrap (f53 (IntKind.u64.wrap (↑x.fst.length : Int)) (IntKind.u64.wrap x.snd.fst)).snd).toNat)
                        (List.replicate
                          (IntKind.i64.wrap (f53 (IntKind.u64.wrap (↑x.fst.length : Int)) (IntKind.u64.wrap x.snd.fst)).snd).toNat
                          (0 : Int))),
                  ())).bind
            fun y12 => some (y12.fst, y12.snd.fst, ())
        else none
      else none
noncomputable def F44 : CF tC := mkF tC S44 f44
theorem f44_run : ∀ a, fnS tC G44 (look [(0, W44_0)]) Try.f44 S44 a = f44 a := fun a => by kernel_rfl
theorem F44_ok : CFOK tC 44 F44 := mkF_ok Y44 (fn := Try.f44) (body := bodyOf Try.f44) (by kernel_rfl) (by kernel_rfl) (by kernel_rfl) (m := 0) rfl (lam_le (lam_cons W44_0_ok lam_nil)) f44_run

/-! push -/
noncomputable def G46 : FuncId → Option (CF tC) := look []
theorem Y46 : SysN tC G46 := (sys_nil tC_ok tC_eq)
noncomputable def c46_0 : Code := loopOf (bodyOf Try.f46) 0
def p46_0 : LS := ⟨2, [0, 4, 5], ⟨[.one (.one (.ptr 1 0 0)), vB, vB, vB, .one (.one (.sl 2)), vI] ++ vBs 50, [.gone, .box [.sl 0], .arr 75]⟩, [⟨.exit 0, [0, 4], ⟨[.one (.one (.ptr 1 0 0)), vB, vB, vB, .one (.one (.sl 2))] ++ vBs 51, [.gone, .box [.sl 0], .arr 75]⟩, []⟩], []⟩
noncomputable def r46_0 (x : Nat × Int × Nat × List Vs × Unit) : Option (Nat × Int × Nat × List Vs × Unit ⊕ Nat × Nat × List Vs × Unit) :=
  bif decide (x.snd.fst > (0 : Int)) then
  bif
      decide ((0 : Int) ≤ IntKind.i64.wrap ((IntKind.i64.wrap (x.snd.fst - (1 : Int))).tdiv (2 : Int))) &&
        decide (IntKind.i64.wrap ((IntKind.i64.wrap (x.snd.fst - (1 : Int))).tdiv (2 : Int)) < (↑x.fst : Int)) then
    x.snd.snd.snd.fst[(0 : Nat) + (IntKind.i64.wrap ((IntKind.i64.wrap (x.snd.fst - (1 : Int))).tdiv (2 : Int))).toNat]?.bind fun y24 =>
      bif decide ((0 : Int) ≤ x.snd.fst) && decide (x.snd.fst < (↑x.fst : Int)) then
        x.snd.snd.snd.fst[(0 : Nat) + x.snd.fst.toNat]?.bind fun y23 =>
          bif decide (y24.N > y23.N) then
            bif
                decide ((0 : Int) ≤ IntKind.i64.wrap ((IntKind.i64.wrap (x.snd.fst - (1 : Int))).tdiv (2 : Int))) &&
                  decide (IntKind.i64.wrap ((IntKind.i64.wrap (x.snd.fst - (1 : Int))).tdiv (2 : Int)) < (↑x.fst : Int)) then
              x.snd.snd.snd.fst[(0 : Nat) + (IntKind.i64.wrap ((IntKind.i64.wrap (x.snd.fst - (1 : Int))).tdiv (2 : Int))).toNat]?.bind
                fun y22 =>
                bif decide ((0 : Int) ≤ x.snd.fst) && decide (x.snd.fst < (↑x.fst : Int)) then
                  x.snd.snd.snd.fst[(0 : Nat) + x.snd.fst.toNat]?.bind fun y21 =>
                    bif decide ((0 : Int) ≤ x.snd.fst) && decide (x.snd.fst < (↑x.fst : Int)) then
                      x.snd.snd.snd.fst[(0 : Nat) + x.snd.fst.toNat]?.bind fun _x =>
                        bif
                            decide ((0 : Int) ≤ IntKind.i64.wrap ((IntKind.i64.wrap (x.snd.fst - (1 : Int))).tdiv (2 : Int))) &&
                              decide (IntKind.i64.wrap ((IntKind.i64.wrap (x.snd.fst - (1 : Int))).tdiv (2 : Int)) < (↑x.fst : Int)) then
                          (x.snd.snd.snd.fst.set ((0 : Nat) + x.snd.fst.toNat)
                                  (Vs.mk y22.X y22.Y
                                    y22.N))[(0 : Nat) +
                                  (IntKind.i64.wrap ((IntKind.i64.wrap (x.snd.fst - (1 : Int))).tdiv (2 : Int))).toNat]?.bind
                            fun _x =>
                            some
                              (Sum.inl
                                (x.fst, IntKind.i64.wrap ((IntKind.i64.wrap (x.snd.fst - (1 : Int))).tdiv (2 : Int)), x.snd.snd.fst,
                                  (x.snd.snd.snd.fst.set ((0 : Nat) + x.snd.fst.toNat) (Vs.mk y22.X y22.Y y22.N)).set
                                    ((0 : Nat) + (IntKind.i64.wrap ((IntKind.i64.wrap (x.snd.fst - (1 : Int))).tdiv (2 : Int))).toNat)
                                    (Vs.mk y21.X y21.Y y21.N),
                                  ()))
                        else none
                    else none
                else none
            else none
          else some (Sum.inr (x.fst, x.snd.snd.fst, x.snd.snd.snd.fst, ()))
      else none
  else none
else some (Sum.inr (x.fst, x.snd.snd.fst, x.snd.snd.snd.fst, ()))
theorem r46_0_run0 (v0 : Nat) (v1 : Int) (v2 : Nat) (v3 : List Vs) : roundK tC G46 (look []) c46_0 p46_0 (v0, v1, v2, v3, ()) = r46_0 (v0, v1, v2, v3, ()) := by kernel_rfl
theorem r46_0_run (x : Nat × Int × Nat × List Vs × Unit) : roundK tC G46 (look []) c46_0 p46_0 x = r46_0 x := r46_0_run0 x.1 x.2.1 x.2.2.1 x.2.2.2.1
noncomputable def l46_0 (x : Nat × Int × Nat × List Vs × Unit) : Option (Nat × Nat × List Vs × Unit) := iterO r46_0 x
noncomputable def W46_0 : LF tC := loopW tC p46_0 0 l46_0
theorem W46_0_ok : keyed 0 (bodyOf Try.f46) = [.block 0 (.loop c46_0)] ∧ ∀ n, n ≤ 2 → Snd tC n (.block 0 (.loop c46_0)) W46_0.k := ⟨by kernel_rfl, fun n hn => loopW_ok (p := p46_0) (id := 0) Y46 (lam_le lam_nil n hn) hn r46_0_run⟩
def S46 : FS := ⟨[[.p], [.v, .v, .v]], [⟨[.one (.one (.ptr 1 0 0)), .one (.agg [.int .i64, .int .i64, .int .i64])], [.arr 75, .box [.sl 0]]⟩], [⟨[.tup []], [.gone, .box [.sl 2], .arr 75]⟩], [], []⟩
noncomputable def f46 (x : Int × Int × Int × List Vs × Nat × Unit) : Option (Nat × List Vs × Unit) :=
  bif decide ((0 : Nat) + x.snd.snd.snd.snd.fst ≤ x.snd.snd.snd.fst.length) then
  bif roomy (x.snd.snd.snd.snd.fst + (1 : Nat)) (24 : Nat) then
    (l46_0
          (x.snd.snd.snd.snd.fst + (1 : Nat), IntKind.i64.wrap ((↑(x.snd.snd.snd.snd.fst + (1 : Nat)) : Int) - (1 : Int)),
            x.snd.snd.snd.snd.fst,
            List.take x.snd.snd.snd.snd.fst (List.drop (0 : Nat) x.snd.snd.snd.fst) ++ [Vs.mk x.fst x.snd.fst x.snd.snd.fst], ())).bind
      fun y30 => some (y30.fst, y30.snd.snd.fst, ())
  else none
else none
noncomputable def F46 : CF tC := mkF tC S46 f46
theorem f46_run : ∀ a, fnS tC G46 (look [(0, W46_0)]) Try.f46 S46 a = f46 a := fun a => by kernel_rfl
theorem F46_ok : CFOK tC 46 F46 := mkF_ok Y46 (fn := Try.f46) (body := bodyOf Try.f46) (by kernel_rfl) (by kernel_rfl) (by kernel_rfl) (m := 2) rfl (lam_le (lam_cons W46_0_ok lam_nil)) f46_run

/-! pop -/
noncomputable def G45 : FuncId → Option (CF tC) := look []
theorem Y45 : SysN tC G45 := (sys_nil tC_ok tC_eq)
noncomputable def c45_37 : Code := subCode (loopOf (loopOf (bodyOf Try.f45) 0) 2) 37
def p45_37 : PS := ⟨2, [0, 2, 3, 4, 5, 6, 35, 36], ⟨[.one (.one (.ptr 1 0 0)), vB, .one (.one (.ptr 2 0 0)), .one (.one (.sl 0)), .one (.one (.ptr 3 0 0)), vI, vI] ++ vBs 28 ++ [.one (.agg [.int .i64, .int .i64]), vI] ++ vBs 43, [.arr 75, .box [.sl 0], .box [.int .i64, .int .i64, .int .i64], .box [.int .i64, .int .i64, .int .i64]]⟩, [⟨.normal, [0, 2, 3, 4, 5, 6, 35, 36], ⟨[.one (.one (.ptr 1 0 0)), vB, .one (.one (.ptr 2 0 0)), .one (.one (.sl 0)), .one (.one (.ptr 3 0 0)), vI, vI] ++ vBs 28 ++ [.one (.agg [.int .i64, .int .i64]), vI] ++ vBs 43, [.arr 75, .box [.sl 0], .box [.int .i64, .int .i64, .int .i64], .box [.int .i64, .int .i64, .int .i64]]⟩, []⟩], []⟩
noncomputable def j45_37 (x : Nat × Int × Int × Int × Int × Int × List Vs × Nat × Int × Int × Int × Int × Int × Int × Unit) : Option (Nat × Int × Int × Int × Int × Int × List Vs × Nat × Int × Int × Int × Int × Int × Int × Unit) :=
  some
  (x.fst, x.snd.fst, x.snd.snd.fst, x.snd.snd.snd.fst, x.snd.snd.snd.snd.fst, IntKind.i64.wrap (x.snd.snd.snd.snd.snd.fst + (1 : Int)),
    x.snd.snd.snd.snd.snd.snd.fst, x.snd.snd.snd.snd.snd.snd.snd.fst, x.snd.snd.snd.snd.snd.snd.snd.snd.fst,
    x.snd.snd.snd.snd.snd.snd.snd.snd.snd.fst, x.snd.snd.snd.snd.snd.snd.snd.snd.snd.snd.fst,
    x.snd.snd.snd.snd.snd.snd.snd.snd.snd.snd.snd.fst, x.snd.snd.snd.snd.snd.snd.snd.snd.snd.snd.snd.snd.fst,
    x.snd.snd.snd.snd.snd.snd.snd.snd.snd.snd.snd.snd.snd.fst, ())
theorem j45_37_run0 (v0 : Nat) (v1 : Int) (v2 : Int) (v3 : Int) (v4 : Int) (v5 : Int) (v6 : List Vs) (v7 : Nat) (v8 : Int) (v9 : Int) (v10 : Int) (v11 : Int) (v12 : Int) (v13 : Int) : pieceK tC G45 (look []) c45_37 p45_37 (v0, v1, v2, v3, v4, v5, v6, v7, v8, v9, v10, v11, v12, v13, ()) = j45_37 (v0, v1, v2, v3, v4, v5, v6, v7, v8, v9, v10, v11, v12, v13, ()) := by kernel_rfl
theorem j45_37_run (x : Nat × Int × Int × Int × Int × Int × List Vs × Nat × Int × Int × Int × Int × Int × Int × Unit) : pieceK tC G45 (look []) c45_37 p45_37 x = j45_37 x := j45_37_run0 x.1 x.2.1 x.2.2.1 x.2.2.2.1 x.2.2.2.2.1 x.2.2.2.2.2.1 x.2.2.2.2.2.2.1 x.2.2.2.2.2.2.2.1 x.2.2.2.2.2.2.2.2.1 x.2.2.2.2.2.2.2.2.2.1 x.2.2.2.2.2.2.2.2.2.2.1 x.2.2.2.2.2.2.2.2.2.2.2.1 x.2.2.2.2.2.2.2.2.2.2.2.2.1 x.2.2.2.2.2.2.2.2.2.2.2.2.2.1
noncomputable def W45_37 : LF tC := cutLF tC p45_37 j45_37
theorem W45_37_ok : keyed 37 (loopOf (loopOf (bodyOf Try.f45) 0) 2) = [c45_37] ∧ ∀ n, n ≤ 2 → Snd tC n c45_37 W45_37.k := ⟨by kernel_rfl, fun n hn => cut_ok (p := p45_37) Y45 (lam_le lam_nil n hn) hn j45_37_run⟩
noncomputable def c45_6 : Code := loopOf (loopOf (bodyOf Try.f45) 0) 2
def p45_6 : LS := ⟨2, [0, 2, 3, 4, 5, 6, 35, 36], ⟨[.one (.one (.ptr 1 0 0)), vB, .one (.one (.ptr 2 0 0)), .one (.one (.sl 0)), .one (.one (.ptr 3 0 0)), vI, vI] ++ vBs 28 ++ [.one (.agg [.int .i64, .int .i64]), vI] ++ vBs 43, [.arr 75, .box [.sl 0], .box [.int .i64, .int .i64, .int .i64], .box [.int .i64, .int .i64, .int .i64]]⟩, [⟨.exit 2, [0, 2, 3, 4, 5, 6], ⟨[.one (.one (.ptr 1 0 0)), vB, .one (.one (.ptr 2 0 0)), .one (.one (.sl 0)), .one (.one (.ptr 3 0 0)), vI, vI] ++ vBs 73, [.arr 75, .box [.sl 0], .box [.int .i64, .int .i64, .int .i64], .box [.int .i64, .int .i64, .int .i64]]⟩, []⟩], []⟩
noncomputable def r45_6 (x : Nat × Int × Int × Int × Int × Int × List Vs × Nat × Int × Int × Int × Int × Int × Int × Unit) : Option
  (Nat × Int × Int × Int × Int × Int × List Vs × Nat × Int × Int × Int × Int × Int × Int × Unit ⊕
    Nat × Int × Int × List Vs × Nat × Int × Int × Int × Int × Int × Int × Unit) :=
  bif decide (x.snd.snd.snd.snd.snd.fst < (2 : Int)) then
  bif decide ((0 : Int) ≤ x.snd.snd.snd.snd.snd.fst) && decide (x.snd.snd.snd.snd.snd.fst < (2 : Int)) then
    (idxO [x.snd.snd.snd.fst, x.snd.snd.snd.snd.fst] x.snd.snd.snd.snd.snd.fst).bind fun y119 =>
      bif decide (y119 < (↑x.fst : Int)) then
        bif decide ((0 : Int) ≤ y119) && decide (y119 < (↑x.fst : Int)) then
          x.snd.snd.snd.snd.snd.snd.fst[(0 : Nat) + y119.toNat]?.bind fun y117 =>
            bif decide ((0 : Int) ≤ x.snd.snd.fst) && decide (x.snd.snd.fst < (↑x.fst : Int)) then
              x.snd.snd.snd.snd.snd.snd.fst[(0 : Nat) + x.snd.snd.fst.toNat]?.bind fun y116 =>
                bif decide (y117.N < y116.N) then
                  (j45_37
                        (x.fst, x.snd.fst, y119, x.snd.snd.snd.fst, x.snd.snd.snd.snd.fst, x.snd.snd.snd.snd.snd.fst,
                          x.snd.snd.snd.snd.snd.snd.fst, x.snd.snd.snd.snd.snd.snd.snd.fst, x.snd.snd.snd.snd.snd.snd.snd.snd.fst,
                          x.snd.snd.snd.snd.snd.snd.snd.snd.snd.fst, x.snd.snd.snd.snd.snd.snd.snd.snd.snd.snd.fst,
                          x.snd.snd.snd.snd.snd.snd.snd.snd.snd.snd.snd.fst, x.snd.snd.snd.snd.snd.snd.snd.snd.snd.snd.snd.snd.fst,
                          x.snd.snd.snd.snd.snd.snd.snd.snd.snd.snd.snd.snd.snd.fst, ())).bind
                    fun y114 =>
                    some
                      (Sum.inl
                        (y114.fst, y114.snd.fst, y114.snd.snd.fst, y114.snd.snd.snd.fst, y114.snd.snd.snd.snd.fst,
                          y114.snd.snd.snd.snd.snd.fst, y114.snd.snd.snd.snd.snd.snd.fst, y114.snd.snd.snd.snd.snd.snd.snd.fst,
                          y114.snd.snd.snd.snd.snd.snd.snd.snd.fst, y114.snd.snd.snd.snd.snd.snd.snd.snd.snd.fst,
                          y114.snd.snd.snd.snd.snd.snd.snd.snd.snd.snd.fst, y114.snd.snd.snd.snd.snd.snd.snd.snd.snd.snd.snd.fst,
                          y114.snd.snd.snd.snd.snd.snd.snd.snd.snd.snd.snd.snd.fst,
                          y114.snd.snd.snd.snd.snd.snd.snd.snd.snd.snd.snd.snd.snd.fst, ()))
                else
                  (j45_37
                        (x.fst, x.snd.fst, x.snd.snd.fst, x.snd.snd.snd.fst, x.snd.snd.snd.snd.fst, x.snd.snd.snd.snd.snd.fst,
                          x.snd.snd.snd.snd.snd.snd.fst, x.snd.snd.snd.snd.snd.snd.snd.fst, x.snd.snd.snd.snd.snd.snd.snd.snd.fst,
                          x.snd.snd.snd.snd.snd.snd.snd.snd.snd.fst, x.snd.snd.snd.snd.snd.snd.snd.snd.snd.snd.fst,
                          x.snd.snd.snd.snd.snd.snd.snd.snd.snd.snd.snd.fst, x.snd.snd.snd.snd.snd.snd.snd.snd.snd.snd.snd.snd.fst,
                          x.snd.snd.snd.snd.snd.snd.snd.snd.snd.snd.snd.snd.snd.fst, ())).bind
                    fun y115 =>
                    some
                      (Sum.inl
                        (y115.fst, y115.snd.fst, y115.snd.snd.fst, y115.snd.snd.snd.fst, y115.snd.snd.snd.snd.fst,
                          y115.snd.snd.snd.snd.snd.fst, y115.snd.snd.snd.snd.snd.snd.fst, y115.snd.snd.snd.snd.snd.snd.snd.fst,
                          y115.snd.snd.snd.snd.snd.snd.snd.snd.fst, y115.snd.snd.snd.snd.snd.snd.snd.snd.snd.fst,
                          y115.snd.snd.snd.snd.snd.snd.snd.snd.snd.snd.fst, y115.snd.snd.snd.snd.snd.snd.snd.snd.snd.snd.snd.fst,
                          y115.snd.snd.snd.snd.snd.snd.snd.snd.snd.snd.snd.snd.fst,
                          y115.snd.snd.snd.snd.snd.snd.snd.snd.snd.snd.snd.snd.snd.fst, ()))
            else none
        else none
      else
        (j45_37
              (x.fst, x.snd.fst, x.snd.snd.fst, x.snd.snd.snd.fst, x.snd.snd.snd.snd.fst, x.snd.snd.snd.snd.snd.fst,
                x.snd.snd.snd.snd.snd.snd.fst, x.snd.snd.snd.snd.snd.snd.snd.fst, x.snd.snd.snd.snd.snd.snd.snd.snd.fst,
                x.snd.snd.snd.snd.snd.snd.snd.snd.snd.fst, x.snd.snd.snd.snd.snd.snd.snd.snd.snd.snd.fst,
                x.snd.snd.snd.snd.snd.snd.snd.snd.snd.snd.snd.fst, x.snd.snd.snd.snd.snd.snd.snd.snd.snd.snd.snd.snd.fst,
                x.snd.snd.snd.snd.snd.snd.snd.snd.snd.snd.snd.snd.snd.fst, ())).bind
          fun y118 =>
          some
            (Sum.inl
              (y118.fst, y118.snd.fst, y118.snd.snd.fst, y118.snd.snd.snd.fst, y118.snd.snd.snd.snd.fst, y118.snd.snd.snd.snd.snd.fst,
                y118.snd.snd.snd.snd.snd.snd.fst, y118.snd.snd.snd.snd.snd.snd.snd.fst, y118.snd.snd.snd.snd.snd.snd.snd.snd.fst,
                y118.snd.snd.snd.snd.snd.snd.snd.snd.snd.fst, y118.snd.snd.snd.snd.snd.snd.snd.snd.snd.snd.fst,
                y118.snd.snd.snd.snd.snd.snd.snd.snd.snd.snd.snd.fst, y118.snd.snd.snd.snd.snd.snd.snd.snd.snd.snd.snd.snd.fst,
                y118.snd.snd.snd.snd.snd.snd.snd.snd.snd.snd.snd.snd.snd.fst, ()))
  else none
else
  some
    (Sum.inr
      (x.fst, x.snd.fst, x.snd.snd.fst, x.snd.snd.snd.snd.snd.snd.fst, x.snd.snd.snd.snd.snd.snd.snd.fst,
        x.snd.snd.snd.snd.snd.snd.snd.snd.fst, x.snd.snd.snd.snd.snd.snd.snd.snd.snd.fst, x.snd.snd.snd.snd.snd.snd.snd.snd.snd.snd.fst,
        x.snd.snd.snd.snd.snd.snd.snd.snd.snd.snd.snd.fst, x.snd.snd.snd.snd.snd.snd.snd.snd.snd.snd.snd.snd.fst,
        x.snd.snd.snd.snd.snd.snd.snd.snd.snd.snd.snd.snd.snd.fst, ()))
theorem r45_6_run0 (v0 : Nat) (v1 : Int) (v2 : Int) (v3 : Int) (v4 : Int) (v5 : Int) (v6 : List Vs) (v7 : Nat) (v8 : Int) (v9 : Int) (v10 : Int) (v11 : Int) (v12 : Int) (v13 : Int) : roundK tC G45 (look [(37, W45_37)]) c45_6 p45_6 (v0, v1, v2, v3, v4, v5, v6, v7, v8, v9, v10, v11, v12, v13, ()) = r45_6 (v0, v1, v2, v3, v4, v5, v6, v7, v8, v9, v10, v11, v12, v13, ()) := by kernel_rfl
theorem r45_6_run (x : Nat × Int × Int × Int × Int × Int × List Vs × Nat × Int × Int × Int × Int × Int × Int × Unit) : roundK tC G45 (look [(37, W45_37)]) c45_6 p45_6 x = r45_6 x := r45_6_run0 x.1 x.2.1 x.2.2.1 x.2.2.2.1 x.2.2.2.2.1 x.2.2.2.2.2.1 x.2.2.2.2.2.2.1 x.2.2.2.2.2.2.2.1 x.2.2.2.2.2.2.2.2.1 x.2.2.2.2.2.2.2.2.2.1 x.2.2.2.2.2.2.2.2.2.2.1 x.2.2.2.2.2.2.2.2.2.2.2.1 x.2.2.2.2.2.2.2.2.2.2.2.2.1 x.2.2.2.2.2.2.2.2.2.2.2.2.2.1
noncomputable def l45_6 (x : Nat × Int × Int × Int × Int × Int × List Vs × Nat × Int × Int × Int × Int × Int × Int × Unit) : Option (Nat × Int × Int × List Vs × Nat × Int × Int × Int × Int × Int × Int × Unit) := iterO r45_6 x
noncomputable def W45_6 : LF tC := loopW tC p45_6 2 l45_6
theorem W45_6_ok : keyed 6 (loopOf (bodyOf Try.f45) 0) = [.block 2 (.loop c45_6)] ∧ ∀ n, n ≤ 2 → Snd tC n (.block 2 (.loop c45_6)) W45_6.k := ⟨by kernel_rfl, fun n hn => loopW_ok (p := p45_6) (id := 2) Y45 (lam_le (lam_cons W45_37_ok lam_nil) n hn) hn r45_6_run⟩
noncomputable def c45_0 : Code := loopOf (bodyOf Try.f45) 0
def p45_0 : LS := ⟨2, [0, 2, 3, 4, 5], ⟨[.one (.one (.ptr 1 0 0)), vB, .one (.one (.ptr 2 0 0)), .one (.one (.sl 0)), .one (.one (.ptr 3 0 0)), vI] ++ vBs 74, [.arr 75, .box [.sl 0], .box [.int .i64, .int .i64, .int .i64], .box [.int .i64, .int .i64, .int .i64]]⟩, [⟨.exit 0, [0, 2, 3, 4], ⟨[.one (.one (.ptr 1 0 0)), vB, .one (.one (.ptr 2 0 0)), .one (.one (.sl 0)), .one (.one (.ptr 3 0 0))] ++ vBs 75, [.arr 75, .box [.sl 0], .box [.int .i64, .int .i64, .int .i64], .box [.int .i64, .int .i64, .int .i64]]⟩, []⟩], []⟩
noncomputable def r45_0 (x : Nat × Int × List Vs × Nat × Int × Int × Int × Int × Int × Int × Unit) : Option
  (Nat × Int × List Vs × Nat × Int × Int × Int × Int × Int × Int × Unit ⊕ Nat × List Vs × Nat × Int × Int × Int × Int × Int × Int × Unit) :=
  (l45_6
      (x.fst, x.snd.fst, x.snd.fst, IntKind.i64.wrap (IntKind.i64.wrap ((2 : Int) * x.snd.fst) + (1 : Int)),
        IntKind.i64.wrap (IntKind.i64.wrap ((2 : Int) * x.snd.fst) + (2 : Int)), (0 : Int), x.snd.snd.fst, x.snd.snd.snd.fst,
        x.snd.snd.snd.snd.fst, x.snd.snd.snd.snd.snd.fst, x.snd.snd.snd.snd.snd.snd.fst, x.snd.snd.snd.snd.snd.snd.snd.fst,
        x.snd.snd.snd.snd.snd.snd.snd.snd.fst, x.snd.snd.snd.snd.snd.snd.snd.snd.snd.fst, ())).bind
  fun y148 =>
  bif y148.snd.snd.fst == y148.snd.fst then
    some
      (Sum.inr
        (y148.fst, y148.snd.snd.snd.fst, y148.snd.snd.snd.snd.fst, y148.snd.snd.snd.snd.snd.fst, y148.snd.snd.snd.snd.snd.snd.fst,
          y148.snd.snd.snd.snd.snd.snd.snd.fst, y148.snd.snd.snd.snd.snd.snd.snd.snd.fst, y148.snd.snd.snd.snd.snd.snd.snd.snd.snd.fst,
          y148.snd.snd.snd.snd.snd.snd.snd.snd.snd.snd.fst, ()))
  else
    bif decide ((0 : Int) ≤ y148.snd.snd.fst) && decide (y148.snd.snd.fst < (↑y148.fst : Int)) then
      y148.snd.snd.snd.fst[(0 : Nat) + y148.snd.snd.fst.toNat]?.bind fun y147 =>
        bif decide ((0 : Int) ≤ y148.snd.fst) && decide (y148.snd.fst < (↑y148.fst : Int)) then
          y148.snd.snd.snd.fst[(0 : Nat) + y148.snd.fst.toNat]?.bind fun y146 =>
            bif decide ((0 : Int) ≤ y148.snd.fst) && decide (y148.snd.fst < (↑y148.fst : Int)) then
              y148.snd.snd.snd.fst[(0 : Nat) + y148.snd.fst.toNat]?.bind fun _x =>
                bif decide ((0 : Int) ≤ y148.snd.snd.fst) && decide (y148.snd.snd.fst < (↑y148.fst : Int)) then
                  (y148.snd.snd.snd.fst.set ((0 : Nat) + y148.snd.fst.toNat)
                          (Vs.mk y147.X y147.Y y147.N))[(0 : Nat) + y148.snd.snd.fst.toNat]?.bind
                    fun _x =>
                    some
                      (Sum.inl
                        (y148.fst, y148.snd.snd.fst,
                          (y148.snd.snd.snd.fst.set ((0 : Nat) + y148.snd.fst.toNat) (Vs.mk y147.X y147.Y y147.N)).set
                            ((0 : Nat) + y148.snd.snd.fst.toNat) (Vs.mk y146.X y146.Y y146.N),
                          y148.snd.snd.snd.snd.fst, y148.snd.snd.snd.snd.snd.fst, y148.snd.snd.snd.snd.snd.snd.fst,
                          y148.snd.snd.snd.snd.snd.snd.snd.fst, y148.snd.snd.snd.snd.snd.snd.snd.snd.fst,
                          y148.snd.snd.snd.snd.snd.snd.snd.snd.snd.fst, y148.snd.snd.snd.snd.snd.snd.snd.snd.snd.snd.fst, ()))
                else none
            else none
        else none
    else none
theorem r45_0_run0 (v0 : Nat) (v1 : Int) (v2 : List Vs) (v3 : Nat) (v4 : Int) (v5 : Int) (v6 : Int) (v7 : Int) (v8 : Int) (v9 : Int) : roundK tC G45 (look [(6, W45_6)]) c45_0 p45_0 (v0, v1, v2, v3, v4, v5, v6, v7, v8, v9, ()) = r45_0 (v0, v1, v2, v3, v4, v5, v6, v7, v8, v9, ()) := by kernel_rfl
theorem r45_0_run (x : Nat × Int × List Vs × Nat × Int × Int × Int × Int × Int × Int × Unit) : roundK tC G45 (look [(6, W45_6)]) c45_0 p45_0 x = r45_0 x := r45_0_run0 x.1 x.2.1 x.2.2.1 x.2.2.2.1 x.2.2.2.2.1 x.2.2.2.2.2.1 x.2.2.2.2.2.2.1 x.2.2.2.2.2.2.2.1 x.2.2.2.2.2.2.2.2.1 x.2.2.2.2.2.2.2.2.2.1
noncomputable def l45_0 (x : Nat × Int × List Vs × Nat × Int × Int × Int × Int × Int × Int × Unit) : Option (Nat × List Vs × Nat × Int × Int × Int × Int × Int × Int × Unit) := iterO r45_0 x
noncomputable def W45_0 : LF tC := loopW tC p45_0 0 l45_0
theorem W45_0_ok : keyed 0 (bodyOf Try.f45) = [.block 0 (.loop c45_0)] ∧ ∀ n, n ≤ 2 → Snd tC n (.block 0 (.loop c45_0)) W45_0.k := ⟨by kernel_rfl, fun n hn => loopW_ok (p := p45_0) (id := 0) Y45 (lam_le (lam_cons W45_6_ok lam_nil) n hn) hn r45_0_run⟩
def S45 : FS := ⟨[[.p]], [⟨[.one (.one (.ptr 1 0 0))], [.arr 75, .box [.sl 0]]⟩], [⟨[.one (.agg [.int .i64, .int .i64, .int .i64])], [.arr 75, .box [.sl 0]]⟩], [[.v, .v, .v]], []⟩
noncomputable def f45 (x : List Vs × Nat × Unit) : Option (Int × Int × Int × List Vs × Nat × Unit) :=
  bif true && decide ((0 : Int) < (↑x.snd.fst : Int)) then
  x.fst[(0 : Nat)]?.bind fun y166 =>
    bif
        decide ((0 : Int) ≤ IntKind.i64.wrap ((↑x.snd.fst : Int) - (1 : Int))) &&
          decide (IntKind.i64.wrap ((↑x.snd.fst : Int) - (1 : Int)) < (↑x.snd.fst : Int)) then
      x.fst[(0 : Nat) + (IntKind.i64.wrap ((↑x.snd.fst : Int) - (1 : Int))).toNat]?.bind fun y165 =>
        bif true && decide ((0 : Int) < (↑x.snd.fst : Int)) then
          x.fst[(0 : Nat)]?.bind fun _x =>
            bif
                true && decide ((0 : Int) ≤ IntKind.i64.wrap ((↑x.snd.fst : Int) - (1 : Int))) &&
                    decide (IntKind.i64.wrap ((↑x.snd.fst : Int) - (1 : Int)) ≤ (↑x.snd.fst : Int)) &&
                  decide ((↑x.snd.fst : Int) ≤ (↑x.snd.fst : Int)) then
              (l45_0
                    ((IntKind.i64.wrap ((↑x.snd.fst : Int) - (1 : Int))).toNat - (0 : Nat), (0 : Int),
                      x.fst.set (0 : Nat) (Vs.mk y165.X y165.Y y165.N), x.snd.fst, (0 : Int), (0 : Int), (0 : Int), y166.X, y166.Y, y166.N,
                      ())).bind
                fun y163 =>
                some
                  (y163.snd.snd.snd.snd.snd.snd.fst, y163.snd.snd.snd.snd.snd.snd.snd.fst, y163.snd.snd.snd.snd.snd.snd.snd.snd.fst,
                    y163.snd.fst, y163.fst, ())
            else none
        else none
    else none
else none
noncomputable def F45 : CF tC := mkF tC S45 f45
theorem f45_run : ∀ a, fnS tC G45 (look [(0, W45_0)]) Try.f45 S45 a = f45 a := fun a => by kernel_rfl
theorem F45_ok : CFOK tC 45 F45 := mkF_ok Y45 (fn := Try.f45) (body := bodyOf Try.f45) (by kernel_rfl) (by kernel_rfl) (by kernel_rfl) (m := 2) rfl (lam_le (lam_cons W45_0_ok lam_nil)) f45_run

/-! path.costs -/
noncomputable def G25 : FuncId → Option (CF tC) := look [(44, F44), (45, F45), (46, F46), (26, F26), (27, F27)]
theorem Y25 : SysN tC G25 := (sys_cons F44_ok (mkF_nat _ _) (sys_cons F45_ok (mkF_nat _ _) (sys_cons F46_ok (mkF_nat _ _) (sys_cons F26_ok (mkF_nat _ _) (sys_cons F27_ok (mkF_nat _ _) (sys_nil tC_ok tC_eq))))))
noncomputable def c25_43 : Code := subCode (loopOf (loopOf (bodyOf Try.f25) 0) 2) 43
def p25_43 : PS := ⟨0, [2, 5, 6, 7, 48, 49], ⟨[vB, vB, .one (.one (.ptr 0 0 0)), vB, vB, .one (.one (.sl 1)), .one (.one (.ptr 2 0 0)), .one (.one (.ptr 3 0 0))] ++ vBs 40 ++ [.one (.agg [.lit .i64 1, .lit .i64 0, .lit .i64 1, .lit .i64 1, .lit .i64 0, .lit .i64 1, .lit .i64 (-1), .lit .i64 1, .lit .i64 (-1), .lit .i64 0, .lit .i64 (-1), .lit .i64 (-1), .lit .i64 0, .lit .i64 (-1), .lit .i64 1, .lit .i64 (-1)]), vI] ++ vBs 35, [.box [.int .i64, .int .i64, .imm 5], .arr 3, .box [.sl 4], .box [.int .i64, .int .i64, .int .i64], .arr 75]⟩, [⟨.normal, [2, 5, 6, 7, 48, 49], ⟨[vB, vB, .one (.one (.ptr 0 0 0)), vB, vB, .one (.one (.sl 1)), .one (.one (.ptr 2 0 0)), .one (.one (.ptr 3 0 0))] ++ vBs 40 ++ [.one (.agg [.lit .i64 1, .lit .i64 0, .lit .i64 1, .lit .i64 1, .lit .i64 0, .lit .i64 1, .lit .i64 (-1), .lit .i64 1, .lit .i64 (-1), .lit .i64 0, .lit .i64 (-1), .lit .i64 (-1), .lit .i64 0, .lit .i64 (-1), .lit .i64 1, .lit .i64 (-1)]), vI] ++ vBs 35, [.box [.int .i64, .int .i64, .imm 5], .arr 3, .box [.sl 4], .box [.int .i64, .int .i64, .int .i64], .arr 75]⟩, []⟩], []⟩
noncomputable def j25_43 (x : Nat × Int × Int × Int × List Int × List Int × Nat × Int × Int × Int × List Vs × Unit) : Option (Nat × Int × Int × Int × List Int × List Int × Nat × Int × Int × Int × List Vs × Unit) :=
  some
  (x.fst, IntKind.i64.wrap (x.snd.fst + (1 : Int)), x.snd.snd.fst, x.snd.snd.snd.fst, x.snd.snd.snd.snd.fst, x.snd.snd.snd.snd.snd.fst,
    x.snd.snd.snd.snd.snd.snd.fst, x.snd.snd.snd.snd.snd.snd.snd.fst, x.snd.snd.snd.snd.snd.snd.snd.snd.fst,
    x.snd.snd.snd.snd.snd.snd.snd.snd.snd.fst, x.snd.snd.snd.snd.snd.snd.snd.snd.snd.snd.fst, ())
theorem j25_43_run0 (v0 : Nat) (v1 : Int) (v2 : Int) (v3 : Int) (v4 : List Int) (v5 : List Int) (v6 : Nat) (v7 : Int) (v8 : Int) (v9 : Int) (v10 : List Vs) : pieceK tC G25 (look []) c25_43 p25_43 (v0, v1, v2, v3, v4, v5, v6, v7, v8, v9, v10, ()) = j25_43 (v0, v1, v2, v3, v4, v5, v6, v7, v8, v9, v10, ()) := by kernel_rfl
theorem j25_43_run (x : Nat × Int × Int × Int × List Int × List Int × Nat × Int × Int × Int × List Vs × Unit) : pieceK tC G25 (look []) c25_43 p25_43 x = j25_43 x := j25_43_run0 x.1 x.2.1 x.2.2.1 x.2.2.2.1 x.2.2.2.2.1 x.2.2.2.2.2.1 x.2.2.2.2.2.2.1 x.2.2.2.2.2.2.2.1 x.2.2.2.2.2.2.2.2.1 x.2.2.2.2.2.2.2.2.2.1 x.2.2.2.2.2.2.2.2.2.2.1
noncomputable def W25_43 : LF tC := cutLF tC p25_43 j25_43
theorem W25_43_ok : keyed 43 (loopOf (loopOf (bodyOf Try.f25) 0) 2) = [c25_43] ∧ ∀ n, n ≤ 0 → Snd tC n c25_43 W25_43.k := ⟨by kernel_rfl, fun n hn => cut_ok (p := p25_43) Y25 (lam_le lam_nil n hn) hn j25_43_run⟩
noncomputable def c25_6 : Code := loopOf (loopOf (bodyOf Try.f25) 0) 2
def p25_6 : LS := ⟨0, [2, 5, 6, 7, 48, 49], ⟨[vB, vB, .one (.one (.ptr 0 0 0)), vB, vB, .one (.one (.sl 1)), .one (.one (.ptr 2 0 0)), .one (.one (.ptr 3 0 0))] ++ vBs 40 ++ [.one (.agg [.lit .i64 1, .lit .i64 0, .lit .i64 1, .lit .i64 1, .lit .i64 0, .lit .i64 1, .lit .i64 (-1), .lit .i64 1, .lit .i64 (-1), .lit .i64 0, .lit .i64 (-1), .lit .i64 (-1), .lit .i64 0, .lit .i64 (-1), .lit .i64 1, .lit .i64 (-1)]), vI] ++ vBs 35, [.box [.int .i64, .int .i64, .imm 5], .arr 3, .box [.sl 4], .box [.int .i64, .int .i64, .int .i64], .arr 75]⟩, [⟨.exit 2, [2, 5, 6], ⟨[vB, vB, .one (.one (.ptr 0 0 0)), vB, vB, .one (.one (.sl 1)), .one (.one (.ptr 2 0 0))] ++ vBs 78, [.box [.int .i64, .int .i64, .imm 5], .arr 3, .box [.sl 3], .arr 75]⟩, []⟩], []⟩
noncomputable def r25_6 (x : Nat × Int × Int × Int × List Int × List Int × Nat × Int × Int × Int × List Vs × Unit) : Option
  (Nat × Int × Int × Int × List Int × List Int × Nat × Int × Int × Int × List Vs × Unit ⊕
    Nat × Int × Int × List Int × List Int × Nat × List Vs × Unit) :=
  bif decide (x.snd.fst < (8 : Int)) then
  bif decide ((0 : Int) ≤ x.snd.fst) && decide (x.snd.fst < (8 : Int)) then
    (idxO
          [Pt.mk (1 : Int) (0 : Int), Pt.mk (1 : Int) (1 : Int), Pt.mk (0 : Int) (1 : Int), Pt.mk (-1 : Int) (1 : Int),
            Pt.mk (-1 : Int) (0 : Int), Pt.mk (-1 : Int) (-1 : Int), Pt.mk (0 : Int) (-1 : Int), Pt.mk (1 : Int) (-1 : Int)]
          x.snd.fst).bind
      fun y109 =>
      (f27
            (x.snd.snd.fst, x.snd.snd.snd.fst, x.snd.snd.snd.snd.fst, x.snd.snd.snd.snd.snd.snd.snd.fst,
              x.snd.snd.snd.snd.snd.snd.snd.snd.fst, y109.X, y109.Y, ())).bind
        fun y108 =>
        bif y108.snd.snd.snd.fst then
          bif
              decide ((0 : Int) ≤ IntKind.i64.wrap (IntKind.i64.wrap (y108.snd.fst * x.snd.snd.fst) + y108.fst)) &&
                decide (IntKind.i64.wrap (IntKind.i64.wrap (y108.snd.fst * x.snd.snd.fst) + y108.fst) < (↑x.fst : Int)) then
            x.snd.snd.snd.snd.snd.fst[(0 : Nat) +
                    (IntKind.i64.wrap (IntKind.i64.wrap (y108.snd.fst * x.snd.snd.fst) + y108.fst)).toNat]?.bind
              fun y106 =>
              bif decide (y106 < (0 : Int)) then
                bif decide ((0 : Nat) + x.snd.snd.snd.snd.snd.snd.fst ≤ x.snd.snd.snd.snd.snd.snd.snd.snd.snd.snd.fst.length) then
                  (f46
                        (y108.fst, y108.snd.fst, IntKind.i64.wrap (x.snd.snd.snd.snd.snd.snd.snd.snd.snd.fst + y108.snd.snd.fst),
                          List.take x.snd.snd.snd.snd.snd.snd.fst (List.drop (0 : Nat) x.snd.snd.snd.snd.snd.snd.snd.snd.snd.snd.fst),
                          x.snd.snd.snd.snd.snd.snd.fst, ())).bind
                    fun y104 =>
                    (j25_43
                          (x.fst, x.snd.fst, x.snd.snd.fst, x.snd.snd.snd.fst, x.snd.snd.snd.snd.fst, x.snd.snd.snd.snd.snd.fst, y104.fst,
                            x.snd.snd.snd.snd.snd.snd.snd.fst, x.snd.snd.snd.snd.snd.snd.snd.snd.fst,
                            x.snd.snd.snd.snd.snd.snd.snd.snd.snd.fst, y104.snd.fst, ())).bind
                      fun y103 =>
                      some
                        (Sum.inl
                          (y103.fst, y103.snd.fst, y103.snd.snd.fst, y103.snd.snd.snd.fst, y103.snd.snd.snd.snd.fst,
                            y103.snd.snd.snd.snd.snd.fst, y103.snd.snd.snd.snd.snd.snd.fst, y103.snd.snd.snd.snd.snd.snd.snd.fst,
                            y103.snd.snd.snd.snd.snd.snd.snd.snd.fst, y103.snd.snd.snd.snd.snd.snd.snd.snd.snd.fst,
                            y103.snd.snd.snd.snd.snd.snd.snd.snd.snd.snd.fst, ()))
                else none
              else
                (j25_43
                      (x.fst, x.snd.fst, x.snd.snd.fst, x.snd.snd.snd.fst, x.snd.snd.snd.snd.fst, x.snd.snd.snd.snd.snd.fst,
                        x.snd.snd.snd.snd.snd.snd.fst, x.snd.snd.snd.snd.snd.snd.snd.fst, x.snd.snd.snd.snd.snd.snd.snd.snd.fst,
                        x.snd.snd.snd.snd.snd.snd.snd.snd.snd.fst, x.snd.snd.snd.snd.snd.snd.snd.snd.snd.snd.fst, ())).bind
                  fun y105 =>
                  some
                    (Sum.inl
                      (y105.fst, y105.snd.fst, y105.snd.snd.fst, y105.snd.snd.snd.fst, y105.snd.snd.snd.snd.fst,
                        y105.snd.snd.snd.snd.snd.fst, y105.snd.snd.snd.snd.snd.snd.fst, y105.snd.snd.snd.snd.snd.snd.snd.fst,
                        y105.snd.snd.snd.snd.snd.snd.snd.snd.fst, y105.snd.snd.snd.snd.snd.snd.snd.snd.snd.fst,
                        y105.snd.snd.snd.snd.snd.snd.snd.snd.snd.snd.fst, ()))
          else none
        else
          (j25_43
                (x.fst, x.snd.fst, x.snd.snd.fst, x.snd.snd.snd.fst, x.snd.snd.snd.snd.fst, x.snd.snd.snd.snd.snd.fst,
                  x.snd.snd.snd.snd.snd.snd.fst, x.snd.snd.snd.snd.snd.snd.snd.fst, x.snd.snd.snd.snd.snd.snd.snd.snd.fst,
                  x.snd.snd.snd.snd.snd.snd.snd.snd.snd.fst, x.snd.snd.snd.snd.snd.snd.snd.snd.snd.snd.fst, ())).bind
            fun y107 =>
            some
              (Sum.inl
                (y107.fst, y107.snd.fst, y107.snd.snd.fst, y107.snd.snd.snd.fst, y107.snd.snd.snd.snd.fst, y107.snd.snd.snd.snd.snd.fst,
                  y107.snd.snd.snd.snd.snd.snd.fst, y107.snd.snd.snd.snd.snd.snd.snd.fst, y107.snd.snd.snd.snd.snd.snd.snd.snd.fst,
                  y107.snd.snd.snd.snd.snd.snd.snd.snd.snd.fst, y107.snd.snd.snd.snd.snd.snd.snd.snd.snd.snd.fst, ()))
  else none
else
  some
    (Sum.inr
      (x.fst, x.snd.snd.fst, x.snd.snd.snd.fst, x.snd.snd.snd.snd.fst, x.snd.snd.snd.snd.snd.fst, x.snd.snd.snd.snd.snd.snd.fst,
        x.snd.snd.snd.snd.snd.snd.snd.snd.snd.snd.fst, ()))
theorem r25_6_run0 (v0 : Nat) (v1 : Int) (v2 : Int) (v3 : Int) (v4 : List Int) (v5 : List Int) (v6 : Nat) (v7 : Int) (v8 : Int) (v9 : Int) (v10 : List Vs) : roundK tC G25 (look [(43, W25_43)]) c25_6 p25_6 (v0, v1, v2, v3, v4, v5, v6, v7, v8, v9, v10, ()) = r25_6 (v0, v1, v2, v3, v4, v5, v6, v7, v8, v9, v10, ()) := by kernel_rfl
theorem r25_6_run (x : Nat × Int × Int × Int × List Int × List Int × Nat × Int × Int × Int × List Vs × Unit) : roundK tC G25 (look [(43, W25_43)]) c25_6 p25_6 x = r25_6 x := r25_6_run0 x.1 x.2.1 x.2.2.1 x.2.2.2.1 x.2.2.2.2.1 x.2.2.2.2.2.1 x.2.2.2.2.2.2.1 x.2.2.2.2.2.2.2.1 x.2.2.2.2.2.2.2.2.1 x.2.2.2.2.2.2.2.2.2.1 x.2.2.2.2.2.2.2.2.2.2.1
noncomputable def l25_6 (x : Nat × Int × Int × Int × List Int × List Int × Nat × Int × Int × Int × List Vs × Unit) : Option (Nat × Int × Int × List Int × List Int × Nat × List Vs × Unit) := iterO r25_6 x
noncomputable def W25_6 : LF tC := loopW tC p25_6 2 l25_6
theorem W25_6_ok : keyed 6 (loopOf (bodyOf Try.f25) 0) = [.block 2 (.loop c25_6)] ∧ ∀ n, n ≤ 0 → Snd tC n (.block 2 (.loop c25_6)) W25_6.k := ⟨by kernel_rfl, fun n hn => loopW_ok (p := p25_6) (id := 2) Y25 (lam_le (lam_cons W25_43_ok lam_nil) n hn) hn r25_6_run⟩
noncomputable def c25_0 : Code := loopOf (bodyOf Try.f25) 0
def p25_0 : LS := ⟨0, [2, 5, 6], ⟨[vB, vB, .one (.one (.ptr 0 0 0)), vB, vB, .one (.one (.sl 1)), .one (.one (.ptr 2 0 0))] ++ vBs 78, [.box [.int .i64, .int .i64, .imm 5], .arr 3, .box [.sl 3], .arr 75]⟩, [⟨.exit 0, [5], ⟨vBs 5 ++ [.one (.one (.sl 0))] ++ vBs 79, [.arr 3]⟩, []⟩], []⟩
noncomputable def r25_0 (x : Nat × Int × Int × List Int × List Int × Nat × List Vs × Unit) : Option (Nat × Int × Int × List Int × List Int × Nat × List Vs × Unit ⊕ Nat × List Int × Unit) :=
  bif decide ((↑x.snd.snd.snd.snd.snd.fst : Int) > (0 : Int)) then
  bif decide ((0 : Nat) + x.snd.snd.snd.snd.snd.fst ≤ x.snd.snd.snd.snd.snd.snd.fst.length) then
    (f45 (List.take x.snd.snd.snd.snd.snd.fst (List.drop (0 : Nat) x.snd.snd.snd.snd.snd.snd.fst), x.snd.snd.snd.snd.snd.fst, ())).bind
      fun y122 =>
      bif
          decide ((0 : Int) ≤ IntKind.i64.wrap (IntKind.i64.wrap (y122.snd.fst * x.snd.fst) + y122.fst)) &&
            decide (IntKind.i64.wrap (IntKind.i64.wrap (y122.snd.fst * x.snd.fst) + y122.fst) < (↑x.fst : Int)) then
        x.snd.snd.snd.snd.fst[(0 : Nat) + (IntKind.i64.wrap (IntKind.i64.wrap (y122.snd.fst * x.snd.fst) + y122.fst)).toNat]?.bind
          fun y121 =>
          bif decide (y121 ≥ (0 : Int)) then
            some
              (Sum.inl
                (x.fst, x.snd.fst, x.snd.snd.fst, x.snd.snd.snd.fst, x.snd.snd.snd.snd.fst, y122.snd.snd.snd.snd.fst, y122.snd.snd.snd.fst,
                  ()))
          else
            x.snd.snd.snd.snd.fst[(0 : Nat) + (IntKind.i64.wrap (IntKind.i64.wrap (y122.snd.fst * x.snd.fst) + y122.fst)).toNat]?.bind
              fun _x =>
              (l25_6
                    (x.fst, (0 : Int), x.snd.fst, x.snd.snd.fst, x.snd.snd.snd.fst,
                      x.snd.snd.snd.snd.fst.set
                        ((0 : Nat) + (IntKind.i64.wrap (IntKind.i64.wrap (y122.snd.fst * x.snd.fst) + y122.fst)).toNat) y122.snd.snd.fst,
                      y122.snd.snd.snd.snd.fst, y122.fst, y122.snd.fst, y122.snd.snd.fst, y122.snd.snd.snd.fst, ())).bind
                fun y119 =>
                some
                  (Sum.inl
                    (y119.fst, y119.snd.fst, y119.snd.snd.fst, y119.snd.snd.snd.fst, y119.snd.snd.snd.snd.fst, y119.snd.snd.snd.snd.snd.fst,
                      y119.snd.snd.snd.snd.snd.snd.fst, ()))
      else none
  else none
else some (Sum.inr (x.fst, x.snd.snd.snd.snd.fst, ()))
theorem r25_0_run0 (v0 : Nat) (v1 : Int) (v2 : Int) (v3 : List Int) (v4 : List Int) (v5 : Nat) (v6 : List Vs) : roundK tC G25 (look [(6, W25_6)]) c25_0 p25_0 (v0, v1, v2, v3, v4, v5, v6, ()) = r25_0 (v0, v1, v2, v3, v4, v5, v6, ()) := by kernel_rfl
theorem r25_0_run (x : Nat × Int × Int × List Int × List Int × Nat × List Vs × Unit) : roundK tC G25 (look [(6, W25_6)]) c25_0 p25_0 x = r25_0 x := r25_0_run0 x.1 x.2.1 x.2.2.1 x.2.2.2.1 x.2.2.2.2.1 x.2.2.2.2.2.1 x.2.2.2.2.2.2.1
noncomputable def l25_0 (x : Nat × Int × Int × List Int × List Int × Nat × List Vs × Unit) : Option (Nat × List Int × Unit) := iterO r25_0 x
noncomputable def W25_0 : LF tC := loopW tC p25_0 0 l25_0
theorem W25_0_ok : keyed 0 (bodyOf Try.f25) = [.block 0 (.loop c25_0)] ∧ ∀ n, n ≤ 0 → Snd tC n (.block 0 (.loop c25_0)) W25_0.k := ⟨by kernel_rfl, fun n hn => loopW_ok (p := p25_0) (id := 0) Y25 (lam_le (lam_cons W25_6_ok lam_nil) n hn) hn r25_0_run⟩
def S25 : FS := ⟨[[.v, .v, .s 5], [.v, .v]], [⟨[.one (.agg [.int .i64, .int .i64, .imm 5]), .one (.agg [.int .i64, .int .i64])], []⟩], [⟨[.one (.one (.sl 0))], [.arr 3]⟩], [[.v]], [(4, 3)]⟩
noncomputable def f25 (x : Int × Int × List Int × Int × Int × Unit) : Option (Nat × List Int × Unit) :=
  (f44 ([(-1 : Int)], IntKind.i64.wrap (x.fst * x.snd.fst), ())).bind fun y128 =>
  (l25_0
        (y128.fst, x.fst, x.snd.fst, x.snd.snd.fst, y128.snd.fst, (1 : Nat), [Vs.mk x.snd.snd.snd.fst x.snd.snd.snd.snd.fst (0 : Int)],
          ())).bind
    fun y127 => some (y127.fst, y127.snd.fst, ())
noncomputable def F25 : CF tC := mkF tC S25 f25
theorem f25_run : ∀ a, fnS tC G25 (look [(0, W25_0)]) Try.f25 S25 a = f25 a := fun a => by kernel_rfl
theorem F25_ok : CFOK tC 25 F25 := mkF_ok Y25 (fn := Try.f25) (body := bodyOf Try.f25) (by kernel_rfl) (by kernel_rfl) (by kernel_rfl) (m := 0) rfl (lam_le (lam_cons W25_0_ok lam_nil)) f25_run

/-! path.Costs -/
noncomputable def G13 : FuncId → Option (CF tC) := look [(22, F22), (24, F24), (25, F25)]
theorem Y13 : SysN tC G13 := (sys_cons F22_ok (mkF_nat _ _) (sys_cons F24_ok (mkF_nat _ _) (sys_cons F25_ok (mkF_nat _ _) (sys_nil tC_ok tC_eq))))
def S13 : FS := ⟨[[.v, .v, .s 5], [.v, .v]], [⟨[.one (.agg [.int .i64, .int .i64, .imm 5]), .one (.agg [.int .i64, .int .i64])], []⟩], [⟨[.tup [.one (.sl 0), .one (.int .i64)]], [.arr 3]⟩], [[.v], [.v]], [(4, 3)]⟩
noncomputable def f13 (x : Int × Int × List Int × Int × Int × Unit) : Option (Nat × Int × List Int × Unit) :=
  (f22 (x.fst, x.snd.fst, x.snd.snd.fst, ())).bind fun y15 =>
  bif !y15.fst then some ((0 : Nat), (1 : Int), [], ())
  else
    (f24 (x.fst, x.snd.fst, x.snd.snd.fst, x.snd.snd.snd.fst, x.snd.snd.snd.snd.fst, ())).bind fun y14 =>
      bif !y14.fst then some ((0 : Nat), (7 : Int), [], ())
      else
        (f25 (x.fst, x.snd.fst, x.snd.snd.fst, x.snd.snd.snd.fst, x.snd.snd.snd.snd.fst, ())).bind fun y13 =>
          some (y13.fst, (0 : Int), y13.snd.fst, ())
noncomputable def F13 : CF tC := mkF tC S13 f13
theorem f13_run : ∀ a, fnS tC G13 (look []) Try.f13 S13 a = f13 a := fun a => by kernel_rfl
theorem F13_ok : CFOK tC 13 F13 := mkF_ok Y13 (fn := Try.f13) (body := bodyOf Try.f13) (by kernel_rfl) (by kernel_rfl) (by kernel_rfl) (m := 0) rfl (lam_le lam_nil) f13_run

/-! path.Find -/
noncomputable def G9 : FuncId → Option (CF tC) := look [(22, F22), (24, F24), (25, F25), (26, F26), (27, F27)]
theorem Y9 : SysN tC G9 := (sys_cons F22_ok (mkF_nat _ _) (sys_cons F24_ok (mkF_nat _ _) (sys_cons F25_ok (mkF_nat _ _) (sys_cons F26_ok (mkF_nat _ _) (sys_cons F27_ok (mkF_nat _ _) (sys_nil tC_ok tC_eq))))))
noncomputable def c9_58 : Code := subCode (loopOf (loopOf (bodyOf Try.f9) 1) 3) 58
def p9_58 : PS := ⟨0, [3, 5, 9, 10, 11, 12, 61, 62], ⟨[vB, vB, vB, .one (.one (.ptr 0 0 0)), vB, .one (.one (.ptr 1 0 0)), vB, vB, vB, .one (.one (.sl 2)), vI, .one (.one (.sl 3)), .one (.one (.ptr 4 0 0))] ++ vBs 48 ++ [.one (.agg [.lit .i64 1, .lit .i64 0, .lit .i64 1, .lit .i64 1, .lit .i64 0, .lit .i64 1, .lit .i64 (-1), .lit .i64 1, .lit .i64 (-1), .lit .i64 0, .lit .i64 (-1), .lit .i64 (-1), .lit .i64 0, .lit .i64 (-1), .lit .i64 1, .lit .i64 (-1)]), vI] ++ vBs 46, [.box [.int .i64, .int .i64, .imm 5], .box [.int .i64, .int .i64], .arr 3, .arr 26, .box [.int .i64, .int .i64]]⟩, [⟨.normal, [3, 5, 9, 10, 11, 12, 61, 62], ⟨[vB, vB, vB, .one (.one (.ptr 0 0 0)), vB, .one (.one (.ptr 1 0 0)), vB, vB, vB, .one (.one (.sl 2)), vI, .one (.one (.sl 3)), .one (.one (.ptr 4 0 0))] ++ vBs 48 ++ [.one (.agg [.lit .i64 1, .lit .i64 0, .lit .i64 1, .lit .i64 1, .lit .i64 0, .lit .i64 1, .lit .i64 (-1), .lit .i64 1, .lit .i64 (-1), .lit .i64 0, .lit .i64 (-1), .lit .i64 (-1), .lit .i64 0, .lit .i64 (-1), .lit .i64 1, .lit .i64 (-1)]), vI] ++ vBs 46, [.box [.int .i64, .int .i64, .imm 5], .box [.int .i64, .int .i64], .arr 3, .arr 26, .box [.int .i64, .int .i64]]⟩, []⟩], []⟩
noncomputable def j9_58 (x : Nat × Int × Nat × Int × Int × Int × List Int × Int × Int × List Int × List Pt × Int × Int × Unit) : Option (Nat × Int × Nat × Int × Int × Int × List Int × Int × Int × List Int × List Pt × Int × Int × Unit) :=
  some
  (x.fst, x.snd.fst, x.snd.snd.fst, IntKind.i64.wrap (x.snd.snd.snd.fst + (1 : Int)), x.snd.snd.snd.snd.fst, x.snd.snd.snd.snd.snd.fst,
    x.snd.snd.snd.snd.snd.snd.fst, x.snd.snd.snd.snd.snd.snd.snd.fst, x.snd.snd.snd.snd.snd.snd.snd.snd.fst,
    x.snd.snd.snd.snd.snd.snd.snd.snd.snd.fst, x.snd.snd.snd.snd.snd.snd.snd.snd.snd.snd.fst,
    x.snd.snd.snd.snd.snd.snd.snd.snd.snd.snd.snd.fst, x.snd.snd.snd.snd.snd.snd.snd.snd.snd.snd.snd.snd.fst, ())
theorem j9_58_run0 (v0 : Nat) (v1 : Int) (v2 : Nat) (v3 : Int) (v4 : Int) (v5 : Int) (v6 : List Int) (v7 : Int) (v8 : Int) (v9 : List Int) (v10 : List Pt) (v11 : Int) (v12 : Int) : pieceK tC G9 (look []) c9_58 p9_58 (v0, v1, v2, v3, v4, v5, v6, v7, v8, v9, v10, v11, v12, ()) = j9_58 (v0, v1, v2, v3, v4, v5, v6, v7, v8, v9, v10, v11, v12, ()) := by kernel_rfl
theorem j9_58_run (x : Nat × Int × Nat × Int × Int × Int × List Int × Int × Int × List Int × List Pt × Int × Int × Unit) : pieceK tC G9 (look []) c9_58 p9_58 x = j9_58 x := j9_58_run0 x.1 x.2.1 x.2.2.1 x.2.2.2.1 x.2.2.2.2.1 x.2.2.2.2.2.1 x.2.2.2.2.2.2.1 x.2.2.2.2.2.2.2.1 x.2.2.2.2.2.2.2.2.1 x.2.2.2.2.2.2.2.2.2.1 x.2.2.2.2.2.2.2.2.2.2.1 x.2.2.2.2.2.2.2.2.2.2.2.1 x.2.2.2.2.2.2.2.2.2.2.2.2.1
noncomputable def W9_58 : LF tC := cutLF tC p9_58 j9_58
theorem W9_58_ok : keyed 58 (loopOf (loopOf (bodyOf Try.f9) 1) 3) = [c9_58] ∧ ∀ n, n ≤ 0 → Snd tC n c9_58 W9_58.k := ⟨by kernel_rfl, fun n hn => cut_ok (p := p9_58) Y9 (lam_le lam_nil n hn) hn j9_58_run⟩
noncomputable def c9_9 : Code := loopOf (loopOf (bodyOf Try.f9) 1) 3
def p9_9 : LS := ⟨0, [3, 5, 9, 10, 11, 12, 61, 62], ⟨[vB, vB, vB, .one (.one (.ptr 0 0 0)), vB, .one (.one (.ptr 1 0 0)), vB, vB, vB, .one (.one (.sl 2)), vI, .one (.one (.sl 3)), .one (.one (.ptr 4 0 0))] ++ vBs 48 ++ [.one (.agg [.lit .i64 1, .lit .i64 0, .lit .i64 1, .lit .i64 1, .lit .i64 0, .lit .i64 1, .lit .i64 (-1), .lit .i64 1, .lit .i64 (-1), .lit .i64 0, .lit .i64 (-1), .lit .i64 (-1), .lit .i64 0, .lit .i64 (-1), .lit .i64 1, .lit .i64 (-1)]), vI] ++ vBs 46, [.box [.int .i64, .int .i64, .imm 5], .box [.int .i64, .int .i64], .arr 3, .arr 26, .box [.int .i64, .int .i64]]⟩, [⟨.exit 3, [3, 5, 9, 10, 11, 12], ⟨[vB, vB, vB, .one (.one (.ptr 0 0 0)), vB, .one (.one (.ptr 1 0 0)), vB, vB, vB, .one (.one (.sl 2)), vI, .one (.one (.sl 3)), .one (.one (.ptr 4 0 0))] ++ vBs 96, [.box [.int .i64, .int .i64, .imm 5], .box [.int .i64, .int .i64], .arr 3, .arr 26, .box [.int .i64, .int .i64]]⟩, []⟩], []⟩
noncomputable def r9_9 (x : Nat × Int × Nat × Int × Int × Int × List Int × Int × Int × List Int × List Pt × Int × Int × Unit) : Option
  (Nat × Int × Nat × Int × Int × Int × List Int × Int × Int × List Int × List Pt × Int × Int × Unit ⊕
    Nat × Int × Nat × Int × Int × List Int × Int × Int × List Int × List Pt × Int × Int × Unit) :=
  bif decide (x.snd.snd.snd.fst < (8 : Int)) then
  bif decide ((0 : Int) ≤ x.snd.snd.snd.fst) && decide (x.snd.snd.snd.fst < (8 : Int)) then
    (idxO
          [Pt.mk (1 : Int) (0 : Int), Pt.mk (1 : Int) (1 : Int), Pt.mk (0 : Int) (1 : Int), Pt.mk (-1 : Int) (1 : Int),
            Pt.mk (-1 : Int) (0 : Int), Pt.mk (-1 : Int) (-1 : Int), Pt.mk (0 : Int) (-1 : Int), Pt.mk (1 : Int) (-1 : Int)]
          x.snd.snd.snd.fst).bind
      fun y115 =>
      (f27
            (x.snd.snd.snd.snd.fst, x.snd.snd.snd.snd.snd.fst, x.snd.snd.snd.snd.snd.snd.fst,
              x.snd.snd.snd.snd.snd.snd.snd.snd.snd.snd.snd.fst, x.snd.snd.snd.snd.snd.snd.snd.snd.snd.snd.snd.snd.fst, y115.X, y115.Y,
              ())).bind
        fun y114 =>
        bif y114.snd.snd.snd.fst then
          bif
              decide ((0 : Int) ≤ IntKind.i64.wrap (IntKind.i64.wrap (y114.snd.fst * x.snd.snd.snd.snd.fst) + y114.fst)) &&
                decide (IntKind.i64.wrap (IntKind.i64.wrap (y114.snd.fst * x.snd.snd.snd.snd.fst) + y114.fst) < (↑x.fst : Int)) then
            x.snd.snd.snd.snd.snd.snd.snd.snd.snd.fst[(0 : Nat) +
                    (IntKind.i64.wrap (IntKind.i64.wrap (y114.snd.fst * x.snd.snd.snd.snd.fst) + y114.fst)).toNat]?.bind
              fun y112 =>
              bif
                  decide
                      ((0 : Int) ≤
                        IntKind.i64.wrap
                          (IntKind.i64.wrap (x.snd.snd.snd.snd.snd.snd.snd.snd.snd.snd.snd.snd.fst * x.snd.snd.snd.snd.fst) +
                            x.snd.snd.snd.snd.snd.snd.snd.snd.snd.snd.snd.fst)) &&
                    decide
                      (IntKind.i64.wrap
                          (IntKind.i64.wrap (x.snd.snd.snd.snd.snd.snd.snd.snd.snd.snd.snd.snd.fst * x.snd.snd.snd.snd.fst) +
                            x.snd.snd.snd.snd.snd.snd.snd.snd.snd.snd.snd.fst) <
                        (↑x.fst : Int)) then
                x.snd.snd.snd.snd.snd.snd.snd.snd.snd.fst[(0 : Nat) +
                        (IntKind.i64.wrap
                            (IntKind.i64.wrap (x.snd.snd.snd.snd.snd.snd.snd.snd.snd.snd.snd.snd.fst * x.snd.snd.snd.snd.fst) +
                              x.snd.snd.snd.snd.snd.snd.snd.snd.snd.snd.snd.fst)).toNat]?.bind
                  fun y111 =>
                  bif IntKind.i64.wrap (y112 + y114.snd.snd.fst) == y111 then
                    bif decide ((0 : Nat) + x.snd.snd.fst ≤ x.snd.snd.snd.snd.snd.snd.snd.snd.snd.snd.fst.length) then
                      bif roomy (x.snd.snd.fst + (1 : Nat)) (16 : Nat) then
                        some
                          (Sum.inr
                            (x.fst, x.snd.fst, x.snd.snd.fst + (1 : Nat), x.snd.snd.snd.snd.fst, x.snd.snd.snd.snd.snd.fst,
                              x.snd.snd.snd.snd.snd.snd.fst, x.snd.snd.snd.snd.snd.snd.snd.fst, x.snd.snd.snd.snd.snd.snd.snd.snd.fst,
                              x.snd.snd.snd.snd.snd.snd.snd.snd.snd.fst,
                              List.take x.snd.snd.fst (List.drop (0 : Nat) x.snd.snd.snd.snd.snd.snd.snd.snd.snd.snd.fst) ++
                                [Pt.mk y114.fst y114.snd.fst],
                              x.snd.snd.snd.snd.snd.snd.snd.snd.snd.snd.snd.fst, x.snd.snd.snd.snd.snd.snd.snd.snd.snd.snd.snd.snd.fst, ()))
                      else none
                    else none
                  else
                    (j9_58
                          (x.fst, x.snd.fst, x.snd.snd.fst, x.snd.snd.snd.fst, x.snd.snd.snd.snd.fst, x.snd.snd.snd.snd.snd.fst,
                            x.snd.snd.snd.snd.snd.snd.fst, x.snd.snd.snd.snd.snd.snd.snd.fst, x.snd.snd.snd.snd.snd.snd.snd.snd.fst,
                            x.snd.snd.snd.snd.snd.snd.snd.snd.snd.fst, x.snd.snd.snd.snd.snd.snd.snd.snd.snd.snd.fst,
                            x.snd.snd.snd.snd.snd.snd.snd.snd.snd.snd.snd.fst, x.snd.snd.snd.snd.snd.snd.snd.snd.snd.snd.snd.snd.fst,
                            ())).bind
                      fun y110 =>
                      some
                        (Sum.inl
                          (y110.fst, y110.snd.fst, y110.snd.snd.fst, y110.snd.snd.snd.fst, y110.snd.snd.snd.snd.fst,
                            y110.snd.snd.snd.snd.snd.fst, y110.snd.snd.snd.snd.snd.snd.fst, y110.snd.snd.snd.snd.snd.snd.snd.fst,
                            y110.snd.snd.snd.snd.snd.snd.snd.snd.fst, y110.snd.snd.snd.snd.snd.snd.snd.snd.snd.fst,
                            y110.snd.snd.snd.snd.snd.snd.snd.snd.snd.snd.fst, y110.snd.snd.snd.snd.snd.snd.snd.snd.snd.snd.snd.fst,
                            y110.snd.snd.snd.snd.snd.snd.snd.snd.snd.snd.snd.snd.fst, ()))
              else none
          else none
        else
          (j9_58
                (x.fst, x.snd.fst, x.snd.snd.fst, x.snd.snd.snd.fst, x.snd.snd.snd.snd.fst, x.snd.snd.snd.snd.snd.fst,
                  x.snd.snd.snd.snd.snd.snd.fst, x.snd.snd.snd.snd.snd.snd.snd.fst, x.snd.snd.snd.snd.snd.snd.snd.snd.fst,
                  x.snd.snd.snd.snd.snd.snd.snd.snd.snd.fst, x.snd.snd.snd.snd.snd.snd.snd.snd.snd.snd.fst,
                  x.snd.snd.snd.snd.snd.snd.snd.snd.snd.snd.snd.fst, x.snd.snd.snd.snd.snd.snd.snd.snd.snd.snd.snd.snd.fst, ())).bind
            fun y113 =>
            some
              (Sum.inl
                (y113.fst, y113.snd.fst, y113.snd.snd.fst, y113.snd.snd.snd.fst, y113.snd.snd.snd.snd.fst, y113.snd.snd.snd.snd.snd.fst,
                  y113.snd.snd.snd.snd.snd.snd.fst, y113.snd.snd.snd.snd.snd.snd.snd.fst, y113.snd.snd.snd.snd.snd.snd.snd.snd.fst,
                  y113.snd.snd.snd.snd.snd.snd.snd.snd.snd.fst, y113.snd.snd.snd.snd.snd.snd.snd.snd.snd.snd.fst,
                  y113.snd.snd.snd.snd.snd.snd.snd.snd.snd.snd.snd.fst, y113.snd.snd.snd.snd.snd.snd.snd.snd.snd.snd.snd.snd.fst, ()))
  else none
else
  some
    (Sum.inr
      (x.fst, x.snd.fst, x.snd.snd.fst, x.snd.snd.snd.snd.fst, x.snd.snd.snd.snd.snd.fst, x.snd.snd.snd.snd.snd.snd.fst,
        x.snd.snd.snd.snd.snd.snd.snd.fst, x.snd.snd.snd.snd.snd.snd.snd.snd.fst, x.snd.snd.snd.snd.snd.snd.snd.snd.snd.fst,
        x.snd.snd.snd.snd.snd.snd.snd.snd.snd.snd.fst, x.snd.snd.snd.snd.snd.snd.snd.snd.snd.snd.snd.fst,
        x.snd.snd.snd.snd.snd.snd.snd.snd.snd.snd.snd.snd.fst, ()))
theorem r9_9_run0 (v0 : Nat) (v1 : Int) (v2 : Nat) (v3 : Int) (v4 : Int) (v5 : Int) (v6 : List Int) (v7 : Int) (v8 : Int) (v9 : List Int) (v10 : List Pt) (v11 : Int) (v12 : Int) : roundK tC G9 (look [(58, W9_58)]) c9_9 p9_9 (v0, v1, v2, v3, v4, v5, v6, v7, v8, v9, v10, v11, v12, ()) = r9_9 (v0, v1, v2, v3, v4, v5, v6, v7, v8, v9, v10, v11, v12, ()) := by kernel_rfl
theorem r9_9_run (x : Nat × Int × Nat × Int × Int × Int × List Int × Int × Int × List Int × List Pt × Int × Int × Unit) : roundK tC G9 (look [(58, W9_58)]) c9_9 p9_9 x = r9_9 x := r9_9_run0 x.1 x.2.1 x.2.2.1 x.2.2.2.1 x.2.2.2.2.1 x.2.2.2.2.2.1 x.2.2.2.2.2.2.1 x.2.2.2.2.2.2.2.1 x.2.2.2.2.2.2.2.2.1 x.2.2.2.2.2.2.2.2.2.1 x.2.2.2.2.2.2.2.2.2.2.1 x.2.2.2.2.2.2.2.2.2.2.2.1 x.2.2.2.2.2.2.2.2.2.2.2.2.1
noncomputable def l9_9 (x : Nat × Int × Nat × Int × Int × Int × List Int × Int × Int × List Int × List Pt × Int × Int × Unit) : Option (Nat × Int × Nat × Int × Int × List Int × Int × Int × List Int × List Pt × Int × Int × Unit) := iterO r9_9 x
noncomputable def W9_9 : LF tC := loopW tC p9_9 3 l9_9
theorem W9_9_ok : keyed 9 (loopOf (bodyOf Try.f9) 1) = [.block 3 (.loop c9_9)] ∧ ∀ n, n ≤ 0 → Snd tC n (.block 3 (.loop c9_9)) W9_9.k := ⟨by kernel_rfl, fun n hn => loopW_ok (p := p9_9) (id := 3) Y9 (lam_le (lam_cons W9_58_ok lam_nil) n hn) hn r9_9_run⟩
noncomputable def c9_3 : Code := loopOf (bodyOf Try.f9) 1
def p9_3 : LS := ⟨0, [3, 5, 9, 10, 11, 12], ⟨[vB, vB, vB, .one (.one (.ptr 0 0 0)), vB, .one (.one (.ptr 1 0 0)), vB, vB, vB, .one (.one (.sl 2)), vI, .one (.one (.sl 3)), .one (.one (.ptr 4 0 0))] ++ vBs 96, [.box [.int .i64, .int .i64, .imm 5], .box [.int .i64, .int .i64], .arr 3, .arr 26, .box [.int .i64, .int .i64]]⟩, [⟨.exit 1, [10, 11], ⟨vBs 10 ++ [vI, .one (.one (.sl 0))] ++ vBs 97, [.arr 26]⟩, []⟩], []⟩
noncomputable def r9_3 (x : Nat × Int × Nat × Int × Int × List Int × Int × Int × List Int × List Pt × Int × Int × Unit) : Option (Nat × Int × Nat × Int × Int × List Int × Int × Int × List Int × List Pt × Int × Int × Unit ⊕ Int × Nat × List Pt × Unit) :=
  bif
    !bif x.snd.snd.snd.snd.snd.snd.snd.snd.snd.snd.fst == x.snd.snd.snd.snd.snd.snd.fst then
        bif x.snd.snd.snd.snd.snd.snd.snd.snd.snd.snd.snd.fst == x.snd.snd.snd.snd.snd.snd.snd.fst then true else false
      else false then
  (l9_9
        (x.fst, x.snd.fst, x.snd.snd.fst, (0 : Int), x.snd.snd.snd.fst, x.snd.snd.snd.snd.fst, x.snd.snd.snd.snd.snd.fst,
          x.snd.snd.snd.snd.snd.snd.fst, x.snd.snd.snd.snd.snd.snd.snd.fst, x.snd.snd.snd.snd.snd.snd.snd.snd.fst,
          x.snd.snd.snd.snd.snd.snd.snd.snd.snd.fst, x.snd.snd.snd.snd.snd.snd.snd.snd.snd.snd.fst,
          x.snd.snd.snd.snd.snd.snd.snd.snd.snd.snd.snd.fst, ())).bind
    fun y133 =>
    bif
        decide ((0 : Int) ≤ IntKind.i64.wrap ((↑y133.snd.snd.fst : Int) - (1 : Int))) &&
          decide (IntKind.i64.wrap ((↑y133.snd.snd.fst : Int) - (1 : Int)) < (↑y133.snd.snd.fst : Int)) then
      y133.snd.snd.snd.snd.snd.snd.snd.snd.snd.fst[(0 : Nat) + (IntKind.i64.wrap ((↑y133.snd.snd.fst : Int) - (1 : Int))).toNat]?.bind
        fun y132 =>
        some
          (Sum.inl
            (y133.fst, y133.snd.fst, y133.snd.snd.fst, y133.snd.snd.snd.fst, y133.snd.snd.snd.snd.fst, y133.snd.snd.snd.snd.snd.fst,
              y133.snd.snd.snd.snd.snd.snd.fst, y133.snd.snd.snd.snd.snd.snd.snd.fst, y133.snd.snd.snd.snd.snd.snd.snd.snd.fst,
              y133.snd.snd.snd.snd.snd.snd.snd.snd.snd.fst, y132.X, y132.Y, ()))
    else none
else some (Sum.inr (x.snd.fst, x.snd.snd.fst, x.snd.snd.snd.snd.snd.snd.snd.snd.snd.fst, ()))
theorem r9_3_run0 (v0 : Nat) (v1 : Int) (v2 : Nat) (v3 : Int) (v4 : Int) (v5 : List Int) (v6 : Int) (v7 : Int) (v8 : List Int) (v9 : List Pt) (v10 : Int) (v11 : Int) : roundK tC G9 (look [(9, W9_9)]) c9_3 p9_3 (v0, v1, v2, v3, v4, v5, v6, v7, v8, v9, v10, v11, ()) = r9_3 (v0, v1, v2, v3, v4, v5, v6, v7, v8, v9, v10, v11, ()) := by kernel_rfl
theorem r9_3_run (x : Nat × Int × Nat × Int × Int × List Int × Int × Int × List Int × List Pt × Int × Int × Unit) : roundK tC G9 (look [(9, W9_9)]) c9_3 p9_3 x = r9_3 x := r9_3_run0 x.1 x.2.1 x.2.2.1 x.2.2.2.1 x.2.2.2.2.1 x.2.2.2.2.2.1 x.2.2.2.2.2.2.1 x.2.2.2.2.2.2.2.1 x.2.2.2.2.2.2.2.2.1 x.2.2.2.2.2.2.2.2.2.1 x.2.2.2.2.2.2.2.2.2.2.1 x.2.2.2.2.2.2.2.2.2.2.2.1
noncomputable def l9_3 (x : Nat × Int × Nat × Int × Int × List Int × Int × Int × List Int × List Pt × Int × Int × Unit) : Option (Int × Nat × List Pt × Unit) := iterO r9_3 x
noncomputable def W9_3 : LF tC := loopW tC p9_3 1 l9_3
theorem W9_3_ok : keyed 3 (bodyOf Try.f9) = [.block 1 (.loop c9_3)] ∧ ∀ n, n ≤ 0 → Snd tC n (.block 1 (.loop c9_3)) W9_3.k := ⟨by kernel_rfl, fun n hn => loopW_ok (p := p9_3) (id := 1) Y9 (lam_le (lam_cons W9_9_ok lam_nil) n hn) hn r9_3_run⟩
def S9 : FS := ⟨[[.v, .v, .s 5], [.v, .v], [.v, .v]], [⟨[.one (.agg [.int .i64, .int .i64, .imm 5]), .one (.agg [.int .i64, .int .i64]), .one (.agg [.int .i64, .int .i64])], []⟩], [⟨[.tup [.one (.sl 0), .one (.int .i64), .one (.int .i64)]], [.arr 26]⟩], [[.v], [.v], [.v]], [(6, 26)]⟩
noncomputable def f9 (x : Int × Int × List Int × Int × Int × Int × Int × Unit) : Option (Nat × Int × Int × List Pt × Unit) :=
  (f22 (x.fst, x.snd.fst, x.snd.snd.fst, ())).bind fun y146 =>
  bif !y146.fst then some ((0 : Nat), (0 : Int), (1 : Int), [], ())
  else
    (f24 (x.fst, x.snd.fst, x.snd.snd.fst, x.snd.snd.snd.fst, x.snd.snd.snd.snd.fst, ())).bind fun y145 =>
      bif !y145.fst then some ((0 : Nat), (0 : Int), (7 : Int), [], ())
      else
        (f24 (x.fst, x.snd.fst, x.snd.snd.fst, x.snd.snd.snd.snd.snd.fst, x.snd.snd.snd.snd.snd.snd.fst, ())).bind fun y144 =>
          bif !y144.fst then some ((0 : Nat), (0 : Int), (7 : Int), [], ())
          else
            (f25 (x.fst, x.snd.fst, x.snd.snd.fst, x.snd.snd.snd.snd.snd.fst, x.snd.snd.snd.snd.snd.snd.fst, ())).bind fun y143 =>
              bif
                  decide ((0 : Int) ≤ IntKind.i64.wrap (IntKind.i64.wrap (x.snd.snd.snd.snd.fst * x.fst) + x.snd.snd.snd.fst)) &&
                    decide
                      (IntKind.i64.wrap (IntKind.i64.wrap (x.snd.snd.snd.snd.fst * x.fst) + x.snd.snd.snd.fst) < (↑y143.fst : Int)) then
                y143.snd.fst[(0 : Nat) +
                        (IntKind.i64.wrap (IntKind.i64.wrap (x.snd.snd.snd.snd.fst * x.fst) + x.snd.snd.snd.fst)).toNat]?.bind
                  fun y142 =>
                  bif decide (y142 < (0 : Int)) then some ((0 : Nat), (0 : Int), (14 : Int), [], ())
                  else
                    (l9_3
                          (y143.fst, y142, (1 : Nat), x.fst, x.snd.fst, x.snd.snd.fst, x.snd.snd.snd.snd.snd.fst,
                            x.snd.snd.snd.snd.snd.snd.fst, y143.snd.fst, [Pt.mk x.snd.snd.snd.fst x.snd.snd.snd.snd.fst], x.snd.snd.snd.fst,
                            x.snd.snd.snd.snd.fst, ())).bind
                      fun y141 => some (y141.snd.fst, y141.fst, (0 : Int), y141.snd.snd.fst, ())
              else none
noncomputable def F9 : CF tC := mkF tC S9 f9
theorem f9_run : ∀ a, fnS tC G9 (look [(3, W9_3)]) Try.f9 S9 a = f9 a := fun a => by kernel_rfl
theorem F9_ok : CFOK tC 9 F9 := mkF_ok Y9 (fn := Try.f9) (body := bodyOf Try.f9) (by kernel_rfl) (by kernel_rfl) (by kernel_rfl) (m := 0) rfl (lam_le (lam_cons W9_3_ok lam_nil)) f9_run

/-! inside -/
noncomputable def G34 : FuncId → Option (CF tC) := look []
theorem Y34 : SysN tC G34 := (sys_nil tC_ok tC_eq)
def S34 : FS := ⟨[[.v, .v, .s 5], [.v, .v]], [⟨[.one (.agg [.int .i64, .int .i64, .imm 5]), .one (.agg [.int .i64, .int .i64])], []⟩], [⟨[vO], []⟩], [[.v]], []⟩
def f34 (n1 : Int) (n2 : Int) (_l3 : List Int) (n4 : Int) (n5 : Int) : Bool :=
  bif decide (n4 ≥ (0 : Int)) then bif decide (n5 ≥ (0 : Int)) then bif decide (n4 < n1) then decide (n5 < n2) else false else false
else false
noncomputable def F34 : CF tC := mkF tC S34 (fun a => some ((f34 a.1 a.2.1 a.2.2.1 a.2.2.2.1 a.2.2.2.2.1), ()))
def h34 (r : Bool) : Option (altTy tE S34.outs) := some (r, ())
theorem f34_run : ∀ a, fnS tC G34 (look []) Try.f34 S34 a = (fun a => some ((f34 a.1 a.2.1 a.2.2.1 a.2.2.2.1 a.2.2.2.2.1), ())) a := fun a => by
  have key : ∀ (n1 : Int) (n2 : Int) (l3 : List Int) (n4 : Int) (n5 : Int), (bif decide (n4 ≥ (0 : Int)) then
  bif decide (n5 ≥ (0 : Int)) then bif decide (n4 < n1) then h34 (decide (n5 < n2)) else h34 false else h34 false
else h34 false) = h34 (f34 n1 n2 l3 n4 n5) := by
    intros
    unfold f34
    repeat' first | rfl | refine cond_h (g := h34) ?_ ?_
  exact Eq.trans (by kernel_rfl) (key a.1 a.2.1 a.2.2.1 a.2.2.2.1 a.2.2.2.2.1)
theorem F34_ok : CFOK tC 34 F34 := mkF_ok Y34 (fn := Try.f34) (body := bodyOf Try.f34) (by kernel_rfl) (by kernel_rfl) (by kernel_rfl) (m := 0) rfl (lam_le lam_nil) f34_run

/-! slices.Clone[byte] -/
noncomputable def G35 : FuncId → Option (CF tC) := look []
theorem Y35 : SysN tC G35 := (sys_nil tC_ok tC_eq)
noncomputable def c35_4 : Code := subCode (bodyOf Try.f35) 4
def p35_4 : PS := ⟨0, [0], ⟨[.one (.one (.imm 5))] ++ vBs 7, []⟩, [⟨.ret, [2], ⟨vBs 2 ++ [.one (.one (.sl 0))] ++ vBs 5, [.arr 5]⟩, [(2, 5)]⟩], []⟩
noncomputable def j35_4 (x : List (Int) × Unit) : Option (Nat × List (Int) × Unit) := bif roomy (0 + x.1.length) 1 then some (0 + x.1.length, x.1, ()) else none
noncomputable def W35_4 : LF tC := cutLF tC p35_4 j35_4
theorem c35_4_is : NilHead c35_4 0 3 4 22 := ⟨_, _, _, _, _, _, _, _, _, _, _, rfl⟩
theorem j35_4_nil : exec tC G35 (look []) (restOf c35_4) ⟨((p35_4.s.emb ([], ())).t.set 3 (.imm 5 [])).set 4 (.bool true), (p35_4.s.emb ([], ())).h⟩ (fun e st => unP p35_4.k p35_4.outs e st) = j35_4 ([], ()) := by kernel_rfl
theorem j35_4_one (x : p35_4.s.ty tE) : exec tC G35 (look []) (restOf c35_4) ⟨((p35_4.s.emb x).t.set 3 (.imm 5 x.1)).set 4 (.bool false), (p35_4.s.emb x).h⟩ (fun e st => unP p35_4.k p35_4.outs e st) = j35_4 x := by kernel_rfl
theorem W35_4_ok : keyed 4 (bodyOf Try.f35) = [c35_4] ∧ ∀ n, n ≤ 0 → Snd tC n c35_4 W35_4.k := ⟨by kernel_rfl, fun n hn => nil_cut (p := p35_4) (f := j35_4) (Λ := look []) (el := 5) Y35 hn c35_4_is (by kernel_rfl) (lam_le lam_nil n hn) (fun x => ⟨5, x.1, rfl, fun t h => match t, x, h with
    | true, (xs, ()), h => by
      have h : xs = [] := h rfl
      subst h
      exact j35_4_nil
    | false, x, _ => j35_4_one x⟩) (fun _ => Nat.le_of_ble_eq_true (by kernel_rfl))⟩
def S35 : FS := ⟨[[.s 5]], [⟨[.one (.one (.imm 5))], []⟩], [⟨[.one (.one (.sl 0))], [.arr 5]⟩], [[.v]], []⟩
noncomputable def f35 (x : List (Int) × Unit) : Option (Nat × List (Int) × Unit) := (j35_4 (x.1, ())).bind fun y => some (y.1, y.2.1, ())
noncomputable def F35 : CF tC := mkF tC S35 f35
theorem f35_run : ∀ a, fnS tC G35 (look [(4, W35_4)]) Try.f35 S35 a = f35 a := fun a => by kernel_rfl
theorem F35_ok : CFOK tC 35 F35 := mkF_ok Y35 (fn := Try.f35) (body := bodyOf Try.f35) (by kernel_rfl) (by kernel_rfl) (by kernel_rfl) (m := 0) rfl (lam_le (lam_cons W35_4_ok lam_nil)) f35_run

/-! slices.Clone[int] -/
noncomputable def G29 : FuncId → Option (CF tC) := look []
theorem Y29 : SysN tC G29 := (sys_nil tC_ok tC_eq)
noncomputable def c29_4 : Code := subCode (bodyOf Try.f29) 4
def p29_4 : PS := ⟨0, [0], ⟨[.one (.one (.imm 3))] ++ vBs 7, []⟩, [⟨.ret, [2], ⟨vBs 2 ++ [.one (.one (.sl 0))] ++ vBs 5, [.arr 3]⟩, [(2, 3)]⟩], []⟩
noncomputable def j29_4 (x : List (Int) × Unit) : Option (Nat × List (Int) × Unit) := bif roomy (0 + x.1.length) 8 then some (0 + x.1.length, x.1, ()) else none
noncomputable def W29_4 : LF tC := cutLF tC p29_4 j29_4
theorem c29_4_is : NilHead c29_4 0 3 4 34 := ⟨_, _, _, _, _, _, _, _, _, _, _, rfl⟩
theorem j29_4_nil : exec tC G29 (look []) (restOf c29_4) ⟨((p29_4.s.emb ([], ())).t.set 3 (.imm 3 [])).set 4 (.bool true), (p29_4.s.emb ([], ())).h⟩ (fun e st => unP p29_4.k p29_4.outs e st) = j29_4 ([], ()) := by kernel_rfl
theorem j29_4_one (x : p29_4.s.ty tE) : exec tC G29 (look []) (restOf c29_4) ⟨((p29_4.s.emb x).t.set 3 (.imm 3 x.1)).set 4 (.bool false), (p29_4.s.emb x).h⟩ (fun e st => unP p29_4.k p29_4.outs e st) = j29_4 x := by kernel_rfl
theorem W29_4_ok : keyed 4 (bodyOf Try.f29) = [c29_4] ∧ ∀ n, n ≤ 0 → Snd tC n c29_4 W29_4.k := ⟨by kernel_rfl, fun n hn => nil_cut (p := p29_4) (f := j29_4) (Λ := look []) (el := 3) Y29 hn c29_4_is (by kernel_rfl) (lam_le lam_nil n hn) (fun x => ⟨3, x.1, rfl, fun t h => match t, x, h with
    | true, (xs, ()), h => by
      have h : xs = [] := h rfl
      subst h
      exact j29_4_nil
    | false, x, _ => j29_4_one x⟩) (fun _ => Nat.le_of_ble_eq_true (by kernel_rfl))⟩
def S29 : FS := ⟨[[.s 3]], [⟨[.one (.one (.imm 3))], []⟩], [⟨[.one (.one (.sl 0))], [.arr 3]⟩], [[.v]], []⟩
noncomputable def f29 (x : List (Int) × Unit) : Option (Nat × List (Int) × Unit) := (j29_4 (x.1, ())).bind fun y => some (y.1, y.2.1, ())
noncomputable def F29 : CF tC := mkF tC S29 f29
theorem f29_run : ∀ a, fnS tC G29 (look [(4, W29_4)]) Try.f29 S29 a = f29 a := fun a => by kernel_rfl
theorem F29_ok : CFOK tC 29 F29 := mkF_ok Y29 (fn := Try.f29) (body := bodyOf Try.f29) (by kernel_rfl) (by kernel_rfl) (by kernel_rfl) (m := 0) rfl (lam_le (lam_cons W29_4_ok lam_nil)) f29_run

/-! index -/
noncomputable def G37 : FuncId → Option (CF tC) := look []
theorem Y37 : SysN tC G37 := (sys_nil tC_ok tC_eq)
def S37 : FS := ⟨[[.q], [.v, .v]], [⟨[.one (.ro [.int .i64, .int .i64, .imm 5, .int .i64, .int .i64, .imm 3]), .one (.agg [.int .i64, .int .i64])], []⟩], [⟨[vI], []⟩], [[.v]], []⟩
def f37 (n1 : Int) (_n2 : Int) (_l3 : List Int) (_n4 : Int) (_n5 : Int) (_l6 : List Int) (n7 : Int) (n8 : Int) : Int :=
  IntKind.i64.wrap (IntKind.i64.wrap (n8 * n1) + n7)
noncomputable def F37 : CF tC := mkF tC S37 (fun a => some ((f37 a.1 a.2.1 a.2.2.1 a.2.2.2.1 a.2.2.2.2.1 a.2.2.2.2.2.1 a.2.2.2.2.2.2.1 a.2.2.2.2.2.2.2.1), ()))
def h37 (r : Int) : Option (altTy tE S37.outs) := some (r, ())
theorem f37_run : ∀ a, fnS tC G37 (look []) Try.f37 S37 a = (fun a => some ((f37 a.1 a.2.1 a.2.2.1 a.2.2.2.1 a.2.2.2.2.1 a.2.2.2.2.2.1 a.2.2.2.2.2.2.1 a.2.2.2.2.2.2.2.1), ())) a := fun a => by
  have key : ∀ (n1 : Int) (n2 : Int) (l3 : List Int) (n4 : Int) (n5 : Int) (l6 : List Int) (n7 : Int) (n8 : Int), (h37 (IntKind.i64.wrap (IntKind.i64.wrap (n8 * n1) + n7))) = h37 (f37 n1 n2 l3 n4 n5 l6 n7 n8) := by
    intros
    unfold f37
    repeat' first | rfl | refine cond_h (g := h37) ?_ ?_
  exact Eq.trans (by kernel_rfl) (key a.1 a.2.1 a.2.2.1 a.2.2.2.1 a.2.2.2.2.1 a.2.2.2.2.2.1 a.2.2.2.2.2.2.1 a.2.2.2.2.2.2.2.1)
theorem F37_ok : CFOK tC 37 F37 := mkF_ok Y37 (fn := Try.f37) (body := bodyOf Try.f37) (by kernel_rfl) (by kernel_rfl) (by kernel_rfl) (m := 0) rfl (lam_le lam_nil) f37_run

/-! around -/
noncomputable def G39 : FuncId → Option (CF tC) := look []
theorem Y39 : SysN tC G39 := (sys_nil tC_ok tC_eq)
noncomputable def c39_6 : Code := loopOf (loopOf (bodyOf Try.f39) 0) 2
def p39_6 : LS := ⟨0, [2, 3, 5, 6, 7], ⟨[vB, vB, .one (.one (.ptr 0 0 0)), .one (.one (.ptr 1 0 0)), vB, .one (.one (.sl 2)), vI, vI] ++ vBs 37, [.box [.int .i64, .int .i64, .imm 5], .box [.int .i64, .int .i64], .arr 26]⟩, [⟨.exit 2, [2, 3, 5, 6], ⟨[vB, vB, .one (.one (.ptr 0 0 0)), .one (.one (.ptr 1 0 0)), vB, .one (.one (.sl 2)), vI] ++ vBs 38, [.box [.int .i64, .int .i64, .imm 5], .box [.int .i64, .int .i64], .arr 26]⟩, []⟩], []⟩
noncomputable def r39_6 (x : Nat × Int × Int × Int × Int × List Int × Int × Int × List Pt × Unit) : Option (Nat × Int × Int × Int × Int × List Int × Int × Int × List Pt × Unit ⊕ Nat × Int × Int × Int × List Int × Int × Int × List Pt × Unit) :=
  bif
    decide
      (x.snd.snd.fst ≤
        bif decide (IntKind.i64.wrap (x.snd.snd.snd.fst - (1 : Int)) < IntKind.i64.wrap (x.snd.snd.snd.snd.snd.snd.fst + (1 : Int))) then
          IntKind.i64.wrap (x.snd.snd.snd.fst - (1 : Int))
        else IntKind.i64.wrap (x.snd.snd.snd.snd.snd.snd.fst + (1 : Int))) then
  bif decide ((0 : Nat) + x.fst ≤ x.snd.snd.snd.snd.snd.snd.snd.snd.fst.length) then
    bif roomy (x.fst + (1 : Nat)) (16 : Nat) then
      some
        (Sum.inl
          (x.fst + (1 : Nat), x.snd.fst, IntKind.i64.wrap (x.snd.snd.fst + (1 : Int)), x.snd.snd.snd.fst, x.snd.snd.snd.snd.fst,
            x.snd.snd.snd.snd.snd.fst, x.snd.snd.snd.snd.snd.snd.fst, x.snd.snd.snd.snd.snd.snd.snd.fst,
            List.take x.fst (List.drop (0 : Nat) x.snd.snd.snd.snd.snd.snd.snd.snd.fst) ++ [Pt.mk x.snd.snd.fst x.snd.fst], ()))
    else none
  else none
else
  some
    (Sum.inr
      (x.fst, x.snd.fst, x.snd.snd.snd.fst, x.snd.snd.snd.snd.fst, x.snd.snd.snd.snd.snd.fst, x.snd.snd.snd.snd.snd.snd.fst,
        x.snd.snd.snd.snd.snd.snd.snd.fst, x.snd.snd.snd.snd.snd.snd.snd.snd.fst, ()))
theorem r39_6_run0 (v0 : Nat) (v1 : Int) (v2 : Int) (v3 : Int) (v4 : Int) (v5 : List Int) (v6 : Int) (v7 : Int) (v8 : List Pt) : roundK tC G39 (look []) c39_6 p39_6 (v0, v1, v2, v3, v4, v5, v6, v7, v8, ()) = r39_6 (v0, v1, v2, v3, v4, v5, v6, v7, v8, ()) := by kernel_rfl
theorem r39_6_run (x : Nat × Int × Int × Int × Int × List Int × Int × Int × List Pt × Unit) : roundK tC G39 (look []) c39_6 p39_6 x = r39_6 x := r39_6_run0 x.1 x.2.1 x.2.2.1 x.2.2.2.1 x.2.2.2.2.1 x.2.2.2.2.2.1 x.2.2.2.2.2.2.1 x.2.2.2.2.2.2.2.1 x.2.2.2.2.2.2.2.2.1
noncomputable def l39_6 (x : Nat × Int × Int × Int × Int × List Int × Int × Int × List Pt × Unit) : Option (Nat × Int × Int × Int × List Int × Int × Int × List Pt × Unit) := iterO r39_6 x
noncomputable def W39_6 : LF tC := loopW tC p39_6 2 l39_6
theorem W39_6_ok : keyed 6 (loopOf (bodyOf Try.f39) 0) = [.block 2 (.loop c39_6)] ∧ ∀ n, n ≤ 0 → Snd tC n (.block 2 (.loop c39_6)) W39_6.k := ⟨by kernel_rfl, fun n hn => loopW_ok (p := p39_6) (id := 2) Y39 (lam_le lam_nil n hn) hn r39_6_run⟩
noncomputable def c39_0 : Code := loopOf (bodyOf Try.f39) 0
def p39_0 : LS := ⟨0, [2, 3, 5, 6], ⟨[vB, vB, .one (.one (.ptr 0 0 0)), .one (.one (.ptr 1 0 0)), vB, .one (.one (.sl 2)), vI] ++ vBs 38, [.box [.int .i64, .int .i64, .imm 5], .box [.int .i64, .int .i64], .arr 26]⟩, [⟨.exit 0, [5], ⟨vBs 5 ++ [.one (.one (.sl 0))] ++ vBs 39, [.arr 26]⟩, []⟩], [(5, 26)]⟩
noncomputable def r39_0 (x : Nat × Int × Int × Int × List Int × Int × Int × List Pt × Unit) : Option (Nat × Int × Int × Int × List Int × Int × Int × List Pt × Unit ⊕ Nat × List Pt × Unit) :=
  bif
    decide
      (x.snd.fst ≤
        bif decide (IntKind.i64.wrap (x.snd.snd.snd.fst - (1 : Int)) < IntKind.i64.wrap (x.snd.snd.snd.snd.snd.snd.fst + (1 : Int))) then
          IntKind.i64.wrap (x.snd.snd.snd.fst - (1 : Int))
        else IntKind.i64.wrap (x.snd.snd.snd.snd.snd.snd.fst + (1 : Int))) then
  (l39_6
        (x.fst, x.snd.fst,
          bif decide ((0 : Int) > IntKind.i64.wrap (x.snd.snd.snd.snd.snd.fst - (1 : Int))) then (0 : Int)
          else IntKind.i64.wrap (x.snd.snd.snd.snd.snd.fst - (1 : Int)),
          x.snd.snd.fst, x.snd.snd.snd.fst, x.snd.snd.snd.snd.fst, x.snd.snd.snd.snd.snd.fst, x.snd.snd.snd.snd.snd.snd.fst,
          x.snd.snd.snd.snd.snd.snd.snd.fst, ())).bind
    fun y79 =>
    some
      (Sum.inl
        (y79.fst, IntKind.i64.wrap (y79.snd.fst + (1 : Int)), y79.snd.snd.fst, y79.snd.snd.snd.fst, y79.snd.snd.snd.snd.fst,
          y79.snd.snd.snd.snd.snd.fst, y79.snd.snd.snd.snd.snd.snd.fst, y79.snd.snd.snd.snd.snd.snd.snd.fst, ()))
else some (Sum.inr (x.fst, x.snd.snd.snd.snd.snd.snd.snd.fst, ()))
theorem r39_0_run0 (v0 : Nat) (v1 : Int) (v2 : Int) (v3 : Int) (v4 : List Int) (v5 : Int) (v6 : Int) (v7 : List Pt) : roundK tC G39 (look [(6, W39_6)]) c39_0 p39_0 (v0, v1, v2, v3, v4, v5, v6, v7, ()) = r39_0 (v0, v1, v2, v3, v4, v5, v6, v7, ()) := by kernel_rfl
theorem r39_0_run (x : Nat × Int × Int × Int × List Int × Int × Int × List Pt × Unit) : roundK tC G39 (look [(6, W39_6)]) c39_0 p39_0 x = r39_0 x := r39_0_run0 x.1 x.2.1 x.2.2.1 x.2.2.2.1 x.2.2.2.2.1 x.2.2.2.2.2.1 x.2.2.2.2.2.2.1 x.2.2.2.2.2.2.2.1
noncomputable def l39_0 (x : Nat × Int × Int × Int × List Int × Int × Int × List Pt × Unit) : Option (Nat × List Pt × Unit) := iterO r39_0 x
noncomputable def W39_0 : LF tC := loopW tC p39_0 0 l39_0
theorem W39_0_ok : keyed 0 (bodyOf Try.f39) = [.block 0 (.loop c39_0)] ∧ ∀ n, n ≤ 0 → Snd tC n (.block 0 (.loop c39_0)) W39_0.k := ⟨by kernel_rfl, fun n hn => loopW_ok (p := p39_0) (id := 0) Y39 (lam_le (lam_cons W39_6_ok lam_nil) n hn) hn r39_0_run⟩
def S39 : FS := ⟨[[.v, .v, .s 5], [.v, .v]], [⟨[.one (.agg [.int .i64, .int .i64, .imm 5]), .one (.agg [.int .i64, .int .i64])], []⟩], [⟨[.one (.one (.sl 0))], [.arr 26]⟩], [[.v]], [(4, 26)]⟩
noncomputable def f39 (x : Int × Int × List Int × Int × Int × Unit) : Option (Nat × List Pt × Unit) :=
  (l39_0
      ((0 : Nat),
        bif decide ((0 : Int) > IntKind.i64.wrap (x.snd.snd.snd.snd.fst - (1 : Int))) then (0 : Int)
        else IntKind.i64.wrap (x.snd.snd.snd.snd.fst - (1 : Int)),
        x.fst, x.snd.fst, x.snd.snd.fst, x.snd.snd.snd.fst, x.snd.snd.snd.snd.fst, [], ())).bind
  fun y84 => some (y84.fst, y84.snd.fst, ())
noncomputable def F39 : CF tC := mkF tC S39 f39
theorem f39_run : ∀ a, fnS tC G39 (look [(0, W39_0)]) Try.f39 S39 a = f39 a := fun a => by kernel_rfl
theorem F39_ok : CFOK tC 39 F39 := mkF_ok Y39 (fn := Try.f39) (body := bodyOf Try.f39) (by kernel_rfl) (by kernel_rfl) (by kernel_rfl) (m := 0) rfl (lam_le (lam_cons W39_0_ok lam_nil)) f39_run

/-! repair.free -/
noncomputable def G65 : FuncId → Option (CF tC) := look []
theorem Y65 : SysN tC G65 := (sys_nil tC_ok tC_eq)
def S65 : FS := ⟨[[.v, .v, .s 5], [.v, .v]], [⟨[.one (.agg [.int .i64, .int .i64, .imm 5]), .one (.agg [.int .i64, .int .i64])], []⟩], [⟨[vO], []⟩], [[.v]], []⟩
noncomputable def f65 (x : Int × Int × List Int × Int × Int × Unit) : Option (Bool × Unit) :=
  (idxO x.snd.snd.fst (IntKind.i64.wrap (IntKind.i64.wrap (x.snd.snd.snd.snd.fst * x.fst) + x.snd.snd.snd.fst))).bind fun y8 =>
  some (y8 == (1 : Int), ())
noncomputable def F65 : CF tC := mkF tC S65 f65
theorem f65_run : ∀ a, fnS tC G65 (look []) Try.f65 S65 a = f65 a := fun a => by kernel_rfl
theorem F65_ok : CFOK tC 65 F65 := mkF_ok Y65 (fn := Try.f65) (body := bodyOf Try.f65) (by kernel_rfl) (by kernel_rfl) (by kernel_rfl) (m := 0) rfl (lam_le lam_nil) f65_run

/-! repair.step -/
noncomputable def G51 : FuncId → Option (CF tC) := look [(65, F65)]
theorem Y51 : SysN tC G51 := (sys_cons F65_ok (mkF_nat _ _) (sys_nil tC_ok tC_eq))
noncomputable def c51_22 : Code := subCode (bodyOf Try.f51) 22
def p51_22 : PS := ⟨0, [], ⟨vBs 54, []⟩, [⟨.ret, [6, 7], ⟨vBs 6 ++ [vI, vO] ++ vBs 46, []⟩, []⟩], []⟩
noncomputable def j51_22 (_x : Unit) : Option (Int × Bool × Unit) :=
  some ((0 : Int), false, ())
theorem j51_22_run0  : pieceK tC G51 (look []) c51_22 p51_22 (()) = j51_22 (()) := by kernel_rfl
theorem j51_22_run (x : Unit) : pieceK tC G51 (look []) c51_22 p51_22 x = j51_22 x := j51_22_run0 
noncomputable def W51_22 : LF tC := cutLF tC p51_22 j51_22
theorem W51_22_ok : keyed 22 (bodyOf Try.f51) = [c51_22] ∧ ∀ n, n ≤ 0 → Snd tC n c51_22 W51_22.k := ⟨by kernel_rfl, fun n hn => cut_ok (p := p51_22) Y51 (lam_le lam_nil n hn) hn j51_22_run⟩
def S51 : FS := ⟨[[.v, .v, .s 5], [.v, .v], [.v, .v]], [⟨[.one (.agg [.int .i64, .int .i64, .imm 5]), .one (.agg [.int .i64, .int .i64]), .one (.agg [.int .i64, .int .i64])], []⟩], [⟨[.tup [.one (.int .i64), .one .bool]], []⟩], [[.v], [.v]], []⟩
noncomputable def f51 (x : Int × Int × List Int × Int × Int × Int × Int × Unit) : Option (Int × Bool × Unit) :=
  bif
    bif x.snd.snd.snd.fst == x.snd.snd.snd.snd.snd.fst then bif x.snd.snd.snd.snd.fst == x.snd.snd.snd.snd.snd.snd.fst then true else false
    else false then
  some ((0 : Int), false, ())
else
  (f65 (x.fst, x.snd.fst, x.snd.snd.fst, x.snd.snd.snd.fst, x.snd.snd.snd.snd.fst, ())).bind fun y25 =>
    bif !y25.fst then some ((0 : Int), false, ())
    else
      (f65 (x.fst, x.snd.fst, x.snd.snd.fst, x.snd.snd.snd.snd.snd.fst, x.snd.snd.snd.snd.snd.snd.fst, ())).bind fun y24 =>
        bif !y24.fst then some ((0 : Int), false, ())
        else
          bif x.snd.snd.snd.fst == x.snd.snd.snd.snd.snd.fst then some ((70 : Int), true, ())
          else
            bif x.snd.snd.snd.snd.fst == x.snd.snd.snd.snd.snd.snd.fst then some ((70 : Int), true, ())
            else
              (f65 (x.fst, x.snd.fst, x.snd.snd.fst, x.snd.snd.snd.fst, x.snd.snd.snd.snd.snd.snd.fst, ())).bind fun y23 =>
                bif y23.fst then
                  (f65 (x.fst, x.snd.fst, x.snd.snd.fst, x.snd.snd.snd.snd.snd.fst, x.snd.snd.snd.snd.fst, ())).bind fun y21 =>
                    bif y21.fst then some ((99 : Int), true, ()) else (j51_22 ()).bind fun y20 => some (y20.fst, y20.snd.fst, ())
                else (j51_22 ()).bind fun y22 => some (y22.fst, y22.snd.fst, ())
noncomputable def F51 : CF tC := mkF tC S51 f51
theorem f51_run : ∀ a, fnS tC G51 (look [(22, W51_22)]) Try.f51 S51 a = f51 a := fun a => by kernel_rfl
theorem F51_ok : CFOK tC 51 F51 := mkF_ok Y51 (fn := Try.f51) (body := bodyOf Try.f51) (by kernel_rfl) (by kernel_rfl) (by kernel_rfl) (m := 0) rfl (lam_le (lam_cons W51_22_ok lam_nil)) f51_run

/-! held -/
noncomputable def G52 : FuncId → Option (CF tC) := look [(37, F37), (39, F39), (51, F51)]
theorem Y52 : SysN tC G52 := (sys_cons F37_ok (mkF_nat _ _) (sys_cons F39_ok (mkF_nat _ _) (sys_cons F51_ok (mkF_nat _ _) (sys_nil tC_ok tC_eq))))
noncomputable def c52_28 : Code := subCode (loopOf (bodyOf Try.f52) 0) 28
def p52_28 : PS := ⟨0, [0, 3, 5, 25, 26, 27], ⟨[.one (.ro [.int .i64, .int .i64, .imm 5, .int .i64, .int .i64, .imm 3]), vB, vB, .one (.one (.ptr 0 0 0)), vB, vI] ++ vBs 19 ++ [.one (.one (.sl 1)), vI, vI] ++ vBs 35, [.box [.int .i64, .int .i64], .arr 26]⟩, [⟨.normal, [0, 3, 5, 25, 26, 27], ⟨[.one (.ro [.int .i64, .int .i64, .imm 5, .int .i64, .int .i64, .imm 3]), vB, vB, .one (.one (.ptr 0 0 0)), vB, vI] ++ vBs 19 ++ [.one (.one (.sl 1)), vI, vI] ++ vBs 35, [.box [.int .i64, .int .i64], .arr 26]⟩, []⟩], []⟩
noncomputable def j52_28 (x : Int × Int × List Int × Int × Int × List Int × Int × Nat × Int × Int × Int × Int × List Pt × Unit) : Option (Int × Int × List Int × Int × Int × List Int × Int × Nat × Int × Int × Int × Int × List Pt × Unit) :=
  some
  (x.fst, x.snd.fst, x.snd.snd.fst, x.snd.snd.snd.fst, x.snd.snd.snd.snd.fst, x.snd.snd.snd.snd.snd.fst, x.snd.snd.snd.snd.snd.snd.fst,
    x.snd.snd.snd.snd.snd.snd.snd.fst, x.snd.snd.snd.snd.snd.snd.snd.snd.fst,
    IntKind.i64.wrap (x.snd.snd.snd.snd.snd.snd.snd.snd.snd.fst + (1 : Int)), x.snd.snd.snd.snd.snd.snd.snd.snd.snd.snd.fst,
    x.snd.snd.snd.snd.snd.snd.snd.snd.snd.snd.snd.fst, x.snd.snd.snd.snd.snd.snd.snd.snd.snd.snd.snd.snd.fst, ())
theorem j52_28_run0 (v0 : Int) (v1 : Int) (v2 : List Int) (v3 : Int) (v4 : Int) (v5 : List Int) (v6 : Int) (v7 : Nat) (v8 : Int) (v9 : Int) (v10 : Int) (v11 : Int) (v12 : List Pt) : pieceK tC G52 (look []) c52_28 p52_28 (v0, v1, v2, v3, v4, v5, v6, v7, v8, v9, v10, v11, v12, ()) = j52_28 (v0, v1, v2, v3, v4, v5, v6, v7, v8, v9, v10, v11, v12, ()) := by kernel_rfl
theorem j52_28_run (x : Int × Int × List Int × Int × Int × List Int × Int × Nat × Int × Int × Int × Int × List Pt × Unit) : pieceK tC G52 (look []) c52_28 p52_28 x = j52_28 x := j52_28_run0 x.1 x.2.1 x.2.2.1 x.2.2.2.1 x.2.2.2.2.1 x.2.2.2.2.2.1 x.2.2.2.2.2.2.1 x.2.2.2.2.2.2.2.1 x.2.2.2.2.2.2.2.2.1 x.2.2.2.2.2.2.2.2.2.1 x.2.2.2.2.2.2.2.2.2.2.1 x.2.2.2.2.2.2.2.2.2.2.2.1 x.2.2.2.2.2.2.2.2.2.2.2.2.1
noncomputable def W52_28 : LF tC := cutLF tC p52_28 j52_28
theorem W52_28_ok : keyed 28 (loopOf (bodyOf Try.f52) 0) = [c52_28] ∧ ∀ n, n ≤ 0 → Snd tC n c52_28 W52_28.k := ⟨by kernel_rfl, fun n hn => cut_ok (p := p52_28) Y52 (lam_le lam_nil n hn) hn j52_28_run⟩
noncomputable def c52_0 : Code := loopOf (bodyOf Try.f52) 0
def p52_0 : LS := ⟨0, [0, 3, 5, 25, 26, 27], ⟨[.one (.ro [.int .i64, .int .i64, .imm 5, .int .i64, .int .i64, .imm 3]), vB, vB, .one (.one (.ptr 0 0 0)), vB, vI] ++ vBs 19 ++ [.one (.one (.sl 1)), vI, vI] ++ vBs 35, [.box [.int .i64, .int .i64], .arr 26]⟩, [⟨.ret, [4], ⟨vBs 4 ++ [vO] ++ vBs 58, []⟩, []⟩, ⟨.exit 0, [], ⟨vBs 63, []⟩, []⟩], []⟩
noncomputable def r52_0 (x : Int × Int × List Int × Int × Int × List Int × Int × Nat × Int × Int × Int × Int × List Pt × Unit) : Option (Int × Int × List Int × Int × Int × List Int × Int × Nat × Int × Int × Int × Int × List Pt × Unit ⊕ Bool × Unit ⊕ Unit) :=
  bif decide (x.snd.snd.snd.snd.snd.snd.snd.snd.snd.fst < x.snd.snd.snd.snd.snd.snd.snd.snd.fst) then
  bif
      decide ((0 : Int) ≤ x.snd.snd.snd.snd.snd.snd.snd.snd.snd.fst) &&
        decide (x.snd.snd.snd.snd.snd.snd.snd.snd.snd.fst < (↑x.snd.snd.snd.snd.snd.snd.snd.fst : Int)) then
    x.snd.snd.snd.snd.snd.snd.snd.snd.snd.snd.snd.snd.fst[(0 : Nat) + x.snd.snd.snd.snd.snd.snd.snd.snd.snd.fst.toNat]?.bind fun y100 =>
      (f51
            (x.fst, x.snd.fst, x.snd.snd.fst, x.snd.snd.snd.snd.snd.snd.snd.snd.snd.snd.fst,
              x.snd.snd.snd.snd.snd.snd.snd.snd.snd.snd.snd.fst, y100.X, y100.Y, ())).bind
        fun y99 =>
        (idxO x.snd.snd.snd.snd.snd.fst
              (f37 x.fst x.snd.fst x.snd.snd.fst x.snd.snd.snd.fst x.snd.snd.snd.snd.fst x.snd.snd.snd.snd.snd.fst y100.X y100.Y)).bind
          fun y98 =>
          bif y99.snd.fst then
            bif decide (y98 ≥ (0 : Int)) then
              bif IntKind.i64.wrap (y98 + y99.fst) == x.snd.snd.snd.snd.snd.snd.fst then some (Sum.inr (Sum.inl (true, ())))
              else
                (j52_28
                      (x.fst, x.snd.fst, x.snd.snd.fst, x.snd.snd.snd.fst, x.snd.snd.snd.snd.fst, x.snd.snd.snd.snd.snd.fst,
                        x.snd.snd.snd.snd.snd.snd.fst, x.snd.snd.snd.snd.snd.snd.snd.fst, x.snd.snd.snd.snd.snd.snd.snd.snd.fst,
                        x.snd.snd.snd.snd.snd.snd.snd.snd.snd.fst, x.snd.snd.snd.snd.snd.snd.snd.snd.snd.snd.fst,
                        x.snd.snd.snd.snd.snd.snd.snd.snd.snd.snd.snd.fst, x.snd.snd.snd.snd.snd.snd.snd.snd.snd.snd.snd.snd.fst, ())).bind
                  fun y95 =>
                  some
                    (Sum.inl
                      (y95.fst, y95.snd.fst, y95.snd.snd.fst, y95.snd.snd.snd.fst, y95.snd.snd.snd.snd.fst, y95.snd.snd.snd.snd.snd.fst,
                        y95.snd.snd.snd.snd.snd.snd.fst, y95.snd.snd.snd.snd.snd.snd.snd.fst, y95.snd.snd.snd.snd.snd.snd.snd.snd.fst,
                        y95.snd.snd.snd.snd.snd.snd.snd.snd.snd.fst, y95.snd.snd.snd.snd.snd.snd.snd.snd.snd.snd.fst,
                        y95.snd.snd.snd.snd.snd.snd.snd.snd.snd.snd.snd.fst, y95.snd.snd.snd.snd.snd.snd.snd.snd.snd.snd.snd.snd.fst, ()))
            else
              (j52_28
                    (x.fst, x.snd.fst, x.snd.snd.fst, x.snd.snd.snd.fst, x.snd.snd.snd.snd.fst, x.snd.snd.snd.snd.snd.fst,
                      x.snd.snd.snd.snd.snd.snd.fst, x.snd.snd.snd.snd.snd.snd.snd.fst, x.snd.snd.snd.snd.snd.snd.snd.snd.fst,
                      x.snd.snd.snd.snd.snd.snd.snd.snd.snd.fst, x.snd.snd.snd.snd.snd.snd.snd.snd.snd.snd.fst,
                      x.snd.snd.snd.snd.snd.snd.snd.snd.snd.snd.snd.fst, x.snd.snd.snd.snd.snd.snd.snd.snd.snd.snd.snd.snd.fst, ())).bind
                fun y96 =>
                some
                  (Sum.inl
                    (y96.fst, y96.snd.fst, y96.snd.snd.fst, y96.snd.snd.snd.fst, y96.snd.snd.snd.snd.fst, y96.snd.snd.snd.snd.snd.fst,
                      y96.snd.snd.snd.snd.snd.snd.fst, y96.snd.snd.snd.snd.snd.snd.snd.fst, y96.snd.snd.snd.snd.snd.snd.snd.snd.fst,
                      y96.snd.snd.snd.snd.snd.snd.snd.snd.snd.fst, y96.snd.snd.snd.snd.snd.snd.snd.snd.snd.snd.fst,
                      y96.snd.snd.snd.snd.snd.snd.snd.snd.snd.snd.snd.fst, y96.snd.snd.snd.snd.snd.snd.snd.snd.snd.snd.snd.snd.fst, ()))
          else
            (j52_28
                  (x.fst, x.snd.fst, x.snd.snd.fst, x.snd.snd.snd.fst, x.snd.snd.snd.snd.fst, x.snd.snd.snd.snd.snd.fst,
                    x.snd.snd.snd.snd.snd.snd.fst, x.snd.snd.snd.snd.snd.snd.snd.fst, x.snd.snd.snd.snd.snd.snd.snd.snd.fst,
                    x.snd.snd.snd.snd.snd.snd.snd.snd.snd.fst, x.snd.snd.snd.snd.snd.snd.snd.snd.snd.snd.fst,
                    x.snd.snd.snd.snd.snd.snd.snd.snd.snd.snd.snd.fst, x.snd.snd.snd.snd.snd.snd.snd.snd.snd.snd.snd.snd.fst, ())).bind
              fun y97 =>
              some
                (Sum.inl
                  (y97.fst, y97.snd.fst, y97.snd.snd.fst, y97.snd.snd.snd.fst, y97.snd.snd.snd.snd.fst, y97.snd.snd.snd.snd.snd.fst,
                    y97.snd.snd.snd.snd.snd.snd.fst, y97.snd.snd.snd.snd.snd.snd.snd.fst, y97.snd.snd.snd.snd.snd.snd.snd.snd.fst,
                    y97.snd.snd.snd.snd.snd.snd.snd.snd.snd.fst, y97.snd.snd.snd.snd.snd.snd.snd.snd.snd.snd.fst,
                    y97.snd.snd.snd.snd.snd.snd.snd.snd.snd.snd.snd.fst, y97.snd.snd.snd.snd.snd.snd.snd.snd.snd.snd.snd.snd.fst, ()))
  else none
else some (Sum.inr (Sum.inr ()))
theorem r52_0_run0 (v0 : Int) (v1 : Int) (v2 : List Int) (v3 : Int) (v4 : Int) (v5 : List Int) (v6 : Int) (v7 : Nat) (v8 : Int) (v9 : Int) (v10 : Int) (v11 : Int) (v12 : List Pt) : roundK tC G52 (look [(28, W52_28)]) c52_0 p52_0 (v0, v1, v2, v3, v4, v5, v6, v7, v8, v9, v10, v11, v12, ()) = r52_0 (v0, v1, v2, v3, v4, v5, v6, v7, v8, v9, v10, v11, v12, ()) := by kernel_rfl
theorem r52_0_run (x : Int × Int × List Int × Int × Int × List Int × Int × Nat × Int × Int × Int × Int × List Pt × Unit) : roundK tC G52 (look [(28, W52_28)]) c52_0 p52_0 x = r52_0 x := r52_0_run0 x.1 x.2.1 x.2.2.1 x.2.2.2.1 x.2.2.2.2.1 x.2.2.2.2.2.1 x.2.2.2.2.2.2.1 x.2.2.2.2.2.2.2.1 x.2.2.2.2.2.2.2.2.1 x.2.2.2.2.2.2.2.2.2.1 x.2.2.2.2.2.2.2.2.2.2.1 x.2.2.2.2.2.2.2.2.2.2.2.1 x.2.2.2.2.2.2.2.2.2.2.2.2.1
noncomputable def l52_0 (x : Int × Int × List Int × Int × Int × List Int × Int × Nat × Int × Int × Int × Int × List Pt × Unit) : Option (Bool × Unit ⊕ Unit) := iterO r52_0 x
noncomputable def W52_0 : LF tC := loopW tC p52_0 0 l52_0
theorem W52_0_ok : keyed 0 (bodyOf Try.f52) = [.block 0 (.loop c52_0)] ∧ ∀ n, n ≤ 0 → Snd tC n (.block 0 (.loop c52_0)) W52_0.k := ⟨by kernel_rfl, fun n hn => loopW_ok (p := p52_0) (id := 0) Y52 (lam_le (lam_cons W52_28_ok lam_nil) n hn) hn r52_0_run⟩
def S52 : FS := ⟨[[.q], [.v, .v]], [⟨[.one (.ro [.int .i64, .int .i64, .imm 5, .int .i64, .int .i64, .imm 3]), .one (.agg [.int .i64, .int .i64])], []⟩], [⟨[vO], []⟩], [[.v]], []⟩
noncomputable def f52 (x : Int × Int × List Int × Int × Int × List Int × Int × Int × Unit) : Option (Bool × Unit) :=
  (idxO x.snd.snd.snd.snd.snd.fst
      (f37 x.fst x.snd.fst x.snd.snd.fst x.snd.snd.snd.fst x.snd.snd.snd.snd.fst x.snd.snd.snd.snd.snd.fst x.snd.snd.snd.snd.snd.snd.fst
        x.snd.snd.snd.snd.snd.snd.snd.fst)).bind
  fun y107 =>
  (f39 (x.fst, x.snd.fst, x.snd.snd.fst, x.snd.snd.snd.snd.snd.snd.fst, x.snd.snd.snd.snd.snd.snd.snd.fst, ())).bind fun y106 =>
    (l52_0
          (x.fst, x.snd.fst, x.snd.snd.fst, x.snd.snd.snd.fst, x.snd.snd.snd.snd.fst, x.snd.snd.snd.snd.snd.fst, y107, y106.fst,
            (↑y106.fst : Int), (0 : Int), x.snd.snd.snd.snd.snd.snd.fst, x.snd.snd.snd.snd.snd.snd.snd.fst, y106.snd.fst, ())).bind
      fun y105 => Sum.elim (fun y103 => some (y103.fst, ())) (fun _x => some (false, ())) y105
noncomputable def F52 : CF tC := mkF tC S52 f52
theorem f52_run : ∀ a, fnS tC G52 (look [(0, W52_0)]) Try.f52 S52 a = f52 a := fun a => by kernel_rfl
theorem F52_ok : CFOK tC 52 F52 := mkF_ok Y52 (fn := Try.f52) (body := bodyOf Try.f52) (by kernel_rfl) (by kernel_rfl) (by kernel_rfl) (m := 0) rfl (lam_le (lam_cons W52_0_ok lam_nil)) f52_run

/-! spread -/
noncomputable def G38 : FuncId → Option (CF tC) := look [(37, F37), (39, F39), (51, F51)]
theorem Y38 : SysN tC G38 := (sys_cons F37_ok (mkF_nat _ _) (sys_cons F39_ok (mkF_nat _ _) (sys_cons F51_ok (mkF_nat _ _) (sys_nil tC_ok tC_eq))))
noncomputable def c38_37 : Code := subCode (loopOf (loopOf (bodyOf Try.f38) 0) 2) 37
def p38_37 : PS := ⟨4, [0, 1, 4, 5, 7, 35, 36, 37], ⟨[.one (.one (.ptr 2 0 0)), .one (.one (.slw 4)), vB, vB, .one (.one (.ptr 5 0 0)), vI, vB, .one (.one (.ptr 6 0 0))] ++ vBs 27 ++ [.one (.one (.sl 7)), vI, vI] ++ vBs 50, [.arr 5, .arr 3, .box [.int .i64, .int .i64, .sl 0, .int .i64, .int .i64, .sl 1], .gone, .arr 26, .box [.int .i64, .int .i64], .box [.int .i64, .int .i64], .arr 26]⟩, [⟨.normal, [0, 1, 4, 5, 35, 36, 37], ⟨[.one (.one (.ptr 2 0 0)), .one (.one (.sl 4)), vB, vB, .one (.one (.ptr 5 0 0)), vI] ++ vBs 29 ++ [.one (.one (.sl 6)), vI, vI] ++ vBs 50, [.arr 5, .arr 3, .box [.int .i64, .int .i64, .sl 0, .int .i64, .int .i64, .sl 1], .gone, .arr 26, .box [.int .i64, .int .i64], .arr 26]⟩, []⟩], []⟩
noncomputable def j38_37 (x : Nat ×
  Nat × Int × Nat × Int × Int × List Int × List Int × Int × Int × Nat × Int × Int × Nat × List Pt × Int × Int × Int × Int × List Pt × Unit) : Option (Nat × Int × Nat × Int × Int × List Int × List Int × Int × Int × Nat × Int × Int × Nat × List Pt × Int × Int × List Pt × Unit) :=
  bif decide (x.fst + x.snd.fst ≤ x.snd.snd.snd.snd.snd.snd.snd.snd.snd.snd.snd.snd.snd.snd.fst.length) then
  bif roomy (x.snd.fst + (1 : Nat)) (16 : Nat) then
    some
      (x.snd.fst + (1 : Nat), x.snd.snd.fst, x.snd.snd.snd.fst, x.snd.snd.snd.snd.fst, x.snd.snd.snd.snd.snd.fst,
        x.snd.snd.snd.snd.snd.snd.fst, x.snd.snd.snd.snd.snd.snd.snd.fst, x.snd.snd.snd.snd.snd.snd.snd.snd.fst,
        x.snd.snd.snd.snd.snd.snd.snd.snd.snd.fst, x.snd.snd.snd.snd.snd.snd.snd.snd.snd.snd.fst,
        x.snd.snd.snd.snd.snd.snd.snd.snd.snd.snd.snd.fst, x.snd.snd.snd.snd.snd.snd.snd.snd.snd.snd.snd.snd.fst,
        x.snd.snd.snd.snd.snd.snd.snd.snd.snd.snd.snd.snd.snd.fst,
        List.take x.snd.fst (List.drop x.fst x.snd.snd.snd.snd.snd.snd.snd.snd.snd.snd.snd.snd.snd.snd.fst) ++
          [Pt.mk x.snd.snd.snd.snd.snd.snd.snd.snd.snd.snd.snd.snd.snd.snd.snd.snd.snd.fst
              x.snd.snd.snd.snd.snd.snd.snd.snd.snd.snd.snd.snd.snd.snd.snd.snd.snd.snd.fst],
        x.snd.snd.snd.snd.snd.snd.snd.snd.snd.snd.snd.snd.snd.snd.snd.fst,
        x.snd.snd.snd.snd.snd.snd.snd.snd.snd.snd.snd.snd.snd.snd.snd.snd.fst,
        x.snd.snd.snd.snd.snd.snd.snd.snd.snd.snd.snd.snd.snd.snd.snd.snd.snd.snd.snd.fst, ())
  else none
else none
theorem j38_37_run0 (v0 : Nat) (v1 : Nat) (v2 : Int) (v3 : Nat) (v4 : Int) (v5 : Int) (v6 : List Int) (v7 : List Int) (v8 : Int) (v9 : Int) (v10 : Nat) (v11 : Int) (v12 : Int) (v13 : Nat) (v14 : List Pt) (v15 : Int) (v16 : Int) (v17 : Int) (v18 : Int) (v19 : List Pt) : pieceK tC G38 (look []) c38_37 p38_37 (v0, v1, v2, v3, v4, v5, v6, v7, v8, v9, v10, v11, v12, v13, v14, v15, v16, v17, v18, v19, ()) = j38_37 (v0, v1, v2, v3, v4, v5, v6, v7, v8, v9, v10, v11, v12, v13, v14, v15, v16, v17, v18, v19, ()) := by kernel_rfl
theorem j38_37_run (x : Nat ×
  Nat × Int × Nat × Int × Int × List Int × List Int × Int × Int × Nat × Int × Int × Nat × List Pt × Int × Int × Int × Int × List Pt × Unit) : pieceK tC G38 (look []) c38_37 p38_37 x = j38_37 x := j38_37_run0 x.1 x.2.1 x.2.2.1 x.2.2.2.1 x.2.2.2.2.1 x.2.2.2.2.2.1 x.2.2.2.2.2.2.1 x.2.2.2.2.2.2.2.1 x.2.2.2.2.2.2.2.2.1 x.2.2.2.2.2.2.2.2.2.1 x.2.2.2.2.2.2.2.2.2.2.1 x.2.2.2.2.2.2.2.2.2.2.2.1 x.2.2.2.2.2.2.2.2.2.2.2.2.1 x.2.2.2.2.2.2.2.2.2.2.2.2.2.1 x.2.2.2.2.2.2.2.2.2.2.2.2.2.2.1 x.2.2.2.2.2.2.2.2.2.2.2.2.2.2.2.1 x.2.2.2.2.2.2.2.2.2.2.2.2.2.2.2.2.1 x.2.2.2.2.2.2.2.2.2.2.2.2.2.2.2.2.2.1 x.2.2.2.2.2.2.2.2.2.2.2.2.2.2.2.2.2.2.1 x.2.2.2.2.2.2.2.2.2.2.2.2.2.2.2.2.2.2.2.1
noncomputable def W38_37 : LF tC := cutLF tC p38_37 j38_37
theorem W38_37_ok : keyed 37 (loopOf (loopOf (bodyOf Try.f38) 0) 2) = [c38_37] ∧ ∀ n, n ≤ 4 → Snd tC n c38_37 W38_37.k := ⟨by kernel_rfl, fun n hn => cut_ok (p := p38_37) Y38 (lam_le lam_nil n hn) hn j38_37_run⟩
noncomputable def c38_40 : Code := subCode (loopOf (loopOf (bodyOf Try.f38) 0) 2) 40
def p38_40 : PS := ⟨4, [0, 1, 4, 5, 35, 36, 37], ⟨[.one (.one (.ptr 2 0 0)), .one (.one (.slw 4)), vB, vB, .one (.one (.ptr 5 0 0)), vI] ++ vBs 29 ++ [.one (.one (.sl 6)), vI, vI] ++ vBs 50, [.arr 5, .arr 3, .box [.int .i64, .int .i64, .sl 0, .int .i64, .int .i64, .sl 1], .gone, .arr 26, .box [.int .i64, .int .i64], .arr 26]⟩, [⟨.normal, [0, 1, 4, 5, 35, 36, 37], ⟨[.one (.one (.ptr 2 0 0)), .one (.one (.slw 4)), vB, vB, .one (.one (.ptr 5 0 0)), vI] ++ vBs 29 ++ [.one (.one (.sl 6)), vI, vI] ++ vBs 50, [.arr 5, .arr 3, .box [.int .i64, .int .i64, .sl 0, .int .i64, .int .i64, .sl 1], .gone, .arr 26, .box [.int .i64, .int .i64], .arr 26]⟩, []⟩], []⟩
noncomputable def j38_40 (x : Nat × Nat × Int × Nat × Int × Int × List Int × List Int × Int × Int × Nat × Int × Int × Nat × List Pt × Int × Int × List Pt × Unit) : Option (Nat × Nat × Int × Nat × Int × Int × List Int × List Int × Int × Int × Nat × Int × Int × Nat × List Pt × Int × Int × List Pt × Unit) :=
  some
  (x.fst, x.snd.fst, x.snd.snd.fst, x.snd.snd.snd.fst, x.snd.snd.snd.snd.fst, IntKind.i64.wrap (x.snd.snd.snd.snd.snd.fst + (1 : Int)),
    x.snd.snd.snd.snd.snd.snd.fst, x.snd.snd.snd.snd.snd.snd.snd.fst, x.snd.snd.snd.snd.snd.snd.snd.snd.fst,
    x.snd.snd.snd.snd.snd.snd.snd.snd.snd.fst, x.snd.snd.snd.snd.snd.snd.snd.snd.snd.snd.fst,
    x.snd.snd.snd.snd.snd.snd.snd.snd.snd.snd.snd.fst, x.snd.snd.snd.snd.snd.snd.snd.snd.snd.snd.snd.snd.fst,
    x.snd.snd.snd.snd.snd.snd.snd.snd.snd.snd.snd.snd.snd.fst, x.snd.snd.snd.snd.snd.snd.snd.snd.snd.snd.snd.snd.snd.snd.fst,
    x.snd.snd.snd.snd.snd.snd.snd.snd.snd.snd.snd.snd.snd.snd.snd.fst,
    x.snd.snd.snd.snd.snd.snd.snd.snd.snd.snd.snd.snd.snd.snd.snd.snd.fst,
    x.snd.snd.snd.snd.snd.snd.snd.snd.snd.snd.snd.snd.snd.snd.snd.snd.snd.fst, ())
theorem j38_40_run0 (v0 : Nat) (v1 : Nat) (v2 : Int) (v3 : Nat) (v4 : Int) (v5 : Int) (v6 : List Int) (v7 : List Int) (v8 : Int) (v9 : Int) (v10 : Nat) (v11 : Int) (v12 : Int) (v13 : Nat) (v14 : List Pt) (v15 : Int) (v16 : Int) (v17 : List Pt) : pieceK tC G38 (look []) c38_40 p38_40 (v0, v1, v2, v3, v4, v5, v6, v7, v8, v9, v10, v11, v12, v13, v14, v15, v16, v17, ()) = j38_40 (v0, v1, v2, v3, v4, v5, v6, v7, v8, v9, v10, v11, v12, v13, v14, v15, v16, v17, ()) := by kernel_rfl
theorem j38_40_run (x : Nat × Nat × Int × Nat × Int × Int × List Int × List Int × Int × Int × Nat × Int × Int × Nat × List Pt × Int × Int × List Pt × Unit) : pieceK tC G38 (look []) c38_40 p38_40 x = j38_40 x := j38_40_run0 x.1 x.2.1 x.2.2.1 x.2.2.2.1 x.2.2.2.2.1 x.2.2.2.2.2.1 x.2.2.2.2.2.2.1 x.2.2.2.2.2.2.2.1 x.2.2.2.2.2.2.2.2.1 x.2.2.2.2.2.2.2.2.2.1 x.2.2.2.2.2.2.2.2.2.2.1 x.2.2.2.2.2.2.2.2.2.2.2.1 x.2.2.2.2.2.2.2.2.2.2.2.2.1 x.2.2.2.2.2.2.2.2.2.2.2.2.2.1 x.2.2.2.2.2.2.2.2.2.2.2.2.2.2.1 x.2.2.2.2.2.2.2.2.2.2.2.2.2.2.2.1 x.2.2.2.2.2.2.2.2.2.2.2.2.2.2.2.2.1 x.2.2.2.2.2.2.2.2.2.2.2.2.2.2.2.2.2.1
noncomputable def W38_40 : LF tC := cutLF tC p38_40 j38_40
theorem W38_40_ok : keyed 40 (loopOf (loopOf (bodyOf Try.f38) 0) 2) = [c38_40] ∧ ∀ n, n ≤ 4 → Snd tC n c38_40 W38_40.k := ⟨by kernel_rfl, fun n hn => cut_ok (p := p38_40) Y38 (lam_le lam_nil n hn) hn j38_40_run⟩
noncomputable def c38_6 : Code := loopOf (loopOf (bodyOf Try.f38) 0) 2
def p38_6 : LS := ⟨4, [0, 1, 4, 5, 35, 36, 37], ⟨[.one (.one (.ptr 2 0 0)), .one (.one (.slw 4)), vB, vB, .one (.one (.ptr 5 0 0)), vI] ++ vBs 29 ++ [.one (.one (.sl 6)), vI, vI] ++ vBs 50, [.arr 5, .arr 3, .box [.int .i64, .int .i64, .sl 0, .int .i64, .int .i64, .sl 1], .gone, .arr 26, .box [.int .i64, .int .i64], .arr 26]⟩, [⟨.exit 2, [0, 1], ⟨[.one (.one (.ptr 2 0 0)), .one (.one (.slw 4))] ++ vBs 86, [.arr 5, .arr 3, .box [.int .i64, .int .i64, .sl 0, .int .i64, .int .i64, .sl 1], .gone, .arr 26]⟩, []⟩], []⟩
noncomputable def r38_6 (x : Nat × Nat × Int × Nat × Int × Int × List Int × List Int × Int × Int × Nat × Int × Int × Nat × List Pt × Int × Int × List Pt × Unit) : Option
  (Nat × Nat × Int × Nat × Int × Int × List Int × List Int × Int × Int × Nat × Int × Int × Nat × List Pt × Int × Int × List Pt × Unit ⊕
    Nat × Nat × List Int × List Int × Int × Int × Nat × Int × Int × Nat × List Pt × Unit) :=
  bif decide (x.snd.snd.snd.snd.snd.fst < x.snd.snd.snd.snd.fst) then
  bif decide ((0 : Int) ≤ x.snd.snd.snd.snd.snd.fst) && decide (x.snd.snd.snd.snd.snd.fst < (↑x.snd.snd.snd.fst : Int)) then
    x.snd.snd.snd.snd.snd.snd.snd.snd.snd.snd.snd.snd.snd.snd.snd.snd.snd.fst[(0 : Nat) + x.snd.snd.snd.snd.snd.fst.toNat]?.bind fun y703 =>
      bif decide ((0 : Nat) + x.snd.snd.snd.snd.snd.snd.snd.snd.snd.snd.fst ≤ x.snd.snd.snd.snd.snd.snd.fst.length) then
        (f51
              (x.snd.snd.snd.snd.snd.snd.snd.snd.fst, x.snd.snd.snd.snd.snd.snd.snd.snd.snd.fst,
                List.take x.snd.snd.snd.snd.snd.snd.snd.snd.snd.snd.fst (List.drop (0 : Nat) x.snd.snd.snd.snd.snd.snd.fst),
                x.snd.snd.snd.snd.snd.snd.snd.snd.snd.snd.snd.snd.snd.snd.snd.fst,
                x.snd.snd.snd.snd.snd.snd.snd.snd.snd.snd.snd.snd.snd.snd.snd.snd.fst, y703.X, y703.Y, ())).bind
          fun y702 =>
          bif decide ((0 : Nat) + x.snd.snd.snd.snd.snd.snd.snd.snd.snd.snd.fst ≤ x.snd.snd.snd.snd.snd.snd.fst.length) then
            bif
                decide
                  ((0 : Nat) + x.snd.snd.snd.snd.snd.snd.snd.snd.snd.snd.snd.snd.snd.fst ≤ x.snd.snd.snd.snd.snd.snd.snd.fst.length) then
              bif
                  decide
                      ((0 : Int) ≤
                        f37 x.snd.snd.snd.snd.snd.snd.snd.snd.fst x.snd.snd.snd.snd.snd.snd.snd.snd.snd.fst
                          (List.take x.snd.snd.snd.snd.snd.snd.snd.snd.snd.snd.fst (List.drop (0 : Nat) x.snd.snd.snd.snd.snd.snd.fst))
                          x.snd.snd.snd.snd.snd.snd.snd.snd.snd.snd.snd.fst x.snd.snd.snd.snd.snd.snd.snd.snd.snd.snd.snd.snd.fst
                          (List.take x.snd.snd.snd.snd.snd.snd.snd.snd.snd.snd.snd.snd.snd.fst
                            (List.drop (0 : Nat) x.snd.snd.snd.snd.snd.snd.snd.fst))
                          y703.X y703.Y) &&
                    decide
                      (f37 x.snd.snd.snd.snd.snd.snd.snd.snd.fst x.snd.snd.snd.snd.snd.snd.snd.snd.snd.fst
                          (List.take x.snd.snd.snd.snd.snd.snd.snd.snd.snd.snd.fst (List.drop (0 : Nat) x.snd.snd.snd.snd.snd.snd.fst))
                          x.snd.snd.snd.snd.snd.snd.snd.snd.snd.snd.snd.fst x.snd.snd.snd.snd.snd.snd.snd.snd.snd.snd.snd.snd.fst
                          (List.take x.snd.snd.snd.snd.snd.snd.snd.snd.snd.snd.snd.snd.snd.fst
                            (List.drop (0 : Nat) x.snd.snd.snd.snd.snd.snd.snd.fst))
                          y703.X y703.Y <
                        (↑x.snd.snd.snd.snd.snd.snd.snd.snd.snd.snd.snd.snd.snd.fst : Int)) then
                x.snd.snd.snd.snd.snd.snd.snd.fst[(0 : Nat) +
                        (f37 x.snd.snd.snd.snd.snd.snd.snd.snd.fst x.snd.snd.snd.snd.snd.snd.snd.snd.snd.fst
                            (List.take x.snd.snd.snd.snd.snd.snd.snd.snd.snd.snd.fst (List.drop (0 : Nat) x.snd.snd.snd.snd.snd.snd.fst))
                            x.snd.snd.snd.snd.snd.snd.snd.snd.snd.snd.snd.fst x.snd.snd.snd.snd.snd.snd.snd.snd.snd.snd.snd.snd.fst
                            (List.take x.snd.snd.snd.snd.snd.snd.snd.snd.snd.snd.snd.snd.snd.fst
                              (List.drop (0 : Nat) x.snd.snd.snd.snd.snd.snd.snd.fst))
                            y703.X y703.Y).toNat]?.bind
                  fun y701 =>
                  bif y702.snd.fst then
                    bif decide (y701 < (0 : Int)) then
                      bif decide ((0 : Nat) + x.snd.snd.snd.snd.snd.snd.snd.snd.snd.snd.fst ≤ x.snd.snd.snd.snd.snd.snd.fst.length) then
                        bif
                            decide
                              ((0 : Nat) + x.snd.snd.snd.snd.snd.snd.snd.snd.snd.snd.snd.snd.snd.fst ≤
                                x.snd.snd.snd.snd.snd.snd.snd.fst.length) then
                          bif
                              decide
                                  ((0 : Int) ≤
                                    f37 x.snd.snd.snd.snd.snd.snd.snd.snd.fst x.snd.snd.snd.snd.snd.snd.snd.snd.snd.fst
                                      (List.take x.snd.snd.snd.snd.snd.snd.snd.snd.snd.snd.fst
                                        (List.drop (0 : Nat) x.snd.snd.snd.snd.snd.snd.fst))
                                      x.snd.snd.snd.snd.snd.snd.snd.snd.snd.snd.snd.fst
                                      x.snd.snd.snd.snd.snd.snd.snd.snd.snd.snd.snd.snd.fst
                                      (List.take x.snd.snd.snd.snd.snd.snd.snd.snd.snd.snd.snd.snd.snd.fst
                                        (List.drop (0 : Nat) x.snd.snd.snd.snd.snd.snd.snd.fst))
                                      y703.X y703.Y) &&
                                decide
                                  (f37 x.snd.snd.snd.snd.snd.snd.snd.snd.fst x.snd.snd.snd.snd.snd.snd.snd.snd.snd.fst
                                      (List.take x.snd.snd.snd.snd.snd.snd.snd.snd.snd.snd.fst
                                        (List.drop (0 : Nat) x.snd.snd.snd.snd.snd.snd.fst))
                                      x.snd.snd.snd.snd.snd.snd.snd.snd.snd.snd.snd.fst
                                      x.snd.snd.snd.snd.snd.snd.snd.snd.snd.snd.snd.snd.fst
                                      (List.take x.snd.snd.snd.snd.snd.snd.snd.snd.snd.snd.snd.snd.snd.fst
                                        (List.drop (0 : Nat) x.snd.snd.snd.snd.snd.snd.snd.fst))
                                      y703.X y703.Y <
                                    (↑x.snd.snd.snd.snd.snd.snd.snd.snd.snd.snd.snd.snd.snd.fst : Int)) then
                            x.snd.snd.snd.snd.snd.snd.snd.fst[(0 : Nat) +
                                    (f37 x.snd.snd.snd.snd.snd.snd.snd.snd.fst x.snd.snd.snd.snd.snd.snd.snd.snd.snd.fst
                                        (List.take x.snd.snd.snd.snd.snd.snd.snd.snd.snd.snd.fst
                                          (List.drop (0 : Nat) x.snd.snd.snd.snd.snd.snd.fst))
                                        x.snd.snd.snd.snd.snd.snd.snd.snd.snd.snd.snd.fst
                                        x.snd.snd.snd.snd.snd.snd.snd.snd.snd.snd.snd.snd.fst
                                        (List.take x.snd.snd.snd.snd.snd.snd.snd.snd.snd.snd.snd.snd.snd.fst
                                          (List.drop (0 : Nat) x.snd.snd.snd.snd.snd.snd.snd.fst))
                                        y703.X y703.Y).toNat]?.bind
                              fun _x =>
                              (j38_37
                                    (x.fst, x.snd.fst, x.snd.snd.fst, x.snd.snd.snd.fst, x.snd.snd.snd.snd.fst, x.snd.snd.snd.snd.snd.fst,
                                      x.snd.snd.snd.snd.snd.snd.fst,
                                      x.snd.snd.snd.snd.snd.snd.snd.fst.set
                                        ((0 : Nat) +
                                          (f37 x.snd.snd.snd.snd.snd.snd.snd.snd.fst x.snd.snd.snd.snd.snd.snd.snd.snd.snd.fst
                                              (List.take x.snd.snd.snd.snd.snd.snd.snd.snd.snd.snd.fst
                                                (List.drop (0 : Nat) x.snd.snd.snd.snd.snd.snd.fst))
                                              x.snd.snd.snd.snd.snd.snd.snd.snd.snd.snd.snd.fst
                                              x.snd.snd.snd.snd.snd.snd.snd.snd.snd.snd.snd.snd.fst
                                              (List.take x.snd.snd.snd.snd.snd.snd.snd.snd.snd.snd.snd.snd.snd.fst
                                                (List.drop (0 : Nat) x.snd.snd.snd.snd.snd.snd.snd.fst))
                                              y703.X y703.Y).toNat)
                                        (IntKind.i64.wrap (x.snd.snd.fst + y702.fst)),
                                      x.snd.snd.snd.snd.snd.snd.snd.snd.fst, x.snd.snd.snd.snd.snd.snd.snd.snd.snd.fst,
                                      x.snd.snd.snd.snd.snd.snd.snd.snd.snd.snd.fst, x.snd.snd.snd.snd.snd.snd.snd.snd.snd.snd.snd.fst,
                                      x.snd.snd.snd.snd.snd.snd.snd.snd.snd.snd.snd.snd.fst,
                                      x.snd.snd.snd.snd.snd.snd.snd.snd.snd.snd.snd.snd.snd.fst,
                                      x.snd.snd.snd.snd.snd.snd.snd.snd.snd.snd.snd.snd.snd.snd.fst,
                                      x.snd.snd.snd.snd.snd.snd.snd.snd.snd.snd.snd.snd.snd.snd.snd.fst,
                                      x.snd.snd.snd.snd.snd.snd.snd.snd.snd.snd.snd.snd.snd.snd.snd.snd.fst, y703.X, y703.Y,
                                      x.snd.snd.snd.snd.snd.snd.snd.snd.snd.snd.snd.snd.snd.snd.snd.snd.snd.fst, ())).bind
                                fun y694 =>
                                (j38_40
                                      ((0 : Nat), y694.fst, y694.snd.fst, y694.snd.snd.fst, y694.snd.snd.snd.fst, y694.snd.snd.snd.snd.fst,
                                        y694.snd.snd.snd.snd.snd.fst, y694.snd.snd.snd.snd.snd.snd.fst,
                                        y694.snd.snd.snd.snd.snd.snd.snd.fst, y694.snd.snd.snd.snd.snd.snd.snd.snd.fst,
                                        y694.snd.snd.snd.snd.snd.snd.snd.snd.snd.fst, y694.snd.snd.snd.snd.snd.snd.snd.snd.snd.snd.fst,
                                        y694.snd.snd.snd.snd.snd.snd.snd.snd.snd.snd.snd.fst,
                                        y694.snd.snd.snd.snd.snd.snd.snd.snd.snd.snd.snd.snd.fst,
                                        y694.snd.snd.snd.snd.snd.snd.snd.snd.snd.snd.snd.snd.snd.fst,
                                        y694.snd.snd.snd.snd.snd.snd.snd.snd.snd.snd.snd.snd.snd.snd.fst,
                                        y694.snd.snd.snd.snd.snd.snd.snd.snd.snd.snd.snd.snd.snd.snd.snd.fst,
                                        y694.snd.snd.snd.snd.snd.snd.snd.snd.snd.snd.snd.snd.snd.snd.snd.snd.fst, ())).bind
                                  fun y693 =>
                                  some
                                    (Sum.inl
                                      (y693.fst, y693.snd.fst, y693.snd.snd.fst, y693.snd.snd.snd.fst, y693.snd.snd.snd.snd.fst,
                                        y693.snd.snd.snd.snd.snd.fst, y693.snd.snd.snd.snd.snd.snd.fst,
                                        y693.snd.snd.snd.snd.snd.snd.snd.fst, y693.snd.snd.snd.snd.snd.snd.snd.snd.fst,
                                        y693.snd.snd.snd.snd.snd.snd.snd.snd.snd.fst, y693.snd.snd.snd.snd.snd.snd.snd.snd.snd.snd.fst,
                                        y693.snd.snd.snd.snd.snd.snd.snd.snd.snd.snd.snd.fst,
                                        y693.snd.snd.snd.snd.snd.snd.snd.snd.snd.snd.snd.snd.fst,
                                        y693.snd.snd.snd.snd.snd.snd.snd.snd.snd.snd.snd.snd.snd.fst,
                                        y693.snd.snd.snd.snd.snd.snd.snd.snd.snd.snd.snd.snd.snd.snd.fst,
                                        y693.snd.snd.snd.snd.snd.snd.snd.snd.snd.snd.snd.snd.snd.snd.snd.fst,
                                        y693.snd.snd.snd.snd.snd.snd.snd.snd.snd.snd.snd.snd.snd.snd.snd.snd.fst,
                                        y693.snd.snd.snd.snd.snd.snd.snd.snd.snd.snd.snd.snd.snd.snd.snd.snd.snd.fst, ()))
                          else none
                        else none
                      else none
                    else
                      bif decide (IntKind.i64.wrap (x.snd.snd.fst + y702.fst) < y701) then
                        bif decide ((0 : Nat) + x.snd.snd.snd.snd.snd.snd.snd.snd.snd.snd.fst ≤ x.snd.snd.snd.snd.snd.snd.fst.length) then
                          bif
                              decide
                                ((0 : Nat) + x.snd.snd.snd.snd.snd.snd.snd.snd.snd.snd.snd.snd.snd.fst ≤
                                  x.snd.snd.snd.snd.snd.snd.snd.fst.length) then
                            bif
                                decide
                                    ((0 : Int) ≤
                                      f37 x.snd.snd.snd.snd.snd.snd.snd.snd.fst x.snd.snd.snd.snd.snd.snd.snd.snd.snd.fst
                                        (List.take x.snd.snd.snd.snd.snd.snd.snd.snd.snd.snd.fst
                                          (List.drop (0 : Nat) x.snd.snd.snd.snd.snd.snd.fst))
                                        x.snd.snd.snd.snd.snd.snd.snd.snd.snd.snd.snd.fst
                                        x.snd.snd.snd.snd.snd.snd.snd.snd.snd.snd.snd.snd.fst
                                        (List.take x.snd.snd.snd.snd.snd.snd.snd.snd.snd.snd.snd.snd.snd.fst
                                          (List.drop (0 : Nat) x.snd.snd.snd.snd.snd.snd.snd.fst))
                                        y703.X y703.Y) &&
                                  decide
                                    (f37 x.snd.snd.snd.snd.snd.snd.snd.snd.fst x.snd.snd.snd.snd.snd.snd.snd.snd.snd.fst
                                        (List.take x.snd.snd.snd.snd.snd.snd.snd.snd.snd.snd.fst
                                          (List.drop (0 : Nat) x.snd.snd.snd.snd.snd.snd.fst))
                                        x.snd.snd.snd.snd.snd.snd.snd.snd.snd.snd.snd.fst
                                        x.snd.snd.snd.snd.snd.snd.snd.snd.snd.snd.snd.snd.fst
                                        (List.take x.snd.snd.snd.snd.snd.snd.snd.snd.snd.snd.snd.snd.snd.fst
                                          (List.drop (0 : Nat) x.snd.snd.snd.snd.snd.snd.snd.fst))
                                        y703.X y703.Y <
                                      (↑x.snd.snd.snd.snd.snd.snd.snd.snd.snd.snd.snd.snd.snd.fst : Int)) then
                              x.snd.snd.snd.snd.snd.snd.snd.fst[(0 : Nat) +
                                      (f37 x.snd.snd.snd.snd.snd.snd.snd.snd.fst x.snd.snd.snd.snd.snd.snd.snd.snd.snd.fst
                                          (List.take x.snd.snd.snd.snd.snd.snd.snd.snd.snd.snd.fst
                                            (List.drop (0 : Nat) x.snd.snd.snd.snd.snd.snd.fst))
                                          x.snd.snd.snd.snd.snd.snd.snd.snd.snd.snd.snd.fst
                                          x.snd.snd.snd.snd.snd.snd.snd.snd.snd.snd.snd.snd.fst
                                          (List.take x.snd.snd.snd.snd.snd.snd.snd.snd.snd.snd.snd.snd.snd.fst
                                            (List.drop (0 : Nat) x.snd.snd.snd.snd.snd.snd.snd.fst))
                                          y703.X y703.Y).toNat]?.bind
                                fun _x =>
                                (j38_37
                                      (x.fst, x.snd.fst, x.snd.snd.fst, x.snd.snd.snd.fst, x.snd.snd.snd.snd.fst, x.snd.snd.snd.snd.snd.fst,
                                        x.snd.snd.snd.snd.snd.snd.fst,
                                        x.snd.snd.snd.snd.snd.snd.snd.fst.set
                                          ((0 : Nat) +
                                            (f37 x.snd.snd.snd.snd.snd.snd.snd.snd.fst x.snd.snd.snd.snd.snd.snd.snd.snd.snd.fst
                                                (List.take x.snd.snd.snd.snd.snd.snd.snd.snd.snd.snd.fst
                                                  (List.drop (0 : Nat) x.snd.snd.snd.snd.snd.snd.fst))
                                                x.snd.snd.snd.snd.snd.snd.snd.snd.snd.snd.snd.fst
                                                x.snd.snd.snd.snd.snd.snd.snd.snd.snd.snd.snd.snd.fst
                                                (List.take x.snd.snd.snd.snd.snd.snd.snd.snd.snd.snd.snd.snd.snd.fst
                                                  (List.drop (0 : Nat) x.snd.snd.snd.snd.snd.snd.snd.fst))
                                                y703.X y703.Y).toNat)
                                          (IntKind.i64.wrap (x.snd.snd.fst + y702.fst)),
                                        x.snd.snd.snd.snd.snd.snd.snd.snd.fst, x.snd.snd.snd.snd.snd.snd.snd.snd.snd.fst,
                                        x.snd.snd.snd.snd.snd.snd.snd.snd.snd.snd.fst, x.snd.snd.snd.snd.snd.snd.snd.snd.snd.snd.snd.fst,
                                        x.snd.snd.snd.snd.snd.snd.snd.snd.snd.snd.snd.snd.fst,
                                        x.snd.snd.snd.snd.snd.snd.snd.snd.snd.snd.snd.snd.snd.fst,
                                        x.snd.snd.snd.snd.snd.snd.snd.snd.snd.snd.snd.snd.snd.snd.fst,
                                        x.snd.snd.snd.snd.snd.snd.snd.snd.snd.snd.snd.snd.snd.snd.snd.fst,
                                        x.snd.snd.snd.snd.snd.snd.snd.snd.snd.snd.snd.snd.snd.snd.snd.snd.fst, y703.X, y703.Y,
                                        x.snd.snd.snd.snd.snd.snd.snd.snd.snd.snd.snd.snd.snd.snd.snd.snd.snd.fst, ())).bind
                                  fun y697 =>
                                  (j38_40
                                        ((0 : Nat), y697.fst, y697.snd.fst, y697.snd.snd.fst, y697.snd.snd.snd.fst,
                                          y697.snd.snd.snd.snd.fst, y697.snd.snd.snd.snd.snd.fst, y697.snd.snd.snd.snd.snd.snd.fst,
                                          y697.snd.snd.snd.snd.snd.snd.snd.fst, y697.snd.snd.snd.snd.snd.snd.snd.snd.fst,
                                          y697.snd.snd.snd.snd.snd.snd.snd.snd.snd.fst, y697.snd.snd.snd.snd.snd.snd.snd.snd.snd.snd.fst,
                                          y697.snd.snd.snd.snd.snd.snd.snd.snd.snd.snd.snd.fst,
                                          y697.snd.snd.snd.snd.snd.snd.snd.snd.snd.snd.snd.snd.fst,
                                          y697.snd.snd.snd.snd.snd.snd.snd.snd.snd.snd.snd.snd.snd.fst,
                                          y697.snd.snd.snd.snd.snd.snd.snd.snd.snd.snd.snd.snd.snd.snd.fst,
                                          y697.snd.snd.snd.snd.snd.snd.snd.snd.snd.snd.snd.snd.snd.snd.snd.fst,
                                          y697.snd.snd.snd.snd.snd.snd.snd.snd.snd.snd.snd.snd.snd.snd.snd.snd.fst, ())).bind
                                    fun y696 =>
                                    some
                                      (Sum.inl
                                        (y696.fst, y696.snd.fst, y696.snd.snd.fst, y696.snd.snd.snd.fst, y696.snd.snd.snd.snd.fst,
                                          y696.snd.snd.snd.snd.snd.fst, y696.snd.snd.snd.snd.snd.snd.fst,
                                          y696.snd.snd.snd.snd.snd.snd.snd.fst, y696.snd.snd.snd.snd.snd.snd.snd.snd.fst,
                                          y696.snd.snd.snd.snd.snd.snd.snd.snd.snd.fst, y696.snd.snd.snd.snd.snd.snd.snd.snd.snd.snd.fst,
                                          y696.snd.snd.snd.snd.snd.snd.snd.snd.snd.snd.snd.fst,
                                          y696.snd.snd.snd.snd.snd.snd.snd.snd.snd.snd.snd.snd.fst,
                                          y696.snd.snd.snd.snd.snd.snd.snd.snd.snd.snd.snd.snd.snd.fst,
                                          y696.snd.snd.snd.snd.snd.snd.snd.snd.snd.snd.snd.snd.snd.snd.fst,
                                          y696.snd.snd.snd.snd.snd.snd.snd.snd.snd.snd.snd.snd.snd.snd.snd.fst,
                                          y696.snd.snd.snd.snd.snd.snd.snd.snd.snd.snd.snd.snd.snd.snd.snd.snd.fst,
                                          y696.snd.snd.snd.snd.snd.snd.snd.snd.snd.snd.snd.snd.snd.snd.snd.snd.snd.fst, ()))
                            else none
                          else none
                        else none
                      else
                        (j38_40
                              (x.fst, x.snd.fst, x.snd.snd.fst, x.snd.snd.snd.fst, x.snd.snd.snd.snd.fst, x.snd.snd.snd.snd.snd.fst,
                                x.snd.snd.snd.snd.snd.snd.fst, x.snd.snd.snd.snd.snd.snd.snd.fst, x.snd.snd.snd.snd.snd.snd.snd.snd.fst,
                                x.snd.snd.snd.snd.snd.snd.snd.snd.snd.fst, x.snd.snd.snd.snd.snd.snd.snd.snd.snd.snd.fst,
                                x.snd.snd.snd.snd.snd.snd.snd.snd.snd.snd.snd.fst, x.snd.snd.snd.snd.snd.snd.snd.snd.snd.snd.snd.snd.fst,
                                x.snd.snd.snd.snd.snd.snd.snd.snd.snd.snd.snd.snd.snd.fst,
                                x.snd.snd.snd.snd.snd.snd.snd.snd.snd.snd.snd.snd.snd.snd.fst,
                                x.snd.snd.snd.snd.snd.snd.snd.snd.snd.snd.snd.snd.snd.snd.snd.fst,
                                x.snd.snd.snd.snd.snd.snd.snd.snd.snd.snd.snd.snd.snd.snd.snd.snd.fst,
                                x.snd.snd.snd.snd.snd.snd.snd.snd.snd.snd.snd.snd.snd.snd.snd.snd.snd.fst, ())).bind
                          fun y699 =>
                          some
                            (Sum.inl
                              (y699.fst, y699.snd.fst, y699.snd.snd.fst, y699.snd.snd.snd.fst, y699.snd.snd.snd.snd.fst,
                                y699.snd.snd.snd.snd.snd.fst, y699.snd.snd.snd.snd.snd.snd.fst, y699.snd.snd.snd.snd.snd.snd.snd.fst,
                                y699.snd.snd.snd.snd.snd.snd.snd.snd.fst, y699.snd.snd.snd.snd.snd.snd.snd.snd.snd.fst,
                                y699.snd.snd.snd.snd.snd.snd.snd.snd.snd.snd.fst, y699.snd.snd.snd.snd.snd.snd.snd.snd.snd.snd.snd.fst,
                                y699.snd.snd.snd.snd.snd.snd.snd.snd.snd.snd.snd.snd.fst,
                                y699.snd.snd.snd.snd.snd.snd.snd.snd.snd.snd.snd.snd.snd.fst,
                                y699.snd.snd.snd.snd.snd.snd.snd.snd.snd.snd.snd.snd.snd.snd.fst,
                                y699.snd.snd.snd.snd.snd.snd.snd.snd.snd.snd.snd.snd.snd.snd.snd.fst,
                                y699.snd.snd.snd.snd.snd.snd.snd.snd.snd.snd.snd.snd.snd.snd.snd.snd.fst,
                                y699.snd.snd.snd.snd.snd.snd.snd.snd.snd.snd.snd.snd.snd.snd.snd.snd.snd.fst, ()))
                  else
                    (j38_40
                          (x.fst, x.snd.fst, x.snd.snd.fst, x.snd.snd.snd.fst, x.snd.snd.snd.snd.fst, x.snd.snd.snd.snd.snd.fst,
                            x.snd.snd.snd.snd.snd.snd.fst, x.snd.snd.snd.snd.snd.snd.snd.fst, x.snd.snd.snd.snd.snd.snd.snd.snd.fst,
                            x.snd.snd.snd.snd.snd.snd.snd.snd.snd.fst, x.snd.snd.snd.snd.snd.snd.snd.snd.snd.snd.fst,
                            x.snd.snd.snd.snd.snd.snd.snd.snd.snd.snd.snd.fst, x.snd.snd.snd.snd.snd.snd.snd.snd.snd.snd.snd.snd.fst,
                            x.snd.snd.snd.snd.snd.snd.snd.snd.snd.snd.snd.snd.snd.fst,
                            x.snd.snd.snd.snd.snd.snd.snd.snd.snd.snd.snd.snd.snd.snd.fst,
                            x.snd.snd.snd.snd.snd.snd.snd.snd.snd.snd.snd.snd.snd.snd.snd.fst,
                            x.snd.snd.snd.snd.snd.snd.snd.snd.snd.snd.snd.snd.snd.snd.snd.snd.fst,
                            x.snd.snd.snd.snd.snd.snd.snd.snd.snd.snd.snd.snd.snd.snd.snd.snd.snd.fst, ())).bind
                      fun y700 =>
                      some
                        (Sum.inl
                          (y700.fst, y700.snd.fst, y700.snd.snd.fst, y700.snd.snd.snd.fst, y700.snd.snd.snd.snd.fst,
                            y700.snd.snd.snd.snd.snd.fst, y700.snd.snd.snd.snd.snd.snd.fst, y700.snd.snd.snd.snd.snd.snd.snd.fst,
                            y700.snd.snd.snd.snd.snd.snd.snd.snd.fst, y700.snd.snd.snd.snd.snd.snd.snd.snd.snd.fst,
                            y700.snd.snd.snd.snd.snd.snd.snd.snd.snd.snd.fst, y700.snd.snd.snd.snd.snd.snd.snd.snd.snd.snd.snd.fst,
                            y700.snd.snd.snd.snd.snd.snd.snd.snd.snd.snd.snd.snd.fst,
                            y700.snd.snd.snd.snd.snd.snd.snd.snd.snd.snd.snd.snd.snd.fst,
                            y700.snd.snd.snd.snd.snd.snd.snd.snd.snd.snd.snd.snd.snd.snd.fst,
                            y700.snd.snd.snd.snd.snd.snd.snd.snd.snd.snd.snd.snd.snd.snd.snd.fst,
                            y700.snd.snd.snd.snd.snd.snd.snd.snd.snd.snd.snd.snd.snd.snd.snd.snd.fst,
                            y700.snd.snd.snd.snd.snd.snd.snd.snd.snd.snd.snd.snd.snd.snd.snd.snd.snd.fst, ()))
              else none
            else none
          else none
      else none
  else none
else
  some
    (Sum.inr
      (x.fst, x.snd.fst, x.snd.snd.snd.snd.snd.snd.fst, x.snd.snd.snd.snd.snd.snd.snd.fst, x.snd.snd.snd.snd.snd.snd.snd.snd.fst,
        x.snd.snd.snd.snd.snd.snd.snd.snd.snd.fst, x.snd.snd.snd.snd.snd.snd.snd.snd.snd.snd.fst,
        x.snd.snd.snd.snd.snd.snd.snd.snd.snd.snd.snd.fst, x.snd.snd.snd.snd.snd.snd.snd.snd.snd.snd.snd.snd.fst,
        x.snd.snd.snd.snd.snd.snd.snd.snd.snd.snd.snd.snd.snd.fst, x.snd.snd.snd.snd.snd.snd.snd.snd.snd.snd.snd.snd.snd.snd.fst, ()))
theorem r38_6_run0 (v0 : Nat) (v1 : Nat) (v2 : Int) (v3 : Nat) (v4 : Int) (v5 : Int) (v6 : List Int) (v7 : List Int) (v8 : Int) (v9 : Int) (v10 : Nat) (v11 : Int) (v12 : Int) (v13 : Nat) (v14 : List Pt) (v15 : Int) (v16 : Int) (v17 : List Pt) : roundK tC G38 (look [(37, W38_37), (40, W38_40)]) c38_6 p38_6 (v0, v1, v2, v3, v4, v5, v6, v7, v8, v9, v10, v11, v12, v13, v14, v15, v16, v17, ()) = r38_6 (v0, v1, v2, v3, v4, v5, v6, v7, v8, v9, v10, v11, v12, v13, v14, v15, v16, v17, ()) := by kernel_rfl
theorem r38_6_run (x : Nat × Nat × Int × Nat × Int × Int × List Int × List Int × Int × Int × Nat × Int × Int × Nat × List Pt × Int × Int × List Pt × Unit) : roundK tC G38 (look [(37, W38_37), (40, W38_40)]) c38_6 p38_6 x = r38_6 x := r38_6_run0 x.1 x.2.1 x.2.2.1 x.2.2.2.1 x.2.2.2.2.1 x.2.2.2.2.2.1 x.2.2.2.2.2.2.1 x.2.2.2.2.2.2.2.1 x.2.2.2.2.2.2.2.2.1 x.2.2.2.2.2.2.2.2.2.1 x.2.2.2.2.2.2.2.2.2.2.1 x.2.2.2.2.2.2.2.2.2.2.2.1 x.2.2.2.2.2.2.2.2.2.2.2.2.1 x.2.2.2.2.2.2.2.2.2.2.2.2.2.1 x.2.2.2.2.2.2.2.2.2.2.2.2.2.2.1 x.2.2.2.2.2.2.2.2.2.2.2.2.2.2.2.1 x.2.2.2.2.2.2.2.2.2.2.2.2.2.2.2.2.1 x.2.2.2.2.2.2.2.2.2.2.2.2.2.2.2.2.2.1
noncomputable def l38_6 (x : Nat × Nat × Int × Nat × Int × Int × List Int × List Int × Int × Int × Nat × Int × Int × Nat × List Pt × Int × Int × List Pt × Unit) : Option (Nat × Nat × List Int × List Int × Int × Int × Nat × Int × Int × Nat × List Pt × Unit) := iterO r38_6 x
noncomputable def W38_6 : LF tC := loopW tC p38_6 2 l38_6
theorem W38_6_ok : keyed 6 (loopOf (bodyOf Try.f38) 0) = [.block 2 (.loop c38_6)] ∧ ∀ n, n ≤ 4 → Snd tC n (.block 2 (.loop c38_6)) W38_6.k := ⟨by kernel_rfl, fun n hn => loopW_ok (p := p38_6) (id := 2) Y38 (lam_le (lam_cons W38_37_ok (lam_cons W38_40_ok lam_nil)) n hn) hn r38_6_run⟩
noncomputable def c38_0 : Code := loopOf (bodyOf Try.f38) 0
def p38_0 : LS := ⟨4, [0, 1], ⟨[.one (.one (.ptr 2 0 0)), .one (.one (.slw 4))] ++ vBs 86, [.arr 5, .arr 3, .box [.int .i64, .int .i64, .sl 0, .int .i64, .int .i64, .sl 1], .gone, .arr 26]⟩, [⟨.exit 0, [], ⟨vBs 88, [.arr 5, .arr 3, .box [.int .i64, .int .i64, .sl 0, .int .i64, .int .i64, .sl 1], .gone]⟩, []⟩], [(1, 26)]⟩
noncomputable def r38_0 (x : Nat × Nat × List Int × List Int × Int × Int × Nat × Int × Int × Nat × List Pt × Unit) : Option
  (Nat × Nat × List Int × List Int × Int × Int × Nat × Int × Int × Nat × List Pt × Unit ⊕
    List Int × List Int × Int × Int × Nat × Int × Int × Nat × Unit) :=
  bif decide ((↑x.snd.fst : Int) > (0 : Int)) then
  bif true && decide ((0 : Int) < (↑x.snd.fst : Int)) then
    x.snd.snd.snd.snd.snd.snd.snd.snd.snd.snd.fst[x.fst + (0 : Nat)]?.bind fun y726 =>
      bif
          true && decide ((1 : Int) ≤ (↑x.snd.fst : Int)) && decide ((↑x.snd.fst : Int) ≤ (↑x.snd.fst : Int)) &&
            decide ((↑x.snd.fst : Int) ≤ (↑x.snd.fst : Int)) then
        bif decide ((0 : Nat) + x.snd.snd.snd.snd.snd.snd.fst ≤ x.snd.snd.fst.length) then
          bif decide ((0 : Nat) + x.snd.snd.snd.snd.snd.snd.snd.snd.snd.fst ≤ x.snd.snd.snd.fst.length) then
            bif
                decide
                    ((0 : Int) ≤
                      f37 x.snd.snd.snd.snd.fst x.snd.snd.snd.snd.snd.fst
                        (List.take x.snd.snd.snd.snd.snd.snd.fst (List.drop (0 : Nat) x.snd.snd.fst)) x.snd.snd.snd.snd.snd.snd.snd.fst
                        x.snd.snd.snd.snd.snd.snd.snd.snd.fst
                        (List.take x.snd.snd.snd.snd.snd.snd.snd.snd.snd.fst (List.drop (0 : Nat) x.snd.snd.snd.fst)) y726.X y726.Y) &&
                  decide
                    (f37 x.snd.snd.snd.snd.fst x.snd.snd.snd.snd.snd.fst
                        (List.take x.snd.snd.snd.snd.snd.snd.fst (List.drop (0 : Nat) x.snd.snd.fst)) x.snd.snd.snd.snd.snd.snd.snd.fst
                        x.snd.snd.snd.snd.snd.snd.snd.snd.fst
                        (List.take x.snd.snd.snd.snd.snd.snd.snd.snd.snd.fst (List.drop (0 : Nat) x.snd.snd.snd.fst)) y726.X y726.Y <
                      (↑x.snd.snd.snd.snd.snd.snd.snd.snd.snd.fst : Int)) then
              x.snd.snd.snd.fst[(0 : Nat) +
                      (f37 x.snd.snd.snd.snd.fst x.snd.snd.snd.snd.snd.fst
                          (List.take x.snd.snd.snd.snd.snd.snd.fst (List.drop (0 : Nat) x.snd.snd.fst)) x.snd.snd.snd.snd.snd.snd.snd.fst
                          x.snd.snd.snd.snd.snd.snd.snd.snd.fst
                          (List.take x.snd.snd.snd.snd.snd.snd.snd.snd.snd.fst (List.drop (0 : Nat) x.snd.snd.snd.fst)) y726.X
                          y726.Y).toNat]?.bind
                fun y725 =>
                bif decide (y725 < (0 : Int)) then
                  some
                    (Sum.inl
                      (x.fst + (1 : Nat), (↑x.snd.fst : Int).toNat - (1 : Nat), x.snd.snd.fst, x.snd.snd.snd.fst, x.snd.snd.snd.snd.fst,
                        x.snd.snd.snd.snd.snd.fst, x.snd.snd.snd.snd.snd.snd.fst, x.snd.snd.snd.snd.snd.snd.snd.fst,
                        x.snd.snd.snd.snd.snd.snd.snd.snd.fst, x.snd.snd.snd.snd.snd.snd.snd.snd.snd.fst,
                        x.snd.snd.snd.snd.snd.snd.snd.snd.snd.snd.fst, ()))
                else
                  bif decide ((0 : Nat) + x.snd.snd.snd.snd.snd.snd.fst ≤ x.snd.snd.fst.length) then
                    (f39
                          (x.snd.snd.snd.snd.fst, x.snd.snd.snd.snd.snd.fst,
                            List.take x.snd.snd.snd.snd.snd.snd.fst (List.drop (0 : Nat) x.snd.snd.fst), y726.X, y726.Y, ())).bind
                      fun y724 =>
                      (l38_6
                            (x.fst + (1 : Nat), (↑x.snd.fst : Int).toNat - (1 : Nat), y725, y724.fst, (↑y724.fst : Int), (0 : Int),
                              x.snd.snd.fst, x.snd.snd.snd.fst, x.snd.snd.snd.snd.fst, x.snd.snd.snd.snd.snd.fst,
                              x.snd.snd.snd.snd.snd.snd.fst, x.snd.snd.snd.snd.snd.snd.snd.fst, x.snd.snd.snd.snd.snd.snd.snd.snd.fst,
                              x.snd.snd.snd.snd.snd.snd.snd.snd.snd.fst, x.snd.snd.snd.snd.snd.snd.snd.snd.snd.snd.fst, y726.X, y726.Y,
                              y724.snd.fst, ())).bind
                        fun y723 =>
                        some
                          (Sum.inl
                            (y723.fst, y723.snd.fst, y723.snd.snd.fst, y723.snd.snd.snd.fst, y723.snd.snd.snd.snd.fst,
                              y723.snd.snd.snd.snd.snd.fst, y723.snd.snd.snd.snd.snd.snd.fst, y723.snd.snd.snd.snd.snd.snd.snd.fst,
                              y723.snd.snd.snd.snd.snd.snd.snd.snd.fst, y723.snd.snd.snd.snd.snd.snd.snd.snd.snd.fst,
                              y723.snd.snd.snd.snd.snd.snd.snd.snd.snd.snd.fst, ()))
                  else none
            else none
          else none
        else none
      else none
  else none
else
  some
    (Sum.inr
      (x.snd.snd.fst, x.snd.snd.snd.fst, x.snd.snd.snd.snd.fst, x.snd.snd.snd.snd.snd.fst, x.snd.snd.snd.snd.snd.snd.fst,
        x.snd.snd.snd.snd.snd.snd.snd.fst, x.snd.snd.snd.snd.snd.snd.snd.snd.fst, x.snd.snd.snd.snd.snd.snd.snd.snd.snd.fst, ()))
theorem r38_0_run0 (v0 : Nat) (v1 : Nat) (v2 : List Int) (v3 : List Int) (v4 : Int) (v5 : Int) (v6 : Nat) (v7 : Int) (v8 : Int) (v9 : Nat) (v10 : List Pt) : roundK tC G38 (look [(6, W38_6)]) c38_0 p38_0 (v0, v1, v2, v3, v4, v5, v6, v7, v8, v9, v10, ()) = r38_0 (v0, v1, v2, v3, v4, v5, v6, v7, v8, v9, v10, ()) := by kernel_rfl
theorem r38_0_run (x : Nat × Nat × List Int × List Int × Int × Int × Nat × Int × Int × Nat × List Pt × Unit) : roundK tC G38 (look [(6, W38_6)]) c38_0 p38_0 x = r38_0 x := r38_0_run0 x.1 x.2.1 x.2.2.1 x.2.2.2.1 x.2.2.2.2.1 x.2.2.2.2.2.1 x.2.2.2.2.2.2.1 x.2.2.2.2.2.2.2.1 x.2.2.2.2.2.2.2.2.1 x.2.2.2.2.2.2.2.2.2.1 x.2.2.2.2.2.2.2.2.2.2.1
noncomputable def l38_0 (x : Nat × Nat × List Int × List Int × Int × Int × Nat × Int × Int × Nat × List Pt × Unit) : Option (List Int × List Int × Int × Int × Nat × Int × Int × Nat × Unit) := iterO r38_0 x
noncomputable def W38_0 : LF tC := loopW tC p38_0 0 l38_0
theorem W38_0_ok : keyed 0 (bodyOf Try.f38) = [.block 0 (.loop c38_0)] ∧ ∀ n, n ≤ 4 → Snd tC n (.block 0 (.loop c38_0)) W38_0.k := ⟨by kernel_rfl, fun n hn => loopW_ok (p := p38_0) (id := 0) Y38 (lam_le (lam_cons W38_6_ok lam_nil) n hn) hn r38_0_run⟩
def S38 : FS := ⟨[[.p], [.o 26]], [⟨[.one (.one (.ptr 2 0 0)), .one (.one (.sl 3))], [.arr 5, .arr 3, .box [.int .i64, .int .i64, .sl 0, .int .i64, .int .i64, .sl 1], .arr 26]⟩], [⟨[.tup []], [.arr 5, .arr 3, .box [.int .i64, .int .i64, .sl 0, .int .i64, .int .i64, .sl 1], .gone]⟩], [], []⟩
noncomputable def f38 (x : Nat × List Int × List Int × Int × Int × Nat × Int × Int × Nat × List Pt × Unit) : Option (List Int × List Int × Int × Int × Nat × Int × Int × Nat × Unit) :=
  (l38_0
      ((0 : Nat), x.fst, x.snd.fst, x.snd.snd.fst, x.snd.snd.snd.fst, x.snd.snd.snd.snd.fst, x.snd.snd.snd.snd.snd.fst,
        x.snd.snd.snd.snd.snd.snd.fst, x.snd.snd.snd.snd.snd.snd.snd.fst, x.snd.snd.snd.snd.snd.snd.snd.snd.fst,
        x.snd.snd.snd.snd.snd.snd.snd.snd.snd.fst, ())).bind
  fun y743 =>
  some
    (y743.fst, y743.snd.fst, y743.snd.snd.fst, y743.snd.snd.snd.fst, y743.snd.snd.snd.snd.fst, y743.snd.snd.snd.snd.snd.fst,
      y743.snd.snd.snd.snd.snd.snd.fst, y743.snd.snd.snd.snd.snd.snd.snd.fst, ())
noncomputable def F38 : CF tC := mkF tC S38 f38
theorem f38_run : ∀ a, fnS tC G38 (look [(0, W38_0)]) Try.f38 S38 a = f38 a := fun a => by kernel_rfl
theorem F38_ok : CFOK tC 38 F38 := mkF_ok Y38 (fn := Try.f38) (body := bodyOf Try.f38) (by kernel_rfl) (by kernel_rfl) (by kernel_rfl) (m := 4) rfl (lam_le (lam_cons W38_0_ok lam_nil)) f38_run

/-! raise -/
noncomputable def G40 : FuncId → Option (CF tC) := look [(37, F37), (52, F52), (39, F39), (38, F38)]
theorem Y40 : SysN tC G40 := (sys_cons F37_ok (mkF_nat _ _) (sys_cons F52_ok (mkF_nat _ _) (sys_cons F39_ok (mkF_nat _ _) (sys_cons F38_ok (mkF_nat _ _) (sys_nil tC_ok tC_eq)))))
noncomputable def c40_16 : Code := subCode (loopOf (bodyOf Try.f40) 0) 16
def p40_16 : PS := ⟨4, [0, 1, 4, 5], ⟨[.one (.one (.ptr 2 0 0)), .one (.one (.slw 4)), vB, vB, .one (.one (.sl 5)), .one (.one (.ptr 6 0 0))] ++ vBs 68, [.arr 5, .arr 3, .box [.int .i64, .int .i64, .sl 0, .int .i64, .int .i64, .sl 1], .gone, .arr 26, .arr 26, .box [.int .i64, .int .i64]]⟩, [⟨.normal, [0, 1, 4], ⟨[.one (.one (.ptr 2 0 0)), .one (.one (.sl 4)), vB, vB, .one (.one (.sl 5))] ++ vBs 69, [.arr 5, .arr 3, .box [.int .i64, .int .i64, .sl 0, .int .i64, .int .i64, .sl 1], .gone, .arr 26, .arr 26]⟩, []⟩], []⟩
noncomputable def j40_16 (x : Nat × Nat × Nat × List Int × List Int × Int × Int × Nat × Int × Int × Nat × List Pt × List Pt × Int × Int × Unit) : Option (Nat × Nat × List Int × List Int × Int × Int × Nat × Int × Int × Nat × List Pt × List Pt × Unit) :=
  bif decide ((0 : Nat) + x.snd.snd.snd.snd.snd.snd.snd.fst ≤ x.snd.snd.snd.fst.length) then
  bif decide ((0 : Nat) + x.snd.snd.snd.snd.snd.snd.snd.snd.snd.snd.fst ≤ x.snd.snd.snd.snd.fst.length) then
    bif
        decide
            ((0 : Int) ≤
              f37 x.snd.snd.snd.snd.snd.fst x.snd.snd.snd.snd.snd.snd.fst
                (List.take x.snd.snd.snd.snd.snd.snd.snd.fst (List.drop (0 : Nat) x.snd.snd.snd.fst)) x.snd.snd.snd.snd.snd.snd.snd.snd.fst
                x.snd.snd.snd.snd.snd.snd.snd.snd.snd.fst
                (List.take x.snd.snd.snd.snd.snd.snd.snd.snd.snd.snd.fst (List.drop (0 : Nat) x.snd.snd.snd.snd.fst))
                x.snd.snd.snd.snd.snd.snd.snd.snd.snd.snd.snd.snd.snd.fst x.snd.snd.snd.snd.snd.snd.snd.snd.snd.snd.snd.snd.snd.snd.fst) &&
          decide
            (f37 x.snd.snd.snd.snd.snd.fst x.snd.snd.snd.snd.snd.snd.fst
                (List.take x.snd.snd.snd.snd.snd.snd.snd.fst (List.drop (0 : Nat) x.snd.snd.snd.fst)) x.snd.snd.snd.snd.snd.snd.snd.snd.fst
                x.snd.snd.snd.snd.snd.snd.snd.snd.snd.fst
                (List.take x.snd.snd.snd.snd.snd.snd.snd.snd.snd.snd.fst (List.drop (0 : Nat) x.snd.snd.snd.snd.fst))
                x.snd.snd.snd.snd.snd.snd.snd.snd.snd.snd.snd.snd.snd.fst x.snd.snd.snd.snd.snd.snd.snd.snd.snd.snd.snd.snd.snd.snd.fst <
              (↑x.snd.snd.snd.snd.snd.snd.snd.snd.snd.snd.fst : Int)) then
      x.snd.snd.snd.snd.fst[(0 : Nat) +
              (f37 x.snd.snd.snd.snd.snd.fst x.snd.snd.snd.snd.snd.snd.fst
                  (List.take x.snd.snd.snd.snd.snd.snd.snd.fst (List.drop (0 : Nat) x.snd.snd.snd.fst))
                  x.snd.snd.snd.snd.snd.snd.snd.snd.fst x.snd.snd.snd.snd.snd.snd.snd.snd.snd.fst
                  (List.take x.snd.snd.snd.snd.snd.snd.snd.snd.snd.snd.fst (List.drop (0 : Nat) x.snd.snd.snd.snd.fst))
                  x.snd.snd.snd.snd.snd.snd.snd.snd.snd.snd.snd.snd.snd.fst
                  x.snd.snd.snd.snd.snd.snd.snd.snd.snd.snd.snd.snd.snd.snd.fst).toNat]?.bind
        fun _x =>
        bif decide ((0 : Nat) + x.snd.snd.snd.snd.snd.snd.snd.fst ≤ x.snd.snd.snd.fst.length) then
          (f39
                (x.snd.snd.snd.snd.snd.fst, x.snd.snd.snd.snd.snd.snd.fst,
                  List.take x.snd.snd.snd.snd.snd.snd.snd.fst (List.drop (0 : Nat) x.snd.snd.snd.fst),
                  x.snd.snd.snd.snd.snd.snd.snd.snd.snd.snd.snd.snd.snd.fst, x.snd.snd.snd.snd.snd.snd.snd.snd.snd.snd.snd.snd.snd.snd.fst,
                  ())).bind
            fun y130 =>
            bif decide ((0 : Nat) + y130.fst ≤ y130.snd.fst.length) then
              bif decide (x.fst + x.snd.fst ≤ x.snd.snd.snd.snd.snd.snd.snd.snd.snd.snd.snd.fst.length) then
                bif roomy (x.snd.fst + (List.take y130.fst (List.drop (0 : Nat) y130.snd.fst)).length) (16 : Nat) then
                  bif decide ((0 : Nat) + y130.fst ≤ y130.snd.fst.length) then
                    bif decide ((0 : Nat) + x.snd.snd.fst ≤ x.snd.snd.snd.snd.snd.snd.snd.snd.snd.snd.snd.snd.fst.length) then
                      bif roomy (x.snd.snd.fst + (List.take y130.fst (List.drop (0 : Nat) y130.snd.fst)).length) (16 : Nat) then
                        some
                          (x.snd.fst + (List.take y130.fst (List.drop (0 : Nat) y130.snd.fst)).length,
                            x.snd.snd.fst + (List.take y130.fst (List.drop (0 : Nat) y130.snd.fst)).length, x.snd.snd.snd.fst,
                            x.snd.snd.snd.snd.fst.set
                              ((0 : Nat) +
                                (f37 x.snd.snd.snd.snd.snd.fst x.snd.snd.snd.snd.snd.snd.fst
                                    (List.take x.snd.snd.snd.snd.snd.snd.snd.fst (List.drop (0 : Nat) x.snd.snd.snd.fst))
                                    x.snd.snd.snd.snd.snd.snd.snd.snd.fst x.snd.snd.snd.snd.snd.snd.snd.snd.snd.fst
                                    (List.take x.snd.snd.snd.snd.snd.snd.snd.snd.snd.snd.fst (List.drop (0 : Nat) x.snd.snd.snd.snd.fst))
                                    x.snd.snd.snd.snd.snd.snd.snd.snd.snd.snd.snd.snd.snd.fst
                                    x.snd.snd.snd.snd.snd.snd.snd.snd.snd.snd.snd.snd.snd.snd.fst).toNat)
                              (-1 : Int),
                            x.snd.snd.snd.snd.snd.fst, x.snd.snd.snd.snd.snd.snd.fst, x.snd.snd.snd.snd.snd.snd.snd.fst,
                            x.snd.snd.snd.snd.snd.snd.snd.snd.fst, x.snd.snd.snd.snd.snd.snd.snd.snd.snd.fst,
                            x.snd.snd.snd.snd.snd.snd.snd.snd.snd.snd.fst,
                            List.take x.snd.fst (List.drop x.fst x.snd.snd.snd.snd.snd.snd.snd.snd.snd.snd.snd.fst) ++
                              List.take y130.fst (List.drop (0 : Nat) y130.snd.fst),
                            List.take x.snd.snd.fst (List.drop (0 : Nat) x.snd.snd.snd.snd.snd.snd.snd.snd.snd.snd.snd.snd.fst) ++
                              List.take y130.fst (List.drop (0 : Nat) y130.snd.fst),
                            ())
                      else none
                    else none
                  else none
                else none
              else none
            else none
        else none
    else none
  else none
else none
theorem j40_16_run0 (v0 : Nat) (v1 : Nat) (v2 : Nat) (v3 : List Int) (v4 : List Int) (v5 : Int) (v6 : Int) (v7 : Nat) (v8 : Int) (v9 : Int) (v10 : Nat) (v11 : List Pt) (v12 : List Pt) (v13 : Int) (v14 : Int) : pieceK tC G40 (look []) c40_16 p40_16 (v0, v1, v2, v3, v4, v5, v6, v7, v8, v9, v10, v11, v12, v13, v14, ()) = j40_16 (v0, v1, v2, v3, v4, v5, v6, v7, v8, v9, v10, v11, v12, v13, v14, ()) := by kernel_rfl
theorem j40_16_run (x : Nat × Nat × Nat × List Int × List Int × Int × Int × Nat × Int × Int × Nat × List Pt × List Pt × Int × Int × Unit) : pieceK tC G40 (look []) c40_16 p40_16 x = j40_16 x := j40_16_run0 x.1 x.2.1 x.2.2.1 x.2.2.2.1 x.2.2.2.2.1 x.2.2.2.2.2.1 x.2.2.2.2.2.2.1 x.2.2.2.2.2.2.2.1 x.2.2.2.2.2.2.2.2.1 x.2.2.2.2.2.2.2.2.2.1 x.2.2.2.2.2.2.2.2.2.2.1 x.2.2.2.2.2.2.2.2.2.2.2.1 x.2.2.2.2.2.2.2.2.2.2.2.2.1 x.2.2.2.2.2.2.2.2.2.2.2.2.2.1 x.2.2.2.2.2.2.2.2.2.2.2.2.2.2.1
noncomputable def W40_16 : LF tC := cutLF tC p40_16 j40_16
theorem W40_16_ok : keyed 16 (loopOf (bodyOf Try.f40) 0) = [c40_16] ∧ ∀ n, n ≤ 4 → Snd tC n c40_16 W40_16.k := ⟨by kernel_rfl, fun n hn => cut_ok (p := p40_16) Y40 (lam_le lam_nil n hn) hn j40_16_run⟩
noncomputable def c40_0 : Code := loopOf (bodyOf Try.f40) 0
def p40_0 : LS := ⟨4, [0, 1, 4], ⟨[.one (.one (.ptr 2 0 0)), .one (.one (.slw 4)), vB, vB, .one (.one (.sl 5))] ++ vBs 69, [.arr 5, .arr 3, .box [.int .i64, .int .i64, .sl 0, .int .i64, .int .i64, .sl 1], .gone, .arr 26, .arr 26]⟩, [⟨.exit 0, [0, 4], ⟨[.one (.one (.ptr 2 0 0)), vB, vB, vB, .one (.one (.sl 4))] ++ vBs 69, [.arr 5, .arr 3, .box [.int .i64, .int .i64, .sl 0, .int .i64, .int .i64, .sl 1], .gone, .arr 26]⟩, []⟩], [(4, 26), (1, 26)]⟩
noncomputable def r40_0 (x : Nat × Nat × Nat × List Int × List Int × Int × Int × Nat × Int × Int × Nat × List Pt × List Pt × Unit) : Option
  (Nat × Nat × Nat × List Int × List Int × Int × Int × Nat × Int × Int × Nat × List Pt × List Pt × Unit ⊕
    Nat × List Int × List Int × Int × Int × Nat × Int × Int × Nat × List Pt × Unit) :=
  bif decide ((↑x.snd.fst : Int) > (0 : Int)) then
  bif true && decide ((0 : Int) < (↑x.snd.fst : Int)) then
    x.snd.snd.snd.snd.snd.snd.snd.snd.snd.snd.snd.fst[x.fst + (0 : Nat)]?.bind fun y173 =>
      bif
          true && decide ((1 : Int) ≤ (↑x.snd.fst : Int)) && decide ((↑x.snd.fst : Int) ≤ (↑x.snd.fst : Int)) &&
            decide ((↑x.snd.fst : Int) ≤ (↑x.snd.fst : Int)) then
        bif
            bif y173.X == x.snd.snd.snd.snd.snd.snd.snd.snd.fst then
              bif y173.Y == x.snd.snd.snd.snd.snd.snd.snd.snd.snd.fst then true else false
            else false then
          bif decide ((0 : Nat) + x.snd.snd.snd.snd.snd.snd.snd.fst ≤ x.snd.snd.snd.fst.length) then
            bif decide ((0 : Nat) + x.snd.snd.snd.snd.snd.snd.snd.snd.snd.snd.fst ≤ x.snd.snd.snd.snd.fst.length) then
              bif
                  decide
                      ((0 : Int) ≤
                        f37 x.snd.snd.snd.snd.snd.fst x.snd.snd.snd.snd.snd.snd.fst
                          (List.take x.snd.snd.snd.snd.snd.snd.snd.fst (List.drop (0 : Nat) x.snd.snd.snd.fst))
                          x.snd.snd.snd.snd.snd.snd.snd.snd.fst x.snd.snd.snd.snd.snd.snd.snd.snd.snd.fst
                          (List.take x.snd.snd.snd.snd.snd.snd.snd.snd.snd.snd.fst (List.drop (0 : Nat) x.snd.snd.snd.snd.fst)) y173.X
                          y173.Y) &&
                    decide
                      (f37 x.snd.snd.snd.snd.snd.fst x.snd.snd.snd.snd.snd.snd.fst
                          (List.take x.snd.snd.snd.snd.snd.snd.snd.fst (List.drop (0 : Nat) x.snd.snd.snd.fst))
                          x.snd.snd.snd.snd.snd.snd.snd.snd.fst x.snd.snd.snd.snd.snd.snd.snd.snd.snd.fst
                          (List.take x.snd.snd.snd.snd.snd.snd.snd.snd.snd.snd.fst (List.drop (0 : Nat) x.snd.snd.snd.snd.fst)) y173.X
                          y173.Y <
                        (↑x.snd.snd.snd.snd.snd.snd.snd.fst : Int)) then
                x.snd.snd.snd.fst[(0 : Nat) +
                        (f37 x.snd.snd.snd.snd.snd.fst x.snd.snd.snd.snd.snd.snd.fst
                            (List.take x.snd.snd.snd.snd.snd.snd.snd.fst (List.drop (0 : Nat) x.snd.snd.snd.fst))
                            x.snd.snd.snd.snd.snd.snd.snd.snd.fst x.snd.snd.snd.snd.snd.snd.snd.snd.snd.fst
                            (List.take x.snd.snd.snd.snd.snd.snd.snd.snd.snd.snd.fst (List.drop (0 : Nat) x.snd.snd.snd.snd.fst)) y173.X
                            y173.Y).toNat]?.bind
                  fun y169 =>
                  bif y169 == (1 : Int) then
                    some
                      (Sum.inl
                        (x.fst + (1 : Nat), (↑x.snd.fst : Int).toNat - (1 : Nat), x.snd.snd.fst, x.snd.snd.snd.fst, x.snd.snd.snd.snd.fst,
                          x.snd.snd.snd.snd.snd.fst, x.snd.snd.snd.snd.snd.snd.fst, x.snd.snd.snd.snd.snd.snd.snd.fst,
                          x.snd.snd.snd.snd.snd.snd.snd.snd.fst, x.snd.snd.snd.snd.snd.snd.snd.snd.snd.fst,
                          x.snd.snd.snd.snd.snd.snd.snd.snd.snd.snd.fst, x.snd.snd.snd.snd.snd.snd.snd.snd.snd.snd.snd.fst,
                          x.snd.snd.snd.snd.snd.snd.snd.snd.snd.snd.snd.snd.fst, ()))
                  else
                    bif decide ((0 : Nat) + x.snd.snd.snd.snd.snd.snd.snd.fst ≤ x.snd.snd.snd.fst.length) then
                      bif decide ((0 : Nat) + x.snd.snd.snd.snd.snd.snd.snd.snd.snd.snd.fst ≤ x.snd.snd.snd.snd.fst.length) then
                        bif
                            decide
                                ((0 : Int) ≤
                                  f37 x.snd.snd.snd.snd.snd.fst x.snd.snd.snd.snd.snd.snd.fst
                                    (List.take x.snd.snd.snd.snd.snd.snd.snd.fst (List.drop (0 : Nat) x.snd.snd.snd.fst))
                                    x.snd.snd.snd.snd.snd.snd.snd.snd.fst x.snd.snd.snd.snd.snd.snd.snd.snd.snd.fst
                                    (List.take x.snd.snd.snd.snd.snd.snd.snd.snd.snd.snd.fst (List.drop (0 : Nat) x.snd.snd.snd.snd.fst))
                                    y173.X y173.Y) &&
                              decide
                                (f37 x.snd.snd.snd.snd.snd.fst x.snd.snd.snd.snd.snd.snd.fst
                                    (List.take x.snd.snd.snd.snd.snd.snd.snd.fst (List.drop (0 : Nat) x.snd.snd.snd.fst))
                                    x.snd.snd.snd.snd.snd.snd.snd.snd.fst x.snd.snd.snd.snd.snd.snd.snd.snd.snd.fst
                                    (List.take x.snd.snd.snd.snd.snd.snd.snd.snd.snd.snd.fst (List.drop (0 : Nat) x.snd.snd.snd.snd.fst))
                                    y173.X y173.Y <
                                  (↑x.snd.snd.snd.snd.snd.snd.snd.snd.snd.snd.fst : Int)) then
                          x.snd.snd.snd.snd.fst[(0 : Nat) +
                                  (f37 x.snd.snd.snd.snd.snd.fst x.snd.snd.snd.snd.snd.snd.fst
                                      (List.take x.snd.snd.snd.snd.snd.snd.snd.fst (List.drop (0 : Nat) x.snd.snd.snd.fst))
                                      x.snd.snd.snd.snd.snd.snd.snd.snd.fst x.snd.snd.snd.snd.snd.snd.snd.snd.snd.fst
                                      (List.take x.snd.snd.snd.snd.snd.snd.snd.snd.snd.snd.fst (List.drop (0 : Nat) x.snd.snd.snd.snd.fst))
                                      y173.X y173.Y).toNat]?.bind
                            fun y168 =>
                            bif decide (y168 < (0 : Int)) then
                              some
                                (Sum.inl
                                  (x.fst + (1 : Nat), (↑x.snd.fst : Int).toNat - (1 : Nat), x.snd.snd.fst, x.snd.snd.snd.fst,
                                    x.snd.snd.snd.snd.fst, x.snd.snd.snd.snd.snd.fst, x.snd.snd.snd.snd.snd.snd.fst,
                                    x.snd.snd.snd.snd.snd.snd.snd.fst, x.snd.snd.snd.snd.snd.snd.snd.snd.fst,
                                    x.snd.snd.snd.snd.snd.snd.snd.snd.snd.fst, x.snd.snd.snd.snd.snd.snd.snd.snd.snd.snd.fst,
                                    x.snd.snd.snd.snd.snd.snd.snd.snd.snd.snd.snd.fst,
                                    x.snd.snd.snd.snd.snd.snd.snd.snd.snd.snd.snd.snd.fst, ()))
                            else
                              bif decide ((0 : Nat) + x.snd.snd.snd.snd.snd.snd.snd.fst ≤ x.snd.snd.snd.fst.length) then
                                bif decide ((0 : Nat) + x.snd.snd.snd.snd.snd.snd.snd.snd.snd.snd.fst ≤ x.snd.snd.snd.snd.fst.length) then
                                  (f52
                                        (x.snd.snd.snd.snd.snd.fst, x.snd.snd.snd.snd.snd.snd.fst,
                                          List.take x.snd.snd.snd.snd.snd.snd.snd.fst (List.drop (0 : Nat) x.snd.snd.snd.fst),
                                          x.snd.snd.snd.snd.snd.snd.snd.snd.fst, x.snd.snd.snd.snd.snd.snd.snd.snd.snd.fst,
                                          List.take x.snd.snd.snd.snd.snd.snd.snd.snd.snd.snd.fst
                                            (List.drop (0 : Nat) x.snd.snd.snd.snd.fst),
                                          y173.X, y173.Y, ())).bind
                                    fun y167 =>
                                    bif y167.fst then
                                      some
                                        (Sum.inl
                                          (x.fst + (1 : Nat), (↑x.snd.fst : Int).toNat - (1 : Nat), x.snd.snd.fst, x.snd.snd.snd.fst,
                                            x.snd.snd.snd.snd.fst, x.snd.snd.snd.snd.snd.fst, x.snd.snd.snd.snd.snd.snd.fst,
                                            x.snd.snd.snd.snd.snd.snd.snd.fst, x.snd.snd.snd.snd.snd.snd.snd.snd.fst,
                                            x.snd.snd.snd.snd.snd.snd.snd.snd.snd.fst, x.snd.snd.snd.snd.snd.snd.snd.snd.snd.snd.fst,
                                            x.snd.snd.snd.snd.snd.snd.snd.snd.snd.snd.snd.fst,
                                            x.snd.snd.snd.snd.snd.snd.snd.snd.snd.snd.snd.snd.fst, ()))
                                    else
                                      (j40_16
                                            (x.fst + (1 : Nat), (↑x.snd.fst : Int).toNat - (1 : Nat), x.snd.snd.fst, x.snd.snd.snd.fst,
                                              x.snd.snd.snd.snd.fst, x.snd.snd.snd.snd.snd.fst, x.snd.snd.snd.snd.snd.snd.fst,
                                              x.snd.snd.snd.snd.snd.snd.snd.fst, x.snd.snd.snd.snd.snd.snd.snd.snd.fst,
                                              x.snd.snd.snd.snd.snd.snd.snd.snd.snd.fst, x.snd.snd.snd.snd.snd.snd.snd.snd.snd.snd.fst,
                                              x.snd.snd.snd.snd.snd.snd.snd.snd.snd.snd.snd.fst,
                                              x.snd.snd.snd.snd.snd.snd.snd.snd.snd.snd.snd.snd.fst, y173.X, y173.Y, ())).bind
                                        fun y166 =>
                                        some
                                          (Sum.inl
                                            ((0 : Nat), y166.fst, y166.snd.fst, y166.snd.snd.fst, y166.snd.snd.snd.fst,
                                              y166.snd.snd.snd.snd.fst, y166.snd.snd.snd.snd.snd.fst, y166.snd.snd.snd.snd.snd.snd.fst,
                                              y166.snd.snd.snd.snd.snd.snd.snd.fst, y166.snd.snd.snd.snd.snd.snd.snd.snd.fst,
                                              y166.snd.snd.snd.snd.snd.snd.snd.snd.snd.fst,
                                              y166.snd.snd.snd.snd.snd.snd.snd.snd.snd.snd.fst,
                                              y166.snd.snd.snd.snd.snd.snd.snd.snd.snd.snd.snd.fst, ()))
                                else none
                              else none
                        else none
                      else none
                    else none
              else none
            else none
          else none
        else
          bif decide ((0 : Nat) + x.snd.snd.snd.snd.snd.snd.snd.fst ≤ x.snd.snd.snd.fst.length) then
            bif decide ((0 : Nat) + x.snd.snd.snd.snd.snd.snd.snd.snd.snd.snd.fst ≤ x.snd.snd.snd.snd.fst.length) then
              bif
                  decide
                      ((0 : Int) ≤
                        f37 x.snd.snd.snd.snd.snd.fst x.snd.snd.snd.snd.snd.snd.fst
                          (List.take x.snd.snd.snd.snd.snd.snd.snd.fst (List.drop (0 : Nat) x.snd.snd.snd.fst))
                          x.snd.snd.snd.snd.snd.snd.snd.snd.fst x.snd.snd.snd.snd.snd.snd.snd.snd.snd.fst
                          (List.take x.snd.snd.snd.snd.snd.snd.snd.snd.snd.snd.fst (List.drop (0 : Nat) x.snd.snd.snd.snd.fst)) y173.X
                          y173.Y) &&
                    decide
                      (f37 x.snd.snd.snd.snd.snd.fst x.snd.snd.snd.snd.snd.snd.fst
                          (List.take x.snd.snd.snd.snd.snd.snd.snd.fst (List.drop (0 : Nat) x.snd.snd.snd.fst))
                          x.snd.snd.snd.snd.snd.snd.snd.snd.fst x.snd.snd.snd.snd.snd.snd.snd.snd.snd.fst
                          (List.take x.snd.snd.snd.snd.snd.snd.snd.snd.snd.snd.fst (List.drop (0 : Nat) x.snd.snd.snd.snd.fst)) y173.X
                          y173.Y <
                        (↑x.snd.snd.snd.snd.snd.snd.snd.snd.snd.snd.fst : Int)) then
                x.snd.snd.snd.snd.fst[(0 : Nat) +
                        (f37 x.snd.snd.snd.snd.snd.fst x.snd.snd.snd.snd.snd.snd.fst
                            (List.take x.snd.snd.snd.snd.snd.snd.snd.fst (List.drop (0 : Nat) x.snd.snd.snd.fst))
                            x.snd.snd.snd.snd.snd.snd.snd.snd.fst x.snd.snd.snd.snd.snd.snd.snd.snd.snd.fst
                            (List.take x.snd.snd.snd.snd.snd.snd.snd.snd.snd.snd.fst (List.drop (0 : Nat) x.snd.snd.snd.snd.fst)) y173.X
                            y173.Y).toNat]?.bind
                  fun y172 =>
                  bif decide (y172 < (0 : Int)) then
                    some
                      (Sum.inl
                        (x.fst + (1 : Nat), (↑x.snd.fst : Int).toNat - (1 : Nat), x.snd.snd.fst, x.snd.snd.snd.fst, x.snd.snd.snd.snd.fst,
                          x.snd.snd.snd.snd.snd.fst, x.snd.snd.snd.snd.snd.snd.fst, x.snd.snd.snd.snd.snd.snd.snd.fst,
                          x.snd.snd.snd.snd.snd.snd.snd.snd.fst, x.snd.snd.snd.snd.snd.snd.snd.snd.snd.fst,
                          x.snd.snd.snd.snd.snd.snd.snd.snd.snd.snd.fst, x.snd.snd.snd.snd.snd.snd.snd.snd.snd.snd.snd.fst,
                          x.snd.snd.snd.snd.snd.snd.snd.snd.snd.snd.snd.snd.fst, ()))
                  else
                    bif decide ((0 : Nat) + x.snd.snd.snd.snd.snd.snd.snd.fst ≤ x.snd.snd.snd.fst.length) then
                      bif decide ((0 : Nat) + x.snd.snd.snd.snd.snd.snd.snd.snd.snd.snd.fst ≤ x.snd.snd.snd.snd.fst.length) then
                        (f52
                              (x.snd.snd.snd.snd.snd.fst, x.snd.snd.snd.snd.snd.snd.fst,
                                List.take x.snd.snd.snd.snd.snd.snd.snd.fst (List.drop (0 : Nat) x.snd.snd.snd.fst),
                                x.snd.snd.snd.snd.snd.snd.snd.snd.fst, x.snd.snd.snd.snd.snd.snd.snd.snd.snd.fst,
                                List.take x.snd.snd.snd.snd.snd.snd.snd.snd.snd.snd.fst (List.drop (0 : Nat) x.snd.snd.snd.snd.fst), y173.X,
                                y173.Y, ())).bind
                          fun y171 =>
                          bif y171.fst then
                            some
                              (Sum.inl
                                (x.fst + (1 : Nat), (↑x.snd.fst : Int).toNat - (1 : Nat), x.snd.snd.fst, x.snd.snd.snd.fst,
                                  x.snd.snd.snd.snd.fst, x.snd.snd.snd.snd.snd.fst, x.snd.snd.snd.snd.snd.snd.fst,
                                  x.snd.snd.snd.snd.snd.snd.snd.fst, x.snd.snd.snd.snd.snd.snd.snd.snd.fst,
                                  x.snd.snd.snd.snd.snd.snd.snd.snd.snd.fst, x.snd.snd.snd.snd.snd.snd.snd.snd.snd.snd.fst,
                                  x.snd.snd.snd.snd.snd.snd.snd.snd.snd.snd.snd.fst, x.snd.snd.snd.snd.snd.snd.snd.snd.snd.snd.snd.snd.fst,
                                  ()))
                          else
                            (j40_16
                                  (x.fst + (1 : Nat), (↑x.snd.fst : Int).toNat - (1 : Nat), x.snd.snd.fst, x.snd.snd.snd.fst,
                                    x.snd.snd.snd.snd.fst, x.snd.snd.snd.snd.snd.fst, x.snd.snd.snd.snd.snd.snd.fst,
                                    x.snd.snd.snd.snd.snd.snd.snd.fst, x.snd.snd.snd.snd.snd.snd.snd.snd.fst,
                                    x.snd.snd.snd.snd.snd.snd.snd.snd.snd.fst, x.snd.snd.snd.snd.snd.snd.snd.snd.snd.snd.fst,
                                    x.snd.snd.snd.snd.snd.snd.snd.snd.snd.snd.snd.fst,
                                    x.snd.snd.snd.snd.snd.snd.snd.snd.snd.snd.snd.snd.fst, y173.X, y173.Y, ())).bind
                              fun y170 =>
                              some
                                (Sum.inl
                                  ((0 : Nat), y170.fst, y170.snd.fst, y170.snd.snd.fst, y170.snd.snd.snd.fst, y170.snd.snd.snd.snd.fst,
                                    y170.snd.snd.snd.snd.snd.fst, y170.snd.snd.snd.snd.snd.snd.fst, y170.snd.snd.snd.snd.snd.snd.snd.fst,
                                    y170.snd.snd.snd.snd.snd.snd.snd.snd.fst, y170.snd.snd.snd.snd.snd.snd.snd.snd.snd.fst,
                                    y170.snd.snd.snd.snd.snd.snd.snd.snd.snd.snd.fst, y170.snd.snd.snd.snd.snd.snd.snd.snd.snd.snd.snd.fst,
                                    ()))
                      else none
                    else none
              else none
            else none
          else none
      else none
  else none
else
  some
    (Sum.inr
      (x.snd.snd.fst, x.snd.snd.snd.fst, x.snd.snd.snd.snd.fst, x.snd.snd.snd.snd.snd.fst, x.snd.snd.snd.snd.snd.snd.fst,
        x.snd.snd.snd.snd.snd.snd.snd.fst, x.snd.snd.snd.snd.snd.snd.snd.snd.fst, x.snd.snd.snd.snd.snd.snd.snd.snd.snd.fst,
        x.snd.snd.snd.snd.snd.snd.snd.snd.snd.snd.fst, x.snd.snd.snd.snd.snd.snd.snd.snd.snd.snd.snd.snd.fst, ()))
theorem r40_0_run0 (v0 : Nat) (v1 : Nat) (v2 : Nat) (v3 : List Int) (v4 : List Int) (v5 : Int) (v6 : Int) (v7 : Nat) (v8 : Int) (v9 : Int) (v10 : Nat) (v11 : List Pt) (v12 : List Pt) : roundK tC G40 (look [(16, W40_16)]) c40_0 p40_0 (v0, v1, v2, v3, v4, v5, v6, v7, v8, v9, v10, v11, v12, ()) = r40_0 (v0, v1, v2, v3, v4, v5, v6, v7, v8, v9, v10, v11, v12, ()) := by kernel_rfl
theorem r40_0_run (x : Nat × Nat × Nat × List Int × List Int × Int × Int × Nat × Int × Int × Nat × List Pt × List Pt × Unit) : roundK tC G40 (look [(16, W40_16)]) c40_0 p40_0 x = r40_0 x := r40_0_run0 x.1 x.2.1 x.2.2.1 x.2.2.2.1 x.2.2.2.2.1 x.2.2.2.2.2.1 x.2.2.2.2.2.2.1 x.2.2.2.2.2.2.2.1 x.2.2.2.2.2.2.2.2.1 x.2.2.2.2.2.2.2.2.2.1 x.2.2.2.2.2.2.2.2.2.2.1 x.2.2.2.2.2.2.2.2.2.2.2.1 x.2.2.2.2.2.2.2.2.2.2.2.2.1
noncomputable def l40_0 (x : Nat × Nat × Nat × List Int × List Int × Int × Int × Nat × Int × Int × Nat × List Pt × List Pt × Unit) : Option (Nat × List Int × List Int × Int × Int × Nat × Int × Int × Nat × List Pt × Unit) := iterO r40_0 x
noncomputable def W40_0 : LF tC := loopW tC p40_0 0 l40_0
theorem W40_0_ok : keyed 0 (bodyOf Try.f40) = [.block 0 (.loop c40_0)] ∧ ∀ n, n ≤ 4 → Snd tC n (.block 0 (.loop c40_0)) W40_0.k := ⟨by kernel_rfl, fun n hn => loopW_ok (p := p40_0) (id := 0) Y40 (lam_le (lam_cons W40_16_ok lam_nil) n hn) hn r40_0_run⟩
def S40 : FS := ⟨[[.p], [.o 26]], [⟨[.one (.one (.ptr 2 0 0)), .one (.one (.sl 3))], [.arr 5, .arr 3, .box [.int .i64, .int .i64, .sl 0, .int .i64, .int .i64, .sl 1], .arr 26]⟩], [⟨[.tup []], [.gone, .gone, .box [.int .i64, .int .i64, .sl 4, .int .i64, .int .i64, .sl 5], .gone, .arr 5, .arr 3]⟩], [], []⟩
noncomputable def f40 (x : Nat × List Int × List Int × Int × Int × Nat × Int × Int × Nat × List Pt × Unit) : Option (Int × Int × Nat × Int × Int × Nat × List Int × List Int × Unit) :=
  (l40_0
      ((0 : Nat), x.fst, (0 : Nat), x.snd.fst, x.snd.snd.fst, x.snd.snd.snd.fst, x.snd.snd.snd.snd.fst, x.snd.snd.snd.snd.snd.fst,
        x.snd.snd.snd.snd.snd.snd.fst, x.snd.snd.snd.snd.snd.snd.snd.fst, x.snd.snd.snd.snd.snd.snd.snd.snd.fst,
        x.snd.snd.snd.snd.snd.snd.snd.snd.snd.fst, [], ())).bind
  fun y201 =>
  bif decide ((0 : Nat) + y201.snd.snd.snd.snd.snd.fst ≤ y201.snd.fst.length) then
    bif decide ((0 : Nat) + y201.snd.snd.snd.snd.snd.snd.snd.snd.fst ≤ y201.snd.snd.fst.length) then
      bif decide ((0 : Nat) + y201.fst ≤ y201.snd.snd.snd.snd.snd.snd.snd.snd.snd.fst.length) then
        (f38
              (y201.fst, List.take y201.snd.snd.snd.snd.snd.fst (List.drop (0 : Nat) y201.snd.fst),
                List.take y201.snd.snd.snd.snd.snd.snd.snd.snd.fst (List.drop (0 : Nat) y201.snd.snd.fst), y201.snd.snd.snd.fst,
                y201.snd.snd.snd.snd.fst, y201.snd.snd.snd.snd.snd.fst, y201.snd.snd.snd.snd.snd.snd.fst,
                y201.snd.snd.snd.snd.snd.snd.snd.fst, y201.snd.snd.snd.snd.snd.snd.snd.snd.fst,
                List.take y201.fst (List.drop (0 : Nat) y201.snd.snd.snd.snd.snd.snd.snd.snd.snd.fst), ())).bind
          fun y200 =>
          some
            (y200.snd.snd.fst, y200.snd.snd.snd.fst, y200.snd.snd.snd.snd.fst, y200.snd.snd.snd.snd.snd.fst,
              y200.snd.snd.snd.snd.snd.snd.fst, y200.snd.snd.snd.snd.snd.snd.snd.fst, y200.fst, y200.snd.fst, ())
      else none
    else none
  else none
noncomputable def F40 : CF tC := mkF tC S40 f40
theorem f40_run : ∀ a, fnS tC G40 (look [(0, W40_0)]) Try.f40 S40 a = f40 a := fun a => by kernel_rfl
theorem F40_ok : CFOK tC 40 F40 := mkF_ok Y40 (fn := Try.f40) (body := bodyOf Try.f40) (by kernel_rfl) (by kernel_rfl) (by kernel_rfl) (m := 4) rfl (lam_le (lam_cons W40_0_ok lam_nil)) f40_run

/-! fresh (of a new planner) -/
noncomputable def G936 : FuncId → Option (CF tC) := look [(13, F13), (44, F44)]
theorem Y936 : SysN tC G936 := (sys_cons F13_ok (mkF_nat _ _) (sys_cons F44_ok (mkF_nat _ _) (sys_nil tC_ok tC_eq)))
noncomputable def c936_10 : Code := subCode (bodyOf Try.f36) 10
def p936_10 : PS := ⟨2, [0, 2], ⟨[.one (.one (.ptr 1 0 0)), vB, .one (.one (.sl 2))] ++ vBs 32, [.arr 5, .box [.int .i64, .int .i64, .sl 0, .int .i64, .int .i64, .nils], .arr 3]⟩, [⟨.normal, [], ⟨vBs 35, [.arr 5, .box [.int .i64, .int .i64, .sl 0, .int .i64, .int .i64, .sl 2], .arr 3]⟩, []⟩], []⟩
noncomputable def j936_10 (x : Nat × List Int × Int × Int × Nat × Int × Int × List Int × Unit) : Option (List Int × Int × Int × Nat × Int × Int × Nat × List Int × Unit) :=
  some
  (x.snd.fst, x.snd.snd.fst, x.snd.snd.snd.fst, x.snd.snd.snd.snd.fst, x.snd.snd.snd.snd.snd.fst, x.snd.snd.snd.snd.snd.snd.fst, x.fst,
    x.snd.snd.snd.snd.snd.snd.snd.fst, ())
theorem j936_10_run0 (v0 : Nat) (v1 : List Int) (v2 : Int) (v3 : Int) (v4 : Nat) (v5 : Int) (v6 : Int) (v7 : List Int) : pieceK tC G936 (look []) c936_10 p936_10 (v0, v1, v2, v3, v4, v5, v6, v7, ()) = j936_10 (v0, v1, v2, v3, v4, v5, v6, v7, ()) := by kernel_rfl
theorem j936_10_run (x : Nat × List Int × Int × Int × Nat × Int × Int × List Int × Unit) : pieceK tC G936 (look []) c936_10 p936_10 x = j936_10 x := j936_10_run0 x.1 x.2.1 x.2.2.1 x.2.2.2.1 x.2.2.2.2.1 x.2.2.2.2.2.1 x.2.2.2.2.2.2.1 x.2.2.2.2.2.2.2.1
noncomputable def W936_10 : LF tC := cutLF tC p936_10 j936_10
theorem W936_10_ok : keyed 10 (bodyOf Try.f36) = [c936_10] ∧ ∀ n, n ≤ 2 → Snd tC n c936_10 W936_10.k := ⟨by kernel_rfl, fun n hn => cut_ok (p := p936_10) Y936 (lam_le lam_nil n hn) hn j936_10_run⟩
def S936 : FS := ⟨[[.p]], [⟨[.one (.one (.ptr 1 0 0))], [.arr 5, .box [.int .i64, .int .i64, .sl 0, .int .i64, .int .i64, .nils]]⟩], [⟨[.tup []], [.arr 5, .box [.int .i64, .int .i64, .sl 0, .int .i64, .int .i64, .sl 2], .arr 3]⟩], [], []⟩
noncomputable def f936 (x : List Int × Int × Int × Nat × Int × Int × Unit) : Option (List Int × Int × Int × Nat × Int × Int × Nat × List Int × Unit) :=
  bif decide ((0 : Nat) + x.snd.snd.snd.fst ≤ x.fst.length) then
  (f13
        (x.snd.fst, x.snd.snd.fst, List.take x.snd.snd.snd.fst (List.drop (0 : Nat) x.fst), x.snd.snd.snd.snd.fst,
          x.snd.snd.snd.snd.snd.fst, ())).bind
    fun y55 =>
    bif y55.snd.fst != (0 : Int) then
      (f44 ([(-1 : Int)], IntKind.i64.wrap (x.snd.fst * x.snd.snd.fst), ())).bind fun y53 =>
        (j936_10
              (y53.fst, x.fst, x.snd.fst, x.snd.snd.fst, x.snd.snd.snd.fst, x.snd.snd.snd.snd.fst, x.snd.snd.snd.snd.snd.fst, y53.snd.fst,
                ())).bind
          fun y52 =>
          some
            (y52.fst, y52.snd.fst, y52.snd.snd.fst, y52.snd.snd.snd.fst, y52.snd.snd.snd.snd.fst, y52.snd.snd.snd.snd.snd.fst,
              y52.snd.snd.snd.snd.snd.snd.fst, y52.snd.snd.snd.snd.snd.snd.snd.fst, ())
    else
      (j936_10
            (y55.fst, x.fst, x.snd.fst, x.snd.snd.fst, x.snd.snd.snd.fst, x.snd.snd.snd.snd.fst, x.snd.snd.snd.snd.snd.fst, y55.snd.snd.fst,
              ())).bind
        fun y54 =>
        some
          (y54.fst, y54.snd.fst, y54.snd.snd.fst, y54.snd.snd.snd.fst, y54.snd.snd.snd.snd.fst, y54.snd.snd.snd.snd.snd.fst,
            y54.snd.snd.snd.snd.snd.snd.fst, y54.snd.snd.snd.snd.snd.snd.snd.fst, ())
else none
noncomputable def F936 : CF tC := mkF tC S936 f936
theorem f936_run : ∀ a, fnS tC G936 (look [(10, W936_10)]) Try.f36 S936 a = f936 a := fun a => by kernel_rfl
theorem F936_ok : CFOK tC 36 F936 := mkF_ok Y936 (fn := Try.f36) (body := bodyOf Try.f36) (by kernel_rfl) (by kernel_rfl) (by kernel_rfl) (m := 2) rfl (lam_le (lam_cons W936_10_ok lam_nil)) f936_run

/-! fresh -/
noncomputable def G36 : FuncId → Option (CF tC) := look [(13, F13), (44, F44)]
theorem Y36 : SysN tC G36 := (sys_cons F13_ok (mkF_nat _ _) (sys_cons F44_ok (mkF_nat _ _) (sys_nil tC_ok tC_eq)))
noncomputable def c36_10 : Code := subCode (bodyOf Try.f36) 10
def p36_10 : PS := ⟨3, [0, 2], ⟨[.one (.one (.ptr 2 0 0)), vB, .one (.one (.sl 3))] ++ vBs 32, [.arr 5, .arr 3, .box [.int .i64, .int .i64, .sl 0, .int .i64, .int .i64, .sl 1], .arr 3]⟩, [⟨.normal, [], ⟨vBs 35, [.arr 5, .arr 3, .box [.int .i64, .int .i64, .sl 0, .int .i64, .int .i64, .sl 3], .arr 3]⟩, []⟩], []⟩
noncomputable def j36_10 (x : Nat × List Int × List Int × Int × Int × Nat × Int × Int × Nat × List Int × Unit) : Option (List Int × List Int × Int × Int × Nat × Int × Int × Nat × List Int × Unit) :=
  some
  (x.snd.fst, x.snd.snd.fst, x.snd.snd.snd.fst, x.snd.snd.snd.snd.fst, x.snd.snd.snd.snd.snd.fst, x.snd.snd.snd.snd.snd.snd.fst,
    x.snd.snd.snd.snd.snd.snd.snd.fst, x.fst, x.snd.snd.snd.snd.snd.snd.snd.snd.snd.fst, ())
theorem j36_10_run0 (v0 : Nat) (v1 : List Int) (v2 : List Int) (v3 : Int) (v4 : Int) (v5 : Nat) (v6 : Int) (v7 : Int) (v8 : Nat) (v9 : List Int) : pieceK tC G36 (look []) c36_10 p36_10 (v0, v1, v2, v3, v4, v5, v6, v7, v8, v9, ()) = j36_10 (v0, v1, v2, v3, v4, v5, v6, v7, v8, v9, ()) := by kernel_rfl
theorem j36_10_run (x : Nat × List Int × List Int × Int × Int × Nat × Int × Int × Nat × List Int × Unit) : pieceK tC G36 (look []) c36_10 p36_10 x = j36_10 x := j36_10_run0 x.1 x.2.1 x.2.2.1 x.2.2.2.1 x.2.2.2.2.1 x.2.2.2.2.2.1 x.2.2.2.2.2.2.1 x.2.2.2.2.2.2.2.1 x.2.2.2.2.2.2.2.2.1 x.2.2.2.2.2.2.2.2.2.1
noncomputable def W36_10 : LF tC := cutLF tC p36_10 j36_10
theorem W36_10_ok : keyed 10 (bodyOf Try.f36) = [c36_10] ∧ ∀ n, n ≤ 3 → Snd tC n c36_10 W36_10.k := ⟨by kernel_rfl, fun n hn => cut_ok (p := p36_10) Y36 (lam_le lam_nil n hn) hn j36_10_run⟩
def S36 : FS := ⟨[[.p]], [⟨[.one (.one (.ptr 2 0 0))], [.arr 5, .arr 3, .box [.int .i64, .int .i64, .sl 0, .int .i64, .int .i64, .sl 1]]⟩], [⟨[.tup []], [.arr 5, .arr 3, .box [.int .i64, .int .i64, .sl 0, .int .i64, .int .i64, .sl 3], .arr 3]⟩], [], []⟩
noncomputable def f36 (x : List Int × List Int × Int × Int × Nat × Int × Int × Nat × Unit) : Option (List Int × List Int × Int × Int × Nat × Int × Int × Nat × List Int × Unit) :=
  bif decide ((0 : Nat) + x.snd.snd.snd.snd.fst ≤ x.fst.length) then
  (f13
        (x.snd.snd.fst, x.snd.snd.snd.fst, List.take x.snd.snd.snd.snd.fst (List.drop (0 : Nat) x.fst), x.snd.snd.snd.snd.snd.fst,
          x.snd.snd.snd.snd.snd.snd.fst, ())).bind
    fun y63 =>
    bif y63.snd.fst != (0 : Int) then
      (f44 ([(-1 : Int)], IntKind.i64.wrap (x.snd.snd.fst * x.snd.snd.snd.fst), ())).bind fun y61 =>
        (j36_10
              (y61.fst, x.fst, x.snd.fst, x.snd.snd.fst, x.snd.snd.snd.fst, x.snd.snd.snd.snd.fst, x.snd.snd.snd.snd.snd.fst,
                x.snd.snd.snd.snd.snd.snd.fst, x.snd.snd.snd.snd.snd.snd.snd.fst, y61.snd.fst, ())).bind
          fun y60 =>
          some
            (y60.fst, y60.snd.fst, y60.snd.snd.fst, y60.snd.snd.snd.fst, y60.snd.snd.snd.snd.fst, y60.snd.snd.snd.snd.snd.fst,
              y60.snd.snd.snd.snd.snd.snd.fst, y60.snd.snd.snd.snd.snd.snd.snd.fst, y60.snd.snd.snd.snd.snd.snd.snd.snd.fst, ())
    else
      (j36_10
            (y63.fst, x.fst, x.snd.fst, x.snd.snd.fst, x.snd.snd.snd.fst, x.snd.snd.snd.snd.fst, x.snd.snd.snd.snd.snd.fst,
              x.snd.snd.snd.snd.snd.snd.fst, x.snd.snd.snd.snd.snd.snd.snd.fst, y63.snd.snd.fst, ())).bind
        fun y62 =>
        some
          (y62.fst, y62.snd.fst, y62.snd.snd.fst, y62.snd.snd.snd.fst, y62.snd.snd.snd.snd.fst, y62.snd.snd.snd.snd.snd.fst,
            y62.snd.snd.snd.snd.snd.snd.fst, y62.snd.snd.snd.snd.snd.snd.snd.fst, y62.snd.snd.snd.snd.snd.snd.snd.snd.fst, ())
else none
noncomputable def F36 : CF tC := mkF tC S36 f36
theorem f36_run : ∀ a, fnS tC G36 (look [(10, W36_10)]) Try.f36 S36 a = f36 a := fun a => by kernel_rfl
theorem F36_ok : CFOK tC 36 F36 := mkF_ok Y36 (fn := Try.f36) (body := bodyOf Try.f36) (by kernel_rfl) (by kernel_rfl) (by kernel_rfl) (m := 3) rfl (lam_le (lam_cons W36_10_ok lam_nil)) f36_run

/-! repair.New -/
noncomputable def G15 : FuncId → Option (CF tC) := look [(22, F22), (34, F34), (35, F35), (36, F936)]
theorem Y15 : SysN tC G15 := (sys_cons F22_ok (mkF_nat _ _) (sys_cons F34_ok (mkF_nat _ _) (sys_cons F35_ok (mkF_nat _ _) (sys_cons F936_ok (mkF_nat _ _) (sys_nil tC_ok tC_eq)))))
def S15 : FS := ⟨[[.v, .v, .s 5], [.v, .v]], [⟨[.one (.agg [.int .i64, .int .i64, .imm 5]), .one (.agg [.int .i64, .int .i64])], []⟩], [⟨[.tup [.one .nilp, .one (.lit .i64 1)]], []⟩, ⟨[.tup [.one .nilp, .one (.lit .i64 7)]], []⟩, ⟨[.tup [.one (.ptr 0 0 0), .one (.lit .i64 0)]], [.box [.int .i64, .int .i64, .sl 1, .int .i64, .int .i64, .sl 2], .arr 5, .arr 3]⟩], [[.v], [.v]], []⟩
noncomputable def f15 (x : Int × Int × List Int × Int × Int × Unit) : Option (Unit ⊕ Unit ⊕ Int × Int × Nat × Int × Int × Nat × List Int × List Int × Unit) :=
  (f22 (x.fst, x.snd.fst, x.snd.snd.fst, ())).bind fun y27 =>
  bif !y27.fst then some (Sum.inl ())
  else
    bif !f34 x.fst x.snd.fst x.snd.snd.fst x.snd.snd.snd.fst x.snd.snd.snd.snd.fst then some (Sum.inr (Sum.inl ()))
    else
      (f35 (x.snd.snd.fst, ())).bind fun y26 =>
        bif decide ((0 : Nat) + y26.fst ≤ y26.snd.fst.length) then
          (f936
                (List.take y26.fst (List.drop (0 : Nat) y26.snd.fst), x.fst, x.snd.fst, y26.fst, x.snd.snd.snd.fst, x.snd.snd.snd.snd.fst,
                  ())).bind
            fun y25 =>
            some
              (Sum.inr
                (Sum.inr
                  (y25.snd.fst, y25.snd.snd.fst, y25.snd.snd.snd.fst, y25.snd.snd.snd.snd.fst, y25.snd.snd.snd.snd.snd.fst,
                    y25.snd.snd.snd.snd.snd.snd.fst, y25.fst, y25.snd.snd.snd.snd.snd.snd.snd.fst, ())))
        else none
noncomputable def F15 : CF tC := mkF tC S15 f15
theorem f15_run : ∀ a, fnS tC G15 (look []) Try.f15 S15 a = f15 a := fun a => by kernel_rfl
theorem F15_ok : CFOK tC 15 F15 := mkF_ok Y15 (fn := Try.f15) (body := bodyOf Try.f15) (by kernel_rfl) (by kernel_rfl) (by kernel_rfl) (m := 0) rfl (lam_le lam_nil) f15_run

/-! slices.Equal -/
noncomputable def G33 : FuncId → Option (CF tC) := look []
theorem Y33 : SysN tC G33 := (sys_nil tC_ok tC_eq)
noncomputable def c33_0 : Code := loopOf (bodyOf Try.f33) 0
def p33_0 : LS := ⟨0, [0, 1, 12, 13], ⟨[.one (.one (.imm 3)), .one (.one (.imm 3))] ++ vBs 10 ++ [vI, vI] ++ vBs 12, []⟩, [⟨.ret, [4], ⟨vBs 4 ++ [vO] ++ vBs 21, []⟩, []⟩, ⟨.exit 0, [], ⟨vBs 26, []⟩, []⟩], []⟩
noncomputable def r33_0 (x : List Int × List Int × Int × Int × Unit) : Option (List Int × List Int × Int × Int × Unit ⊕ Bool × Unit ⊕ Unit) :=
  bif decide (x.snd.snd.snd.fst < x.snd.snd.fst) then
  (idxO x.fst x.snd.snd.snd.fst).bind fun y11 =>
    (idxO x.snd.fst x.snd.snd.snd.fst).bind fun y10 =>
      bif y11 != y10 then some (Sum.inr (Sum.inl (false, ())))
      else some (Sum.inl (x.fst, x.snd.fst, x.snd.snd.fst, IntKind.i64.wrap (x.snd.snd.snd.fst + (1 : Int)), ()))
else some (Sum.inr (Sum.inr ()))
theorem r33_0_run0 (v0 : List Int) (v1 : List Int) (v2 : Int) (v3 : Int) : roundK tC G33 (look []) c33_0 p33_0 (v0, v1, v2, v3, ()) = r33_0 (v0, v1, v2, v3, ()) := by kernel_rfl
theorem r33_0_run (x : List Int × List Int × Int × Int × Unit) : roundK tC G33 (look []) c33_0 p33_0 x = r33_0 x := r33_0_run0 x.1 x.2.1 x.2.2.1 x.2.2.2.1
noncomputable def l33_0 (x : List Int × List Int × Int × Int × Unit) : Option (Bool × Unit ⊕ Unit) := iterO r33_0 x
noncomputable def W33_0 : LF tC := loopW tC p33_0 0 l33_0
theorem W33_0_ok : keyed 0 (bodyOf Try.f33) = [.block 0 (.loop c33_0)] ∧ ∀ n, n ≤ 0 → Snd tC n (.block 0 (.loop c33_0)) W33_0.k := ⟨by kernel_rfl, fun n hn => loopW_ok (p := p33_0) (id := 0) Y33 (lam_le lam_nil n hn) hn r33_0_run⟩
def S33 : FS := ⟨[[.s 3], [.s 3]], [⟨[.one (.one (.imm 3)), .one (.one (.imm 3))], []⟩], [⟨[vO], []⟩], [[.v]], []⟩
noncomputable def f33 (x : List Int × List Int × Unit) : Option (Bool × Unit) :=
  bif (↑x.fst.length : Int) != (↑x.snd.fst.length : Int) then some (false, ())
else
  (l33_0 (x.fst, x.snd.fst, (↑x.fst.length : Int), (0 : Int), ())).bind fun y16 =>
    Sum.elim (fun y14 => some (y14.fst, ())) (fun _x => some (true, ())) y16
noncomputable def F33 : CF tC := mkF tC S33 f33
theorem f33_run : ∀ a, fnS tC G33 (look [(0, W33_0)]) Try.f33 S33 a = f33 a := fun a => by kernel_rfl
theorem F33_ok : CFOK tC 33 F33 := mkF_ok Y33 (fn := Try.f33) (body := bodyOf Try.f33) (by kernel_rfl) (by kernel_rfl) (by kernel_rfl) (m := 0) rfl (lam_le (lam_cons W33_0_ok lam_nil)) f33_run

/-! path.Check -/
noncomputable def G14 : FuncId → Option (CF tC) := look [(13, F13), (33, F33)]
theorem Y14 : SysN tC G14 := (sys_cons F13_ok (mkF_nat _ _) (sys_cons F33_ok (mkF_nat _ _) (sys_nil tC_ok tC_eq)))
def S14 : FS := ⟨[[.v, .v, .s 5], [.v, .v], [.s 3]], [⟨[.one (.agg [.int .i64, .int .i64, .imm 5]), .one (.agg [.int .i64, .int .i64]), .one (.one (.imm 3))], []⟩], [⟨[vI], []⟩], [[.v]], []⟩
noncomputable def f14 (x : Int × Int × List Int × Int × Int × List Int × Unit) : Option (Int × Unit) :=
  (f13 (x.fst, x.snd.fst, x.snd.snd.fst, x.snd.snd.snd.fst, x.snd.snd.snd.snd.fst, ())).bind fun y13 =>
  bif y13.snd.fst != (0 : Int) then some (y13.snd.fst, ())
  else
    bif (↑x.snd.snd.snd.snd.snd.fst.length : Int) != (↑y13.fst : Int) then some ((3 : Int), ())
    else
      bif decide ((0 : Nat) + y13.fst ≤ y13.snd.snd.fst.length) then
        (f33 (x.snd.snd.snd.snd.snd.fst, List.take y13.fst (List.drop (0 : Nat) y13.snd.snd.fst), ())).bind fun y12 =>
          bif !y12.fst then some ((9 : Int), ()) else some ((0 : Int), ())
      else none
noncomputable def F14 : CF tC := mkF tC S14 f14
theorem f14_run : ∀ a, fnS tC G14 (look []) Try.f14 S14 a = f14 a := fun a => by kernel_rfl
theorem F14_ok : CFOK tC 14 F14 := mkF_ok Y14 (fn := Try.f14) (body := bodyOf Try.f14) (by kernel_rfl) (by kernel_rfl) (by kernel_rfl) (m := 0) rfl (lam_le lam_nil) f14_run

/-! distance.inside -/
noncomputable def G47 : FuncId → Option (CF tC) := look []
theorem Y47 : SysN tC G47 := (sys_nil tC_ok tC_eq)
def S47 : FS := ⟨[[.v, .v, .s 5], [.v, .v]], [⟨[.one (.agg [.int .i64, .int .i64, .imm 5]), .one (.agg [.int .i64, .int .i64])], []⟩], [⟨[vO], []⟩], [[.v]], []⟩
def f47 (n1 : Int) (n2 : Int) (_l3 : List Int) (n4 : Int) (n5 : Int) : Bool :=
  bif decide (n4 ≥ (0 : Int)) then bif decide (n4 < n1) then bif decide (n5 ≥ (0 : Int)) then decide (n5 < n2) else false else false
else false
noncomputable def F47 : CF tC := mkF tC S47 (fun a => some ((f47 a.1 a.2.1 a.2.2.1 a.2.2.2.1 a.2.2.2.2.1), ()))
def h47 (r : Bool) : Option (altTy tE S47.outs) := some (r, ())
theorem f47_run : ∀ a, fnS tC G47 (look []) Try.f47 S47 a = (fun a => some ((f47 a.1 a.2.1 a.2.2.1 a.2.2.2.1 a.2.2.2.2.1), ())) a := fun a => by
  have key : ∀ (n1 : Int) (n2 : Int) (l3 : List Int) (n4 : Int) (n5 : Int), (bif decide (n4 ≥ (0 : Int)) then
  bif decide (n4 < n1) then bif decide (n5 ≥ (0 : Int)) then h47 (decide (n5 < n2)) else h47 false else h47 false
else h47 false) = h47 (f47 n1 n2 l3 n4 n5) := by
    intros
    unfold f47
    repeat' first | rfl | refine cond_h (g := h47) ?_ ?_
  exact Eq.trans (by kernel_rfl) (key a.1 a.2.1 a.2.2.1 a.2.2.2.1 a.2.2.2.2.1)
theorem F47_ok : CFOK tC 47 F47 := mkF_ok Y47 (fn := Try.f47) (body := bodyOf Try.f47) (by kernel_rfl) (by kernel_rfl) (by kernel_rfl) (m := 0) rfl (lam_le lam_nil) f47_run

/-! distance.free -/
noncomputable def G28 : FuncId → Option (CF tC) := look [(47, F47)]
theorem Y28 : SysN tC G28 := (sys_cons F47_ok (mkF_nat _ _) (sys_nil tC_ok tC_eq))
def S28 : FS := ⟨[[.v, .v, .s 5], [.v, .v]], [⟨[.one (.agg [.int .i64, .int .i64, .imm 5]), .one (.agg [.int .i64, .int .i64])], []⟩], [⟨[vO], []⟩], [[.v]], []⟩
noncomputable def f28 (x : Int × Int × List Int × Int × Int × Unit) : Option (Bool × Unit) :=
  bif f47 x.fst x.snd.fst x.snd.snd.fst x.snd.snd.snd.fst x.snd.snd.snd.snd.fst then
  (idxO x.snd.snd.fst (IntKind.i64.wrap (IntKind.i64.wrap (x.snd.snd.snd.snd.fst * x.fst) + x.snd.snd.snd.fst))).bind fun y8 =>
    some (y8 == (1 : Int), ())
else some (false, ())
noncomputable def F28 : CF tC := mkF tC S28 f28
theorem f28_run : ∀ a, fnS tC G28 (look []) Try.f28 S28 a = f28 a := fun a => by kernel_rfl
theorem F28_ok : CFOK tC 28 F28 := mkF_ok Y28 (fn := Try.f28) (body := bodyOf Try.f28) (by kernel_rfl) (by kernel_rfl) (by kernel_rfl) (m := 0) rfl (lam_le lam_nil) f28_run

/-! columns -/
noncomputable def G43 : FuncId → Option (CF tC) := look []
theorem Y43 : SysN tC G43 := (sys_nil tC_ok tC_eq)
noncomputable def c43_37 : Code := subCode (loopOf (loopOf (bodyOf Try.f43) 0) 2) 37
def p43_37 : PS := ⟨0, [1, 3, 4, 5, 6, 13, 14, 18, 19], ⟨[vB, .one (.one (.ptr 0 0 0)), vB, .one (.one (.sl 1)), vI, vI, vI] ++ vBs 6 ++ [vI, vI, vB, vB, vB, vI, vI] ++ vBs 66, [.box [.int .i64, .int .i64, .imm 5], .arr 3]⟩, [⟨.normal, [1, 3, 4, 5, 13, 14, 18, 19], ⟨[vB, .one (.one (.ptr 0 0 0)), vB, .one (.one (.sl 1)), vI, vI] ++ vBs 7 ++ [vI, vI, vB, vB, vB, vI, vI] ++ vBs 66, [.box [.int .i64, .int .i64, .imm 5], .arr 3]⟩, []⟩], []⟩
noncomputable def j43_37 (x : Nat × Int × Int × Int × Int × Int × Int × Int × Int × Int × List Int × List Int × Unit) : Option (Nat × Int × Int × Int × Int × Int × Int × Int × Int × List Int × List Int × Unit) :=
  bif
    decide ((0 : Int) ≤ IntKind.i64.wrap (IntKind.i64.wrap (x.snd.snd.snd.fst * x.snd.snd.snd.snd.snd.snd.snd.snd.fst) + x.snd.fst)) &&
      decide
        (IntKind.i64.wrap (IntKind.i64.wrap (x.snd.snd.snd.fst * x.snd.snd.snd.snd.snd.snd.snd.snd.fst) + x.snd.fst) < (↑x.fst : Int)) then
  x.snd.snd.snd.snd.snd.snd.snd.snd.snd.snd.snd.fst[(0 : Nat) +
          (IntKind.i64.wrap (IntKind.i64.wrap (x.snd.snd.snd.fst * x.snd.snd.snd.snd.snd.snd.snd.snd.fst) + x.snd.fst)).toNat]?.bind
    fun _x =>
    some
      (x.fst, x.snd.fst, x.snd.snd.fst, x.snd.snd.snd.snd.fst, x.snd.snd.snd.snd.snd.fst, x.snd.snd.snd.snd.snd.snd.fst,
        x.snd.snd.snd.snd.snd.snd.snd.fst, x.snd.snd.snd.snd.snd.snd.snd.snd.fst, x.snd.snd.snd.snd.snd.snd.snd.snd.snd.fst,
        x.snd.snd.snd.snd.snd.snd.snd.snd.snd.snd.fst,
        x.snd.snd.snd.snd.snd.snd.snd.snd.snd.snd.snd.fst.set
          ((0 : Nat) + (IntKind.i64.wrap (IntKind.i64.wrap (x.snd.snd.snd.fst * x.snd.snd.snd.snd.snd.snd.snd.snd.fst) + x.snd.fst)).toNat)
          x.snd.snd.fst,
        ())
else none
theorem j43_37_run0 (v0 : Nat) (v1 : Int) (v2 : Int) (v3 : Int) (v4 : Int) (v5 : Int) (v6 : Int) (v7 : Int) (v8 : Int) (v9 : Int) (v10 : List Int) (v11 : List Int) : pieceK tC G43 (look []) c43_37 p43_37 (v0, v1, v2, v3, v4, v5, v6, v7, v8, v9, v10, v11, ()) = j43_37 (v0, v1, v2, v3, v4, v5, v6, v7, v8, v9, v10, v11, ()) := by kernel_rfl
theorem j43_37_run (x : Nat × Int × Int × Int × Int × Int × Int × Int × Int × Int × List Int × List Int × Unit) : pieceK tC G43 (look []) c43_37 p43_37 x = j43_37 x := j43_37_run0 x.1 x.2.1 x.2.2.1 x.2.2.2.1 x.2.2.2.2.1 x.2.2.2.2.2.1 x.2.2.2.2.2.2.1 x.2.2.2.2.2.2.2.1 x.2.2.2.2.2.2.2.2.1 x.2.2.2.2.2.2.2.2.2.1 x.2.2.2.2.2.2.2.2.2.2.1 x.2.2.2.2.2.2.2.2.2.2.2.1
noncomputable def W43_37 : LF tC := cutLF tC p43_37 j43_37
theorem W43_37_ok : keyed 37 (loopOf (loopOf (bodyOf Try.f43) 0) 2) = [c43_37] ∧ ∀ n, n ≤ 0 → Snd tC n c43_37 W43_37.k := ⟨by kernel_rfl, fun n hn => cut_ok (p := p43_37) Y43 (lam_le lam_nil n hn) hn j43_37_run⟩
noncomputable def c43_40 : Code := subCode (loopOf (loopOf (bodyOf Try.f43) 0) 2) 40
def p43_40 : PS := ⟨0, [1, 3, 4, 5, 13, 14, 18, 19], ⟨[vB, .one (.one (.ptr 0 0 0)), vB, .one (.one (.sl 1)), vI, vI] ++ vBs 7 ++ [vI, vI, vB, vB, vB, vI, vI] ++ vBs 66, [.box [.int .i64, .int .i64, .imm 5], .arr 3]⟩, [⟨.normal, [1, 3, 4, 5, 13, 14, 18, 19], ⟨[vB, .one (.one (.ptr 0 0 0)), vB, .one (.one (.sl 1)), vI, vI] ++ vBs 7 ++ [vI, vI, vB, vB, vB, vI, vI] ++ vBs 66, [.box [.int .i64, .int .i64, .imm 5], .arr 3]⟩, []⟩], []⟩
noncomputable def j43_40 (x : Nat × Int × Int × Int × Int × Int × Int × Int × Int × List Int × List Int × Unit) : Option (Nat × Int × Int × Int × Int × Int × Int × Int × Int × List Int × List Int × Unit) :=
  some
  (x.fst, x.snd.fst, x.snd.snd.fst, x.snd.snd.snd.fst, x.snd.snd.snd.snd.fst, x.snd.snd.snd.snd.snd.fst,
    IntKind.i64.wrap (x.snd.snd.snd.snd.snd.snd.fst + (1 : Int)), x.snd.snd.snd.snd.snd.snd.snd.fst, x.snd.snd.snd.snd.snd.snd.snd.snd.fst,
    x.snd.snd.snd.snd.snd.snd.snd.snd.snd.fst, x.snd.snd.snd.snd.snd.snd.snd.snd.snd.snd.fst, ())
theorem j43_40_run0 (v0 : Nat) (v1 : Int) (v2 : Int) (v3 : Int) (v4 : Int) (v5 : Int) (v6 : Int) (v7 : Int) (v8 : Int) (v9 : List Int) (v10 : List Int) : pieceK tC G43 (look []) c43_40 p43_40 (v0, v1, v2, v3, v4, v5, v6, v7, v8, v9, v10, ()) = j43_40 (v0, v1, v2, v3, v4, v5, v6, v7, v8, v9, v10, ()) := by kernel_rfl
theorem j43_40_run (x : Nat × Int × Int × Int × Int × Int × Int × Int × Int × List Int × List Int × Unit) : pieceK tC G43 (look []) c43_40 p43_40 x = j43_40 x := j43_40_run0 x.1 x.2.1 x.2.2.1 x.2.2.2.1 x.2.2.2.2.1 x.2.2.2.2.2.1 x.2.2.2.2.2.2.1 x.2.2.2.2.2.2.2.1 x.2.2.2.2.2.2.2.2.1 x.2.2.2.2.2.2.2.2.2.1 x.2.2.2.2.2.2.2.2.2.2.1
noncomputable def W43_40 : LF tC := cutLF tC p43_40 j43_40
theorem W43_40_ok : keyed 40 (loopOf (loopOf (bodyOf Try.f43) 0) 2) = [c43_40] ∧ ∀ n, n ≤ 0 → Snd tC n c43_40 W43_40.k := ⟨by kernel_rfl, fun n hn => cut_ok (p := p43_40) Y43 (lam_le lam_nil n hn) hn j43_40_run⟩
noncomputable def c43_6 : Code := loopOf (loopOf (bodyOf Try.f43) 0) 2
def p43_6 : LS := ⟨0, [1, 3, 4, 5, 13, 14, 18, 19], ⟨[vB, .one (.one (.ptr 0 0 0)), vB, .one (.one (.sl 1)), vI, vI] ++ vBs 7 ++ [vI, vI, vB, vB, vB, vI, vI] ++ vBs 66, [.box [.int .i64, .int .i64, .imm 5], .arr 3]⟩, [⟨.exit 2, [1, 3, 4, 13, 14], ⟨[vB, .one (.one (.ptr 0 0 0)), vB, .one (.one (.sl 1)), vI] ++ vBs 8 ++ [vI, vI] ++ vBs 71, [.box [.int .i64, .int .i64, .imm 5], .arr 3]⟩, []⟩], []⟩
noncomputable def r43_6 (x : Nat × Int × Int × Int × Int × Int × Int × Int × Int × List Int × List Int × Unit) : Option
  (Nat × Int × Int × Int × Int × Int × Int × Int × Int × List Int × List Int × Unit ⊕
    Nat × Int × Int × Int × Int × Int × List Int × List Int × Unit) :=
  bif decide (x.snd.snd.snd.snd.snd.snd.fst < x.snd.snd.snd.snd.snd.fst) then
  (idxO x.snd.snd.snd.snd.snd.snd.snd.snd.snd.fst
        (IntKind.i64.wrap (IntKind.i64.wrap (x.snd.snd.snd.snd.snd.snd.fst * x.snd.snd.snd.snd.snd.snd.snd.fst) + x.snd.fst))).bind
    fun y126 =>
    bif y126 != (1 : Int) then
      (j43_37
            (x.fst, x.snd.fst, (0 : Int), x.snd.snd.snd.snd.snd.snd.fst, x.snd.snd.snd.fst, x.snd.snd.snd.snd.fst,
              x.snd.snd.snd.snd.snd.fst, x.snd.snd.snd.snd.snd.snd.fst, x.snd.snd.snd.snd.snd.snd.snd.fst,
              x.snd.snd.snd.snd.snd.snd.snd.snd.fst, x.snd.snd.snd.snd.snd.snd.snd.snd.snd.fst,
              x.snd.snd.snd.snd.snd.snd.snd.snd.snd.snd.fst, ())).bind
        fun y123 =>
        (j43_40
              (y123.fst, y123.snd.fst, y123.snd.snd.fst, y123.snd.snd.snd.fst, y123.snd.snd.snd.snd.fst, y123.snd.snd.snd.snd.snd.fst,
                y123.snd.snd.snd.snd.snd.snd.fst, y123.snd.snd.snd.snd.snd.snd.snd.fst, y123.snd.snd.snd.snd.snd.snd.snd.snd.fst,
                y123.snd.snd.snd.snd.snd.snd.snd.snd.snd.fst, y123.snd.snd.snd.snd.snd.snd.snd.snd.snd.snd.fst, ())).bind
          fun y122 =>
          some
            (Sum.inl
              (y122.fst, y122.snd.fst, y122.snd.snd.fst, y122.snd.snd.snd.fst, y122.snd.snd.snd.snd.fst, y122.snd.snd.snd.snd.snd.fst,
                y122.snd.snd.snd.snd.snd.snd.fst, y122.snd.snd.snd.snd.snd.snd.snd.fst, y122.snd.snd.snd.snd.snd.snd.snd.snd.fst,
                y122.snd.snd.snd.snd.snd.snd.snd.snd.snd.fst, y122.snd.snd.snd.snd.snd.snd.snd.snd.snd.snd.fst, ()))
    else
      (j43_37
            (x.fst, x.snd.fst, IntKind.i64.wrap (x.snd.snd.fst + (1 : Int)), x.snd.snd.snd.snd.snd.snd.fst, x.snd.snd.snd.fst,
              x.snd.snd.snd.snd.fst, x.snd.snd.snd.snd.snd.fst, x.snd.snd.snd.snd.snd.snd.fst, x.snd.snd.snd.snd.snd.snd.snd.fst,
              x.snd.snd.snd.snd.snd.snd.snd.snd.fst, x.snd.snd.snd.snd.snd.snd.snd.snd.snd.fst,
              x.snd.snd.snd.snd.snd.snd.snd.snd.snd.snd.fst, ())).bind
        fun y125 =>
        (j43_40
              (y125.fst, y125.snd.fst, y125.snd.snd.fst, y125.snd.snd.snd.fst, y125.snd.snd.snd.snd.fst, y125.snd.snd.snd.snd.snd.fst,
                y125.snd.snd.snd.snd.snd.snd.fst, y125.snd.snd.snd.snd.snd.snd.snd.fst, y125.snd.snd.snd.snd.snd.snd.snd.snd.fst,
                y125.snd.snd.snd.snd.snd.snd.snd.snd.snd.fst, y125.snd.snd.snd.snd.snd.snd.snd.snd.snd.snd.fst, ())).bind
          fun y124 =>
          some
            (Sum.inl
              (y124.fst, y124.snd.fst, y124.snd.snd.fst, y124.snd.snd.snd.fst, y124.snd.snd.snd.snd.fst, y124.snd.snd.snd.snd.snd.fst,
                y124.snd.snd.snd.snd.snd.snd.fst, y124.snd.snd.snd.snd.snd.snd.snd.fst, y124.snd.snd.snd.snd.snd.snd.snd.snd.fst,
                y124.snd.snd.snd.snd.snd.snd.snd.snd.snd.fst, y124.snd.snd.snd.snd.snd.snd.snd.snd.snd.snd.fst, ()))
else
  some
    (Sum.inr
      (x.fst, x.snd.fst, x.snd.snd.snd.fst, x.snd.snd.snd.snd.fst, x.snd.snd.snd.snd.snd.snd.snd.fst, x.snd.snd.snd.snd.snd.snd.snd.snd.fst,
        x.snd.snd.snd.snd.snd.snd.snd.snd.snd.fst, x.snd.snd.snd.snd.snd.snd.snd.snd.snd.snd.fst, ()))
theorem r43_6_run0 (v0 : Nat) (v1 : Int) (v2 : Int) (v3 : Int) (v4 : Int) (v5 : Int) (v6 : Int) (v7 : Int) (v8 : Int) (v9 : List Int) (v10 : List Int) : roundK tC G43 (look [(37, W43_37), (40, W43_40)]) c43_6 p43_6 (v0, v1, v2, v3, v4, v5, v6, v7, v8, v9, v10, ()) = r43_6 (v0, v1, v2, v3, v4, v5, v6, v7, v8, v9, v10, ()) := by kernel_rfl
theorem r43_6_run (x : Nat × Int × Int × Int × Int × Int × Int × Int × Int × List Int × List Int × Unit) : roundK tC G43 (look [(37, W43_37), (40, W43_40)]) c43_6 p43_6 x = r43_6 x := r43_6_run0 x.1 x.2.1 x.2.2.1 x.2.2.2.1 x.2.2.2.2.1 x.2.2.2.2.2.1 x.2.2.2.2.2.2.1 x.2.2.2.2.2.2.2.1 x.2.2.2.2.2.2.2.2.1 x.2.2.2.2.2.2.2.2.2.1 x.2.2.2.2.2.2.2.2.2.2.1
noncomputable def l43_6 (x : Nat × Int × Int × Int × Int × Int × Int × Int × Int × List Int × List Int × Unit) : Option (Nat × Int × Int × Int × Int × Int × List Int × List Int × Unit) := iterO r43_6 x
noncomputable def W43_6 : LF tC := loopW tC p43_6 2 l43_6
theorem W43_6_ok : keyed 6 (loopOf (bodyOf Try.f43) 0) = [.block 2 (.loop c43_6)] ∧ ∀ n, n ≤ 0 → Snd tC n (.block 2 (.loop c43_6)) W43_6.k := ⟨by kernel_rfl, fun n hn => loopW_ok (p := p43_6) (id := 2) Y43 (lam_le (lam_cons W43_37_ok (lam_cons W43_40_ok lam_nil)) n hn) hn r43_6_run⟩
noncomputable def c43_64 : Code := subCode (loopOf (loopOf (bodyOf Try.f43) 0) 4) 64
def p43_64 : PS := ⟨0, [1, 3, 4, 5, 7, 13, 14], ⟨[vB, .one (.one (.ptr 0 0 0)), vB, .one (.one (.sl 1)), vI, vI, vB, vI] ++ vBs 5 ++ [vI, vI] ++ vBs 71, [.box [.int .i64, .int .i64, .imm 5], .arr 3]⟩, [⟨.normal, [1, 3, 4, 5, 7, 13, 14], ⟨[vB, .one (.one (.ptr 0 0 0)), vB, .one (.one (.sl 1)), vI, vI, vB, vI] ++ vBs 5 ++ [vI, vI] ++ vBs 71, [.box [.int .i64, .int .i64, .imm 5], .arr 3]⟩, []⟩], []⟩
noncomputable def j43_64 (x : Nat × Int × Int × Int × Int × Int × Int × Int × List Int × List Int × Unit) : Option (Nat × Int × Int × Int × Int × Int × Int × Int × List Int × List Int × Unit) :=
  bif
    decide ((0 : Int) ≤ IntKind.i64.wrap (IntKind.i64.wrap (x.snd.snd.snd.fst * x.snd.snd.snd.snd.snd.snd.fst) + x.snd.fst)) &&
      decide (IntKind.i64.wrap (IntKind.i64.wrap (x.snd.snd.snd.fst * x.snd.snd.snd.snd.snd.snd.fst) + x.snd.fst) < (↑x.fst : Int)) then
  x.snd.snd.snd.snd.snd.snd.snd.snd.snd.fst[(0 : Nat) +
          (IntKind.i64.wrap (IntKind.i64.wrap (x.snd.snd.snd.fst * x.snd.snd.snd.snd.snd.snd.fst) + x.snd.fst)).toNat]?.bind
    fun y169 =>
    bif
        decide ((0 : Int) ≤ IntKind.i64.wrap (IntKind.i64.wrap (x.snd.snd.snd.fst * x.snd.snd.snd.snd.snd.snd.fst) + x.snd.fst)) &&
          decide (IntKind.i64.wrap (IntKind.i64.wrap (x.snd.snd.snd.fst * x.snd.snd.snd.snd.snd.snd.fst) + x.snd.fst) < (↑x.fst : Int)) then
      x.snd.snd.snd.snd.snd.snd.snd.snd.snd.fst[(0 : Nat) +
              (IntKind.i64.wrap (IntKind.i64.wrap (x.snd.snd.snd.fst * x.snd.snd.snd.snd.snd.snd.fst) + x.snd.fst)).toNat]?.bind
        fun _x =>
        some
          (x.fst, x.snd.fst, x.snd.snd.fst, x.snd.snd.snd.fst, x.snd.snd.snd.snd.fst, x.snd.snd.snd.snd.snd.fst,
            x.snd.snd.snd.snd.snd.snd.fst, x.snd.snd.snd.snd.snd.snd.snd.fst, x.snd.snd.snd.snd.snd.snd.snd.snd.fst,
            x.snd.snd.snd.snd.snd.snd.snd.snd.snd.fst.set
              ((0 : Nat) + (IntKind.i64.wrap (IntKind.i64.wrap (x.snd.snd.snd.fst * x.snd.snd.snd.snd.snd.snd.fst) + x.snd.fst)).toNat)
              (bif decide (x.snd.snd.fst < y169) then x.snd.snd.fst else y169),
            ())
    else none
else none
theorem j43_64_run0 (v0 : Nat) (v1 : Int) (v2 : Int) (v3 : Int) (v4 : Int) (v5 : Int) (v6 : Int) (v7 : Int) (v8 : List Int) (v9 : List Int) : pieceK tC G43 (look []) c43_64 p43_64 (v0, v1, v2, v3, v4, v5, v6, v7, v8, v9, ()) = j43_64 (v0, v1, v2, v3, v4, v5, v6, v7, v8, v9, ()) := by kernel_rfl
theorem j43_64_run (x : Nat × Int × Int × Int × Int × Int × Int × Int × List Int × List Int × Unit) : pieceK tC G43 (look []) c43_64 p43_64 x = j43_64 x := j43_64_run0 x.1 x.2.1 x.2.2.1 x.2.2.2.1 x.2.2.2.2.1 x.2.2.2.2.2.1 x.2.2.2.2.2.2.1 x.2.2.2.2.2.2.2.1 x.2.2.2.2.2.2.2.2.1 x.2.2.2.2.2.2.2.2.2.1
noncomputable def W43_64 : LF tC := cutLF tC p43_64 j43_64
theorem W43_64_ok : keyed 64 (loopOf (loopOf (bodyOf Try.f43) 0) 4) = [c43_64] ∧ ∀ n, n ≤ 0 → Snd tC n c43_64 W43_64.k := ⟨by kernel_rfl, fun n hn => cut_ok (p := p43_64) Y43 (lam_le lam_nil n hn) hn j43_64_run⟩
noncomputable def c43_52 : Code := subCode (loopOf (loopOf (bodyOf Try.f43) 0) 4) 52
def p43_52 : PS := ⟨0, [1, 3, 4, 5, 7, 13, 14], ⟨[vB, .one (.one (.ptr 0 0 0)), vB, .one (.one (.sl 1)), vI, vI, vB, vI] ++ vBs 5 ++ [vI, vI] ++ vBs 71, [.box [.int .i64, .int .i64, .imm 5], .arr 3]⟩, [⟨.normal, [1, 3, 4, 5, 7, 13, 14], ⟨[vB, .one (.one (.ptr 0 0 0)), vB, .one (.one (.sl 1)), vI, vI, vB, vI] ++ vBs 5 ++ [vI, vI] ++ vBs 71, [.box [.int .i64, .int .i64, .imm 5], .arr 3]⟩, []⟩], []⟩
noncomputable def j43_52 (x : Nat × Int × Int × Int × Int × Int × Int × Int × List Int × List Int × Unit) : Option (Nat × Int × Int × Int × Int × Int × Int × Int × List Int × List Int × Unit) :=
  some
  (x.fst, x.snd.fst, x.snd.snd.fst, IntKind.i64.wrap (x.snd.snd.snd.fst - (1 : Int)), x.snd.snd.snd.snd.fst, x.snd.snd.snd.snd.snd.fst,
    x.snd.snd.snd.snd.snd.snd.fst, x.snd.snd.snd.snd.snd.snd.snd.fst, x.snd.snd.snd.snd.snd.snd.snd.snd.fst,
    x.snd.snd.snd.snd.snd.snd.snd.snd.snd.fst, ())
theorem j43_52_run0 (v0 : Nat) (v1 : Int) (v2 : Int) (v3 : Int) (v4 : Int) (v5 : Int) (v6 : Int) (v7 : Int) (v8 : List Int) (v9 : List Int) : pieceK tC G43 (look []) c43_52 p43_52 (v0, v1, v2, v3, v4, v5, v6, v7, v8, v9, ()) = j43_52 (v0, v1, v2, v3, v4, v5, v6, v7, v8, v9, ()) := by kernel_rfl
theorem j43_52_run (x : Nat × Int × Int × Int × Int × Int × Int × Int × List Int × List Int × Unit) : pieceK tC G43 (look []) c43_52 p43_52 x = j43_52 x := j43_52_run0 x.1 x.2.1 x.2.2.1 x.2.2.2.1 x.2.2.2.2.1 x.2.2.2.2.2.1 x.2.2.2.2.2.2.1 x.2.2.2.2.2.2.2.1 x.2.2.2.2.2.2.2.2.1 x.2.2.2.2.2.2.2.2.2.1
noncomputable def W43_52 : LF tC := cutLF tC p43_52 j43_52
theorem W43_52_ok : keyed 52 (loopOf (loopOf (bodyOf Try.f43) 0) 4) = [c43_52] ∧ ∀ n, n ≤ 0 → Snd tC n c43_52 W43_52.k := ⟨by kernel_rfl, fun n hn => cut_ok (p := p43_52) Y43 (lam_le lam_nil n hn) hn j43_52_run⟩
noncomputable def c43_12 : Code := loopOf (loopOf (bodyOf Try.f43) 0) 4
def p43_12 : LS := ⟨0, [1, 3, 4, 5, 7, 13, 14], ⟨[vB, .one (.one (.ptr 0 0 0)), vB, .one (.one (.sl 1)), vI, vI, vB, vI] ++ vBs 5 ++ [vI, vI] ++ vBs 71, [.box [.int .i64, .int .i64, .imm 5], .arr 3]⟩, [⟨.exit 4, [1, 3, 13, 14], ⟨[vB, .one (.one (.ptr 0 0 0)), vB, .one (.one (.sl 1))] ++ vBs 9 ++ [vI, vI] ++ vBs 71, [.box [.int .i64, .int .i64, .imm 5], .arr 3]⟩, []⟩], []⟩
noncomputable def r43_12 (x : Nat × Int × Int × Int × Int × Int × Int × Int × List Int × List Int × Unit) : Option
  (Nat × Int × Int × Int × Int × Int × Int × Int × List Int × List Int × Unit ⊕ Nat × Int × Int × Int × Int × List Int × List Int × Unit) :=
  bif decide (x.snd.snd.snd.fst ≥ (0 : Int)) then
  (idxO x.snd.snd.snd.snd.snd.snd.snd.snd.fst
        (IntKind.i64.wrap (IntKind.i64.wrap (x.snd.snd.snd.fst * x.snd.snd.snd.snd.snd.snd.fst) + x.snd.fst))).bind
    fun y241 =>
    bif y241 != (1 : Int) then
      (j43_64
            (x.fst, x.snd.fst, (0 : Int), x.snd.snd.snd.fst, x.snd.snd.snd.snd.fst, x.snd.snd.snd.snd.snd.fst,
              x.snd.snd.snd.snd.snd.snd.fst, x.snd.snd.snd.snd.snd.snd.snd.fst, x.snd.snd.snd.snd.snd.snd.snd.snd.fst,
              x.snd.snd.snd.snd.snd.snd.snd.snd.snd.fst, ())).bind
        fun y238 =>
        (j43_52
              (y238.fst, y238.snd.fst, y238.snd.snd.fst, y238.snd.snd.snd.fst, y238.snd.snd.snd.snd.fst, y238.snd.snd.snd.snd.snd.fst,
                y238.snd.snd.snd.snd.snd.snd.fst, y238.snd.snd.snd.snd.snd.snd.snd.fst, y238.snd.snd.snd.snd.snd.snd.snd.snd.fst,
                y238.snd.snd.snd.snd.snd.snd.snd.snd.snd.fst, ())).bind
          fun y237 =>
          some
            (Sum.inl
              (y237.fst, y237.snd.fst, y237.snd.snd.fst, y237.snd.snd.snd.fst, y237.snd.snd.snd.snd.fst, y237.snd.snd.snd.snd.snd.fst,
                y237.snd.snd.snd.snd.snd.snd.fst, y237.snd.snd.snd.snd.snd.snd.snd.fst, y237.snd.snd.snd.snd.snd.snd.snd.snd.fst,
                y237.snd.snd.snd.snd.snd.snd.snd.snd.snd.fst, ()))
    else
      (j43_64
            (x.fst, x.snd.fst, IntKind.i64.wrap (x.snd.snd.fst + (1 : Int)), x.snd.snd.snd.fst, x.snd.snd.snd.snd.fst,
              x.snd.snd.snd.snd.snd.fst, x.snd.snd.snd.snd.snd.snd.fst, x.snd.snd.snd.snd.snd.snd.snd.fst,
              x.snd.snd.snd.snd.snd.snd.snd.snd.fst, x.snd.snd.snd.snd.snd.snd.snd.snd.snd.fst, ())).bind
        fun y240 =>
        (j43_52
              (y240.fst, y240.snd.fst, y240.snd.snd.fst, y240.snd.snd.snd.fst, y240.snd.snd.snd.snd.fst, y240.snd.snd.snd.snd.snd.fst,
                y240.snd.snd.snd.snd.snd.snd.fst, y240.snd.snd.snd.snd.snd.snd.snd.fst, y240.snd.snd.snd.snd.snd.snd.snd.snd.fst,
                y240.snd.snd.snd.snd.snd.snd.snd.snd.snd.fst, ())).bind
          fun y239 =>
          some
            (Sum.inl
              (y239.fst, y239.snd.fst, y239.snd.snd.fst, y239.snd.snd.snd.fst, y239.snd.snd.snd.snd.fst, y239.snd.snd.snd.snd.snd.fst,
                y239.snd.snd.snd.snd.snd.snd.fst, y239.snd.snd.snd.snd.snd.snd.snd.fst, y239.snd.snd.snd.snd.snd.snd.snd.snd.fst,
                y239.snd.snd.snd.snd.snd.snd.snd.snd.snd.fst, ()))
else
  some
    (Sum.inr
      (x.fst, x.snd.snd.snd.snd.fst, x.snd.snd.snd.snd.snd.fst, x.snd.snd.snd.snd.snd.snd.fst, x.snd.snd.snd.snd.snd.snd.snd.fst,
        x.snd.snd.snd.snd.snd.snd.snd.snd.fst, x.snd.snd.snd.snd.snd.snd.snd.snd.snd.fst, ()))
theorem r43_12_run0 (v0 : Nat) (v1 : Int) (v2 : Int) (v3 : Int) (v4 : Int) (v5 : Int) (v6 : Int) (v7 : Int) (v8 : List Int) (v9 : List Int) : roundK tC G43 (look [(64, W43_64), (52, W43_52)]) c43_12 p43_12 (v0, v1, v2, v3, v4, v5, v6, v7, v8, v9, ()) = r43_12 (v0, v1, v2, v3, v4, v5, v6, v7, v8, v9, ()) := by kernel_rfl
theorem r43_12_run (x : Nat × Int × Int × Int × Int × Int × Int × Int × List Int × List Int × Unit) : roundK tC G43 (look [(64, W43_64), (52, W43_52)]) c43_12 p43_12 x = r43_12 x := r43_12_run0 x.1 x.2.1 x.2.2.1 x.2.2.2.1 x.2.2.2.2.1 x.2.2.2.2.2.1 x.2.2.2.2.2.2.1 x.2.2.2.2.2.2.2.1 x.2.2.2.2.2.2.2.2.1 x.2.2.2.2.2.2.2.2.2.1
noncomputable def l43_12 (x : Nat × Int × Int × Int × Int × Int × Int × Int × List Int × List Int × Unit) : Option (Nat × Int × Int × Int × Int × List Int × List Int × Unit) := iterO r43_12 x
noncomputable def W43_12 : LF tC := loopW tC p43_12 4 l43_12
theorem W43_12_ok : keyed 12 (loopOf (bodyOf Try.f43) 0) = [.block 4 (.loop c43_12)] ∧ ∀ n, n ≤ 0 → Snd tC n (.block 4 (.loop c43_12)) W43_12.k := ⟨by kernel_rfl, fun n hn => loopW_ok (p := p43_12) (id := 4) Y43 (lam_le (lam_cons W43_64_ok (lam_cons W43_52_ok lam_nil)) n hn) hn r43_12_run⟩
noncomputable def c43_0 : Code := loopOf (bodyOf Try.f43) 0
def p43_0 : LS := ⟨0, [1, 3, 13, 14], ⟨[vB, .one (.one (.ptr 0 0 0)), vB, .one (.one (.sl 1))] ++ vBs 9 ++ [vI, vI] ++ vBs 71, [.box [.int .i64, .int .i64, .imm 5], .arr 3]⟩, [⟨.exit 0, [3], ⟨[vB, vB, vB, .one (.one (.sl 0))] ++ vBs 82, [.arr 3]⟩, []⟩], []⟩
noncomputable def r43_0 (x : Nat × Int × Int × Int × Int × List Int × List Int × Unit) : Option (Nat × Int × Int × Int × Int × List Int × List Int × Unit ⊕ Nat × List Int × Unit) :=
  bif decide (x.snd.snd.fst < x.snd.fst) then
  (l43_6
        (x.fst, x.snd.snd.fst, (0 : Int), x.snd.fst, x.snd.snd.fst, x.snd.snd.snd.snd.fst, (0 : Int), x.snd.snd.snd.fst,
          x.snd.snd.snd.snd.fst, x.snd.snd.snd.snd.snd.fst, x.snd.snd.snd.snd.snd.snd.fst, ())).bind
    fun y252 =>
    (l43_12
          (y252.fst, y252.snd.fst, (0 : Int), IntKind.i64.wrap (y252.snd.snd.snd.snd.snd.fst - (1 : Int)), y252.snd.snd.fst,
            y252.snd.snd.snd.fst, y252.snd.snd.snd.snd.fst, y252.snd.snd.snd.snd.snd.fst, y252.snd.snd.snd.snd.snd.snd.fst,
            y252.snd.snd.snd.snd.snd.snd.snd.fst, ())).bind
      fun y251 =>
      some
        (Sum.inl
          (y251.fst, y251.snd.fst, IntKind.i64.wrap (y251.snd.snd.fst + (1 : Int)), y251.snd.snd.snd.fst, y251.snd.snd.snd.snd.fst,
            y251.snd.snd.snd.snd.snd.fst, y251.snd.snd.snd.snd.snd.snd.fst, ()))
else some (Sum.inr (x.fst, x.snd.snd.snd.snd.snd.snd.fst, ()))
theorem r43_0_run0 (v0 : Nat) (v1 : Int) (v2 : Int) (v3 : Int) (v4 : Int) (v5 : List Int) (v6 : List Int) : roundK tC G43 (look [(6, W43_6), (12, W43_12)]) c43_0 p43_0 (v0, v1, v2, v3, v4, v5, v6, ()) = r43_0 (v0, v1, v2, v3, v4, v5, v6, ()) := by kernel_rfl
theorem r43_0_run (x : Nat × Int × Int × Int × Int × List Int × List Int × Unit) : roundK tC G43 (look [(6, W43_6), (12, W43_12)]) c43_0 p43_0 x = r43_0 x := r43_0_run0 x.1 x.2.1 x.2.2.1 x.2.2.2.1 x.2.2.2.2.1 x.2.2.2.2.2.1 x.2.2.2.2.2.2.1
noncomputable def l43_0 (x : Nat × Int × Int × Int × Int × List Int × List Int × Unit) : Option (Nat × List Int × Unit) := iterO r43_0 x
noncomputable def W43_0 : LF tC := loopW tC p43_0 0 l43_0
theorem W43_0_ok : keyed 0 (bodyOf Try.f43) = [.block 0 (.loop c43_0)] ∧ ∀ n, n ≤ 0 → Snd tC n (.block 0 (.loop c43_0)) W43_0.k := ⟨by kernel_rfl, fun n hn => loopW_ok (p := p43_0) (id := 0) Y43 (lam_le (lam_cons W43_6_ok (lam_cons W43_12_ok lam_nil)) n hn) hn r43_0_run⟩
def S43 : FS := ⟨[[.v, .v, .s 5]], [⟨[.one (.agg [.int .i64, .int .i64, .imm 5])], []⟩], [⟨[.one (.one (.sl 0))], [.arr 3]⟩], [[.v]], [(2, 3)]⟩
noncomputable def f43 (x : Int × Int × List Int × Unit) : Option (Nat × List Int × Unit) :=
  bif
    true && decide ((↑x.snd.snd.fst.length : Int) ≤ (↑x.snd.snd.fst.length : Int)) &&
        decide ((↑x.snd.snd.fst.length : Int) * (8 : Int) ≤ (140737488355328 : Int)) &&
      decide ((↑x.snd.snd.fst.length : Int) ≤ (140737488355328 : Int)) then
  (l43_0
        ((↑x.snd.snd.fst.length : Int).toNat, x.fst, (0 : Int), x.fst, x.snd.fst, x.snd.snd.fst,
          List.replicate (↑x.snd.snd.fst.length : Int).toNat (0 : Int), ())).bind
    fun y257 => some (y257.fst, y257.snd.fst, ())
else none
noncomputable def F43 : CF tC := mkF tC S43 f43
theorem f43_run : ∀ a, fnS tC G43 (look [(0, W43_0)]) Try.f43 S43 a = f43 a := fun a => by kernel_rfl
theorem F43_ok : CFOK tC 43 F43 := mkF_ok Y43 (fn := Try.f43) (body := bodyOf Try.f43) (by kernel_rfl) (by kernel_rfl) (by kernel_rfl) (m := 0) rfl (lam_le (lam_cons W43_0_ok lam_nil)) f43_run

/-! squares -/
noncomputable def G23 : FuncId → Option (CF tC) := look [(43, F43)]
theorem Y23 : SysN tC G23 := (sys_cons F43_ok (mkF_nat _ _) (sys_nil tC_ok tC_eq))
noncomputable def c23_12 : Code := loopOf (loopOf (loopOf (bodyOf Try.f23) 0) 2) 4
def p23_12 : LS := ⟨0, [1, 3, 4, 5, 6, 7, 9, 19, 20, 35, 36, 49, 50, 51], ⟨[vB, .one (.one (.ptr 0 0 0)), vB, .one (.one (.sl 1)), .one (.one (.sl 2)), vI, .one (.one (.slw 1)), vI, vB, vI] ++ vBs 9 ++ [vI, vI] ++ vBs 14 ++ [vI, vI] ++ vBs 12 ++ [.one (.one (.slw 1)), vI, vI] ++ vBs 30, [.box [.int .i64, .int .i64, .imm 5], .arr 3, .arr 3]⟩, [⟨.exit 4, [1, 3, 4, 5, 6, 7, 9, 19, 20, 35, 36], ⟨[vB, .one (.one (.ptr 0 0 0)), vB, .one (.one (.sl 1)), .one (.one (.sl 2)), vI, .one (.one (.slw 1)), vI, vB, vI] ++ vBs 9 ++ [vI, vI] ++ vBs 14 ++ [vI, vI] ++ vBs 45, [.box [.int .i64, .int .i64, .imm 5], .arr 3, .arr 3]⟩, []⟩], []⟩
noncomputable def r23_12 (x : Nat × Nat × Int × Nat × Nat × Int × Int × Int × Int × Int × Int × Nat × Nat × Int × Int × Int × Int × List Int × List Int × List Int × Unit) : Option
  (Nat ×
      Nat ×
        Int × Nat × Nat × Int × Int × Int × Int × Int × Int × Nat × Nat × Int × Int × Int × Int × List Int × List Int × List Int × Unit ⊕
    Nat × Nat × Int × Nat × Nat × Int × Int × Int × Int × Int × Int × Int × Int × List Int × List Int × List Int × Unit) :=
  bif decide (x.snd.snd.snd.snd.snd.snd.snd.snd.snd.snd.snd.snd.snd.snd.fst < x.snd.snd.snd.snd.snd.snd.snd.snd.snd.snd.snd.snd.snd.fst) then
  bif
      decide ((0 : Int) ≤ x.snd.snd.snd.snd.snd.snd.snd.snd.snd.snd.snd.snd.snd.snd.fst) &&
        decide
          (x.snd.snd.snd.snd.snd.snd.snd.snd.snd.snd.snd.snd.snd.snd.fst <
            (↑x.snd.snd.snd.snd.snd.snd.snd.snd.snd.snd.snd.snd.fst : Int)) then
    x.snd.snd.snd.snd.snd.snd.snd.snd.snd.snd.snd.snd.snd.snd.snd.snd.snd.snd.fst[x.snd.snd.snd.snd.snd.snd.snd.snd.snd.snd.snd.fst +
            x.snd.snd.snd.snd.snd.snd.snd.snd.snd.snd.snd.snd.snd.snd.fst.toNat]?.bind
      fun y66 =>
      some
        (Sum.inl
          (x.fst, x.snd.fst, x.snd.snd.fst, x.snd.snd.snd.fst, x.snd.snd.snd.snd.fst, x.snd.snd.snd.snd.snd.fst,
            bif
                decide
                  (IntKind.i64.wrap
                      (IntKind.i64.wrap
                          (IntKind.i64.wrap (x.snd.snd.snd.snd.snd.fst - x.snd.snd.snd.snd.snd.snd.snd.snd.snd.snd.snd.snd.snd.snd.fst) *
                            IntKind.i64.wrap (x.snd.snd.snd.snd.snd.fst - x.snd.snd.snd.snd.snd.snd.snd.snd.snd.snd.snd.snd.snd.snd.fst)) +
                        IntKind.i64.wrap (y66 * y66)) <
                    x.snd.snd.snd.snd.snd.snd.fst) then
              IntKind.i64.wrap
                (IntKind.i64.wrap
                    (IntKind.i64.wrap (x.snd.snd.snd.snd.snd.fst - x.snd.snd.snd.snd.snd.snd.snd.snd.snd.snd.snd.snd.snd.snd.fst) *
                      IntKind.i64.wrap (x.snd.snd.snd.snd.snd.fst - x.snd.snd.snd.snd.snd.snd.snd.snd.snd.snd.snd.snd.snd.snd.fst)) +
                  IntKind.i64.wrap (y66 * y66))
            else x.snd.snd.snd.snd.snd.snd.fst,
            x.snd.snd.snd.snd.snd.snd.snd.fst, x.snd.snd.snd.snd.snd.snd.snd.snd.fst, x.snd.snd.snd.snd.snd.snd.snd.snd.snd.fst,
            x.snd.snd.snd.snd.snd.snd.snd.snd.snd.snd.fst, x.snd.snd.snd.snd.snd.snd.snd.snd.snd.snd.snd.fst,
            x.snd.snd.snd.snd.snd.snd.snd.snd.snd.snd.snd.snd.fst, x.snd.snd.snd.snd.snd.snd.snd.snd.snd.snd.snd.snd.snd.fst,
            IntKind.i64.wrap (x.snd.snd.snd.snd.snd.snd.snd.snd.snd.snd.snd.snd.snd.snd.fst + (1 : Int)),
            x.snd.snd.snd.snd.snd.snd.snd.snd.snd.snd.snd.snd.snd.snd.snd.fst,
            x.snd.snd.snd.snd.snd.snd.snd.snd.snd.snd.snd.snd.snd.snd.snd.snd.fst,
            x.snd.snd.snd.snd.snd.snd.snd.snd.snd.snd.snd.snd.snd.snd.snd.snd.snd.fst,
            x.snd.snd.snd.snd.snd.snd.snd.snd.snd.snd.snd.snd.snd.snd.snd.snd.snd.snd.fst,
            x.snd.snd.snd.snd.snd.snd.snd.snd.snd.snd.snd.snd.snd.snd.snd.snd.snd.snd.snd.fst, ()))
  else none
else
  some
    (Sum.inr
      (x.fst, x.snd.fst, x.snd.snd.fst, x.snd.snd.snd.fst, x.snd.snd.snd.snd.fst, x.snd.snd.snd.snd.snd.fst, x.snd.snd.snd.snd.snd.snd.fst,
        x.snd.snd.snd.snd.snd.snd.snd.fst, x.snd.snd.snd.snd.snd.snd.snd.snd.fst, x.snd.snd.snd.snd.snd.snd.snd.snd.snd.fst,
        x.snd.snd.snd.snd.snd.snd.snd.snd.snd.snd.fst, x.snd.snd.snd.snd.snd.snd.snd.snd.snd.snd.snd.snd.snd.snd.snd.fst,
        x.snd.snd.snd.snd.snd.snd.snd.snd.snd.snd.snd.snd.snd.snd.snd.snd.fst,
        x.snd.snd.snd.snd.snd.snd.snd.snd.snd.snd.snd.snd.snd.snd.snd.snd.snd.fst,
        x.snd.snd.snd.snd.snd.snd.snd.snd.snd.snd.snd.snd.snd.snd.snd.snd.snd.snd.fst,
        x.snd.snd.snd.snd.snd.snd.snd.snd.snd.snd.snd.snd.snd.snd.snd.snd.snd.snd.snd.fst, ()))
theorem r23_12_run0 (v0 : Nat) (v1 : Nat) (v2 : Int) (v3 : Nat) (v4 : Nat) (v5 : Int) (v6 : Int) (v7 : Int) (v8 : Int) (v9 : Int) (v10 : Int) (v11 : Nat) (v12 : Nat) (v13 : Int) (v14 : Int) (v15 : Int) (v16 : Int) (v17 : List Int) (v18 : List Int) (v19 : List Int) : roundK tC G23 (look []) c23_12 p23_12 (v0, v1, v2, v3, v4, v5, v6, v7, v8, v9, v10, v11, v12, v13, v14, v15, v16, v17, v18, v19, ()) = r23_12 (v0, v1, v2, v3, v4, v5, v6, v7, v8, v9, v10, v11, v12, v13, v14, v15, v16, v17, v18, v19, ()) := by kernel_rfl
theorem r23_12_run (x : Nat × Nat × Int × Nat × Nat × Int × Int × Int × Int × Int × Int × Nat × Nat × Int × Int × Int × Int × List Int × List Int × List Int × Unit) : roundK tC G23 (look []) c23_12 p23_12 x = r23_12 x := r23_12_run0 x.1 x.2.1 x.2.2.1 x.2.2.2.1 x.2.2.2.2.1 x.2.2.2.2.2.1 x.2.2.2.2.2.2.1 x.2.2.2.2.2.2.2.1 x.2.2.2.2.2.2.2.2.1 x.2.2.2.2.2.2.2.2.2.1 x.2.2.2.2.2.2.2.2.2.2.1 x.2.2.2.2.2.2.2.2.2.2.2.1 x.2.2.2.2.2.2.2.2.2.2.2.2.1 x.2.2.2.2.2.2.2.2.2.2.2.2.2.1 x.2.2.2.2.2.2.2.2.2.2.2.2.2.2.1 x.2.2.2.2.2.2.2.2.2.2.2.2.2.2.2.1 x.2.2.2.2.2.2.2.2.2.2.2.2.2.2.2.2.1 x.2.2.2.2.2.2.2.2.2.2.2.2.2.2.2.2.2.1 x.2.2.2.2.2.2.2.2.2.2.2.2.2.2.2.2.2.2.1 x.2.2.2.2.2.2.2.2.2.2.2.2.2.2.2.2.2.2.2.1
noncomputable def l23_12 (x : Nat × Nat × Int × Nat × Nat × Int × Int × Int × Int × Int × Int × Nat × Nat × Int × Int × Int × Int × List Int × List Int × List Int × Unit) : Option (Nat × Nat × Int × Nat × Nat × Int × Int × Int × Int × Int × Int × Int × Int × List Int × List Int × List Int × Unit) := iterO r23_12 x
noncomputable def W23_12 : LF tC := loopW tC p23_12 4 l23_12
theorem W23_12_ok : keyed 12 (loopOf (loopOf (bodyOf Try.f23) 0) 2) = [.block 4 (.loop c23_12)] ∧ ∀ n, n ≤ 0 → Snd tC n (.block 4 (.loop c23_12)) W23_12.k := ⟨by kernel_rfl, fun n hn => loopW_ok (p := p23_12) (id := 4) Y23 (lam_le lam_nil n hn) hn r23_12_run⟩
noncomputable def c23_6 : Code := loopOf (loopOf (bodyOf Try.f23) 0) 2
def p23_6 : LS := ⟨0, [1, 3, 4, 5, 6, 19, 20, 35, 36], ⟨[vB, .one (.one (.ptr 0 0 0)), vB, .one (.one (.sl 1)), .one (.one (.sl 2)), vI, .one (.one (.slw 1))] ++ vBs 12 ++ [vI, vI] ++ vBs 14 ++ [vI, vI] ++ vBs 45, [.box [.int .i64, .int .i64, .imm 5], .arr 3, .arr 3]⟩, [⟨.exit 2, [1, 3, 4, 19, 20], ⟨[vB, .one (.one (.ptr 0 0 0)), vB, .one (.one (.sl 1)), .one (.one (.sl 2))] ++ vBs 14 ++ [vI, vI] ++ vBs 61, [.box [.int .i64, .int .i64, .imm 5], .arr 3, .arr 3]⟩, []⟩], []⟩
noncomputable def r23_6 (x : Nat × Nat × Int × Nat × Nat × Int × Int × Int × Int × Int × Int × List Int × List Int × List Int × Unit) : Option
  (Nat × Nat × Int × Nat × Nat × Int × Int × Int × Int × Int × Int × List Int × List Int × List Int × Unit ⊕
    Nat × Nat × Int × Int × Int × Int × List Int × List Int × List Int × Unit) :=
  bif decide (x.snd.snd.snd.snd.snd.snd.snd.snd.fst < x.snd.snd.snd.snd.snd.snd.snd.fst) then
  (l23_12
        (x.fst, x.snd.fst, x.snd.snd.fst, x.snd.snd.snd.fst, x.snd.snd.snd.snd.fst, x.snd.snd.snd.snd.snd.snd.snd.snd.fst,
          IntKind.i64.wrap
            ((bif
                  decide
                    (IntKind.i64.wrap (x.snd.snd.snd.snd.snd.snd.snd.snd.snd.fst - x.snd.snd.snd.snd.snd.snd.snd.snd.fst) <
                      IntKind.i64.wrap (x.snd.snd.snd.snd.snd.snd.snd.snd.fst + (1 : Int))) then
                IntKind.i64.wrap (x.snd.snd.snd.snd.snd.snd.snd.snd.snd.fst - x.snd.snd.snd.snd.snd.snd.snd.snd.fst)
              else IntKind.i64.wrap (x.snd.snd.snd.snd.snd.snd.snd.snd.fst + (1 : Int))) *
              bif
                  decide
                    (IntKind.i64.wrap (x.snd.snd.snd.snd.snd.snd.snd.snd.snd.fst - x.snd.snd.snd.snd.snd.snd.snd.snd.fst) <
                      IntKind.i64.wrap (x.snd.snd.snd.snd.snd.snd.snd.snd.fst + (1 : Int))) then
                IntKind.i64.wrap (x.snd.snd.snd.snd.snd.snd.snd.snd.snd.fst - x.snd.snd.snd.snd.snd.snd.snd.snd.fst)
              else IntKind.i64.wrap (x.snd.snd.snd.snd.snd.snd.snd.snd.fst + (1 : Int))),
          x.snd.snd.snd.snd.snd.fst, x.snd.snd.snd.snd.snd.snd.fst, x.snd.snd.snd.snd.snd.snd.snd.fst,
          x.snd.snd.snd.snd.snd.snd.snd.snd.fst, x.snd.snd.snd.fst, x.snd.snd.snd.snd.fst, (↑x.snd.snd.snd.snd.fst : Int), (0 : Int),
          x.snd.snd.snd.snd.snd.snd.snd.snd.snd.fst, x.snd.snd.snd.snd.snd.snd.snd.snd.snd.snd.fst,
          x.snd.snd.snd.snd.snd.snd.snd.snd.snd.snd.snd.fst, x.snd.snd.snd.snd.snd.snd.snd.snd.snd.snd.snd.snd.fst,
          x.snd.snd.snd.snd.snd.snd.snd.snd.snd.snd.snd.snd.snd.fst, ())).bind
    fun y94 =>
    bif
        decide
            ((0 : Int) ≤
              IntKind.i64.wrap
                (IntKind.i64.wrap (y94.snd.snd.fst * y94.snd.snd.snd.snd.snd.snd.snd.snd.snd.snd.snd.fst) + y94.snd.snd.snd.snd.snd.fst)) &&
          decide
            (IntKind.i64.wrap
                (IntKind.i64.wrap (y94.snd.snd.fst * y94.snd.snd.snd.snd.snd.snd.snd.snd.snd.snd.snd.fst) + y94.snd.snd.snd.snd.snd.fst) <
              (↑y94.snd.fst : Int)) then
      y94.snd.snd.snd.snd.snd.snd.snd.snd.snd.snd.snd.snd.snd.snd.snd.fst[(0 : Nat) +
              (IntKind.i64.wrap
                  (IntKind.i64.wrap (y94.snd.snd.fst * y94.snd.snd.snd.snd.snd.snd.snd.snd.snd.snd.snd.fst) +
                    y94.snd.snd.snd.snd.snd.fst)).toNat]?.bind
        fun _x =>
        some
          (Sum.inl
            (y94.fst, y94.snd.fst, y94.snd.snd.fst, y94.snd.snd.snd.fst, y94.snd.snd.snd.snd.fst, y94.snd.snd.snd.snd.snd.snd.snd.fst,
              y94.snd.snd.snd.snd.snd.snd.snd.snd.fst, y94.snd.snd.snd.snd.snd.snd.snd.snd.snd.fst,
              IntKind.i64.wrap (y94.snd.snd.snd.snd.snd.snd.snd.snd.snd.snd.fst + (1 : Int)),
              y94.snd.snd.snd.snd.snd.snd.snd.snd.snd.snd.snd.fst, y94.snd.snd.snd.snd.snd.snd.snd.snd.snd.snd.snd.snd.fst,
              y94.snd.snd.snd.snd.snd.snd.snd.snd.snd.snd.snd.snd.snd.fst, y94.snd.snd.snd.snd.snd.snd.snd.snd.snd.snd.snd.snd.snd.snd.fst,
              y94.snd.snd.snd.snd.snd.snd.snd.snd.snd.snd.snd.snd.snd.snd.snd.fst.set
                ((0 : Nat) +
                  (IntKind.i64.wrap
                      (IntKind.i64.wrap (y94.snd.snd.fst * y94.snd.snd.snd.snd.snd.snd.snd.snd.snd.snd.snd.fst) +
                        y94.snd.snd.snd.snd.snd.fst)).toNat)
                y94.snd.snd.snd.snd.snd.snd.fst,
              ()))
    else none
else
  some
    (Sum.inr
      (x.fst, x.snd.fst, x.snd.snd.snd.snd.snd.fst, x.snd.snd.snd.snd.snd.snd.fst, x.snd.snd.snd.snd.snd.snd.snd.snd.snd.fst,
        x.snd.snd.snd.snd.snd.snd.snd.snd.snd.snd.fst, x.snd.snd.snd.snd.snd.snd.snd.snd.snd.snd.snd.fst,
        x.snd.snd.snd.snd.snd.snd.snd.snd.snd.snd.snd.snd.fst, x.snd.snd.snd.snd.snd.snd.snd.snd.snd.snd.snd.snd.snd.fst, ()))
theorem r23_6_run0 (v0 : Nat) (v1 : Nat) (v2 : Int) (v3 : Nat) (v4 : Nat) (v5 : Int) (v6 : Int) (v7 : Int) (v8 : Int) (v9 : Int) (v10 : Int) (v11 : List Int) (v12 : List Int) (v13 : List Int) : roundK tC G23 (look [(12, W23_12)]) c23_6 p23_6 (v0, v1, v2, v3, v4, v5, v6, v7, v8, v9, v10, v11, v12, v13, ()) = r23_6 (v0, v1, v2, v3, v4, v5, v6, v7, v8, v9, v10, v11, v12, v13, ()) := by kernel_rfl
theorem r23_6_run (x : Nat × Nat × Int × Nat × Nat × Int × Int × Int × Int × Int × Int × List Int × List Int × List Int × Unit) : roundK tC G23 (look [(12, W23_12)]) c23_6 p23_6 x = r23_6 x := r23_6_run0 x.1 x.2.1 x.2.2.1 x.2.2.2.1 x.2.2.2.2.1 x.2.2.2.2.2.1 x.2.2.2.2.2.2.1 x.2.2.2.2.2.2.2.1 x.2.2.2.2.2.2.2.2.1 x.2.2.2.2.2.2.2.2.2.1 x.2.2.2.2.2.2.2.2.2.2.1 x.2.2.2.2.2.2.2.2.2.2.2.1 x.2.2.2.2.2.2.2.2.2.2.2.2.1 x.2.2.2.2.2.2.2.2.2.2.2.2.2.1
noncomputable def l23_6 (x : Nat × Nat × Int × Nat × Nat × Int × Int × Int × Int × Int × Int × List Int × List Int × List Int × Unit) : Option (Nat × Nat × Int × Int × Int × Int × List Int × List Int × List Int × Unit) := iterO r23_6 x
noncomputable def W23_6 : LF tC := loopW tC p23_6 2 l23_6
theorem W23_6_ok : keyed 6 (loopOf (bodyOf Try.f23) 0) = [.block 2 (.loop c23_6)] ∧ ∀ n, n ≤ 0 → Snd tC n (.block 2 (.loop c23_6)) W23_6.k := ⟨by kernel_rfl, fun n hn => loopW_ok (p := p23_6) (id := 2) Y23 (lam_le (lam_cons W23_12_ok lam_nil) n hn) hn r23_6_run⟩
noncomputable def c23_0 : Code := loopOf (bodyOf Try.f23) 0
def p23_0 : LS := ⟨0, [1, 3, 4, 19, 20], ⟨[vB, .one (.one (.ptr 0 0 0)), vB, .one (.one (.sl 1)), .one (.one (.sl 2))] ++ vBs 14 ++ [vI, vI] ++ vBs 61, [.box [.int .i64, .int .i64, .imm 5], .arr 3, .arr 3]⟩, [⟨.exit 0, [4], ⟨vBs 4 ++ [.one (.one (.sl 0))] ++ vBs 77, [.arr 3]⟩, []⟩], []⟩
noncomputable def r23_0 (x : Nat × Nat × Int × Int × Int × Int × List Int × List Int × List Int × Unit) : Option (Nat × Nat × Int × Int × Int × Int × List Int × List Int × List Int × Unit ⊕ Nat × List Int × Unit) :=
  bif decide (x.snd.snd.snd.fst < x.snd.snd.fst) then
  bif
      decide ((0 : Int) ≤ IntKind.i64.wrap (x.snd.snd.snd.fst * x.snd.snd.snd.snd.fst)) &&
            decide
              (IntKind.i64.wrap (x.snd.snd.snd.fst * x.snd.snd.snd.snd.fst) ≤
                IntKind.i64.wrap (IntKind.i64.wrap (x.snd.snd.snd.fst + (1 : Int)) * x.snd.snd.snd.snd.fst)) &&
          decide (IntKind.i64.wrap (IntKind.i64.wrap (x.snd.snd.snd.fst + (1 : Int)) * x.snd.snd.snd.snd.fst) ≤ (↑x.fst : Int)) &&
        decide ((↑x.fst : Int) ≤ (↑x.fst : Int)) then
    (l23_6
          (x.fst, x.snd.fst, x.snd.snd.snd.fst, (0 : Nat) + (IntKind.i64.wrap (x.snd.snd.snd.fst * x.snd.snd.snd.snd.fst)).toNat,
            (IntKind.i64.wrap (IntKind.i64.wrap (x.snd.snd.snd.fst + (1 : Int)) * x.snd.snd.snd.snd.fst)).toNat -
              (IntKind.i64.wrap (x.snd.snd.snd.fst * x.snd.snd.snd.snd.fst)).toNat,
            x.snd.snd.fst, x.snd.snd.snd.fst, x.snd.snd.snd.snd.fst, (0 : Int), x.snd.snd.snd.snd.fst, x.snd.snd.snd.snd.snd.fst,
            x.snd.snd.snd.snd.snd.snd.fst, x.snd.snd.snd.snd.snd.snd.snd.fst, x.snd.snd.snd.snd.snd.snd.snd.snd.fst, ())).bind
      fun y106 =>
      some
        (Sum.inl
          (y106.fst, y106.snd.fst, y106.snd.snd.fst, IntKind.i64.wrap (y106.snd.snd.snd.fst + (1 : Int)), y106.snd.snd.snd.snd.fst,
            y106.snd.snd.snd.snd.snd.fst, y106.snd.snd.snd.snd.snd.snd.fst, y106.snd.snd.snd.snd.snd.snd.snd.fst,
            y106.snd.snd.snd.snd.snd.snd.snd.snd.fst, ()))
  else none
else some (Sum.inr (x.snd.fst, x.snd.snd.snd.snd.snd.snd.snd.snd.fst, ()))
theorem r23_0_run0 (v0 : Nat) (v1 : Nat) (v2 : Int) (v3 : Int) (v4 : Int) (v5 : Int) (v6 : List Int) (v7 : List Int) (v8 : List Int) : roundK tC G23 (look [(6, W23_6)]) c23_0 p23_0 (v0, v1, v2, v3, v4, v5, v6, v7, v8, ()) = r23_0 (v0, v1, v2, v3, v4, v5, v6, v7, v8, ()) := by kernel_rfl
theorem r23_0_run (x : Nat × Nat × Int × Int × Int × Int × List Int × List Int × List Int × Unit) : roundK tC G23 (look [(6, W23_6)]) c23_0 p23_0 x = r23_0 x := r23_0_run0 x.1 x.2.1 x.2.2.1 x.2.2.2.1 x.2.2.2.2.1 x.2.2.2.2.2.1 x.2.2.2.2.2.2.1 x.2.2.2.2.2.2.2.1 x.2.2.2.2.2.2.2.2.1
noncomputable def l23_0 (x : Nat × Nat × Int × Int × Int × Int × List Int × List Int × List Int × Unit) : Option (Nat × List Int × Unit) := iterO r23_0 x
noncomputable def W23_0 : LF tC := loopW tC p23_0 0 l23_0
theorem W23_0_ok : keyed 0 (bodyOf Try.f23) = [.block 0 (.loop c23_0)] ∧ ∀ n, n ≤ 0 → Snd tC n (.block 0 (.loop c23_0)) W23_0.k := ⟨by kernel_rfl, fun n hn => loopW_ok (p := p23_0) (id := 0) Y23 (lam_le (lam_cons W23_6_ok lam_nil) n hn) hn r23_0_run⟩
def S23 : FS := ⟨[[.v, .v, .s 5]], [⟨[.one (.agg [.int .i64, .int .i64, .imm 5])], []⟩], [⟨[.one (.one (.sl 0))], [.arr 3]⟩], [[.v]], [(2, 3)]⟩
noncomputable def f23 (x : Int × Int × List Int × Unit) : Option (Nat × List Int × Unit) :=
  (f43 (x.fst, x.snd.fst, x.snd.snd.fst, ())).bind fun y112 =>
  bif
      true && decide ((↑x.snd.snd.fst.length : Int) ≤ (↑x.snd.snd.fst.length : Int)) &&
          decide ((↑x.snd.snd.fst.length : Int) * (8 : Int) ≤ (140737488355328 : Int)) &&
        decide ((↑x.snd.snd.fst.length : Int) ≤ (140737488355328 : Int)) then
    (l23_0
          (y112.fst, (↑x.snd.snd.fst.length : Int).toNat, x.snd.fst, (0 : Int), x.fst, x.snd.fst, x.snd.snd.fst, y112.snd.fst,
            List.replicate (↑x.snd.snd.fst.length : Int).toNat (0 : Int), ())).bind
      fun y111 => some (y111.fst, y111.snd.fst, ())
  else none
noncomputable def F23 : CF tC := mkF tC S23 f23
theorem f23_run : ∀ a, fnS tC G23 (look [(0, W23_0)]) Try.f23 S23 a = f23 a := fun a => by kernel_rfl
theorem F23_ok : CFOK tC 23 F23 := mkF_ok Y23 (fn := Try.f23) (body := bodyOf Try.f23) (by kernel_rfl) (by kernel_rfl) (by kernel_rfl) (m := 0) rfl (lam_le (lam_cons W23_0_ok lam_nil)) f23_run

/-! Squares -/
noncomputable def G8 : FuncId → Option (CF tC) := look [(22, F22), (23, F23)]
theorem Y8 : SysN tC G8 := (sys_cons F22_ok (mkF_nat _ _) (sys_cons F23_ok (mkF_nat _ _) (sys_nil tC_ok tC_eq)))
def S8 : FS := ⟨[[.v, .v, .s 5]], [⟨[.one (.agg [.int .i64, .int .i64, .imm 5])], []⟩], [⟨[.tup [.one (.sl 0), .one (.int .i64)]], [.arr 3]⟩], [[.v], [.v]], [(2, 3)]⟩
noncomputable def f8 (x : Int × Int × List Int × Unit) : Option (Nat × Int × List Int × Unit) :=
  (f22 (x.fst, x.snd.fst, x.snd.snd.fst, ())).bind fun y11 =>
  bif !y11.fst then some ((0 : Nat), (1 : Int), [], ())
  else (f23 (x.fst, x.snd.fst, x.snd.snd.fst, ())).bind fun y10 => some (y10.fst, (0 : Int), y10.snd.fst, ())
noncomputable def F8 : CF tC := mkF tC S8 f8
theorem f8_run : ∀ a, fnS tC G8 (look []) Try.f8 S8 a = f8 a := fun a => by kernel_rfl
theorem F8_ok : CFOK tC 8 F8 := mkF_ok Y8 (fn := Try.f8) (body := bodyOf Try.f8) (by kernel_rfl) (by kernel_rfl) (by kernel_rfl) (m := 0) rfl (lam_le lam_nil) f8_run

/-! Inflate -/
noncomputable def G6 : FuncId → Option (CF tC) := look [(22, F22), (23, F23)]
theorem Y6 : SysN tC G6 := (sys_cons F22_ok (mkF_nat _ _) (sys_cons F23_ok (mkF_nat _ _) (sys_nil tC_ok tC_eq)))
noncomputable def c6_37 : Code := subCode (loopOf (bodyOf Try.f6) 0) 37
def p6_37 : PS := ⟨0, [1, 4, 6, 30, 31, 32], ⟨[vB, vI, vB, vB, .one (.one (.ptr 0 0 0)), vB, .one (.one (.ptr 1 0 0))] ++ vBs 23 ++ [.one (.one (.sl 2)), vI, vI] ++ vBs 17, [.box [.int .i64, .int .i64, .nils], .box [.int .i64, .int .i64, .sl 3], .arr 3, .arr 5]⟩, [⟨.normal, [1, 4, 6, 30, 31, 32], ⟨[vB, vI, vB, vB, .one (.one (.ptr 0 0 0)), vB, .one (.one (.ptr 1 0 0))] ++ vBs 23 ++ [.one (.one (.sl 2)), vI, vI] ++ vBs 17, [.box [.int .i64, .int .i64, .nils], .box [.int .i64, .int .i64, .sl 3], .arr 3, .arr 5]⟩, []⟩], []⟩
noncomputable def j6_37 (x : Int × Nat × Int × Int × Int × Int × Int × Int × Nat × List Int × List Int × Unit) : Option (Int × Nat × Int × Int × Int × Int × Int × Int × Nat × List Int × List Int × Unit) :=
  some
  (x.fst, x.snd.fst, x.snd.snd.fst, IntKind.i64.wrap (x.snd.snd.snd.fst + (1 : Int)), x.snd.snd.snd.snd.fst, x.snd.snd.snd.snd.snd.fst,
    x.snd.snd.snd.snd.snd.snd.fst, x.snd.snd.snd.snd.snd.snd.snd.fst, x.snd.snd.snd.snd.snd.snd.snd.snd.fst,
    x.snd.snd.snd.snd.snd.snd.snd.snd.snd.fst, x.snd.snd.snd.snd.snd.snd.snd.snd.snd.snd.fst, ())
theorem j6_37_run0 (v0 : Int) (v1 : Nat) (v2 : Int) (v3 : Int) (v4 : Int) (v5 : Int) (v6 : Int) (v7 : Int) (v8 : Nat) (v9 : List Int) (v10 : List Int) : pieceK tC G6 (look []) c6_37 p6_37 (v0, v1, v2, v3, v4, v5, v6, v7, v8, v9, v10, ()) = j6_37 (v0, v1, v2, v3, v4, v5, v6, v7, v8, v9, v10, ()) := by kernel_rfl
theorem j6_37_run (x : Int × Nat × Int × Int × Int × Int × Int × Int × Nat × List Int × List Int × Unit) : pieceK tC G6 (look []) c6_37 p6_37 x = j6_37 x := j6_37_run0 x.1 x.2.1 x.2.2.1 x.2.2.2.1 x.2.2.2.2.1 x.2.2.2.2.2.1 x.2.2.2.2.2.2.1 x.2.2.2.2.2.2.2.1 x.2.2.2.2.2.2.2.2.1 x.2.2.2.2.2.2.2.2.2.1 x.2.2.2.2.2.2.2.2.2.2.1
noncomputable def W6_37 : LF tC := cutLF tC p6_37 j6_37
theorem W6_37_ok : keyed 37 (loopOf (bodyOf Try.f6) 0) = [c6_37] ∧ ∀ n, n ≤ 0 → Snd tC n c6_37 W6_37.k := ⟨by kernel_rfl, fun n hn => cut_ok (p := p6_37) Y6 (lam_le lam_nil n hn) hn j6_37_run⟩
noncomputable def c6_0 : Code := loopOf (bodyOf Try.f6) 0
def p6_0 : LS := ⟨0, [1, 4, 6, 30, 31, 32], ⟨[vB, vI, vB, vB, .one (.one (.ptr 0 0 0)), vB, .one (.one (.ptr 1 0 0))] ++ vBs 23 ++ [.one (.one (.sl 2)), vI, vI] ++ vBs 17, [.box [.int .i64, .int .i64, .nils], .box [.int .i64, .int .i64, .sl 3], .arr 3, .arr 5]⟩, [⟨.exit 0, [4, 6], ⟨vBs 4 ++ [.one (.one (.ptr 0 0 0)), vB, .one (.one (.ptr 1 0 0))] ++ vBs 43, [.box [.int .i64, .int .i64, .nils], .box [.int .i64, .int .i64, .sl 2], .arr 5]⟩, []⟩], []⟩
noncomputable def r6_0 (x : Int × Nat × Int × Int × Int × Int × Int × Int × Nat × List Int × List Int × Unit) : Option (Int × Nat × Int × Int × Int × Int × Int × Int × Nat × List Int × List Int × Unit ⊕ Int × Int × Int × Int × Nat × List Int × Unit) :=
  bif decide (x.snd.snd.snd.fst < x.snd.snd.fst) then
  bif decide ((0 : Int) ≤ x.snd.snd.snd.fst) && decide (x.snd.snd.snd.fst < (↑x.snd.fst : Int)) then
    x.snd.snd.snd.snd.snd.snd.snd.snd.snd.fst[(0 : Nat) + x.snd.snd.snd.fst.toNat]?.bind fun y76 =>
      bif decide ((0 : Int) ≤ x.snd.snd.snd.fst) && decide (x.snd.snd.snd.fst < (↑x.snd.snd.snd.snd.snd.snd.snd.snd.fst : Int)) then
        x.snd.snd.snd.snd.snd.snd.snd.snd.snd.snd.fst[(0 : Nat) + x.snd.snd.snd.fst.toNat]?.bind fun _x =>
          bif decide (y76 > x.fst) then
            bif decide ((0 : Int) ≤ x.snd.snd.snd.fst) && decide (x.snd.snd.snd.fst < (↑x.snd.snd.snd.snd.snd.snd.snd.snd.fst : Int)) then
              (x.snd.snd.snd.snd.snd.snd.snd.snd.snd.snd.fst.set ((0 : Nat) + x.snd.snd.snd.fst.toNat)
                      (2 : Int))[(0 : Nat) + x.snd.snd.snd.fst.toNat]?.bind
                fun _x =>
                (j6_37
                      (x.fst, x.snd.fst, x.snd.snd.fst, x.snd.snd.snd.fst, x.snd.snd.snd.snd.fst, x.snd.snd.snd.snd.snd.fst,
                        x.snd.snd.snd.snd.snd.snd.fst, x.snd.snd.snd.snd.snd.snd.snd.fst, x.snd.snd.snd.snd.snd.snd.snd.snd.fst,
                        x.snd.snd.snd.snd.snd.snd.snd.snd.snd.fst,
                        (x.snd.snd.snd.snd.snd.snd.snd.snd.snd.snd.fst.set ((0 : Nat) + x.snd.snd.snd.fst.toNat) (2 : Int)).set
                          ((0 : Nat) + x.snd.snd.snd.fst.toNat) (1 : Int),
                        ())).bind
                  fun y72 =>
                  some
                    (Sum.inl
                      (y72.fst, y72.snd.fst, y72.snd.snd.fst, y72.snd.snd.snd.fst, y72.snd.snd.snd.snd.fst, y72.snd.snd.snd.snd.snd.fst,
                        y72.snd.snd.snd.snd.snd.snd.fst, y72.snd.snd.snd.snd.snd.snd.snd.fst, y72.snd.snd.snd.snd.snd.snd.snd.snd.fst,
                        y72.snd.snd.snd.snd.snd.snd.snd.snd.snd.fst, y72.snd.snd.snd.snd.snd.snd.snd.snd.snd.snd.fst, ()))
            else none
          else
            (j6_37
                  (x.fst, x.snd.fst, x.snd.snd.fst, x.snd.snd.snd.fst, x.snd.snd.snd.snd.fst, x.snd.snd.snd.snd.snd.fst,
                    x.snd.snd.snd.snd.snd.snd.fst, x.snd.snd.snd.snd.snd.snd.snd.fst, x.snd.snd.snd.snd.snd.snd.snd.snd.fst,
                    x.snd.snd.snd.snd.snd.snd.snd.snd.snd.fst,
                    x.snd.snd.snd.snd.snd.snd.snd.snd.snd.snd.fst.set ((0 : Nat) + x.snd.snd.snd.fst.toNat) (2 : Int), ())).bind
              fun y74 =>
              some
                (Sum.inl
                  (y74.fst, y74.snd.fst, y74.snd.snd.fst, y74.snd.snd.snd.fst, y74.snd.snd.snd.snd.fst, y74.snd.snd.snd.snd.snd.fst,
                    y74.snd.snd.snd.snd.snd.snd.fst, y74.snd.snd.snd.snd.snd.snd.snd.fst, y74.snd.snd.snd.snd.snd.snd.snd.snd.fst,
                    y74.snd.snd.snd.snd.snd.snd.snd.snd.snd.fst, y74.snd.snd.snd.snd.snd.snd.snd.snd.snd.snd.fst, ()))
      else none
  else none
else
  some
    (Sum.inr
      (x.snd.snd.snd.snd.fst, x.snd.snd.snd.snd.snd.fst, x.snd.snd.snd.snd.snd.snd.fst, x.snd.snd.snd.snd.snd.snd.snd.fst,
        x.snd.snd.snd.snd.snd.snd.snd.snd.fst, x.snd.snd.snd.snd.snd.snd.snd.snd.snd.snd.fst, ()))
theorem r6_0_run0 (v0 : Int) (v1 : Nat) (v2 : Int) (v3 : Int) (v4 : Int) (v5 : Int) (v6 : Int) (v7 : Int) (v8 : Nat) (v9 : List Int) (v10 : List Int) : roundK tC G6 (look [(37, W6_37)]) c6_0 p6_0 (v0, v1, v2, v3, v4, v5, v6, v7, v8, v9, v10, ()) = r6_0 (v0, v1, v2, v3, v4, v5, v6, v7, v8, v9, v10, ()) := by kernel_rfl
theorem r6_0_run (x : Int × Nat × Int × Int × Int × Int × Int × Int × Nat × List Int × List Int × Unit) : roundK tC G6 (look [(37, W6_37)]) c6_0 p6_0 x = r6_0 x := r6_0_run0 x.1 x.2.1 x.2.2.1 x.2.2.2.1 x.2.2.2.2.1 x.2.2.2.2.2.1 x.2.2.2.2.2.2.1 x.2.2.2.2.2.2.2.1 x.2.2.2.2.2.2.2.2.1 x.2.2.2.2.2.2.2.2.2.1 x.2.2.2.2.2.2.2.2.2.2.1
noncomputable def l6_0 (x : Int × Nat × Int × Int × Int × Int × Int × Int × Nat × List Int × List Int × Unit) : Option (Int × Int × Int × Int × Nat × List Int × Unit) := iterO r6_0 x
noncomputable def W6_0 : LF tC := loopW tC p6_0 0 l6_0
theorem W6_0_ok : keyed 0 (bodyOf Try.f6) = [.block 0 (.loop c6_0)] ∧ ∀ n, n ≤ 0 → Snd tC n (.block 0 (.loop c6_0)) W6_0.k := ⟨by kernel_rfl, fun n hn => loopW_ok (p := p6_0) (id := 0) Y6 (lam_le (lam_cons W6_37_ok lam_nil) n hn) hn r6_0_run⟩
def S6 : FS := ⟨[[.v, .v, .s 5], [.v]], [⟨[.one (.agg [.int .i64, .int .i64, .imm 5]), vI], []⟩], [⟨[.tup [.agg [.int .i64, .int .i64, .nils], .one (.int .i64)]], []⟩, ⟨[.tup [.agg [.int .i64, .int .i64, .sl 0], .one (.int .i64)]], [.arr 5]⟩], [[.v, .v, .v], [.v]], []⟩
noncomputable def f6 (x : Int × Int × List Int × Int × Unit) : Option (Int × Int × Int × Unit ⊕ Int × Int × Nat × Int × List Int × Unit) :=
  (f22 (x.fst, x.snd.fst, x.snd.snd.fst, ())).bind fun y93 =>
  bif !y93.fst then some (Sum.inl ((0 : Int), (0 : Int), (1 : Int), ()))
  else
    bif decide (x.snd.snd.snd.fst < (0 : Int)) then some (Sum.inl ((0 : Int), (0 : Int), (2 : Int), ()))
    else
      bif decide (x.snd.snd.snd.fst > (8192 : Int)) then some (Sum.inl ((0 : Int), (0 : Int), (2 : Int), ()))
      else
        bif
            true && decide ((↑x.snd.snd.fst.length : Int) ≤ (↑x.snd.snd.fst.length : Int)) &&
                decide ((↑x.snd.snd.fst.length : Int) * (1 : Int) ≤ (140737488355328 : Int)) &&
              decide ((↑x.snd.snd.fst.length : Int) ≤ (140737488355328 : Int)) then
          (f23 (x.fst, x.snd.fst, x.snd.snd.fst, ())).bind fun y92 =>
            (l6_0
                  (x.snd.snd.snd.fst, y92.fst, (↑y92.fst : Int), (0 : Int), (0 : Int), (0 : Int), x.fst, x.snd.fst,
                    (↑x.snd.snd.fst.length : Int).toNat, y92.snd.fst, List.replicate (↑x.snd.snd.fst.length : Int).toNat (0 : Int),
                    ())).bind
              fun y91 =>
              some (Sum.inr (y91.snd.snd.fst, y91.snd.snd.snd.fst, y91.snd.snd.snd.snd.fst, (0 : Int), y91.snd.snd.snd.snd.snd.fst, ()))
        else none
noncomputable def F6 : CF tC := mkF tC S6 f6
theorem f6_run : ∀ a, fnS tC G6 (look [(0, W6_0)]) Try.f6 S6 a = f6 a := fun a => by kernel_rfl
theorem F6_ok : CFOK tC 6 F6 := mkF_ok Y6 (fn := Try.f6) (body := bodyOf Try.f6) (by kernel_rfl) (by kernel_rfl) (by kernel_rfl) (m := 0) rfl (lam_le (lam_cons W6_0_ok lam_nil)) f6_run

/-! base.Mod -/
noncomputable def G5 : FuncId → Option (CF tC) := look []
theorem Y5 : SysN tC G5 := (sys_nil tC_ok tC_eq)
noncomputable def c5_13 : Code := subCode (bodyOf Try.f5) 13
def p5_13 : PS := ⟨0, [5], ⟨vBs 5 ++ [vI] ++ vBs 9, []⟩, [⟨.ret, [4], ⟨vBs 4 ++ [vI] ++ vBs 10, []⟩, []⟩], []⟩
noncomputable def j5_13 (x : Int × Unit) : Option (Int × Unit) :=
  some (x.fst, ())
theorem j5_13_run0 (v0 : Int) : pieceK tC G5 (look []) c5_13 p5_13 (v0, ()) = j5_13 (v0, ()) := by kernel_rfl
theorem j5_13_run (x : Int × Unit) : pieceK tC G5 (look []) c5_13 p5_13 x = j5_13 x := j5_13_run0 x.1
noncomputable def W5_13 : LF tC := cutLF tC p5_13 j5_13
theorem W5_13_ok : keyed 13 (bodyOf Try.f5) = [c5_13] ∧ ∀ n, n ≤ 0 → Snd tC n c5_13 W5_13.k := ⟨by kernel_rfl, fun n hn => cut_ok (p := p5_13) Y5 (lam_le lam_nil n hn) hn j5_13_run⟩
def S5 : FS := ⟨[[.v], [.v]], [⟨[vI, vI], []⟩], [⟨[vI], []⟩], [[.v]], []⟩
noncomputable def f5 (x : Int × Int × Unit) : Option (Int × Unit) :=
  bif x.snd.fst == (0 : Int) then none
else
  bif decide (x.fst.tmod x.snd.fst < (0 : Int)) then
    (j5_13 (IntKind.i64.wrap (x.fst.tmod x.snd.fst + x.snd.fst), ())).bind fun y8 => some (y8.fst, ())
  else (j5_13 (x.fst.tmod x.snd.fst, ())).bind fun y9 => some (y9.fst, ())
noncomputable def F5 : CF tC := mkF tC S5 f5
theorem f5_run : ∀ a, fnS tC G5 (look [(13, W5_13)]) Try.f5 S5 a = f5 a := fun a => by kernel_rfl
theorem F5_ok : CFOK tC 5 F5 := mkF_ok Y5 (fn := Try.f5) (body := bodyOf Try.f5) (by kernel_rfl) (by kernel_rfl) (by kernel_rfl) (m := 0) rfl (lam_le (lam_cons W5_13_ok lam_nil)) f5_run

/-! base.Plan -/
noncomputable def G7 : FuncId → Option (CF tC) := look []
theorem Y7 : SysN tC G7 := (sys_nil tC_ok tC_eq)
noncomputable def c7_0 : Code := loopOf (bodyOf Try.f7) 0
def p7_0 : LS := ⟨0, [1, 3], ⟨[vB, .one (.one (.ptr 0 0 0)), vB, vI] ++ vBs 42, [.box [.int .i64, .int .i64, .imm 5]]⟩, [⟨.ret, [2], ⟨[vB, vB, vO] ++ vBs 43, []⟩, []⟩, ⟨.exit 0, [], ⟨vBs 46, []⟩, []⟩], []⟩
noncomputable def r7_0 (x : Int × Int × Int × List Int × Unit) : Option (Int × Int × Int × List Int × Unit ⊕ Bool × Unit ⊕ Unit) :=
  bif decide (x.fst < (↑x.snd.snd.snd.fst.length : Int)) then
  (idxO x.snd.snd.snd.fst x.fst).bind fun y10 =>
    bif decide (y10 > (2 : Int)) then some (Sum.inr (Sum.inl (false, ())))
    else some (Sum.inl (IntKind.i64.wrap (x.fst + (1 : Int)), x.snd.fst, x.snd.snd.fst, x.snd.snd.snd.fst, ()))
else some (Sum.inr (Sum.inr ()))
theorem r7_0_run0 (v0 : Int) (v1 : Int) (v2 : Int) (v3 : List Int) : roundK tC G7 (look []) c7_0 p7_0 (v0, v1, v2, v3, ()) = r7_0 (v0, v1, v2, v3, ()) := by kernel_rfl
theorem r7_0_run (x : Int × Int × Int × List Int × Unit) : roundK tC G7 (look []) c7_0 p7_0 x = r7_0 x := r7_0_run0 x.1 x.2.1 x.2.2.1 x.2.2.2.1
noncomputable def l7_0 (x : Int × Int × Int × List Int × Unit) : Option (Bool × Unit ⊕ Unit) := iterO r7_0 x
noncomputable def W7_0 : LF tC := loopW tC p7_0 0 l7_0
theorem W7_0_ok : keyed 0 (bodyOf Try.f7) = [.block 0 (.loop c7_0)] ∧ ∀ n, n ≤ 0 → Snd tC n (.block 0 (.loop c7_0)) W7_0.k := ⟨by kernel_rfl, fun n hn => loopW_ok (p := p7_0) (id := 0) Y7 (lam_le lam_nil n hn) hn r7_0_run⟩
def S7 : FS := ⟨[[.v, .v, .s 5]], [⟨[.one (.agg [.int .i64, .int .i64, .imm 5])], []⟩], [⟨[vO], []⟩], [[.v]], []⟩
noncomputable def f7 (x : Int × Int × List Int × Unit) : Option (Bool × Unit) :=
  bif decide (x.fst < (1 : Int)) then some (false, ())
else
  bif decide (x.fst > (64 : Int)) then some (false, ())
  else
    bif decide (x.snd.fst < (1 : Int)) then some (false, ())
    else
      bif decide (x.snd.fst > (64 : Int)) then some (false, ())
      else
        bif (↑x.snd.snd.fst.length : Int) != IntKind.i64.wrap (x.fst * x.snd.fst) then some (false, ())
        else
          (l7_0 ((0 : Int), x.fst, x.snd.fst, x.snd.snd.fst, ())).bind fun y15 =>
            Sum.elim (fun y13 => some (y13.fst, ())) (fun _x => some (true, ())) y15
noncomputable def F7 : CF tC := mkF tC S7 f7
theorem f7_run : ∀ a, fnS tC G7 (look [(0, W7_0)]) Try.f7 S7 a = f7 a := fun a => by kernel_rfl
theorem F7_ok : CFOK tC 7 F7 := mkF_ok Y7 (fn := Try.f7) (body := bodyOf Try.f7) (by kernel_rfl) (by kernel_rfl) (by kernel_rfl) (m := 0) rfl (lam_le (lam_cons W7_0_ok lam_nil)) f7_run

/-! base.Inside -/
noncomputable def G12 : FuncId → Option (CF tC) := look []
theorem Y12 : SysN tC G12 := (sys_nil tC_ok tC_eq)
def S12 : FS := ⟨[[.v, .v, .s 5], [.v, .v]], [⟨[.one (.agg [.int .i64, .int .i64, .imm 5]), .one (.agg [.int .i64, .int .i64])], []⟩], [⟨[vO], []⟩], [[.v]], []⟩
def f12 (n1 : Int) (n2 : Int) (_l3 : List Int) (n4 : Int) (n5 : Int) : Bool :=
  bif decide (n4 ≥ (0 : Int)) then bif decide (n4 < n1) then bif decide (n5 ≥ (0 : Int)) then decide (n5 < n2) else false else false
else false
noncomputable def F12 : CF tC := mkF tC S12 (fun a => some ((f12 a.1 a.2.1 a.2.2.1 a.2.2.2.1 a.2.2.2.2.1), ()))
def h12 (r : Bool) : Option (altTy tE S12.outs) := some (r, ())
theorem f12_run : ∀ a, fnS tC G12 (look []) Try.f12 S12 a = (fun a => some ((f12 a.1 a.2.1 a.2.2.1 a.2.2.2.1 a.2.2.2.2.1), ())) a := fun a => by
  have key : ∀ (n1 : Int) (n2 : Int) (l3 : List Int) (n4 : Int) (n5 : Int), (bif decide (n4 ≥ (0 : Int)) then
  bif decide (n4 < n1) then bif decide (n5 ≥ (0 : Int)) then h12 (decide (n5 < n2)) else h12 false else h12 false
else h12 false) = h12 (f12 n1 n2 l3 n4 n5) := by
    intros
    unfold f12
    repeat' first | rfl | refine cond_h (g := h12) ?_ ?_
  exact Eq.trans (by kernel_rfl) (key a.1 a.2.1 a.2.2.1 a.2.2.2.1 a.2.2.2.2.1)
theorem F12_ok : CFOK tC 12 F12 := mkF_ok Y12 (fn := Try.f12) (body := bodyOf Try.f12) (by kernel_rfl) (by kernel_rfl) (by kernel_rfl) (m := 0) rfl (lam_le lam_nil) f12_run

/-! base.At -/
noncomputable def G11 : FuncId → Option (CF tC) := look [(12, F12)]
theorem Y11 : SysN tC G11 := (sys_cons F12_ok (mkF_nat _ _) (sys_nil tC_ok tC_eq))
def S11 : FS := ⟨[[.v, .v, .s 5], [.v, .v]], [⟨[.one (.agg [.int .i64, .int .i64, .imm 5]), .one (.agg [.int .i64, .int .i64])], []⟩], [⟨[.one (.one (.int .u8))], []⟩], [[.v]], []⟩
noncomputable def f11 (x : Int × Int × List Int × Int × Int × Unit) : Option (Int × Unit) :=
  bif !f12 x.fst x.snd.fst x.snd.snd.fst x.snd.snd.snd.fst x.snd.snd.snd.snd.fst then some ((2 : Int), ())
else
  (idxO x.snd.snd.fst (IntKind.i64.wrap (IntKind.i64.wrap (x.snd.snd.snd.snd.fst * x.fst) + x.snd.snd.snd.fst))).bind fun y8 =>
    some (y8, ())
noncomputable def F11 : CF tC := mkF tC S11 f11
theorem f11_run : ∀ a, fnS tC G11 (look []) Try.f11 S11 a = f11 a := fun a => by kernel_rfl
theorem F11_ok : CFOK tC 11 F11 := mkF_ok Y11 (fn := Try.f11) (body := bodyOf Try.f11) (by kernel_rfl) (by kernel_rfl) (by kernel_rfl) (m := 0) rfl (lam_le lam_nil) f11_run

/-! base.Cells -/
noncomputable def G20 : FuncId → Option (CF tC) := look []
theorem Y20 : SysN tC G20 := (sys_nil tC_ok tC_eq)
noncomputable def c20_0 : Code := loopOf (bodyOf Try.f20) 0
def p20_0 : LS := ⟨0, [0, 1, 5], ⟨[.one (.one (.imm 26)), .one (.one (.imm 26)), vB, vB, vB, vI] ++ vBs 20, []⟩, [⟨.ret, [4], ⟨vBs 4 ++ [vO] ++ vBs 21, []⟩, []⟩, ⟨.exit 0, [], ⟨vBs 26, []⟩, []⟩], []⟩
noncomputable def r20_0 (x : List Pt × List Pt × Int × Unit) : Option (List Pt × List Pt × Int × Unit ⊕ Bool × Unit ⊕ Unit) :=
  bif decide (x.snd.snd.fst < (↑x.fst.length : Int)) then
  (idxO x.fst x.snd.snd.fst).bind fun y10 =>
    (idxO x.snd.fst x.snd.snd.fst).bind fun y9 =>
      bif !bif y10.X == y9.X then bif y10.Y == y9.Y then true else false else false then some (Sum.inr (Sum.inl (false, ())))
      else some (Sum.inl (x.fst, x.snd.fst, IntKind.i64.wrap (x.snd.snd.fst + (1 : Int)), ()))
else some (Sum.inr (Sum.inr ()))
theorem r20_0_run0 (v0 : List Pt) (v1 : List Pt) (v2 : Int) : roundK tC G20 (look []) c20_0 p20_0 (v0, v1, v2, ()) = r20_0 (v0, v1, v2, ()) := by kernel_rfl
theorem r20_0_run (x : List Pt × List Pt × Int × Unit) : roundK tC G20 (look []) c20_0 p20_0 x = r20_0 x := r20_0_run0 x.1 x.2.1 x.2.2.1
noncomputable def l20_0 (x : List Pt × List Pt × Int × Unit) : Option (Bool × Unit ⊕ Unit) := iterO r20_0 x
noncomputable def W20_0 : LF tC := loopW tC p20_0 0 l20_0
theorem W20_0_ok : keyed 0 (bodyOf Try.f20) = [.block 0 (.loop c20_0)] ∧ ∀ n, n ≤ 0 → Snd tC n (.block 0 (.loop c20_0)) W20_0.k := ⟨by kernel_rfl, fun n hn => loopW_ok (p := p20_0) (id := 0) Y20 (lam_le lam_nil n hn) hn r20_0_run⟩
def S20 : FS := ⟨[[.s 26], [.s 26]], [⟨[.one (.one (.imm 26)), .one (.one (.imm 26))], []⟩], [⟨[vO], []⟩], [[.v]], []⟩
noncomputable def f20 (x : List Pt × List Pt × Unit) : Option (Bool × Unit) :=
  bif (↑x.fst.length : Int) != (↑x.snd.fst.length : Int) then some (false, ())
else (l20_0 (x.fst, x.snd.fst, (0 : Int), ())).bind fun y15 => Sum.elim (fun y13 => some (y13.fst, ())) (fun _x => some (true, ())) y15
noncomputable def F20 : CF tC := mkF tC S20 f20
theorem f20_run : ∀ a, fnS tC G20 (look [(0, W20_0)]) Try.f20 S20 a = f20 a := fun a => by kernel_rfl
theorem F20_ok : CFOK tC 20 F20 := mkF_ok Y20 (fn := Try.f20) (body := bodyOf Try.f20) (by kernel_rfl) (by kernel_rfl) (by kernel_rfl) (m := 0) rfl (lam_le (lam_cons W20_0_ok lam_nil)) f20_run

/-! base.Plans -/
noncomputable def G18 : FuncId → Option (CF tC) := look []
theorem Y18 : SysN tC G18 := (sys_nil tC_ok tC_eq)
def S18 : FS := ⟨[[.v, .v, .s 5], [.v, .v, .s 5]], [⟨[.one (.agg [.int .i64, .int .i64, .imm 5]), .one (.agg [.int .i64, .int .i64, .imm 5])], []⟩], [⟨[vO], []⟩], [[.v]], []⟩
def f18 (n1 : Int) (n2 : Int) (l3 : List Int) (n4 : Int) (n5 : Int) (l6 : List Int) : Bool :=
  bif n1 == n4 then bif n2 == n5 then decide (l3 = l6) else false else false
noncomputable def F18 : CF tC := mkF tC S18 (fun a => some ((f18 a.1 a.2.1 a.2.2.1 a.2.2.2.1 a.2.2.2.2.1 a.2.2.2.2.2.1), ()))
def h18 (r : Bool) : Option (altTy tE S18.outs) := some (r, ())
theorem f18_run : ∀ a, fnS tC G18 (look []) Try.f18 S18 a = (fun a => some ((f18 a.1 a.2.1 a.2.2.1 a.2.2.2.1 a.2.2.2.2.1 a.2.2.2.2.2.1), ())) a := fun a => by
  have key : ∀ (n1 : Int) (n2 : Int) (l3 : List Int) (n4 : Int) (n5 : Int) (l6 : List Int), (bif n1 == n4 then bif n2 == n5 then h18 (decide (l3 = l6)) else h18 false else h18 false) = h18 (f18 n1 n2 l3 n4 n5 l6) := by
    intros
    unfold f18
    repeat' first | rfl | refine cond_h (g := h18) ?_ ?_
  exact Eq.trans (by kernel_rfl) (key a.1 a.2.1 a.2.2.1 a.2.2.2.1 a.2.2.2.2.1 a.2.2.2.2.2.1)
theorem F18_ok : CFOK tC 18 F18 := mkF_ok Y18 (fn := Try.f18) (body := bodyOf Try.f18) (by kernel_rfl) (by kernel_rfl) (by kernel_rfl) (m := 0) rfl (lam_le lam_nil) f18_run
end Go.AE
