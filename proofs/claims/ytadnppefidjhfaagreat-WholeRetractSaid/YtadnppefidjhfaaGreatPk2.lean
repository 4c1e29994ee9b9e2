/-
  The plain functions that the seat's Go functions compute, each with the proof that the function keeps it. Printed by the generator (Gen2) and checked by the kernel.
-/
import Derived.Test.YtadnppefidjhfaaGreatF
import Derived.Test.YtadnppefidjhfaaGreatAeU
import Derived.Test.YtadnppefidjhfaaGreatLd
namespace Go.AE
open Go.Proofs Go.RowKit
set_option maxRecDepth 100000

/-! tile.home -/
noncomputable def G50 : FuncId → Option (CF tC) := look []
theorem Y50 : SysN tC G50 := (sys_nil tC_ok tC_eq)
def S50 : FS := ⟨[[.v, .v]], [⟨[.one (.agg [.int .i64, .int .i64])], []⟩], [⟨[.tup [.agg [.int .i64, .int .i64], .one (.int .i64)]], []⟩], [[.v, .v], [.v]], []⟩
def f50 (n1 : Int) (n2 : Int) : Int × Int × Int :=
  (n1.fdiv (16 : Int), n2.fdiv (16 : Int),
  IntKind.i64.wrap
    (IntKind.i64.wrap (IntKind.i64.wrap (IntKind.i64.wrap (n2 - IntKind.i64.wrap ((16 : Int) * n2.fdiv (16 : Int))) * (16 : Int)) + n1) -
      IntKind.i64.wrap ((16 : Int) * n1.fdiv (16 : Int))))
noncomputable def F50 : CF tC := mkF tC S50 (fun a => some ((f50 a.1 a.2.1).1, (f50 a.1 a.2.1).2.1, (f50 a.1 a.2.1).2.2, ()))
def h50 (r : Int × Int × Int) : Option (altTy tE S50.outs) := some (r.1, r.2.1, r.2.2, ())
theorem f50_run : ∀ a, fnS tC G50 (look []) Tryz.f50 S50 a = (fun a => some ((f50 a.1 a.2.1).1, (f50 a.1 a.2.1).2.1, (f50 a.1 a.2.1).2.2, ())) a := fun a => by
  have key : ∀ (n1 : Int) (n2 : Int), (h50
  (n1.fdiv (16 : Int), n2.fdiv (16 : Int),
    IntKind.i64.wrap
      (IntKind.i64.wrap (IntKind.i64.wrap (IntKind.i64.wrap (n2 - IntKind.i64.wrap ((16 : Int) * n2.fdiv (16 : Int))) * (16 : Int)) + n1) -
        IntKind.i64.wrap ((16 : Int) * n1.fdiv (16 : Int))))) = h50 (f50 n1 n2) := by
    intros
    unfold f50
    repeat' first | rfl | refine cond_h (g := h50) ?_ ?_
  exact Eq.trans (by kernel_rfl) (key a.1 a.2.1)
theorem F50_ok : CFOK tC 50 F50 := mkF_ok Y50 (fn := Tryz.f50) (body := bodyOf Tryz.f50) (by kernel_rfl) (by kernel_rfl) (by kernel_rfl) (m := 0) rfl (lam_le lam_nil) f50_run

/-! tile.byRow -/
noncomputable def G52 : FuncId → Option (CF tC) := look [(39, F39), (38, F38)]
theorem Y52 : SysN tC G52 := (sys_cons F39_ok (mkF_nat _ _) (sys_cons F38_ok (mkF_nat _ _) (sys_nil tC_ok tC_eq)))
def S52 : FS := ⟨[[.v, .v], [.v, .v]], [⟨[.one (.agg [.int .i64, .int .i64]), .one (.agg [.int .i64, .int .i64])], []⟩], [⟨[vI], []⟩], [[.v]], []⟩
noncomputable def f52 (x : Int × Int × Int × Int × Unit) : Option (Int × Unit) :=
  (f38 ([f39 x.snd.fst x.snd.snd.snd.fst, f39 x.fst x.snd.snd.fst], ())).bind fun y7 => some (y7.fst, ())
noncomputable def F52 : CF tC := mkF tC S52 f52
theorem f52_run : ∀ a, fnS tC G52 (look []) Tryz.f52 S52 a = f52 a := fun a => by kernel_rfl
theorem F52_ok : CFOK tC 52 F52 := mkF_ok Y52 (fn := Tryz.f52) (body := bodyOf Tryz.f52) (by kernel_rfl) (by kernel_rfl) (by kernel_rfl) (m := 0) rfl (lam_le lam_nil) f52_run
end Go.AE

/-
  tile.Pack at the list of the fixed calls: by the executor, round by round.
-/
namespace Go.AE
open Go.Proofs Go.RowKit
set_option maxRecDepth 100000

theorem all_one {α : Type} {P : α → Prop} {x : α} (h : P x) : ∀ p ∈ [x], P p := fun p hp => by rw [List.mem_singleton.1 hp]; exact h
theorem all_two {α : Type} {P : α → Prop} {x y : α} (h : P x) (h' : P y) : ∀ p ∈ [x, y], P p := fun p hp => by
  rcases List.mem_cons.1 hp with rfl | hp
  · exact h
  · rw [List.mem_singleton.1 hp]; exact h'

/-! wire.Uint at 0 and 2 -/
noncomputable def G53 : FuncId → Option (CF tC) := look []
theorem Y53 : SysN tC G53 := (sys_nil tC_ok tC_eq)
noncomputable def c53 : Code := loopOf (bodyOf Tryz.f53) 0
noncomputable def U53 : LF tC := unrollLF tC G53 (look []) 0 c53 3
theorem U53_ok : keyed 0 (bodyOf Tryz.f53) = [.block 0 (.loop c53)] ∧ ∀ n, n ≤ 0 → Snd tC n (.block 0 (.loop c53)) U53.k := ⟨by kernel_rfl, fun n hn => unroll_ok Y53 (lam_le lam_nil n hn) 3⟩
def S53 : FS := ⟨[[.v]], [⟨[.one (.one (.int .u64))], []⟩], [⟨[.one (.one (.sl 0))], [.arr 5]⟩], [[.v]], []⟩
def f53 : Int × Unit → Option (Nat × List Int × Unit) := atL [((0, ()), (1, [0], ())), ((2, ()), (1, [2], ()))]
noncomputable def F53 : CF tC := mkF tC S53 f53
theorem F53_ok : CFOK tC 53 F53 := mkF_some Y53 (fn := Tryz.f53) (body := bodyOf Tryz.f53) (by kernel_rfl) (by kernel_rfl) (by kernel_rfl) (m := 0) rfl (lam_le (lam_cons U53_ok lam_nil))
  (atL_spec (A := Int × Unit) (F := fun a => fnS tC G53 (look [(0, U53)]) Tryz.f53 S53 a) (all_two (by kernel_rfl) (by kernel_rfl)))

/-! wire.Int at 0 and 1 -/
noncomputable def G54 : FuncId → Option (CF tC) := look [(53, F53)]
theorem Y54 : SysN tC G54 := (sys_cons F53_ok (mkF_nat _ _) (sys_nil tC_ok tC_eq))
def S54 : FS := ⟨[[.v]], [⟨[.one (.one (.int .i64))], []⟩], [⟨[.one (.one (.sl 0))], [.arr 5]⟩], [[.v]], []⟩
def f54 : Int × Unit → Option (Nat × List Int × Unit) := atL [((0, ()), (1, [0], ())), ((1, ()), (1, [2], ()))]
noncomputable def F54 : CF tC := mkF tC S54 f54
theorem F54_ok : CFOK tC 54 F54 := mkF_some Y54 (fn := Tryz.f54) (body := bodyOf Tryz.f54) (by kernel_rfl) (by kernel_rfl) (by kernel_rfl) (m := 0) rfl (lam_le lam_nil)
  (atL_spec (A := Int × Unit) (F := fun a => fnS tC G54 (look []) Tryz.f54 S54 a) (all_two (by kernel_rfl) (by kernel_rfl)))

/-! bits.Len64, bits.Len at 1 -/
noncomputable def G94 : FuncId → Option (CF tC) := look []
theorem Y94 : SysN tC G94 := (sys_nil tC_ok tC_eq)
def S94 : FS := ⟨[[.v]], [⟨[.one (.one (.int .u64))], []⟩], [⟨[vI], []⟩], [[.v]], []⟩
def f94 : Int × Unit → Option (Int × Unit) := atL [((1, ()), (1, ()))]
noncomputable def F94 : CF tC := mkF tC S94 f94
theorem F94_ok : CFOK tC 94 F94 := mkF_some Y94 (fn := Tryz.f94) (body := bodyOf Tryz.f94) (by kernel_rfl) (by kernel_rfl) (by kernel_rfl) (m := 0) rfl (lam_le lam_nil)
  (atL_spec (A := Int × Unit) (F := fun a => fnS tC G94 (look []) Tryz.f94 S94 a) (all_one (by kernel_rfl)))
noncomputable def G72 : FuncId → Option (CF tC) := look [(94, F94)]
theorem Y72 : SysN tC G72 := (sys_cons F94_ok (mkF_nat _ _) (sys_nil tC_ok tC_eq))
noncomputable def F72 : CF tC := mkF tC S94 f94
theorem F72_ok : CFOK tC 72 F72 := mkF_some Y72 (fn := Tryz.f72) (body := bodyOf Tryz.f72) (by kernel_rfl) (by kernel_rfl) (by kernel_rfl) (m := 0) rfl (lam_le lam_nil)
  (atL_spec (A := Int × Unit) (F := fun a => fnS tC G72 (look []) Tryz.f72 S94 a) (all_one (by kernel_rfl)))
end Go.AE

/-
  tile.Pack at the list of the fixed calls: the sort of one cell; pack; Pack.
-/
namespace Go.AE
open Go.Proofs Go.RowKit
set_option maxRecDepth 100000

/-! slices.insertionSortCmpFunc, pdqsortCmpFunc, SortFunc at one cell -/
noncomputable def G85 : FuncId → Option (CF tC) := look []
theorem Y85 : SysN tC G85 := (sys_nil tC_ok tC_eq)
noncomputable def c85 : Code := loopOf (bodyOf Tryz.f85) 0
noncomputable def U85 : LF tC := unrollLF tC G85 (look []) 0 c85 2
theorem U85_ok : keyed 0 (bodyOf Tryz.f85) = [.block 0 (.loop c85)] ∧ ∀ n, n ≤ 1 → Snd tC n (.block 0 (.loop c85)) U85.k := ⟨by kernel_rfl, fun n hn => unroll_ok Y85 (lam_le lam_nil n hn) 2⟩
def S85 : FS := ⟨[[.w 66], [.v], [.v], [.f]], [⟨[.one (.one (.sl 0)), vI, vI, .one (.fn 52 [])], [.arr 66]⟩], [⟨[.tup []], [.arr 66]⟩], [], []⟩
def f85 : Nat × Int × Int × List Pt × Unit → Option (List Pt × Unit) := atL [((1, 0, 1, [⟨0, 0⟩], ()), ([⟨0, 0⟩], ()))]
noncomputable def F85 : CF tC := mkF tC S85 f85
theorem F85_ok : CFOK tC 85 F85 := mkF_some Y85 (fn := Tryz.f85) (body := bodyOf Tryz.f85) (by kernel_rfl) (by kernel_rfl) (by kernel_rfl) (m := 1) rfl (lam_le (lam_cons U85_ok lam_nil))
  (atL_spec (A := Nat × Int × Int × List Pt × Unit) (F := fun a => fnS tC G85 (look [(0, U85)]) Tryz.f85 S85 a) (all_one (by kernel_rfl)))

noncomputable def G71 : FuncId → Option (CF tC) := look [(85, F85)]
theorem Y71 : SysN tC G71 := (sys_cons F85_ok (mkF_nat _ _) (sys_nil tC_ok tC_eq))
noncomputable def c71 : Code := loopOf (bodyOf Tryz.f71) 0
noncomputable def U71 : LF tC := unrollLF tC G71 (look []) 0 c71 2
theorem U71_ok : keyed 0 (bodyOf Tryz.f71) = [.block 0 (.loop c71)] ∧ ∀ n, n ≤ 1 → Snd tC n (.block 0 (.loop c71)) U71.k := ⟨by kernel_rfl, fun n hn => unroll_ok Y71 (lam_le lam_nil n hn) 2⟩
def S71 : FS := ⟨[[.w 66], [.v], [.v], [.v], [.f]], [⟨[.one (.one (.sl 0)), vI, vI, vI, .one (.fn 52 [])], [.arr 66]⟩], [⟨[.tup []], [.arr 66]⟩], [], []⟩
instance d71 : DecidableEq (Nat × Int × Int × Int × List Pt × Unit) := @instDecidableEqProd Nat (Int × Int × Int × List Pt × Unit) inferInstance inferInstance
def f71 : Nat × Int × Int × Int × List Pt × Unit → Option (List Pt × Unit) := atL [((1, 0, 1, 1, [⟨0, 0⟩], ()), ([⟨0, 0⟩], ()))]
noncomputable def F71 : CF tC := mkF tC S71 f71
theorem F71_ok : CFOK tC 71 F71 := mkF_some Y71 (fn := Tryz.f71) (body := bodyOf Tryz.f71) (by kernel_rfl) (by kernel_rfl) (by kernel_rfl) (m := 1) rfl (lam_le (lam_cons U71_ok lam_nil))
  (atL_spec (A := Nat × Int × Int × Int × List Pt × Unit) (F := fun a => fnS tC G71 (look [(0, U71)]) Tryz.f71 S71 a) (all_one (by kernel_rfl)))

noncomputable def G51 : FuncId → Option (CF tC) := look [(72, F72), (71, F71)]
theorem Y51 : SysN tC G51 := (sys_cons F72_ok (mkF_nat _ _) (sys_cons F71_ok (mkF_nat _ _) (sys_nil tC_ok tC_eq)))
def S51 : FS := ⟨[[.w 66], [.f]], [⟨[.one (.one (.sl 0)), .one (.fn 52 [])], [.arr 66]⟩], [⟨[.tup []], [.arr 66]⟩], [], []⟩
def f51 : Nat × List Pt × Unit → Option (List Pt × Unit) := atL [((1, [⟨0, 0⟩], ()), ([⟨0, 0⟩], ()))]
noncomputable def F51 : CF tC := mkF tC S51 f51
theorem F51_ok : CFOK tC 51 F51 := mkF_some Y51 (fn := Tryz.f51) (body := bodyOf Tryz.f51) (by kernel_rfl) (by kernel_rfl) (by kernel_rfl) (m := 1) rfl (lam_le lam_nil)
  (atL_spec (A := Nat × List Pt × Unit) (F := fun a => fnS tC G51 (look []) Tryz.f51 S51 a) (all_one (by kernel_rfl)))

/-! pack -/
noncomputable def G29 : FuncId → Option (CF tC) := look [(50, F50), (51, F51), (53, F53), (54, F54)]
theorem Y29 : SysN tC G29 := (sys_cons F50_ok (mkF_nat _ _) (sys_cons F51_ok (mkF_nat _ _) (sys_cons F53_ok (mkF_nat _ _) (sys_cons F54_ok (mkF_nat _ _) (sys_nil tC_ok tC_eq)))))
noncomputable def c29_0 : Code := loopOf (bodyOf Tryz.f29) 0
noncomputable def c29_2 : Code := loopOf (bodyOf Tryz.f29) 2
noncomputable def c29_4 : Code := loopOf c29_2 4
noncomputable def c29_82 : Code := subCode c29_2 82
noncomputable def U29_0 : LF tC := unrollLF tC G29 (look []) 0 c29_0 5
noncomputable def U29_4 : LF tC := unrollLF tC G29 (look []) 4 c29_4 5
noncomputable def W29_82 : LF tC := freezeLF tC G29 (look []) c29_82 12 2
theorem U29_0_ok : keyed 0 (bodyOf Tryz.f29) = [.block 0 (.loop c29_0)] ∧ ∀ n, n ≤ 0 → Snd tC n (.block 0 (.loop c29_0)) U29_0.k := ⟨by kernel_rfl, fun n hn => unroll_ok Y29 (lam_le lam_nil n hn) 5⟩
theorem U29_4_ok : keyed 12 c29_2 = [.block 4 (.loop c29_4)] ∧ ∀ n, n ≤ 0 → Snd tC n (.block 4 (.loop c29_4)) U29_4.k := ⟨by kernel_rfl, fun n hn => unroll_ok Y29 (lam_le lam_nil n hn) 5⟩
theorem W29_82_ok : keyed 82 c29_2 = [c29_82] ∧ ∀ n, n ≤ 0 → Snd tC n c29_82 W29_82.k := ⟨by kernel_rfl, fun n hn => freeze_ok Y29 (lam_le lam_nil n hn) 12 2⟩
noncomputable def U29_2 : LF tC := unrollLF tC G29 (look [(12, U29_4), (82, W29_82)]) 2 c29_2 3
theorem U29_2_ok : keyed 6 (bodyOf Tryz.f29) = [.block 2 (.loop c29_2)] ∧ ∀ n, n ≤ 0 → Snd tC n (.block 2 (.loop c29_2)) U29_2.k := ⟨by kernel_rfl, fun n hn => unroll_ok Y29 (lam_le (lam_cons U29_4_ok (lam_cons W29_82_ok lam_nil)) n hn) 3⟩
def S29 : FS := ⟨[[.s 68]], [⟨[.one (.one (.imm 68))], []⟩], [⟨[.one (.one (.sl 0))], [.arr 102]⟩], [[.v]], []⟩
def f29 : List En × Unit → Option (Nat × List Tl × Unit) := atL [((awk, ()), (1, [⟨0, 0, [0, 0, 2, 0, 2, 0, 0, 2, 0]⟩], ()))]
noncomputable def F29 : CF tC := mkF tC S29 f29
theorem F29_ok : CFOK tC 29 F29 := mkF_some Y29 (fn := Tryz.f29) (body := bodyOf Tryz.f29) (by kernel_rfl) (by kernel_rfl) (by kernel_rfl) (m := 0) rfl (lam_le (lam_cons U29_0_ok (lam_cons U29_2_ok lam_nil)))
  (atL_spec (A := List En × Unit) (F := fun a => fnS tC G29 (look [(0, U29_0), (6, U29_2)]) Tryz.f29 S29 a) (all_one (by kernel_rfl)))
end Go.AE
