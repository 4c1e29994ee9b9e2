/-
  The plain functions that the seat's Go functions compute, each with the proof that the function keeps it. Printed by the generator (Gen2) and checked by the kernel.
-/
import Derived.Test.YthelgkjfdjnmeaaDoorF
namespace Go.AE
open Go.Proofs Go.RowKit
set_option maxRecDepth 100000

/-! bits.Mul64 -/
noncomputable def G67 : FuncId → Option (CF tC) := look []
theorem Y67 : SysN tC G67 := (sys_nil tC_ok tC_eq)
def S67 : FS := ⟨[[.v], [.v]], [⟨[.one (.one (.int .u64)), .one (.one (.int .u64))], []⟩], [⟨[.tup [.one (.int .u64), .one (.int .u64)]], []⟩], [[.v], [.v]], []⟩
def f67 (n1 : Int) (n2 : Int) : Int × Int :=
  (IntKind.u64.wrap
    (IntKind.u64.wrap
        (IntKind.u64.wrap (n1.fdiv (4294967296 : Int) * n2.fdiv (4294967296 : Int)) +
          (IntKind.u64.wrap
                (IntKind.u64.wrap (n1.fdiv (4294967296 : Int) * bits BinOp.and IntKind.u64 n2 (4294967295 : Int)) +
                  (IntKind.u64.wrap
                        (bits BinOp.and IntKind.u64 n1 (4294967295 : Int) * bits BinOp.and IntKind.u64 n2 (4294967295 : Int))).fdiv
                    (4294967296 : Int))).fdiv
            (4294967296 : Int)) +
      (IntKind.u64.wrap
            (bits BinOp.and IntKind.u64
                (IntKind.u64.wrap
                  (IntKind.u64.wrap (n1.fdiv (4294967296 : Int) * bits BinOp.and IntKind.u64 n2 (4294967295 : Int)) +
                    (IntKind.u64.wrap
                          (bits BinOp.and IntKind.u64 n1 (4294967295 : Int) * bits BinOp.and IntKind.u64 n2 (4294967295 : Int))).fdiv
                      (4294967296 : Int)))
                (4294967295 : Int) +
              IntKind.u64.wrap (bits BinOp.and IntKind.u64 n1 (4294967295 : Int) * n2.fdiv (4294967296 : Int)))).fdiv
        (4294967296 : Int)),
  IntKind.u64.wrap (n1 * n2))
noncomputable def F67 : CF tC := mkF tC S67 (fun a => some ((f67 a.1 a.2.1).1, (f67 a.1 a.2.1).2, ()))
def h67 (r : Int × Int) : Option (altTy tE S67.outs) := some (r.1, r.2, ())
theorem f67_run : ∀ a, fnS tC G67 (look []) Tryd.f67 S67 a = (fun a => some ((f67 a.1 a.2.1).1, (f67 a.1 a.2.1).2, ())) a := fun a => by
  have key : ∀ (n1 : Int) (n2 : Int), (h67
  (IntKind.u64.wrap
      (IntKind.u64.wrap
          (IntKind.u64.wrap (n1.fdiv (4294967296 : Int) * n2.fdiv (4294967296 : Int)) +
            (IntKind.u64.wrap
                  (IntKind.u64.wrap (n1.fdiv (4294967296 : Int) * bits BinOp.and IntKind.u64 n2 (4294967295 : Int)) +
                    (IntKind.u64.wrap
                          (bits BinOp.and IntKind.u64 n1 (4294967295 : Int) * bits BinOp.and IntKind.u64 n2 (4294967295 : Int))).fdiv
                      (4294967296 : Int))).fdiv
              (4294967296 : Int)) +
        (IntKind.u64.wrap
              (bits BinOp.and IntKind.u64
                  (IntKind.u64.wrap
                    (IntKind.u64.wrap (n1.fdiv (4294967296 : Int) * bits BinOp.and IntKind.u64 n2 (4294967295 : Int)) +
                      (IntKind.u64.wrap
                            (bits BinOp.and IntKind.u64 n1 (4294967295 : Int) * bits BinOp.and IntKind.u64 n2 (4294967295 : Int))).fdiv
                        (4294967296 : Int)))
                  (4294967295 : Int) +
                IntKind.u64.wrap (bits BinOp.and IntKind.u64 n1 (4294967295 : Int) * n2.fdiv (4294967296 : Int)))).fdiv
          (4294967296 : Int)),
    IntKind.u64.wrap (n1 * n2))) = h67 (f67 n1 n2) := by
    intros
    unfold f67
    repeat' first | rfl | refine cond_h (g := h67) ?_ ?_
  exact Eq.trans (by kernel_rfl) (key a.1 a.2.1)
theorem F67_ok : CFOK tC 67 F67 := mkF_ok Y67 (fn := Tryd.f67) (body := bodyOf Tryd.f67) (by kernel_rfl) (by kernel_rfl) (by kernel_rfl) (m := 0) rfl (lam_le lam_nil) f67_run

/-! bits.Mul -/
noncomputable def G63 : FuncId → Option (CF tC) := look [(67, F67)]
theorem Y63 : SysN tC G63 := (sys_cons F67_ok (mkF_nat _ _) (sys_nil tC_ok tC_eq))
def S63 : FS := ⟨[[.v], [.v]], [⟨[.one (.one (.int .u64)), .one (.one (.int .u64))], []⟩], [⟨[.tup [.one (.int .u64), .one (.int .u64)]], []⟩], [[.v], [.v]], []⟩
def f63 (n1 : Int) (n2 : Int) : Int × Int :=
  ((f67 n1 n2).fst, (f67 n1 n2).snd)
noncomputable def F63 : CF tC := mkF tC S63 (fun a => some ((f63 a.1 a.2.1).1, (f63 a.1 a.2.1).2, ()))
def h63 (r : Int × Int) : Option (altTy tE S63.outs) := some (r.1, r.2, ())
theorem f63_run : ∀ a, fnS tC G63 (look []) Tryd.f63 S63 a = (fun a => some ((f63 a.1 a.2.1).1, (f63 a.1 a.2.1).2, ())) a := fun a => by
  have key : ∀ (n1 : Int) (n2 : Int), (h63 ((f67 n1 n2).fst, (f67 n1 n2).snd)) = h63 (f63 n1 n2) := by
    intros
    unfold f63
    repeat' first | rfl | refine cond_h (g := h63) ?_ ?_
  exact Eq.trans (by kernel_rfl) (key a.1 a.2.1)
theorem F63_ok : CFOK tC 63 F63 := mkF_ok Y63 (fn := Tryd.f63) (body := bodyOf Tryd.f63) (by kernel_rfl) (by kernel_rfl) (by kernel_rfl) (m := 0) rfl (lam_le lam_nil) f63_run

/-! floor.Maze$1 -/
noncomputable def G46 : FuncId → Option (CF tC) := look []
theorem Y46 : SysN tC G46 := (sys_nil tC_ok tC_eq)
def S46 : FS := ⟨[[.v]], [⟨[vI], []⟩], [⟨[vO], []⟩], [[.v]], []⟩
def f46 (n1 : Int) : Bool :=
  bif n1.tmod (2 : Int) == (1 : Int) then bif decide (n1 ≥ (3 : Int)) then decide (n1 ≤ (63 : Int)) else false else false
noncomputable def F46 : CF tC := mkF tC S46 (fun a => some ((f46 a.1), ()))
def h46 (r : Bool) : Option (altTy tE S46.outs) := some (r, ())
theorem f46_run : ∀ a, fnS tC G46 (look []) Tryd.f46 S46 a = (fun a => some ((f46 a.1), ())) a := fun a => by
  have key : ∀ (n1 : Int), (bif n1.tmod (2 : Int) == (1 : Int) then bif decide (n1 ≥ (3 : Int)) then h46 (decide (n1 ≤ (63 : Int))) else h46 false else h46 false) = h46 (f46 n1) := by
    intros
    unfold f46
    repeat' first | rfl | refine cond_h (g := h46) ?_ ?_
  exact Eq.trans (by kernel_rfl) (key a.1)
theorem F46_ok : CFOK tC 46 F46 := mkF_ok Y46 (fn := Tryd.f46) (body := bodyOf Tryd.f46) (by kernel_rfl) (by kernel_rfl) (by kernel_rfl) (m := 0) rfl (lam_le lam_nil) f46_run
end Go.AE
