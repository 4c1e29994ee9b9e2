/-
  slices.Clone of beams: what it hands back is written by nobody again.
-/
import Derived.Test.YtadnppefidjhfaaGreatPk2
namespace Go.AE
open Go.Proofs Go.RowKit
set_option maxRecDepth 100000
/-! slices.Clone[Beam] -/
noncomputable def G27 : FuncId → Option (CF tC) := look []
theorem Y27 : SysN tC G27 := (sys_nil tC_ok tC_eq)
noncomputable def c27_4 : Code := subCode (bodyOf Tryz.f27) 4
def p27_4 : PS := ⟨0, [0], ⟨[.one (.one (.imm 49))] ++ vBs 7, []⟩, [⟨.ret, [2], ⟨vBs 2 ++ [.one (.one (.sl 0))] ++ vBs 5, [.arr 49]⟩, [(2, 49)]⟩], []⟩
noncomputable def j27_4 (x : List (Bm) × Unit) : Option (Nat × List (Bm) × Unit) := bif roomy (0 + x.1.length) 16 then some (0 + x.1.length, x.1, ()) else none
noncomputable def W27_4 : LF tC := cutLF tC p27_4 j27_4
theorem c27_4_is : NilHead c27_4 0 3 4 33 := ⟨_, _, _, _, _, _, _, _, _, _, _, rfl⟩
theorem j27_4_nil : exec tC G27 (look []) (restOf c27_4) ⟨((p27_4.s.emb ([], ())).t.set 3 (.imm 49 [])).set 4 (.bool true), (p27_4.s.emb ([], ())).h⟩ (fun e st => unP p27_4.k p27_4.outs e st) = j27_4 ([], ()) := by kernel_rfl
theorem j27_4_one (x : p27_4.s.ty tE) : exec tC G27 (look []) (restOf c27_4) ⟨((p27_4.s.emb x).t.set 3 (.imm 49 x.1)).set 4 (.bool false), (p27_4.s.emb x).h⟩ (fun e st => unP p27_4.k p27_4.outs e st) = j27_4 x := by kernel_rfl
theorem W27_4_ok : keyed 4 (bodyOf Tryz.f27) = [c27_4] ∧ ∀ n, n ≤ 0 → Snd tC n c27_4 W27_4.k := ⟨by kernel_rfl, fun n hn => nil_cut (p := p27_4) (f := j27_4) (Λ := look []) (el := 49) Y27 hn c27_4_is (by kernel_rfl) (lam_le lam_nil n hn) (fun x => ⟨49, x.1, rfl, fun t h => match t, x, h with
    | true, (xs, ()), h => by
      have h : xs = [] := h rfl
      subst h
      exact j27_4_nil
    | false, x, _ => j27_4_one x⟩) (fun _ => Nat.le_of_ble_eq_true (by kernel_rfl))⟩
def S27 : FS := ⟨[[.s 49]], [⟨[.one (.one (.imm 49))], []⟩], [⟨[.one (.one (.him 49))], []⟩], [[.h 49]], []⟩
noncomputable def f27 (x : List (Bm) × Unit) : Option (List (Bm) × Unit) :=
  (j27_4 (x.1, ())).bind fun y => bif decide ((0 : Nat) + y.1 ≤ y.2.1.length) then some (List.take y.1 (List.drop (0 : Nat) y.2.1), ()) else none
noncomputable def F27 : CF tC := mkF tC S27 f27
theorem f27_run : ∀ a, fnS tC G27 (look [(4, W27_4)]) Tryz.f27 S27 a = f27 a := fun a => by kernel_rfl
theorem F27_ok : CFOK tC 27 F27 := mkF_ok Y27 (fn := Tryz.f27) (body := bodyOf Tryz.f27) (by kernel_rfl) (by kernel_rfl) (by kernel_rfl) (m := 0) rfl (lam_le (lam_cons W27_4_ok lam_nil)) f27_run

end Go.AE
