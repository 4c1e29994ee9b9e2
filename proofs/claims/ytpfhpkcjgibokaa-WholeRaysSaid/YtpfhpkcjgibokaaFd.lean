/-
  The plain functions that the seat's Go functions compute, each with the proof that the function keeps it. Printed by the generator (Gen2) and checked by the kernel.
-/
import Derived.Test.YtpfhpkcjgibokaaFb
namespace Go.AE
open Go.Proofs Go.RowKit
set_option maxRecDepth 100000

/-! slices.DeleteFunc -/
noncomputable def G60 : FuncId → Option (CF tC) := look [(75, F75), (61, F61)]
theorem Y60 : SysN tC G60 := (sys_cons F75_ok (mkF_nat _ _) (sys_cons F61_ok (mkF_nat _ _) (sys_nil tC_ok tC_eq)))
noncomputable def c60_19 : Code := subCode (loopOf (bodyOf Try.f60) 0) 19
def p60_19 : PS := ⟨1, [0, 1, 5, 6], ⟨[.one (.one (.sl 0)), .one (.fn 61 []), vB, vB, vB, vI, vI] ++ vBs 35, [.arr 61]⟩, [⟨.normal, [0, 1, 5, 6], ⟨[.one (.one (.sl 0)), .one (.fn 61 []), vB, vB, vB, vI, vI] ++ vBs 35, [.arr 61]⟩, []⟩], []⟩
noncomputable def j60_19 (x : Nat × Int × Int × List En × Unit) : Option (Nat × Int × Int × List En × Unit) :=
  some (x.fst, x.snd.fst, IntKind.i64.wrap (x.snd.snd.fst + (1 : Int)), x.snd.snd.snd.fst, ())
theorem j60_19_run0 (v0 : Nat) (v1 : Int) (v2 : Int) (v3 : List En) : pieceK tC G60 (look []) c60_19 p60_19 (v0, v1, v2, v3, ()) = j60_19 (v0, v1, v2, v3, ()) := by kernel_rfl
theorem j60_19_run (x : Nat × Int × Int × List En × Unit) : pieceK tC G60 (look []) c60_19 p60_19 x = j60_19 x := j60_19_run0 x.1 x.2.1 x.2.2.1 x.2.2.2.1
noncomputable def W60_19 : LF tC := cutLF tC p60_19 j60_19
theorem W60_19_ok : keyed 19 (loopOf (bodyOf Try.f60) 0) = [c60_19] ∧ ∀ n, n ≤ 1 → Snd tC n c60_19 W60_19.k := ⟨by kernel_rfl, fun n hn => cut_ok (p := p60_19) Y60 (lam_le lam_nil n hn) hn j60_19_run⟩
noncomputable def c60_0 : Code := loopOf (bodyOf Try.f60) 0
def p60_0 : LS := ⟨1, [0, 1, 5, 6], ⟨[.one (.one (.sl 0)), .one (.fn 61 []), vB, vB, vB, vI, vI] ++ vBs 35, [.arr 61]⟩, [⟨.exit 0, [0, 5], ⟨[.one (.one (.sl 0))] ++ vBs 4 ++ [vI] ++ vBs 36, [.arr 61]⟩, []⟩], []⟩
noncomputable def r60_0 (x : Nat × Int × Int × List En × Unit) : Option (Nat × Int × Int × List En × Unit ⊕ Nat × Int × List En × Unit) :=
  bif decide (x.snd.snd.fst < (↑x.fst : Int)) then
  bif decide ((0 : Int) ≤ x.snd.snd.fst) && decide (x.snd.snd.fst < (↑x.fst : Int)) then
    x.snd.snd.snd.fst[(0 : Nat) + x.snd.snd.fst.toNat]?.bind fun y32 =>
      bif !f61 y32.X y32.Y y32.A y32.B then
        bif decide ((0 : Int) ≤ x.snd.fst) && decide (x.snd.fst < (↑x.fst : Int)) then
          x.snd.snd.snd.fst[(0 : Nat) + x.snd.fst.toNat]?.bind fun _x =>
            (j60_19
                  (x.fst, IntKind.i64.wrap (x.snd.fst + (1 : Int)), x.snd.snd.fst,
                    x.snd.snd.snd.fst.set ((0 : Nat) + x.snd.fst.toNat) (En.mk y32.X y32.Y y32.A y32.B), ())).bind
              fun y29 => some (Sum.inl (y29.fst, y29.snd.fst, y29.snd.snd.fst, y29.snd.snd.snd.fst, ()))
        else none
      else
        (j60_19 (x.fst, x.snd.fst, x.snd.snd.fst, x.snd.snd.snd.fst, ())).bind fun y31 =>
          some (Sum.inl (y31.fst, y31.snd.fst, y31.snd.snd.fst, y31.snd.snd.snd.fst, ()))
  else none
else some (Sum.inr (x.fst, x.snd.fst, x.snd.snd.snd.fst, ()))
theorem r60_0_run0 (v0 : Nat) (v1 : Int) (v2 : Int) (v3 : List En) : roundK tC G60 (look [(19, W60_19)]) c60_0 p60_0 (v0, v1, v2, v3, ()) = r60_0 (v0, v1, v2, v3, ()) := by kernel_rfl
theorem r60_0_run (x : Nat × Int × Int × List En × Unit) : roundK tC G60 (look [(19, W60_19)]) c60_0 p60_0 x = r60_0 x := r60_0_run0 x.1 x.2.1 x.2.2.1 x.2.2.2.1
noncomputable def l60_0 (x : Nat × Int × Int × List En × Unit) : Option (Nat × Int × List En × Unit) := iterO r60_0 x
noncomputable def W60_0 : LF tC := loopW tC p60_0 0 l60_0
theorem W60_0_ok : keyed 0 (bodyOf Try.f60) = [.block 0 (.loop c60_0)] ∧ ∀ n, n ≤ 1 → Snd tC n (.block 0 (.loop c60_0)) W60_0.k := ⟨by kernel_rfl, fun n hn => loopW_ok (p := p60_0) (id := 0) Y60 (lam_le (lam_cons W60_19_ok lam_nil) n hn) hn r60_0_run⟩
def S60 : FS := ⟨[[.w 61], [.f]], [⟨[.one (.one (.sl 0)), .one (.fn 61 [])], [.arr 61]⟩], [⟨[.one (.one (.sl 0))], [.arr 61]⟩], [[.w 61]], []⟩
noncomputable def f60 (x : Nat × List En × Unit) : Option (Nat × List En × Unit) :=
  bif decide ((0 : Nat) + x.fst ≤ x.snd.fst.length) then
  (f75 (List.take x.fst (List.drop (0 : Nat) x.snd.fst), ())).bind fun y39 =>
    bif y39.fst == (-1 : Int) then some (x.fst, x.snd.fst, ())
    else
      (l60_0 (x.fst, y39.fst, IntKind.i64.wrap (y39.fst + (1 : Int)), x.snd.fst, ())).bind fun y38 =>
        bif
            decide ((0 : Int) ≤ y38.snd.fst) && decide (y38.snd.fst ≤ (↑y38.fst : Int)) && decide ((↑y38.fst : Int) ≤ (↑y38.fst : Int)) &&
              decide ((↑y38.fst : Int) ≤ (↑y38.fst : Int)) then
          none
        else none
else none
noncomputable def F60 : CF tC := mkF tC S60 f60
theorem f60_run : ∀ a, fnS tC G60 (look [(0, W60_0)]) Try.f60 S60 a = f60 a := fun a => by kernel_rfl
theorem F60_ok : CFOK tC 60 F60 := mkF_ok Y60 (fn := Try.f60) (body := bodyOf Try.f60) (by kernel_rfl) (by kernel_rfl) (by kernel_rfl) (m := 1) rfl (lam_le (lam_cons W60_0_ok lam_nil)) f60_run
end Go.AE
