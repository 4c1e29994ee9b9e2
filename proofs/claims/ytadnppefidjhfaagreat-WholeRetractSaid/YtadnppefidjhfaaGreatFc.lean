/-
  The plain functions that the seat's Go functions compute, each with the proof that the function keeps it. Printed by the generator (Gen2) and checked by the kernel.
-/
import Derived.Test.YtadnppefidjhfaaGreatFb
namespace Go.AE
open Go.Proofs Go.RowKit
set_option maxRecDepth 100000

/-! tile.Pack -/
noncomputable def G17 : FuncId → Option (CF tC) := look [(28, F28), (29, F29)]
theorem Y17 : SysN tC G17 := (sys_cons F28_ok (mkF_nat _ _) (sys_cons F29_ok (mkF_nat _ _) (sys_nil tC_ok tC_eq)))
def S17 : FS := ⟨[[.s 68]], [⟨[.one (.one (.imm 68))], []⟩], [⟨[.tup [.one (.sl 0), .one (.int .i64)]], [.arr 102]⟩], [[.v], [.v]], [(2, 102)]⟩
noncomputable def f17 (x : List En × Unit) : Option (Nat × Int × List Tl × Unit) :=
  (f28 (x.fst, ())).bind fun y9 =>
  bif !y9.fst then some ((0 : Nat), (1 : Int), [], ()) else (f29 (x.fst, ())).bind fun y8 => some (y8.fst, (0 : Int), y8.snd.fst, ())
noncomputable def F17 : CF tC := mkF tC S17 f17
theorem f17_run : ∀ a, fnS tC G17 (look []) Tryz.f17 S17 a = f17 a := fun a => by kernel_rfl
theorem F17_ok : CFOK tC 17 F17 := mkF_ok Y17 (fn := Tryz.f17) (body := bodyOf Tryz.f17) (by kernel_rfl) (by kernel_rfl) (by kernel_rfl) (m := 0) rfl (lam_le lam_nil) f17_run

/-! mapAwake -/
noncomputable def G4 : FuncId → Option (CF tC) := look [(6, F6), (16, F16), (12, F12), (10, F10), (17, F17)]
theorem Y4 : SysN tC G4 := (sys_cons F6_ok (mkF_nat _ _) (sys_cons F16_ok (mkF_nat _ _) (sys_cons F12_ok (mkF_nat _ _) (sys_cons F10_ok (mkF_nat _ _) (sys_cons F17_ok (mkF_nat _ _) (sys_nil tC_ok tC_eq))))))
def S4 : FS := ⟨[], [⟨[], []⟩], [⟨[vO], []⟩], [[.v]], []⟩
noncomputable def f4 (_x : Unit) : Option (Bool × Unit) :=
  (f16 ((3 : Int), [Bm.mk (0 : Int) (96 : Int)], f6.fst, f6.snd, ())).bind fun y23 =>
  (f12 ((3 : Int), (1 : Int), false, (32 : Int), (32 : Int), (0 : Int), y23.snd.fst, y23.snd.snd.fst, ())).bind fun y22 =>
    (f10 (y22.snd.fst, y22.snd.snd.fst, ())).bind fun y21 =>
      bif decide ((0 : Nat) + y21.fst ≤ y21.snd.snd.snd.fst.length) then
        (f17 (List.take y21.fst (List.drop (0 : Nat) y21.snd.snd.snd.fst), ())).bind fun y20 =>
          bif y23.fst == (0 : Int) then
            bif y22.fst == (0 : Int) then
              (f10 (y21.snd.fst, y21.snd.snd.fst, ())).bind fun y19 =>
                bif (↑y19.fst : Int) == (3 : Int) then
                  bif y20.snd.fst == (0 : Int) then some ((↑y20.fst : Int) == (1 : Int), ()) else some (false, ())
                else some (false, ())
            else some (false, ())
          else some (false, ())
      else none
noncomputable def F4 : CF tC := mkF tC S4 f4
theorem f4_run : ∀ a, fnS tC G4 (look []) Tryz.f4 S4 a = f4 a := fun a => by kernel_rfl
theorem F4_ok : CFOK tC 4 F4 := mkF_ok Y4 (fn := Tryz.f4) (body := bodyOf Tryz.f4) (by kernel_rfl) (by kernel_rfl) (by kernel_rfl) (m := 0) rfl (lam_le lam_nil) f4_run

/-! WholeRetract -/
noncomputable def G3 : FuncId → Option (CF tC) := look [(4, F4), (5, F5), (6, F6), (7, F7), (8, F8), (9, F9), (10, F10), (11, F11), (12, F12), (13, F13), (14, F14), (15, F15)]
theorem Y3 : SysN tC G3 := (sys_cons F4_ok (mkF_nat _ _) (sys_cons F5_ok (mkF_nat _ _) (sys_cons F6_ok (mkF_nat _ _) (sys_cons F7_ok (mkF_nat _ _) (sys_cons F8_ok (mkF_nat _ _) (sys_cons F9_ok (mkF_nat _ _) (sys_cons F10_ok (mkF_nat _ _) (sys_cons F11_ok (mkF_nat _ _) (sys_cons F12_ok (mkF_nat _ _) (sys_cons F13_ok (mkF_nat _ _) (sys_cons F14_ok (mkF_nat _ _) (sys_cons F15_ok (mkF_nat _ _) (sys_nil tC_ok tC_eq)))))))))))))
noncomputable def c3_0 : Code := loopOf (bodyOf Tryz.f3) 0
def p3_0 : LS := ⟨0, [0, 1, 5, 7, 8], ⟨[.one (.one (.imm 35)), vI, vB, vB, vB, .one (.one (.ptr 0 0 0)), vB, .one (.one (.ptr 1 0 0)), vI] ++ vBs 135, [.box [.int .i64, .bool, .int .i64, .int .i64, .int .i64], .box [.mp 2, .mp 3], .map 3 33, .map 3 26]⟩, [⟨.exit 0, [1, 5, 7], ⟨[vB, vI, vB, vB, vB, .one (.one (.ptr 0 0 0)), vB, .one (.one (.ptr 1 0 0))] ++ vBs 136, [.box [.int .i64, .bool, .int .i64, .int .i64, .int .i64], .box [.mp 2, .mp 3], .map 3 33, .map 3 26]⟩, []⟩], []⟩
noncomputable def r3_0 (x : List Nt × Int × Int × Int × Bool × Int × Int × Int × List (Int × List Bm) × List (Int × Pm) × Unit) : Option
  (List Nt × Int × Int × Int × Bool × Int × Int × Int × List (Int × List Bm) × List (Int × Pm) × Unit ⊕
    Int × Int × Bool × Int × Int × Int × List (Int × List Bm) × List (Int × Pm) × Unit) :=
  bif decide (x.snd.snd.fst < (↑x.fst.length : Int)) then
  (idxO x.fst x.snd.snd.fst).bind fun y35 =>
    (f7
          (y35.P, y35.I, y35.S, y35.V, y35.G, y35.X, y35.Y, y35.H, x.snd.snd.snd.snd.snd.snd.snd.snd.fst,
            x.snd.snd.snd.snd.snd.snd.snd.snd.snd.fst, ())).bind
      fun y34 =>
      some
        (Sum.inl
          (x.fst, x.snd.fst, IntKind.i64.wrap (x.snd.snd.fst + (1 : Int)), x.snd.snd.snd.fst, x.snd.snd.snd.snd.fst,
            x.snd.snd.snd.snd.snd.fst, x.snd.snd.snd.snd.snd.snd.fst, x.snd.snd.snd.snd.snd.snd.snd.fst, y34.snd.fst, y34.snd.snd.fst, ()))
else
  some
    (Sum.inr
      (x.snd.fst, x.snd.snd.snd.fst, x.snd.snd.snd.snd.fst, x.snd.snd.snd.snd.snd.fst, x.snd.snd.snd.snd.snd.snd.fst,
        x.snd.snd.snd.snd.snd.snd.snd.fst, x.snd.snd.snd.snd.snd.snd.snd.snd.fst, x.snd.snd.snd.snd.snd.snd.snd.snd.snd.fst, ()))
theorem r3_0_run0 (v0 : List Nt) (v1 : Int) (v2 : Int) (v3 : Int) (v4 : Bool) (v5 : Int) (v6 : Int) (v7 : Int) (v8 : List (Int × List Bm)) (v9 : List (Int × Pm)) : roundK tC G3 (look []) c3_0 p3_0 (v0, v1, v2, v3, v4, v5, v6, v7, v8, v9, ()) = r3_0 (v0, v1, v2, v3, v4, v5, v6, v7, v8, v9, ()) := by kernel_rfl
theorem r3_0_run (x : List Nt × Int × Int × Int × Bool × Int × Int × Int × List (Int × List Bm) × List (Int × Pm) × Unit) : roundK tC G3 (look []) c3_0 p3_0 x = r3_0 x := r3_0_run0 x.1 x.2.1 x.2.2.1 x.2.2.2.1 x.2.2.2.2.1 x.2.2.2.2.2.1 x.2.2.2.2.2.2.1 x.2.2.2.2.2.2.2.1 x.2.2.2.2.2.2.2.2.1 x.2.2.2.2.2.2.2.2.2.1
noncomputable def l3_0 (x : List Nt × Int × Int × Int × Bool × Int × Int × Int × List (Int × List Bm) × List (Int × Pm) × Unit) : Option (Int × Int × Bool × Int × Int × Int × List (Int × List Bm) × List (Int × Pm) × Unit) := iterO r3_0 x
noncomputable def W3_0 : LF tC := loopW tC p3_0 0 l3_0
theorem W3_0_ok : keyed 0 (bodyOf Tryz.f3) = [.block 0 (.loop c3_0)] ∧ ∀ n, n ≤ 0 → Snd tC n (.block 0 (.loop c3_0)) W3_0.k := ⟨by kernel_rfl, fun n hn => loopW_ok (p := p3_0) (id := 0) Y3 (lam_le lam_nil n hn) hn r3_0_run⟩
noncomputable def c3_70 : Code := subCode (subCode (bodyOf Tryz.f3) 64) 70
def p3_70 : PS := ⟨0, [5, 11, 12, 17], ⟨vBs 5 ++ [.one (.one (.ptr 0 0 0))] ++ vBs 5 ++ [.one (.one (.ptr 1 0 0)), vO] ++ vBs 4 ++ [.one (.one (.ptr 2 0 0))] ++ vBs 126, [.box [.int .i64, .bool, .int .i64, .int .i64, .int .i64], .box [.int .i64, .bool, .int .i64, .int .i64, .int .i64], .box [.int .i64, .bool, .int .i64, .int .i64, .int .i64]]⟩, [⟨.ret, [6], ⟨vBs 6 ++ [vO] ++ vBs 137, []⟩, []⟩], []⟩
noncomputable def j3_70 (x : Bool × Int × Bool × Int × Int × Int × Int × Bool × Int × Int × Int × Int × Bool × Int × Int × Int × Unit) : Option (Bool × Unit) :=
  bif
    bif x.snd.snd.snd.snd.snd.snd.snd.snd.snd.snd.snd.fst == x.snd.fst then
      bif x.snd.snd.snd.snd.snd.snd.snd.snd.snd.snd.snd.snd.fst == x.snd.snd.fst then
        bif x.snd.snd.snd.snd.snd.snd.snd.snd.snd.snd.snd.snd.snd.fst == x.snd.snd.snd.fst then
          bif x.snd.snd.snd.snd.snd.snd.snd.snd.snd.snd.snd.snd.snd.snd.fst == x.snd.snd.snd.snd.fst then
            bif x.snd.snd.snd.snd.snd.snd.snd.snd.snd.snd.snd.snd.snd.snd.snd.fst == x.snd.snd.snd.snd.snd.fst then true else false
          else false
        else false
      else false
    else false then
  some (true, ())
else
  bif x.fst then
    some
      (bif x.snd.snd.snd.snd.snd.snd.snd.snd.snd.snd.snd.fst == x.snd.snd.snd.snd.snd.snd.fst then
          bif x.snd.snd.snd.snd.snd.snd.snd.snd.snd.snd.snd.snd.fst == x.snd.snd.snd.snd.snd.snd.snd.fst then
            bif x.snd.snd.snd.snd.snd.snd.snd.snd.snd.snd.snd.snd.snd.fst == x.snd.snd.snd.snd.snd.snd.snd.snd.fst then
              bif x.snd.snd.snd.snd.snd.snd.snd.snd.snd.snd.snd.snd.snd.snd.fst == x.snd.snd.snd.snd.snd.snd.snd.snd.snd.fst then
                bif x.snd.snd.snd.snd.snd.snd.snd.snd.snd.snd.snd.snd.snd.snd.snd.fst == x.snd.snd.snd.snd.snd.snd.snd.snd.snd.snd.fst then
                  true
                else false
              else false
            else false
          else false
        else false,
        ())
  else some (false, ())
theorem j3_70_run0 (v0 : Bool) (v1 : Int) (v2 : Bool) (v3 : Int) (v4 : Int) (v5 : Int) (v6 : Int) (v7 : Bool) (v8 : Int) (v9 : Int) (v10 : Int) (v11 : Int) (v12 : Bool) (v13 : Int) (v14 : Int) (v15 : Int) : pieceK tC G3 (look []) c3_70 p3_70 (v0, v1, v2, v3, v4, v5, v6, v7, v8, v9, v10, v11, v12, v13, v14, v15, ()) = j3_70 (v0, v1, v2, v3, v4, v5, v6, v7, v8, v9, v10, v11, v12, v13, v14, v15, ()) := by kernel_rfl
theorem j3_70_run (x : Bool × Int × Bool × Int × Int × Int × Int × Bool × Int × Int × Int × Int × Bool × Int × Int × Int × Unit) : pieceK tC G3 (look []) c3_70 p3_70 x = j3_70 x := j3_70_run0 x.1 x.2.1 x.2.2.1 x.2.2.2.1 x.2.2.2.2.1 x.2.2.2.2.2.1 x.2.2.2.2.2.2.1 x.2.2.2.2.2.2.2.1 x.2.2.2.2.2.2.2.2.1 x.2.2.2.2.2.2.2.2.2.1 x.2.2.2.2.2.2.2.2.2.2.1 x.2.2.2.2.2.2.2.2.2.2.2.1 x.2.2.2.2.2.2.2.2.2.2.2.2.1 x.2.2.2.2.2.2.2.2.2.2.2.2.2.1 x.2.2.2.2.2.2.2.2.2.2.2.2.2.2.1 x.2.2.2.2.2.2.2.2.2.2.2.2.2.2.2.1
noncomputable def W3_70 : LF tC := cutLF tC p3_70 j3_70
theorem W3_70_ok : keyed 70 (subCode (bodyOf Tryz.f3) 64) = [c3_70] ∧ ∀ n, n ≤ 0 → Snd tC n c3_70 W3_70.k := ⟨by kernel_rfl, fun n hn => cut_ok (p := p3_70) Y3 (lam_le lam_nil n hn) hn j3_70_run⟩
noncomputable def c3_64 : Code := subCode (bodyOf Tryz.f3) 64
def p3_64 : PS := ⟨0, [5, 7, 11, 12, 13, 17], ⟨vBs 5 ++ [.one (.one (.ptr 0 0 0)), vB, .one (.one (.ptr 1 0 0)), vB, vB, vB, .one (.one (.ptr 2 0 0)), vO, .one (.one (.sl 3)), vB, vB, vB, .one (.one (.ptr 4 0 0))] ++ vBs 126, [.box [.int .i64, .bool, .int .i64, .int .i64, .int .i64], .box [.mp 5, .mp 6], .box [.int .i64, .bool, .int .i64, .int .i64, .int .i64], .arr 68, .box [.int .i64, .bool, .int .i64, .int .i64, .int .i64], .map 3 33, .map 3 26]⟩, [⟨.ret, [6], ⟨vBs 6 ++ [vO] ++ vBs 137, []⟩, []⟩], []⟩
noncomputable def j3_64 (x : Bool ×
  Nat ×
    Int ×
      Bool ×
        Int ×
          Int × Int × Int × Bool × Int × Int × Int × List En × Int × Bool × Int × Int × Int × List (Int × List Bm) × List (Int × Pm) × Unit) : Option (Bool × Unit) :=
  bif
    bif x.snd.snd.snd.snd.snd.snd.snd.snd.snd.snd.snd.snd.snd.fst == x.snd.snd.fst then
      bif x.snd.snd.snd.snd.snd.snd.snd.snd.snd.snd.snd.snd.snd.snd.fst == x.snd.snd.snd.fst then
        bif x.snd.snd.snd.snd.snd.snd.snd.snd.snd.snd.snd.snd.snd.snd.snd.fst == x.snd.snd.snd.snd.fst then
          bif x.snd.snd.snd.snd.snd.snd.snd.snd.snd.snd.snd.snd.snd.snd.snd.snd.fst == x.snd.snd.snd.snd.snd.fst then
            bif x.snd.snd.snd.snd.snd.snd.snd.snd.snd.snd.snd.snd.snd.snd.snd.snd.snd.fst == x.snd.snd.snd.snd.snd.snd.fst then true
            else false
          else false
        else false
      else false
    else false then
  bif x.snd.snd.snd.fst then
    (f10
          (x.snd.snd.snd.snd.snd.snd.snd.snd.snd.snd.snd.snd.snd.snd.snd.snd.snd.snd.fst,
            x.snd.snd.snd.snd.snd.snd.snd.snd.snd.snd.snd.snd.snd.snd.snd.snd.snd.snd.snd.fst, ())).bind
      fun y129 =>
      bif decide ((0 : Nat) + y129.fst ≤ y129.snd.snd.snd.fst.length) then
        bif decide ((0 : Nat) + x.snd.fst ≤ x.snd.snd.snd.snd.snd.snd.snd.snd.snd.snd.snd.snd.fst.length) then
          (f13
                (List.take y129.fst (List.drop (0 : Nat) y129.snd.snd.snd.fst),
                  List.take x.snd.fst (List.drop (0 : Nat) x.snd.snd.snd.snd.snd.snd.snd.snd.snd.snd.snd.snd.fst), ())).bind
            fun y128 =>
            bif !y128.fst then some (false, ())
            else
              (j3_70
                    (x.fst, x.snd.snd.fst, x.snd.snd.snd.fst, x.snd.snd.snd.snd.fst, x.snd.snd.snd.snd.snd.fst,
                      x.snd.snd.snd.snd.snd.snd.fst, x.snd.snd.snd.snd.snd.snd.snd.fst, x.snd.snd.snd.snd.snd.snd.snd.snd.fst,
                      x.snd.snd.snd.snd.snd.snd.snd.snd.snd.fst, x.snd.snd.snd.snd.snd.snd.snd.snd.snd.snd.fst,
                      x.snd.snd.snd.snd.snd.snd.snd.snd.snd.snd.snd.fst, x.snd.snd.snd.snd.snd.snd.snd.snd.snd.snd.snd.snd.snd.fst,
                      x.snd.snd.snd.snd.snd.snd.snd.snd.snd.snd.snd.snd.snd.snd.fst,
                      x.snd.snd.snd.snd.snd.snd.snd.snd.snd.snd.snd.snd.snd.snd.snd.fst,
                      x.snd.snd.snd.snd.snd.snd.snd.snd.snd.snd.snd.snd.snd.snd.snd.snd.fst,
                      x.snd.snd.snd.snd.snd.snd.snd.snd.snd.snd.snd.snd.snd.snd.snd.snd.snd.fst, ())).bind
                fun y127 => some (y127.fst, ())
        else none
      else none
  else
    (j3_70
          (x.fst, x.snd.snd.fst, x.snd.snd.snd.fst, x.snd.snd.snd.snd.fst, x.snd.snd.snd.snd.snd.fst, x.snd.snd.snd.snd.snd.snd.fst,
            x.snd.snd.snd.snd.snd.snd.snd.fst, x.snd.snd.snd.snd.snd.snd.snd.snd.fst, x.snd.snd.snd.snd.snd.snd.snd.snd.snd.fst,
            x.snd.snd.snd.snd.snd.snd.snd.snd.snd.snd.fst, x.snd.snd.snd.snd.snd.snd.snd.snd.snd.snd.snd.fst,
            x.snd.snd.snd.snd.snd.snd.snd.snd.snd.snd.snd.snd.snd.fst, x.snd.snd.snd.snd.snd.snd.snd.snd.snd.snd.snd.snd.snd.snd.fst,
            x.snd.snd.snd.snd.snd.snd.snd.snd.snd.snd.snd.snd.snd.snd.snd.fst,
            x.snd.snd.snd.snd.snd.snd.snd.snd.snd.snd.snd.snd.snd.snd.snd.snd.fst,
            x.snd.snd.snd.snd.snd.snd.snd.snd.snd.snd.snd.snd.snd.snd.snd.snd.snd.fst, ())).bind
      fun y130 => some (y130.fst, ())
else
  (j3_70
        (x.fst, x.snd.snd.fst, x.snd.snd.snd.fst, x.snd.snd.snd.snd.fst, x.snd.snd.snd.snd.snd.fst, x.snd.snd.snd.snd.snd.snd.fst,
          x.snd.snd.snd.snd.snd.snd.snd.fst, x.snd.snd.snd.snd.snd.snd.snd.snd.fst, x.snd.snd.snd.snd.snd.snd.snd.snd.snd.fst,
          x.snd.snd.snd.snd.snd.snd.snd.snd.snd.snd.fst, x.snd.snd.snd.snd.snd.snd.snd.snd.snd.snd.snd.fst,
          x.snd.snd.snd.snd.snd.snd.snd.snd.snd.snd.snd.snd.snd.fst, x.snd.snd.snd.snd.snd.snd.snd.snd.snd.snd.snd.snd.snd.snd.fst,
          x.snd.snd.snd.snd.snd.snd.snd.snd.snd.snd.snd.snd.snd.snd.snd.fst,
          x.snd.snd.snd.snd.snd.snd.snd.snd.snd.snd.snd.snd.snd.snd.snd.snd.fst,
          x.snd.snd.snd.snd.snd.snd.snd.snd.snd.snd.snd.snd.snd.snd.snd.snd.snd.fst, ())).bind
    fun y131 => some (y131.fst, ())
theorem j3_64_run0 (v0 : Bool) (v1 : Nat) (v2 : Int) (v3 : Bool) (v4 : Int) (v5 : Int) (v6 : Int) (v7 : Int) (v8 : Bool) (v9 : Int) (v10 : Int) (v11 : Int) (v12 : List En) (v13 : Int) (v14 : Bool) (v15 : Int) (v16 : Int) (v17 : Int) (v18 : List (Int × List Bm)) (v19 : List (Int × Pm)) : pieceK tC G3 (look [(70, W3_70)]) c3_64 p3_64 (v0, v1, v2, v3, v4, v5, v6, v7, v8, v9, v10, v11, v12, v13, v14, v15, v16, v17, v18, v19, ()) = j3_64 (v0, v1, v2, v3, v4, v5, v6, v7, v8, v9, v10, v11, v12, v13, v14, v15, v16, v17, v18, v19, ()) := by kernel_rfl
theorem j3_64_run (x : Bool ×
  Nat ×
    Int ×
      Bool ×
        Int ×
          Int × Int × Int × Bool × Int × Int × Int × List En × Int × Bool × Int × Int × Int × List (Int × List Bm) × List (Int × Pm) × Unit) : pieceK tC G3 (look [(70, W3_70)]) c3_64 p3_64 x = j3_64 x := j3_64_run0 x.1 x.2.1 x.2.2.1 x.2.2.2.1 x.2.2.2.2.1 x.2.2.2.2.2.1 x.2.2.2.2.2.2.1 x.2.2.2.2.2.2.2.1 x.2.2.2.2.2.2.2.2.1 x.2.2.2.2.2.2.2.2.2.1 x.2.2.2.2.2.2.2.2.2.2.1 x.2.2.2.2.2.2.2.2.2.2.2.1 x.2.2.2.2.2.2.2.2.2.2.2.2.1 x.2.2.2.2.2.2.2.2.2.2.2.2.2.1 x.2.2.2.2.2.2.2.2.2.2.2.2.2.2.1 x.2.2.2.2.2.2.2.2.2.2.2.2.2.2.2.1 x.2.2.2.2.2.2.2.2.2.2.2.2.2.2.2.2.1 x.2.2.2.2.2.2.2.2.2.2.2.2.2.2.2.2.2.1 x.2.2.2.2.2.2.2.2.2.2.2.2.2.2.2.2.2.2.1 x.2.2.2.2.2.2.2.2.2.2.2.2.2.2.2.2.2.2.2.1
noncomputable def W3_64 : LF tC := cutLF tC p3_64 j3_64
theorem W3_64_ok : keyed 64 (bodyOf Tryz.f3) = [c3_64] ∧ ∀ n, n ≤ 0 → Snd tC n c3_64 W3_64.k := ⟨by kernel_rfl, fun n hn => cut_ok (p := p3_64) Y3 (lam_le (lam_cons W3_70_ok lam_nil) n hn) hn j3_64_run⟩
def S3 : FS := ⟨[[.s 35], [.v], [.v, .v, .v, .v, .v]], [⟨[.one (.one (.imm 35)), vI, .one (.agg [.int .i64, .bool, .int .i64, .int .i64, .int .i64])], []⟩], [⟨[vO], []⟩], [[.v]], []⟩
noncomputable def f3 (x : List Nt × Int × Int × Bool × Int × Int × Int × Unit) : Option (Bool × Unit) :=
  (f4 ()).bind fun y156 =>
  bif !y156.fst then (f4 ()).bind fun y136 => some (y136.fst, ())
  else
    (f5 (x.fst, ())).bind fun y155 =>
      bif !y155.fst then (f4 ()).bind fun y137 => some (y137.fst, ())
      else
        (l3_0
              (x.fst, x.snd.fst, (0 : Int), x.snd.snd.fst, x.snd.snd.snd.fst, x.snd.snd.snd.snd.fst, x.snd.snd.snd.snd.snd.fst,
                x.snd.snd.snd.snd.snd.snd.fst, f6.fst, f6.snd, ())).bind
          fun y154 =>
          (f8 (y154.fst, (64 : Int), ())).bind fun y153 =>
            (f9 (y153.fst, y154.snd.snd.snd.snd.snd.snd.fst, y154.snd.snd.snd.snd.snd.snd.snd.fst, ())).bind fun y152 =>
              (f10 (y152.snd.fst, y152.snd.snd.fst, ())).bind fun y151 =>
                (f12
                      (y153.fst, y154.snd.fst, y154.snd.snd.fst, y154.snd.snd.snd.fst, y154.snd.snd.snd.snd.fst,
                        y154.snd.snd.snd.snd.snd.fst, (f11 y153.fst y151.snd.fst y151.snd.snd.fst).snd.snd.snd.snd.snd.snd.fst,
                        (f11 y153.fst y151.snd.fst y151.snd.snd.fst).snd.snd.snd.snd.snd.snd.snd, ())).bind
                  fun y150 =>
                  bif y150.fst != (0 : Int) then
                    (f10 (y150.snd.fst, y150.snd.snd.fst, ())).bind fun y139 =>
                      bif decide ((0 : Nat) + y139.fst ≤ y139.snd.snd.snd.fst.length) then
                        bif decide ((0 : Nat) + y151.fst ≤ y151.snd.snd.snd.fst.length) then
                          (f13
                                (List.take y139.fst (List.drop (0 : Nat) y139.snd.snd.snd.fst),
                                  List.take y151.fst (List.drop (0 : Nat) y151.snd.snd.snd.fst), ())).bind
                            fun y138 => some (y138.fst, ())
                        else none
                      else none
                  else
                    bif decide ((0 : Nat) + y151.fst ≤ y151.snd.snd.snd.fst.length) then
                      bif decide ((0 : Nat) + y152.fst ≤ y152.snd.snd.snd.fst.length) then
                        (f14
                              (List.take y151.fst (List.drop (0 : Nat) y151.snd.snd.snd.fst),
                                List.take y152.fst (List.drop (0 : Nat) y152.snd.snd.snd.fst), ())).bind
                          fun y149 =>
                          (f9 (y153.fst, y150.snd.fst, y150.snd.snd.fst, ())).bind fun y148 =>
                            bif decide ((0 : Nat) + y149.fst ≤ y149.snd.snd.fst.length) then
                              bif decide ((0 : Nat) + y148.fst ≤ y148.snd.snd.snd.fst.length) then
                                (f15
                                      (List.take y149.fst (List.drop (0 : Nat) y149.snd.snd.fst),
                                        List.take y148.fst (List.drop (0 : Nat) y148.snd.snd.snd.fst), ())).bind
                                  fun y147 =>
                                  bif y149.snd.fst != (0 : Int) then some (false, ())
                                  else
                                    bif y147.snd.fst != (0 : Int) then some (false, ())
                                    else
                                      bif !(f11 y153.fst y148.snd.fst y148.snd.snd.fst).snd.snd.snd.snd.snd.fst then some (false, ())
                                      else
                                        (f10
                                              ((f11 y153.fst y148.snd.fst y148.snd.snd.fst).snd.snd.snd.snd.snd.snd.fst,
                                                (f11 y153.fst y148.snd.fst y148.snd.snd.fst).snd.snd.snd.snd.snd.snd.snd, ())).bind
                                          fun y146 =>
                                          bif decide ((0 : Nat) + y147.fst ≤ y147.snd.snd.fst.length) then
                                            bif decide ((0 : Nat) + y146.fst ≤ y146.snd.snd.snd.fst.length) then
                                              (f13
                                                    (List.take y147.fst (List.drop (0 : Nat) y147.snd.snd.fst),
                                                      List.take y146.fst (List.drop (0 : Nat) y146.snd.snd.snd.fst), ())).bind
                                                fun y145 =>
                                                bif !y145.fst then some (false, ())
                                                else
                                                  bif (f11 y153.fst y151.snd.fst y151.snd.snd.fst).snd.snd.snd.snd.snd.fst then
                                                    bif decide (y154.snd.fst < (f11 y153.fst y151.snd.fst y151.snd.snd.fst).fst) then
                                                      bif
                                                          !bif
                                                                (f11 y153.fst y148.snd.fst y148.snd.snd.fst).fst ==
                                                                  (f11 y153.fst y151.snd.fst y151.snd.snd.fst).fst then
                                                              bif
                                                                  (f11 y153.fst y148.snd.fst y148.snd.snd.fst).snd.fst ==
                                                                    (f11 y153.fst y151.snd.fst y151.snd.snd.fst).snd.fst then
                                                                bif
                                                                    (f11 y153.fst y148.snd.fst y148.snd.snd.fst).snd.snd.fst ==
                                                                      (f11 y153.fst y151.snd.fst y151.snd.snd.fst).snd.snd.fst then
                                                                  bif
                                                                      (f11 y153.fst y148.snd.fst y148.snd.snd.fst).snd.snd.snd.fst ==
                                                                        (f11 y153.fst y151.snd.fst y151.snd.snd.fst).snd.snd.snd.fst then
                                                                    bif
                                                                        (f11 y153.fst y148.snd.fst y148.snd.snd.fst).snd.snd.snd.snd.fst ==
                                                                          (f11 y153.fst y151.snd.fst
                                                                                      y151.snd.snd.fst).snd.snd.snd.snd.fst then
                                                                      true
                                                                    else false
                                                                  else false
                                                                else false
                                                              else false
                                                            else false then
                                                        some (false, ())
                                                      else
                                                        (f10 (y146.snd.fst, y146.snd.snd.fst, ())).bind fun y142 =>
                                                          bif decide ((0 : Nat) + y142.fst ≤ y142.snd.snd.snd.fst.length) then
                                                            bif decide ((0 : Nat) + y151.fst ≤ y151.snd.snd.snd.fst.length) then
                                                              (f13
                                                                    (List.take y142.fst (List.drop (0 : Nat) y142.snd.snd.snd.fst),
                                                                      List.take y151.fst (List.drop (0 : Nat) y151.snd.snd.snd.fst),
                                                                      ())).bind
                                                                fun y141 =>
                                                                bif !y141.fst then some (false, ())
                                                                else
                                                                  (j3_64
                                                                        ((f11 y153.fst y151.snd.fst
                                                                                        y151.snd.snd.fst).snd.snd.snd.snd.snd.fst,
                                                                          y149.fst, y154.snd.fst, y154.snd.snd.fst, y154.snd.snd.snd.fst,
                                                                          y154.snd.snd.snd.snd.fst, y154.snd.snd.snd.snd.snd.fst,
                                                                          (f11 y153.fst y151.snd.fst y151.snd.snd.fst).fst,
                                                                          (f11 y153.fst y151.snd.fst y151.snd.snd.fst).snd.fst,
                                                                          (f11 y153.fst y151.snd.fst y151.snd.snd.fst).snd.snd.fst,
                                                                          (f11 y153.fst y151.snd.fst y151.snd.snd.fst).snd.snd.snd.fst,
                                                                          (f11 y153.fst y151.snd.fst y151.snd.snd.fst).snd.snd.snd.snd.fst,
                                                                          y149.snd.snd.fst,
                                                                          (f11 y153.fst y148.snd.fst y148.snd.snd.fst).fst,
                                                                          (f11 y153.fst y148.snd.fst y148.snd.snd.fst).snd.fst,
                                                                          (f11 y153.fst y148.snd.fst y148.snd.snd.fst).snd.snd.fst,
                                                                          (f11 y153.fst y148.snd.fst y148.snd.snd.fst).snd.snd.snd.fst,
                                                                          (f11 y153.fst y148.snd.fst y148.snd.snd.fst).snd.snd.snd.snd.fst,
                                                                          y142.snd.fst, y142.snd.snd.fst, ())).bind
                                                                    fun y140 => some (y140.fst, ())
                                                            else none
                                                          else none
                                                    else
                                                      (j3_64
                                                            ((f11 y153.fst y151.snd.fst y151.snd.snd.fst).snd.snd.snd.snd.snd.fst, y149.fst,
                                                              y154.snd.fst, y154.snd.snd.fst, y154.snd.snd.snd.fst,
                                                              y154.snd.snd.snd.snd.fst, y154.snd.snd.snd.snd.snd.fst,
                                                              (f11 y153.fst y151.snd.fst y151.snd.snd.fst).fst,
                                                              (f11 y153.fst y151.snd.fst y151.snd.snd.fst).snd.fst,
                                                              (f11 y153.fst y151.snd.fst y151.snd.snd.fst).snd.snd.fst,
                                                              (f11 y153.fst y151.snd.fst y151.snd.snd.fst).snd.snd.snd.fst,
                                                              (f11 y153.fst y151.snd.fst y151.snd.snd.fst).snd.snd.snd.snd.fst,
                                                              y149.snd.snd.fst, (f11 y153.fst y148.snd.fst y148.snd.snd.fst).fst,
                                                              (f11 y153.fst y148.snd.fst y148.snd.snd.fst).snd.fst,
                                                              (f11 y153.fst y148.snd.fst y148.snd.snd.fst).snd.snd.fst,
                                                              (f11 y153.fst y148.snd.fst y148.snd.snd.fst).snd.snd.snd.fst,
                                                              (f11 y153.fst y148.snd.fst y148.snd.snd.fst).snd.snd.snd.snd.fst,
                                                              y146.snd.fst, y146.snd.snd.fst, ())).bind
                                                        fun y143 => some (y143.fst, ())
                                                  else
                                                    (j3_64
                                                          ((f11 y153.fst y151.snd.fst y151.snd.snd.fst).snd.snd.snd.snd.snd.fst, y149.fst,
                                                            y154.snd.fst, y154.snd.snd.fst, y154.snd.snd.snd.fst, y154.snd.snd.snd.snd.fst,
                                                            y154.snd.snd.snd.snd.snd.fst, (f11 y153.fst y151.snd.fst y151.snd.snd.fst).fst,
                                                            (f11 y153.fst y151.snd.fst y151.snd.snd.fst).snd.fst,
                                                            (f11 y153.fst y151.snd.fst y151.snd.snd.fst).snd.snd.fst,
                                                            (f11 y153.fst y151.snd.fst y151.snd.snd.fst).snd.snd.snd.fst,
                                                            (f11 y153.fst y151.snd.fst y151.snd.snd.fst).snd.snd.snd.snd.fst,
                                                            y149.snd.snd.fst, (f11 y153.fst y148.snd.fst y148.snd.snd.fst).fst,
                                                            (f11 y153.fst y148.snd.fst y148.snd.snd.fst).snd.fst,
                                                            (f11 y153.fst y148.snd.fst y148.snd.snd.fst).snd.snd.fst,
                                                            (f11 y153.fst y148.snd.fst y148.snd.snd.fst).snd.snd.snd.fst,
                                                            (f11 y153.fst y148.snd.fst y148.snd.snd.fst).snd.snd.snd.snd.fst, y146.snd.fst,
                                                            y146.snd.snd.fst, ())).bind
                                                      fun y144 => some (y144.fst, ())
                                            else none
                                          else none
                              else none
                            else none
                      else none
                    else none
noncomputable def F3 : CF tC := mkF tC S3 f3
theorem f3_run : ∀ a, fnS tC G3 (look [(0, W3_0), (64, W3_64)]) Tryz.f3 S3 a = f3 a := fun a => by kernel_rfl
theorem F3_ok : CFOK tC 3 F3 := mkF_ok Y3 (fn := Tryz.f3) (body := bodyOf Tryz.f3) (by kernel_rfl) (by kernel_rfl) (by kernel_rfl) (m := 0) rfl (lam_le (lam_cons W3_0_ok (lam_cons W3_64_ok lam_nil))) f3_run
end Go.AE
