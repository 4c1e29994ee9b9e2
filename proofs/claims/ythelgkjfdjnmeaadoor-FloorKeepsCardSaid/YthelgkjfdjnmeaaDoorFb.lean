/-
  The plain functions that the seat's Go functions compute, each with the proof that the function keeps it. Printed by the generator (Gen2) and checked by the kernel.
-/
import Derived.Test.YthelgkjfdjnmeaaDoorF
namespace Go.AE
open Go.Proofs Go.RowKit
set_option maxRecDepth 100000

/-! FloorFits -/
noncomputable def G3 : FuncId → Option (CF tC) := look [(12, F12), (13, F13), (14, F14), (15, F15)]
theorem Y3 : SysN tC G3 := (sys_cons F12_ok (mkF_nat _ _) (sys_cons F13_ok (mkF_nat _ _) (sys_cons F14_ok (mkF_nat _ _) (sys_cons F15_ok (mkF_nat _ _) (sys_nil tC_ok tC_eq)))))
def S3 : FS := ⟨[[.v, .v, .s 5], [.v, .v], [.v]], [⟨[.one (.agg [.int .i64, .int .i64, .imm 5]), .one (.agg [.int .i64, .int .i64]), vI], []⟩], [⟨[vO], []⟩], [[.v]], []⟩
noncomputable def f3 (x : Int × Int × List Int × Int × Int × Int × Unit) : Option (Bool × Unit) :=
  (f12 ()).bind fun y17 =>
  bif !y17.fst then (f12 ()).bind fun y13 => some (y13.fst, ())
  else
    bif !f13 x.fst x.snd.fst x.snd.snd.fst then (f12 ()).bind fun y14 => some (y14.fst, ())
    else
      (f14 (x.fst, x.snd.fst, x.snd.snd.fst, x.snd.snd.snd.fst, x.snd.snd.snd.snd.fst, x.snd.snd.snd.snd.snd.fst, ())).bind fun y16 =>
        (f15 (x.fst, x.snd.fst, x.snd.snd.fst, x.snd.snd.snd.fst, x.snd.snd.snd.snd.fst, x.snd.snd.snd.snd.snd.fst, ())).bind fun y15 =>
          some (y16.fst == y15.fst, ())
noncomputable def F3 : CF tC := mkF tC S3 f3
theorem f3_run : ∀ a, fnS tC G3 (look []) Tryd.f3 S3 a = f3 a := fun a => by kernel_rfl
theorem F3_ok : CFOK tC 3 F3 := mkF_ok Y3 (fn := Tryd.f3) (body := bodyOf Tryd.f3) (by kernel_rfl) (by kernel_rfl) (by kernel_rfl) (m := 0) rfl (lam_le lam_nil) f3_run

/-! FloorRooms -/
noncomputable def G4 : FuncId → Option (CF tC) := look [(12, F12), (13, F13), (16, F16), (17, F17), (18, F18), (19, F19)]
theorem Y4 : SysN tC G4 := (sys_cons F12_ok (mkF_nat _ _) (sys_cons F13_ok (mkF_nat _ _) (sys_cons F16_ok (mkF_nat _ _) (sys_cons F17_ok (mkF_nat _ _) (sys_cons F18_ok (mkF_nat _ _) (sys_cons F19_ok (mkF_nat _ _) (sys_nil tC_ok tC_eq)))))))
def S4 : FS := ⟨[[.v, .v, .s 5]], [⟨[.one (.agg [.int .i64, .int .i64, .imm 5])], []⟩], [⟨[vO], []⟩], [[.v]], []⟩
noncomputable def f4 (x : Int × Int × List Int × Unit) : Option (Bool × Unit) :=
  (f12 ()).bind fun y20 =>
  bif !y20.fst then (f12 ()).bind fun y15 => some (y15.fst, ())
  else
    bif !f13 x.fst x.snd.fst x.snd.snd.fst then (f12 ()).bind fun y16 => some (y16.fst, ())
    else
      bif roomy ((0 : Nat) + x.snd.snd.fst.length) (1 : Nat) then
        bif decide ((0 : Nat) + ((0 : Nat) + x.snd.snd.fst.length) ≤ ([] ++ x.snd.snd.fst).length) then
          (f16 (x.fst, x.snd.fst, List.take ((0 : Nat) + x.snd.snd.fst.length) (List.drop (0 : Nat) ([] ++ x.snd.snd.fst)), ())).bind
            fun y19 =>
            (f17 (x.fst, x.snd.fst, x.snd.snd.fst, ())).bind fun y18 =>
              bif y19.snd.fst == y18.snd.fst then
                bif decide ((0 : Nat) + y19.fst ≤ y19.snd.snd.fst.length) then
                  bif decide ((0 : Nat) + y18.fst ≤ y18.snd.snd.fst.length) then
                    (f18
                          (List.take y19.fst (List.drop (0 : Nat) y19.snd.snd.fst), List.take y18.fst (List.drop (0 : Nat) y18.snd.snd.fst),
                            ())).bind
                      fun y17 =>
                      bif y17.fst then
                        bif decide ((0 : Nat) + ((0 : Nat) + x.snd.snd.fst.length) ≤ ([] ++ x.snd.snd.fst).length) then
                          some
                            (f19 x.fst x.snd.fst (List.take ((0 : Nat) + x.snd.snd.fst.length) (List.drop (0 : Nat) ([] ++ x.snd.snd.fst)))
                                x.fst x.snd.fst x.snd.snd.fst,
                              ())
                        else none
                      else some (false, ())
                  else none
                else none
              else some (false, ())
        else none
      else none
noncomputable def F4 : CF tC := mkF tC S4 f4
theorem f4_run : ∀ a, fnS tC G4 (look []) Tryd.f4 S4 a = f4 a := fun a => by kernel_rfl
theorem F4_ok : CFOK tC 4 F4 := mkF_ok Y4 (fn := Tryd.f4) (body := bodyOf Tryd.f4) (by kernel_rfl) (by kernel_rfl) (by kernel_rfl) (m := 0) rfl (lam_le lam_nil) f4_run

/-! FloorShrinks -/
noncomputable def G5 : FuncId → Option (CF tC) := look [(12, F12), (13, F13), (14, F14)]
theorem Y5 : SysN tC G5 := (sys_cons F12_ok (mkF_nat _ _) (sys_cons F13_ok (mkF_nat _ _) (sys_cons F14_ok (mkF_nat _ _) (sys_nil tC_ok tC_eq))))
noncomputable def c5_40 : Code := subCode (subCode (bodyOf Tryd.f5) 34) 40
def p5_40 : PS := ⟨0, [3, 4, 7, 8, 9, 10], ⟨[vB, vB, vB, .one (.one (.ptr 0 0 0)), .one (.one (.ptr 1 0 0)), vB, vB, vI, vI, vI, vI] ++ vBs 66, [.box [.int .i64, .int .i64, .imm 5], .box [.int .i64, .int .i64]]⟩, [⟨.ret, [6], ⟨vBs 6 ++ [vO] ++ vBs 70, []⟩, []⟩], []⟩
noncomputable def j5_40 (x : Int × Int × Int × Int × Int × Int × List Int × Int × Int × Unit) : Option (Bool × Unit) :=
  (f14
      (x.snd.snd.snd.snd.fst, x.snd.snd.snd.snd.snd.fst, x.snd.snd.snd.snd.snd.snd.fst, x.snd.snd.snd.snd.snd.snd.snd.fst,
        x.snd.snd.snd.snd.snd.snd.snd.snd.fst, IntKind.i64.wrap (x.fst - x.snd.fst), ())).bind
  fun y40 =>
  bif y40.fst then
    (f14
          (x.snd.snd.snd.snd.fst, x.snd.snd.snd.snd.snd.fst, x.snd.snd.snd.snd.snd.snd.fst,
            IntKind.i64.wrap (x.snd.snd.snd.snd.snd.snd.snd.fst + x.snd.snd.fst),
            IntKind.i64.wrap (x.snd.snd.snd.snd.snd.snd.snd.snd.fst + x.snd.snd.snd.fst), IntKind.i64.wrap (x.fst - x.snd.fst), ())).bind
      fun y39 => some (y39.fst, ())
  else some (false, ())
theorem j5_40_run0 (v0 : Int) (v1 : Int) (v2 : Int) (v3 : Int) (v4 : Int) (v5 : Int) (v6 : List Int) (v7 : Int) (v8 : Int) : pieceK tC G5 (look []) c5_40 p5_40 (v0, v1, v2, v3, v4, v5, v6, v7, v8, ()) = j5_40 (v0, v1, v2, v3, v4, v5, v6, v7, v8, ()) := by kernel_rfl
theorem j5_40_run (x : Int × Int × Int × Int × Int × Int × List Int × Int × Int × Unit) : pieceK tC G5 (look []) c5_40 p5_40 x = j5_40 x := j5_40_run0 x.1 x.2.1 x.2.2.1 x.2.2.2.1 x.2.2.2.2.1 x.2.2.2.2.2.1 x.2.2.2.2.2.2.1 x.2.2.2.2.2.2.2.1 x.2.2.2.2.2.2.2.2.1
noncomputable def W5_40 : LF tC := cutLF tC p5_40 j5_40
theorem W5_40_ok : keyed 40 (subCode (bodyOf Tryd.f5) 34) = [c5_40] ∧ ∀ n, n ≤ 0 → Snd tC n c5_40 W5_40.k := ⟨by kernel_rfl, fun n hn => cut_ok (p := p5_40) Y5 (lam_le lam_nil n hn) hn j5_40_run⟩
noncomputable def c5_34 : Code := subCode (bodyOf Tryd.f5) 34
def p5_34 : PS := ⟨0, [3, 4, 5, 7, 8, 9, 10], ⟨[vB, vB, vB, .one (.one (.ptr 0 0 0)), .one (.one (.ptr 1 0 0)), .one (.one (.ptr 2 0 0)), vB, vI, vI, vI, vI] ++ vBs 66, [.box [.int .i64, .int .i64, .imm 5], .box [.int .i64, .int .i64], .box [.int .u16, .int .u16, .int .u16, .int .u16]]⟩, [⟨.ret, [6], ⟨vBs 6 ++ [vO] ++ vBs 70, []⟩, []⟩], []⟩
noncomputable def j5_34 (x : Int × Int × Int × Int × Int × Int × List Int × Int × Int × Int × Int × Int × Int × Unit) : Option (Bool × Unit) :=
  bif bits BinOp.and IntKind.u16 x.snd.snd.snd.snd.snd.snd.snd.snd.snd.snd.snd.snd.fst (2 : Int) != (0 : Int) then
  (j5_40
        (x.fst, x.snd.fst, x.snd.snd.fst, IntKind.i64.wrap ((0 : Int) - x.snd.snd.snd.fst), x.snd.snd.snd.snd.fst,
          x.snd.snd.snd.snd.snd.fst, x.snd.snd.snd.snd.snd.snd.fst, x.snd.snd.snd.snd.snd.snd.snd.fst,
          x.snd.snd.snd.snd.snd.snd.snd.snd.fst, ())).bind
    fun y44 => some (y44.fst, ())
else
  (j5_40
        (x.fst, x.snd.fst, x.snd.snd.fst, x.snd.snd.snd.fst, x.snd.snd.snd.snd.fst, x.snd.snd.snd.snd.snd.fst,
          x.snd.snd.snd.snd.snd.snd.fst, x.snd.snd.snd.snd.snd.snd.snd.fst, x.snd.snd.snd.snd.snd.snd.snd.snd.fst, ())).bind
    fun y45 => some (y45.fst, ())
theorem j5_34_run0 (v0 : Int) (v1 : Int) (v2 : Int) (v3 : Int) (v4 : Int) (v5 : Int) (v6 : List Int) (v7 : Int) (v8 : Int) (v9 : Int) (v10 : Int) (v11 : Int) (v12 : Int) : pieceK tC G5 (look [(40, W5_40)]) c5_34 p5_34 (v0, v1, v2, v3, v4, v5, v6, v7, v8, v9, v10, v11, v12, ()) = j5_34 (v0, v1, v2, v3, v4, v5, v6, v7, v8, v9, v10, v11, v12, ()) := by kernel_rfl
theorem j5_34_run (x : Int × Int × Int × Int × Int × Int × List Int × Int × Int × Int × Int × Int × Int × Unit) : pieceK tC G5 (look [(40, W5_40)]) c5_34 p5_34 x = j5_34 x := j5_34_run0 x.1 x.2.1 x.2.2.1 x.2.2.2.1 x.2.2.2.2.1 x.2.2.2.2.2.1 x.2.2.2.2.2.2.1 x.2.2.2.2.2.2.2.1 x.2.2.2.2.2.2.2.2.1 x.2.2.2.2.2.2.2.2.2.1 x.2.2.2.2.2.2.2.2.2.2.1 x.2.2.2.2.2.2.2.2.2.2.2.1 x.2.2.2.2.2.2.2.2.2.2.2.2.1
noncomputable def W5_34 : LF tC := cutLF tC p5_34 j5_34
theorem W5_34_ok : keyed 34 (bodyOf Tryd.f5) = [c5_34] ∧ ∀ n, n ≤ 0 → Snd tC n c5_34 W5_34.k := ⟨by kernel_rfl, fun n hn => cut_ok (p := p5_34) Y5 (lam_le (lam_cons W5_40_ok lam_nil) n hn) hn j5_34_run⟩
def S5 : FS := ⟨[[.v, .v, .s 5], [.v, .v], [.v, .v, .v, .v]], [⟨[.one (.agg [.int .i64, .int .i64, .imm 5]), .one (.agg [.int .i64, .int .i64]), .one (.agg [.int .u16, .int .u16, .int .u16, .int .u16])], []⟩], [⟨[vO], []⟩], [[.v]], []⟩
noncomputable def f5 (x : Int × Int × List Int × Int × Int × Int × Int × Int × Int × Unit) : Option (Bool × Unit) :=
  (f12 ()).bind fun y54 =>
  bif !y54.fst then (f12 ()).bind fun y49 => some (y49.fst, ())
  else
    bif !f13 x.fst x.snd.fst x.snd.snd.fst then (f12 ()).bind fun y50 => some (y50.fst, ())
    else
      (f14
            (x.fst, x.snd.fst, x.snd.snd.fst, x.snd.snd.snd.fst, x.snd.snd.snd.snd.fst,
              IntKind.i64.wrap (x.snd.snd.snd.snd.snd.fst.tmod (1025 : Int)), ())).bind
        fun y53 =>
        bif !y53.fst then some (true, ())
        else
          bif IntKind.i64.wrap (IntKind.i64.wrap (x.snd.snd.snd.snd.snd.fst.tmod (1025 : Int)) + (1 : Int)) == (0 : Int) then none
          else
            bif
                IntKind.i64.wrap
                    ((IntKind.i64.wrap x.snd.snd.snd.snd.snd.snd.fst).tmod
                        (IntKind.i64.wrap (IntKind.i64.wrap (x.snd.snd.snd.snd.snd.fst.tmod (1025 : Int)) + (1 : Int))) +
                      (1 : Int)) ==
                  (0 : Int) then
              none
            else
              bif bits BinOp.and IntKind.u16 x.snd.snd.snd.snd.snd.snd.snd.snd.fst (1 : Int) != (0 : Int) then
                (j5_34
                      (IntKind.i64.wrap (x.snd.snd.snd.snd.snd.fst.tmod (1025 : Int)),
                        (IntKind.i64.wrap x.snd.snd.snd.snd.snd.snd.fst).tmod
                          (IntKind.i64.wrap (IntKind.i64.wrap (x.snd.snd.snd.snd.snd.fst.tmod (1025 : Int)) + (1 : Int))),
                        IntKind.i64.wrap
                          ((0 : Int) -
                            (IntKind.i64.wrap x.snd.snd.snd.snd.snd.snd.snd.fst).tmod
                              (IntKind.i64.wrap
                                ((IntKind.i64.wrap x.snd.snd.snd.snd.snd.snd.fst).tmod
                                    (IntKind.i64.wrap (IntKind.i64.wrap (x.snd.snd.snd.snd.snd.fst.tmod (1025 : Int)) + (1 : Int))) +
                                  (1 : Int)))),
                        IntKind.i64.wrap
                          ((IntKind.i64.wrap x.snd.snd.snd.snd.snd.snd.fst).tmod
                              (IntKind.i64.wrap (IntKind.i64.wrap (x.snd.snd.snd.snd.snd.fst.tmod (1025 : Int)) + (1 : Int))) -
                            (IntKind.i64.wrap x.snd.snd.snd.snd.snd.snd.snd.fst).tmod
                              (IntKind.i64.wrap
                                ((IntKind.i64.wrap x.snd.snd.snd.snd.snd.snd.fst).tmod
                                    (IntKind.i64.wrap (IntKind.i64.wrap (x.snd.snd.snd.snd.snd.fst.tmod (1025 : Int)) + (1 : Int))) +
                                  (1 : Int)))),
                        x.fst, x.snd.fst, x.snd.snd.fst, x.snd.snd.snd.fst, x.snd.snd.snd.snd.fst, x.snd.snd.snd.snd.snd.fst,
                        x.snd.snd.snd.snd.snd.snd.fst, x.snd.snd.snd.snd.snd.snd.snd.fst, x.snd.snd.snd.snd.snd.snd.snd.snd.fst, ())).bind
                  fun y51 => some (y51.fst, ())
              else
                (j5_34
                      (IntKind.i64.wrap (x.snd.snd.snd.snd.snd.fst.tmod (1025 : Int)),
                        (IntKind.i64.wrap x.snd.snd.snd.snd.snd.snd.fst).tmod
                          (IntKind.i64.wrap (IntKind.i64.wrap (x.snd.snd.snd.snd.snd.fst.tmod (1025 : Int)) + (1 : Int))),
                        (IntKind.i64.wrap x.snd.snd.snd.snd.snd.snd.snd.fst).tmod
                          (IntKind.i64.wrap
                            ((IntKind.i64.wrap x.snd.snd.snd.snd.snd.snd.fst).tmod
                                (IntKind.i64.wrap (IntKind.i64.wrap (x.snd.snd.snd.snd.snd.fst.tmod (1025 : Int)) + (1 : Int))) +
                              (1 : Int))),
                        IntKind.i64.wrap
                          ((IntKind.i64.wrap x.snd.snd.snd.snd.snd.snd.fst).tmod
                              (IntKind.i64.wrap (IntKind.i64.wrap (x.snd.snd.snd.snd.snd.fst.tmod (1025 : Int)) + (1 : Int))) -
                            (IntKind.i64.wrap x.snd.snd.snd.snd.snd.snd.snd.fst).tmod
                              (IntKind.i64.wrap
                                ((IntKind.i64.wrap x.snd.snd.snd.snd.snd.snd.fst).tmod
                                    (IntKind.i64.wrap (IntKind.i64.wrap (x.snd.snd.snd.snd.snd.fst.tmod (1025 : Int)) + (1 : Int))) +
                                  (1 : Int)))),
                        x.fst, x.snd.fst, x.snd.snd.fst, x.snd.snd.snd.fst, x.snd.snd.snd.snd.fst, x.snd.snd.snd.snd.snd.fst,
                        x.snd.snd.snd.snd.snd.snd.fst, x.snd.snd.snd.snd.snd.snd.snd.fst, x.snd.snd.snd.snd.snd.snd.snd.snd.fst, ())).bind
                  fun y52 => some (y52.fst, ())
noncomputable def F5 : CF tC := mkF tC S5 f5
theorem f5_run : ∀ a, fnS tC G5 (look [(34, W5_34)]) Tryd.f5 S5 a = f5 a := fun a => by kernel_rfl
theorem F5_ok : CFOK tC 5 F5 := mkF_ok Y5 (fn := Tryd.f5) (body := bodyOf Tryd.f5) (by kernel_rfl) (by kernel_rfl) (by kernel_rfl) (m := 0) rfl (lam_le (lam_cons W5_34_ok lam_nil)) f5_run

/-! FloorChecks -/
noncomputable def G6 : FuncId → Option (CF tC) := look [(12, F12), (13, F13), (20, F20), (21, F21), (22, F22), (23, F23), (24, F24), (25, F25)]
theorem Y6 : SysN tC G6 := (sys_cons F12_ok (mkF_nat _ _) (sys_cons F13_ok (mkF_nat _ _) (sys_cons F20_ok (mkF_nat _ _) (sys_cons F21_ok (mkF_nat _ _) (sys_cons F22_ok (mkF_nat _ _) (sys_cons F23_ok (mkF_nat _ _) (sys_cons F24_ok (mkF_nat _ _) (sys_cons F25_ok (mkF_nat _ _) (sys_nil tC_ok tC_eq)))))))))
def S6 : FS := ⟨[[.v, .v, .s 5], [.v, .v], [.v, .v]], [⟨[.one (.agg [.int .i64, .int .i64, .imm 5]), .one (.agg [.int .i64, .int .i64]), .one (.agg [.int .i64, .int .i64])], []⟩], [⟨[vO], []⟩], [[.v]], []⟩
noncomputable def f6 (x : Int × Int × List Int × Int × Int × Int × Int × Unit) : Option (Bool × Unit) :=
  (f12 ()).bind fun y26 =>
  bif !y26.fst then (f12 ()).bind fun y18 => some (y18.fst, ())
  else
    bif !f13 x.fst x.snd.fst x.snd.snd.fst then (f12 ()).bind fun y19 => some (y19.fst, ())
    else
      (f20 (x.fst, x.snd.fst, x.snd.snd.fst, ())).bind fun y25 =>
        (f21 (x.fst, x.snd.fst, x.snd.snd.fst, ())).bind fun y24 =>
          bif y25.fst == y24.fst then
            (f22 (x.fst, x.snd.fst, x.snd.snd.fst, ())).bind fun y23 =>
              (f23 (x.fst, x.snd.fst, x.snd.snd.fst, ())).bind fun y22 =>
                bif y23.fst == y22.fst then
                  (f24
                        (x.fst, x.snd.fst, x.snd.snd.fst, x.snd.snd.snd.fst, x.snd.snd.snd.snd.fst, x.snd.snd.snd.snd.snd.fst,
                          x.snd.snd.snd.snd.snd.snd.fst, ())).bind
                    fun y21 =>
                    (f25
                          (x.fst, x.snd.fst, x.snd.snd.fst, x.snd.snd.snd.fst, x.snd.snd.snd.snd.fst, x.snd.snd.snd.snd.snd.fst,
                            x.snd.snd.snd.snd.snd.snd.fst, ())).bind
                      fun y20 => some (y21.fst == y20.fst, ())
                else some (false, ())
          else some (false, ())
noncomputable def F6 : CF tC := mkF tC S6 f6
theorem f6_run : ∀ a, fnS tC G6 (look []) Tryd.f6 S6 a = f6 a := fun a => by kernel_rfl
theorem F6_ok : CFOK tC 6 F6 := mkF_ok Y6 (fn := Tryd.f6) (body := bodyOf Tryd.f6) (by kernel_rfl) (by kernel_rfl) (by kernel_rfl) (m := 0) rfl (lam_le lam_nil) f6_run

/-! FloorTurns -/
noncomputable def G7 : FuncId → Option (CF tC) := look [(12, F12), (13, F13), (26, F26), (27, F27), (19, F19)]
theorem Y7 : SysN tC G7 := (sys_cons F12_ok (mkF_nat _ _) (sys_cons F13_ok (mkF_nat _ _) (sys_cons F26_ok (mkF_nat _ _) (sys_cons F27_ok (mkF_nat _ _) (sys_cons F19_ok (mkF_nat _ _) (sys_nil tC_ok tC_eq))))))
def S7 : FS := ⟨[[.v, .v, .s 5], [.v]], [⟨[.one (.agg [.int .i64, .int .i64, .imm 5]), vI], []⟩], [⟨[vO], []⟩], [[.v]], []⟩
noncomputable def f7 (x : Int × Int × List Int × Int × Unit) : Option (Bool × Unit) :=
  (f12 ()).bind fun y21 =>
  bif !y21.fst then (f12 ()).bind fun y17 => some (y17.fst, ())
  else
    bif !f13 x.fst x.snd.fst x.snd.snd.fst then (f12 ()).bind fun y18 => some (y18.fst, ())
    else
      (f26 (x.fst, x.snd.fst, x.snd.snd.fst, x.snd.snd.snd.fst, ())).bind fun y20 =>
        (f27 (x.fst, x.snd.fst, x.snd.snd.fst, x.snd.snd.snd.fst, ())).bind fun y19 =>
          bif y20.snd.snd.snd.fst == y19.snd.snd.snd.fst then
            some (f19 y20.fst y20.snd.fst y20.snd.snd.fst y19.fst y19.snd.fst y19.snd.snd.fst, ())
          else some (false, ())
noncomputable def F7 : CF tC := mkF tC S7 f7
theorem f7_run : ∀ a, fnS tC G7 (look []) Tryd.f7 S7 a = f7 a := fun a => by kernel_rfl
theorem F7_ok : CFOK tC 7 F7 := mkF_ok Y7 (fn := Tryd.f7) (body := bodyOf Tryd.f7) (by kernel_rfl) (by kernel_rfl) (by kernel_rfl) (m := 0) rfl (lam_le lam_nil) f7_run

/-! FloorFour -/
noncomputable def G8 : FuncId → Option (CF tC) := look [(12, F12), (13, F13), (28, F28), (26, F26), (29, F29), (19, F19)]
theorem Y8 : SysN tC G8 := (sys_cons F12_ok (mkF_nat _ _) (sys_cons F13_ok (mkF_nat _ _) (sys_cons F28_ok (mkF_nat _ _) (sys_cons F26_ok (mkF_nat _ _) (sys_cons F29_ok (mkF_nat _ _) (sys_cons F19_ok (mkF_nat _ _) (sys_nil tC_ok tC_eq)))))))
def S8 : FS := ⟨[[.v, .v, .s 5], [.v], [.v]], [⟨[.one (.agg [.int .i64, .int .i64, .imm 5]), vI, vI], []⟩], [⟨[vO], []⟩], [[.v]], []⟩
noncomputable def f8 (x : Int × Int × List Int × Int × Int × Unit) : Option (Bool × Unit) :=
  (f12 ()).bind fun y38 =>
  bif !y38.fst then (f12 ()).bind fun y29 => some (y29.fst, ())
  else
    bif !f13 x.fst x.snd.fst x.snd.snd.fst then (f12 ()).bind fun y30 => some (y30.fst, ())
    else
      (f28 (x.snd.snd.snd.fst, (100 : Int), ())).bind fun y37 =>
        (f28 (x.snd.snd.snd.snd.fst, (100 : Int), ())).bind fun y36 =>
          (f26 (x.fst, x.snd.fst, x.snd.snd.fst, y37.fst, ())).bind fun y35 =>
            bif y35.snd.snd.snd.fst != (0 : Int) then
              bif y35.snd.snd.snd.fst == (1 : Int) then (f29 (x.fst, x.snd.fst, x.snd.snd.fst, ())).bind fun y31 => some (!y31.fst, ())
              else some (false, ())
            else
              (f26 (y35.fst, y35.snd.fst, y35.snd.snd.fst, y36.fst, ())).bind fun y34 =>
                (f26 (x.fst, x.snd.fst, x.snd.snd.fst, IntKind.i64.wrap (y37.fst + y36.fst), ())).bind fun y33 =>
                  (f26 (y35.fst, y35.snd.fst, y35.snd.snd.fst, IntKind.i64.wrap ((4 : Int) - y37.fst.tmod (4 : Int)), ())).bind fun y32 =>
                    bif y34.snd.snd.snd.fst == (0 : Int) then
                      bif y33.snd.snd.snd.fst == (0 : Int) then
                        bif y32.snd.snd.snd.fst == (0 : Int) then
                          bif f19 y34.fst y34.snd.fst y34.snd.snd.fst y33.fst y33.snd.fst y33.snd.snd.fst then
                            some (f19 y32.fst y32.snd.fst y32.snd.snd.fst x.fst x.snd.fst x.snd.snd.fst, ())
                          else some (false, ())
                        else some (false, ())
                      else some (false, ())
                    else some (false, ())
noncomputable def F8 : CF tC := mkF tC S8 f8
theorem f8_run : ∀ a, fnS tC G8 (look []) Tryd.f8 S8 a = f8 a := fun a => by kernel_rfl
theorem F8_ok : CFOK tC 8 F8 := mkF_ok Y8 (fn := Tryd.f8) (body := bodyOf Tryd.f8) (by kernel_rfl) (by kernel_rfl) (by kernel_rfl) (m := 0) rfl (lam_le lam_nil) f8_run

/-! FloorKeeps -/
noncomputable def G9 : FuncId → Option (CF tC) := look [(12, F12), (13, F13), (26, F26), (29, F29), (28, F28), (30, F30), (14, F14), (24, F24)]
theorem Y9 : SysN tC G9 := (sys_cons F12_ok (mkF_nat _ _) (sys_cons F13_ok (mkF_nat _ _) (sys_cons F26_ok (mkF_nat _ _) (sys_cons F29_ok (mkF_nat _ _) (sys_cons F28_ok (mkF_nat _ _) (sys_cons F30_ok (mkF_nat _ _) (sys_cons F14_ok (mkF_nat _ _) (sys_cons F24_ok (mkF_nat _ _) (sys_nil tC_ok tC_eq)))))))))
def S9 : FS := ⟨[[.v, .v, .s 5], [.v, .v], [.v, .v, .v, .v]], [⟨[.one (.agg [.int .i64, .int .i64, .imm 5]), .one (.agg [.int .i64, .int .i64]), .one (.agg [.int .i64, .int .i64, .int .i64, .int .i64])], []⟩], [⟨[vO], []⟩], [[.v]], []⟩
noncomputable def f9 (x : Int × Int × List Int × Int × Int × Int × Int × Int × Int × Unit) : Option (Bool × Unit) :=
  (f12 ()).bind fun y41 =>
  bif !y41.fst then (f12 ()).bind fun y28 => some (y28.fst, ())
  else
    bif !f13 x.fst x.snd.fst x.snd.snd.fst then (f12 ()).bind fun y29 => some (y29.fst, ())
    else
      (f26 (x.fst, x.snd.fst, x.snd.snd.fst, (1 : Int), ())).bind fun y40 =>
        (f29 (x.fst, x.snd.fst, x.snd.snd.fst, ())).bind fun y39 =>
          bif !y39.fst then some (y40.snd.snd.snd.fst == (1 : Int), ())
          else
            bif y40.snd.snd.snd.fst != (0 : Int) then some (false, ())
            else
              (f28 (x.snd.snd.snd.fst, (200 : Int), ())).bind fun y38 =>
                (f28 (x.snd.snd.snd.snd.snd.fst, x.fst, ())).bind fun y37 =>
                  (f28 (x.snd.snd.snd.snd.snd.snd.fst, x.snd.fst, ())).bind fun y36 =>
                    (f28 (x.snd.snd.snd.snd.snd.snd.snd.fst, x.fst, ())).bind fun y35 =>
                      (f28 (x.snd.snd.snd.snd.snd.snd.snd.snd.fst, x.snd.fst, ())).bind fun y34 =>
                        (f14
                              (x.fst, x.snd.fst, x.snd.snd.fst, f30 x.snd.snd.snd.fst (-5000 : Int) (5000 : Int),
                                f30 x.snd.snd.snd.snd.fst (-5000 : Int) (5000 : Int), y38.fst, ())).bind
                          fun y33 =>
                          (f14
                                (y40.fst, y40.snd.fst, y40.snd.snd.fst,
                                  IntKind.i64.wrap
                                    (IntKind.i64.wrap (x.snd.fst * (64 : Int)) - f30 x.snd.snd.snd.snd.fst (-5000 : Int) (5000 : Int)),
                                  f30 x.snd.snd.snd.fst (-5000 : Int) (5000 : Int), y38.fst, ())).bind
                            fun y32 =>
                            bif y33.fst == y32.fst then
                              (f24 (x.fst, x.snd.fst, x.snd.snd.fst, y37.fst, y36.fst, y35.fst, y34.fst, ())).bind fun y31 =>
                                (f24
                                      (y40.fst, y40.snd.fst, y40.snd.snd.fst,
                                        IntKind.i64.wrap (IntKind.i64.wrap (x.snd.fst - (1 : Int)) - y36.fst), y37.fst,
                                        IntKind.i64.wrap (IntKind.i64.wrap (x.snd.fst - (1 : Int)) - y34.fst), y35.fst, ())).bind
                                  fun y30 => some (y31.fst == y30.fst, ())
                            else some (false, ())
noncomputable def F9 : CF tC := mkF tC S9 f9
theorem f9_run : ∀ a, fnS tC G9 (look []) Tryd.f9 S9 a = f9 a := fun a => by kernel_rfl
theorem F9_ok : CFOK tC 9 F9 := mkF_ok Y9 (fn := Tryd.f9) (body := bodyOf Tryd.f9) (by kernel_rfl) (by kernel_rfl) (by kernel_rfl) (m := 0) rfl (lam_le lam_nil) f9_run
end Go.AE
