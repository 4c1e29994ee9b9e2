/-
  The plain functions that the seat's Go functions compute, each with the proof that the function keeps it. Printed by the generator (Gen2) and checked by the kernel.
-/
import Derived.Test.YtcphmffpkjngiaaFb
namespace Go.AE
open Go.Proofs Go.RowKit
set_option maxRecDepth 100000

/-! JournalEncodes -/
noncomputable def G3 : FuncId → Option (CF tC) := look [(11, F11), (12, F12), (13, F13), (14, F14), (15, F15), (16, F16)]
theorem Y3 : SysN tC G3 := (sys_cons F11_ok (mkF_nat _ _) (sys_cons F12_ok (mkF_nat _ _) (sys_cons F13_ok (mkF_nat _ _) (sys_cons F14_ok (mkF_nat _ _) (sys_cons F15_ok (mkF_nat _ _) (sys_cons F16_ok (mkF_nat _ _) (sys_nil tC_ok tC_eq)))))))
def S3 : FS := ⟨[[.v, .v, .v, .v, .s 46]], [⟨[.one (.agg [.int .i64, .int .i64, .int .i64, .bool, .imm 46])], []⟩], [⟨[vO], []⟩], [[.v]], []⟩
noncomputable def f3 (x : Int × Int × Int × Bool × List Bm × Unit) : Option (Bool × Unit) :=
  (f11 ()).bind fun y25 =>
  bif !y25.fst then (f11 ()).bind fun y19 => some (y19.fst, ())
  else
    bif decide ((↑x.snd.snd.snd.snd.fst.length : Int) > (500 : Int)) then (f11 ()).bind fun y20 => some (y20.fst, ())
    else
      (f12 (x.fst, x.snd.fst, x.snd.snd.fst, x.snd.snd.snd.fst, x.snd.snd.snd.snd.fst, ())).bind fun y24 =>
        (f13 (x.fst, x.snd.fst, x.snd.snd.fst, x.snd.snd.snd.fst, x.snd.snd.snd.snd.fst, ())).bind fun y23 =>
          bif !f14 y24.fst y23.fst then some (false, ())
          else
            (f15 (y24.fst, ())).bind fun y22 =>
              bif (↑y23.fst.length : Int) == (0 : Int) then some (y22.snd.snd.snd.snd.snd.fst == (4 : Int), ())
              else
                bif y22.snd.snd.snd.snd.snd.fst == (0 : Int) then
                  (f16
                        (y22.fst, y22.snd.fst, y22.snd.snd.fst, y22.snd.snd.snd.fst, y22.snd.snd.snd.snd.fst, x.fst, x.snd.fst,
                          x.snd.snd.fst, x.snd.snd.snd.fst, x.snd.snd.snd.snd.fst, ())).bind
                    fun y21 => some (y21.fst, ())
                else some (false, ())
noncomputable def F3 : CF tC := mkF tC S3 f3
theorem f3_run : ∀ a, fnS tC G3 (look []) Try.f3 S3 a = f3 a := fun a => by kernel_rfl
theorem F3_ok : CFOK tC 3 F3 := mkF_ok Y3 (fn := Try.f3) (body := bodyOf Try.f3) (by kernel_rfl) (by kernel_rfl) (by kernel_rfl) (m := 0) rfl (lam_le lam_nil) f3_run

/-! JournalDecodes -/
noncomputable def G4 : FuncId → Option (CF tC) := look [(11, F11), (15, F15), (17, F17), (16, F16), (12, F12), (14, F14)]
theorem Y4 : SysN tC G4 := (sys_cons F11_ok (mkF_nat _ _) (sys_cons F15_ok (mkF_nat _ _) (sys_cons F17_ok (mkF_nat _ _) (sys_cons F16_ok (mkF_nat _ _) (sys_cons F12_ok (mkF_nat _ _) (sys_cons F14_ok (mkF_nat _ _) (sys_nil tC_ok tC_eq)))))))
def S4 : FS := ⟨[[.s 5]], [⟨[.one (.one (.imm 5))], []⟩], [⟨[vO], []⟩], [[.v]], []⟩
noncomputable def f4 (x : List Int × Unit) : Option (Bool × Unit) :=
  (f11 ()).bind fun y26 =>
  bif !y26.fst then (f11 ()).bind fun y20 => some (y20.fst, ())
  else
    bif decide ((↑x.fst.length : Int) > (3000 : Int)) then (f11 ()).bind fun y21 => some (y21.fst, ())
    else
      (f15 (x.fst, ())).bind fun y25 =>
        (f17 (x.fst, ())).bind fun y24 =>
          bif y25.snd.snd.snd.snd.snd.fst == y24.snd.snd.snd.snd.snd.fst then
            (f16
                  (y25.fst, y25.snd.fst, y25.snd.snd.fst, y25.snd.snd.snd.fst, y25.snd.snd.snd.snd.fst, y24.fst, y24.snd.fst,
                    y24.snd.snd.fst, y24.snd.snd.snd.fst, y24.snd.snd.snd.snd.fst, ())).bind
              fun y23 =>
              bif y23.fst then
                bif y25.snd.snd.snd.snd.snd.fst != (0 : Int) then some (true, ())
                else
                  (f12 (y25.fst, y25.snd.fst, y25.snd.snd.fst, y25.snd.snd.snd.fst, y25.snd.snd.snd.snd.fst, ())).bind fun y22 =>
                    some (f14 y22.fst x.fst, ())
              else some (false, ())
          else some (false, ())
noncomputable def F4 : CF tC := mkF tC S4 f4
theorem f4_run : ∀ a, fnS tC G4 (look []) Try.f4 S4 a = f4 a := fun a => by kernel_rfl
theorem F4_ok : CFOK tC 4 F4 := mkF_ok Y4 (fn := Try.f4) (body := bodyOf Try.f4) (by kernel_rfl) (by kernel_rfl) (by kernel_rfl) (m := 0) rfl (lam_le lam_nil) f4_run

/-! JournalQueries -/
noncomputable def G6 : FuncId → Option (CF tC) := look [(11, F11), (18, F18), (19, F19), (20, F20), (22, F22), (23, F23), (29, F29), (30, F30), (16, F16), (32, F32), (33, F33), (31, F31)]
theorem Y6 : SysN tC G6 := (sys_cons F11_ok (mkF_nat _ _) (sys_cons F18_ok (mkF_nat _ _) (sys_cons F19_ok (mkF_nat _ _) (sys_cons F20_ok (mkF_nat _ _) (sys_cons F22_ok (mkF_nat _ _) (sys_cons F23_ok (mkF_nat _ _) (sys_cons F29_ok (mkF_nat _ _) (sys_cons F30_ok (mkF_nat _ _) (sys_cons F16_ok (mkF_nat _ _) (sys_cons F32_ok (mkF_nat _ _) (sys_cons F33_ok (mkF_nat _ _) (sys_cons F31_ok (mkF_nat _ _) (sys_nil tC_ok tC_eq)))))))))))))
noncomputable def c6_28 : Code := subCode (loopOf (bodyOf Try.f6) 0) 28
def p6_28 : PS := ⟨0, [0, 1, 2, 7, 8, 9], ⟨[.one (.one (.imm 26)), vI, vI] ++ vBs 4 ++ [.one (.one (.ptr 0 0 0)), .one (.one (.ptr 1 0 0)), vI] ++ vBs 63, [.box [.sl 2, .sl 3], .box [.sl 4], .arr 5, .arr 26, .arr 26]⟩, [⟨.normal, [0, 1, 2, 7, 8, 9], ⟨[.one (.one (.imm 26)), vI, vI] ++ vBs 4 ++ [.one (.one (.ptr 0 0 0)), .one (.one (.ptr 1 0 0)), vI] ++ vBs 63, [.box [.sl 2, .sl 3], .box [.sl 4], .arr 5, .arr 26, .arr 26]⟩, []⟩], []⟩
noncomputable def j6_28 (x : List Ev × Int × Int × Int × Nat × Nat × Nat × List Int × List Ev × List Ev × Unit) : Option (List Ev × Int × Int × Int × Nat × Nat × Nat × List Int × List Ev × List Ev × Unit) :=
  (idxO x.fst x.snd.snd.snd.fst).bind fun y60 =>
  bif decide ((0 : Nat) + x.snd.snd.snd.snd.snd.snd.fst ≤ x.snd.snd.snd.snd.snd.snd.snd.snd.snd.fst.length) then
    (f23
          (y60.T, y60.U, y60.F, y60.B, y60.S,
            List.take x.snd.snd.snd.snd.snd.snd.fst (List.drop (0 : Nat) x.snd.snd.snd.snd.snd.snd.snd.snd.snd.fst),
            x.snd.snd.snd.snd.snd.snd.fst, ())).bind
      fun y59 =>
      Sum.elim
        (fun y57 =>
          some
            (x.fst, x.snd.fst, x.snd.snd.fst, x.snd.snd.snd.fst, x.snd.snd.snd.snd.fst, x.snd.snd.snd.snd.snd.fst, y57.snd.snd.fst,
              x.snd.snd.snd.snd.snd.snd.snd.fst, x.snd.snd.snd.snd.snd.snd.snd.snd.fst, y57.snd.fst, ()))
        (fun y58 =>
          some
            (x.fst, x.snd.fst, x.snd.snd.fst, x.snd.snd.snd.fst, x.snd.snd.snd.snd.fst, x.snd.snd.snd.snd.snd.fst, y58.snd.snd.fst,
              x.snd.snd.snd.snd.snd.snd.snd.fst, x.snd.snd.snd.snd.snd.snd.snd.snd.fst, y58.snd.snd.snd.fst, ()))
        y59
  else none
theorem j6_28_run0 (v0 : List Ev) (v1 : Int) (v2 : Int) (v3 : Int) (v4 : Nat) (v5 : Nat) (v6 : Nat) (v7 : List Int) (v8 : List Ev) (v9 : List Ev) : pieceK tC G6 (look []) c6_28 p6_28 (v0, v1, v2, v3, v4, v5, v6, v7, v8, v9, ()) = j6_28 (v0, v1, v2, v3, v4, v5, v6, v7, v8, v9, ()) := by kernel_rfl
theorem j6_28_run (x : List Ev × Int × Int × Int × Nat × Nat × Nat × List Int × List Ev × List Ev × Unit) : pieceK tC G6 (look []) c6_28 p6_28 x = j6_28 x := j6_28_run0 x.1 x.2.1 x.2.2.1 x.2.2.2.1 x.2.2.2.2.1 x.2.2.2.2.2.1 x.2.2.2.2.2.2.1 x.2.2.2.2.2.2.2.1 x.2.2.2.2.2.2.2.2.1 x.2.2.2.2.2.2.2.2.2.1
noncomputable def W6_28 : LF tC := cutLF tC p6_28 j6_28
theorem W6_28_ok : keyed 28 (loopOf (bodyOf Try.f6) 0) = [c6_28] ∧ ∀ n, n ≤ 0 → Snd tC n c6_28 W6_28.k := ⟨by kernel_rfl, fun n hn => cut_ok (p := p6_28) Y6 (lam_le lam_nil n hn) hn j6_28_run⟩
noncomputable def c6_22 : Code := subCode (loopOf (bodyOf Try.f6) 0) 22
def p6_22 : PS := ⟨0, [0, 1, 2, 7, 8, 9], ⟨[.one (.one (.imm 26)), vI, vI] ++ vBs 4 ++ [.one (.one (.ptr 0 0 0)), .one (.one (.ptr 1 0 0)), vI] ++ vBs 63, [.box [.sl 2, .sl 3], .box [.sl 4], .arr 5, .arr 26, .arr 26]⟩, [⟨.normal, [0, 1, 2, 7, 8, 9], ⟨[.one (.one (.imm 26)), vI, vI] ++ vBs 4 ++ [.one (.one (.ptr 0 0 0)), .one (.one (.ptr 1 0 0)), vI] ++ vBs 63, [.box [.sl 2, .sl 3], .box [.sl 4], .arr 5, .arr 26, .arr 26]⟩, []⟩], []⟩
noncomputable def j6_22 (x : List Ev × Int × Int × Int × Nat × Nat × Nat × List Int × List Ev × List Ev × Unit) : Option (List Ev × Int × Int × Int × Nat × Nat × Nat × List Int × List Ev × List Ev × Unit) :=
  some
  (x.fst, x.snd.fst, x.snd.snd.fst, IntKind.i64.wrap (x.snd.snd.snd.fst + (1 : Int)), x.snd.snd.snd.snd.fst, x.snd.snd.snd.snd.snd.fst,
    x.snd.snd.snd.snd.snd.snd.fst, x.snd.snd.snd.snd.snd.snd.snd.fst, x.snd.snd.snd.snd.snd.snd.snd.snd.fst,
    x.snd.snd.snd.snd.snd.snd.snd.snd.snd.fst, ())
theorem j6_22_run0 (v0 : List Ev) (v1 : Int) (v2 : Int) (v3 : Int) (v4 : Nat) (v5 : Nat) (v6 : Nat) (v7 : List Int) (v8 : List Ev) (v9 : List Ev) : pieceK tC G6 (look []) c6_22 p6_22 (v0, v1, v2, v3, v4, v5, v6, v7, v8, v9, ()) = j6_22 (v0, v1, v2, v3, v4, v5, v6, v7, v8, v9, ()) := by kernel_rfl
theorem j6_22_run (x : List Ev × Int × Int × Int × Nat × Nat × Nat × List Int × List Ev × List Ev × Unit) : pieceK tC G6 (look []) c6_22 p6_22 x = j6_22 x := j6_22_run0 x.1 x.2.1 x.2.2.1 x.2.2.2.1 x.2.2.2.2.1 x.2.2.2.2.2.1 x.2.2.2.2.2.2.1 x.2.2.2.2.2.2.2.1 x.2.2.2.2.2.2.2.2.1 x.2.2.2.2.2.2.2.2.2.1
noncomputable def W6_22 : LF tC := cutLF tC p6_22 j6_22
theorem W6_22_ok : keyed 22 (loopOf (bodyOf Try.f6) 0) = [c6_22] ∧ ∀ n, n ≤ 0 → Snd tC n c6_22 W6_22.k := ⟨by kernel_rfl, fun n hn => cut_ok (p := p6_22) Y6 (lam_le lam_nil n hn) hn j6_22_run⟩
noncomputable def c6_0 : Code := loopOf (bodyOf Try.f6) 0
def p6_0 : LS := ⟨0, [0, 1, 2, 7, 8, 9], ⟨[.one (.one (.imm 26)), vI, vI] ++ vBs 4 ++ [.one (.one (.ptr 0 0 0)), .one (.one (.ptr 1 0 0)), vI] ++ vBs 63, [.box [.sl 2, .sl 3], .box [.sl 4], .arr 5, .arr 26, .arr 26]⟩, [⟨.exit 0, [1, 2, 7, 8], ⟨[vB, vI, vI] ++ vBs 4 ++ [.one (.one (.ptr 0 0 0)), .one (.one (.ptr 1 0 0))] ++ vBs 64, [.box [.sl 2, .sl 3], .box [.sl 4], .arr 5, .arr 26, .arr 26]⟩, []⟩], []⟩
noncomputable def r6_0 (x : List Ev × Int × Int × Int × Nat × Nat × Nat × List Int × List Ev × List Ev × Unit) : Option
  (List Ev × Int × Int × Int × Nat × Nat × Nat × List Int × List Ev × List Ev × Unit ⊕
    Int × Int × Nat × Nat × Nat × List Int × List Ev × List Ev × Unit) :=
  bif decide (x.snd.snd.snd.fst < (↑x.fst.length : Int)) then
  (idxO x.fst x.snd.snd.snd.fst).bind fun y136 =>
    bif decide ((0 : Nat) + x.snd.snd.snd.snd.fst ≤ x.snd.snd.snd.snd.snd.snd.snd.fst.length) then
      bif decide ((0 : Nat) + x.snd.snd.snd.snd.snd.fst ≤ x.snd.snd.snd.snd.snd.snd.snd.snd.fst.length) then
        (f22
              (y136.T, y136.U, y136.F, y136.B, y136.S,
                List.take x.snd.snd.snd.snd.fst (List.drop (0 : Nat) x.snd.snd.snd.snd.snd.snd.snd.fst),
                List.take x.snd.snd.snd.snd.snd.fst (List.drop (0 : Nat) x.snd.snd.snd.snd.snd.snd.snd.snd.fst), x.snd.snd.snd.snd.fst,
                x.snd.snd.snd.snd.snd.fst, ())).bind
          fun y135 =>
          Sum.elim
            (fun y131 =>
              (j6_28
                    (x.fst, x.snd.fst, x.snd.snd.fst, x.snd.snd.snd.fst, y131.snd.snd.snd.fst, y131.snd.snd.snd.snd.fst,
                      x.snd.snd.snd.snd.snd.snd.fst, y131.snd.fst, y131.snd.snd.fst, x.snd.snd.snd.snd.snd.snd.snd.snd.snd.fst, ())).bind
                fun y130 =>
                (j6_22
                      (y130.fst, y130.snd.fst, y130.snd.snd.fst, y130.snd.snd.snd.fst, y130.snd.snd.snd.snd.fst,
                        y130.snd.snd.snd.snd.snd.fst, y130.snd.snd.snd.snd.snd.snd.fst, y130.snd.snd.snd.snd.snd.snd.snd.fst,
                        y130.snd.snd.snd.snd.snd.snd.snd.snd.fst, y130.snd.snd.snd.snd.snd.snd.snd.snd.snd.fst, ())).bind
                  fun y129 =>
                  some
                    (Sum.inl
                      (y129.fst, y129.snd.fst, y129.snd.snd.fst, y129.snd.snd.snd.fst, y129.snd.snd.snd.snd.fst,
                        y129.snd.snd.snd.snd.snd.fst, y129.snd.snd.snd.snd.snd.snd.fst, y129.snd.snd.snd.snd.snd.snd.snd.fst,
                        y129.snd.snd.snd.snd.snd.snd.snd.snd.fst, y129.snd.snd.snd.snd.snd.snd.snd.snd.snd.fst, ())))
            (fun y134 =>
              (j6_28
                    (x.fst, x.snd.fst, x.snd.snd.fst, x.snd.snd.snd.fst, y134.snd.fst, y134.snd.snd.fst, x.snd.snd.snd.snd.snd.snd.fst,
                      y134.snd.snd.snd.fst, y134.snd.snd.snd.snd.fst, x.snd.snd.snd.snd.snd.snd.snd.snd.snd.fst, ())).bind
                fun y133 =>
                (j6_22
                      (y133.fst, y133.snd.fst, y133.snd.snd.fst, y133.snd.snd.snd.fst, y133.snd.snd.snd.snd.fst,
                        y133.snd.snd.snd.snd.snd.fst, y133.snd.snd.snd.snd.snd.snd.fst, y133.snd.snd.snd.snd.snd.snd.snd.fst,
                        y133.snd.snd.snd.snd.snd.snd.snd.snd.fst, y133.snd.snd.snd.snd.snd.snd.snd.snd.snd.fst, ())).bind
                  fun y132 =>
                  some
                    (Sum.inl
                      (y132.fst, y132.snd.fst, y132.snd.snd.fst, y132.snd.snd.snd.fst, y132.snd.snd.snd.snd.fst,
                        y132.snd.snd.snd.snd.snd.fst, y132.snd.snd.snd.snd.snd.snd.fst, y132.snd.snd.snd.snd.snd.snd.snd.fst,
                        y132.snd.snd.snd.snd.snd.snd.snd.snd.fst, y132.snd.snd.snd.snd.snd.snd.snd.snd.snd.fst, ())))
            y135
      else none
    else none
else
  some
    (Sum.inr
      (x.snd.fst, x.snd.snd.fst, x.snd.snd.snd.snd.fst, x.snd.snd.snd.snd.snd.fst, x.snd.snd.snd.snd.snd.snd.fst,
        x.snd.snd.snd.snd.snd.snd.snd.fst, x.snd.snd.snd.snd.snd.snd.snd.snd.fst, x.snd.snd.snd.snd.snd.snd.snd.snd.snd.fst, ()))
theorem r6_0_run0 (v0 : List Ev) (v1 : Int) (v2 : Int) (v3 : Int) (v4 : Nat) (v5 : Nat) (v6 : Nat) (v7 : List Int) (v8 : List Ev) (v9 : List Ev) : roundK tC G6 (look [(28, W6_28), (22, W6_22)]) c6_0 p6_0 (v0, v1, v2, v3, v4, v5, v6, v7, v8, v9, ()) = r6_0 (v0, v1, v2, v3, v4, v5, v6, v7, v8, v9, ()) := by kernel_rfl
theorem r6_0_run (x : List Ev × Int × Int × Int × Nat × Nat × Nat × List Int × List Ev × List Ev × Unit) : roundK tC G6 (look [(28, W6_28), (22, W6_22)]) c6_0 p6_0 x = r6_0 x := r6_0_run0 x.1 x.2.1 x.2.2.1 x.2.2.2.1 x.2.2.2.2.1 x.2.2.2.2.2.1 x.2.2.2.2.2.2.1 x.2.2.2.2.2.2.2.1 x.2.2.2.2.2.2.2.2.1 x.2.2.2.2.2.2.2.2.2.1
noncomputable def l6_0 (x : List Ev × Int × Int × Int × Nat × Nat × Nat × List Int × List Ev × List Ev × Unit) : Option (Int × Int × Nat × Nat × Nat × List Int × List Ev × List Ev × Unit) := iterO r6_0 x
noncomputable def W6_0 : LF tC := loopW tC p6_0 0 l6_0
theorem W6_0_ok : keyed 0 (bodyOf Try.f6) = [.block 0 (.loop c6_0)] ∧ ∀ n, n ≤ 0 → Snd tC n (.block 0 (.loop c6_0)) W6_0.k := ⟨by kernel_rfl, fun n hn => loopW_ok (p := p6_0) (id := 0) Y6 (lam_le (lam_cons W6_28_ok (lam_cons W6_22_ok lam_nil)) n hn) hn r6_0_run⟩
def S6 : FS := ⟨[[.s 26], [.v], [.v]], [⟨[.one (.one (.imm 26)), vI, vI], []⟩], [⟨[vO], []⟩], [[.v]], []⟩
noncomputable def f6 (x : List Ev × Int × Int × Unit) : Option (Bool × Unit) :=
  (f11 ()).bind fun y172 =>
  bif !y172.fst then (f11 ()).bind fun y162 => some (y162.fst, ())
  else
    (f18 (x.fst, ())).bind fun y171 =>
      bif !y171.fst then (f11 ()).bind fun y163 => some (y163.fst, ())
      else
        (l6_0
              (x.fst, x.snd.fst, x.snd.snd.fst, (0 : Int), f19.fst, f19.snd.fst, f20.fst, f19.snd.snd.fst, f19.snd.snd.snd, f20.snd,
                ())).bind
          fun y170 =>
          bif decide ((0 : Nat) + y170.snd.snd.fst ≤ y170.snd.snd.snd.snd.snd.fst.length) then
            bif decide ((0 : Nat) + y170.snd.snd.snd.fst ≤ y170.snd.snd.snd.snd.snd.snd.fst.length) then
              (f29
                    (List.take y170.snd.snd.fst (List.drop (0 : Nat) y170.snd.snd.snd.snd.snd.fst),
                      List.take y170.snd.snd.snd.fst (List.drop (0 : Nat) y170.snd.snd.snd.snd.snd.snd.fst), y170.fst, ())).bind
                fun y169 =>
                bif decide ((0 : Nat) + y170.snd.snd.snd.snd.fst ≤ y170.snd.snd.snd.snd.snd.snd.snd.fst.length) then
                  (f30 (List.take y170.snd.snd.snd.snd.fst (List.drop (0 : Nat) y170.snd.snd.snd.snd.snd.snd.snd.fst), y170.fst, ())).bind
                    fun y168 =>
                    (f16
                          (y169.fst, y169.snd.fst, y169.snd.snd.fst, y169.snd.snd.snd.fst, y169.snd.snd.snd.snd.fst, y168.fst, y168.snd.fst,
                            y168.snd.snd.fst, y168.snd.snd.snd.fst, y168.snd.snd.snd.snd.fst, ())).bind
                      fun y167 =>
                      bif y167.fst then
                        bif y169.snd.snd.snd.snd.snd.fst == y168.snd.snd.snd.snd.snd.fst then
                          bif decide ((0 : Nat) + y170.snd.snd.fst ≤ y170.snd.snd.snd.snd.snd.fst.length) then
                            bif decide ((0 : Nat) + y170.snd.snd.snd.fst ≤ y170.snd.snd.snd.snd.snd.snd.fst.length) then
                              (f32
                                    (List.take y170.snd.snd.fst (List.drop (0 : Nat) y170.snd.snd.snd.snd.snd.fst),
                                      List.take y170.snd.snd.snd.fst (List.drop (0 : Nat) y170.snd.snd.snd.snd.snd.snd.fst), y170.fst,
                                      y170.snd.fst, ())).bind
                                fun y166 =>
                                bif decide ((0 : Nat) + y170.snd.snd.snd.snd.fst ≤ y170.snd.snd.snd.snd.snd.snd.snd.fst.length) then
                                  (f33
                                        (List.take y170.snd.snd.snd.snd.fst (List.drop (0 : Nat) y170.snd.snd.snd.snd.snd.snd.snd.fst),
                                          y170.fst, y170.snd.fst, ())).bind
                                    fun y165 => (f31 (y166.fst, y165.fst, ())).bind fun y164 => some (y164.fst, ())
                                else none
                            else none
                          else none
                        else some (false, ())
                      else some (false, ())
                else none
            else none
          else none
noncomputable def F6 : CF tC := mkF tC S6 f6
theorem f6_run : ∀ a, fnS tC G6 (look [(0, W6_0)]) Try.f6 S6 a = f6 a := fun a => by kernel_rfl
theorem F6_ok : CFOK tC 6 F6 := mkF_ok Y6 (fn := Try.f6) (body := bodyOf Try.f6) (by kernel_rfl) (by kernel_rfl) (by kernel_rfl) (m := 0) rfl (lam_le (lam_cons W6_0_ok lam_nil)) f6_run

/-! JournalFlips -/
noncomputable def G7 : FuncId → Option (CF tC) := look [(11, F11), (18, F18), (20, F20), (23, F23), (34, F34), (25, F25), (35, F35), (14, F14), (36, F36), (37, F37), (38, F38), (28, F28), (31, F31)]
theorem Y7 : SysN tC G7 := (sys_cons F11_ok (mkF_nat _ _) (sys_cons F18_ok (mkF_nat _ _) (sys_cons F20_ok (mkF_nat _ _) (sys_cons F23_ok (mkF_nat _ _) (sys_cons F34_ok (mkF_nat _ _) (sys_cons F25_ok (mkF_nat _ _) (sys_cons F35_ok (mkF_nat _ _) (sys_cons F14_ok (mkF_nat _ _) (sys_cons F36_ok (mkF_nat _ _) (sys_cons F37_ok (mkF_nat _ _) (sys_cons F38_ok (mkF_nat _ _) (sys_cons F28_ok (mkF_nat _ _) (sys_cons F31_ok (mkF_nat _ _) (sys_nil tC_ok tC_eq))))))))))))))
noncomputable def c7_0 : Code := loopOf (bodyOf Try.f7) 0
def p7_0 : LS := ⟨0, [0, 1, 2, 7, 8], ⟨[.one (.one (.imm 26)), .one (.one (.int .u16)), .one (.one (.int .u8))] ++ vBs 4 ++ [.one (.one (.ptr 0 0 0)), vI] ++ vBs 95, [.box [.sl 1], .arr 26]⟩, [⟨.exit 0, [0, 1, 2, 7], ⟨[.one (.one (.imm 26)), .one (.one (.int .u16)), .one (.one (.int .u8))] ++ vBs 4 ++ [.one (.one (.ptr 0 0 0))] ++ vBs 96, [.box [.sl 1], .arr 26]⟩, []⟩], []⟩
noncomputable def r7_0 (x : List Ev × Int × Int × Int × Nat × List Ev × Unit) : Option (List Ev × Int × Int × Int × Nat × List Ev × Unit ⊕ List Ev × Int × Int × Nat × List Ev × Unit) :=
  bif decide (x.snd.snd.snd.fst < (↑x.fst.length : Int)) then
  (idxO x.fst x.snd.snd.snd.fst).bind fun y31 =>
    bif decide ((0 : Nat) + x.snd.snd.snd.snd.fst ≤ x.snd.snd.snd.snd.snd.fst.length) then
      (f23
            (y31.T, y31.U, y31.F, y31.B, y31.S, List.take x.snd.snd.snd.snd.fst (List.drop (0 : Nat) x.snd.snd.snd.snd.snd.fst),
              x.snd.snd.snd.snd.fst, ())).bind
        fun y30 =>
        Sum.elim
          (fun y28 =>
            some
              (Sum.inl
                (x.fst, x.snd.fst, x.snd.snd.fst, IntKind.i64.wrap (x.snd.snd.snd.fst + (1 : Int)), y28.snd.snd.fst, y28.snd.fst, ())))
          (fun y29 =>
            some
              (Sum.inl
                (x.fst, x.snd.fst, x.snd.snd.fst, IntKind.i64.wrap (x.snd.snd.snd.fst + (1 : Int)), y29.snd.snd.fst, y29.snd.snd.snd.fst,
                  ())))
          y30
    else none
else some (Sum.inr (x.fst, x.snd.fst, x.snd.snd.fst, x.snd.snd.snd.snd.fst, x.snd.snd.snd.snd.snd.fst, ()))
theorem r7_0_run0 (v0 : List Ev) (v1 : Int) (v2 : Int) (v3 : Int) (v4 : Nat) (v5 : List Ev) : roundK tC G7 (look []) c7_0 p7_0 (v0, v1, v2, v3, v4, v5, ()) = r7_0 (v0, v1, v2, v3, v4, v5, ()) := by kernel_rfl
theorem r7_0_run (x : List Ev × Int × Int × Int × Nat × List Ev × Unit) : roundK tC G7 (look []) c7_0 p7_0 x = r7_0 x := r7_0_run0 x.1 x.2.1 x.2.2.1 x.2.2.2.1 x.2.2.2.2.1 x.2.2.2.2.2.1
noncomputable def l7_0 (x : List Ev × Int × Int × Int × Nat × List Ev × Unit) : Option (List Ev × Int × Int × Nat × List Ev × Unit) := iterO r7_0 x
noncomputable def W7_0 : LF tC := loopW tC p7_0 0 l7_0
theorem W7_0_ok : keyed 0 (bodyOf Try.f7) = [.block 0 (.loop c7_0)] ∧ ∀ n, n ≤ 0 → Snd tC n (.block 0 (.loop c7_0)) W7_0.k := ⟨by kernel_rfl, fun n hn => loopW_ok (p := p7_0) (id := 0) Y7 (lam_le lam_nil n hn) hn r7_0_run⟩
def S7 : FS := ⟨[[.s 26], [.v], [.v]], [⟨[.one (.one (.imm 26)), .one (.one (.int .u16)), .one (.one (.int .u8))], []⟩], [⟨[vO], []⟩], [[.v]], []⟩
noncomputable def f7 (x : List Ev × Int × Int × Unit) : Option (Bool × Unit) :=
  (f11 ()).bind fun y73 =>
  bif !y73.fst then (f11 ()).bind fun y55 => some (y55.fst, ())
  else
    (f18 (x.fst, ())).bind fun y72 =>
      bif !y72.fst then (f11 ()).bind fun y56 => some (y56.fst, ())
      else
        bif x.snd.snd.fst == (0 : Int) then (f11 ()).bind fun y57 => some (y57.fst, ())
        else
          (l7_0 (x.fst, x.snd.fst, x.snd.snd.fst, (0 : Int), f20.fst, f20.snd, ())).bind fun y71 =>
            (f34 (y71.fst, ())).bind fun y70 =>
              bif decide ((0 : Nat) + y70.fst ≤ y70.snd.snd.fst.length) then
                bif decide ((0 : Nat) + y70.snd.fst ≤ y70.snd.snd.snd.fst.length) then
                  (f25
                        (List.take y70.fst (List.drop (0 : Nat) y70.snd.snd.fst),
                          List.take y70.snd.fst (List.drop (0 : Nat) y70.snd.snd.snd.fst), ())).bind
                    fun y69 =>
                    bif roomy ((0 : Nat) + y69.fst.length) (1 : Nat) then
                      bif decide ((0 : Nat) + y71.snd.snd.snd.fst ≤ y71.snd.snd.snd.snd.fst.length) then
                        (f35 (List.take y71.snd.snd.snd.fst (List.drop (0 : Nat) y71.snd.snd.snd.snd.fst), ())).bind fun y68 =>
                          bif decide ((0 : Nat) + ((0 : Nat) + y69.fst.length) ≤ ([] ++ y69.fst).length) then
                            bif !f14 (List.take ((0 : Nat) + y69.fst.length) (List.drop (0 : Nat) ([] ++ y69.fst))) y68.fst then
                              bif (↑((0 : Nat) + y69.fst.length) : Int) == (4 : Int) then
                                bif decide ((0 : Nat) + y71.snd.snd.snd.fst ≤ y71.snd.snd.snd.snd.fst.length) then
                                  some (f36 (List.take y71.snd.snd.snd.fst (List.drop (0 : Nat) y71.snd.snd.snd.snd.fst)) == (0 : Int), ())
                                else none
                              else some (false, ())
                            else
                              bif decide ((↑((0 : Nat) + y69.fst.length) : Int) < (5 : Int)) then
                                bif (↑((0 : Nat) + y69.fst.length) : Int) == (4 : Int) then
                                  bif decide ((0 : Nat) + y71.snd.snd.snd.fst ≤ y71.snd.snd.snd.snd.fst.length) then
                                    some
                                      (f36 (List.take y71.snd.snd.snd.fst (List.drop (0 : Nat) y71.snd.snd.snd.snd.fst)) == (0 : Int), ())
                                  else none
                                else some (false, ())
                              else
                                bif IntKind.i64.wrap ((↑((0 : Nat) + y69.fst.length) : Int) - (4 : Int)) == (0 : Int) then none
                                else
                                  bif decide ((0 : Nat) + y71.snd.snd.snd.fst ≤ y71.snd.snd.snd.snd.fst.length) then
                                    (f37
                                          (List.take y71.snd.snd.snd.fst (List.drop (0 : Nat) y71.snd.snd.snd.snd.fst),
                                            IntKind.i64.wrap
                                              ((4 : Int) +
                                                (IntKind.i64.wrap y71.snd.fst).tmod
                                                  (IntKind.i64.wrap ((↑((0 : Nat) + y69.fst.length) : Int) - (4 : Int)))),
                                            ())).bind
                                      fun y67 =>
                                      bif y67.snd.fst then some (true, ())
                                      else
                                        bif
                                            decide
                                                ((0 : Int) ≤
                                                  IntKind.i64.wrap
                                                    ((4 : Int) +
                                                      (IntKind.i64.wrap y71.snd.fst).tmod
                                                        (IntKind.i64.wrap ((↑((0 : Nat) + y69.fst.length) : Int) - (4 : Int))))) &&
                                              decide
                                                (IntKind.i64.wrap
                                                    ((4 : Int) +
                                                      (IntKind.i64.wrap y71.snd.fst).tmod
                                                        (IntKind.i64.wrap ((↑((0 : Nat) + y69.fst.length) : Int) - (4 : Int)))) <
                                                  (↑((0 : Nat) + y69.fst.length) : Int)) then
                                          ([] ++
                                                  y69.fst)[(0 : Nat) +
                                                  (IntKind.i64.wrap
                                                      ((4 : Int) +
                                                        (IntKind.i64.wrap y71.snd.fst).tmod
                                                          (IntKind.i64.wrap
                                                            ((↑((0 : Nat) + y69.fst.length) : Int) - (4 : Int))))).toNat]?.bind
                                            fun y66 =>
                                            bif
                                                decide
                                                    ((0 : Int) ≤
                                                      IntKind.i64.wrap
                                                        ((4 : Int) +
                                                          (IntKind.i64.wrap y71.snd.fst).tmod
                                                            (IntKind.i64.wrap ((↑((0 : Nat) + y69.fst.length) : Int) - (4 : Int))))) &&
                                                  decide
                                                    (IntKind.i64.wrap
                                                        ((4 : Int) +
                                                          (IntKind.i64.wrap y71.snd.fst).tmod
                                                            (IntKind.i64.wrap ((↑((0 : Nat) + y69.fst.length) : Int) - (4 : Int)))) <
                                                      (↑((0 : Nat) + y69.fst.length) : Int)) then
                                              ([] ++
                                                      y69.fst)[(0 : Nat) +
                                                      (IntKind.i64.wrap
                                                          ((4 : Int) +
                                                            (IntKind.i64.wrap y71.snd.fst).tmod
                                                              (IntKind.i64.wrap
                                                                ((↑((0 : Nat) + y69.fst.length) : Int) - (4 : Int))))).toNat]?.bind
                                                fun _x =>
                                                bif
                                                    decide
                                                      ((0 : Nat) + ((0 : Nat) + y69.fst.length) ≤
                                                        (([] ++ y69.fst).set
                                                            ((0 : Nat) +
                                                              (IntKind.i64.wrap
                                                                  ((4 : Int) +
                                                                    (IntKind.i64.wrap y71.snd.fst).tmod
                                                                      (IntKind.i64.wrap
                                                                        ((↑((0 : Nat) + y69.fst.length) : Int) - (4 : Int))))).toNat)
                                                            (bits BinOp.xor IntKind.u8 y66 y71.snd.snd.fst)).length) then
                                                  (f38
                                                        (List.take ((0 : Nat) + y69.fst.length)
                                                            (List.drop (0 : Nat)
                                                              (([] ++ y69.fst).set
                                                                ((0 : Nat) +
                                                                  (IntKind.i64.wrap
                                                                      ((4 : Int) +
                                                                        (IntKind.i64.wrap y71.snd.fst).tmod
                                                                          (IntKind.i64.wrap
                                                                            ((↑((0 : Nat) + y69.fst.length) : Int) - (4 : Int))))).toNat)
                                                                (bits BinOp.xor IntKind.u8 y66 y71.snd.snd.fst))),
                                                          ())).bind
                                                    fun y64 =>
                                                    Sum.elim (fun _x => some (false, ()))
                                                      (fun y63 =>
                                                        Sum.elim (fun _x => some (false, ()))
                                                          (fun y62 =>
                                                            bif decide ((0 : Nat) + y62.snd.fst ≤ y62.snd.snd.snd.fst.length) then
                                                              bif decide ((0 : Nat) + y62.snd.snd.fst ≤ y62.snd.snd.snd.snd.fst.length) then
                                                                (f28
                                                                      (List.take y62.snd.fst (List.drop (0 : Nat) y62.snd.snd.snd.fst),
                                                                        List.take y62.snd.snd.fst
                                                                          (List.drop (0 : Nat) y62.snd.snd.snd.snd.fst),
                                                                        ())).bind
                                                                  fun y61 =>
                                                                  bif
                                                                      true && decide ((0 : Int) ≤ y67.fst) &&
                                                                          decide (y67.fst ≤ (↑y71.snd.snd.snd.fst : Int)) &&
                                                                        decide
                                                                          ((↑y71.snd.snd.snd.fst : Int) ≤ (↑y71.snd.snd.snd.fst : Int)) then
                                                                    bif
                                                                        decide
                                                                          ((0 : Nat) + (y67.fst.toNat - (0 : Nat)) ≤
                                                                            y71.snd.snd.snd.snd.fst.length) then
                                                                      (f31
                                                                            (y61.fst,
                                                                              List.take (y67.fst.toNat - (0 : Nat))
                                                                                (List.drop (0 : Nat) y71.snd.snd.snd.snd.fst),
                                                                              ())).bind
                                                                        fun y60 => some (y60.fst, ())
                                                                    else none
                                                                  else none
                                                              else none
                                                            else none)
                                                          y63)
                                                      y64
                                                else none
                                            else none
                                        else none
                                  else none
                          else none
                      else none
                    else none
                else none
              else none
noncomputable def F7 : CF tC := mkF tC S7 f7
theorem f7_run : ∀ a, fnS tC G7 (look [(0, W7_0)]) Try.f7 S7 a = f7 a := fun a => by kernel_rfl
theorem F7_ok : CFOK tC 7 F7 := mkF_ok Y7 (fn := Try.f7) (body := bodyOf Try.f7) (by kernel_rfl) (by kernel_rfl) (by kernel_rfl) (m := 0) rfl (lam_le (lam_cons W7_0_ok lam_nil)) f7_run

/-! JournalOpens -/
noncomputable def G8 : FuncId → Option (CF tC) := look [(11, F11), (38, F38), (39, F39), (14, F14), (25, F25), (24, F24)]
theorem Y8 : SysN tC G8 := (sys_cons F11_ok (mkF_nat _ _) (sys_cons F38_ok (mkF_nat _ _) (sys_cons F39_ok (mkF_nat _ _) (sys_cons F14_ok (mkF_nat _ _) (sys_cons F25_ok (mkF_nat _ _) (sys_cons F24_ok (mkF_nat _ _) (sys_nil tC_ok tC_eq)))))))
noncomputable def c8_0 : Code := loopOf (bodyOf Try.f8) 0
def p8_0 : LS := ⟨0, [0, 3, 4, 5, 7, 10], ⟨[.one (.one (.imm 5)), vB, vB, .one (.one (.sl 0)), .one (.one (.ptr 1 0 0)), vI, vB, .one (.one (.ptr 2 0 0)), vB, vB, vI] ++ vBs 76, [.arr 5, .box [.sl 3, .sl 4], .box [.sl 5], .arr 5, .arr 26, .arr 26]⟩, [⟨.exit 0, [0, 4, 5, 7], ⟨[.one (.one (.imm 5)), vB, vB, vB, .one (.one (.ptr 0 0 0)), vI, vB, .one (.one (.ptr 1 0 0))] ++ vBs 79, [.box [.sl 2, .sl 3], .box [.sl 4], .arr 5, .arr 26, .arr 26]⟩, []⟩], []⟩
noncomputable def r8_0 (x : List Int × Nat × Int × Int × List Int × Nat × Nat × Nat × List Int × List Ev × List Ev × Unit) : Option
  (List Int × Nat × Int × Int × List Int × Nat × Nat × Nat × List Int × List Ev × List Ev × Unit ⊕
    List Int × Int × Nat × Nat × Nat × List Int × List Ev × List Ev × Unit) :=
  bif decide (x.snd.snd.snd.fst < (↑x.snd.fst : Int)) then
  bif decide ((0 : Int) ≤ x.snd.snd.snd.fst) && decide (x.snd.snd.snd.fst < (↑x.snd.fst : Int)) then
    x.snd.snd.snd.snd.fst[(0 : Nat) + x.snd.snd.snd.fst.toNat]?.bind fun y44 =>
      bif decide ((0 : Int) ≤ x.snd.snd.snd.fst) && decide (x.snd.snd.snd.fst < (↑x.snd.fst : Int)) then
        x.snd.snd.snd.snd.fst[(0 : Nat) + x.snd.snd.snd.fst.toNat]?.bind fun _x =>
          some
            (Sum.inl
              (x.fst, x.snd.fst, x.snd.snd.fst, IntKind.i64.wrap (x.snd.snd.snd.fst + (1 : Int)),
                x.snd.snd.snd.snd.fst.set ((0 : Nat) + x.snd.snd.snd.fst.toNat) (IntKind.u8.wrap (y44 + (1 : Int))),
                x.snd.snd.snd.snd.snd.fst, x.snd.snd.snd.snd.snd.snd.fst, x.snd.snd.snd.snd.snd.snd.snd.fst,
                x.snd.snd.snd.snd.snd.snd.snd.snd.fst, x.snd.snd.snd.snd.snd.snd.snd.snd.snd.fst,
                x.snd.snd.snd.snd.snd.snd.snd.snd.snd.snd.fst, ()))
      else none
  else none
else
  some
    (Sum.inr
      (x.fst, x.snd.snd.fst, x.snd.snd.snd.snd.snd.fst, x.snd.snd.snd.snd.snd.snd.fst, x.snd.snd.snd.snd.snd.snd.snd.fst,
        x.snd.snd.snd.snd.snd.snd.snd.snd.fst, x.snd.snd.snd.snd.snd.snd.snd.snd.snd.fst, x.snd.snd.snd.snd.snd.snd.snd.snd.snd.snd.fst,
        ()))
theorem r8_0_run0 (v0 : List Int) (v1 : Nat) (v2 : Int) (v3 : Int) (v4 : List Int) (v5 : Nat) (v6 : Nat) (v7 : Nat) (v8 : List Int) (v9 : List Ev) (v10 : List Ev) : roundK tC G8 (look []) c8_0 p8_0 (v0, v1, v2, v3, v4, v5, v6, v7, v8, v9, v10, ()) = r8_0 (v0, v1, v2, v3, v4, v5, v6, v7, v8, v9, v10, ()) := by kernel_rfl
theorem r8_0_run (x : List Int × Nat × Int × Int × List Int × Nat × Nat × Nat × List Int × List Ev × List Ev × Unit) : roundK tC G8 (look []) c8_0 p8_0 x = r8_0 x := r8_0_run0 x.1 x.2.1 x.2.2.1 x.2.2.2.1 x.2.2.2.2.1 x.2.2.2.2.2.1 x.2.2.2.2.2.2.1 x.2.2.2.2.2.2.2.1 x.2.2.2.2.2.2.2.2.1 x.2.2.2.2.2.2.2.2.2.1 x.2.2.2.2.2.2.2.2.2.2.1
noncomputable def l8_0 (x : List Int × Nat × Int × Int × List Int × Nat × Nat × Nat × List Int × List Ev × List Ev × Unit) : Option (List Int × Int × Nat × Nat × Nat × List Int × List Ev × List Ev × Unit) := iterO r8_0 x
noncomputable def W8_0 : LF tC := loopW tC p8_0 0 l8_0
theorem W8_0_ok : keyed 0 (bodyOf Try.f8) = [.block 0 (.loop c8_0)] ∧ ∀ n, n ≤ 0 → Snd tC n (.block 0 (.loop c8_0)) W8_0.k := ⟨by kernel_rfl, fun n hn => loopW_ok (p := p8_0) (id := 0) Y8 (lam_le lam_nil n hn) hn r8_0_run⟩
def S8 : FS := ⟨[[.s 5]], [⟨[.one (.one (.imm 5))], []⟩], [⟨[vO], []⟩], [[.v]], []⟩
noncomputable def f8 (x : List Int × Unit) : Option (Bool × Unit) :=
  (f11 ()).bind fun y88 =>
  bif !y88.fst then (f11 ()).bind fun y61 => some (y61.fst, ())
  else
    bif decide ((↑x.fst.length : Int) > (3000 : Int)) then (f11 ()).bind fun y62 => some (y62.fst, ())
    else
      bif roomy ((0 : Nat) + x.fst.length) (1 : Nat) then
        bif decide ((0 : Nat) + ((0 : Nat) + x.fst.length) ≤ ([] ++ x.fst).length) then
          (f38 (List.take ((0 : Nat) + x.fst.length) (List.drop (0 : Nat) ([] ++ x.fst)), ())).bind fun y87 =>
            Sum.elim
              (fun _x =>
                (f39 (x.fst, ())).bind fun y67 =>
                  Sum.elim
                    (fun _x =>
                      bif decide ((0 : Nat) + ((0 : Nat) + x.fst.length) ≤ ([] ++ x.fst).length) then
                        bif !f14 (List.take ((0 : Nat) + x.fst.length) (List.drop (0 : Nat) ([] ++ x.fst))) x.fst then some (false, ())
                        else some (true, ())
                      else none)
                    (fun y66 =>
                      Sum.elim (fun _x => some (false, ()))
                        (fun y65 =>
                          bif (4 : Int) != y65.snd.fst then some (false, ())
                          else
                            bif (0 : Int) != y65.fst then some (false, ())
                            else
                              bif decide ((0 : Nat) + ((0 : Nat) + x.fst.length) ≤ ([] ++ x.fst).length) then
                                bif !f14 (List.take ((0 : Nat) + x.fst.length) (List.drop (0 : Nat) ([] ++ x.fst))) x.fst then
                                  some (false, ())
                                else some (true, ())
                              else none)
                        y66)
                    y67)
              (fun y86 =>
                Sum.elim
                  (fun _x =>
                    (f39 (x.fst, ())).bind fun y73 =>
                      Sum.elim (fun _x => some (false, ()))
                        (fun y72 =>
                          Sum.elim
                            (fun _x =>
                              bif decide ((0 : Nat) + ((0 : Nat) + x.fst.length) ≤ ([] ++ x.fst).length) then
                                bif !f14 (List.take ((0 : Nat) + x.fst.length) (List.drop (0 : Nat) ([] ++ x.fst))) x.fst then
                                  some (false, ())
                                else some (true, ())
                              else none)
                            (fun y71 =>
                              bif (3 : Int) != y71.snd.fst then some (false, ())
                              else
                                bif (0 : Int) != y71.fst then some (false, ())
                                else
                                  bif decide ((0 : Nat) + ((0 : Nat) + x.fst.length) ≤ ([] ++ x.fst).length) then
                                    bif !f14 (List.take ((0 : Nat) + x.fst.length) (List.drop (0 : Nat) ([] ++ x.fst))) x.fst then
                                      some (false, ())
                                    else some (true, ())
                                  else none)
                            y72)
                        y73)
                  (fun y85 =>
                    (f39 (x.fst, ())).bind fun y84 =>
                      Sum.elim (fun _x => some (false, ()))
                        (fun y83 =>
                          Sum.elim (fun _x => some (false, ()))
                            (fun y82 =>
                              bif (0 : Int) != y82.snd.fst then some (false, ())
                              else
                                bif y85.fst != y82.fst then some (false, ())
                                else
                                  bif decide ((0 : Nat) + ((0 : Nat) + x.fst.length) ≤ ([] ++ x.fst).length) then
                                    bif !f14 (List.take ((0 : Nat) + x.fst.length) (List.drop (0 : Nat) ([] ++ x.fst))) x.fst then
                                      some (false, ())
                                    else
                                      (l8_0
                                            (x.fst, (0 : Nat) + x.fst.length, y85.fst, (0 : Int), [] ++ x.fst, y85.snd.fst, y85.snd.snd.fst,
                                              y82.snd.snd.fst, y85.snd.snd.snd.fst, y85.snd.snd.snd.snd.fst, y82.snd.snd.snd.fst, ())).bind
                                        fun y81 =>
                                        bif decide ((0 : Nat) + y81.snd.snd.fst ≤ y81.snd.snd.snd.snd.snd.fst.length) then
                                          bif decide ((0 : Nat) + y81.snd.snd.snd.fst ≤ y81.snd.snd.snd.snd.snd.snd.fst.length) then
                                            (f25
                                                  (List.take y81.snd.snd.fst (List.drop (0 : Nat) y81.snd.snd.snd.snd.snd.fst),
                                                    List.take y81.snd.snd.snd.fst (List.drop (0 : Nat) y81.snd.snd.snd.snd.snd.snd.fst),
                                                    ())).bind
                                              fun y80 =>
                                              bif decide ((0 : Nat) + y81.snd.snd.fst ≤ y81.snd.snd.snd.snd.snd.fst.length) then
                                                bif decide ((0 : Nat) + y81.snd.snd.snd.fst ≤ y81.snd.snd.snd.snd.snd.snd.fst.length) then
                                                  bif
                                                      decide
                                                        ((0 : Nat) + y81.snd.snd.snd.snd.fst ≤
                                                          y81.snd.snd.snd.snd.snd.snd.snd.fst.length) then
                                                    (f24
                                                          (List.take y81.snd.snd.fst (List.drop (0 : Nat) y81.snd.snd.snd.snd.snd.fst),
                                                            List.take y81.snd.snd.snd.fst
                                                              (List.drop (0 : Nat) y81.snd.snd.snd.snd.snd.snd.fst),
                                                            List.take y81.snd.snd.snd.snd.fst
                                                              (List.drop (0 : Nat) y81.snd.snd.snd.snd.snd.snd.snd.fst),
                                                            y81.snd.snd.snd.snd.fst, ())).bind
                                                      fun y79 =>
                                                      Sum.elim
                                                        (fun y77 =>
                                                          bif y77.fst then
                                                            bif
                                                                IntKind.i64.wrap ((↑y80.fst.length : Int) + y81.snd.fst) ==
                                                                  (↑y81.fst.length : Int) then
                                                              bif
                                                                  true && decide ((↑y80.fst.length : Int) ≤ (↑y81.fst.length : Int)) &&
                                                                    decide ((↑y81.fst.length : Int) ≤ (↑y81.fst.length : Int)) then
                                                                some
                                                                  (f14 y80.fst
                                                                      (List.drop (0 : Nat)
                                                                        (List.take (↑y80.fst.length : Int).toNat y81.fst)),
                                                                    ())
                                                              else none
                                                            else some (false, ())
                                                          else some (false, ()))
                                                        (fun y78 =>
                                                          bif y78.fst then
                                                            bif
                                                                IntKind.i64.wrap ((↑y80.fst.length : Int) + y81.snd.fst) ==
                                                                  (↑y81.fst.length : Int) then
                                                              bif
                                                                  true && decide ((↑y80.fst.length : Int) ≤ (↑y81.fst.length : Int)) &&
                                                                    decide ((↑y81.fst.length : Int) ≤ (↑y81.fst.length : Int)) then
                                                                some
                                                                  (f14 y80.fst
                                                                      (List.drop (0 : Nat)
                                                                        (List.take (↑y80.fst.length : Int).toNat y81.fst)),
                                                                    ())
                                                              else none
                                                            else some (false, ())
                                                          else some (false, ()))
                                                        y79
                                                  else none
                                                else none
                                              else none
                                          else none
                                        else none
                                  else none)
                            y83)
                        y84)
                  y86)
              y87
        else none
      else none
noncomputable def F8 : CF tC := mkF tC S8 f8
theorem f8_run : ∀ a, fnS tC G8 (look [(0, W8_0)]) Try.f8 S8 a = f8 a := fun a => by kernel_rfl
theorem F8_ok : CFOK tC 8 F8 := mkF_ok Y8 (fn := Try.f8) (body := bodyOf Try.f8) (by kernel_rfl) (by kernel_rfl) (by kernel_rfl) (m := 0) rfl (lam_le (lam_cons W8_0_ok lam_nil)) f8_run

/-! JournalAgain -/
noncomputable def G9 : FuncId → Option (CF tC) := look [(11, F11), (18, F18), (34, F34), (25, F25), (38, F38), (26, F26), (28, F28), (31, F31), (22, F22), (14, F14), (27, F27)]
theorem Y9 : SysN tC G9 := (sys_cons F11_ok (mkF_nat _ _) (sys_cons F18_ok (mkF_nat _ _) (sys_cons F34_ok (mkF_nat _ _) (sys_cons F25_ok (mkF_nat _ _) (sys_cons F38_ok (mkF_nat _ _) (sys_cons F26_ok (mkF_nat _ _) (sys_cons F28_ok (mkF_nat _ _) (sys_cons F31_ok (mkF_nat _ _) (sys_cons F22_ok (mkF_nat _ _) (sys_cons F14_ok (mkF_nat _ _) (sys_cons F27_ok (mkF_nat _ _) (sys_nil tC_ok tC_eq))))))))))))
def S9 : FS := ⟨[[.s 26], [.v, .v, .v, .v, .s 46]], [⟨[.one (.one (.imm 26)), .one (.agg [.int .i64, .int .i64, .int .i64, .bool, .imm 46])], []⟩], [⟨[vO], []⟩], [[.v]], []⟩
noncomputable def f9 (x : List Ev × Int × Int × Int × Bool × List Bm × Unit) : Option (Bool × Unit) :=
  (f11 ()).bind fun y111 =>
  bif !y111.fst then (f11 ()).bind fun y72 => some (y72.fst, ())
  else
    (f18 (x.fst, ())).bind fun y110 =>
      bif !y110.fst then (f11 ()).bind fun y73 => some (y73.fst, ())
      else
        bif decide ((↑x.snd.snd.snd.snd.snd.fst.length : Int) > (500 : Int)) then (f11 ()).bind fun y74 => some (y74.fst, ())
        else
          (f34 (x.fst, ())).bind fun y109 =>
            bif decide ((0 : Nat) + y109.fst ≤ y109.snd.snd.fst.length) then
              bif decide ((0 : Nat) + y109.snd.fst ≤ y109.snd.snd.snd.fst.length) then
                (f25
                      (List.take y109.fst (List.drop (0 : Nat) y109.snd.snd.fst),
                        List.take y109.snd.fst (List.drop (0 : Nat) y109.snd.snd.snd.fst), ())).bind
                  fun y108 =>
                  (f38 (y108.fst, ())).bind fun y107 =>
                    Sum.elim (fun _x => some (false, ()))
                      (fun y106 =>
                        Sum.elim (fun _x => some (false, ()))
                          (fun y105 =>
                            bif y105.fst != (0 : Int) then some (false, ())
                            else
                              bif decide ((0 : Nat) + y105.snd.fst ≤ y105.snd.snd.snd.fst.length) then
                                bif decide ((0 : Nat) + y105.snd.snd.fst ≤ y105.snd.snd.snd.snd.fst.length) then
                                  bif decide ((0 : Nat) + y109.fst ≤ y109.snd.snd.fst.length) then
                                    bif decide ((0 : Nat) + y109.snd.fst ≤ y109.snd.snd.snd.fst.length) then
                                      bif
                                          f26 (List.take y105.snd.fst (List.drop (0 : Nat) y105.snd.snd.snd.fst))
                                              (List.take y105.snd.snd.fst (List.drop (0 : Nat) y105.snd.snd.snd.snd.fst)) !=
                                            f26 (List.take y109.fst (List.drop (0 : Nat) y109.snd.snd.fst))
                                              (List.take y109.snd.fst (List.drop (0 : Nat) y109.snd.snd.snd.fst)) then
                                        some (false, ())
                                      else
                                        bif decide ((0 : Nat) + y105.snd.fst ≤ y105.snd.snd.snd.fst.length) then
                                          bif decide ((0 : Nat) + y105.snd.snd.fst ≤ y105.snd.snd.snd.snd.fst.length) then
                                            (f28
                                                  (List.take y105.snd.fst (List.drop (0 : Nat) y105.snd.snd.snd.fst),
                                                    List.take y105.snd.snd.fst (List.drop (0 : Nat) y105.snd.snd.snd.snd.fst), ())).bind
                                              fun y104 =>
                                              bif decide ((0 : Nat) + y109.fst ≤ y109.snd.snd.fst.length) then
                                                bif decide ((0 : Nat) + y109.snd.fst ≤ y109.snd.snd.snd.fst.length) then
                                                  (f28
                                                        (List.take y109.fst (List.drop (0 : Nat) y109.snd.snd.fst),
                                                          List.take y109.snd.fst (List.drop (0 : Nat) y109.snd.snd.snd.fst), ())).bind
                                                    fun y103 =>
                                                    (f31 (y104.fst, y103.fst, ())).bind fun y102 =>
                                                      bif !y102.fst then some (false, ())
                                                      else
                                                        bif decide ((0 : Nat) + y109.fst ≤ y109.snd.snd.fst.length) then
                                                          bif decide ((0 : Nat) + y109.snd.fst ≤ y109.snd.snd.snd.fst.length) then
                                                            (f22
                                                                  (x.snd.fst, x.snd.snd.fst, x.snd.snd.snd.fst, x.snd.snd.snd.snd.fst,
                                                                    x.snd.snd.snd.snd.snd.fst,
                                                                    List.take y109.fst (List.drop (0 : Nat) y109.snd.snd.fst),
                                                                    List.take y109.snd.fst (List.drop (0 : Nat) y109.snd.snd.snd.fst),
                                                                    y109.fst, y109.snd.fst, ())).bind
                                                              fun y101 =>
                                                              Sum.elim
                                                                (fun y88 =>
                                                                  bif decide ((0 : Nat) + y105.snd.fst ≤ y105.snd.snd.snd.fst.length) then
                                                                    bif
                                                                        decide
                                                                          ((0 : Nat) + y105.snd.snd.fst ≤
                                                                            y105.snd.snd.snd.snd.fst.length) then
                                                                      (f22
                                                                            (x.snd.fst, x.snd.snd.fst, x.snd.snd.snd.fst,
                                                                              x.snd.snd.snd.snd.fst, x.snd.snd.snd.snd.snd.fst,
                                                                              List.take y105.snd.fst
                                                                                (List.drop (0 : Nat) y105.snd.snd.snd.fst),
                                                                              List.take y105.snd.snd.fst
                                                                                (List.drop (0 : Nat) y105.snd.snd.snd.snd.fst),
                                                                              y105.snd.fst, y105.snd.snd.fst, ())).bind
                                                                        fun y87 =>
                                                                        Sum.elim
                                                                          (fun y81 =>
                                                                            bif y88.fst == y81.fst then
                                                                              bif
                                                                                  decide
                                                                                    ((0 : Nat) + y88.snd.snd.snd.fst ≤
                                                                                      y88.snd.fst.length) then
                                                                                bif
                                                                                    decide
                                                                                      ((0 : Nat) + y88.snd.snd.snd.snd.fst ≤
                                                                                        y88.snd.snd.fst.length) then
                                                                                  (f25
                                                                                        (List.take y88.snd.snd.snd.fst
                                                                                            (List.drop (0 : Nat) y88.snd.fst),
                                                                                          List.take y88.snd.snd.snd.snd.fst
                                                                                            (List.drop (0 : Nat) y88.snd.snd.fst),
                                                                                          ())).bind
                                                                                    fun y80 =>
                                                                                    bif
                                                                                        decide
                                                                                          ((0 : Nat) + y81.snd.snd.snd.fst ≤
                                                                                            y81.snd.fst.length) then
                                                                                      bif
                                                                                          decide
                                                                                            ((0 : Nat) + y81.snd.snd.snd.snd.fst ≤
                                                                                              y81.snd.snd.fst.length) then
                                                                                        (f25
                                                                                              (List.take y81.snd.snd.snd.fst
                                                                                                  (List.drop (0 : Nat) y81.snd.fst),
                                                                                                List.take y81.snd.snd.snd.snd.fst
                                                                                                  (List.drop (0 : Nat) y81.snd.snd.fst),
                                                                                                ())).bind
                                                                                          fun y79 =>
                                                                                          bif f14 y80.fst y79.fst then
                                                                                            bif
                                                                                                decide
                                                                                                  ((0 : Nat) + y88.snd.snd.snd.fst ≤
                                                                                                    y88.snd.fst.length) then
                                                                                              bif
                                                                                                  decide
                                                                                                    ((0 : Nat) + y88.snd.snd.snd.snd.fst ≤
                                                                                                      y88.snd.snd.fst.length) then
                                                                                                (f27
                                                                                                      (List.take y88.snd.snd.snd.fst
                                                                                                          (List.drop (0 : Nat) y88.snd.fst),
                                                                                                        List.take y88.snd.snd.snd.snd.fst
                                                                                                          (List.drop (0 : Nat)
                                                                                                            y88.snd.snd.fst),
                                                                                                        ())).bind
                                                                                                  fun y78 =>
                                                                                                  bif
                                                                                                      decide
                                                                                                        ((0 : Nat) + y81.snd.snd.snd.fst ≤
                                                                                                          y81.snd.fst.length) then
                                                                                                    bif
                                                                                                        decide
                                                                                                          ((0 : Nat) +
                                                                                                              y81.snd.snd.snd.snd.fst ≤
                                                                                                            y81.snd.snd.fst.length) then
                                                                                                      (f27
                                                                                                            (List.take y81.snd.snd.snd.fst
                                                                                                                (List.drop (0 : Nat)
                                                                                                                  y81.snd.fst),
                                                                                                              List.take
                                                                                                                y81.snd.snd.snd.snd.fst
                                                                                                                (List.drop (0 : Nat)
                                                                                                                  y81.snd.snd.fst),
                                                                                                              ())).bind
                                                                                                        fun y77 =>
                                                                                                        some (y78.fst == y77.fst, ())
                                                                                                    else none
                                                                                                  else none
                                                                                              else none
                                                                                            else none
                                                                                          else some (false, ())
                                                                                      else none
                                                                                    else none
                                                                                else none
                                                                              else none
                                                                            else some (false, ()))
                                                                          (fun y86 =>
                                                                            bif y88.fst == y86.fst then
                                                                              bif
                                                                                  decide
                                                                                    ((0 : Nat) + y88.snd.snd.snd.fst ≤
                                                                                      y88.snd.fst.length) then
                                                                                bif
                                                                                    decide
                                                                                      ((0 : Nat) + y88.snd.snd.snd.snd.fst ≤
                                                                                        y88.snd.snd.fst.length) then
                                                                                  (f25
                                                                                        (List.take y88.snd.snd.snd.fst
                                                                                            (List.drop (0 : Nat) y88.snd.fst),
                                                                                          List.take y88.snd.snd.snd.snd.fst
                                                                                            (List.drop (0 : Nat) y88.snd.snd.fst),
                                                                                          ())).bind
                                                                                    fun y85 =>
                                                                                    bif
                                                                                        decide
                                                                                          ((0 : Nat) + y86.snd.fst ≤
                                                                                            y86.snd.snd.snd.fst.length) then
                                                                                      bif
                                                                                          decide
                                                                                            ((0 : Nat) + y86.snd.snd.fst ≤
                                                                                              y86.snd.snd.snd.snd.fst.length) then
                                                                                        (f25
                                                                                              (List.take y86.snd.fst
                                                                                                  (List.drop (0 : Nat) y86.snd.snd.snd.fst),
                                                                                                List.take y86.snd.snd.fst
                                                                                                  (List.drop (0 : Nat)
                                                                                                    y86.snd.snd.snd.snd.fst),
                                                                                                ())).bind
                                                                                          fun y84 =>
                                                                                          bif f14 y85.fst y84.fst then
                                                                                            bif
                                                                                                decide
                                                                                                  ((0 : Nat) + y88.snd.snd.snd.fst ≤
                                                                                                    y88.snd.fst.length) then
                                                                                              bif
                                                                                                  decide
                                                                                                    ((0 : Nat) + y88.snd.snd.snd.snd.fst ≤
                                                                                                      y88.snd.snd.fst.length) then
                                                                                                (f27
                                                                                                      (List.take y88.snd.snd.snd.fst
                                                                                                          (List.drop (0 : Nat) y88.snd.fst),
                                                                                                        List.take y88.snd.snd.snd.snd.fst
                                                                                                          (List.drop (0 : Nat)
                                                                                                            y88.snd.snd.fst),
                                                                                                        ())).bind
                                                                                                  fun y83 =>
                                                                                                  bif
                                                                                                      decide
                                                                                                        ((0 : Nat) + y86.snd.fst ≤
                                                                                                          y86.snd.snd.snd.fst.length) then
                                                                                                    bif
                                                                                                        decide
                                                                                                          ((0 : Nat) + y86.snd.snd.fst ≤
                                                                                                            y86.snd.snd.snd.snd.fst.length) then
                                                                                                      (f27
                                                                                                            (List.take y86.snd.fst
                                                                                                                (List.drop (0 : Nat)
                                                                                                                  y86.snd.snd.snd.fst),
                                                                                                              List.take y86.snd.snd.fst
                                                                                                                (List.drop (0 : Nat)
                                                                                                                  y86.snd.snd.snd.snd.fst),
                                                                                                              ())).bind
                                                                                                        fun y82 =>
                                                                                                        some (y83.fst == y82.fst, ())
                                                                                                    else none
                                                                                                  else none
                                                                                              else none
                                                                                            else none
                                                                                          else some (false, ())
                                                                                      else none
                                                                                    else none
                                                                                else none
                                                                              else none
                                                                            else some (false, ()))
                                                                          y87
                                                                    else none
                                                                  else none)
                                                                (fun y100 =>
                                                                  bif decide ((0 : Nat) + y105.snd.fst ≤ y105.snd.snd.snd.fst.length) then
                                                                    bif
                                                                        decide
                                                                          ((0 : Nat) + y105.snd.snd.fst ≤
                                                                            y105.snd.snd.snd.snd.fst.length) then
                                                                      (f22
                                                                            (x.snd.fst, x.snd.snd.fst, x.snd.snd.snd.fst,
                                                                              x.snd.snd.snd.snd.fst, x.snd.snd.snd.snd.snd.fst,
                                                                              List.take y105.snd.fst
                                                                                (List.drop (0 : Nat) y105.snd.snd.snd.fst),
                                                                              List.take y105.snd.snd.fst
                                                                                (List.drop (0 : Nat) y105.snd.snd.snd.snd.fst),
                                                                              y105.snd.fst, y105.snd.snd.fst, ())).bind
                                                                        fun y99 =>
                                                                        Sum.elim
                                                                          (fun y93 =>
                                                                            bif y100.fst == y93.fst then
                                                                              bif
                                                                                  decide
                                                                                    ((0 : Nat) + y100.snd.fst ≤
                                                                                      y100.snd.snd.snd.fst.length) then
                                                                                bif
                                                                                    decide
                                                                                      ((0 : Nat) + y100.snd.snd.fst ≤
                                                                                        y100.snd.snd.snd.snd.fst.length) then
                                                                                  (f25
                                                                                        (List.take y100.snd.fst
                                                                                            (List.drop (0 : Nat) y100.snd.snd.snd.fst),
                                                                                          List.take y100.snd.snd.fst
                                                                                            (List.drop (0 : Nat) y100.snd.snd.snd.snd.fst),
                                                                                          ())).bind
                                                                                    fun y92 =>
                                                                                    bif
                                                                                        decide
                                                                                          ((0 : Nat) + y93.snd.snd.snd.fst ≤
                                                                                            y93.snd.fst.length) then
                                                                                      bif
                                                                                          decide
                                                                                            ((0 : Nat) + y93.snd.snd.snd.snd.fst ≤
                                                                                              y93.snd.snd.fst.length) then
                                                                                        (f25
                                                                                              (List.take y93.snd.snd.snd.fst
                                                                                                  (List.drop (0 : Nat) y93.snd.fst),
                                                                                                List.take y93.snd.snd.snd.snd.fst
                                                                                                  (List.drop (0 : Nat) y93.snd.snd.fst),
                                                                                                ())).bind
                                                                                          fun y91 =>
                                                                                          bif f14 y92.fst y91.fst then
                                                                                            bif
                                                                                                decide
                                                                                                  ((0 : Nat) + y100.snd.fst ≤
                                                                                                    y100.snd.snd.snd.fst.length) then
                                                                                              bif
                                                                                                  decide
                                                                                                    ((0 : Nat) + y100.snd.snd.fst ≤
                                                                                                      y100.snd.snd.snd.snd.fst.length) then
                                                                                                (f27
                                                                                                      (List.take y100.snd.fst
                                                                                                          (List.drop (0 : Nat)
                                                                                                            y100.snd.snd.snd.fst),
                                                                                                        List.take y100.snd.snd.fst
                                                                                                          (List.drop (0 : Nat)
                                                                                                            y100.snd.snd.snd.snd.fst),
                                                                                                        ())).bind
                                                                                                  fun y90 =>
                                                                                                  bif
                                                                                                      decide
                                                                                                        ((0 : Nat) + y93.snd.snd.snd.fst ≤
                                                                                                          y93.snd.fst.length) then
                                                                                                    bif
                                                                                                        decide
                                                                                                          ((0 : Nat) +
                                                                                                              y93.snd.snd.snd.snd.fst ≤
                                                                                                            y93.snd.snd.fst.length) then
                                                                                                      (f27
                                                                                                            (List.take y93.snd.snd.snd.fst
                                                                                                                (List.drop (0 : Nat)
                                                                                                                  y93.snd.fst),
                                                                                                              List.take
                                                                                                                y93.snd.snd.snd.snd.fst
                                                                                                                (List.drop (0 : Nat)
                                                                                                                  y93.snd.snd.fst),
                                                                                                              ())).bind
                                                                                                        fun y89 =>
                                                                                                        some (y90.fst == y89.fst, ())
                                                                                                    else none
                                                                                                  else none
                                                                                              else none
                                                                                            else none
                                                                                          else some (false, ())
                                                                                      else none
                                                                                    else none
                                                                                else none
                                                                              else none
                                                                            else some (false, ()))
                                                                          (fun y98 =>
                                                                            bif y100.fst == y98.fst then
                                                                              bif
                                                                                  decide
                                                                                    ((0 : Nat) + y100.snd.fst ≤
                                                                                      y100.snd.snd.snd.fst.length) then
                                                                                bif
                                                                                    decide
                                                                                      ((0 : Nat) + y100.snd.snd.fst ≤
                                                                                        y100.snd.snd.snd.snd.fst.length) then
                                                                                  (f25
                                                                                        (List.take y100.snd.fst
                                                                                            (List.drop (0 : Nat) y100.snd.snd.snd.fst),
                                                                                          List.take y100.snd.snd.fst
                                                                                            (List.drop (0 : Nat) y100.snd.snd.snd.snd.fst),
                                                                                          ())).bind
                                                                                    fun y97 =>
                                                                                    bif
                                                                                        decide
                                                                                          ((0 : Nat) + y98.snd.fst ≤
                                                                                            y98.snd.snd.snd.fst.length) then
                                                                                      bif
                                                                                          decide
                                                                                            ((0 : Nat) + y98.snd.snd.fst ≤
                                                                                              y98.snd.snd.snd.snd.fst.length) then
                                                                                        (f25
                                                                                              (List.take y98.snd.fst
                                                                                                  (List.drop (0 : Nat) y98.snd.snd.snd.fst),
                                                                                                List.take y98.snd.snd.fst
                                                                                                  (List.drop (0 : Nat)
                                                                                                    y98.snd.snd.snd.snd.fst),
                                                                                                ())).bind
                                                                                          fun y96 =>
                                                                                          bif f14 y97.fst y96.fst then
                                                                                            bif
                                                                                                decide
                                                                                                  ((0 : Nat) + y100.snd.fst ≤
                                                                                                    y100.snd.snd.snd.fst.length) then
                                                                                              bif
                                                                                                  decide
                                                                                                    ((0 : Nat) + y100.snd.snd.fst ≤
                                                                                                      y100.snd.snd.snd.snd.fst.length) then
                                                                                                (f27
                                                                                                      (List.take y100.snd.fst
                                                                                                          (List.drop (0 : Nat)
                                                                                                            y100.snd.snd.snd.fst),
                                                                                                        List.take y100.snd.snd.fst
                                                                                                          (List.drop (0 : Nat)
                                                                                                            y100.snd.snd.snd.snd.fst),
                                                                                                        ())).bind
                                                                                                  fun y95 =>
                                                                                                  bif
                                                                                                      decide
                                                                                                        ((0 : Nat) + y98.snd.fst ≤
                                                                                                          y98.snd.snd.snd.fst.length) then
                                                                                                    bif
                                                                                                        decide
                                                                                                          ((0 : Nat) + y98.snd.snd.fst ≤
                                                                                                            y98.snd.snd.snd.snd.fst.length) then
                                                                                                      (f27
                                                                                                            (List.take y98.snd.fst
                                                                                                                (List.drop (0 : Nat)
                                                                                                                  y98.snd.snd.snd.fst),
                                                                                                              List.take y98.snd.snd.fst
                                                                                                                (List.drop (0 : Nat)
                                                                                                                  y98.snd.snd.snd.snd.fst),
                                                                                                              ())).bind
                                                                                                        fun y94 =>
                                                                                                        some (y95.fst == y94.fst, ())
                                                                                                    else none
                                                                                                  else none
                                                                                              else none
                                                                                            else none
                                                                                          else some (false, ())
                                                                                      else none
                                                                                    else none
                                                                                else none
                                                                              else none
                                                                            else some (false, ()))
                                                                          y99
                                                                    else none
                                                                  else none)
                                                                y101
                                                          else none
                                                        else none
                                                else none
                                              else none
                                          else none
                                        else none
                                    else none
                                  else none
                                else none
                              else none)
                          y106)
                      y107
              else none
            else none
noncomputable def F9 : CF tC := mkF tC S9 f9
theorem f9_run : ∀ a, fnS tC G9 (look []) Try.f9 S9 a = f9 a := fun a => by kernel_rfl
theorem F9_ok : CFOK tC 9 F9 := mkF_ok Y9 (fn := Try.f9) (body := bodyOf Try.f9) (by kernel_rfl) (by kernel_rfl) (by kernel_rfl) (m := 0) rfl (lam_le lam_nil) f9_run

/-! JournalCuts -/
noncomputable def G10 : FuncId → Option (CF tC) := look [(11, F11), (18, F18), (34, F34), (25, F25), (38, F38), (26, F26), (14, F14), (28, F28), (31, F31), (22, F22)]
theorem Y10 : SysN tC G10 := (sys_cons F11_ok (mkF_nat _ _) (sys_cons F18_ok (mkF_nat _ _) (sys_cons F34_ok (mkF_nat _ _) (sys_cons F25_ok (mkF_nat _ _) (sys_cons F38_ok (mkF_nat _ _) (sys_cons F26_ok (mkF_nat _ _) (sys_cons F14_ok (mkF_nat _ _) (sys_cons F28_ok (mkF_nat _ _) (sys_cons F31_ok (mkF_nat _ _) (sys_cons F22_ok (mkF_nat _ _) (sys_nil tC_ok tC_eq)))))))))))
def S10 : FS := ⟨[[.s 26], [.v]], [⟨[.one (.one (.imm 26)), .one (.one (.int .u16))], []⟩], [⟨[vO], []⟩], [[.v]], []⟩
noncomputable def f10 (x : List Ev × Int × Unit) : Option (Bool × Unit) :=
  (f11 ()).bind fun y65 =>
  bif !y65.fst then (f11 ()).bind fun y40 => some (y40.fst, ())
  else
    (f18 (x.fst, ())).bind fun y64 =>
      bif !y64.fst then (f11 ()).bind fun y41 => some (y41.fst, ())
      else
        (f34 (x.fst, ())).bind fun y63 =>
          bif decide ((0 : Nat) + y63.fst ≤ y63.snd.snd.fst.length) then
            bif decide ((0 : Nat) + y63.snd.fst ≤ y63.snd.snd.snd.fst.length) then
              (f25
                    (List.take y63.fst (List.drop (0 : Nat) y63.snd.snd.fst),
                      List.take y63.snd.fst (List.drop (0 : Nat) y63.snd.snd.snd.fst), ())).bind
                fun y62 =>
                bif decide ((↑y62.fst.length : Int) < (4 : Int)) then some (false, ())
                else
                  bif IntKind.i64.wrap ((↑y62.fst.length : Int) - (3 : Int)) == (0 : Int) then none
                  else
                    bif
                        true &&
                              decide
                                ((0 : Int) ≤
                                  IntKind.i64.wrap
                                    ((4 : Int) +
                                      (IntKind.i64.wrap x.snd.fst).tmod (IntKind.i64.wrap ((↑y62.fst.length : Int) - (3 : Int))))) &&
                            decide
                              (IntKind.i64.wrap
                                  ((4 : Int) + (IntKind.i64.wrap x.snd.fst).tmod (IntKind.i64.wrap ((↑y62.fst.length : Int) - (3 : Int)))) ≤
                                (↑y62.fst.length : Int)) &&
                          decide ((↑y62.fst.length : Int) ≤ (↑y62.fst.length : Int)) then
                      (f38
                            (List.drop (0 : Nat)
                                (List.take
                                  (IntKind.i64.wrap
                                      ((4 : Int) +
                                        (IntKind.i64.wrap x.snd.fst).tmod (IntKind.i64.wrap ((↑y62.fst.length : Int) - (3 : Int))))).toNat
                                  y62.fst),
                              ())).bind
                        fun y61 =>
                        Sum.elim (fun _x => some (false, ()))
                          (fun y60 =>
                            Sum.elim (fun _x => some (false, ()))
                              (fun y59 =>
                                bif decide (y59.fst < (0 : Int)) then some (false, ())
                                else
                                  bif decide ((0 : Nat) + y59.snd.fst ≤ y59.snd.snd.snd.fst.length) then
                                    bif decide ((0 : Nat) + y59.snd.snd.fst ≤ y59.snd.snd.snd.snd.fst.length) then
                                      bif
                                          decide
                                            (f26 (List.take y59.snd.fst (List.drop (0 : Nat) y59.snd.snd.snd.fst))
                                                (List.take y59.snd.snd.fst (List.drop (0 : Nat) y59.snd.snd.snd.snd.fst)) >
                                              (↑x.fst.length : Int)) then
                                        some (false, ())
                                      else
                                        bif decide ((0 : Nat) + y59.snd.fst ≤ y59.snd.snd.snd.fst.length) then
                                          bif decide ((0 : Nat) + y59.snd.snd.fst ≤ y59.snd.snd.snd.snd.fst.length) then
                                            (f25
                                                  (List.take y59.snd.fst (List.drop (0 : Nat) y59.snd.snd.snd.fst),
                                                    List.take y59.snd.snd.fst (List.drop (0 : Nat) y59.snd.snd.snd.snd.fst), ())).bind
                                              fun y58 =>
                                              bif
                                                  IntKind.i64.wrap ((↑y58.fst.length : Int) + y59.fst) !=
                                                    IntKind.i64.wrap
                                                      ((4 : Int) +
                                                        (IntKind.i64.wrap x.snd.fst).tmod
                                                          (IntKind.i64.wrap ((↑y62.fst.length : Int) - (3 : Int)))) then
                                                some (false, ())
                                              else
                                                bif
                                                    true && decide ((↑y58.fst.length : Int) ≤ (↑y62.fst.length : Int)) &&
                                                      decide ((↑y62.fst.length : Int) ≤ (↑y62.fst.length : Int)) then
                                                  bif
                                                      !f14 y58.fst
                                                          (List.drop (0 : Nat) (List.take (↑y58.fst.length : Int).toNat y62.fst)) then
                                                    some (false, ())
                                                  else
                                                    (f38 (y62.fst, ())).bind fun y57 =>
                                                      Sum.elim (fun _x => some (false, ()))
                                                        (fun y56 =>
                                                          Sum.elim (fun _x => some (false, ()))
                                                            (fun y55 =>
                                                              bif decide ((0 : Nat) + y55.snd.fst ≤ y55.snd.snd.snd.fst.length) then
                                                                bif
                                                                    decide
                                                                      ((0 : Nat) + y55.snd.snd.fst ≤ y55.snd.snd.snd.snd.fst.length) then
                                                                  (f28
                                                                        (List.take y55.snd.fst (List.drop (0 : Nat) y55.snd.snd.snd.fst),
                                                                          List.take y55.snd.snd.fst
                                                                            (List.drop (0 : Nat) y55.snd.snd.snd.snd.fst),
                                                                          ())).bind
                                                                    fun y54 =>
                                                                    bif decide ((0 : Nat) + y59.snd.fst ≤ y59.snd.snd.snd.fst.length) then
                                                                      bif
                                                                          decide
                                                                            ((0 : Nat) + y59.snd.snd.fst ≤
                                                                              y59.snd.snd.snd.snd.fst.length) then
                                                                        bif
                                                                            decide
                                                                              (f26
                                                                                  (List.take y59.snd.fst
                                                                                    (List.drop (0 : Nat) y59.snd.snd.snd.fst))
                                                                                  (List.take y59.snd.snd.fst
                                                                                    (List.drop (0 : Nat) y59.snd.snd.snd.snd.fst)) >
                                                                                (↑y54.fst.length : Int)) then
                                                                          some (false, ())
                                                                        else
                                                                          bif
                                                                              decide
                                                                                ((0 : Nat) + y59.snd.fst ≤ y59.snd.snd.snd.fst.length) then
                                                                            bif
                                                                                decide
                                                                                  ((0 : Nat) + y59.snd.snd.fst ≤
                                                                                    y59.snd.snd.snd.snd.fst.length) then
                                                                              (f28
                                                                                    (List.take y59.snd.fst
                                                                                        (List.drop (0 : Nat) y59.snd.snd.snd.fst),
                                                                                      List.take y59.snd.snd.fst
                                                                                        (List.drop (0 : Nat) y59.snd.snd.snd.snd.fst),
                                                                                      ())).bind
                                                                                fun y53 =>
                                                                                bif
                                                                                    decide
                                                                                      ((0 : Nat) + y59.snd.fst ≤
                                                                                        y59.snd.snd.snd.fst.length) then
                                                                                  bif
                                                                                      decide
                                                                                        ((0 : Nat) + y59.snd.snd.fst ≤
                                                                                          y59.snd.snd.snd.snd.fst.length) then
                                                                                    bif
                                                                                        true &&
                                                                                              decide
                                                                                                ((0 : Int) ≤
                                                                                                  f26
                                                                                                    (List.take y59.snd.fst
                                                                                                      (List.drop (0 : Nat)
                                                                                                        y59.snd.snd.snd.fst))
                                                                                                    (List.take y59.snd.snd.fst
                                                                                                      (List.drop (0 : Nat)
                                                                                                        y59.snd.snd.snd.snd.fst))) &&
                                                                                            decide
                                                                                              (f26
                                                                                                  (List.take y59.snd.fst
                                                                                                    (List.drop (0 : Nat)
                                                                                                      y59.snd.snd.snd.fst))
                                                                                                  (List.take y59.snd.snd.fst
                                                                                                    (List.drop (0 : Nat)
                                                                                                      y59.snd.snd.snd.snd.fst)) ≤
                                                                                                (↑y54.fst.length : Int)) &&
                                                                                          decide
                                                                                            ((↑y54.fst.length : Int) ≤
                                                                                              (↑y54.fst.length : Int)) then
                                                                                      (f31
                                                                                            (y53.fst,
                                                                                              List.drop (0 : Nat)
                                                                                                (List.take
                                                                                                  (f26
                                                                                                      (List.take y59.snd.fst
                                                                                                        (List.drop (0 : Nat)
                                                                                                          y59.snd.snd.snd.fst))
                                                                                                      (List.take y59.snd.snd.fst
                                                                                                        (List.drop (0 : Nat)
                                                                                                          y59.snd.snd.snd.snd.fst))).toNat
                                                                                                  y54.fst),
                                                                                              ())).bind
                                                                                        fun y52 =>
                                                                                        bif !y52.fst then some (false, ())
                                                                                        else
                                                                                          bif
                                                                                              decide
                                                                                                ((0 : Nat) + y59.snd.fst ≤
                                                                                                  y59.snd.snd.snd.fst.length) then
                                                                                            bif
                                                                                                decide
                                                                                                  ((0 : Nat) + y59.snd.snd.fst ≤
                                                                                                    y59.snd.snd.snd.snd.fst.length) then
                                                                                              bif
                                                                                                  f26
                                                                                                      (List.take y59.snd.fst
                                                                                                        (List.drop (0 : Nat)
                                                                                                          y59.snd.snd.snd.fst))
                                                                                                      (List.take y59.snd.snd.fst
                                                                                                        (List.drop (0 : Nat)
                                                                                                          y59.snd.snd.snd.snd.fst)) ==
                                                                                                    (↑y54.fst.length : Int) then
                                                                                                some (y59.fst == (0 : Int), ())
                                                                                              else
                                                                                                bif
                                                                                                    decide
                                                                                                      ((0 : Nat) + y59.snd.fst ≤
                                                                                                        y59.snd.snd.snd.fst.length) then
                                                                                                  bif
                                                                                                      decide
                                                                                                        ((0 : Nat) + y59.snd.snd.fst ≤
                                                                                                          y59.snd.snd.snd.snd.fst.length) then
                                                                                                    (idxO y54.fst
                                                                                                          (f26
                                                                                                            (List.take y59.snd.fst
                                                                                                              (List.drop (0 : Nat)
                                                                                                                y59.snd.snd.snd.fst))
                                                                                                            (List.take y59.snd.snd.fst
                                                                                                              (List.drop (0 : Nat)
                                                                                                                y59.snd.snd.snd.snd.fst)))).bind
                                                                                                      fun y51 =>
                                                                                                      bif
                                                                                                          decide
                                                                                                            ((0 : Nat) + y59.snd.fst ≤
                                                                                                              y59.snd.snd.snd.fst.length) then
                                                                                                        bif
                                                                                                            decide
                                                                                                              ((0 : Nat) + y59.snd.snd.fst ≤
                                                                                                                y59.snd.snd.snd.snd.fst.length) then
                                                                                                          (f22
                                                                                                                (y51.T, y51.U, y51.F, y51.B,
                                                                                                                  y51.S,
                                                                                                                  List.take y59.snd.fst
                                                                                                                    (List.drop (0 : Nat)
                                                                                                                      y59.snd.snd.snd.fst),
                                                                                                                  List.take y59.snd.snd.fst
                                                                                                                    (List.drop (0 : Nat)
                                                                                                                      y59.snd.snd.snd.snd.fst),
                                                                                                                  y59.snd.fst,
                                                                                                                  y59.snd.snd.fst, ())).bind
                                                                                                            fun y50 =>
                                                                                                            Sum.elim
                                                                                                              (fun y47 =>
                                                                                                                bif
                                                                                                                    y47.fst ==
                                                                                                                      (0 : Int) then
                                                                                                                  bif
                                                                                                                      decide
                                                                                                                        ((0 : Nat) +
                                                                                                                            y47.snd.snd.snd.fst ≤
                                                                                                                          y47.snd.fst.length) then
                                                                                                                    bif
                                                                                                                        decide
                                                                                                                          ((0 : Nat) +
                                                                                                                              y47.snd.snd.snd.snd.fst ≤
                                                                                                                            y47.snd.snd.fst.length) then
                                                                                                                      (f25
                                                                                                                            (List.take
                                                                                                                                y47.snd.snd.snd.fst
                                                                                                                                (List.drop
                                                                                                                                  (0 : Nat)
                                                                                                                                  y47.snd.fst),
                                                                                                                              List.take
                                                                                                                                y47.snd.snd.snd.snd.fst
                                                                                                                                (List.drop
                                                                                                                                  (0 : Nat)
                                                                                                                                  y47.snd.snd.fst),
                                                                                                                              ())).bind
                                                                                                                        fun y46 =>
                                                                                                                        some
                                                                                                                          (decide
                                                                                                                              ((↑y46.fst.length :
                                                                                                                                  Int) >
                                                                                                                                IntKind.i64.wrap
                                                                                                                                  ((4 :
                                                                                                                                      Int) +
                                                                                                                                    (IntKind.i64.wrap
                                                                                                                                          x.snd.fst).tmod
                                                                                                                                      (IntKind.i64.wrap
                                                                                                                                        ((↑y62.fst.length :
                                                                                                                                            Int) -
                                                                                                                                          (3 :
                                                                                                                                            Int))))),
                                                                                                                            ())
                                                                                                                    else none
                                                                                                                  else none
                                                                                                                else some (false, ()))
                                                                                                              (fun y49 =>
                                                                                                                bif
                                                                                                                    y49.fst ==
                                                                                                                      (0 : Int) then
                                                                                                                  bif
                                                                                                                      decide
                                                                                                                        ((0 : Nat) +
                                                                                                                            y49.snd.fst ≤
                                                                                                                          y49.snd.snd.snd.fst.length) then
                                                                                                                    bif
                                                                                                                        decide
                                                                                                                          ((0 : Nat) +
                                                                                                                              y49.snd.snd.fst ≤
                                                                                                                            y49.snd.snd.snd.snd.fst.length) then
                                                                                                                      (f25
                                                                                                                            (List.take
                                                                                                                                y49.snd.fst
                                                                                                                                (List.drop
                                                                                                                                  (0 : Nat)
                                                                                                                                  y49.snd.snd.snd.fst),
                                                                                                                              List.take
                                                                                                                                y49.snd.snd.fst
                                                                                                                                (List.drop
                                                                                                                                  (0 : Nat)
                                                                                                                                  y49.snd.snd.snd.snd.fst),
                                                                                                                              ())).bind
                                                                                                                        fun y48 =>
                                                                                                                        some
                                                                                                                          (decide
                                                                                                                              ((↑y48.fst.length :
                                                                                                                                  Int) >
                                                                                                                                IntKind.i64.wrap
                                                                                                                                  ((4 :
                                                                                                                                      Int) +
                                                                                                                                    (IntKind.i64.wrap
                                                                                                                                          x.snd.fst).tmod
                                                                                                                                      (IntKind.i64.wrap
                                                                                                                                        ((↑y62.fst.length :
                                                                                                                                            Int) -
                                                                                                                                          (3 :
                                                                                                                                            Int))))),
                                                                                                                            ())
                                                                                                                    else none
                                                                                                                  else none
                                                                                                                else some (false, ()))
                                                                                                              y50
                                                                                                        else none
                                                                                                      else none
                                                                                                  else none
                                                                                                else none
                                                                                            else none
                                                                                          else none
                                                                                    else none
                                                                                  else none
                                                                                else none
                                                                            else none
                                                                          else none
                                                                      else none
                                                                    else none
                                                                else none
                                                              else none)
                                                            y56)
                                                        y57
                                                else none
                                          else none
                                        else none
                                    else none
                                  else none)
                              y60)
                          y61
                    else none
            else none
          else none
noncomputable def F10 : CF tC := mkF tC S10 f10
theorem f10_run : ∀ a, fnS tC G10 (look []) Try.f10 S10 a = f10 a := fun a => by kernel_rfl
theorem F10_ok : CFOK tC 10 F10 := mkF_ok Y10 (fn := Try.f10) (body := bodyOf Try.f10) (by kernel_rfl) (by kernel_rfl) (by kernel_rfl) (m := 0) rfl (lam_le lam_nil) f10_run
end Go.AE
