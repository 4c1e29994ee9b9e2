/-
  The plain functions that the seat's Go functions compute, each with the proof that the function keeps it. Printed by the generator (Gen2) and checked by the kernel.
-/
import Derived.Test.YtpfhpkcjgibokaaLk
namespace Go.AE
open Go.Proofs Go.RowKit
set_option maxRecDepth 100000

/-! plan.Traced, its result owned -/
noncomputable def G912 : FuncId → Option (CF tC) := look [(25, F25), (26, F26), (27, F27)]
theorem Y912 : SysN tC G912 := (sys_cons F25_ok (mkF_nat _ _) (sys_cons F26_ok (mkF_nat _ _) (sys_cons F27_ok (mkF_nat _ _) (sys_nil tC_ok tC_eq))))
def S912 : FS := ⟨[[.v, .v], [.v, .v, .v], [.v], [.v]], [⟨[.one (.agg [.int .i64, .int .i64]), .one (.agg [.int .i64, .int .i64, .int .i64]), vI, vI], []⟩], [⟨[.tup [.one (.sl 0), .one (.int .i64)]], [.arr 51]⟩], [[.v], [.v]], [(8, 51)]⟩
noncomputable def f912 (x : Int × Int × Int × Int × Int × Int × Int × Unit) : Option (Nat × Int × List Pt × Unit) :=
  bif !f25 x.fst x.snd.fst then some ((0 : Nat), (1 : Int), [], ())
else
  bif !f26 x.snd.snd.fst x.snd.snd.snd.fst x.snd.snd.snd.snd.fst then some ((0 : Nat), (1 : Int), [], ())
  else
    bif decide (x.snd.snd.snd.snd.snd.fst < (0 : Int)) then some ((0 : Nat), (2 : Int), [], ())
    else
      bif decide (x.snd.snd.snd.snd.snd.snd.fst < x.snd.snd.snd.snd.snd.fst) then some ((0 : Nat), (2 : Int), [], ())
      else
        bif decide (x.snd.snd.snd.snd.snd.snd.fst > (2048 : Int)) then some ((0 : Nat), (2 : Int), [], ())
        else
          (f27
                (x.fst, x.snd.fst, x.fst, x.snd.fst, x.snd.snd.fst, x.snd.snd.snd.fst, x.snd.snd.snd.snd.fst, x.snd.snd.snd.snd.snd.fst,
                  x.snd.snd.snd.snd.snd.snd.fst, ())).bind
            fun y13 => some (y13.fst, (0 : Int), y13.snd.fst, ())
noncomputable def F912 : CF tC := mkF tC S912 f912
theorem f912_run : ∀ a, fnS tC G912 (look []) Try.f12 S912 a = f912 a := fun a => by kernel_rfl
theorem F912_ok : CFOK tC 12 F912 := mkF_ok Y912 (fn := Try.f12) (body := bodyOf Try.f12) (by kernel_rfl) (by kernel_rfl) (by kernel_rfl) (m := 0) rfl (lam_le lam_nil) f912_run

/-! evidence.Of -/
noncomputable def G15 : FuncId → Option (CF tC) := look [(33, F33), (34, F34), (11, F11), (12, F912), (35, F35), (36, F36), (37, F37)]
theorem Y15 : SysN tC G15 := (sys_cons F33_ok (mkF_nat _ _) (sys_cons F34_ok (mkF_nat _ _) (sys_cons F11_ok (mkF_nat _ _) (sys_cons F912_ok (mkF_nat _ _) (sys_cons F35_ok (mkF_nat _ _) (sys_cons F36_ok (mkF_nat _ _) (sys_cons F37_ok (mkF_nat _ _) (sys_nil tC_ok tC_eq))))))))
noncomputable def c15_64 : Code := subCode (loopOf (subCode (loopOf (bodyOf Try.f15) 0) 43) 2) 64
def p15_64 : PS := ⟨0, [2, 6, 7, 12, 48, 49, 50, 78, 79, 80], ⟨[vB, vB, .one (.one (.ptr 0 0 0)), vB, vB, vB, .one (.one (.mp 1)), .one (.one (.ptr 2 0 0))] ++ vBs 4 ++ [.one (.one (.sl 3))] ++ vBs 35 ++ [.one (.one (.imm 41)), vI, vI] ++ vBs 27 ++ [.one (.one (.sl 4)), vI, vI] ++ vBs 16, [.box [.int .i64, .int .i64, .int .i64], .map 51 61, .box [.int .i64, .int .i64], .arr 51, .arr 51]⟩, [⟨.normal, [2, 6, 7, 12, 48, 49, 50, 78, 79, 80], ⟨[vB, vB, .one (.one (.ptr 0 0 0)), vB, vB, vB, .one (.one (.mp 1)), .one (.one (.ptr 2 0 0))] ++ vBs 4 ++ [.one (.one (.sl 3))] ++ vBs 35 ++ [.one (.one (.imm 41)), vI, vI] ++ vBs 27 ++ [.one (.one (.sl 4)), vI, vI] ++ vBs 16, [.box [.int .i64, .int .i64, .int .i64], .map 51 61, .box [.int .i64, .int .i64], .arr 51, .arr 51]⟩, []⟩], []⟩
noncomputable def j15_64 (x : Nat × List Bm × Int × Int × Nat × Int × Int × Int × Int × Int × List (Pt × En) × Int × Int × List Pt × List Pt × Unit) : Option (Nat × List Bm × Int × Int × Nat × Int × Int × Int × Int × Int × List (Pt × En) × Int × Int × List Pt × List Pt × Unit) :=
  some
  (x.fst, x.snd.fst, x.snd.snd.fst, x.snd.snd.snd.fst, x.snd.snd.snd.snd.fst, x.snd.snd.snd.snd.snd.fst,
    IntKind.i64.wrap (x.snd.snd.snd.snd.snd.snd.fst + (1 : Int)), x.snd.snd.snd.snd.snd.snd.snd.fst, x.snd.snd.snd.snd.snd.snd.snd.snd.fst,
    x.snd.snd.snd.snd.snd.snd.snd.snd.snd.fst, x.snd.snd.snd.snd.snd.snd.snd.snd.snd.snd.fst,
    x.snd.snd.snd.snd.snd.snd.snd.snd.snd.snd.snd.fst, x.snd.snd.snd.snd.snd.snd.snd.snd.snd.snd.snd.snd.fst,
    x.snd.snd.snd.snd.snd.snd.snd.snd.snd.snd.snd.snd.snd.fst, x.snd.snd.snd.snd.snd.snd.snd.snd.snd.snd.snd.snd.snd.snd.fst, ())
theorem j15_64_run0 (v0 : Nat) (v1 : List Bm) (v2 : Int) (v3 : Int) (v4 : Nat) (v5 : Int) (v6 : Int) (v7 : Int) (v8 : Int) (v9 : Int) (v10 : List (Pt × En)) (v11 : Int) (v12 : Int) (v13 : List Pt) (v14 : List Pt) : pieceK tC G15 (look []) c15_64 p15_64 (v0, v1, v2, v3, v4, v5, v6, v7, v8, v9, v10, v11, v12, v13, v14, ()) = j15_64 (v0, v1, v2, v3, v4, v5, v6, v7, v8, v9, v10, v11, v12, v13, v14, ()) := by kernel_rfl
theorem j15_64_run (x : Nat × List Bm × Int × Int × Nat × Int × Int × Int × Int × Int × List (Pt × En) × Int × Int × List Pt × List Pt × Unit) : pieceK tC G15 (look []) c15_64 p15_64 x = j15_64 x := j15_64_run0 x.1 x.2.1 x.2.2.1 x.2.2.2.1 x.2.2.2.2.1 x.2.2.2.2.2.1 x.2.2.2.2.2.2.1 x.2.2.2.2.2.2.2.1 x.2.2.2.2.2.2.2.2.1 x.2.2.2.2.2.2.2.2.2.1 x.2.2.2.2.2.2.2.2.2.2.1 x.2.2.2.2.2.2.2.2.2.2.2.1 x.2.2.2.2.2.2.2.2.2.2.2.2.1 x.2.2.2.2.2.2.2.2.2.2.2.2.2.1 x.2.2.2.2.2.2.2.2.2.2.2.2.2.2.1
noncomputable def W15_64 : LF tC := cutLF tC p15_64 j15_64
theorem W15_64_ok : keyed 64 (loopOf (subCode (loopOf (bodyOf Try.f15) 0) 43) 2) = [c15_64] ∧ ∀ n, n ≤ 0 → Snd tC n c15_64 W15_64.k := ⟨by kernel_rfl, fun n hn => cut_ok (p := p15_64) Y15 (lam_le lam_nil n hn) hn j15_64_run⟩
noncomputable def c15_6 : Code := loopOf (subCode (loopOf (bodyOf Try.f15) 0) 43) 2
def p15_6 : LS := ⟨0, [2, 6, 7, 12, 48, 49, 50, 78, 79, 80], ⟨[vB, vB, .one (.one (.ptr 0 0 0)), vB, vB, vB, .one (.one (.mp 1)), .one (.one (.ptr 2 0 0))] ++ vBs 4 ++ [.one (.one (.sl 3))] ++ vBs 35 ++ [.one (.one (.imm 41)), vI, vI] ++ vBs 27 ++ [.one (.one (.sl 4)), vI, vI] ++ vBs 16, [.box [.int .i64, .int .i64, .int .i64], .map 51 61, .box [.int .i64, .int .i64], .arr 51, .arr 51]⟩, [⟨.exit 2, [2, 6, 7, 48, 49, 50], ⟨[vB, vB, .one (.one (.ptr 0 0 0)), vB, vB, vB, .one (.one (.mp 1)), .one (.one (.ptr 2 0 0))] ++ vBs 40 ++ [.one (.one (.imm 41)), vI, vI] ++ vBs 46, [.box [.int .i64, .int .i64, .int .i64], .map 51 61, .box [.int .i64, .int .i64]]⟩, []⟩], []⟩
noncomputable def r15_6 (x : Nat × List Bm × Int × Int × Nat × Int × Int × Int × Int × Int × List (Pt × En) × Int × Int × List Pt × List Pt × Unit) : Option
  (Nat × List Bm × Int × Int × Nat × Int × Int × Int × Int × Int × List (Pt × En) × Int × Int × List Pt × List Pt × Unit ⊕
    List Bm × Int × Int × Int × Int × Int × List (Pt × En) × Int × Int × Unit) :=
  bif decide (x.snd.snd.snd.snd.snd.snd.fst < x.snd.snd.snd.snd.snd.fst) then
  bif decide ((0 : Int) ≤ x.snd.snd.snd.snd.snd.snd.fst) && decide (x.snd.snd.snd.snd.snd.snd.fst < (↑x.snd.snd.snd.snd.fst : Int)) then
    x.snd.snd.snd.snd.snd.snd.snd.snd.snd.snd.snd.snd.snd.snd.fst[(0 : Nat) + x.snd.snd.snd.snd.snd.snd.fst.toNat]?.bind fun y129 =>
      bif decide ((0 : Nat) + x.fst ≤ x.snd.snd.snd.snd.snd.snd.snd.snd.snd.snd.snd.snd.snd.fst.length) then
        (f35 (List.take x.fst (List.drop (0 : Nat) x.snd.snd.snd.snd.snd.snd.snd.snd.snd.snd.snd.snd.snd.fst), y129.X, y129.Y, ())).bind
          fun y128 =>
          bif y128.fst then
            (j15_64
                  (x.fst, x.snd.fst, x.snd.snd.fst, x.snd.snd.snd.fst, x.snd.snd.snd.snd.fst, x.snd.snd.snd.snd.snd.fst,
                    x.snd.snd.snd.snd.snd.snd.fst, x.snd.snd.snd.snd.snd.snd.snd.fst, x.snd.snd.snd.snd.snd.snd.snd.snd.fst,
                    x.snd.snd.snd.snd.snd.snd.snd.snd.snd.fst,
                    f36 y129.X y129.Y (1 : Int) (0 : Int) x.snd.snd.snd.snd.snd.snd.snd.snd.snd.snd.fst,
                    x.snd.snd.snd.snd.snd.snd.snd.snd.snd.snd.snd.fst, x.snd.snd.snd.snd.snd.snd.snd.snd.snd.snd.snd.snd.fst,
                    x.snd.snd.snd.snd.snd.snd.snd.snd.snd.snd.snd.snd.snd.fst,
                    x.snd.snd.snd.snd.snd.snd.snd.snd.snd.snd.snd.snd.snd.snd.fst, ())).bind
              fun y126 =>
              some
                (Sum.inl
                  (y126.fst, y126.snd.fst, y126.snd.snd.fst, y126.snd.snd.snd.fst, y126.snd.snd.snd.snd.fst, y126.snd.snd.snd.snd.snd.fst,
                    y126.snd.snd.snd.snd.snd.snd.fst, y126.snd.snd.snd.snd.snd.snd.snd.fst, y126.snd.snd.snd.snd.snd.snd.snd.snd.fst,
                    y126.snd.snd.snd.snd.snd.snd.snd.snd.snd.fst, y126.snd.snd.snd.snd.snd.snd.snd.snd.snd.snd.fst,
                    y126.snd.snd.snd.snd.snd.snd.snd.snd.snd.snd.snd.fst, y126.snd.snd.snd.snd.snd.snd.snd.snd.snd.snd.snd.snd.fst,
                    y126.snd.snd.snd.snd.snd.snd.snd.snd.snd.snd.snd.snd.snd.fst,
                    y126.snd.snd.snd.snd.snd.snd.snd.snd.snd.snd.snd.snd.snd.snd.fst, ()))
          else
            (j15_64
                  (x.fst, x.snd.fst, x.snd.snd.fst, x.snd.snd.snd.fst, x.snd.snd.snd.snd.fst, x.snd.snd.snd.snd.snd.fst,
                    x.snd.snd.snd.snd.snd.snd.fst, x.snd.snd.snd.snd.snd.snd.snd.fst, x.snd.snd.snd.snd.snd.snd.snd.snd.fst,
                    x.snd.snd.snd.snd.snd.snd.snd.snd.snd.fst,
                    f36 y129.X y129.Y (0 : Int) (1 : Int) x.snd.snd.snd.snd.snd.snd.snd.snd.snd.snd.fst,
                    x.snd.snd.snd.snd.snd.snd.snd.snd.snd.snd.snd.fst, x.snd.snd.snd.snd.snd.snd.snd.snd.snd.snd.snd.snd.fst,
                    x.snd.snd.snd.snd.snd.snd.snd.snd.snd.snd.snd.snd.snd.fst,
                    x.snd.snd.snd.snd.snd.snd.snd.snd.snd.snd.snd.snd.snd.snd.fst, ())).bind
              fun y127 =>
              some
                (Sum.inl
                  (y127.fst, y127.snd.fst, y127.snd.snd.fst, y127.snd.snd.snd.fst, y127.snd.snd.snd.snd.fst, y127.snd.snd.snd.snd.snd.fst,
                    y127.snd.snd.snd.snd.snd.snd.fst, y127.snd.snd.snd.snd.snd.snd.snd.fst, y127.snd.snd.snd.snd.snd.snd.snd.snd.fst,
                    y127.snd.snd.snd.snd.snd.snd.snd.snd.snd.fst, y127.snd.snd.snd.snd.snd.snd.snd.snd.snd.snd.fst,
                    y127.snd.snd.snd.snd.snd.snd.snd.snd.snd.snd.snd.fst, y127.snd.snd.snd.snd.snd.snd.snd.snd.snd.snd.snd.snd.fst,
                    y127.snd.snd.snd.snd.snd.snd.snd.snd.snd.snd.snd.snd.snd.fst,
                    y127.snd.snd.snd.snd.snd.snd.snd.snd.snd.snd.snd.snd.snd.snd.fst, ()))
      else none
  else none
else
  some
    (Sum.inr
      (x.snd.fst, x.snd.snd.fst, x.snd.snd.snd.fst, x.snd.snd.snd.snd.snd.snd.snd.fst, x.snd.snd.snd.snd.snd.snd.snd.snd.fst,
        x.snd.snd.snd.snd.snd.snd.snd.snd.snd.fst, x.snd.snd.snd.snd.snd.snd.snd.snd.snd.snd.fst,
        x.snd.snd.snd.snd.snd.snd.snd.snd.snd.snd.snd.fst, x.snd.snd.snd.snd.snd.snd.snd.snd.snd.snd.snd.snd.fst, ()))
theorem r15_6_run0 (v0 : Nat) (v1 : List Bm) (v2 : Int) (v3 : Int) (v4 : Nat) (v5 : Int) (v6 : Int) (v7 : Int) (v8 : Int) (v9 : Int) (v10 : List (Pt × En)) (v11 : Int) (v12 : Int) (v13 : List Pt) (v14 : List Pt) : roundK tC G15 (look [(64, W15_64)]) c15_6 p15_6 (v0, v1, v2, v3, v4, v5, v6, v7, v8, v9, v10, v11, v12, v13, v14, ()) = r15_6 (v0, v1, v2, v3, v4, v5, v6, v7, v8, v9, v10, v11, v12, v13, v14, ()) := by kernel_rfl
theorem r15_6_run (x : Nat × List Bm × Int × Int × Nat × Int × Int × Int × Int × Int × List (Pt × En) × Int × Int × List Pt × List Pt × Unit) : roundK tC G15 (look [(64, W15_64)]) c15_6 p15_6 x = r15_6 x := r15_6_run0 x.1 x.2.1 x.2.2.1 x.2.2.2.1 x.2.2.2.2.1 x.2.2.2.2.2.1 x.2.2.2.2.2.2.1 x.2.2.2.2.2.2.2.1 x.2.2.2.2.2.2.2.2.1 x.2.2.2.2.2.2.2.2.2.1 x.2.2.2.2.2.2.2.2.2.2.1 x.2.2.2.2.2.2.2.2.2.2.2.1 x.2.2.2.2.2.2.2.2.2.2.2.2.1 x.2.2.2.2.2.2.2.2.2.2.2.2.2.1 x.2.2.2.2.2.2.2.2.2.2.2.2.2.2.1
noncomputable def l15_6 (x : Nat × List Bm × Int × Int × Nat × Int × Int × Int × Int × Int × List (Pt × En) × Int × Int × List Pt × List Pt × Unit) : Option (List Bm × Int × Int × Int × Int × Int × List (Pt × En) × Int × Int × Unit) := iterO r15_6 x
noncomputable def W15_6 : LF tC := loopW tC p15_6 2 l15_6
theorem W15_6_ok : keyed 6 (subCode (loopOf (bodyOf Try.f15) 0) 43) = [.block 2 (.loop c15_6)] ∧ ∀ n, n ≤ 0 → Snd tC n (.block 2 (.loop c15_6)) W15_6.k := ⟨by kernel_rfl, fun n hn => loopW_ok (p := p15_6) (id := 2) Y15 (lam_le (lam_cons W15_64_ok lam_nil) n hn) hn r15_6_run⟩
noncomputable def c15_43 : Code := subCode (loopOf (bodyOf Try.f15) 0) 43
def p15_43 : PS := ⟨0, [2, 6, 7, 10, 11, 12, 48, 49, 50], ⟨[vB, vB, .one (.one (.ptr 0 0 0)), vB, vB, vB, .one (.one (.mp 1)), .one (.one (.ptr 2 0 0)), vB, vB, .one (.one (.ptr 3 0 0)), vI, .one (.one (.sl 4))] ++ vBs 35 ++ [.one (.one (.imm 41)), vI, vI] ++ vBs 46, [.box [.int .i64, .int .i64, .int .i64], .map 51 61, .box [.int .i64, .int .i64], .box [.int .i64, .int .i64, .int .i64], .arr 51]⟩, [⟨.normal, [2, 6, 7, 48, 49, 50], ⟨[vB, vB, .one (.one (.ptr 0 0 0)), vB, vB, vB, .one (.one (.mp 1)), .one (.one (.ptr 2 0 0))] ++ vBs 40 ++ [.one (.one (.imm 41)), vI, vI] ++ vBs 46, [.box [.int .i64, .int .i64, .int .i64], .map 51 61, .box [.int .i64, .int .i64]]⟩, []⟩], [(12, 51)]⟩
noncomputable def j15_43 (x : Int × Nat × List Bm × Int × Int × Int × Int × Int × List (Pt × En) × Int × Int × Int × Int × Int × List Pt × Unit) : Option (List Bm × Int × Int × Int × Int × Int × List (Pt × En) × Int × Int × Unit) :=
  (f912
      (x.snd.snd.snd.snd.snd.snd.snd.snd.snd.fst, x.snd.snd.snd.snd.snd.snd.snd.snd.snd.snd.fst,
        x.snd.snd.snd.snd.snd.snd.snd.snd.snd.snd.snd.fst, x.snd.snd.snd.snd.snd.snd.snd.snd.snd.snd.snd.snd.fst,
        x.snd.snd.snd.snd.snd.snd.snd.snd.snd.snd.snd.snd.snd.fst, (0 : Int), x.fst, ())).bind
  fun y149 =>
  (l15_6
        (x.snd.fst, x.snd.snd.fst, x.snd.snd.snd.fst, x.snd.snd.snd.snd.fst, y149.fst, (↑y149.fst : Int), (0 : Int),
          x.snd.snd.snd.snd.snd.fst, x.snd.snd.snd.snd.snd.snd.fst, x.snd.snd.snd.snd.snd.snd.snd.fst,
          x.snd.snd.snd.snd.snd.snd.snd.snd.fst, x.snd.snd.snd.snd.snd.snd.snd.snd.snd.fst, x.snd.snd.snd.snd.snd.snd.snd.snd.snd.snd.fst,
          x.snd.snd.snd.snd.snd.snd.snd.snd.snd.snd.snd.snd.snd.snd.fst, y149.snd.snd.fst, ())).bind
    fun y148 =>
    some
      (y148.fst, y148.snd.fst, y148.snd.snd.fst, y148.snd.snd.snd.fst, y148.snd.snd.snd.snd.fst, y148.snd.snd.snd.snd.snd.fst,
        y148.snd.snd.snd.snd.snd.snd.fst, y148.snd.snd.snd.snd.snd.snd.snd.fst, y148.snd.snd.snd.snd.snd.snd.snd.snd.fst, ())
theorem j15_43_run0 (v0 : Int) (v1 : Nat) (v2 : List Bm) (v3 : Int) (v4 : Int) (v5 : Int) (v6 : Int) (v7 : Int) (v8 : List (Pt × En)) (v9 : Int) (v10 : Int) (v11 : Int) (v12 : Int) (v13 : Int) (v14 : List Pt) : pieceK tC G15 (look [(6, W15_6)]) c15_43 p15_43 (v0, v1, v2, v3, v4, v5, v6, v7, v8, v9, v10, v11, v12, v13, v14, ()) = j15_43 (v0, v1, v2, v3, v4, v5, v6, v7, v8, v9, v10, v11, v12, v13, v14, ()) := by kernel_rfl
theorem j15_43_run (x : Int × Nat × List Bm × Int × Int × Int × Int × Int × List (Pt × En) × Int × Int × Int × Int × Int × List Pt × Unit) : pieceK tC G15 (look [(6, W15_6)]) c15_43 p15_43 x = j15_43 x := j15_43_run0 x.1 x.2.1 x.2.2.1 x.2.2.2.1 x.2.2.2.2.1 x.2.2.2.2.2.1 x.2.2.2.2.2.2.1 x.2.2.2.2.2.2.2.1 x.2.2.2.2.2.2.2.2.1 x.2.2.2.2.2.2.2.2.2.1 x.2.2.2.2.2.2.2.2.2.2.1 x.2.2.2.2.2.2.2.2.2.2.2.1 x.2.2.2.2.2.2.2.2.2.2.2.2.1 x.2.2.2.2.2.2.2.2.2.2.2.2.2.1 x.2.2.2.2.2.2.2.2.2.2.2.2.2.2.1
noncomputable def W15_43 : LF tC := cutLF tC p15_43 j15_43
theorem W15_43_ok : keyed 43 (loopOf (bodyOf Try.f15) 0) = [c15_43] ∧ ∀ n, n ≤ 0 → Snd tC n c15_43 W15_43.k := ⟨by kernel_rfl, fun n hn => cut_ok (p := p15_43) Y15 (lam_le (lam_cons W15_6_ok lam_nil) n hn) hn j15_43_run⟩
noncomputable def c15_67 : Code := subCode (loopOf (bodyOf Try.f15) 0) 67
def p15_67 : PS := ⟨0, [2, 6, 7, 48, 49, 50], ⟨[vB, vB, .one (.one (.ptr 0 0 0)), vB, vB, vB, .one (.one (.mp 1)), .one (.one (.ptr 2 0 0))] ++ vBs 40 ++ [.one (.one (.imm 41)), vI, vI] ++ vBs 46, [.box [.int .i64, .int .i64, .int .i64], .map 51 61, .box [.int .i64, .int .i64]]⟩, [⟨.normal, [2, 6, 7, 48, 49, 50], ⟨[vB, vB, .one (.one (.ptr 0 0 0)), vB, vB, vB, .one (.one (.mp 1)), .one (.one (.ptr 2 0 0))] ++ vBs 40 ++ [.one (.one (.imm 41)), vI, vI] ++ vBs 46, [.box [.int .i64, .int .i64, .int .i64], .map 51 61, .box [.int .i64, .int .i64]]⟩, []⟩], []⟩
noncomputable def j15_67 (x : List Bm × Int × Int × Int × Int × Int × List (Pt × En) × Int × Int × Unit) : Option (List Bm × Int × Int × Int × Int × Int × List (Pt × En) × Int × Int × Unit) :=
  some
  (x.fst, x.snd.fst, IntKind.i64.wrap (x.snd.snd.fst + (1 : Int)), x.snd.snd.snd.fst, x.snd.snd.snd.snd.fst, x.snd.snd.snd.snd.snd.fst,
    x.snd.snd.snd.snd.snd.snd.fst, x.snd.snd.snd.snd.snd.snd.snd.fst, x.snd.snd.snd.snd.snd.snd.snd.snd.fst, ())
theorem j15_67_run0 (v0 : List Bm) (v1 : Int) (v2 : Int) (v3 : Int) (v4 : Int) (v5 : Int) (v6 : List (Pt × En)) (v7 : Int) (v8 : Int) : pieceK tC G15 (look []) c15_67 p15_67 (v0, v1, v2, v3, v4, v5, v6, v7, v8, ()) = j15_67 (v0, v1, v2, v3, v4, v5, v6, v7, v8, ()) := by kernel_rfl
theorem j15_67_run (x : List Bm × Int × Int × Int × Int × Int × List (Pt × En) × Int × Int × Unit) : pieceK tC G15 (look []) c15_67 p15_67 x = j15_67 x := j15_67_run0 x.1 x.2.1 x.2.2.1 x.2.2.2.1 x.2.2.2.2.1 x.2.2.2.2.2.1 x.2.2.2.2.2.2.1 x.2.2.2.2.2.2.2.1 x.2.2.2.2.2.2.2.2.1
noncomputable def W15_67 : LF tC := cutLF tC p15_67 j15_67
theorem W15_67_ok : keyed 67 (loopOf (bodyOf Try.f15) 0) = [c15_67] ∧ ∀ n, n ≤ 0 → Snd tC n c15_67 W15_67.k := ⟨by kernel_rfl, fun n hn => cut_ok (p := p15_67) Y15 (lam_le lam_nil n hn) hn j15_67_run⟩
noncomputable def c15_0 : Code := loopOf (bodyOf Try.f15) 0
def p15_0 : LS := ⟨0, [2, 6, 7, 48, 49, 50], ⟨[vB, vB, .one (.one (.ptr 0 0 0)), vB, vB, vB, .one (.one (.mp 1)), .one (.one (.ptr 2 0 0))] ++ vBs 40 ++ [.one (.one (.imm 41)), vI, vI] ++ vBs 46, [.box [.int .i64, .int .i64, .int .i64], .map 51 61, .box [.int .i64, .int .i64]]⟩, [⟨.exit 0, [6], ⟨vBs 6 ++ [.one (.one (.mp 0))] ++ vBs 90, [.map 51 61]⟩, []⟩], []⟩
noncomputable def r15_0 (x : List Bm × Int × Int × Int × Int × Int × List (Pt × En) × Int × Int × Unit) : Option (List Bm × Int × Int × Int × Int × Int × List (Pt × En) × Int × Int × Unit ⊕ List (Pt × En) × Unit) :=
  bif decide (x.snd.snd.fst < x.snd.fst) then
  (idxO x.fst x.snd.snd.fst).bind fun y211 =>
    (f11 (x.snd.snd.snd.snd.snd.fst, y211.M, ())).bind fun y210 =>
      bif decide (y211.R < (0 : Int)) then
        (j15_43
              ((1024 : Int), (0 : Nat), x.fst, x.snd.fst, x.snd.snd.fst, x.snd.snd.snd.fst, x.snd.snd.snd.snd.fst,
                x.snd.snd.snd.snd.snd.fst, x.snd.snd.snd.snd.snd.snd.fst, x.snd.snd.snd.snd.snd.snd.snd.fst,
                x.snd.snd.snd.snd.snd.snd.snd.snd.fst, y210.fst, y210.snd.fst, y210.snd.snd.fst, [], ())).bind
          fun y206 =>
          (j15_67
                (y206.fst, y206.snd.fst, y206.snd.snd.fst, y206.snd.snd.snd.fst, y206.snd.snd.snd.snd.fst, y206.snd.snd.snd.snd.snd.fst,
                  y206.snd.snd.snd.snd.snd.snd.fst, y206.snd.snd.snd.snd.snd.snd.snd.fst, y206.snd.snd.snd.snd.snd.snd.snd.snd.fst,
                  ())).bind
            fun y205 =>
            some
              (Sum.inl
                (y205.fst, y205.snd.fst, y205.snd.snd.fst, y205.snd.snd.snd.fst, y205.snd.snd.snd.snd.fst, y205.snd.snd.snd.snd.snd.fst,
                  y205.snd.snd.snd.snd.snd.snd.fst, y205.snd.snd.snd.snd.snd.snd.snd.fst, y205.snd.snd.snd.snd.snd.snd.snd.snd.fst, ()))
      else
        (f912
              (x.snd.snd.snd.snd.snd.snd.snd.fst, x.snd.snd.snd.snd.snd.snd.snd.snd.fst, y210.fst, y210.snd.fst, y210.snd.snd.fst, y211.R,
                y211.R, ())).bind
          fun y209 =>
          (j15_43
                (y211.R, y209.fst, x.fst, x.snd.fst, x.snd.snd.fst, x.snd.snd.snd.fst, x.snd.snd.snd.snd.fst, x.snd.snd.snd.snd.snd.fst,
                  x.snd.snd.snd.snd.snd.snd.fst, x.snd.snd.snd.snd.snd.snd.snd.fst, x.snd.snd.snd.snd.snd.snd.snd.snd.fst, y210.fst,
                  y210.snd.fst, y210.snd.snd.fst, y209.snd.snd.fst, ())).bind
            fun y208 =>
            (j15_67
                  (y208.fst, y208.snd.fst, y208.snd.snd.fst, y208.snd.snd.snd.fst, y208.snd.snd.snd.snd.fst, y208.snd.snd.snd.snd.snd.fst,
                    y208.snd.snd.snd.snd.snd.snd.fst, y208.snd.snd.snd.snd.snd.snd.snd.fst, y208.snd.snd.snd.snd.snd.snd.snd.snd.fst,
                    ())).bind
              fun y207 =>
              some
                (Sum.inl
                  (y207.fst, y207.snd.fst, y207.snd.snd.fst, y207.snd.snd.snd.fst, y207.snd.snd.snd.snd.fst, y207.snd.snd.snd.snd.snd.fst,
                    y207.snd.snd.snd.snd.snd.snd.fst, y207.snd.snd.snd.snd.snd.snd.snd.fst, y207.snd.snd.snd.snd.snd.snd.snd.snd.fst, ()))
else some (Sum.inr (x.snd.snd.snd.snd.snd.snd.fst, ()))
theorem r15_0_run0 (v0 : List Bm) (v1 : Int) (v2 : Int) (v3 : Int) (v4 : Int) (v5 : Int) (v6 : List (Pt × En)) (v7 : Int) (v8 : Int) : roundK tC G15 (look [(43, W15_43), (67, W15_67)]) c15_0 p15_0 (v0, v1, v2, v3, v4, v5, v6, v7, v8, ()) = r15_0 (v0, v1, v2, v3, v4, v5, v6, v7, v8, ()) := by kernel_rfl
theorem r15_0_run (x : List Bm × Int × Int × Int × Int × Int × List (Pt × En) × Int × Int × Unit) : roundK tC G15 (look [(43, W15_43), (67, W15_67)]) c15_0 p15_0 x = r15_0 x := r15_0_run0 x.1 x.2.1 x.2.2.1 x.2.2.2.1 x.2.2.2.2.1 x.2.2.2.2.2.1 x.2.2.2.2.2.2.1 x.2.2.2.2.2.2.2.1 x.2.2.2.2.2.2.2.2.1
noncomputable def l15_0 (x : List Bm × Int × Int × Int × Int × Int × List (Pt × En) × Int × Int × Unit) : Option (List (Pt × En) × Unit) := iterO r15_0 x
noncomputable def W15_0 : LF tC := loopW tC p15_0 0 l15_0
theorem W15_0_ok : keyed 0 (bodyOf Try.f15) = [.block 0 (.loop c15_0)] ∧ ∀ n, n ≤ 0 → Snd tC n (.block 0 (.loop c15_0)) W15_0.k := ⟨by kernel_rfl, fun n hn => loopW_ok (p := p15_0) (id := 0) Y15 (lam_le (lam_cons W15_43_ok (lam_cons W15_67_ok lam_nil)) n hn) hn r15_0_run⟩
def S15 : FS := ⟨[[.v, .v, .v], [.s 41]], [⟨[.one (.agg [.int .i64, .int .i64, .int .i64]), .one (.one (.imm 41))], []⟩], [⟨[.tup [.one (.sl 0), .one (.int .i64)]], [.arr 61]⟩], [[.v], [.v]], [(4, 61)]⟩
noncomputable def f15 (x : Int × Int × Int × List Bm × Unit) : Option (Nat × Int × List En × Unit) :=
  bif !f33 x.fst (262144 : Int) then some ((0 : Nat), (1 : Int), [], ())
else
  bif !f33 x.snd.fst (262144 : Int) then some ((0 : Nat), (1 : Int), [], ())
  else
    bif decide (x.snd.snd.fst < (0 : Int)) then some ((0 : Nat), (1 : Int), [], ())
    else
      bif decide (x.snd.snd.fst ≥ (256 : Int)) then some ((0 : Nat), (1 : Int), [], ())
      else
        (f34 (x.snd.snd.snd.fst, ())).bind fun y221 =>
          bif !y221.fst then some ((0 : Nat), (1 : Int), [], ())
          else
            (l15_0
                  (x.snd.snd.snd.fst, (↑x.snd.snd.snd.fst.length : Int), (0 : Int), x.fst, x.snd.fst, x.snd.snd.fst, [], x.fst, x.snd.fst,
                    ())).bind
              fun y220 => (f37 (y220.fst, ())).bind fun y219 => some (y219.fst, (0 : Int), y219.snd.snd.fst, ())
noncomputable def F15 : CF tC := mkF tC S15 f15
theorem f15_run : ∀ a, fnS tC G15 (look [(0, W15_0)]) Try.f15 S15 a = f15 a := fun a => by kernel_rfl
theorem F15_ok : CFOK tC 15 F15 := mkF_ok Y15 (fn := Try.f15) (body := bodyOf Try.f15) (by kernel_rfl) (by kernel_rfl) (by kernel_rfl) (m := 0) rfl (lam_le (lam_cons W15_0_ok lam_nil)) f15_run

/-! raysAwake -/
noncomputable def G4 : FuncId → Option (CF tC) := look [(9, F9), (15, F15)]
theorem Y4 : SysN tC G4 := (sys_cons F9_ok (mkF_nat _ _) (sys_cons F15_ok (mkF_nat _ _) (sys_nil tC_ok tC_eq)))
def S4 : FS := ⟨[], [⟨[], []⟩], [⟨[vO], []⟩], [[.v]], []⟩
noncomputable def f4 (_x : Unit) : Option (Bool × Unit) :=
  (f9 ((3 : Int), (1 : Int), [(1 : Int), (1 : Int), (2 : Int)], (32 : Int), (32 : Int), (0 : Int), (0 : Int), (1 : Int), (0 : Int), ())).bind
  fun y8 =>
  (f15 ((32 : Int), (32 : Int), (0 : Int), [Bm.mk (0 : Int) (97 : Int)], ())).bind fun y7 =>
    bif y8.snd.fst == (0 : Int) then
      bif y8.fst == (96 : Int) then bif y7.snd.fst == (0 : Int) then some ((↑y7.fst : Int) == (3 : Int), ()) else some (false, ())
      else some (false, ())
    else some (false, ())
noncomputable def F4 : CF tC := mkF tC S4 f4
theorem f4_run : ∀ a, fnS tC G4 (look []) Try.f4 S4 a = f4 a := fun a => by kernel_rfl
theorem F4_ok : CFOK tC 4 F4 := mkF_ok Y4 (fn := Try.f4) (body := bodyOf Try.f4) (by kernel_rfl) (by kernel_rfl) (by kernel_rfl) (m := 0) rfl (lam_le lam_nil) f4_run

/-! WholeRays -/
noncomputable def G3 : FuncId → Option (CF tC) := look [(4, F4), (5, F5), (6, F6), (7, F7), (8, F8), (9, F9), (10, F10), (11, F11), (12, F12), (13, F13), (14, F14), (15, F15), (16, F16)]
theorem Y3 : SysN tC G3 := (sys_cons F4_ok (mkF_nat _ _) (sys_cons F5_ok (mkF_nat _ _) (sys_cons F6_ok (mkF_nat _ _) (sys_cons F7_ok (mkF_nat _ _) (sys_cons F8_ok (mkF_nat _ _) (sys_cons F9_ok (mkF_nat _ _) (sys_cons F10_ok (mkF_nat _ _) (sys_cons F11_ok (mkF_nat _ _) (sys_cons F12_ok (mkF_nat _ _) (sys_cons F13_ok (mkF_nat _ _) (sys_cons F14_ok (mkF_nat _ _) (sys_cons F15_ok (mkF_nat _ _) (sys_cons F16_ok (mkF_nat _ _) (sys_nil tC_ok tC_eq))))))))))))))
noncomputable def c3_0 : Code := loopOf (subCode (bodyOf Try.f3) 43) 0
def p3_0 : LS := ⟨0, [1, 3, 7, 8, 10, 11, 13, 15], ⟨[vB, vI, vB, .one (.one (.ptr 0 0 0)), vB, vB, vB, vI, vI, vB, .one (.one (.ptr 1 0 0)), .one (.one (.ptr 2 0 0)), vB, .one (.one (.imm 51)), vB, vI] ++ vBs 252, [.box [.int .i64, .int .i64, .imm 5, .int .i64, .int .i64, .int .i64, .int .i64, .int .i64, .int .i64, .int .i64], .box [.int .i64, .int .i64], .box [.int .i64, .int .i64, .int .i64]]⟩, [⟨.ret, [6], ⟨vBs 6 ++ [vO] ++ vBs 261, []⟩, []⟩, ⟨.exit 0, [1, 3, 7, 8, 10, 11], ⟨[vB, vI, vB, .one (.one (.ptr 0 0 0)), vB, vB, vB, vI, vI, vB, .one (.one (.ptr 1 0 0)), .one (.one (.ptr 2 0 0))] ++ vBs 256, [.box [.int .i64, .int .i64, .imm 5, .int .i64, .int .i64, .int .i64, .int .i64, .int .i64, .int .i64, .int .i64], .box [.int .i64, .int .i64], .box [.int .i64, .int .i64, .int .i64]]⟩, []⟩], []⟩
noncomputable def r3_0 (x : Int × Int × Int × List Pt × Int × Int × Int × List Int × Int × Int × Int × Int × Int × Int × Int × Int × Int × Int × Int × Int × Unit) : Option
  (Int × Int × Int × List Pt × Int × Int × Int × List Int × Int × Int × Int × Int × Int × Int × Int × Int × Int × Int × Int × Int × Unit ⊕
    Bool × Unit ⊕ Int × Int × Int × Int × Int × List Int × Int × Int × Int × Int × Int × Int × Int × Int × Int × Int × Int × Int × Unit) :=
  bif decide (x.snd.snd.snd.snd.fst < (↑x.snd.snd.snd.fst.length : Int)) then
  (idxO x.snd.snd.snd.fst x.snd.snd.snd.snd.fst).bind fun y87 =>
    (f13 (x.snd.snd.snd.snd.snd.fst, x.snd.snd.snd.snd.snd.snd.fst, x.snd.snd.snd.snd.snd.snd.snd.fst, y87.X, y87.Y, ())).bind fun y86 =>
      bif y86.fst == (2 : Int) then some (Sum.inr (Sum.inl (false, ())))
      else
        some
          (Sum.inl
            (x.fst, x.snd.fst, x.snd.snd.fst, x.snd.snd.snd.fst, IntKind.i64.wrap (x.snd.snd.snd.snd.fst + (1 : Int)),
              x.snd.snd.snd.snd.snd.fst, x.snd.snd.snd.snd.snd.snd.fst, x.snd.snd.snd.snd.snd.snd.snd.fst,
              x.snd.snd.snd.snd.snd.snd.snd.snd.fst, x.snd.snd.snd.snd.snd.snd.snd.snd.snd.fst,
              x.snd.snd.snd.snd.snd.snd.snd.snd.snd.snd.fst, x.snd.snd.snd.snd.snd.snd.snd.snd.snd.snd.snd.fst,
              x.snd.snd.snd.snd.snd.snd.snd.snd.snd.snd.snd.snd.fst, x.snd.snd.snd.snd.snd.snd.snd.snd.snd.snd.snd.snd.snd.fst,
              x.snd.snd.snd.snd.snd.snd.snd.snd.snd.snd.snd.snd.snd.snd.fst,
              x.snd.snd.snd.snd.snd.snd.snd.snd.snd.snd.snd.snd.snd.snd.snd.fst,
              x.snd.snd.snd.snd.snd.snd.snd.snd.snd.snd.snd.snd.snd.snd.snd.snd.fst,
              x.snd.snd.snd.snd.snd.snd.snd.snd.snd.snd.snd.snd.snd.snd.snd.snd.snd.fst,
              x.snd.snd.snd.snd.snd.snd.snd.snd.snd.snd.snd.snd.snd.snd.snd.snd.snd.snd.fst,
              x.snd.snd.snd.snd.snd.snd.snd.snd.snd.snd.snd.snd.snd.snd.snd.snd.snd.snd.snd.fst, ()))
else
  some
    (Sum.inr
      (Sum.inr
        (x.fst, x.snd.fst, x.snd.snd.fst, x.snd.snd.snd.snd.snd.fst, x.snd.snd.snd.snd.snd.snd.fst, x.snd.snd.snd.snd.snd.snd.snd.fst,
          x.snd.snd.snd.snd.snd.snd.snd.snd.fst, x.snd.snd.snd.snd.snd.snd.snd.snd.snd.fst, x.snd.snd.snd.snd.snd.snd.snd.snd.snd.snd.fst,
          x.snd.snd.snd.snd.snd.snd.snd.snd.snd.snd.snd.fst, x.snd.snd.snd.snd.snd.snd.snd.snd.snd.snd.snd.snd.fst,
          x.snd.snd.snd.snd.snd.snd.snd.snd.snd.snd.snd.snd.snd.fst, x.snd.snd.snd.snd.snd.snd.snd.snd.snd.snd.snd.snd.snd.snd.fst,
          x.snd.snd.snd.snd.snd.snd.snd.snd.snd.snd.snd.snd.snd.snd.snd.fst,
          x.snd.snd.snd.snd.snd.snd.snd.snd.snd.snd.snd.snd.snd.snd.snd.snd.fst,
          x.snd.snd.snd.snd.snd.snd.snd.snd.snd.snd.snd.snd.snd.snd.snd.snd.snd.fst,
          x.snd.snd.snd.snd.snd.snd.snd.snd.snd.snd.snd.snd.snd.snd.snd.snd.snd.snd.fst,
          x.snd.snd.snd.snd.snd.snd.snd.snd.snd.snd.snd.snd.snd.snd.snd.snd.snd.snd.snd.fst, ())))
theorem r3_0_run0 (v0 : Int) (v1 : Int) (v2 : Int) (v3 : List Pt) (v4 : Int) (v5 : Int) (v6 : Int) (v7 : List Int) (v8 : Int) (v9 : Int) (v10 : Int) (v11 : Int) (v12 : Int) (v13 : Int) (v14 : Int) (v15 : Int) (v16 : Int) (v17 : Int) (v18 : Int) (v19 : Int) : roundK tC G3 (look []) c3_0 p3_0 (v0, v1, v2, v3, v4, v5, v6, v7, v8, v9, v10, v11, v12, v13, v14, v15, v16, v17, v18, v19, ()) = r3_0 (v0, v1, v2, v3, v4, v5, v6, v7, v8, v9, v10, v11, v12, v13, v14, v15, v16, v17, v18, v19, ()) := by kernel_rfl
theorem r3_0_run (x : Int × Int × Int × List Pt × Int × Int × Int × List Int × Int × Int × Int × Int × Int × Int × Int × Int × Int × Int × Int × Int × Unit) : roundK tC G3 (look []) c3_0 p3_0 x = r3_0 x := r3_0_run0 x.1 x.2.1 x.2.2.1 x.2.2.2.1 x.2.2.2.2.1 x.2.2.2.2.2.1 x.2.2.2.2.2.2.1 x.2.2.2.2.2.2.2.1 x.2.2.2.2.2.2.2.2.1 x.2.2.2.2.2.2.2.2.2.1 x.2.2.2.2.2.2.2.2.2.2.1 x.2.2.2.2.2.2.2.2.2.2.2.1 x.2.2.2.2.2.2.2.2.2.2.2.2.1 x.2.2.2.2.2.2.2.2.2.2.2.2.2.1 x.2.2.2.2.2.2.2.2.2.2.2.2.2.2.1 x.2.2.2.2.2.2.2.2.2.2.2.2.2.2.2.1 x.2.2.2.2.2.2.2.2.2.2.2.2.2.2.2.2.1 x.2.2.2.2.2.2.2.2.2.2.2.2.2.2.2.2.2.1 x.2.2.2.2.2.2.2.2.2.2.2.2.2.2.2.2.2.2.1 x.2.2.2.2.2.2.2.2.2.2.2.2.2.2.2.2.2.2.2.1
noncomputable def l3_0 (x : Int × Int × Int × List Pt × Int × Int × Int × List Int × Int × Int × Int × Int × Int × Int × Int × Int × Int × Int × Int × Int × Unit) : Option (Bool × Unit ⊕ Int × Int × Int × Int × Int × List Int × Int × Int × Int × Int × Int × Int × Int × Int × Int × Int × Int × Int × Unit) := iterO r3_0 x
noncomputable def W3_0 : LF tC := loopW tC p3_0 0 l3_0
theorem W3_0_ok : keyed 0 (subCode (bodyOf Try.f3) 43) = [.block 0 (.loop c3_0)] ∧ ∀ n, n ≤ 0 → Snd tC n (.block 0 (.loop c3_0)) W3_0.k := ⟨by kernel_rfl, fun n hn => loopW_ok (p := p3_0) (id := 0) Y3 (lam_le lam_nil n hn) hn r3_0_run⟩
noncomputable def c3_88 : Code := subCode (loopOf (subCode (subCode (bodyOf Try.f3) 43) 70) 2) 88
def p3_88 : PS := ⟨0, [1, 3, 8, 10, 11, 16, 17, 18, 19], ⟨[vB, vI, vB, .one (.one (.ptr 0 0 0))] ++ vBs 4 ++ [vI, vB, .one (.one (.ptr 1 0 0)), .one (.one (.ptr 2 0 0))] ++ vBs 4 ++ [.one (.one (.imm 51)), vI, vO, vI] ++ vBs 248, [.box [.int .i64, .int .i64, .imm 5, .int .i64, .int .i64, .int .i64, .int .i64, .int .i64, .int .i64, .int .i64], .box [.int .i64, .int .i64], .box [.int .i64, .int .i64, .int .i64]]⟩, [⟨.normal, [1, 3, 8, 10, 11, 16, 17, 18, 19], ⟨[vB, vI, vB, .one (.one (.ptr 0 0 0))] ++ vBs 4 ++ [vI, vB, .one (.one (.ptr 1 0 0)), .one (.one (.ptr 2 0 0))] ++ vBs 4 ++ [.one (.one (.imm 51)), vI, vO, vI] ++ vBs 248, [.box [.int .i64, .int .i64, .imm 5, .int .i64, .int .i64, .int .i64, .int .i64, .int .i64, .int .i64, .int .i64], .box [.int .i64, .int .i64], .box [.int .i64, .int .i64, .int .i64]]⟩, []⟩], []⟩
noncomputable def j3_88 (x : Int × Int × List Pt × Int × Bool × Int × Int × Int × List Int × Int × Int × Int × Int × Int × Int × Int × Int × Int × Int × Int × Int × Unit) : Option
  (Int ×
    Int × List Pt × Int × Bool × Int × Int × Int × List Int × Int × Int × Int × Int × Int × Int × Int × Int × Int × Int × Int × Int × Unit) :=
  some
  (x.fst, x.snd.fst, x.snd.snd.fst, x.snd.snd.snd.fst, x.snd.snd.snd.snd.fst, IntKind.i64.wrap (x.snd.snd.snd.snd.snd.fst + (1 : Int)),
    x.snd.snd.snd.snd.snd.snd.fst, x.snd.snd.snd.snd.snd.snd.snd.fst, x.snd.snd.snd.snd.snd.snd.snd.snd.fst,
    x.snd.snd.snd.snd.snd.snd.snd.snd.snd.fst, x.snd.snd.snd.snd.snd.snd.snd.snd.snd.snd.fst,
    x.snd.snd.snd.snd.snd.snd.snd.snd.snd.snd.snd.fst, x.snd.snd.snd.snd.snd.snd.snd.snd.snd.snd.snd.snd.fst,
    x.snd.snd.snd.snd.snd.snd.snd.snd.snd.snd.snd.snd.snd.fst, x.snd.snd.snd.snd.snd.snd.snd.snd.snd.snd.snd.snd.snd.snd.fst,
    x.snd.snd.snd.snd.snd.snd.snd.snd.snd.snd.snd.snd.snd.snd.snd.fst,
    x.snd.snd.snd.snd.snd.snd.snd.snd.snd.snd.snd.snd.snd.snd.snd.snd.fst,
    x.snd.snd.snd.snd.snd.snd.snd.snd.snd.snd.snd.snd.snd.snd.snd.snd.snd.fst,
    x.snd.snd.snd.snd.snd.snd.snd.snd.snd.snd.snd.snd.snd.snd.snd.snd.snd.snd.fst,
    x.snd.snd.snd.snd.snd.snd.snd.snd.snd.snd.snd.snd.snd.snd.snd.snd.snd.snd.snd.fst,
    x.snd.snd.snd.snd.snd.snd.snd.snd.snd.snd.snd.snd.snd.snd.snd.snd.snd.snd.snd.snd.fst, ())
theorem j3_88_run0 (v0 : Int) (v1 : Int) (v2 : List Pt) (v3 : Int) (v4 : Bool) (v5 : Int) (v6 : Int) (v7 : Int) (v8 : List Int) (v9 : Int) (v10 : Int) (v11 : Int) (v12 : Int) (v13 : Int) (v14 : Int) (v15 : Int) (v16 : Int) (v17 : Int) (v18 : Int) (v19 : Int) (v20 : Int) : pieceK tC G3 (look []) c3_88 p3_88 (v0, v1, v2, v3, v4, v5, v6, v7, v8, v9, v10, v11, v12, v13, v14, v15, v16, v17, v18, v19, v20, ()) = j3_88 (v0, v1, v2, v3, v4, v5, v6, v7, v8, v9, v10, v11, v12, v13, v14, v15, v16, v17, v18, v19, v20, ()) := by kernel_rfl
theorem j3_88_run (x : Int × Int × List Pt × Int × Bool × Int × Int × Int × List Int × Int × Int × Int × Int × Int × Int × Int × Int × Int × Int × Int × Int × Unit) : pieceK tC G3 (look []) c3_88 p3_88 x = j3_88 x := j3_88_run0 x.1 x.2.1 x.2.2.1 x.2.2.2.1 x.2.2.2.2.1 x.2.2.2.2.2.1 x.2.2.2.2.2.2.1 x.2.2.2.2.2.2.2.1 x.2.2.2.2.2.2.2.2.1 x.2.2.2.2.2.2.2.2.2.1 x.2.2.2.2.2.2.2.2.2.2.1 x.2.2.2.2.2.2.2.2.2.2.2.1 x.2.2.2.2.2.2.2.2.2.2.2.2.1 x.2.2.2.2.2.2.2.2.2.2.2.2.2.1 x.2.2.2.2.2.2.2.2.2.2.2.2.2.2.1 x.2.2.2.2.2.2.2.2.2.2.2.2.2.2.2.1 x.2.2.2.2.2.2.2.2.2.2.2.2.2.2.2.2.1 x.2.2.2.2.2.2.2.2.2.2.2.2.2.2.2.2.2.1 x.2.2.2.2.2.2.2.2.2.2.2.2.2.2.2.2.2.2.1 x.2.2.2.2.2.2.2.2.2.2.2.2.2.2.2.2.2.2.2.1 x.2.2.2.2.2.2.2.2.2.2.2.2.2.2.2.2.2.2.2.2.1
noncomputable def W3_88 : LF tC := cutLF tC p3_88 j3_88
theorem W3_88_ok : keyed 88 (loopOf (subCode (subCode (bodyOf Try.f3) 43) 70) 2) = [c3_88] ∧ ∀ n, n ≤ 0 → Snd tC n c3_88 W3_88.k := ⟨by kernel_rfl, fun n hn => cut_ok (p := p3_88) Y3 (lam_le lam_nil n hn) hn j3_88_run⟩
noncomputable def c3_6 : Code := loopOf (subCode (subCode (bodyOf Try.f3) 43) 70) 2
def p3_6 : LS := ⟨0, [1, 3, 8, 10, 11, 16, 17, 18, 19], ⟨[vB, vI, vB, .one (.one (.ptr 0 0 0))] ++ vBs 4 ++ [vI, vB, .one (.one (.ptr 1 0 0)), .one (.one (.ptr 2 0 0))] ++ vBs 4 ++ [.one (.one (.imm 51)), vI, vO, vI] ++ vBs 248, [.box [.int .i64, .int .i64, .imm 5, .int .i64, .int .i64, .int .i64, .int .i64, .int .i64, .int .i64, .int .i64], .box [.int .i64, .int .i64], .box [.int .i64, .int .i64, .int .i64]]⟩, [⟨.exit 2, [1, 3, 8, 10, 11, 17, 18], ⟨[vB, vI, vB, .one (.one (.ptr 0 0 0))] ++ vBs 4 ++ [vI, vB, .one (.one (.ptr 1 0 0)), .one (.one (.ptr 2 0 0))] ++ vBs 5 ++ [vI, vO] ++ vBs 249, [.box [.int .i64, .int .i64, .imm 5, .int .i64, .int .i64, .int .i64, .int .i64, .int .i64, .int .i64, .int .i64], .box [.int .i64, .int .i64], .box [.int .i64, .int .i64, .int .i64]]⟩, []⟩], []⟩
noncomputable def r3_6 (x : Int × Int × List Pt × Int × Bool × Int × Int × Int × List Int × Int × Int × Int × Int × Int × Int × Int × Int × Int × Int × Int × Int × Unit) : Option
  (Int ×
      Int ×
        List Pt × Int × Bool × Int × Int × Int × List Int × Int × Int × Int × Int × Int × Int × Int × Int × Int × Int × Int × Int × Unit ⊕
    Int × Int × Int × Bool × Int × Int × List Int × Int × Int × Int × Int × Int × Int × Int × Int × Int × Int × Int × Int × Unit) :=
  bif decide (x.snd.snd.snd.snd.snd.fst < (↑x.snd.snd.fst.length : Int)) then
  bif x.snd.snd.snd.snd.fst then
    (j3_88
          (x.fst, x.snd.fst, x.snd.snd.fst, x.snd.snd.snd.fst, true, x.snd.snd.snd.snd.snd.fst, x.snd.snd.snd.snd.snd.snd.fst,
            x.snd.snd.snd.snd.snd.snd.snd.fst, x.snd.snd.snd.snd.snd.snd.snd.snd.fst, x.snd.snd.snd.snd.snd.snd.snd.snd.snd.fst,
            x.snd.snd.snd.snd.snd.snd.snd.snd.snd.snd.fst, x.snd.snd.snd.snd.snd.snd.snd.snd.snd.snd.snd.fst,
            x.snd.snd.snd.snd.snd.snd.snd.snd.snd.snd.snd.snd.fst, x.snd.snd.snd.snd.snd.snd.snd.snd.snd.snd.snd.snd.snd.fst,
            x.snd.snd.snd.snd.snd.snd.snd.snd.snd.snd.snd.snd.snd.snd.fst,
            x.snd.snd.snd.snd.snd.snd.snd.snd.snd.snd.snd.snd.snd.snd.snd.fst,
            x.snd.snd.snd.snd.snd.snd.snd.snd.snd.snd.snd.snd.snd.snd.snd.snd.fst,
            x.snd.snd.snd.snd.snd.snd.snd.snd.snd.snd.snd.snd.snd.snd.snd.snd.snd.fst,
            x.snd.snd.snd.snd.snd.snd.snd.snd.snd.snd.snd.snd.snd.snd.snd.snd.snd.snd.fst,
            x.snd.snd.snd.snd.snd.snd.snd.snd.snd.snd.snd.snd.snd.snd.snd.snd.snd.snd.snd.fst,
            x.snd.snd.snd.snd.snd.snd.snd.snd.snd.snd.snd.snd.snd.snd.snd.snd.snd.snd.snd.snd.fst, ())).bind
      fun y253 =>
      some
        (Sum.inl
          (y253.fst, y253.snd.fst, y253.snd.snd.fst, y253.snd.snd.snd.fst, y253.snd.snd.snd.snd.fst, y253.snd.snd.snd.snd.snd.fst,
            y253.snd.snd.snd.snd.snd.snd.fst, y253.snd.snd.snd.snd.snd.snd.snd.fst, y253.snd.snd.snd.snd.snd.snd.snd.snd.fst,
            y253.snd.snd.snd.snd.snd.snd.snd.snd.snd.fst, y253.snd.snd.snd.snd.snd.snd.snd.snd.snd.snd.fst,
            y253.snd.snd.snd.snd.snd.snd.snd.snd.snd.snd.snd.fst, y253.snd.snd.snd.snd.snd.snd.snd.snd.snd.snd.snd.snd.fst,
            y253.snd.snd.snd.snd.snd.snd.snd.snd.snd.snd.snd.snd.snd.fst, y253.snd.snd.snd.snd.snd.snd.snd.snd.snd.snd.snd.snd.snd.snd.fst,
            y253.snd.snd.snd.snd.snd.snd.snd.snd.snd.snd.snd.snd.snd.snd.snd.fst,
            y253.snd.snd.snd.snd.snd.snd.snd.snd.snd.snd.snd.snd.snd.snd.snd.snd.fst,
            y253.snd.snd.snd.snd.snd.snd.snd.snd.snd.snd.snd.snd.snd.snd.snd.snd.snd.fst,
            y253.snd.snd.snd.snd.snd.snd.snd.snd.snd.snd.snd.snd.snd.snd.snd.snd.snd.snd.fst,
            y253.snd.snd.snd.snd.snd.snd.snd.snd.snd.snd.snd.snd.snd.snd.snd.snd.snd.snd.snd.fst,
            y253.snd.snd.snd.snd.snd.snd.snd.snd.snd.snd.snd.snd.snd.snd.snd.snd.snd.snd.snd.snd.fst, ()))
  else
    (idxO x.snd.snd.fst x.snd.snd.snd.snd.snd.fst).bind fun y256 =>
      (f13
            (x.snd.snd.snd.snd.snd.snd.fst, x.snd.snd.snd.snd.snd.snd.snd.fst, x.snd.snd.snd.snd.snd.snd.snd.snd.fst, y256.X, y256.Y,
              ())).bind
        fun y255 =>
        (j3_88
              (x.fst, x.snd.fst, x.snd.snd.fst, x.snd.snd.snd.fst, y255.fst == (2 : Int), x.snd.snd.snd.snd.snd.fst,
                x.snd.snd.snd.snd.snd.snd.fst, x.snd.snd.snd.snd.snd.snd.snd.fst, x.snd.snd.snd.snd.snd.snd.snd.snd.fst,
                x.snd.snd.snd.snd.snd.snd.snd.snd.snd.fst, x.snd.snd.snd.snd.snd.snd.snd.snd.snd.snd.fst,
                x.snd.snd.snd.snd.snd.snd.snd.snd.snd.snd.snd.fst, x.snd.snd.snd.snd.snd.snd.snd.snd.snd.snd.snd.snd.fst,
                x.snd.snd.snd.snd.snd.snd.snd.snd.snd.snd.snd.snd.snd.fst, x.snd.snd.snd.snd.snd.snd.snd.snd.snd.snd.snd.snd.snd.snd.fst,
                x.snd.snd.snd.snd.snd.snd.snd.snd.snd.snd.snd.snd.snd.snd.snd.fst,
                x.snd.snd.snd.snd.snd.snd.snd.snd.snd.snd.snd.snd.snd.snd.snd.snd.fst,
                x.snd.snd.snd.snd.snd.snd.snd.snd.snd.snd.snd.snd.snd.snd.snd.snd.snd.fst,
                x.snd.snd.snd.snd.snd.snd.snd.snd.snd.snd.snd.snd.snd.snd.snd.snd.snd.snd.fst,
                x.snd.snd.snd.snd.snd.snd.snd.snd.snd.snd.snd.snd.snd.snd.snd.snd.snd.snd.snd.fst,
                x.snd.snd.snd.snd.snd.snd.snd.snd.snd.snd.snd.snd.snd.snd.snd.snd.snd.snd.snd.snd.fst, ())).bind
          fun y254 =>
          some
            (Sum.inl
              (y254.fst, y254.snd.fst, y254.snd.snd.fst, y254.snd.snd.snd.fst, y254.snd.snd.snd.snd.fst, y254.snd.snd.snd.snd.snd.fst,
                y254.snd.snd.snd.snd.snd.snd.fst, y254.snd.snd.snd.snd.snd.snd.snd.fst, y254.snd.snd.snd.snd.snd.snd.snd.snd.fst,
                y254.snd.snd.snd.snd.snd.snd.snd.snd.snd.fst, y254.snd.snd.snd.snd.snd.snd.snd.snd.snd.snd.fst,
                y254.snd.snd.snd.snd.snd.snd.snd.snd.snd.snd.snd.fst, y254.snd.snd.snd.snd.snd.snd.snd.snd.snd.snd.snd.snd.fst,
                y254.snd.snd.snd.snd.snd.snd.snd.snd.snd.snd.snd.snd.snd.fst,
                y254.snd.snd.snd.snd.snd.snd.snd.snd.snd.snd.snd.snd.snd.snd.fst,
                y254.snd.snd.snd.snd.snd.snd.snd.snd.snd.snd.snd.snd.snd.snd.snd.fst,
                y254.snd.snd.snd.snd.snd.snd.snd.snd.snd.snd.snd.snd.snd.snd.snd.snd.fst,
                y254.snd.snd.snd.snd.snd.snd.snd.snd.snd.snd.snd.snd.snd.snd.snd.snd.snd.fst,
                y254.snd.snd.snd.snd.snd.snd.snd.snd.snd.snd.snd.snd.snd.snd.snd.snd.snd.snd.fst,
                y254.snd.snd.snd.snd.snd.snd.snd.snd.snd.snd.snd.snd.snd.snd.snd.snd.snd.snd.snd.fst,
                y254.snd.snd.snd.snd.snd.snd.snd.snd.snd.snd.snd.snd.snd.snd.snd.snd.snd.snd.snd.snd.fst, ()))
else
  some
    (Sum.inr
      (x.fst, x.snd.fst, x.snd.snd.snd.fst, x.snd.snd.snd.snd.fst, x.snd.snd.snd.snd.snd.snd.fst, x.snd.snd.snd.snd.snd.snd.snd.fst,
        x.snd.snd.snd.snd.snd.snd.snd.snd.fst, x.snd.snd.snd.snd.snd.snd.snd.snd.snd.fst, x.snd.snd.snd.snd.snd.snd.snd.snd.snd.snd.fst,
        x.snd.snd.snd.snd.snd.snd.snd.snd.snd.snd.snd.fst, x.snd.snd.snd.snd.snd.snd.snd.snd.snd.snd.snd.snd.fst,
        x.snd.snd.snd.snd.snd.snd.snd.snd.snd.snd.snd.snd.snd.fst, x.snd.snd.snd.snd.snd.snd.snd.snd.snd.snd.snd.snd.snd.snd.fst,
        x.snd.snd.snd.snd.snd.snd.snd.snd.snd.snd.snd.snd.snd.snd.snd.fst,
        x.snd.snd.snd.snd.snd.snd.snd.snd.snd.snd.snd.snd.snd.snd.snd.snd.fst,
        x.snd.snd.snd.snd.snd.snd.snd.snd.snd.snd.snd.snd.snd.snd.snd.snd.snd.fst,
        x.snd.snd.snd.snd.snd.snd.snd.snd.snd.snd.snd.snd.snd.snd.snd.snd.snd.snd.fst,
        x.snd.snd.snd.snd.snd.snd.snd.snd.snd.snd.snd.snd.snd.snd.snd.snd.snd.snd.snd.fst,
        x.snd.snd.snd.snd.snd.snd.snd.snd.snd.snd.snd.snd.snd.snd.snd.snd.snd.snd.snd.snd.fst, ()))
theorem r3_6_run0 (v0 : Int) (v1 : Int) (v2 : List Pt) (v3 : Int) (v4 : Bool) (v5 : Int) (v6 : Int) (v7 : Int) (v8 : List Int) (v9 : Int) (v10 : Int) (v11 : Int) (v12 : Int) (v13 : Int) (v14 : Int) (v15 : Int) (v16 : Int) (v17 : Int) (v18 : Int) (v19 : Int) (v20 : Int) : roundK tC G3 (look [(88, W3_88)]) c3_6 p3_6 (v0, v1, v2, v3, v4, v5, v6, v7, v8, v9, v10, v11, v12, v13, v14, v15, v16, v17, v18, v19, v20, ()) = r3_6 (v0, v1, v2, v3, v4, v5, v6, v7, v8, v9, v10, v11, v12, v13, v14, v15, v16, v17, v18, v19, v20, ()) := by kernel_rfl
theorem r3_6_run (x : Int × Int × List Pt × Int × Bool × Int × Int × Int × List Int × Int × Int × Int × Int × Int × Int × Int × Int × Int × Int × Int × Int × Unit) : roundK tC G3 (look [(88, W3_88)]) c3_6 p3_6 x = r3_6 x := r3_6_run0 x.1 x.2.1 x.2.2.1 x.2.2.2.1 x.2.2.2.2.1 x.2.2.2.2.2.1 x.2.2.2.2.2.2.1 x.2.2.2.2.2.2.2.1 x.2.2.2.2.2.2.2.2.1 x.2.2.2.2.2.2.2.2.2.1 x.2.2.2.2.2.2.2.2.2.2.1 x.2.2.2.2.2.2.2.2.2.2.2.1 x.2.2.2.2.2.2.2.2.2.2.2.2.1 x.2.2.2.2.2.2.2.2.2.2.2.2.2.1 x.2.2.2.2.2.2.2.2.2.2.2.2.2.2.1 x.2.2.2.2.2.2.2.2.2.2.2.2.2.2.2.1 x.2.2.2.2.2.2.2.2.2.2.2.2.2.2.2.2.1 x.2.2.2.2.2.2.2.2.2.2.2.2.2.2.2.2.2.1 x.2.2.2.2.2.2.2.2.2.2.2.2.2.2.2.2.2.2.1 x.2.2.2.2.2.2.2.2.2.2.2.2.2.2.2.2.2.2.2.1 x.2.2.2.2.2.2.2.2.2.2.2.2.2.2.2.2.2.2.2.2.1
noncomputable def l3_6 (x : Int × Int × List Pt × Int × Bool × Int × Int × Int × List Int × Int × Int × Int × Int × Int × Int × Int × Int × Int × Int × Int × Int × Unit) : Option (Int × Int × Int × Bool × Int × Int × List Int × Int × Int × Int × Int × Int × Int × Int × Int × Int × Int × Int × Int × Unit) := iterO r3_6 x
noncomputable def W3_6 : LF tC := loopW tC p3_6 2 l3_6
theorem W3_6_ok : keyed 6 (subCode (subCode (bodyOf Try.f3) 43) 70) = [.block 2 (.loop c3_6)] ∧ ∀ n, n ≤ 0 → Snd tC n (.block 2 (.loop c3_6)) W3_6.k := ⟨by kernel_rfl, fun n hn => loopW_ok (p := p3_6) (id := 2) Y3 (lam_le (lam_cons W3_88_ok lam_nil) n hn) hn r3_6_run⟩
noncomputable def c3_130 : Code := subCode (loopOf (subCode (subCode (subCode (bodyOf Try.f3) 43) 70) 124) 4) 130
def p3_130 : PS := ⟨0, [3, 8, 20, 23, 25], ⟨[vB, vB, vB, .one (.one (.ptr 0 0 0))] ++ vBs 4 ++ [vI] ++ vBs 11 ++ [.one (.one (.ptr 1 0 0)), vB, vB, .one (.one (.sl 2)), vB, vI] ++ vBs 242, [.box [.int .i64, .int .i64, .imm 5, .int .i64, .int .i64, .int .i64, .int .i64, .int .i64, .int .i64, .int .i64], .box [.int .i64, .int .i64], .arr 61]⟩, [⟨.normal, [3, 8, 20, 23, 25], ⟨[vB, vB, vB, .one (.one (.ptr 0 0 0))] ++ vBs 4 ++ [vI] ++ vBs 11 ++ [.one (.one (.ptr 1 0 0)), vB, vB, .one (.one (.sl 2)), vB, vI] ++ vBs 242, [.box [.int .i64, .int .i64, .imm 5, .int .i64, .int .i64, .int .i64, .int .i64, .int .i64, .int .i64, .int .i64], .box [.int .i64, .int .i64], .arr 61]⟩, []⟩], []⟩
noncomputable def j3_130 (x : Int × Nat × Int × Int × Int × List Int × Int × Int × Int × Int × Int × Int × Int × Int × Int × List En × Unit) : Option (Int × Nat × Int × Int × Int × List Int × Int × Int × Int × Int × Int × Int × Int × Int × Int × List En × Unit) :=
  some
  (x.fst, x.snd.fst, IntKind.i64.wrap (x.snd.snd.fst + (1 : Int)), x.snd.snd.snd.fst, x.snd.snd.snd.snd.fst, x.snd.snd.snd.snd.snd.fst,
    x.snd.snd.snd.snd.snd.snd.fst, x.snd.snd.snd.snd.snd.snd.snd.fst, x.snd.snd.snd.snd.snd.snd.snd.snd.fst,
    x.snd.snd.snd.snd.snd.snd.snd.snd.snd.fst, x.snd.snd.snd.snd.snd.snd.snd.snd.snd.snd.fst,
    x.snd.snd.snd.snd.snd.snd.snd.snd.snd.snd.snd.fst, x.snd.snd.snd.snd.snd.snd.snd.snd.snd.snd.snd.snd.fst,
    x.snd.snd.snd.snd.snd.snd.snd.snd.snd.snd.snd.snd.snd.fst, x.snd.snd.snd.snd.snd.snd.snd.snd.snd.snd.snd.snd.snd.snd.fst,
    x.snd.snd.snd.snd.snd.snd.snd.snd.snd.snd.snd.snd.snd.snd.snd.fst, ())
theorem j3_130_run0 (v0 : Int) (v1 : Nat) (v2 : Int) (v3 : Int) (v4 : Int) (v5 : List Int) (v6 : Int) (v7 : Int) (v8 : Int) (v9 : Int) (v10 : Int) (v11 : Int) (v12 : Int) (v13 : Int) (v14 : Int) (v15 : List En) : pieceK tC G3 (look []) c3_130 p3_130 (v0, v1, v2, v3, v4, v5, v6, v7, v8, v9, v10, v11, v12, v13, v14, v15, ()) = j3_130 (v0, v1, v2, v3, v4, v5, v6, v7, v8, v9, v10, v11, v12, v13, v14, v15, ()) := by kernel_rfl
theorem j3_130_run (x : Int × Nat × Int × Int × Int × List Int × Int × Int × Int × Int × Int × Int × Int × Int × Int × List En × Unit) : pieceK tC G3 (look []) c3_130 p3_130 x = j3_130 x := j3_130_run0 x.1 x.2.1 x.2.2.1 x.2.2.2.1 x.2.2.2.2.1 x.2.2.2.2.2.1 x.2.2.2.2.2.2.1 x.2.2.2.2.2.2.2.1 x.2.2.2.2.2.2.2.2.1 x.2.2.2.2.2.2.2.2.2.1 x.2.2.2.2.2.2.2.2.2.2.1 x.2.2.2.2.2.2.2.2.2.2.2.1 x.2.2.2.2.2.2.2.2.2.2.2.2.1 x.2.2.2.2.2.2.2.2.2.2.2.2.2.1 x.2.2.2.2.2.2.2.2.2.2.2.2.2.2.1 x.2.2.2.2.2.2.2.2.2.2.2.2.2.2.2.1
noncomputable def W3_130 : LF tC := cutLF tC p3_130 j3_130
theorem W3_130_ok : keyed 130 (loopOf (subCode (subCode (subCode (bodyOf Try.f3) 43) 70) 124) 4) = [c3_130] ∧ ∀ n, n ≤ 0 → Snd tC n c3_130 W3_130.k := ⟨by kernel_rfl, fun n hn => cut_ok (p := p3_130) Y3 (lam_le lam_nil n hn) hn j3_130_run⟩
noncomputable def c3_12 : Code := loopOf (subCode (subCode (subCode (bodyOf Try.f3) 43) 70) 124) 4
def p3_12 : LS := ⟨0, [3, 8, 20, 23, 25], ⟨[vB, vB, vB, .one (.one (.ptr 0 0 0))] ++ vBs 4 ++ [vI] ++ vBs 11 ++ [.one (.one (.ptr 1 0 0)), vB, vB, .one (.one (.sl 2)), vB, vI] ++ vBs 242, [.box [.int .i64, .int .i64, .imm 5, .int .i64, .int .i64, .int .i64, .int .i64, .int .i64, .int .i64, .int .i64], .box [.int .i64, .int .i64], .arr 61]⟩, [⟨.ret, [6], ⟨vBs 6 ++ [vO] ++ vBs 261, []⟩, []⟩, ⟨.exit 4, [], ⟨vBs 268, []⟩, []⟩], []⟩
noncomputable def r3_12 (x : Int × Nat × Int × Int × Int × List Int × Int × Int × Int × Int × Int × Int × Int × Int × Int × List En × Unit) : Option (Int × Nat × Int × Int × Int × List Int × Int × Int × Int × Int × Int × Int × Int × Int × Int × List En × Unit ⊕ Bool × Unit ⊕ Unit) :=
  bif decide (x.snd.snd.fst < (↑x.snd.fst : Int)) then
  bif
      decide
        (IntKind.i64.wrap (x.fst * x.snd.snd.snd.snd.snd.snd.snd.snd.snd.snd.snd.snd.snd.snd.fst) <
          x.snd.snd.snd.snd.snd.snd.snd.snd.snd.snd.snd.snd.snd.fst) then
    bif decide ((0 : Int) ≤ x.snd.snd.fst) && decide (x.snd.snd.fst < (↑x.snd.fst : Int)) then
      x.snd.snd.snd.snd.snd.snd.snd.snd.snd.snd.snd.snd.snd.snd.snd.fst[(0 : Nat) + x.snd.snd.fst.toNat]?.bind fun y407 =>
        bif decide (y407.B > (0 : Int)) then
          bif decide ((0 : Int) ≤ x.snd.snd.fst) && decide (x.snd.snd.fst < (↑x.snd.fst : Int)) then
            x.snd.snd.snd.snd.snd.snd.snd.snd.snd.snd.snd.snd.snd.snd.snd.fst[(0 : Nat) + x.snd.snd.fst.toNat]?.bind fun y405 =>
              (f13 (x.snd.snd.snd.fst, x.snd.snd.snd.snd.fst, x.snd.snd.snd.snd.snd.fst, y405.X, y405.Y, ())).bind fun y404 =>
                bif y404.fst == (2 : Int) then some (Sum.inr (Sum.inl (false, ())))
                else
                  (j3_130
                        (x.fst, x.snd.fst, x.snd.snd.fst, x.snd.snd.snd.fst, x.snd.snd.snd.snd.fst, x.snd.snd.snd.snd.snd.fst,
                          x.snd.snd.snd.snd.snd.snd.fst, x.snd.snd.snd.snd.snd.snd.snd.fst, x.snd.snd.snd.snd.snd.snd.snd.snd.fst,
                          x.snd.snd.snd.snd.snd.snd.snd.snd.snd.fst, x.snd.snd.snd.snd.snd.snd.snd.snd.snd.snd.fst,
                          x.snd.snd.snd.snd.snd.snd.snd.snd.snd.snd.snd.fst, x.snd.snd.snd.snd.snd.snd.snd.snd.snd.snd.snd.snd.fst,
                          x.snd.snd.snd.snd.snd.snd.snd.snd.snd.snd.snd.snd.snd.fst,
                          x.snd.snd.snd.snd.snd.snd.snd.snd.snd.snd.snd.snd.snd.snd.fst,
                          x.snd.snd.snd.snd.snd.snd.snd.snd.snd.snd.snd.snd.snd.snd.snd.fst, ())).bind
                    fun y403 =>
                    some
                      (Sum.inl
                        (y403.fst, y403.snd.fst, y403.snd.snd.fst, y403.snd.snd.snd.fst, y403.snd.snd.snd.snd.fst,
                          y403.snd.snd.snd.snd.snd.fst, y403.snd.snd.snd.snd.snd.snd.fst, y403.snd.snd.snd.snd.snd.snd.snd.fst,
                          y403.snd.snd.snd.snd.snd.snd.snd.snd.fst, y403.snd.snd.snd.snd.snd.snd.snd.snd.snd.fst,
                          y403.snd.snd.snd.snd.snd.snd.snd.snd.snd.snd.fst, y403.snd.snd.snd.snd.snd.snd.snd.snd.snd.snd.snd.fst,
                          y403.snd.snd.snd.snd.snd.snd.snd.snd.snd.snd.snd.snd.fst,
                          y403.snd.snd.snd.snd.snd.snd.snd.snd.snd.snd.snd.snd.snd.fst,
                          y403.snd.snd.snd.snd.snd.snd.snd.snd.snd.snd.snd.snd.snd.snd.fst,
                          y403.snd.snd.snd.snd.snd.snd.snd.snd.snd.snd.snd.snd.snd.snd.snd.fst, ()))
          else none
        else
          (j3_130
                (x.fst, x.snd.fst, x.snd.snd.fst, x.snd.snd.snd.fst, x.snd.snd.snd.snd.fst, x.snd.snd.snd.snd.snd.fst,
                  x.snd.snd.snd.snd.snd.snd.fst, x.snd.snd.snd.snd.snd.snd.snd.fst, x.snd.snd.snd.snd.snd.snd.snd.snd.fst,
                  x.snd.snd.snd.snd.snd.snd.snd.snd.snd.fst, x.snd.snd.snd.snd.snd.snd.snd.snd.snd.snd.fst,
                  x.snd.snd.snd.snd.snd.snd.snd.snd.snd.snd.snd.fst, x.snd.snd.snd.snd.snd.snd.snd.snd.snd.snd.snd.snd.fst,
                  x.snd.snd.snd.snd.snd.snd.snd.snd.snd.snd.snd.snd.snd.fst, x.snd.snd.snd.snd.snd.snd.snd.snd.snd.snd.snd.snd.snd.snd.fst,
                  x.snd.snd.snd.snd.snd.snd.snd.snd.snd.snd.snd.snd.snd.snd.snd.fst, ())).bind
            fun y406 =>
            some
              (Sum.inl
                (y406.fst, y406.snd.fst, y406.snd.snd.fst, y406.snd.snd.snd.fst, y406.snd.snd.snd.snd.fst, y406.snd.snd.snd.snd.snd.fst,
                  y406.snd.snd.snd.snd.snd.snd.fst, y406.snd.snd.snd.snd.snd.snd.snd.fst, y406.snd.snd.snd.snd.snd.snd.snd.snd.fst,
                  y406.snd.snd.snd.snd.snd.snd.snd.snd.snd.fst, y406.snd.snd.snd.snd.snd.snd.snd.snd.snd.snd.fst,
                  y406.snd.snd.snd.snd.snd.snd.snd.snd.snd.snd.snd.fst, y406.snd.snd.snd.snd.snd.snd.snd.snd.snd.snd.snd.snd.fst,
                  y406.snd.snd.snd.snd.snd.snd.snd.snd.snd.snd.snd.snd.snd.fst,
                  y406.snd.snd.snd.snd.snd.snd.snd.snd.snd.snd.snd.snd.snd.snd.fst,
                  y406.snd.snd.snd.snd.snd.snd.snd.snd.snd.snd.snd.snd.snd.snd.snd.fst, ()))
    else none
  else
    (j3_130
          (x.fst, x.snd.fst, x.snd.snd.fst, x.snd.snd.snd.fst, x.snd.snd.snd.snd.fst, x.snd.snd.snd.snd.snd.fst,
            x.snd.snd.snd.snd.snd.snd.fst, x.snd.snd.snd.snd.snd.snd.snd.fst, x.snd.snd.snd.snd.snd.snd.snd.snd.fst,
            x.snd.snd.snd.snd.snd.snd.snd.snd.snd.fst, x.snd.snd.snd.snd.snd.snd.snd.snd.snd.snd.fst,
            x.snd.snd.snd.snd.snd.snd.snd.snd.snd.snd.snd.fst, x.snd.snd.snd.snd.snd.snd.snd.snd.snd.snd.snd.snd.fst,
            x.snd.snd.snd.snd.snd.snd.snd.snd.snd.snd.snd.snd.snd.fst, x.snd.snd.snd.snd.snd.snd.snd.snd.snd.snd.snd.snd.snd.snd.fst,
            x.snd.snd.snd.snd.snd.snd.snd.snd.snd.snd.snd.snd.snd.snd.snd.fst, ())).bind
      fun y408 =>
      some
        (Sum.inl
          (y408.fst, y408.snd.fst, y408.snd.snd.fst, y408.snd.snd.snd.fst, y408.snd.snd.snd.snd.fst, y408.snd.snd.snd.snd.snd.fst,
            y408.snd.snd.snd.snd.snd.snd.fst, y408.snd.snd.snd.snd.snd.snd.snd.fst, y408.snd.snd.snd.snd.snd.snd.snd.snd.fst,
            y408.snd.snd.snd.snd.snd.snd.snd.snd.snd.fst, y408.snd.snd.snd.snd.snd.snd.snd.snd.snd.snd.fst,
            y408.snd.snd.snd.snd.snd.snd.snd.snd.snd.snd.snd.fst, y408.snd.snd.snd.snd.snd.snd.snd.snd.snd.snd.snd.snd.fst,
            y408.snd.snd.snd.snd.snd.snd.snd.snd.snd.snd.snd.snd.snd.fst, y408.snd.snd.snd.snd.snd.snd.snd.snd.snd.snd.snd.snd.snd.snd.fst,
            y408.snd.snd.snd.snd.snd.snd.snd.snd.snd.snd.snd.snd.snd.snd.snd.fst, ()))
else some (Sum.inr (Sum.inr ()))
theorem r3_12_run0 (v0 : Int) (v1 : Nat) (v2 : Int) (v3 : Int) (v4 : Int) (v5 : List Int) (v6 : Int) (v7 : Int) (v8 : Int) (v9 : Int) (v10 : Int) (v11 : Int) (v12 : Int) (v13 : Int) (v14 : Int) (v15 : List En) : roundK tC G3 (look [(130, W3_130)]) c3_12 p3_12 (v0, v1, v2, v3, v4, v5, v6, v7, v8, v9, v10, v11, v12, v13, v14, v15, ()) = r3_12 (v0, v1, v2, v3, v4, v5, v6, v7, v8, v9, v10, v11, v12, v13, v14, v15, ()) := by kernel_rfl
theorem r3_12_run (x : Int × Nat × Int × Int × Int × List Int × Int × Int × Int × Int × Int × Int × Int × Int × Int × List En × Unit) : roundK tC G3 (look [(130, W3_130)]) c3_12 p3_12 x = r3_12 x := r3_12_run0 x.1 x.2.1 x.2.2.1 x.2.2.2.1 x.2.2.2.2.1 x.2.2.2.2.2.1 x.2.2.2.2.2.2.1 x.2.2.2.2.2.2.2.1 x.2.2.2.2.2.2.2.2.1 x.2.2.2.2.2.2.2.2.2.1 x.2.2.2.2.2.2.2.2.2.2.1 x.2.2.2.2.2.2.2.2.2.2.2.1 x.2.2.2.2.2.2.2.2.2.2.2.2.1 x.2.2.2.2.2.2.2.2.2.2.2.2.2.1 x.2.2.2.2.2.2.2.2.2.2.2.2.2.2.1 x.2.2.2.2.2.2.2.2.2.2.2.2.2.2.2.1
noncomputable def l3_12 (x : Int × Nat × Int × Int × Int × List Int × Int × Int × Int × Int × Int × Int × Int × Int × Int × List En × Unit) : Option (Bool × Unit ⊕ Unit) := iterO r3_12 x
noncomputable def W3_12 : LF tC := loopW tC p3_12 4 l3_12
theorem W3_12_ok : keyed 12 (subCode (subCode (subCode (bodyOf Try.f3) 43) 70) 124) = [.block 4 (.loop c3_12)] ∧ ∀ n, n ≤ 0 → Snd tC n (.block 4 (.loop c3_12)) W3_12.k := ⟨by kernel_rfl, fun n hn => loopW_ok (p := p3_12) (id := 4) Y3 (lam_le (lam_cons W3_130_ok lam_nil) n hn) hn r3_12_run⟩
noncomputable def c3_124 : Code := subCode (subCode (subCode (bodyOf Try.f3) 43) 70) 124
def p3_124 : PS := ⟨0, [3, 8, 20, 23], ⟨[vB, vB, vB, .one (.one (.ptr 0 0 0))] ++ vBs 4 ++ [vI] ++ vBs 11 ++ [.one (.one (.ptr 1 0 0)), vB, vB, .one (.one (.sl 2))] ++ vBs 244, [.box [.int .i64, .int .i64, .imm 5, .int .i64, .int .i64, .int .i64, .int .i64, .int .i64, .int .i64, .int .i64], .box [.int .i64, .int .i64], .arr 61]⟩, [⟨.ret, [6], ⟨vBs 6 ++ [vO] ++ vBs 261, []⟩, []⟩], []⟩
noncomputable def j3_124 (x : Int × Nat × Int × Int × List Int × Int × Int × Int × Int × Int × Int × Int × Int × Int × List En × Unit) : Option (Bool × Unit) :=
  (l3_12
      (x.fst, x.snd.fst, (0 : Int), x.snd.snd.fst, x.snd.snd.snd.fst, x.snd.snd.snd.snd.fst, x.snd.snd.snd.snd.snd.fst,
        x.snd.snd.snd.snd.snd.snd.fst, x.snd.snd.snd.snd.snd.snd.snd.fst, x.snd.snd.snd.snd.snd.snd.snd.snd.fst,
        x.snd.snd.snd.snd.snd.snd.snd.snd.snd.fst, x.snd.snd.snd.snd.snd.snd.snd.snd.snd.snd.fst,
        x.snd.snd.snd.snd.snd.snd.snd.snd.snd.snd.snd.fst, x.snd.snd.snd.snd.snd.snd.snd.snd.snd.snd.snd.snd.fst,
        x.snd.snd.snd.snd.snd.snd.snd.snd.snd.snd.snd.snd.snd.fst, x.snd.snd.snd.snd.snd.snd.snd.snd.snd.snd.snd.snd.snd.snd.fst, ())).bind
  fun y413 => Sum.elim (fun y411 => some (y411.fst, ())) (fun _x => some (true, ())) y413
theorem j3_124_run0 (v0 : Int) (v1 : Nat) (v2 : Int) (v3 : Int) (v4 : List Int) (v5 : Int) (v6 : Int) (v7 : Int) (v8 : Int) (v9 : Int) (v10 : Int) (v11 : Int) (v12 : Int) (v13 : Int) (v14 : List En) : pieceK tC G3 (look [(12, W3_12)]) c3_124 p3_124 (v0, v1, v2, v3, v4, v5, v6, v7, v8, v9, v10, v11, v12, v13, v14, ()) = j3_124 (v0, v1, v2, v3, v4, v5, v6, v7, v8, v9, v10, v11, v12, v13, v14, ()) := by kernel_rfl
theorem j3_124_run (x : Int × Nat × Int × Int × List Int × Int × Int × Int × Int × Int × Int × Int × Int × Int × List En × Unit) : pieceK tC G3 (look [(12, W3_12)]) c3_124 p3_124 x = j3_124 x := j3_124_run0 x.1 x.2.1 x.2.2.1 x.2.2.2.1 x.2.2.2.2.1 x.2.2.2.2.2.1 x.2.2.2.2.2.2.1 x.2.2.2.2.2.2.2.1 x.2.2.2.2.2.2.2.2.1 x.2.2.2.2.2.2.2.2.2.1 x.2.2.2.2.2.2.2.2.2.2.1 x.2.2.2.2.2.2.2.2.2.2.2.1 x.2.2.2.2.2.2.2.2.2.2.2.2.1 x.2.2.2.2.2.2.2.2.2.2.2.2.2.1 x.2.2.2.2.2.2.2.2.2.2.2.2.2.2.1
noncomputable def W3_124 : LF tC := cutLF tC p3_124 j3_124
theorem W3_124_ok : keyed 124 (subCode (subCode (bodyOf Try.f3) 43) 70) = [c3_124] ∧ ∀ n, n ≤ 0 → Snd tC n c3_124 W3_124.k := ⟨by kernel_rfl, fun n hn => cut_ok (p := p3_124) Y3 (lam_le (lam_cons W3_12_ok lam_nil) n hn) hn j3_124_run⟩
noncomputable def c3_70 : Code := subCode (subCode (bodyOf Try.f3) 43) 70
def p3_70 : PS := ⟨0, [1, 3, 7, 8, 10, 11], ⟨[vB, vI, vB, .one (.one (.ptr 0 0 0)), vB, vB, vB, vI, vI, vB, .one (.one (.ptr 1 0 0)), .one (.one (.ptr 2 0 0))] ++ vBs 256, [.box [.int .i64, .int .i64, .imm 5, .int .i64, .int .i64, .int .i64, .int .i64, .int .i64, .int .i64, .int .i64], .box [.int .i64, .int .i64], .box [.int .i64, .int .i64, .int .i64]]⟩, [⟨.ret, [6], ⟨vBs 6 ++ [vO] ++ vBs 261, []⟩, []⟩], []⟩
noncomputable def j3_70 (x : Int × Int × Int × Int × Int × List Int × Int × Int × Int × Int × Int × Int × Int × Int × Int × Int × Int × Int × Unit) : Option (Bool × Unit) :=
  bif x.snd.snd.fst == (-1 : Int) then some (true, ())
else
  (f12
        (x.snd.snd.snd.snd.snd.snd.snd.snd.snd.snd.snd.snd.snd.fst, x.snd.snd.snd.snd.snd.snd.snd.snd.snd.snd.snd.snd.snd.snd.fst,
          x.snd.snd.snd.snd.snd.snd.snd.snd.snd.snd.snd.snd.snd.snd.snd.fst,
          x.snd.snd.snd.snd.snd.snd.snd.snd.snd.snd.snd.snd.snd.snd.snd.snd.fst,
          x.snd.snd.snd.snd.snd.snd.snd.snd.snd.snd.snd.snd.snd.snd.snd.snd.snd.fst,
          bif decide (IntKind.i64.wrap (x.snd.snd.fst - x.snd.fst) > (0 : Int)) then IntKind.i64.wrap (x.snd.snd.fst - x.snd.fst)
          else (0 : Int),
          IntKind.i64.wrap (x.snd.snd.fst + x.snd.fst), ())).bind
    fun y425 =>
    (l3_6
          (x.fst, x.snd.snd.fst, y425.fst, y425.snd.fst, false, (0 : Int), x.snd.snd.snd.fst, x.snd.snd.snd.snd.fst,
            x.snd.snd.snd.snd.snd.fst, x.snd.snd.snd.snd.snd.snd.fst, x.snd.snd.snd.snd.snd.snd.snd.fst,
            x.snd.snd.snd.snd.snd.snd.snd.snd.fst, x.snd.snd.snd.snd.snd.snd.snd.snd.snd.fst, x.snd.snd.snd.snd.snd.snd.snd.snd.snd.snd.fst,
            x.snd.snd.snd.snd.snd.snd.snd.snd.snd.snd.snd.fst, x.snd.snd.snd.snd.snd.snd.snd.snd.snd.snd.snd.snd.fst,
            x.snd.snd.snd.snd.snd.snd.snd.snd.snd.snd.snd.snd.snd.fst, x.snd.snd.snd.snd.snd.snd.snd.snd.snd.snd.snd.snd.snd.snd.fst,
            x.snd.snd.snd.snd.snd.snd.snd.snd.snd.snd.snd.snd.snd.snd.snd.fst,
            x.snd.snd.snd.snd.snd.snd.snd.snd.snd.snd.snd.snd.snd.snd.snd.snd.fst,
            x.snd.snd.snd.snd.snd.snd.snd.snd.snd.snd.snd.snd.snd.snd.snd.snd.snd.fst, ())).bind
      fun y424 =>
      bif y424.snd.snd.fst != (0 : Int) then some (false, ())
      else
        bif !y424.snd.snd.snd.fst then some (false, ())
        else
          (f14
                (y424.snd.snd.snd.snd.fst, y424.snd.snd.snd.snd.snd.fst, y424.snd.snd.snd.snd.snd.snd.fst,
                  y424.snd.snd.snd.snd.snd.snd.snd.snd.snd.snd.snd.snd.snd.snd.fst,
                  y424.snd.snd.snd.snd.snd.snd.snd.snd.snd.snd.snd.snd.snd.snd.snd.fst,
                  y424.snd.snd.snd.snd.snd.snd.snd.snd.snd.snd.snd.snd.snd.snd.snd.snd.fst,
                  y424.snd.snd.snd.snd.snd.snd.snd.snd.snd.snd.snd.snd.snd.snd.snd.snd.snd.fst,
                  y424.snd.snd.snd.snd.snd.snd.snd.snd.snd.snd.snd.snd.snd.snd.snd.snd.snd.snd.fst, (2048 : Int), ())).bind
            fun y423 =>
            bif !y423.snd.snd.snd.snd.fst then some (false, ())
            else
              bif decide (y423.snd.fst < (1 : Int)) then some (false, ())
              else
                (f15
                      (y424.snd.snd.snd.snd.snd.snd.snd.snd.snd.snd.snd.fst, y424.snd.snd.snd.snd.snd.snd.snd.snd.snd.snd.snd.snd.fst,
                        y424.snd.snd.snd.snd.snd.snd.snd.snd.snd.snd.snd.snd.snd.fst, [Bm.mk y424.fst y424.snd.fst], ())).bind
                  fun y422 =>
                  bif y422.snd.fst != (0 : Int) then some (false, ())
                  else
                    bif y423.snd.fst == (1 : Int) then
                      bif y423.fst == y424.snd.fst then
                        bif decide ((0 : Nat) + y422.fst ≤ y422.snd.snd.fst.length) then
                          (f16 (List.take y422.fst (List.drop (0 : Nat) y422.snd.snd.fst), y423.snd.snd.fst, y423.snd.snd.snd.fst, ())).bind
                            fun y419 =>
                            bif y419.snd.snd.fst != (1 : Int) then some (false, ())
                            else
                              (j3_124
                                    (y424.snd.fst, y422.fst, y424.snd.snd.snd.snd.fst, y424.snd.snd.snd.snd.snd.fst,
                                      y424.snd.snd.snd.snd.snd.snd.fst, y424.snd.snd.snd.snd.snd.snd.snd.fst,
                                      y424.snd.snd.snd.snd.snd.snd.snd.snd.fst, y424.snd.snd.snd.snd.snd.snd.snd.snd.snd.fst,
                                      y424.snd.snd.snd.snd.snd.snd.snd.snd.snd.snd.fst,
                                      y424.snd.snd.snd.snd.snd.snd.snd.snd.snd.snd.snd.fst,
                                      y424.snd.snd.snd.snd.snd.snd.snd.snd.snd.snd.snd.snd.fst,
                                      y424.snd.snd.snd.snd.snd.snd.snd.snd.snd.snd.snd.snd.snd.fst, y423.fst, y423.snd.fst,
                                      y422.snd.snd.fst, ())).bind
                                fun y418 => some (y418.fst, ())
                        else none
                      else
                        (j3_124
                              (y424.snd.fst, y422.fst, y424.snd.snd.snd.snd.fst, y424.snd.snd.snd.snd.snd.fst,
                                y424.snd.snd.snd.snd.snd.snd.fst, y424.snd.snd.snd.snd.snd.snd.snd.fst,
                                y424.snd.snd.snd.snd.snd.snd.snd.snd.fst, y424.snd.snd.snd.snd.snd.snd.snd.snd.snd.fst,
                                y424.snd.snd.snd.snd.snd.snd.snd.snd.snd.snd.fst, y424.snd.snd.snd.snd.snd.snd.snd.snd.snd.snd.snd.fst,
                                y424.snd.snd.snd.snd.snd.snd.snd.snd.snd.snd.snd.snd.fst,
                                y424.snd.snd.snd.snd.snd.snd.snd.snd.snd.snd.snd.snd.snd.fst, y423.fst, y423.snd.fst, y422.snd.snd.fst,
                                ())).bind
                          fun y420 => some (y420.fst, ())
                    else
                      (j3_124
                            (y424.snd.fst, y422.fst, y424.snd.snd.snd.snd.fst, y424.snd.snd.snd.snd.snd.fst,
                              y424.snd.snd.snd.snd.snd.snd.fst, y424.snd.snd.snd.snd.snd.snd.snd.fst,
                              y424.snd.snd.snd.snd.snd.snd.snd.snd.fst, y424.snd.snd.snd.snd.snd.snd.snd.snd.snd.fst,
                              y424.snd.snd.snd.snd.snd.snd.snd.snd.snd.snd.fst, y424.snd.snd.snd.snd.snd.snd.snd.snd.snd.snd.snd.fst,
                              y424.snd.snd.snd.snd.snd.snd.snd.snd.snd.snd.snd.snd.fst,
                              y424.snd.snd.snd.snd.snd.snd.snd.snd.snd.snd.snd.snd.snd.fst, y423.fst, y423.snd.fst, y422.snd.snd.fst,
                              ())).bind
                        fun y421 => some (y421.fst, ())
theorem j3_70_run0 (v0 : Int) (v1 : Int) (v2 : Int) (v3 : Int) (v4 : Int) (v5 : List Int) (v6 : Int) (v7 : Int) (v8 : Int) (v9 : Int) (v10 : Int) (v11 : Int) (v12 : Int) (v13 : Int) (v14 : Int) (v15 : Int) (v16 : Int) (v17 : Int) : pieceK tC G3 (look [(6, W3_6), (124, W3_124)]) c3_70 p3_70 (v0, v1, v2, v3, v4, v5, v6, v7, v8, v9, v10, v11, v12, v13, v14, v15, v16, v17, ()) = j3_70 (v0, v1, v2, v3, v4, v5, v6, v7, v8, v9, v10, v11, v12, v13, v14, v15, v16, v17, ()) := by kernel_rfl
theorem j3_70_run (x : Int × Int × Int × Int × Int × List Int × Int × Int × Int × Int × Int × Int × Int × Int × Int × Int × Int × Int × Unit) : pieceK tC G3 (look [(6, W3_6), (124, W3_124)]) c3_70 p3_70 x = j3_70 x := j3_70_run0 x.1 x.2.1 x.2.2.1 x.2.2.2.1 x.2.2.2.2.1 x.2.2.2.2.2.1 x.2.2.2.2.2.2.1 x.2.2.2.2.2.2.2.1 x.2.2.2.2.2.2.2.2.1 x.2.2.2.2.2.2.2.2.2.1 x.2.2.2.2.2.2.2.2.2.2.1 x.2.2.2.2.2.2.2.2.2.2.2.1 x.2.2.2.2.2.2.2.2.2.2.2.2.1 x.2.2.2.2.2.2.2.2.2.2.2.2.2.1 x.2.2.2.2.2.2.2.2.2.2.2.2.2.2.1 x.2.2.2.2.2.2.2.2.2.2.2.2.2.2.2.1 x.2.2.2.2.2.2.2.2.2.2.2.2.2.2.2.2.1 x.2.2.2.2.2.2.2.2.2.2.2.2.2.2.2.2.2.1
noncomputable def W3_70 : LF tC := cutLF tC p3_70 j3_70
theorem W3_70_ok : keyed 70 (subCode (bodyOf Try.f3) 43) = [c3_70] ∧ ∀ n, n ≤ 0 → Snd tC n c3_70 W3_70.k := ⟨by kernel_rfl, fun n hn => cut_ok (p := p3_70) Y3 (lam_le (lam_cons W3_6_ok (lam_cons W3_124_ok lam_nil)) n hn) hn j3_70_run⟩
noncomputable def c3_43 : Code := subCode (bodyOf Try.f3) 43
def p3_43 : PS := ⟨0, [1, 3, 7, 8, 10, 11, 12], ⟨[vB, vI, vB, .one (.one (.ptr 0 0 0)), vB, vB, vB, vI, vI, vB, .one (.one (.ptr 1 0 0)), .one (.one (.ptr 2 0 0)), vI] ++ vBs 255, [.box [.int .i64, .int .i64, .imm 5, .int .i64, .int .i64, .int .i64, .int .i64, .int .i64, .int .i64, .int .i64], .box [.int .i64, .int .i64], .box [.int .i64, .int .i64, .int .i64]]⟩, [⟨.ret, [6], ⟨vBs 6 ++ [vO] ++ vBs 261, []⟩, []⟩], []⟩
noncomputable def j3_43 (x : Int × Int × Int × Int × Int × Int × List Int × Int × Int × Int × Int × Int × Int × Int × Int × Int × Int × Int × Int × Unit) : Option (Bool × Unit) :=
  bif decide (x.snd.snd.snd.fst ≥ (0 : Int)) then
  (f12
        (x.snd.snd.snd.snd.snd.snd.snd.snd.snd.snd.snd.snd.snd.snd.fst, x.snd.snd.snd.snd.snd.snd.snd.snd.snd.snd.snd.snd.snd.snd.snd.fst,
          x.snd.snd.snd.snd.snd.snd.snd.snd.snd.snd.snd.snd.snd.snd.snd.snd.fst,
          x.snd.snd.snd.snd.snd.snd.snd.snd.snd.snd.snd.snd.snd.snd.snd.snd.snd.fst,
          x.snd.snd.snd.snd.snd.snd.snd.snd.snd.snd.snd.snd.snd.snd.snd.snd.snd.snd.fst, (0 : Int), x.snd.snd.snd.fst, ())).bind
    fun y433 =>
    bif y433.snd.fst != (0 : Int) then some (false, ())
    else
      (l3_0
            (x.fst, x.snd.fst, x.snd.snd.fst, y433.fst, (0 : Int), x.snd.snd.snd.snd.fst, x.snd.snd.snd.snd.snd.fst,
              x.snd.snd.snd.snd.snd.snd.fst, x.snd.snd.snd.snd.snd.snd.snd.fst, x.snd.snd.snd.snd.snd.snd.snd.snd.fst,
              x.snd.snd.snd.snd.snd.snd.snd.snd.snd.fst, x.snd.snd.snd.snd.snd.snd.snd.snd.snd.snd.fst,
              x.snd.snd.snd.snd.snd.snd.snd.snd.snd.snd.snd.fst, x.snd.snd.snd.snd.snd.snd.snd.snd.snd.snd.snd.snd.fst,
              x.snd.snd.snd.snd.snd.snd.snd.snd.snd.snd.snd.snd.snd.fst, x.snd.snd.snd.snd.snd.snd.snd.snd.snd.snd.snd.snd.snd.snd.fst,
              x.snd.snd.snd.snd.snd.snd.snd.snd.snd.snd.snd.snd.snd.snd.snd.fst,
              x.snd.snd.snd.snd.snd.snd.snd.snd.snd.snd.snd.snd.snd.snd.snd.snd.fst,
              x.snd.snd.snd.snd.snd.snd.snd.snd.snd.snd.snd.snd.snd.snd.snd.snd.snd.fst,
              x.snd.snd.snd.snd.snd.snd.snd.snd.snd.snd.snd.snd.snd.snd.snd.snd.snd.snd.fst, ())).bind
        fun y432 =>
        Sum.elim (fun y429 => some (y429.fst, ()))
          (fun y431 =>
            (j3_70
                  (y431.fst, y431.snd.fst, y431.snd.snd.fst, y431.snd.snd.snd.fst, y431.snd.snd.snd.snd.fst, y431.snd.snd.snd.snd.snd.fst,
                    y431.snd.snd.snd.snd.snd.snd.fst, y431.snd.snd.snd.snd.snd.snd.snd.fst, y431.snd.snd.snd.snd.snd.snd.snd.snd.fst,
                    y431.snd.snd.snd.snd.snd.snd.snd.snd.snd.fst, y431.snd.snd.snd.snd.snd.snd.snd.snd.snd.snd.fst,
                    y431.snd.snd.snd.snd.snd.snd.snd.snd.snd.snd.snd.fst, y431.snd.snd.snd.snd.snd.snd.snd.snd.snd.snd.snd.snd.fst,
                    y431.snd.snd.snd.snd.snd.snd.snd.snd.snd.snd.snd.snd.snd.fst,
                    y431.snd.snd.snd.snd.snd.snd.snd.snd.snd.snd.snd.snd.snd.snd.fst,
                    y431.snd.snd.snd.snd.snd.snd.snd.snd.snd.snd.snd.snd.snd.snd.snd.fst,
                    y431.snd.snd.snd.snd.snd.snd.snd.snd.snd.snd.snd.snd.snd.snd.snd.snd.fst,
                    y431.snd.snd.snd.snd.snd.snd.snd.snd.snd.snd.snd.snd.snd.snd.snd.snd.snd.fst, ())).bind
              fun y430 => some (y430.fst, ()))
          y432
else
  (j3_70
        (x.fst, x.snd.fst, x.snd.snd.fst, x.snd.snd.snd.snd.fst, x.snd.snd.snd.snd.snd.fst, x.snd.snd.snd.snd.snd.snd.fst,
          x.snd.snd.snd.snd.snd.snd.snd.fst, x.snd.snd.snd.snd.snd.snd.snd.snd.fst, x.snd.snd.snd.snd.snd.snd.snd.snd.snd.fst,
          x.snd.snd.snd.snd.snd.snd.snd.snd.snd.snd.fst, x.snd.snd.snd.snd.snd.snd.snd.snd.snd.snd.snd.fst,
          x.snd.snd.snd.snd.snd.snd.snd.snd.snd.snd.snd.snd.fst, x.snd.snd.snd.snd.snd.snd.snd.snd.snd.snd.snd.snd.snd.fst,
          x.snd.snd.snd.snd.snd.snd.snd.snd.snd.snd.snd.snd.snd.snd.fst, x.snd.snd.snd.snd.snd.snd.snd.snd.snd.snd.snd.snd.snd.snd.snd.fst,
          x.snd.snd.snd.snd.snd.snd.snd.snd.snd.snd.snd.snd.snd.snd.snd.snd.fst,
          x.snd.snd.snd.snd.snd.snd.snd.snd.snd.snd.snd.snd.snd.snd.snd.snd.snd.fst,
          x.snd.snd.snd.snd.snd.snd.snd.snd.snd.snd.snd.snd.snd.snd.snd.snd.snd.snd.fst, ())).bind
    fun y434 => some (y434.fst, ())
theorem j3_43_run0 (v0 : Int) (v1 : Int) (v2 : Int) (v3 : Int) (v4 : Int) (v5 : Int) (v6 : List Int) (v7 : Int) (v8 : Int) (v9 : Int) (v10 : Int) (v11 : Int) (v12 : Int) (v13 : Int) (v14 : Int) (v15 : Int) (v16 : Int) (v17 : Int) (v18 : Int) : pieceK tC G3 (look [(0, W3_0), (70, W3_70)]) c3_43 p3_43 (v0, v1, v2, v3, v4, v5, v6, v7, v8, v9, v10, v11, v12, v13, v14, v15, v16, v17, v18, ()) = j3_43 (v0, v1, v2, v3, v4, v5, v6, v7, v8, v9, v10, v11, v12, v13, v14, v15, v16, v17, v18, ()) := by kernel_rfl
theorem j3_43_run (x : Int × Int × Int × Int × Int × Int × List Int × Int × Int × Int × Int × Int × Int × Int × Int × Int × Int × Int × Int × Unit) : pieceK tC G3 (look [(0, W3_0), (70, W3_70)]) c3_43 p3_43 x = j3_43 x := j3_43_run0 x.1 x.2.1 x.2.2.1 x.2.2.2.1 x.2.2.2.2.1 x.2.2.2.2.2.1 x.2.2.2.2.2.2.1 x.2.2.2.2.2.2.2.1 x.2.2.2.2.2.2.2.2.1 x.2.2.2.2.2.2.2.2.2.1 x.2.2.2.2.2.2.2.2.2.2.1 x.2.2.2.2.2.2.2.2.2.2.2.1 x.2.2.2.2.2.2.2.2.2.2.2.2.1 x.2.2.2.2.2.2.2.2.2.2.2.2.2.1 x.2.2.2.2.2.2.2.2.2.2.2.2.2.2.1 x.2.2.2.2.2.2.2.2.2.2.2.2.2.2.2.1 x.2.2.2.2.2.2.2.2.2.2.2.2.2.2.2.2.1 x.2.2.2.2.2.2.2.2.2.2.2.2.2.2.2.2.2.1 x.2.2.2.2.2.2.2.2.2.2.2.2.2.2.2.2.2.2.1
noncomputable def W3_43 : LF tC := cutLF tC p3_43 j3_43
theorem W3_43_ok : keyed 43 (bodyOf Try.f3) = [c3_43] ∧ ∀ n, n ≤ 0 → Snd tC n c3_43 W3_43.k := ⟨by kernel_rfl, fun n hn => cut_ok (p := p3_43) Y3 (lam_le (lam_cons W3_0_ok (lam_cons W3_70_ok lam_nil)) n hn) hn j3_43_run⟩
def S3 : FS := ⟨[[.v, .v, .s 5, .v, .v, .v, .v, .v, .v, .v], [.v], [.v]], [⟨[.one (.agg [.int .i64, .int .i64, .imm 5, .int .i64, .int .i64, .int .i64, .int .i64, .int .i64, .int .i64, .int .i64]), vI, vI], []⟩], [⟨[vO], []⟩], [[.v]], []⟩
noncomputable def f3 (x : Int × Int × List Int × Int × Int × Int × Int × Int × Int × Int × Int × Int × Unit) : Option (Bool × Unit) :=
  (f4 ()).bind fun y447 =>
  bif !y447.fst then (f4 ()).bind fun y438 => some (y438.fst, ())
  else
    bif decide ((↑x.snd.snd.fst.length : Int) > (64 : Int)) then (f4 ()).bind fun y439 => some (y439.fst, ())
    else
      (f5 (x.fst, x.snd.fst, x.snd.snd.fst, ())).bind fun y446 =>
        bif !y446.fst then some (true, ())
        else
          bif !f6 x.snd.snd.snd.snd.snd.snd.snd.fst x.snd.snd.snd.snd.snd.snd.snd.snd.fst x.snd.snd.snd.snd.snd.snd.snd.snd.snd.fst then
            some (true, ())
          else
            bif decide (x.snd.snd.snd.snd.snd.snd.snd.fst < (0 : Int)) then some (true, ())
            else
              bif decide (x.snd.snd.snd.snd.snd.snd.snd.snd.fst < (0 : Int)) then some (true, ())
              else
                bif decide (x.snd.snd.snd.snd.snd.snd.snd.fst > IntKind.i64.wrap (x.fst * (64 : Int))) then some (true, ())
                else
                  bif decide (x.snd.snd.snd.snd.snd.snd.snd.snd.fst > IntKind.i64.wrap (x.snd.fst * (64 : Int))) then some (true, ())
                  else
                    (f8 (x.snd.snd.snd.snd.snd.snd.snd.snd.snd.snd.fst, (256 : Int), ())).bind fun y445 =>
                      (f9
                            (x.fst, x.snd.fst, x.snd.snd.fst, x.snd.snd.snd.snd.snd.snd.snd.fst, x.snd.snd.snd.snd.snd.snd.snd.snd.fst,
                              x.snd.snd.snd.snd.snd.snd.snd.snd.snd.fst, y445.fst, f7 x.snd.snd.snd.snd.snd.snd.fst (1 : Int) (32 : Int),
                              x.snd.snd.snd.snd.snd.snd.snd.snd.snd.snd.snd.fst, ())).bind
                        fun y444 =>
                        bif y444.snd.fst != (0 : Int) then some (false, ())
                        else
                          (f10
                                (x.fst, x.snd.fst, x.snd.snd.fst, x.snd.snd.snd.snd.snd.snd.snd.fst, x.snd.snd.snd.snd.snd.snd.snd.snd.fst,
                                  x.snd.snd.snd.snd.snd.snd.snd.snd.snd.fst, y445.fst, y444.fst,
                                  f7 x.snd.snd.snd.snd.snd.snd.fst (1 : Int) (32 : Int), ())).bind
                            fun y443 =>
                            bif !y443.fst then some (false, ())
                            else
                              (f11 (x.snd.snd.snd.snd.snd.snd.snd.snd.snd.fst, y445.fst, ())).bind fun y442 =>
                                bif y444.fst == (-1 : Int) then
                                  (j3_43
                                        (y445.fst, f7 x.snd.snd.snd.snd.snd.snd.fst (1 : Int) (32 : Int), y444.fst,
                                          IntKind.i64.wrap ((1024 : Int) - f7 x.snd.snd.snd.snd.snd.snd.fst (1 : Int) (32 : Int)), x.fst,
                                          x.snd.fst, x.snd.snd.fst, x.snd.snd.snd.fst, x.snd.snd.snd.snd.fst, x.snd.snd.snd.snd.snd.fst,
                                          x.snd.snd.snd.snd.snd.snd.fst, x.snd.snd.snd.snd.snd.snd.snd.fst,
                                          x.snd.snd.snd.snd.snd.snd.snd.snd.fst, x.snd.snd.snd.snd.snd.snd.snd.snd.snd.fst,
                                          x.snd.snd.snd.snd.snd.snd.snd.fst, x.snd.snd.snd.snd.snd.snd.snd.snd.fst, y442.fst, y442.snd.fst,
                                          y442.snd.snd.fst, ())).bind
                                    fun y440 => some (y440.fst, ())
                                else
                                  (j3_43
                                        (y445.fst, f7 x.snd.snd.snd.snd.snd.snd.fst (1 : Int) (32 : Int), y444.fst,
                                          IntKind.i64.wrap
                                            (IntKind.i64.wrap (y444.fst - f7 x.snd.snd.snd.snd.snd.snd.fst (1 : Int) (32 : Int)) -
                                              (1 : Int)),
                                          x.fst, x.snd.fst, x.snd.snd.fst, x.snd.snd.snd.fst, x.snd.snd.snd.snd.fst,
                                          x.snd.snd.snd.snd.snd.fst, x.snd.snd.snd.snd.snd.snd.fst, x.snd.snd.snd.snd.snd.snd.snd.fst,
                                          x.snd.snd.snd.snd.snd.snd.snd.snd.fst, x.snd.snd.snd.snd.snd.snd.snd.snd.snd.fst,
                                          x.snd.snd.snd.snd.snd.snd.snd.fst, x.snd.snd.snd.snd.snd.snd.snd.snd.fst, y442.fst, y442.snd.fst,
                                          y442.snd.snd.fst, ())).bind
                                    fun y441 => some (y441.fst, ())
noncomputable def F3 : CF tC := mkF tC S3 f3
theorem f3_run : ∀ a, fnS tC G3 (look [(43, W3_43)]) Try.f3 S3 a = f3 a := fun a => by kernel_rfl
theorem F3_ok : CFOK tC 3 F3 := mkF_ok Y3 (fn := Try.f3) (body := bodyOf Try.f3) (by kernel_rfl) (by kernel_rfl) (by kernel_rfl) (m := 0) rfl (lam_le (lam_cons W3_43_ok lam_nil)) f3_run
end Go.AE
