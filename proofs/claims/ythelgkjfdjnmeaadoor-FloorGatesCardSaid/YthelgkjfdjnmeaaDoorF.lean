/-
  The plain functions that the seat's Go functions compute, each with the proof that the function keeps it. Printed by the generator (Gen2) and checked by the kernel.
-/
import Derived.Test.YthelgkjfdjnmeaaDoorCfgT
namespace Go.AE
open Go.Proofs Go.RowKit
set_option maxRecDepth 100000

/-! plan.size -/
noncomputable def G60 : FuncId → Option (CF tC) := look []
theorem Y60 : SysN tC G60 := (sys_nil tC_ok tC_eq)
def S60 : FS := ⟨[[.v]], [⟨[vI], []⟩], [⟨[vO], []⟩], [[.v]], []⟩
def f60 (n1 : Int) : Bool :=
  bif decide (n1 ≥ (1 : Int)) then decide (n1 ≤ (64 : Int)) else false
noncomputable def F60 : CF tC := mkF tC S60 (fun a => some ((f60 a.1), ()))
def h60 (r : Bool) : Option (altTy tE S60.outs) := some (r, ())
theorem f60_run : ∀ a, fnS tC G60 (look []) Tryd.f60 S60 a = (fun a => some ((f60 a.1), ())) a := fun a => by
  have key : ∀ (n1 : Int), (bif decide (n1 ≥ (1 : Int)) then h60 (decide (n1 ≤ (64 : Int))) else h60 false) = h60 (f60 n1) := by
    intros
    unfold f60
    repeat' first | rfl | refine cond_h (g := h60) ?_ ?_
  exact Eq.trans (by kernel_rfl) (key a.1)
theorem F60_ok : CFOK tC 60 F60 := mkF_ok Y60 (fn := Tryd.f60) (body := bodyOf Tryd.f60) (by kernel_rfl) (by kernel_rfl) (by kernel_rfl) (m := 0) rfl (lam_le lam_nil) f60_run

/-! slices.Max -/
noncomputable def G61 : FuncId → Option (CF tC) := look []
theorem Y61 : SysN tC G61 := (sys_nil tC_ok tC_eq)
noncomputable def c61_0 : Code := loopOf (bodyOf Tryd.f61) 0
def p61_0 : LS := ⟨0, [0, 3, 4], ⟨[.one (.one (.imm 5)), vB, vB, .one (.one (.int .u8)), vI] ++ vBs 20, []⟩, [⟨.exit 0, [3], ⟨[vB, vB, vB, .one (.one (.int .u8))] ++ vBs 21, []⟩, []⟩], []⟩
noncomputable def r61_0 (x : List Int × Int × Int × Unit) : Option (List Int × Int × Int × Unit ⊕ Int × Unit) :=
  bif decide (x.snd.snd.fst < (↑x.fst.length : Int)) then
  (idxO x.fst x.snd.snd.fst).bind fun y8 =>
    some (Sum.inl (x.fst, bif decide (y8 > x.snd.fst) then y8 else x.snd.fst, IntKind.i64.wrap (x.snd.snd.fst + (1 : Int)), ()))
else some (Sum.inr (x.snd.fst, ()))
theorem r61_0_run0 (v0 : List Int) (v1 : Int) (v2 : Int) : roundK tC G61 (look []) c61_0 p61_0 (v0, v1, v2, ()) = r61_0 (v0, v1, v2, ()) := by kernel_rfl
theorem r61_0_run (x : List Int × Int × Int × Unit) : roundK tC G61 (look []) c61_0 p61_0 x = r61_0 x := r61_0_run0 x.1 x.2.1 x.2.2.1
noncomputable def l61_0 (x : List Int × Int × Int × Unit) : Option (Int × Unit) := iterO r61_0 x
noncomputable def W61_0 : LF tC := loopW tC p61_0 0 l61_0
theorem W61_0_ok : keyed 0 (bodyOf Tryd.f61) = [.block 0 (.loop c61_0)] ∧ ∀ n, n ≤ 0 → Snd tC n (.block 0 (.loop c61_0)) W61_0.k := ⟨by kernel_rfl, fun n hn => loopW_ok (p := p61_0) (id := 0) Y61 (lam_le lam_nil n hn) hn r61_0_run⟩
def S61 : FS := ⟨[[.s 5]], [⟨[.one (.one (.imm 5))], []⟩], [⟨[.one (.one (.int .u8))], []⟩], [[.v]], []⟩
noncomputable def f61 (x : List Int × Unit) : Option (Int × Unit) :=
  bif decide ((↑x.fst.length : Int) < (1 : Int)) then none
else (idxO x.fst (0 : Int)).bind fun y12 => (l61_0 (x.fst, y12, (1 : Int), ())).bind fun y11 => some (y11.fst, ())
noncomputable def F61 : CF tC := mkF tC S61 f61
theorem f61_run : ∀ a, fnS tC G61 (look [(0, W61_0)]) Tryd.f61 S61 a = f61 a := fun a => by kernel_rfl
theorem F61_ok : CFOK tC 61 F61 := mkF_ok Y61 (fn := Tryd.f61) (body := bodyOf Tryd.f61) (by kernel_rfl) (by kernel_rfl) (by kernel_rfl) (m := 0) rfl (lam_le (lam_cons W61_0_ok lam_nil)) f61_run

/-! plan.Valid -/
noncomputable def G43 : FuncId → Option (CF tC) := look [(60, F60), (61, F61)]
theorem Y43 : SysN tC G43 := (sys_cons F60_ok (mkF_nat _ _) (sys_cons F61_ok (mkF_nat _ _) (sys_nil tC_ok tC_eq)))
def S43 : FS := ⟨[[.v, .v, .s 5]], [⟨[.one (.agg [.int .i64, .int .i64, .imm 5])], []⟩], [⟨[vO], []⟩], [[.v]], []⟩
noncomputable def f43 (x : Int × Int × List Int × Unit) : Option (Bool × Unit) :=
  bif !f60 x.fst then some (false, ())
else
  bif !f60 x.snd.fst then some (false, ())
  else
    bif (↑x.snd.snd.fst.length : Int) != IntKind.i64.wrap (x.fst * x.snd.fst) then some (false, ())
    else
      bif (↑x.snd.snd.fst.length : Int) == (0 : Int) then some (true, ())
      else (f61 (x.snd.snd.fst, ())).bind fun y6 => some (decide (y6.fst ≤ (2 : Int)), ())
noncomputable def F43 : CF tC := mkF tC S43 f43
theorem f43_run : ∀ a, fnS tC G43 (look []) Tryd.f43 S43 a = f43 a := fun a => by kernel_rfl
theorem F43_ok : CFOK tC 43 F43 := mkF_ok Y43 (fn := Tryd.f43) (body := bodyOf Tryd.f43) (by kernel_rfl) (by kernel_rfl) (by kernel_rfl) (m := 0) rfl (lam_le lam_nil) f43_run

/-! bytealg.IndexByte -/
def S62 : FS := ⟨[[.s 5], [.v]], [⟨[.one (.one (.imm 5)), .one (.one (.int .u8))], []⟩], [⟨[vI], []⟩], [[.v]], []⟩
def f62 (x : List Int × Int × Unit) : Option (Int × Unit) := some (ixByte x.1 x.2.1, ())
noncomputable def F62 : CF tC := mkF tC S62 f62
theorem F62_ok : CFOK tC 62 F62 := indexByte_ok tC_ok (fn := Tryd.f62) (e := 5) (by kernel_rfl) (by kernel_rfl) (by kernel_rfl) (by kernel_rfl) (by kernel_rfl) (fun args obs K z h => by
  obtain ⟨a, h1, h⟩ := bind_eq h
  obtain ⟨r, h2, h⟩ := bind_eq h
  have e1 := unAlt_ok h1
  obtain ⟨xs, v, ⟨⟩⟩ := a
  cases h2
  have e2 : (⟨[.imm 5 xs, .int .u8 v], []⟩ : St tC.E) = ⟨args, obs⟩ := e1
  injection e2 with e3 e4
  exact ⟨xs, xs, v, e3.symm, e4.symm, rfl, h⟩)

/-! bytes.IndexByte -/
noncomputable def G44 : FuncId → Option (CF tC) := look [(62, F62)]
theorem Y44 : SysN tC G44 := (sys_cons F62_ok (mkF_nat _ _) (sys_nil tC_ok tC_eq))
def S44 : FS := ⟨[[.s 5], [.v]], [⟨[.one (.one (.imm 5)), .one (.one (.int .u8))], []⟩], [⟨[vI], []⟩], [[.v]], []⟩
noncomputable def f44 (x : List Int × Int × Unit) : Option (Int × Unit) :=
  (f62 (x.fst, x.snd.fst, ())).bind fun y5 => some (y5.fst, ())
noncomputable def F44 : CF tC := mkF tC S44 f44
theorem f44_run : ∀ a, fnS tC G44 (look []) Tryd.f44 S44 a = f44 a := fun a => by kernel_rfl
theorem F44_ok : CFOK tC 44 F44 := mkF_ok Y44 (fn := Tryd.f44) (body := bodyOf Tryd.f44) (by kernel_rfl) (by kernel_rfl) (by kernel_rfl) (m := 0) rfl (lam_le lam_nil) f44_run

/-! floor.Check -/
noncomputable def G20 : FuncId → Option (CF tC) := look [(43, F43), (44, F44)]
theorem Y20 : SysN tC G20 := (sys_cons F43_ok (mkF_nat _ _) (sys_cons F44_ok (mkF_nat _ _) (sys_nil tC_ok tC_eq)))
def S20 : FS := ⟨[[.v, .v, .s 5]], [⟨[.one (.agg [.int .i64, .int .i64, .imm 5])], []⟩], [⟨[vI], []⟩], [[.v]], []⟩
noncomputable def f20 (x : Int × Int × List Int × Unit) : Option (Int × Unit) :=
  (f43 (x.fst, x.snd.fst, x.snd.snd.fst, ())).bind fun y8 =>
  bif !y8.fst then some ((1 : Int), ())
  else
    (f44 (x.snd.snd.fst, (0 : Int), ())).bind fun y7 => bif decide (y7.fst ≥ (0 : Int)) then some ((3 : Int), ()) else some ((0 : Int), ())
noncomputable def F20 : CF tC := mkF tC S20 f20
theorem f20_run : ∀ a, fnS tC G20 (look []) Tryd.f20 S20 a = f20 a := fun a => by kernel_rfl
theorem F20_ok : CFOK tC 20 F20 := mkF_ok Y20 (fn := Tryd.f20) (body := bodyOf Tryd.f20) (by kernel_rfl) (by kernel_rfl) (by kernel_rfl) (m := 0) rfl (lam_le lam_nil) f20_run

/-! floor.value -/
noncomputable def G36 : FuncId → Option (CF tC) := look []
theorem Y36 : SysN tC G36 := (sys_nil tC_ok tC_eq)
def S36 : FS := ⟨[[.v, .v, .s 5], [.v, .v]], [⟨[.one (.agg [.int .i64, .int .i64, .imm 5]), .one (.agg [.int .i64, .int .i64])], []⟩], [⟨[.one (.one (.int .u8))], []⟩], [[.v]], []⟩
noncomputable def f36 (x : Int × Int × List Int × Int × Int × Unit) : Option (Int × Unit) :=
  bif decide (x.snd.snd.snd.fst < (0 : Int)) then some ((2 : Int), ())
else
  bif decide (x.snd.snd.snd.fst ≥ x.fst) then some ((2 : Int), ())
  else
    bif decide (x.snd.snd.snd.snd.fst < (0 : Int)) then some ((2 : Int), ())
    else
      bif decide (x.snd.snd.snd.snd.fst ≥ x.snd.fst) then some ((2 : Int), ())
      else
        (idxO x.snd.snd.fst (IntKind.i64.wrap (IntKind.i64.wrap (x.snd.snd.snd.snd.fst * x.fst) + x.snd.snd.snd.fst))).bind fun y8 =>
          some (y8, ())
noncomputable def F36 : CF tC := mkF tC S36 f36
theorem f36_run : ∀ a, fnS tC G36 (look []) Tryd.f36 S36 a = f36 a := fun a => by kernel_rfl
theorem F36_ok : CFOK tC 36 F36 := mkF_ok Y36 (fn := Tryd.f36) (body := bodyOf Tryd.f36) (by kernel_rfl) (by kernel_rfl) (by kernel_rfl) (m := 0) rfl (lam_le lam_nil) f36_run

/-! floor.Rooms -/
noncomputable def G16 : FuncId → Option (CF tC) := look [(20, F20), (36, F36)]
theorem Y16 : SysN tC G16 := (sys_cons F20_ok (mkF_nat _ _) (sys_cons F36_ok (mkF_nat _ _) (sys_nil tC_ok tC_eq)))
noncomputable def c16_0 : Code := loopOf (bodyOf Tryd.f16) 0
def p16_0 : LS := ⟨0, [1, 5, 26, 27], ⟨[vB, .one (.one (.ptr 0 0 0)), vB, vB, vB, .one (.one (.sl 1))] ++ vBs 20 ++ [vI, vI] ++ vBs 94, [.box [.int .i64, .int .i64, .imm 5], .arr 3]⟩, [⟨.exit 0, [1, 5], ⟨[vB, .one (.one (.ptr 0 0 0)), vB, vB, vB, .one (.one (.sl 1))] ++ vBs 116, [.box [.int .i64, .int .i64, .imm 5], .arr 3]⟩, []⟩], []⟩
noncomputable def r16_0 (x : Nat × Int × Int × Int × Int × List Int × List Int × Unit) : Option (Nat × Int × Int × Int × Int × List Int × List Int × Unit ⊕ Nat × Int × Int × List Int × List Int × Unit) :=
  bif decide (x.snd.snd.fst < x.snd.fst) then
  bif decide ((0 : Int) ≤ x.snd.snd.fst) && decide (x.snd.snd.fst < (↑x.fst : Int)) then
    x.snd.snd.snd.snd.snd.snd.fst[(0 : Nat) + x.snd.snd.fst.toNat]?.bind fun _x =>
      some
        (Sum.inl
          (x.fst, x.snd.fst, IntKind.i64.wrap (x.snd.snd.fst + (1 : Int)), x.snd.snd.snd.fst, x.snd.snd.snd.snd.fst,
            x.snd.snd.snd.snd.snd.fst, x.snd.snd.snd.snd.snd.snd.fst.set ((0 : Nat) + x.snd.snd.fst.toNat) (-1 : Int), ()))
  else none
else some (Sum.inr (x.fst, x.snd.snd.snd.fst, x.snd.snd.snd.snd.fst, x.snd.snd.snd.snd.snd.fst, x.snd.snd.snd.snd.snd.snd.fst, ()))
theorem r16_0_run0 (v0 : Nat) (v1 : Int) (v2 : Int) (v3 : Int) (v4 : Int) (v5 : List Int) (v6 : List Int) : roundK tC G16 (look []) c16_0 p16_0 (v0, v1, v2, v3, v4, v5, v6, ()) = r16_0 (v0, v1, v2, v3, v4, v5, v6, ()) := by kernel_rfl
theorem r16_0_run (x : Nat × Int × Int × Int × Int × List Int × List Int × Unit) : roundK tC G16 (look []) c16_0 p16_0 x = r16_0 x := r16_0_run0 x.1 x.2.1 x.2.2.1 x.2.2.2.1 x.2.2.2.2.1 x.2.2.2.2.2.1 x.2.2.2.2.2.2.1
noncomputable def l16_0 (x : Nat × Int × Int × Int × Int × List Int × List Int × Unit) : Option (Nat × Int × Int × List Int × List Int × Unit) := iterO r16_0 x
noncomputable def W16_0 : LF tC := loopW tC p16_0 0 l16_0
theorem W16_0_ok : keyed 0 (bodyOf Tryd.f16) = [.block 0 (.loop c16_0)] ∧ ∀ n, n ≤ 0 → Snd tC n (.block 0 (.loop c16_0)) W16_0.k := ⟨by kernel_rfl, fun n hn => loopW_ok (p := p16_0) (id := 0) Y16 (lam_le lam_nil n hn) hn r16_0_run⟩
noncomputable def c16_85 : Code := subCode (loopOf (loopOf (loopOf (bodyOf Tryd.f16) 2) 4) 6) 85
def p16_85 : PS := ⟨0, [1, 5, 7, 10, 11, 35, 36, 37, 71, 72], ⟨[vB, .one (.one (.ptr 0 0 0)), vB, vB, vB, .one (.one (.sl 1)), vB, vI, vB, vB, .one (.one (.sl 2)), vI] ++ vBs 23 ++ [.one (.one (.imm 5)), vI, vI] ++ vBs 33 ++ [.one (.agg [.lit .i64 1, .lit .i64 0, .lit .i64 0, .lit .i64 1, .lit .i64 (-1), .lit .i64 0, .lit .i64 0, .lit .i64 (-1)]), vI] ++ vBs 49, [.box [.int .i64, .int .i64, .imm 5], .arr 3, .arr 3]⟩, [⟨.normal, [1, 5, 7, 10, 11, 35, 36, 37, 71, 72], ⟨[vB, .one (.one (.ptr 0 0 0)), vB, vB, vB, .one (.one (.sl 1)), vB, vI, vB, vB, .one (.one (.sl 2)), vI] ++ vBs 23 ++ [.one (.one (.imm 5)), vI, vI] ++ vBs 33 ++ [.one (.agg [.lit .i64 1, .lit .i64 0, .lit .i64 0, .lit .i64 1, .lit .i64 (-1), .lit .i64 0, .lit .i64 0, .lit .i64 (-1)]), vI] ++ vBs 49, [.box [.int .i64, .int .i64, .imm 5], .arr 3, .arr 3]⟩, []⟩], []⟩
noncomputable def j16_85 (x : Nat × Int × Nat × Int × List Int × Int × Int × Int × Int × Int × List Int × List Int × List Int × Unit) : Option (Nat × Int × Nat × Int × List Int × Int × Int × Int × Int × Int × List Int × List Int × List Int × Unit) :=
  some
  (x.fst, x.snd.fst, x.snd.snd.fst, x.snd.snd.snd.fst, x.snd.snd.snd.snd.fst, x.snd.snd.snd.snd.snd.fst, x.snd.snd.snd.snd.snd.snd.fst,
    IntKind.i64.wrap (x.snd.snd.snd.snd.snd.snd.snd.fst + (1 : Int)), x.snd.snd.snd.snd.snd.snd.snd.snd.fst,
    x.snd.snd.snd.snd.snd.snd.snd.snd.snd.fst, x.snd.snd.snd.snd.snd.snd.snd.snd.snd.snd.fst,
    x.snd.snd.snd.snd.snd.snd.snd.snd.snd.snd.snd.fst, x.snd.snd.snd.snd.snd.snd.snd.snd.snd.snd.snd.snd.fst, ())
theorem j16_85_run0 (v0 : Nat) (v1 : Int) (v2 : Nat) (v3 : Int) (v4 : List Int) (v5 : Int) (v6 : Int) (v7 : Int) (v8 : Int) (v9 : Int) (v10 : List Int) (v11 : List Int) (v12 : List Int) : pieceK tC G16 (look []) c16_85 p16_85 (v0, v1, v2, v3, v4, v5, v6, v7, v8, v9, v10, v11, v12, ()) = j16_85 (v0, v1, v2, v3, v4, v5, v6, v7, v8, v9, v10, v11, v12, ()) := by kernel_rfl
theorem j16_85_run (x : Nat × Int × Nat × Int × List Int × Int × Int × Int × Int × Int × List Int × List Int × List Int × Unit) : pieceK tC G16 (look []) c16_85 p16_85 x = j16_85 x := j16_85_run0 x.1 x.2.1 x.2.2.1 x.2.2.2.1 x.2.2.2.2.1 x.2.2.2.2.2.1 x.2.2.2.2.2.2.1 x.2.2.2.2.2.2.2.1 x.2.2.2.2.2.2.2.2.1 x.2.2.2.2.2.2.2.2.2.1 x.2.2.2.2.2.2.2.2.2.2.1 x.2.2.2.2.2.2.2.2.2.2.2.1 x.2.2.2.2.2.2.2.2.2.2.2.2.1
noncomputable def W16_85 : LF tC := cutLF tC p16_85 j16_85
theorem W16_85_ok : keyed 85 (loopOf (loopOf (loopOf (bodyOf Tryd.f16) 2) 4) 6) = [c16_85] ∧ ∀ n, n ≤ 0 → Snd tC n c16_85 W16_85.k := ⟨by kernel_rfl, fun n hn => cut_ok (p := p16_85) Y16 (lam_le lam_nil n hn) hn j16_85_run⟩
noncomputable def c16_18 : Code := loopOf (loopOf (loopOf (bodyOf Tryd.f16) 2) 4) 6
def p16_18 : LS := ⟨0, [1, 5, 7, 10, 11, 35, 36, 37, 71, 72], ⟨[vB, .one (.one (.ptr 0 0 0)), vB, vB, vB, .one (.one (.sl 1)), vB, vI, vB, vB, .one (.one (.sl 2)), vI] ++ vBs 23 ++ [.one (.one (.imm 5)), vI, vI] ++ vBs 33 ++ [.one (.agg [.lit .i64 1, .lit .i64 0, .lit .i64 0, .lit .i64 1, .lit .i64 (-1), .lit .i64 0, .lit .i64 0, .lit .i64 (-1)]), vI] ++ vBs 49, [.box [.int .i64, .int .i64, .imm 5], .arr 3, .arr 3]⟩, [⟨.exit 6, [1, 5, 7, 10, 35, 36, 37], ⟨[vB, .one (.one (.ptr 0 0 0)), vB, vB, vB, .one (.one (.sl 1)), vB, vI, vB, vB, .one (.one (.sl 2))] ++ vBs 24 ++ [.one (.one (.imm 5)), vI, vI] ++ vBs 84, [.box [.int .i64, .int .i64, .imm 5], .arr 3, .arr 3]⟩, []⟩], []⟩
noncomputable def r16_18 (x : Nat × Int × Nat × Int × List Int × Int × Int × Int × Int × Int × List Int × List Int × List Int × Unit) : Option
  (Nat × Int × Nat × Int × List Int × Int × Int × Int × Int × Int × List Int × List Int × List Int × Unit ⊕
    Nat × Int × Nat × List Int × Int × Int × Int × Int × List Int × List Int × List Int × Unit) :=
  bif decide (x.snd.snd.snd.snd.snd.snd.snd.fst < (4 : Int)) then
  bif decide ((0 : Int) ≤ x.snd.snd.snd.snd.snd.snd.snd.fst) && decide (x.snd.snd.snd.snd.snd.snd.snd.fst < (4 : Int)) then
    (idxO [Pt.mk (1 : Int) (0 : Int), Pt.mk (0 : Int) (1 : Int), Pt.mk (-1 : Int) (0 : Int), Pt.mk (0 : Int) (-1 : Int)]
          x.snd.snd.snd.snd.snd.snd.snd.fst).bind
      fun y147 =>
      bif x.snd.snd.snd.snd.snd.snd.snd.snd.fst == (0 : Int) then none
      else
        bif x.snd.snd.snd.snd.snd.snd.snd.snd.fst == (0 : Int) then none
        else
          (f36
                (x.snd.snd.snd.snd.snd.snd.snd.snd.fst, x.snd.snd.snd.snd.snd.snd.snd.snd.snd.fst,
                  x.snd.snd.snd.snd.snd.snd.snd.snd.snd.snd.fst,
                  IntKind.i64.wrap (x.snd.snd.snd.fst.tmod x.snd.snd.snd.snd.snd.snd.snd.snd.fst + y147.X),
                  IntKind.i64.wrap (IntKind.i64.wrap (x.snd.snd.snd.fst.tdiv x.snd.snd.snd.snd.snd.snd.snd.snd.fst) + y147.Y), ())).bind
            fun y146 =>
            bif y146.fst == (1 : Int) then
              bif
                  decide
                      ((0 : Int) ≤
                        IntKind.i64.wrap
                          (IntKind.i64.wrap
                              (IntKind.i64.wrap (IntKind.i64.wrap (x.snd.snd.snd.fst.tdiv x.snd.snd.snd.snd.snd.snd.snd.snd.fst) + y147.Y) *
                                x.snd.snd.snd.snd.snd.snd.snd.snd.fst) +
                            IntKind.i64.wrap (x.snd.snd.snd.fst.tmod x.snd.snd.snd.snd.snd.snd.snd.snd.fst + y147.X))) &&
                    decide
                      (IntKind.i64.wrap
                          (IntKind.i64.wrap
                              (IntKind.i64.wrap (IntKind.i64.wrap (x.snd.snd.snd.fst.tdiv x.snd.snd.snd.snd.snd.snd.snd.snd.fst) + y147.Y) *
                                x.snd.snd.snd.snd.snd.snd.snd.snd.fst) +
                            IntKind.i64.wrap (x.snd.snd.snd.fst.tmod x.snd.snd.snd.snd.snd.snd.snd.snd.fst + y147.X)) <
                        (↑x.fst : Int)) then
                x.snd.snd.snd.snd.snd.snd.snd.snd.snd.snd.snd.fst[(0 : Nat) +
                        (IntKind.i64.wrap
                            (IntKind.i64.wrap
                                (IntKind.i64.wrap
                                    (IntKind.i64.wrap (x.snd.snd.snd.fst.tdiv x.snd.snd.snd.snd.snd.snd.snd.snd.fst) + y147.Y) *
                                  x.snd.snd.snd.snd.snd.snd.snd.snd.fst) +
                              IntKind.i64.wrap (x.snd.snd.snd.fst.tmod x.snd.snd.snd.snd.snd.snd.snd.snd.fst + y147.X))).toNat]?.bind
                  fun y144 =>
                  bif decide (y144 < (0 : Int)) then
                    bif
                        decide
                            ((0 : Int) ≤
                              IntKind.i64.wrap
                                (IntKind.i64.wrap
                                    (IntKind.i64.wrap
                                        (IntKind.i64.wrap (x.snd.snd.snd.fst.tdiv x.snd.snd.snd.snd.snd.snd.snd.snd.fst) + y147.Y) *
                                      x.snd.snd.snd.snd.snd.snd.snd.snd.fst) +
                                  IntKind.i64.wrap (x.snd.snd.snd.fst.tmod x.snd.snd.snd.snd.snd.snd.snd.snd.fst + y147.X))) &&
                          decide
                            (IntKind.i64.wrap
                                (IntKind.i64.wrap
                                    (IntKind.i64.wrap
                                        (IntKind.i64.wrap (x.snd.snd.snd.fst.tdiv x.snd.snd.snd.snd.snd.snd.snd.snd.fst) + y147.Y) *
                                      x.snd.snd.snd.snd.snd.snd.snd.snd.fst) +
                                  IntKind.i64.wrap (x.snd.snd.snd.fst.tmod x.snd.snd.snd.snd.snd.snd.snd.snd.fst + y147.X)) <
                              (↑x.fst : Int)) then
                      x.snd.snd.snd.snd.snd.snd.snd.snd.snd.snd.snd.fst[(0 : Nat) +
                              (IntKind.i64.wrap
                                  (IntKind.i64.wrap
                                      (IntKind.i64.wrap
                                          (IntKind.i64.wrap (x.snd.snd.snd.fst.tdiv x.snd.snd.snd.snd.snd.snd.snd.snd.fst) + y147.Y) *
                                        x.snd.snd.snd.snd.snd.snd.snd.snd.fst) +
                                    IntKind.i64.wrap (x.snd.snd.snd.fst.tmod x.snd.snd.snd.snd.snd.snd.snd.snd.fst + y147.X))).toNat]?.bind
                        fun _x =>
                        bif decide ((0 : Nat) + x.snd.snd.fst ≤ x.snd.snd.snd.snd.snd.snd.snd.snd.snd.snd.snd.snd.fst.length) then
                          bif roomy (x.snd.snd.fst + (1 : Nat)) (8 : Nat) then
                            (j16_85
                                  (x.fst, x.snd.fst, x.snd.snd.fst + (1 : Nat), x.snd.snd.snd.fst, x.snd.snd.snd.snd.fst,
                                    x.snd.snd.snd.snd.snd.fst, x.snd.snd.snd.snd.snd.snd.fst, x.snd.snd.snd.snd.snd.snd.snd.fst,
                                    x.snd.snd.snd.snd.snd.snd.snd.snd.fst, x.snd.snd.snd.snd.snd.snd.snd.snd.snd.fst,
                                    x.snd.snd.snd.snd.snd.snd.snd.snd.snd.snd.fst,
                                    x.snd.snd.snd.snd.snd.snd.snd.snd.snd.snd.snd.fst.set
                                      ((0 : Nat) +
                                        (IntKind.i64.wrap
                                            (IntKind.i64.wrap
                                                (IntKind.i64.wrap
                                                    (IntKind.i64.wrap (x.snd.snd.snd.fst.tdiv x.snd.snd.snd.snd.snd.snd.snd.snd.fst) +
                                                      y147.Y) *
                                                  x.snd.snd.snd.snd.snd.snd.snd.snd.fst) +
                                              IntKind.i64.wrap
                                                (x.snd.snd.snd.fst.tmod x.snd.snd.snd.snd.snd.snd.snd.snd.fst + y147.X))).toNat)
                                      x.snd.fst,
                                    List.take x.snd.snd.fst (List.drop (0 : Nat) x.snd.snd.snd.snd.snd.snd.snd.snd.snd.snd.snd.snd.fst) ++
                                      [IntKind.i64.wrap
                                          (IntKind.i64.wrap
                                              (IntKind.i64.wrap
                                                  (IntKind.i64.wrap (x.snd.snd.snd.fst.tdiv x.snd.snd.snd.snd.snd.snd.snd.snd.fst) +
                                                    y147.Y) *
                                                x.snd.snd.snd.snd.snd.snd.snd.snd.fst) +
                                            IntKind.i64.wrap (x.snd.snd.snd.fst.tmod x.snd.snd.snd.snd.snd.snd.snd.snd.fst + y147.X))],
                                    ())).bind
                              fun y141 =>
                              some
                                (Sum.inl
                                  (y141.fst, y141.snd.fst, y141.snd.snd.fst, y141.snd.snd.snd.fst, y141.snd.snd.snd.snd.fst,
                                    y141.snd.snd.snd.snd.snd.fst, y141.snd.snd.snd.snd.snd.snd.fst, y141.snd.snd.snd.snd.snd.snd.snd.fst,
                                    y141.snd.snd.snd.snd.snd.snd.snd.snd.fst, y141.snd.snd.snd.snd.snd.snd.snd.snd.snd.fst,
                                    y141.snd.snd.snd.snd.snd.snd.snd.snd.snd.snd.fst, y141.snd.snd.snd.snd.snd.snd.snd.snd.snd.snd.snd.fst,
                                    y141.snd.snd.snd.snd.snd.snd.snd.snd.snd.snd.snd.snd.fst, ()))
                          else none
                        else none
                    else none
                  else
                    (j16_85
                          (x.fst, x.snd.fst, x.snd.snd.fst, x.snd.snd.snd.fst, x.snd.snd.snd.snd.fst, x.snd.snd.snd.snd.snd.fst,
                            x.snd.snd.snd.snd.snd.snd.fst, x.snd.snd.snd.snd.snd.snd.snd.fst, x.snd.snd.snd.snd.snd.snd.snd.snd.fst,
                            x.snd.snd.snd.snd.snd.snd.snd.snd.snd.fst, x.snd.snd.snd.snd.snd.snd.snd.snd.snd.snd.fst,
                            x.snd.snd.snd.snd.snd.snd.snd.snd.snd.snd.snd.fst, x.snd.snd.snd.snd.snd.snd.snd.snd.snd.snd.snd.snd.fst,
                            ())).bind
                      fun y143 =>
                      some
                        (Sum.inl
                          (y143.fst, y143.snd.fst, y143.snd.snd.fst, y143.snd.snd.snd.fst, y143.snd.snd.snd.snd.fst,
                            y143.snd.snd.snd.snd.snd.fst, y143.snd.snd.snd.snd.snd.snd.fst, y143.snd.snd.snd.snd.snd.snd.snd.fst,
                            y143.snd.snd.snd.snd.snd.snd.snd.snd.fst, y143.snd.snd.snd.snd.snd.snd.snd.snd.snd.fst,
                            y143.snd.snd.snd.snd.snd.snd.snd.snd.snd.snd.fst, y143.snd.snd.snd.snd.snd.snd.snd.snd.snd.snd.snd.fst,
                            y143.snd.snd.snd.snd.snd.snd.snd.snd.snd.snd.snd.snd.fst, ()))
              else none
            else
              (j16_85
                    (x.fst, x.snd.fst, x.snd.snd.fst, x.snd.snd.snd.fst, x.snd.snd.snd.snd.fst, x.snd.snd.snd.snd.snd.fst,
                      x.snd.snd.snd.snd.snd.snd.fst, x.snd.snd.snd.snd.snd.snd.snd.fst, x.snd.snd.snd.snd.snd.snd.snd.snd.fst,
                      x.snd.snd.snd.snd.snd.snd.snd.snd.snd.fst, x.snd.snd.snd.snd.snd.snd.snd.snd.snd.snd.fst,
                      x.snd.snd.snd.snd.snd.snd.snd.snd.snd.snd.snd.fst, x.snd.snd.snd.snd.snd.snd.snd.snd.snd.snd.snd.snd.fst, ())).bind
                fun y145 =>
                some
                  (Sum.inl
                    (y145.fst, y145.snd.fst, y145.snd.snd.fst, y145.snd.snd.snd.fst, y145.snd.snd.snd.snd.fst, y145.snd.snd.snd.snd.snd.fst,
                      y145.snd.snd.snd.snd.snd.snd.fst, y145.snd.snd.snd.snd.snd.snd.snd.fst, y145.snd.snd.snd.snd.snd.snd.snd.snd.fst,
                      y145.snd.snd.snd.snd.snd.snd.snd.snd.snd.fst, y145.snd.snd.snd.snd.snd.snd.snd.snd.snd.snd.fst,
                      y145.snd.snd.snd.snd.snd.snd.snd.snd.snd.snd.snd.fst, y145.snd.snd.snd.snd.snd.snd.snd.snd.snd.snd.snd.snd.fst, ()))
  else none
else
  some
    (Sum.inr
      (x.fst, x.snd.fst, x.snd.snd.fst, x.snd.snd.snd.snd.fst, x.snd.snd.snd.snd.snd.fst, x.snd.snd.snd.snd.snd.snd.fst,
        x.snd.snd.snd.snd.snd.snd.snd.snd.fst, x.snd.snd.snd.snd.snd.snd.snd.snd.snd.fst, x.snd.snd.snd.snd.snd.snd.snd.snd.snd.snd.fst,
        x.snd.snd.snd.snd.snd.snd.snd.snd.snd.snd.snd.fst, x.snd.snd.snd.snd.snd.snd.snd.snd.snd.snd.snd.snd.fst, ()))
theorem r16_18_run0 (v0 : Nat) (v1 : Int) (v2 : Nat) (v3 : Int) (v4 : List Int) (v5 : Int) (v6 : Int) (v7 : Int) (v8 : Int) (v9 : Int) (v10 : List Int) (v11 : List Int) (v12 : List Int) : roundK tC G16 (look [(85, W16_85)]) c16_18 p16_18 (v0, v1, v2, v3, v4, v5, v6, v7, v8, v9, v10, v11, v12, ()) = r16_18 (v0, v1, v2, v3, v4, v5, v6, v7, v8, v9, v10, v11, v12, ()) := by kernel_rfl
theorem r16_18_run (x : Nat × Int × Nat × Int × List Int × Int × Int × Int × Int × Int × List Int × List Int × List Int × Unit) : roundK tC G16 (look [(85, W16_85)]) c16_18 p16_18 x = r16_18 x := r16_18_run0 x.1 x.2.1 x.2.2.1 x.2.2.2.1 x.2.2.2.2.1 x.2.2.2.2.2.1 x.2.2.2.2.2.2.1 x.2.2.2.2.2.2.2.1 x.2.2.2.2.2.2.2.2.1 x.2.2.2.2.2.2.2.2.2.1 x.2.2.2.2.2.2.2.2.2.2.1 x.2.2.2.2.2.2.2.2.2.2.2.1 x.2.2.2.2.2.2.2.2.2.2.2.2.1
noncomputable def l16_18 (x : Nat × Int × Nat × Int × List Int × Int × Int × Int × Int × Int × List Int × List Int × List Int × Unit) : Option (Nat × Int × Nat × List Int × Int × Int × Int × Int × List Int × List Int × List Int × Unit) := iterO r16_18 x
noncomputable def W16_18 : LF tC := loopW tC p16_18 6 l16_18
theorem W16_18_ok : keyed 18 (loopOf (loopOf (bodyOf Tryd.f16) 2) 4) = [.block 6 (.loop c16_18)] ∧ ∀ n, n ≤ 0 → Snd tC n (.block 6 (.loop c16_18)) W16_18.k := ⟨by kernel_rfl, fun n hn => loopW_ok (p := p16_18) (id := 6) Y16 (lam_le (lam_cons W16_85_ok lam_nil) n hn) hn r16_18_run⟩
noncomputable def c16_12 : Code := loopOf (loopOf (bodyOf Tryd.f16) 2) 4
def p16_12 : LS := ⟨0, [1, 5, 7, 10, 35, 36, 37], ⟨[vB, .one (.one (.ptr 0 0 0)), vB, vB, vB, .one (.one (.sl 1)), vB, vI, vB, vB, .one (.one (.sl 2))] ++ vBs 24 ++ [.one (.one (.imm 5)), vI, vI] ++ vBs 84, [.box [.int .i64, .int .i64, .imm 5], .arr 3, .arr 3]⟩, [⟨.exit 4, [1, 5, 7, 35, 36, 37], ⟨[vB, .one (.one (.ptr 0 0 0)), vB, vB, vB, .one (.one (.sl 1)), vB, vI] ++ vBs 27 ++ [.one (.one (.imm 5)), vI, vI] ++ vBs 84, [.box [.int .i64, .int .i64, .imm 5], .arr 3]⟩, []⟩], []⟩
noncomputable def r16_12 (x : Nat × Int × Nat × List Int × Int × Int × Int × Int × List Int × List Int × List Int × Unit) : Option
  (Nat × Int × Nat × List Int × Int × Int × Int × Int × List Int × List Int × List Int × Unit ⊕
    Nat × Int × List Int × Int × Int × Int × Int × List Int × List Int × Unit) :=
  bif decide ((↑x.snd.snd.fst : Int) > (0 : Int)) then
  bif
      decide ((0 : Int) ≤ IntKind.i64.wrap ((↑x.snd.snd.fst : Int) - (1 : Int))) &&
        decide (IntKind.i64.wrap ((↑x.snd.snd.fst : Int) - (1 : Int)) < (↑x.snd.snd.fst : Int)) then
    x.snd.snd.snd.snd.snd.snd.snd.snd.snd.snd.fst[(0 : Nat) + (IntKind.i64.wrap ((↑x.snd.snd.fst : Int) - (1 : Int))).toNat]?.bind
      fun y169 =>
      bif
          true && decide ((0 : Int) ≤ IntKind.i64.wrap ((↑x.snd.snd.fst : Int) - (1 : Int))) &&
              decide (IntKind.i64.wrap ((↑x.snd.snd.fst : Int) - (1 : Int)) ≤ (↑x.snd.snd.fst : Int)) &&
            decide ((↑x.snd.snd.fst : Int) ≤ (↑x.snd.snd.fst : Int)) then
        (l16_18
              (x.fst, x.snd.fst, (IntKind.i64.wrap ((↑x.snd.snd.fst : Int) - (1 : Int))).toNat - (0 : Nat), y169, x.snd.snd.snd.fst,
                x.snd.snd.snd.snd.fst, x.snd.snd.snd.snd.snd.fst, (0 : Int), x.snd.snd.snd.snd.snd.snd.fst,
                x.snd.snd.snd.snd.snd.snd.snd.fst, x.snd.snd.snd.snd.snd.snd.snd.snd.fst, x.snd.snd.snd.snd.snd.snd.snd.snd.snd.fst,
                x.snd.snd.snd.snd.snd.snd.snd.snd.snd.snd.fst, ())).bind
          fun y168 =>
          some
            (Sum.inl
              (y168.fst, y168.snd.fst, y168.snd.snd.fst, y168.snd.snd.snd.fst, y168.snd.snd.snd.snd.fst, y168.snd.snd.snd.snd.snd.fst,
                y168.snd.snd.snd.snd.snd.snd.fst, y168.snd.snd.snd.snd.snd.snd.snd.fst, y168.snd.snd.snd.snd.snd.snd.snd.snd.fst,
                y168.snd.snd.snd.snd.snd.snd.snd.snd.snd.fst, y168.snd.snd.snd.snd.snd.snd.snd.snd.snd.snd.fst, ()))
      else none
  else none
else
  some
    (Sum.inr
      (x.fst, x.snd.fst, x.snd.snd.snd.fst, x.snd.snd.snd.snd.fst, x.snd.snd.snd.snd.snd.fst, x.snd.snd.snd.snd.snd.snd.fst,
        x.snd.snd.snd.snd.snd.snd.snd.fst, x.snd.snd.snd.snd.snd.snd.snd.snd.fst, x.snd.snd.snd.snd.snd.snd.snd.snd.snd.fst, ()))
theorem r16_12_run0 (v0 : Nat) (v1 : Int) (v2 : Nat) (v3 : List Int) (v4 : Int) (v5 : Int) (v6 : Int) (v7 : Int) (v8 : List Int) (v9 : List Int) (v10 : List Int) : roundK tC G16 (look [(18, W16_18)]) c16_12 p16_12 (v0, v1, v2, v3, v4, v5, v6, v7, v8, v9, v10, ()) = r16_12 (v0, v1, v2, v3, v4, v5, v6, v7, v8, v9, v10, ()) := by kernel_rfl
theorem r16_12_run (x : Nat × Int × Nat × List Int × Int × Int × Int × Int × List Int × List Int × List Int × Unit) : roundK tC G16 (look [(18, W16_18)]) c16_12 p16_12 x = r16_12 x := r16_12_run0 x.1 x.2.1 x.2.2.1 x.2.2.2.1 x.2.2.2.2.1 x.2.2.2.2.2.1 x.2.2.2.2.2.2.1 x.2.2.2.2.2.2.2.1 x.2.2.2.2.2.2.2.2.1 x.2.2.2.2.2.2.2.2.2.1 x.2.2.2.2.2.2.2.2.2.2.1
noncomputable def l16_12 (x : Nat × Int × Nat × List Int × Int × Int × Int × Int × List Int × List Int × List Int × Unit) : Option (Nat × Int × List Int × Int × Int × Int × Int × List Int × List Int × Unit) := iterO r16_12 x
noncomputable def W16_12 : LF tC := loopW tC p16_12 4 l16_12
theorem W16_12_ok : keyed 12 (loopOf (bodyOf Tryd.f16) 2) = [.block 4 (.loop c16_12)] ∧ ∀ n, n ≤ 0 → Snd tC n (.block 4 (.loop c16_12)) W16_12.k := ⟨by kernel_rfl, fun n hn => loopW_ok (p := p16_12) (id := 4) Y16 (lam_le (lam_cons W16_18_ok lam_nil) n hn) hn r16_12_run⟩
noncomputable def c16_91 : Code := subCode (loopOf (bodyOf Tryd.f16) 2) 91
def p16_91 : PS := ⟨0, [1, 5, 7, 35, 36, 37], ⟨[vB, .one (.one (.ptr 0 0 0)), vB, vB, vB, .one (.one (.sl 1)), vB, vI] ++ vBs 27 ++ [.one (.one (.imm 5)), vI, vI] ++ vBs 84, [.box [.int .i64, .int .i64, .imm 5], .arr 3]⟩, [⟨.normal, [1, 5, 7, 35, 36, 37], ⟨[vB, .one (.one (.ptr 0 0 0)), vB, vB, vB, .one (.one (.sl 1)), vB, vI] ++ vBs 27 ++ [.one (.one (.imm 5)), vI, vI] ++ vBs 84, [.box [.int .i64, .int .i64, .imm 5], .arr 3]⟩, []⟩], []⟩
noncomputable def j16_91 (x : Nat × Int × List Int × Int × Int × Int × Int × List Int × List Int × Unit) : Option (Nat × Int × List Int × Int × Int × Int × Int × List Int × List Int × Unit) :=
  some
  (x.fst, x.snd.fst, x.snd.snd.fst, x.snd.snd.snd.fst, IntKind.i64.wrap (x.snd.snd.snd.snd.fst + (1 : Int)), x.snd.snd.snd.snd.snd.fst,
    x.snd.snd.snd.snd.snd.snd.fst, x.snd.snd.snd.snd.snd.snd.snd.fst, x.snd.snd.snd.snd.snd.snd.snd.snd.fst, ())
theorem j16_91_run0 (v0 : Nat) (v1 : Int) (v2 : List Int) (v3 : Int) (v4 : Int) (v5 : Int) (v6 : Int) (v7 : List Int) (v8 : List Int) : pieceK tC G16 (look []) c16_91 p16_91 (v0, v1, v2, v3, v4, v5, v6, v7, v8, ()) = j16_91 (v0, v1, v2, v3, v4, v5, v6, v7, v8, ()) := by kernel_rfl
theorem j16_91_run (x : Nat × Int × List Int × Int × Int × Int × Int × List Int × List Int × Unit) : pieceK tC G16 (look []) c16_91 p16_91 x = j16_91 x := j16_91_run0 x.1 x.2.1 x.2.2.1 x.2.2.2.1 x.2.2.2.2.1 x.2.2.2.2.2.1 x.2.2.2.2.2.2.1 x.2.2.2.2.2.2.2.1 x.2.2.2.2.2.2.2.2.1
noncomputable def W16_91 : LF tC := cutLF tC p16_91 j16_91
theorem W16_91_ok : keyed 91 (loopOf (bodyOf Tryd.f16) 2) = [c16_91] ∧ ∀ n, n ≤ 0 → Snd tC n c16_91 W16_91.k := ⟨by kernel_rfl, fun n hn => cut_ok (p := p16_91) Y16 (lam_le lam_nil n hn) hn j16_91_run⟩
noncomputable def c16_6 : Code := loopOf (bodyOf Tryd.f16) 2
def p16_6 : LS := ⟨0, [1, 5, 7, 35, 36, 37], ⟨[vB, .one (.one (.ptr 0 0 0)), vB, vB, vB, .one (.one (.sl 1)), vB, vI] ++ vBs 27 ++ [.one (.one (.imm 5)), vI, vI] ++ vBs 84, [.box [.int .i64, .int .i64, .imm 5], .arr 3]⟩, [⟨.exit 2, [5], ⟨vBs 5 ++ [.one (.one (.sl 0))] ++ vBs 116, [.arr 3]⟩, []⟩], []⟩
noncomputable def r16_6 (x : Nat × Int × List Int × Int × Int × Int × Int × List Int × List Int × Unit) : Option (Nat × Int × List Int × Int × Int × Int × Int × List Int × List Int × Unit ⊕ Nat × List Int × Unit) :=
  bif decide (x.snd.snd.snd.snd.fst < x.snd.snd.snd.fst) then
  (idxO x.snd.snd.fst x.snd.snd.snd.snd.fst).bind fun y232 =>
    bif y232 != (1 : Int) then
      (j16_91
            (x.fst, x.snd.fst, x.snd.snd.fst, x.snd.snd.snd.fst, x.snd.snd.snd.snd.fst, x.snd.snd.snd.snd.snd.fst,
              x.snd.snd.snd.snd.snd.snd.fst, x.snd.snd.snd.snd.snd.snd.snd.fst, x.snd.snd.snd.snd.snd.snd.snd.snd.fst, ())).bind
        fun y226 =>
        some
          (Sum.inl
            (y226.fst, y226.snd.fst, y226.snd.snd.fst, y226.snd.snd.snd.fst, y226.snd.snd.snd.snd.fst, y226.snd.snd.snd.snd.snd.fst,
              y226.snd.snd.snd.snd.snd.snd.fst, y226.snd.snd.snd.snd.snd.snd.snd.fst, y226.snd.snd.snd.snd.snd.snd.snd.snd.fst, ()))
    else
      bif decide ((0 : Int) ≤ x.snd.snd.snd.snd.fst) && decide (x.snd.snd.snd.snd.fst < (↑x.fst : Int)) then
        x.snd.snd.snd.snd.snd.snd.snd.snd.fst[(0 : Nat) + x.snd.snd.snd.snd.fst.toNat]?.bind fun y231 =>
          bif decide (y231 ≥ (0 : Int)) then
            (j16_91
                  (x.fst, x.snd.fst, x.snd.snd.fst, x.snd.snd.snd.fst, x.snd.snd.snd.snd.fst, x.snd.snd.snd.snd.snd.fst,
                    x.snd.snd.snd.snd.snd.snd.fst, x.snd.snd.snd.snd.snd.snd.snd.fst, x.snd.snd.snd.snd.snd.snd.snd.snd.fst, ())).bind
              fun y227 =>
              some
                (Sum.inl
                  (y227.fst, y227.snd.fst, y227.snd.snd.fst, y227.snd.snd.snd.fst, y227.snd.snd.snd.snd.fst, y227.snd.snd.snd.snd.snd.fst,
                    y227.snd.snd.snd.snd.snd.snd.fst, y227.snd.snd.snd.snd.snd.snd.snd.fst, y227.snd.snd.snd.snd.snd.snd.snd.snd.fst, ()))
          else
            bif decide ((0 : Int) ≤ x.snd.snd.snd.snd.fst) && decide (x.snd.snd.snd.snd.fst < (↑x.fst : Int)) then
              x.snd.snd.snd.snd.snd.snd.snd.snd.fst[(0 : Nat) + x.snd.snd.snd.snd.fst.toNat]?.bind fun _x =>
                (l16_12
                      (x.fst, x.snd.fst, (1 : Nat), x.snd.snd.fst, x.snd.snd.snd.fst, x.snd.snd.snd.snd.fst, x.snd.snd.snd.snd.snd.fst,
                        x.snd.snd.snd.snd.snd.snd.fst, x.snd.snd.snd.snd.snd.snd.snd.fst,
                        x.snd.snd.snd.snd.snd.snd.snd.snd.fst.set ((0 : Nat) + x.snd.snd.snd.snd.fst.toNat) x.snd.fst,
                        [x.snd.snd.snd.snd.fst], ())).bind
                  fun y229 =>
                  (j16_91
                        (y229.fst, IntKind.i64.wrap (y229.snd.fst + (1 : Int)), y229.snd.snd.fst, y229.snd.snd.snd.fst,
                          y229.snd.snd.snd.snd.fst, y229.snd.snd.snd.snd.snd.fst, y229.snd.snd.snd.snd.snd.snd.fst,
                          y229.snd.snd.snd.snd.snd.snd.snd.fst, y229.snd.snd.snd.snd.snd.snd.snd.snd.fst, ())).bind
                    fun y228 =>
                    some
                      (Sum.inl
                        (y228.fst, y228.snd.fst, y228.snd.snd.fst, y228.snd.snd.snd.fst, y228.snd.snd.snd.snd.fst,
                          y228.snd.snd.snd.snd.snd.fst, y228.snd.snd.snd.snd.snd.snd.fst, y228.snd.snd.snd.snd.snd.snd.snd.fst,
                          y228.snd.snd.snd.snd.snd.snd.snd.snd.fst, ()))
            else none
      else none
else some (Sum.inr (x.fst, x.snd.snd.snd.snd.snd.snd.snd.snd.fst, ()))
theorem r16_6_run0 (v0 : Nat) (v1 : Int) (v2 : List Int) (v3 : Int) (v4 : Int) (v5 : Int) (v6 : Int) (v7 : List Int) (v8 : List Int) : roundK tC G16 (look [(12, W16_12), (91, W16_91)]) c16_6 p16_6 (v0, v1, v2, v3, v4, v5, v6, v7, v8, ()) = r16_6 (v0, v1, v2, v3, v4, v5, v6, v7, v8, ()) := by kernel_rfl
theorem r16_6_run (x : Nat × Int × List Int × Int × Int × Int × Int × List Int × List Int × Unit) : roundK tC G16 (look [(12, W16_12), (91, W16_91)]) c16_6 p16_6 x = r16_6 x := r16_6_run0 x.1 x.2.1 x.2.2.1 x.2.2.2.1 x.2.2.2.2.1 x.2.2.2.2.2.1 x.2.2.2.2.2.2.1 x.2.2.2.2.2.2.2.1 x.2.2.2.2.2.2.2.2.1
noncomputable def l16_6 (x : Nat × Int × List Int × Int × Int × Int × Int × List Int × List Int × Unit) : Option (Nat × List Int × Unit) := iterO r16_6 x
noncomputable def W16_6 : LF tC := loopW tC p16_6 2 l16_6
theorem W16_6_ok : keyed 6 (bodyOf Tryd.f16) = [.block 2 (.loop c16_6)] ∧ ∀ n, n ≤ 0 → Snd tC n (.block 2 (.loop c16_6)) W16_6.k := ⟨by kernel_rfl, fun n hn => loopW_ok (p := p16_6) (id := 2) Y16 (lam_le (lam_cons W16_12_ok (lam_cons W16_91_ok lam_nil)) n hn) hn r16_6_run⟩
def S16 : FS := ⟨[[.v, .v, .s 5]], [⟨[.one (.agg [.int .i64, .int .i64, .imm 5])], []⟩], [⟨[.tup [.one (.sl 0), .one (.int .i64)]], [.arr 3]⟩], [[.v], [.v]], [(2, 3)]⟩
noncomputable def f16 (x : Int × Int × List Int × Unit) : Option (Nat × Int × List Int × Unit) :=
  (f20 (x.fst, x.snd.fst, x.snd.snd.fst, ())).bind fun y240 =>
  bif y240.fst != (0 : Int) then some ((0 : Nat), y240.fst, [], ())
  else
    bif
        true && decide ((↑x.snd.snd.fst.length : Int) ≤ (↑x.snd.snd.fst.length : Int)) &&
            decide ((↑x.snd.snd.fst.length : Int) * (8 : Int) ≤ (140737488355328 : Int)) &&
          decide ((↑x.snd.snd.fst.length : Int) ≤ (140737488355328 : Int)) then
      (l16_0
            ((↑x.snd.snd.fst.length : Int).toNat, (↑(↑x.snd.snd.fst.length : Int).toNat : Int), (0 : Int), x.fst, x.snd.fst, x.snd.snd.fst,
              List.replicate (↑x.snd.snd.fst.length : Int).toNat (0 : Int), ())).bind
        fun y239 =>
        (l16_6
              (y239.fst, (0 : Int), y239.snd.snd.snd.fst, (↑y239.snd.snd.snd.fst.length : Int), (0 : Int), y239.snd.fst, y239.snd.snd.fst,
                y239.snd.snd.snd.fst, y239.snd.snd.snd.snd.fst, ())).bind
          fun y238 => some (y238.fst, (0 : Int), y238.snd.fst, ())
    else none
noncomputable def F16 : CF tC := mkF tC S16 f16
theorem f16_run : ∀ a, fnS tC G16 (look [(0, W16_0), (6, W16_6)]) Tryd.f16 S16 a = f16 a := fun a => by kernel_rfl
theorem F16_ok : CFOK tC 16 F16 := mkF_ok Y16 (fn := Tryd.f16) (body := bodyOf Tryd.f16) (by kernel_rfl) (by kernel_rfl) (by kernel_rfl) (m := 0) rfl (lam_le (lam_cons W16_0_ok (lam_cons W16_6_ok lam_nil))) f16_run

/-! floorDiv -/
noncomputable def G34 : FuncId → Option (CF tC) := look []
theorem Y34 : SysN tC G34 := (sys_nil tC_ok tC_eq)
def S34 : FS := ⟨[[.v]], [⟨[vI], []⟩], [⟨[vI], []⟩], [[.v]], []⟩
def f34 (n1 : Int) : Int :=
  n1.fdiv (64 : Int)
noncomputable def F34 : CF tC := mkF tC S34 (fun a => some ((f34 a.1), ()))
def h34 (r : Int) : Option (altTy tE S34.outs) := some (r, ())
theorem f34_run : ∀ a, fnS tC G34 (look []) Tryd.f34 S34 a = (fun a => some ((f34 a.1), ())) a := fun a => by
  have key : ∀ (n1 : Int), (h34 (n1.fdiv (64 : Int))) = h34 (f34 n1) := by
    intros
    unfold f34
    repeat' first | rfl | refine cond_h (g := h34) ?_ ?_
  exact Eq.trans (by kernel_rfl) (key a.1)
theorem F34_ok : CFOK tC 34 F34 := mkF_ok Y34 (fn := Tryd.f34) (body := bodyOf Tryd.f34) (by kernel_rfl) (by kernel_rfl) (by kernel_rfl) (m := 0) rfl (lam_le lam_nil) f34_run

/-! floor.inside -/
noncomputable def G38 : FuncId → Option (CF tC) := look []
theorem Y38 : SysN tC G38 := (sys_nil tC_ok tC_eq)
def S38 : FS := ⟨[[.v, .v, .s 5], [.v, .v]], [⟨[.one (.agg [.int .i64, .int .i64, .imm 5]), .one (.agg [.int .i64, .int .i64])], []⟩], [⟨[vO], []⟩], [[.v]], []⟩
def f38 (n1 : Int) (n2 : Int) (_l3 : List Int) (n4 : Int) (n5 : Int) : Bool :=
  bif decide (n4 ≥ (0 : Int)) then
  bif decide (n5 ≥ (0 : Int)) then
    bif decide (n4 ≤ IntKind.i64.wrap (n1 * (64 : Int))) then decide (n5 ≤ IntKind.i64.wrap (n2 * (64 : Int))) else false
  else false
else false
noncomputable def F38 : CF tC := mkF tC S38 (fun a => some ((f38 a.1 a.2.1 a.2.2.1 a.2.2.2.1 a.2.2.2.2.1), ()))
def h38 (r : Bool) : Option (altTy tE S38.outs) := some (r, ())
theorem f38_run : ∀ a, fnS tC G38 (look []) Tryd.f38 S38 a = (fun a => some ((f38 a.1 a.2.1 a.2.2.1 a.2.2.2.1 a.2.2.2.2.1), ())) a := fun a => by
  have key : ∀ (n1 : Int) (n2 : Int) (l3 : List Int) (n4 : Int) (n5 : Int), (bif decide (n4 ≥ (0 : Int)) then
  bif decide (n5 ≥ (0 : Int)) then
    bif decide (n4 ≤ IntKind.i64.wrap (n1 * (64 : Int))) then h38 (decide (n5 ≤ IntKind.i64.wrap (n2 * (64 : Int)))) else h38 false
  else h38 false
else h38 false) = h38 (f38 n1 n2 l3 n4 n5) := by
    intros
    unfold f38
    repeat' first | rfl | refine cond_h (g := h38) ?_ ?_
  exact Eq.trans (by kernel_rfl) (key a.1 a.2.1 a.2.2.1 a.2.2.2.1 a.2.2.2.2.1)
theorem F38_ok : CFOK tC 38 F38 := mkF_ok Y38 (fn := Tryd.f38) (body := bodyOf Tryd.f38) (by kernel_rfl) (by kernel_rfl) (by kernel_rfl) (m := 0) rfl (lam_le lam_nil) f38_run

/-! plan.within -/
noncomputable def G52 : FuncId → Option (CF tC) := look []
theorem Y52 : SysN tC G52 := (sys_nil tC_ok tC_eq)
def S52 : FS := ⟨[[.v], [.v]], [⟨[vI, vI], []⟩], [⟨[vO], []⟩], [[.v]], []⟩
def f52 (n1 : Int) (n2 : Int) : Bool :=
  bif decide (n1 ≥ IntKind.i64.wrap ((0 : Int) - n2)) then decide (n1 ≤ n2) else false
noncomputable def F52 : CF tC := mkF tC S52 (fun a => some ((f52 a.1 a.2.1), ()))
def h52 (r : Bool) : Option (altTy tE S52.outs) := some (r, ())
theorem f52_run : ∀ a, fnS tC G52 (look []) Tryd.f52 S52 a = (fun a => some ((f52 a.1 a.2.1), ())) a := fun a => by
  have key : ∀ (n1 : Int) (n2 : Int), (bif decide (n1 ≥ IntKind.i64.wrap ((0 : Int) - n2)) then h52 (decide (n1 ≤ n2)) else h52 false) = h52 (f52 n1 n2) := by
    intros
    unfold f52
    repeat' first | rfl | refine cond_h (g := h52) ?_ ?_
  exact Eq.trans (by kernel_rfl) (key a.1 a.2.1)
theorem F52_ok : CFOK tC 52 F52 := mkF_ok Y52 (fn := Tryd.f52) (body := bodyOf Tryd.f52) (by kernel_rfl) (by kernel_rfl) (by kernel_rfl) (m := 0) rfl (lam_le lam_nil) f52_run

/-! plan.validPoint -/
noncomputable def G50 : FuncId → Option (CF tC) := look [(52, F52)]
theorem Y50 : SysN tC G50 := (sys_cons F52_ok (mkF_nat _ _) (sys_nil tC_ok tC_eq))
def S50 : FS := ⟨[[.v, .v]], [⟨[.one (.agg [.int .i64, .int .i64])], []⟩], [⟨[vO], []⟩], [[.v]], []⟩
def f50 (n1 : Int) (n2 : Int) : Bool :=
  bif f52 n1 (1048576 : Int) then f52 n2 (1048576 : Int) else false
noncomputable def F50 : CF tC := mkF tC S50 (fun a => some ((f50 a.1 a.2.1), ()))
def h50 (r : Bool) : Option (altTy tE S50.outs) := some (r, ())
theorem f50_run : ∀ a, fnS tC G50 (look []) Tryd.f50 S50 a = (fun a => some ((f50 a.1 a.2.1), ())) a := fun a => by
  have key : ∀ (n1 : Int) (n2 : Int), (bif f52 n1 (1048576 : Int) then h50 (f52 n2 (1048576 : Int)) else h50 false) = h50 (f50 n1 n2) := by
    intros
    unfold f50
    repeat' first | rfl | refine cond_h (g := h50) ?_ ?_
  exact Eq.trans (by kernel_rfl) (key a.1 a.2.1)
theorem F50_ok : CFOK tC 50 F50 := mkF_ok Y50 (fn := Tryd.f50) (body := bodyOf Tryd.f50) (by kernel_rfl) (by kernel_rfl) (by kernel_rfl) (m := 0) rfl (lam_le lam_nil) f50_run

/-! plan.down -/
noncomputable def G51 : FuncId → Option (CF tC) := look []
theorem Y51 : SysN tC G51 := (sys_nil tC_ok tC_eq)
noncomputable def c51_13 : Code := subCode (bodyOf Tryd.f51) 13
def p51_13 : PS := ⟨0, [5], ⟨vBs 5 ++ [vI] ++ vBs 10, []⟩, [⟨.ret, [4], ⟨vBs 4 ++ [vI] ++ vBs 11, []⟩, []⟩], []⟩
noncomputable def j51_13 (x : Int × Unit) : Option (Int × Unit) :=
  some (x.fst, ())
theorem j51_13_run0 (v0 : Int) : pieceK tC G51 (look []) c51_13 p51_13 (v0, ()) = j51_13 (v0, ()) := by kernel_rfl
theorem j51_13_run (x : Int × Unit) : pieceK tC G51 (look []) c51_13 p51_13 x = j51_13 x := j51_13_run0 x.1
noncomputable def W51_13 : LF tC := cutLF tC p51_13 j51_13
theorem W51_13_ok : keyed 13 (bodyOf Tryd.f51) = [c51_13] ∧ ∀ n, n ≤ 0 → Snd tC n c51_13 W51_13.k := ⟨by kernel_rfl, fun n hn => cut_ok (p := p51_13) Y51 (lam_le lam_nil n hn) hn j51_13_run⟩
def S51 : FS := ⟨[[.v], [.v]], [⟨[vI, vI], []⟩], [⟨[vI], []⟩], [[.v]], []⟩
noncomputable def f51 (x : Int × Int × Unit) : Option (Int × Unit) :=
  bif x.snd.fst == (0 : Int) then none
else
  bif x.snd.fst == (0 : Int) then none
  else
    bif decide (x.fst.tmod x.snd.fst < (0 : Int)) then
      (j51_13 (IntKind.i64.wrap (IntKind.i64.wrap (x.fst.tdiv x.snd.fst) - (1 : Int)), ())).bind fun y8 => some (y8.fst, ())
    else (j51_13 (IntKind.i64.wrap (x.fst.tdiv x.snd.fst), ())).bind fun y9 => some (y9.fst, ())
noncomputable def F51 : CF tC := mkF tC S51 f51
theorem f51_run : ∀ a, fnS tC G51 (look [(13, W51_13)]) Tryd.f51 S51 a = f51 a := fun a => by kernel_rfl
theorem F51_ok : CFOK tC 51 F51 := mkF_ok Y51 (fn := Tryd.f51) (body := bodyOf Tryd.f51) (by kernel_rfl) (by kernel_rfl) (by kernel_rfl) (m := 0) rfl (lam_le (lam_cons W51_13_ok lam_nil)) f51_run

/-! plan.square -/
noncomputable def G53 : FuncId → Option (CF tC) := look []
theorem Y53 : SysN tC G53 := (sys_nil tC_ok tC_eq)
def S53 : FS := ⟨[[.v, .v]], [⟨[.one (.agg [.int .i64, .int .i64])], []⟩], [⟨[.one (.agg [.int .i64, .int .i64, .int .i64, .int .i64])], []⟩], [[.v, .v, .v, .v]], []⟩
def f53 (n1 : Int) (n2 : Int) : Int × Int × Int × Int :=
  (IntKind.i64.wrap (n1 * (64 : Int)), IntKind.i64.wrap (n2 * (64 : Int)), IntKind.i64.wrap (IntKind.i64.wrap (n1 * (64 : Int)) + (64 : Int)),
  IntKind.i64.wrap (IntKind.i64.wrap (n2 * (64 : Int)) + (64 : Int)))
noncomputable def F53 : CF tC := mkF tC S53 (fun a => some ((f53 a.1 a.2.1).1, (f53 a.1 a.2.1).2.1, (f53 a.1 a.2.1).2.2.1, (f53 a.1 a.2.1).2.2.2, ()))
def h53 (r : Int × Int × Int × Int) : Option (altTy tE S53.outs) := some (r.1, r.2.1, r.2.2.1, r.2.2.2, ())
theorem f53_run : ∀ a, fnS tC G53 (look []) Tryd.f53 S53 a = (fun a => some ((f53 a.1 a.2.1).1, (f53 a.1 a.2.1).2.1, (f53 a.1 a.2.1).2.2.1, (f53 a.1 a.2.1).2.2.2, ())) a := fun a => by
  have key : ∀ (n1 : Int) (n2 : Int), (h53
  (IntKind.i64.wrap (n1 * (64 : Int)), IntKind.i64.wrap (n2 * (64 : Int)),
    IntKind.i64.wrap (IntKind.i64.wrap (n1 * (64 : Int)) + (64 : Int)), IntKind.i64.wrap (IntKind.i64.wrap (n2 * (64 : Int)) + (64 : Int)))) = h53 (f53 n1 n2) := by
    intros
    unfold f53
    repeat' first | rfl | refine cond_h (g := h53) ?_ ?_
  exact Eq.trans (by kernel_rfl) (key a.1 a.2.1)
theorem F53_ok : CFOK tC 53 F53 := mkF_ok Y53 (fn := Tryd.f53) (body := bodyOf Tryd.f53) (by kernel_rfl) (by kernel_rfl) (by kernel_rfl) (m := 0) rfl (lam_le lam_nil) f53_run

/-! plan.Of -/
noncomputable def G33 : FuncId → Option (CF tC) := look [(50, F50), (51, F51)]
theorem Y33 : SysN tC G33 := (sys_cons F50_ok (mkF_nat _ _) (sys_cons F51_ok (mkF_nat _ _) (sys_nil tC_ok tC_eq)))
def S33 : FS := ⟨[[.v, .v]], [⟨[.one (.agg [.int .i64, .int .i64])], []⟩], [⟨[.tup [.agg [.int .i64, .int .i64], .one .bool]], []⟩], [[.v, .v], [.v]], []⟩
noncomputable def f33 (x : Int × Int × Unit) : Option (Int × Int × Bool × Unit) :=
  bif !f50 x.fst x.snd.fst then some ((0 : Int), (0 : Int), false, ())
else (f51 (x.fst, (64 : Int), ())).bind fun y9 => (f51 (x.snd.fst, (64 : Int), ())).bind fun y8 => some (y9.fst, y8.fst, true, ())
noncomputable def F33 : CF tC := mkF tC S33 f33
theorem f33_run : ∀ a, fnS tC G33 (look []) Tryd.f33 S33 a = f33 a := fun a => by kernel_rfl
theorem F33_ok : CFOK tC 33 F33 := mkF_ok Y33 (fn := Tryd.f33) (body := bodyOf Tryd.f33) (by kernel_rfl) (by kernel_rfl) (by kernel_rfl) (m := 0) rfl (lam_le lam_nil) f33_run

/-! plan.Square -/
noncomputable def G35 : FuncId → Option (CF tC) := look [(52, F52), (53, F53)]
theorem Y35 : SysN tC G35 := (sys_cons F52_ok (mkF_nat _ _) (sys_cons F53_ok (mkF_nat _ _) (sys_nil tC_ok tC_eq)))
def S35 : FS := ⟨[[.v, .v]], [⟨[.one (.agg [.int .i64, .int .i64])], []⟩], [⟨[.tup [.agg [.int .i64, .int .i64, .int .i64, .int .i64], .one .bool]], []⟩], [[.v, .v, .v, .v], [.v]], []⟩
def f35 (n1 : Int) (n2 : Int) : Int × Int × Int × Int × Bool :=
  bif !f52 n1 (16384 : Int) then ((0 : Int), (0 : Int), (0 : Int), (0 : Int), false)
else
  bif !f52 n2 (16384 : Int) then ((0 : Int), (0 : Int), (0 : Int), (0 : Int), false)
  else ((f53 n1 n2).fst, (f53 n1 n2).snd.fst, (f53 n1 n2).snd.snd.fst, (f53 n1 n2).snd.snd.snd, true)
noncomputable def F35 : CF tC := mkF tC S35 (fun a => some ((f35 a.1 a.2.1).1, (f35 a.1 a.2.1).2.1, (f35 a.1 a.2.1).2.2.1, (f35 a.1 a.2.1).2.2.2.1, (f35 a.1 a.2.1).2.2.2.2, ()))
def h35 (r : Int × Int × Int × Int × Bool) : Option (altTy tE S35.outs) := some (r.1, r.2.1, r.2.2.1, r.2.2.2.1, r.2.2.2.2, ())
theorem f35_run : ∀ a, fnS tC G35 (look []) Tryd.f35 S35 a = (fun a => some ((f35 a.1 a.2.1).1, (f35 a.1 a.2.1).2.1, (f35 a.1 a.2.1).2.2.1, (f35 a.1 a.2.1).2.2.2.1, (f35 a.1 a.2.1).2.2.2.2, ())) a := fun a => by
  have key : ∀ (n1 : Int) (n2 : Int), (bif !f52 n1 (16384 : Int) then h35 ((0 : Int), (0 : Int), (0 : Int), (0 : Int), false)
else
  bif !f52 n2 (16384 : Int) then h35 ((0 : Int), (0 : Int), (0 : Int), (0 : Int), false)
  else h35 ((f53 n1 n2).fst, (f53 n1 n2).snd.fst, (f53 n1 n2).snd.snd.fst, (f53 n1 n2).snd.snd.snd, true)) = h35 (f35 n1 n2) := by
    intros
    unfold f35
    repeat' first | rfl | refine cond_h (g := h35) ?_ ?_
  exact Eq.trans (by kernel_rfl) (key a.1 a.2.1)
theorem F35_ok : CFOK tC 35 F35 := mkF_ok Y35 (fn := Tryd.f35) (body := bodyOf Tryd.f35) (by kernel_rfl) (by kernel_rfl) (by kernel_rfl) (m := 0) rfl (lam_le lam_nil) f35_run

/-! segment.near -/
noncomputable def G65 : FuncId → Option (CF tC) := look []
theorem Y65 : SysN tC G65 := (sys_nil tC_ok tC_eq)
def S65 : FS := ⟨[[.v]], [⟨[vI], []⟩], [⟨[vO], []⟩], [[.v]], []⟩
def f65 (n1 : Int) : Bool :=
  bif decide (n1 ≥ (-2097152 : Int)) then decide (n1 ≤ (2097152 : Int)) else false
noncomputable def F65 : CF tC := mkF tC S65 (fun a => some ((f65 a.1), ()))
def h65 (r : Bool) : Option (altTy tE S65.outs) := some (r, ())
theorem f65_run : ∀ a, fnS tC G65 (look []) Tryd.f65 S65 a = (fun a => some ((f65 a.1), ())) a := fun a => by
  have key : ∀ (n1 : Int), (bif decide (n1 ≥ (-2097152 : Int)) then h65 (decide (n1 ≤ (2097152 : Int))) else h65 false) = h65 (f65 n1) := by
    intros
    unfold f65
    repeat' first | rfl | refine cond_h (g := h65) ?_ ?_
  exact Eq.trans (by kernel_rfl) (key a.1)
theorem F65_ok : CFOK tC 65 F65 := mkF_ok Y65 (fn := Tryd.f65) (body := bodyOf Tryd.f65) (by kernel_rfl) (by kernel_rfl) (by kernel_rfl) (m := 0) rfl (lam_le lam_nil) f65_run

/-! segment.validPoint -/
noncomputable def G54 : FuncId → Option (CF tC) := look [(65, F65)]
theorem Y54 : SysN tC G54 := (sys_cons F65_ok (mkF_nat _ _) (sys_nil tC_ok tC_eq))
def S54 : FS := ⟨[[.v, .v]], [⟨[.one (.agg [.int .i64, .int .i64])], []⟩], [⟨[vO], []⟩], [[.v]], []⟩
def f54 (n1 : Int) (n2 : Int) : Bool :=
  bif f65 n1 then f65 n2 else false
noncomputable def F54 : CF tC := mkF tC S54 (fun a => some ((f54 a.1 a.2.1), ()))
def h54 (r : Bool) : Option (altTy tE S54.outs) := some (r, ())
theorem f54_run : ∀ a, fnS tC G54 (look []) Tryd.f54 S54 a = (fun a => some ((f54 a.1 a.2.1), ())) a := fun a => by
  have key : ∀ (n1 : Int) (n2 : Int), (bif f65 n1 then h54 (f65 n2) else h54 false) = h54 (f54 n1 n2) := by
    intros
    unfold f54
    repeat' first | rfl | refine cond_h (g := h54) ?_ ?_
  exact Eq.trans (by kernel_rfl) (key a.1 a.2.1)
theorem F54_ok : CFOK tC 54 F54 := mkF_ok Y54 (fn := Tryd.f54) (body := bodyOf Tryd.f54) (by kernel_rfl) (by kernel_rfl) (by kernel_rfl) (m := 0) rfl (lam_le lam_nil) f54_run

/-! segment.ValidRect -/
noncomputable def G55 : FuncId → Option (CF tC) := look [(65, F65)]
theorem Y55 : SysN tC G55 := (sys_cons F65_ok (mkF_nat _ _) (sys_nil tC_ok tC_eq))
def S55 : FS := ⟨[[.v, .v, .v, .v]], [⟨[.one (.agg [.int .i64, .int .i64, .int .i64, .int .i64])], []⟩], [⟨[vO], []⟩], [[.v]], []⟩
def f55 (n1 : Int) (n2 : Int) (n3 : Int) (n4 : Int) : Bool :=
  bif f65 n1 then
  bif f65 n2 then bif f65 n3 then bif f65 n4 then bif decide (n1 ≤ n3) then decide (n2 ≤ n4) else false else false else false else false
else false
noncomputable def F55 : CF tC := mkF tC S55 (fun a => some ((f55 a.1 a.2.1 a.2.2.1 a.2.2.2.1), ()))
def h55 (r : Bool) : Option (altTy tE S55.outs) := some (r, ())
theorem f55_run : ∀ a, fnS tC G55 (look []) Tryd.f55 S55 a = (fun a => some ((f55 a.1 a.2.1 a.2.2.1 a.2.2.2.1), ())) a := fun a => by
  have key : ∀ (n1 : Int) (n2 : Int) (n3 : Int) (n4 : Int), (bif f65 n1 then
  bif f65 n2 then
    bif f65 n3 then bif f65 n4 then bif decide (n1 ≤ n3) then h55 (decide (n2 ≤ n4)) else h55 false else h55 false else h55 false
  else h55 false
else h55 false) = h55 (f55 n1 n2 n3 n4) := by
    intros
    unfold f55
    repeat' first | rfl | refine cond_h (g := h55) ?_ ?_
  exact Eq.trans (by kernel_rfl) (key a.1 a.2.1 a.2.2.1 a.2.2.2.1)
theorem F55_ok : CFOK tC 55 F55 := mkF_ok Y55 (fn := Tryd.f55) (body := bodyOf Tryd.f55) (by kernel_rfl) (by kernel_rfl) (by kernel_rfl) (m := 0) rfl (lam_le lam_nil) f55_run

/-! segment.beside -/
noncomputable def G56 : FuncId → Option (CF tC) := look []
theorem Y56 : SysN tC G56 := (sys_nil tC_ok tC_eq)
def S56 : FS := ⟨[[.v], [.v], [.v]], [⟨[vI, vI, vI], []⟩], [⟨[vI], []⟩], [[.v]], []⟩
def f56 (n1 : Int) (n2 : Int) (n3 : Int) : Int :=
  bif
    decide
      (IntKind.i64.wrap (n1 - n3) > bif decide ((0 : Int) > IntKind.i64.wrap (n2 - n1)) then (0 : Int) else IntKind.i64.wrap (n2 - n1)) then
  IntKind.i64.wrap (n1 - n3)
else bif decide ((0 : Int) > IntKind.i64.wrap (n2 - n1)) then (0 : Int) else IntKind.i64.wrap (n2 - n1)
noncomputable def F56 : CF tC := mkF tC S56 (fun a => some ((f56 a.1 a.2.1 a.2.2.1), ()))
def h56 (r : Int) : Option (altTy tE S56.outs) := some (r, ())
theorem f56_run : ∀ a, fnS tC G56 (look []) Tryd.f56 S56 a = (fun a => some ((f56 a.1 a.2.1 a.2.2.1), ())) a := fun a => by
  have key : ∀ (n1 : Int) (n2 : Int) (n3 : Int), (h56
  (bif
      decide
        (IntKind.i64.wrap (n1 - n3) >
          bif decide ((0 : Int) > IntKind.i64.wrap (n2 - n1)) then (0 : Int) else IntKind.i64.wrap (n2 - n1)) then
    IntKind.i64.wrap (n1 - n3)
  else bif decide ((0 : Int) > IntKind.i64.wrap (n2 - n1)) then (0 : Int) else IntKind.i64.wrap (n2 - n1))) = h56 (f56 n1 n2 n3) := by
    intros
    unfold f56
    repeat' first | rfl | refine cond_h (g := h56) ?_ ?_
  exact Eq.trans (by kernel_rfl) (key a.1 a.2.1 a.2.2.1)
theorem F56_ok : CFOK tC 56 F56 := mkF_ok Y56 (fn := Tryd.f56) (body := bodyOf Tryd.f56) (by kernel_rfl) (by kernel_rfl) (by kernel_rfl) (m := 0) rfl (lam_le lam_nil) f56_run

/-! segment.Gap -/
noncomputable def G37 : FuncId → Option (CF tC) := look [(54, F54), (55, F55), (56, F56)]
theorem Y37 : SysN tC G37 := (sys_cons F54_ok (mkF_nat _ _) (sys_cons F55_ok (mkF_nat _ _) (sys_cons F56_ok (mkF_nat _ _) (sys_nil tC_ok tC_eq))))
def S37 : FS := ⟨[[.v, .v], [.v, .v, .v, .v]], [⟨[.one (.agg [.int .i64, .int .i64]), .one (.agg [.int .i64, .int .i64, .int .i64, .int .i64])], []⟩], [⟨[vI], []⟩], [[.v]], []⟩
def f37 (n1 : Int) (n2 : Int) (n3 : Int) (n4 : Int) (n5 : Int) (n6 : Int) : Int :=
  bif !f54 n1 n2 then (0 : Int)
else
  bif !f55 n3 n4 n5 n6 then (0 : Int)
  else IntKind.i64.wrap (IntKind.i64.wrap (f56 n1 n3 n5 * f56 n1 n3 n5) + IntKind.i64.wrap (f56 n2 n4 n6 * f56 n2 n4 n6))
noncomputable def F37 : CF tC := mkF tC S37 (fun a => some ((f37 a.1 a.2.1 a.2.2.1 a.2.2.2.1 a.2.2.2.2.1 a.2.2.2.2.2.1), ()))
def h37 (r : Int) : Option (altTy tE S37.outs) := some (r, ())
theorem f37_run : ∀ a, fnS tC G37 (look []) Tryd.f37 S37 a = (fun a => some ((f37 a.1 a.2.1 a.2.2.1 a.2.2.2.1 a.2.2.2.2.1 a.2.2.2.2.2.1), ())) a := fun a => by
  have key : ∀ (n1 : Int) (n2 : Int) (n3 : Int) (n4 : Int) (n5 : Int) (n6 : Int), (bif !f54 n1 n2 then h37 (0 : Int)
else
  bif !f55 n3 n4 n5 n6 then h37 (0 : Int)
  else h37 (IntKind.i64.wrap (IntKind.i64.wrap (f56 n1 n3 n5 * f56 n1 n3 n5) + IntKind.i64.wrap (f56 n2 n4 n6 * f56 n2 n4 n6)))) = h37 (f37 n1 n2 n3 n4 n5 n6) := by
    intros
    unfold f37
    repeat' first | rfl | refine cond_h (g := h37) ?_ ?_
  exact Eq.trans (by kernel_rfl) (key a.1 a.2.1 a.2.2.1 a.2.2.2.1 a.2.2.2.2.1 a.2.2.2.2.2.1)
theorem F37_ok : CFOK tC 37 F37 := mkF_ok Y37 (fn := Tryd.f37) (body := bodyOf Tryd.f37) (by kernel_rfl) (by kernel_rfl) (by kernel_rfl) (m := 0) rfl (lam_le lam_nil) f37_run

/-! floor.Fits -/
noncomputable def G14 : FuncId → Option (CF tC) := look [(33, F33), (20, F20), (34, F34), (35, F35), (36, F36), (37, F37), (38, F38)]
theorem Y14 : SysN tC G14 := (sys_cons F33_ok (mkF_nat _ _) (sys_cons F20_ok (mkF_nat _ _) (sys_cons F34_ok (mkF_nat _ _) (sys_cons F35_ok (mkF_nat _ _) (sys_cons F36_ok (mkF_nat _ _) (sys_cons F37_ok (mkF_nat _ _) (sys_cons F38_ok (mkF_nat _ _) (sys_nil tC_ok tC_eq))))))))
noncomputable def c14_28 : Code := subCode (loopOf (loopOf (bodyOf Tryd.f14) 0) 2) 28
def p14_28 : PS := ⟨0, [2, 3, 4, 9, 10], ⟨[vB, vB, vI, .one (.one (.ptr 0 0 0)), .one (.one (.ptr 1 0 0))] ++ vBs 4 ++ [vI, vI] ++ vBs 82, [.box [.int .i64, .int .i64, .imm 5], .box [.int .i64, .int .i64]]⟩, [⟨.normal, [2, 3, 4, 9, 10], ⟨[vB, vB, vI, .one (.one (.ptr 0 0 0)), .one (.one (.ptr 1 0 0))] ++ vBs 4 ++ [vI, vI] ++ vBs 82, [.box [.int .i64, .int .i64, .imm 5], .box [.int .i64, .int .i64]]⟩, []⟩], []⟩
noncomputable def j14_28 (x : Int × Int × Int × Int × Int × List Int × Int × Int × Unit) : Option (Int × Int × Int × Int × Int × List Int × Int × Int × Unit) :=
  some
  (x.fst, x.snd.fst, IntKind.i64.wrap (x.snd.snd.fst + (1 : Int)), x.snd.snd.snd.fst, x.snd.snd.snd.snd.fst, x.snd.snd.snd.snd.snd.fst,
    x.snd.snd.snd.snd.snd.snd.fst, x.snd.snd.snd.snd.snd.snd.snd.fst, ())
theorem j14_28_run0 (v0 : Int) (v1 : Int) (v2 : Int) (v3 : Int) (v4 : Int) (v5 : List Int) (v6 : Int) (v7 : Int) : pieceK tC G14 (look []) c14_28 p14_28 (v0, v1, v2, v3, v4, v5, v6, v7, ()) = j14_28 (v0, v1, v2, v3, v4, v5, v6, v7, ()) := by kernel_rfl
theorem j14_28_run (x : Int × Int × Int × Int × Int × List Int × Int × Int × Unit) : pieceK tC G14 (look []) c14_28 p14_28 x = j14_28 x := j14_28_run0 x.1 x.2.1 x.2.2.1 x.2.2.2.1 x.2.2.2.2.1 x.2.2.2.2.2.1 x.2.2.2.2.2.2.1 x.2.2.2.2.2.2.2.1
noncomputable def W14_28 : LF tC := cutLF tC p14_28 j14_28
theorem W14_28_ok : keyed 28 (loopOf (loopOf (bodyOf Tryd.f14) 0) 2) = [c14_28] ∧ ∀ n, n ≤ 0 → Snd tC n c14_28 W14_28.k := ⟨by kernel_rfl, fun n hn => cut_ok (p := p14_28) Y14 (lam_le lam_nil n hn) hn j14_28_run⟩
noncomputable def c14_6 : Code := loopOf (loopOf (bodyOf Tryd.f14) 0) 2
def p14_6 : LS := ⟨0, [2, 3, 4, 9, 10], ⟨[vB, vB, vI, .one (.one (.ptr 0 0 0)), .one (.one (.ptr 1 0 0))] ++ vBs 4 ++ [vI, vI] ++ vBs 82, [.box [.int .i64, .int .i64, .imm 5], .box [.int .i64, .int .i64]]⟩, [⟨.ret, [6], ⟨vBs 6 ++ [vO] ++ vBs 86, []⟩, []⟩, ⟨.exit 2, [2, 3, 4, 9], ⟨[vB, vB, vI, .one (.one (.ptr 0 0 0)), .one (.one (.ptr 1 0 0))] ++ vBs 4 ++ [vI] ++ vBs 83, [.box [.int .i64, .int .i64, .imm 5], .box [.int .i64, .int .i64]]⟩, []⟩], []⟩
noncomputable def r14_6 (x : Int × Int × Int × Int × Int × List Int × Int × Int × Unit) : Option (Int × Int × Int × Int × Int × List Int × Int × Int × Unit ⊕ Bool × Unit ⊕ Int × Int × Int × Int × List Int × Int × Int × Unit) :=
  bif decide (x.snd.snd.fst ≤ IntKind.i64.wrap (f34 (IntKind.i64.wrap (x.snd.snd.snd.snd.snd.snd.fst + x.fst)) + (1 : Int))) then
  bif (f35 x.snd.snd.fst x.snd.fst).snd.snd.snd.snd then
    (f36 (x.snd.snd.snd.fst, x.snd.snd.snd.snd.fst, x.snd.snd.snd.snd.snd.fst, x.snd.snd.fst, x.snd.fst, ())).bind fun y77 =>
      bif y77.fst == (2 : Int) then
        bif
            decide
              (f37 x.snd.snd.snd.snd.snd.snd.fst x.snd.snd.snd.snd.snd.snd.snd.fst (f35 x.snd.snd.fst x.snd.fst).fst
                  (f35 x.snd.snd.fst x.snd.fst).snd.fst (f35 x.snd.snd.fst x.snd.fst).snd.snd.fst
                  (f35 x.snd.snd.fst x.snd.fst).snd.snd.snd.fst ≤
                IntKind.i64.wrap (x.fst * x.fst)) then
          some (Sum.inr (Sum.inl (false, ())))
        else
          (j14_28
                (x.fst, x.snd.fst, x.snd.snd.fst, x.snd.snd.snd.fst, x.snd.snd.snd.snd.fst, x.snd.snd.snd.snd.snd.fst,
                  x.snd.snd.snd.snd.snd.snd.fst, x.snd.snd.snd.snd.snd.snd.snd.fst, ())).bind
            fun y75 =>
            some
              (Sum.inl
                (y75.fst, y75.snd.fst, y75.snd.snd.fst, y75.snd.snd.snd.fst, y75.snd.snd.snd.snd.fst, y75.snd.snd.snd.snd.snd.fst,
                  y75.snd.snd.snd.snd.snd.snd.fst, y75.snd.snd.snd.snd.snd.snd.snd.fst, ()))
      else
        (j14_28
              (x.fst, x.snd.fst, x.snd.snd.fst, x.snd.snd.snd.fst, x.snd.snd.snd.snd.fst, x.snd.snd.snd.snd.snd.fst,
                x.snd.snd.snd.snd.snd.snd.fst, x.snd.snd.snd.snd.snd.snd.snd.fst, ())).bind
          fun y76 =>
          some
            (Sum.inl
              (y76.fst, y76.snd.fst, y76.snd.snd.fst, y76.snd.snd.snd.fst, y76.snd.snd.snd.snd.fst, y76.snd.snd.snd.snd.snd.fst,
                y76.snd.snd.snd.snd.snd.snd.fst, y76.snd.snd.snd.snd.snd.snd.snd.fst, ()))
  else
    (j14_28
          (x.fst, x.snd.fst, x.snd.snd.fst, x.snd.snd.snd.fst, x.snd.snd.snd.snd.fst, x.snd.snd.snd.snd.snd.fst,
            x.snd.snd.snd.snd.snd.snd.fst, x.snd.snd.snd.snd.snd.snd.snd.fst, ())).bind
      fun y78 =>
      some
        (Sum.inl
          (y78.fst, y78.snd.fst, y78.snd.snd.fst, y78.snd.snd.snd.fst, y78.snd.snd.snd.snd.fst, y78.snd.snd.snd.snd.snd.fst,
            y78.snd.snd.snd.snd.snd.snd.fst, y78.snd.snd.snd.snd.snd.snd.snd.fst, ()))
else
  some
    (Sum.inr
      (Sum.inr
        (x.fst, x.snd.fst, x.snd.snd.snd.fst, x.snd.snd.snd.snd.fst, x.snd.snd.snd.snd.snd.fst, x.snd.snd.snd.snd.snd.snd.fst,
          x.snd.snd.snd.snd.snd.snd.snd.fst, ())))
theorem r14_6_run0 (v0 : Int) (v1 : Int) (v2 : Int) (v3 : Int) (v4 : Int) (v5 : List Int) (v6 : Int) (v7 : Int) : roundK tC G14 (look [(28, W14_28)]) c14_6 p14_6 (v0, v1, v2, v3, v4, v5, v6, v7, ()) = r14_6 (v0, v1, v2, v3, v4, v5, v6, v7, ()) := by kernel_rfl
theorem r14_6_run (x : Int × Int × Int × Int × Int × List Int × Int × Int × Unit) : roundK tC G14 (look [(28, W14_28)]) c14_6 p14_6 x = r14_6 x := r14_6_run0 x.1 x.2.1 x.2.2.1 x.2.2.2.1 x.2.2.2.2.1 x.2.2.2.2.2.1 x.2.2.2.2.2.2.1 x.2.2.2.2.2.2.2.1
noncomputable def l14_6 (x : Int × Int × Int × Int × Int × List Int × Int × Int × Unit) : Option (Bool × Unit ⊕ Int × Int × Int × Int × List Int × Int × Int × Unit) := iterO r14_6 x
noncomputable def W14_6 : LF tC := loopW tC p14_6 2 l14_6
theorem W14_6_ok : keyed 6 (loopOf (bodyOf Tryd.f14) 0) = [.block 2 (.loop c14_6)] ∧ ∀ n, n ≤ 0 → Snd tC n (.block 2 (.loop c14_6)) W14_6.k := ⟨by kernel_rfl, fun n hn => loopW_ok (p := p14_6) (id := 2) Y14 (lam_le (lam_cons W14_28_ok lam_nil) n hn) hn r14_6_run⟩
noncomputable def c14_0 : Code := loopOf (bodyOf Tryd.f14) 0
def p14_0 : LS := ⟨0, [2, 3, 4, 9], ⟨[vB, vB, vI, .one (.one (.ptr 0 0 0)), .one (.one (.ptr 1 0 0))] ++ vBs 4 ++ [vI] ++ vBs 83, [.box [.int .i64, .int .i64, .imm 5], .box [.int .i64, .int .i64]]⟩, [⟨.ret, [6], ⟨vBs 6 ++ [vO] ++ vBs 86, []⟩, []⟩, ⟨.exit 0, [3, 4], ⟨[vB, vB, vB, .one (.one (.ptr 0 0 0)), .one (.one (.ptr 1 0 0))] ++ vBs 88, [.box [.int .i64, .int .i64, .imm 5], .box [.int .i64, .int .i64]]⟩, []⟩], []⟩
noncomputable def r14_0 (x : Int × Int × Int × Int × List Int × Int × Int × Unit) : Option (Int × Int × Int × Int × List Int × Int × Int × Unit ⊕ Bool × Unit ⊕ Int × Int × List Int × Int × Int × Unit) :=
  bif decide (x.snd.fst ≤ IntKind.i64.wrap (f34 (IntKind.i64.wrap (x.snd.snd.snd.snd.snd.snd.fst + x.fst)) + (1 : Int))) then
  (l14_6
        (x.fst, x.snd.fst, IntKind.i64.wrap (f34 (IntKind.i64.wrap (x.snd.snd.snd.snd.snd.fst - x.fst)) - (1 : Int)), x.snd.snd.fst,
          x.snd.snd.snd.fst, x.snd.snd.snd.snd.fst, x.snd.snd.snd.snd.snd.fst, x.snd.snd.snd.snd.snd.snd.fst, ())).bind
    fun y95 =>
    Sum.elim (fun y93 => some (Sum.inr (Sum.inl (y93.fst, ()))))
      (fun y94 =>
        some
          (Sum.inl
            (y94.fst, IntKind.i64.wrap (y94.snd.fst + (1 : Int)), y94.snd.snd.fst, y94.snd.snd.snd.fst, y94.snd.snd.snd.snd.fst,
              y94.snd.snd.snd.snd.snd.fst, y94.snd.snd.snd.snd.snd.snd.fst, ())))
      y95
else
  some
    (Sum.inr
      (Sum.inr (x.snd.snd.fst, x.snd.snd.snd.fst, x.snd.snd.snd.snd.fst, x.snd.snd.snd.snd.snd.fst, x.snd.snd.snd.snd.snd.snd.fst, ())))
theorem r14_0_run0 (v0 : Int) (v1 : Int) (v2 : Int) (v3 : Int) (v4 : List Int) (v5 : Int) (v6 : Int) : roundK tC G14 (look [(6, W14_6)]) c14_0 p14_0 (v0, v1, v2, v3, v4, v5, v6, ()) = r14_0 (v0, v1, v2, v3, v4, v5, v6, ()) := by kernel_rfl
theorem r14_0_run (x : Int × Int × Int × Int × List Int × Int × Int × Unit) : roundK tC G14 (look [(6, W14_6)]) c14_0 p14_0 x = r14_0 x := r14_0_run0 x.1 x.2.1 x.2.2.1 x.2.2.2.1 x.2.2.2.2.1 x.2.2.2.2.2.1 x.2.2.2.2.2.2.1
noncomputable def l14_0 (x : Int × Int × Int × Int × List Int × Int × Int × Unit) : Option (Bool × Unit ⊕ Int × Int × List Int × Int × Int × Unit) := iterO r14_0 x
noncomputable def W14_0 : LF tC := loopW tC p14_0 0 l14_0
theorem W14_0_ok : keyed 0 (bodyOf Tryd.f14) = [.block 0 (.loop c14_0)] ∧ ∀ n, n ≤ 0 → Snd tC n (.block 0 (.loop c14_0)) W14_0.k := ⟨by kernel_rfl, fun n hn => loopW_ok (p := p14_0) (id := 0) Y14 (lam_le (lam_cons W14_6_ok lam_nil) n hn) hn r14_0_run⟩
def S14 : FS := ⟨[[.v, .v, .s 5], [.v, .v], [.v]], [⟨[.one (.agg [.int .i64, .int .i64, .imm 5]), .one (.agg [.int .i64, .int .i64]), vI], []⟩], [⟨[vO], []⟩], [[.v]], []⟩
noncomputable def f14 (x : Int × Int × List Int × Int × Int × Int × Unit) : Option (Bool × Unit) :=
  (f33 (x.snd.snd.snd.fst, x.snd.snd.snd.snd.fst, ())).bind fun y107 =>
  bif !y107.snd.snd.fst then some (false, ())
  else
    (f20 (x.fst, x.snd.fst, x.snd.snd.fst, ())).bind fun y106 =>
      bif y106.fst != (0 : Int) then some (false, ())
      else
        bif decide (x.snd.snd.snd.snd.snd.fst < (0 : Int)) then some (false, ())
        else
          bif decide (x.snd.snd.snd.snd.snd.fst > (1024 : Int)) then some (false, ())
          else
            (l14_0
                  (x.snd.snd.snd.snd.snd.fst,
                    IntKind.i64.wrap (f34 (IntKind.i64.wrap (x.snd.snd.snd.snd.fst - x.snd.snd.snd.snd.snd.fst)) - (1 : Int)), x.fst,
                    x.snd.fst, x.snd.snd.fst, x.snd.snd.snd.fst, x.snd.snd.snd.snd.fst, ())).bind
              fun y105 =>
              Sum.elim (fun y103 => some (y103.fst, ()))
                (fun y104 => some (f38 y104.fst y104.snd.fst y104.snd.snd.fst y104.snd.snd.snd.fst y104.snd.snd.snd.snd.fst, ())) y105
noncomputable def F14 : CF tC := mkF tC S14 f14
theorem f14_run : ∀ a, fnS tC G14 (look [(0, W14_0)]) Tryd.f14 S14 a = f14 a := fun a => by kernel_rfl
theorem F14_ok : CFOK tC 14 F14 := mkF_ok Y14 (fn := Tryd.f14) (body := bodyOf Tryd.f14) (by kernel_rfl) (by kernel_rfl) (by kernel_rfl) (m := 0) rfl (lam_le (lam_cons W14_0_ok lam_nil)) f14_run

/-! base.Ints -/
noncomputable def G18 : FuncId → Option (CF tC) := look []
theorem Y18 : SysN tC G18 := (sys_nil tC_ok tC_eq)
noncomputable def c18_0 : Code := loopOf (bodyOf Tryd.f18) 0
def p18_0 : LS := ⟨0, [0, 1, 5], ⟨[.one (.one (.imm 3)), .one (.one (.imm 3)), vB, vB, vB, vI] ++ vBs 20, []⟩, [⟨.ret, [4], ⟨vBs 4 ++ [vO] ++ vBs 21, []⟩, []⟩, ⟨.exit 0, [], ⟨vBs 26, []⟩, []⟩], []⟩
noncomputable def r18_0 (x : List Int × List Int × Int × Unit) : Option (List Int × List Int × Int × Unit ⊕ Bool × Unit ⊕ Unit) :=
  bif decide (x.snd.snd.fst < (↑x.fst.length : Int)) then
  (idxO x.fst x.snd.snd.fst).bind fun y10 =>
    (idxO x.snd.fst x.snd.snd.fst).bind fun y9 =>
      bif y10 != y9 then some (Sum.inr (Sum.inl (false, ())))
      else some (Sum.inl (x.fst, x.snd.fst, IntKind.i64.wrap (x.snd.snd.fst + (1 : Int)), ()))
else some (Sum.inr (Sum.inr ()))
theorem r18_0_run0 (v0 : List Int) (v1 : List Int) (v2 : Int) : roundK tC G18 (look []) c18_0 p18_0 (v0, v1, v2, ()) = r18_0 (v0, v1, v2, ()) := by kernel_rfl
theorem r18_0_run (x : List Int × List Int × Int × Unit) : roundK tC G18 (look []) c18_0 p18_0 x = r18_0 x := r18_0_run0 x.1 x.2.1 x.2.2.1
noncomputable def l18_0 (x : List Int × List Int × Int × Unit) : Option (Bool × Unit ⊕ Unit) := iterO r18_0 x
noncomputable def W18_0 : LF tC := loopW tC p18_0 0 l18_0
theorem W18_0_ok : keyed 0 (bodyOf Tryd.f18) = [.block 0 (.loop c18_0)] ∧ ∀ n, n ≤ 0 → Snd tC n (.block 0 (.loop c18_0)) W18_0.k := ⟨by kernel_rfl, fun n hn => loopW_ok (p := p18_0) (id := 0) Y18 (lam_le lam_nil n hn) hn r18_0_run⟩
def S18 : FS := ⟨[[.s 3], [.s 3]], [⟨[.one (.one (.imm 3)), .one (.one (.imm 3))], []⟩], [⟨[vO], []⟩], [[.v]], []⟩
noncomputable def f18 (x : List Int × List Int × Unit) : Option (Bool × Unit) :=
  bif (↑x.fst.length : Int) != (↑x.snd.fst.length : Int) then some (false, ())
else (l18_0 (x.fst, x.snd.fst, (0 : Int), ())).bind fun y15 => Sum.elim (fun y13 => some (y13.fst, ())) (fun _x => some (true, ())) y15
noncomputable def F18 : CF tC := mkF tC S18 f18
theorem f18_run : ∀ a, fnS tC G18 (look [(0, W18_0)]) Tryd.f18 S18 a = f18 a := fun a => by kernel_rfl
theorem F18_ok : CFOK tC 18 F18 := mkF_ok Y18 (fn := Tryd.f18) (body := bodyOf Tryd.f18) (by kernel_rfl) (by kernel_rfl) (by kernel_rfl) (m := 0) rfl (lam_le (lam_cons W18_0_ok lam_nil)) f18_run

/-! base.Plans -/
noncomputable def G19 : FuncId → Option (CF tC) := look []
theorem Y19 : SysN tC G19 := (sys_nil tC_ok tC_eq)
def S19 : FS := ⟨[[.v, .v, .s 5], [.v, .v, .s 5]], [⟨[.one (.agg [.int .i64, .int .i64, .imm 5]), .one (.agg [.int .i64, .int .i64, .imm 5])], []⟩], [⟨[vO], []⟩], [[.v]], []⟩
def f19 (n1 : Int) (n2 : Int) (l3 : List Int) (n4 : Int) (n5 : Int) (l6 : List Int) : Bool :=
  bif n1 == n4 then bif n2 == n5 then decide (l3 = l6) else false else false
noncomputable def F19 : CF tC := mkF tC S19 (fun a => some ((f19 a.1 a.2.1 a.2.2.1 a.2.2.2.1 a.2.2.2.2.1 a.2.2.2.2.2.1), ()))
def h19 (r : Bool) : Option (altTy tE S19.outs) := some (r, ())
theorem f19_run : ∀ a, fnS tC G19 (look []) Tryd.f19 S19 a = (fun a => some ((f19 a.1 a.2.1 a.2.2.1 a.2.2.2.1 a.2.2.2.2.1 a.2.2.2.2.2.1), ())) a := fun a => by
  have key : ∀ (n1 : Int) (n2 : Int) (l3 : List Int) (n4 : Int) (n5 : Int) (l6 : List Int), (bif n1 == n4 then bif n2 == n5 then h19 (decide (l3 = l6)) else h19 false else h19 false) = h19 (f19 n1 n2 l3 n4 n5 l6) := by
    intros
    unfold f19
    repeat' first | rfl | refine cond_h (g := h19) ?_ ?_
  exact Eq.trans (by kernel_rfl) (key a.1 a.2.1 a.2.2.1 a.2.2.2.1 a.2.2.2.2.1 a.2.2.2.2.2.1)
theorem F19_ok : CFOK tC 19 F19 := mkF_ok Y19 (fn := Tryd.f19) (body := bodyOf Tryd.f19) (by kernel_rfl) (by kernel_rfl) (by kernel_rfl) (m := 0) rfl (lam_le lam_nil) f19_run

/-! few -/
noncomputable def G13 : FuncId → Option (CF tC) := look []
theorem Y13 : SysN tC G13 := (sys_nil tC_ok tC_eq)
def S13 : FS := ⟨[[.v, .v, .s 5]], [⟨[.one (.agg [.int .i64, .int .i64, .imm 5])], []⟩], [⟨[vO], []⟩], [[.v]], []⟩
def f13 (_n1 : Int) (_n2 : Int) (l3 : List Int) : Bool :=
  decide ((↑l3.length : Int) ≤ (400 : Int))
noncomputable def F13 : CF tC := mkF tC S13 (fun a => some ((f13 a.1 a.2.1 a.2.2.1), ()))
def h13 (r : Bool) : Option (altTy tE S13.outs) := some (r, ())
theorem f13_run : ∀ a, fnS tC G13 (look []) Tryd.f13 S13 a = (fun a => some ((f13 a.1 a.2.1 a.2.2.1), ())) a := fun a => by
  have key : ∀ (n1 : Int) (n2 : Int) (l3 : List Int), (h13 (decide ((↑l3.length : Int) ≤ (400 : Int)))) = h13 (f13 n1 n2 l3) := by
    intros
    unfold f13
    repeat' first | rfl | refine cond_h (g := h13) ?_ ?_
  exact Eq.trans (by kernel_rfl) (key a.1 a.2.1 a.2.2.1)
theorem F13_ok : CFOK tC 13 F13 := mkF_ok Y13 (fn := Tryd.f13) (body := bodyOf Tryd.f13) (by kernel_rfl) (by kernel_rfl) (by kernel_rfl) (m := 0) rfl (lam_le lam_nil) f13_run

/-! awake -/
noncomputable def G12 : FuncId → Option (CF tC) := look [(16, F16), (18, F18), (14, F14)]
theorem Y12 : SysN tC G12 := (sys_cons F16_ok (mkF_nat _ _) (sys_cons F18_ok (mkF_nat _ _) (sys_cons F14_ok (mkF_nat _ _) (sys_nil tC_ok tC_eq))))
def S12 : FS := ⟨[], [⟨[], []⟩], [⟨[vO], []⟩], [[.v]], []⟩
noncomputable def f12 (_x : Unit) : Option (Bool × Unit) :=
  (f16 ((3 : Int), (2 : Int), [(1 : Int), (1 : Int), (1 : Int), (1 : Int), (2 : Int), (1 : Int)], ())).bind fun y11 =>
  bif y11.snd.fst == (0 : Int) then
    bif decide ((0 : Nat) + y11.fst ≤ y11.snd.snd.fst.length) then
      (f18
            (List.take y11.fst (List.drop (0 : Nat) y11.snd.snd.fst), [(0 : Int), (0 : Int), (0 : Int), (0 : Int), (-1 : Int), (0 : Int)],
              ())).bind
        fun y10 =>
        bif y10.fst then
          (f14
                ((3 : Int), (2 : Int), [(1 : Int), (1 : Int), (1 : Int), (1 : Int), (2 : Int), (1 : Int)], (32 : Int), (32 : Int),
                  (31 : Int), ())).bind
            fun y9 =>
            bif y9.fst then
              (f14
                    ((3 : Int), (2 : Int), [(1 : Int), (1 : Int), (1 : Int), (1 : Int), (2 : Int), (1 : Int)], (32 : Int), (32 : Int),
                      (32 : Int), ())).bind
                fun y8 => some (!y8.fst, ())
            else some (false, ())
        else some (false, ())
    else none
  else some (false, ())
noncomputable def F12 : CF tC := mkF tC S12 f12
theorem f12_run : ∀ a, fnS tC G12 (look []) Tryd.f12 S12 a = f12 a := fun a => by kernel_rfl
theorem F12_ok : CFOK tC 12 F12 := mkF_ok Y12 (fn := Tryd.f12) (body := bodyOf Tryd.f12) (by kernel_rfl) (by kernel_rfl) (by kernel_rfl) (m := 0) rfl (lam_le lam_nil) f12_run

/-! floor.Solid -/
noncomputable def G22 : FuncId → Option (CF tC) := look [(20, F20)]
theorem Y22 : SysN tC G22 := (sys_cons F20_ok (mkF_nat _ _) (sys_nil tC_ok tC_eq))
noncomputable def c22_28 : Code := subCode (loopOf (bodyOf Tryd.f22) 0) 28
def p22_28 : PS := ⟨0, [1, 11, 12, 13], ⟨[vB, .one (.one (.ptr 0 0 0))] ++ vBs 9 ++ [.one (.one (.imm 5)), vI, vI] ++ vBs 37, [.box [.int .i64, .int .i64, .imm 5]]⟩, [⟨.normal, [1, 11, 12, 13], ⟨[vB, .one (.one (.ptr 0 0 0))] ++ vBs 9 ++ [.one (.one (.imm 5)), vI, vI] ++ vBs 37, [.box [.int .i64, .int .i64, .imm 5]]⟩, []⟩], []⟩
noncomputable def j22_28 (x : List Int × Int × Int × Int × Int × List Int × Unit) : Option (List Int × Int × Int × Int × Int × List Int × Unit) :=
  some
  (x.fst, x.snd.fst, IntKind.i64.wrap (x.snd.snd.fst + (1 : Int)), x.snd.snd.snd.fst, x.snd.snd.snd.snd.fst, x.snd.snd.snd.snd.snd.fst, ())
theorem j22_28_run0 (v0 : List Int) (v1 : Int) (v2 : Int) (v3 : Int) (v4 : Int) (v5 : List Int) : pieceK tC G22 (look []) c22_28 p22_28 (v0, v1, v2, v3, v4, v5, ()) = j22_28 (v0, v1, v2, v3, v4, v5, ()) := by kernel_rfl
theorem j22_28_run (x : List Int × Int × Int × Int × Int × List Int × Unit) : pieceK tC G22 (look []) c22_28 p22_28 x = j22_28 x := j22_28_run0 x.1 x.2.1 x.2.2.1 x.2.2.2.1 x.2.2.2.2.1 x.2.2.2.2.2.1
noncomputable def W22_28 : LF tC := cutLF tC p22_28 j22_28
theorem W22_28_ok : keyed 28 (loopOf (bodyOf Tryd.f22) 0) = [c22_28] ∧ ∀ n, n ≤ 0 → Snd tC n c22_28 W22_28.k := ⟨by kernel_rfl, fun n hn => cut_ok (p := p22_28) Y22 (lam_le lam_nil n hn) hn j22_28_run⟩
noncomputable def c22_0 : Code := loopOf (bodyOf Tryd.f22) 0
def p22_0 : LS := ⟨0, [1, 11, 12, 13], ⟨[vB, .one (.one (.ptr 0 0 0))] ++ vBs 9 ++ [.one (.one (.imm 5)), vI, vI] ++ vBs 37, [.box [.int .i64, .int .i64, .imm 5]]⟩, [⟨.ret, [2], ⟨[vB, vB, vO] ++ vBs 48, []⟩, []⟩, ⟨.exit 0, [], ⟨vBs 51, []⟩, []⟩], []⟩
noncomputable def r22_0 (x : List Int × Int × Int × Int × Int × List Int × Unit) : Option (List Int × Int × Int × Int × Int × List Int × Unit ⊕ Bool × Unit ⊕ Unit) :=
  bif decide (x.snd.snd.fst < x.snd.fst) then
  (idxO x.fst x.snd.snd.fst).bind fun y60 =>
    bif x.snd.snd.snd.fst == (0 : Int) then none
    else
      bif x.snd.snd.snd.fst == (0 : Int) then none
      else
        bif x.snd.snd.fst.tmod x.snd.snd.snd.fst == (0 : Int) then
          bif y60 != (2 : Int) then some (Sum.inr (Sum.inl (false, ())))
          else
            (j22_28 (x.fst, x.snd.fst, x.snd.snd.fst, x.snd.snd.snd.fst, x.snd.snd.snd.snd.fst, x.snd.snd.snd.snd.snd.fst, ())).bind
              fun y55 =>
              some
                (Sum.inl
                  (y55.fst, y55.snd.fst, y55.snd.snd.fst, y55.snd.snd.snd.fst, y55.snd.snd.snd.snd.fst, y55.snd.snd.snd.snd.snd.fst, ()))
        else
          bif IntKind.i64.wrap (x.snd.snd.fst.tdiv x.snd.snd.snd.fst) == (0 : Int) then
            bif y60 != (2 : Int) then some (Sum.inr (Sum.inl (false, ())))
            else
              (j22_28 (x.fst, x.snd.fst, x.snd.snd.fst, x.snd.snd.snd.fst, x.snd.snd.snd.snd.fst, x.snd.snd.snd.snd.snd.fst, ())).bind
                fun y56 =>
                some
                  (Sum.inl
                    (y56.fst, y56.snd.fst, y56.snd.snd.fst, y56.snd.snd.snd.fst, y56.snd.snd.snd.snd.fst, y56.snd.snd.snd.snd.snd.fst, ()))
          else
            bif x.snd.snd.fst.tmod x.snd.snd.snd.fst == IntKind.i64.wrap (x.snd.snd.snd.fst - (1 : Int)) then
              bif y60 != (2 : Int) then some (Sum.inr (Sum.inl (false, ())))
              else
                (j22_28 (x.fst, x.snd.fst, x.snd.snd.fst, x.snd.snd.snd.fst, x.snd.snd.snd.snd.fst, x.snd.snd.snd.snd.snd.fst, ())).bind
                  fun y57 =>
                  some
                    (Sum.inl
                      (y57.fst, y57.snd.fst, y57.snd.snd.fst, y57.snd.snd.snd.fst, y57.snd.snd.snd.snd.fst, y57.snd.snd.snd.snd.snd.fst,
                        ()))
            else
              bif IntKind.i64.wrap (x.snd.snd.fst.tdiv x.snd.snd.snd.fst) == IntKind.i64.wrap (x.snd.snd.snd.snd.fst - (1 : Int)) then
                bif y60 != (2 : Int) then some (Sum.inr (Sum.inl (false, ())))
                else
                  (j22_28 (x.fst, x.snd.fst, x.snd.snd.fst, x.snd.snd.snd.fst, x.snd.snd.snd.snd.fst, x.snd.snd.snd.snd.snd.fst, ())).bind
                    fun y58 =>
                    some
                      (Sum.inl
                        (y58.fst, y58.snd.fst, y58.snd.snd.fst, y58.snd.snd.snd.fst, y58.snd.snd.snd.snd.fst, y58.snd.snd.snd.snd.snd.fst,
                          ()))
              else
                (j22_28 (x.fst, x.snd.fst, x.snd.snd.fst, x.snd.snd.snd.fst, x.snd.snd.snd.snd.fst, x.snd.snd.snd.snd.snd.fst, ())).bind
                  fun y59 =>
                  some
                    (Sum.inl
                      (y59.fst, y59.snd.fst, y59.snd.snd.fst, y59.snd.snd.snd.fst, y59.snd.snd.snd.snd.fst, y59.snd.snd.snd.snd.snd.fst,
                        ()))
else some (Sum.inr (Sum.inr ()))
theorem r22_0_run0 (v0 : List Int) (v1 : Int) (v2 : Int) (v3 : Int) (v4 : Int) (v5 : List Int) : roundK tC G22 (look [(28, W22_28)]) c22_0 p22_0 (v0, v1, v2, v3, v4, v5, ()) = r22_0 (v0, v1, v2, v3, v4, v5, ()) := by kernel_rfl
theorem r22_0_run (x : List Int × Int × Int × Int × Int × List Int × Unit) : roundK tC G22 (look [(28, W22_28)]) c22_0 p22_0 x = r22_0 x := r22_0_run0 x.1 x.2.1 x.2.2.1 x.2.2.2.1 x.2.2.2.2.1 x.2.2.2.2.2.1
noncomputable def l22_0 (x : List Int × Int × Int × Int × Int × List Int × Unit) : Option (Bool × Unit ⊕ Unit) := iterO r22_0 x
noncomputable def W22_0 : LF tC := loopW tC p22_0 0 l22_0
theorem W22_0_ok : keyed 0 (bodyOf Tryd.f22) = [.block 0 (.loop c22_0)] ∧ ∀ n, n ≤ 0 → Snd tC n (.block 0 (.loop c22_0)) W22_0.k := ⟨by kernel_rfl, fun n hn => loopW_ok (p := p22_0) (id := 0) Y22 (lam_le (lam_cons W22_28_ok lam_nil) n hn) hn r22_0_run⟩
def S22 : FS := ⟨[[.v, .v, .s 5]], [⟨[.one (.agg [.int .i64, .int .i64, .imm 5])], []⟩], [⟨[vO], []⟩], [[.v]], []⟩
noncomputable def f22 (x : Int × Int × List Int × Unit) : Option (Bool × Unit) :=
  (f20 (x.fst, x.snd.fst, x.snd.snd.fst, ())).bind fun y66 =>
  bif y66.fst != (0 : Int) then some (false, ())
  else
    (l22_0 (x.snd.snd.fst, (↑x.snd.snd.fst.length : Int), (0 : Int), x.fst, x.snd.fst, x.snd.snd.fst, ())).bind fun y65 =>
      Sum.elim (fun y63 => some (y63.fst, ())) (fun _x => some (true, ())) y65
noncomputable def F22 : CF tC := mkF tC S22 f22
theorem f22_run : ∀ a, fnS tC G22 (look [(0, W22_0)]) Tryd.f22 S22 a = f22 a := fun a => by kernel_rfl
theorem F22_ok : CFOK tC 22 F22 := mkF_ok Y22 (fn := Tryd.f22) (body := bodyOf Tryd.f22) (by kernel_rfl) (by kernel_rfl) (by kernel_rfl) (m := 0) rfl (lam_le (lam_cons W22_0_ok lam_nil)) f22_run

/-! floor.Joined -/
noncomputable def G24 : FuncId → Option (CF tC) := look [(16, F16), (36, F36)]
theorem Y24 : SysN tC G24 := (sys_cons F16_ok (mkF_nat _ _) (sys_cons F36_ok (mkF_nat _ _) (sys_nil tC_ok tC_eq)))
def S24 : FS := ⟨[[.v, .v, .s 5], [.v, .v], [.v, .v]], [⟨[.one (.agg [.int .i64, .int .i64, .imm 5]), .one (.agg [.int .i64, .int .i64]), .one (.agg [.int .i64, .int .i64])], []⟩], [⟨[vO], []⟩], [[.v]], []⟩
noncomputable def f24 (x : Int × Int × List Int × Int × Int × Int × Int × Unit) : Option (Bool × Unit) :=
  (f16 (x.fst, x.snd.fst, x.snd.snd.fst, ())).bind fun y20 =>
  bif y20.snd.fst != (0 : Int) then some (false, ())
  else
    (f36 (x.fst, x.snd.fst, x.snd.snd.fst, x.snd.snd.snd.fst, x.snd.snd.snd.snd.fst, ())).bind fun y19 =>
      bif y19.fst != (1 : Int) then some (false, ())
      else
        (f36 (x.fst, x.snd.fst, x.snd.snd.fst, x.snd.snd.snd.snd.snd.fst, x.snd.snd.snd.snd.snd.snd.fst, ())).bind fun y18 =>
          bif y18.fst != (1 : Int) then some (false, ())
          else
            bif
                decide ((0 : Int) ≤ IntKind.i64.wrap (IntKind.i64.wrap (x.snd.snd.snd.snd.fst * x.fst) + x.snd.snd.snd.fst)) &&
                  decide (IntKind.i64.wrap (IntKind.i64.wrap (x.snd.snd.snd.snd.fst * x.fst) + x.snd.snd.snd.fst) < (↑y20.fst : Int)) then
              y20.snd.snd.fst[(0 : Nat) +
                      (IntKind.i64.wrap (IntKind.i64.wrap (x.snd.snd.snd.snd.fst * x.fst) + x.snd.snd.snd.fst)).toNat]?.bind
                fun y17 =>
                bif
                    decide
                        ((0 : Int) ≤
                          IntKind.i64.wrap (IntKind.i64.wrap (x.snd.snd.snd.snd.snd.snd.fst * x.fst) + x.snd.snd.snd.snd.snd.fst)) &&
                      decide
                        (IntKind.i64.wrap (IntKind.i64.wrap (x.snd.snd.snd.snd.snd.snd.fst * x.fst) + x.snd.snd.snd.snd.snd.fst) <
                          (↑y20.fst : Int)) then
                  y20.snd.snd.fst[(0 : Nat) +
                          (IntKind.i64.wrap
                              (IntKind.i64.wrap (x.snd.snd.snd.snd.snd.snd.fst * x.fst) + x.snd.snd.snd.snd.snd.fst)).toNat]?.bind
                    fun y16 => some (y17 == y16, ())
                else none
            else none
noncomputable def F24 : CF tC := mkF tC S24 f24
theorem f24_run : ∀ a, fnS tC G24 (look []) Tryd.f24 S24 a = f24 a := fun a => by kernel_rfl
theorem F24_ok : CFOK tC 24 F24 := mkF_ok Y24 (fn := Tryd.f24) (body := bodyOf Tryd.f24) (by kernel_rfl) (by kernel_rfl) (by kernel_rfl) (m := 0) rfl (lam_le lam_nil) f24_run

/-! bytes.Clone -/
noncomputable def G45 : FuncId → Option (CF tC) := look []
theorem Y45 : SysN tC G45 := (sys_nil tC_ok tC_eq)
noncomputable def c45_4 : Code := subCode (bodyOf Tryd.f45) 4
def p45_4 : PS := ⟨0, [0], ⟨[.one (.one (.imm 5))] ++ vBs 7, []⟩, [⟨.ret, [2], ⟨vBs 2 ++ [.one (.one (.sl 0))] ++ vBs 5, [.arr 5]⟩, [(2, 5)]⟩], []⟩
noncomputable def j45_4 (x : List (Int) × Unit) : Option (Nat × List (Int) × Unit) := bif roomy (0 + x.1.length) 1 then some (0 + x.1.length, x.1, ()) else none
noncomputable def W45_4 : LF tC := cutLF tC p45_4 j45_4
theorem c45_4_is : NilHead c45_4 0 3 4 22 := ⟨_, _, _, _, _, _, _, _, _, _, _, rfl⟩
theorem j45_4_nil : exec tC G45 (look []) (restOf c45_4) ⟨((p45_4.s.emb ([], ())).t.set 3 (.imm 5 [])).set 4 (.bool true), (p45_4.s.emb ([], ())).h⟩ (fun e st => unP p45_4.k p45_4.outs e st) = j45_4 ([], ()) := by kernel_rfl
theorem j45_4_one (x : p45_4.s.ty tE) : exec tC G45 (look []) (restOf c45_4) ⟨((p45_4.s.emb x).t.set 3 (.imm 5 x.1)).set 4 (.bool false), (p45_4.s.emb x).h⟩ (fun e st => unP p45_4.k p45_4.outs e st) = j45_4 x := by kernel_rfl
theorem W45_4_ok : keyed 4 (bodyOf Tryd.f45) = [c45_4] ∧ ∀ n, n ≤ 0 → Snd tC n c45_4 W45_4.k := ⟨by kernel_rfl, fun n hn => nil_cut (p := p45_4) (f := j45_4) (Λ := look []) (el := 5) Y45 hn c45_4_is (by kernel_rfl) (lam_le lam_nil n hn) (fun x => ⟨5, x.1, rfl, fun t h => match t, x, h with
    | true, (xs, ()), h => by
      have h : xs = [] := h rfl
      subst h
      exact j45_4_nil
    | false, x, _ => j45_4_one x⟩) (fun _ => Nat.le_of_ble_eq_true (by kernel_rfl))⟩
def S45 : FS := ⟨[[.s 5]], [⟨[.one (.one (.imm 5))], []⟩], [⟨[.one (.one (.sl 0))], [.arr 5]⟩], [[.v]], []⟩
noncomputable def f45 (x : List (Int) × Unit) : Option (Nat × List (Int) × Unit) := (j45_4 (x.1, ())).bind fun y => some (y.1, y.2.1, ())
noncomputable def F45 : CF tC := mkF tC S45 f45
theorem f45_run : ∀ a, fnS tC G45 (look [(4, W45_4)]) Tryd.f45 S45 a = f45 a := fun a => by kernel_rfl
theorem F45_ok : CFOK tC 45 F45 := mkF_ok Y45 (fn := Tryd.f45) (body := bodyOf Tryd.f45) (by kernel_rfl) (by kernel_rfl) (by kernel_rfl) (m := 0) rfl (lam_le (lam_cons W45_4_ok lam_nil)) f45_run

/-! floor.Turned -/
noncomputable def G26 : FuncId → Option (CF tC) := look [(43, F43), (45, F45)]
theorem Y26 : SysN tC G26 := (sys_cons F43_ok (mkF_nat _ _) (sys_cons F45_ok (mkF_nat _ _) (sys_nil tC_ok tC_eq)))
noncomputable def c26_6 : Code := loopOf (loopOf (bodyOf Tryd.f26) 0) 2
def p26_6 : LS := ⟨0, [4, 6, 7, 25, 26, 38, 39, 40], ⟨vBs 4 ++ [.one (.one (.ptr 0 0 0)), vB, .one (.one (.ptr 1 0 0)), .one (.one (.ptr 2 0 0))] ++ vBs 17 ++ [vI, vI] ++ vBs 11 ++ [.one (.one (.sl 3)), vI, vI] ++ vBs 30, [.box [.int .i64, .int .i64, .nils], .box [.int .i64, .int .i64, .sl 3], .box [.int .i64, .int .i64, .sl 4], .arr 5, .arr 5]⟩, [⟨.exit 2, [4, 6, 7, 25, 26], ⟨vBs 4 ++ [.one (.one (.ptr 0 0 0)), vB, .one (.one (.ptr 1 0 0)), .one (.one (.ptr 2 0 0))] ++ vBs 17 ++ [vI, vI] ++ vBs 44, [.box [.int .i64, .int .i64, .nils], .box [.int .i64, .int .i64, .sl 3], .box [.int .i64, .int .i64, .sl 4], .arr 5, .arr 5]⟩, []⟩], []⟩
noncomputable def r26_6 (x : Int × Int × Nat × Int × Int × Int × Int × Int × Int × Nat × Int × Int × Nat × List Int × List Int × Unit) : Option
  (Int × Int × Nat × Int × Int × Int × Int × Int × Int × Nat × Int × Int × Nat × List Int × List Int × Unit ⊕
    Int × Int × Int × Int × Int × Int × Nat × Int × Int × Nat × List Int × List Int × Unit) :=
  bif decide (x.snd.snd.snd.snd.fst < x.snd.snd.snd.fst) then
  bif decide ((0 : Int) ≤ x.snd.snd.snd.snd.fst) && decide (x.snd.snd.snd.snd.fst < (↑x.snd.snd.fst : Int)) then
    x.snd.snd.snd.snd.snd.snd.snd.snd.snd.snd.snd.snd.snd.fst[(0 : Nat) + x.snd.snd.snd.snd.fst.toNat]?.bind fun y46 =>
      bif x.snd.snd.snd.snd.snd.snd.snd.fst == (0 : Int) then none
      else
        bif x.snd.snd.snd.snd.snd.snd.snd.fst == (0 : Int) then none
        else
          bif
              decide
                  ((0 : Int) ≤
                    IntKind.i64.wrap
                      (IntKind.i64.wrap
                          (IntKind.i64.wrap
                              (IntKind.i64.wrap
                                  (x.snd.snd.snd.snd.fst.tmod x.snd.snd.snd.snd.snd.snd.snd.fst *
                                    x.snd.snd.snd.snd.snd.snd.snd.snd.snd.snd.fst) +
                                x.snd.snd.snd.snd.snd.snd.snd.snd.fst) -
                            (1 : Int)) -
                        IntKind.i64.wrap (x.snd.snd.snd.snd.fst.tdiv x.snd.snd.snd.snd.snd.snd.snd.fst))) &&
                decide
                  (IntKind.i64.wrap
                      (IntKind.i64.wrap
                          (IntKind.i64.wrap
                              (IntKind.i64.wrap
                                  (x.snd.snd.snd.snd.fst.tmod x.snd.snd.snd.snd.snd.snd.snd.fst *
                                    x.snd.snd.snd.snd.snd.snd.snd.snd.snd.snd.fst) +
                                x.snd.snd.snd.snd.snd.snd.snd.snd.fst) -
                            (1 : Int)) -
                        IntKind.i64.wrap (x.snd.snd.snd.snd.fst.tdiv x.snd.snd.snd.snd.snd.snd.snd.fst)) <
                    (↑x.snd.snd.snd.snd.snd.snd.snd.snd.snd.snd.snd.snd.fst : Int)) then
            x.snd.snd.snd.snd.snd.snd.snd.snd.snd.snd.snd.snd.snd.snd.fst[(0 : Nat) +
                    (IntKind.i64.wrap
                        (IntKind.i64.wrap
                            (IntKind.i64.wrap
                                (IntKind.i64.wrap
                                    (x.snd.snd.snd.snd.fst.tmod x.snd.snd.snd.snd.snd.snd.snd.fst *
                                      x.snd.snd.snd.snd.snd.snd.snd.snd.snd.snd.fst) +
                                  x.snd.snd.snd.snd.snd.snd.snd.snd.fst) -
                              (1 : Int)) -
                          IntKind.i64.wrap (x.snd.snd.snd.snd.fst.tdiv x.snd.snd.snd.snd.snd.snd.snd.fst))).toNat]?.bind
              fun _x =>
              some
                (Sum.inl
                  (x.fst, x.snd.fst, x.snd.snd.fst, x.snd.snd.snd.fst, IntKind.i64.wrap (x.snd.snd.snd.snd.fst + (1 : Int)),
                    x.snd.snd.snd.snd.snd.fst, x.snd.snd.snd.snd.snd.snd.fst, x.snd.snd.snd.snd.snd.snd.snd.fst,
                    x.snd.snd.snd.snd.snd.snd.snd.snd.fst, x.snd.snd.snd.snd.snd.snd.snd.snd.snd.fst,
                    x.snd.snd.snd.snd.snd.snd.snd.snd.snd.snd.fst, x.snd.snd.snd.snd.snd.snd.snd.snd.snd.snd.snd.fst,
                    x.snd.snd.snd.snd.snd.snd.snd.snd.snd.snd.snd.snd.fst, x.snd.snd.snd.snd.snd.snd.snd.snd.snd.snd.snd.snd.snd.fst,
                    x.snd.snd.snd.snd.snd.snd.snd.snd.snd.snd.snd.snd.snd.snd.fst.set
                      ((0 : Nat) +
                        (IntKind.i64.wrap
                            (IntKind.i64.wrap
                                (IntKind.i64.wrap
                                    (IntKind.i64.wrap
                                        (x.snd.snd.snd.snd.fst.tmod x.snd.snd.snd.snd.snd.snd.snd.fst *
                                          x.snd.snd.snd.snd.snd.snd.snd.snd.snd.snd.fst) +
                                      x.snd.snd.snd.snd.snd.snd.snd.snd.fst) -
                                  (1 : Int)) -
                              IntKind.i64.wrap (x.snd.snd.snd.snd.fst.tdiv x.snd.snd.snd.snd.snd.snd.snd.fst))).toNat)
                      y46,
                    ()))
          else none
  else none
else
  some
    (Sum.inr
      (x.fst, x.snd.fst, x.snd.snd.snd.snd.snd.fst, x.snd.snd.snd.snd.snd.snd.fst, x.snd.snd.snd.snd.snd.snd.snd.fst,
        x.snd.snd.snd.snd.snd.snd.snd.snd.fst, x.snd.snd.snd.snd.snd.snd.snd.snd.snd.fst, x.snd.snd.snd.snd.snd.snd.snd.snd.snd.snd.fst,
        x.snd.snd.snd.snd.snd.snd.snd.snd.snd.snd.snd.fst, x.snd.snd.snd.snd.snd.snd.snd.snd.snd.snd.snd.snd.fst,
        x.snd.snd.snd.snd.snd.snd.snd.snd.snd.snd.snd.snd.snd.fst, x.snd.snd.snd.snd.snd.snd.snd.snd.snd.snd.snd.snd.snd.snd.fst, ()))
theorem r26_6_run0 (v0 : Int) (v1 : Int) (v2 : Nat) (v3 : Int) (v4 : Int) (v5 : Int) (v6 : Int) (v7 : Int) (v8 : Int) (v9 : Nat) (v10 : Int) (v11 : Int) (v12 : Nat) (v13 : List Int) (v14 : List Int) : roundK tC G26 (look []) c26_6 p26_6 (v0, v1, v2, v3, v4, v5, v6, v7, v8, v9, v10, v11, v12, v13, v14, ()) = r26_6 (v0, v1, v2, v3, v4, v5, v6, v7, v8, v9, v10, v11, v12, v13, v14, ()) := by kernel_rfl
theorem r26_6_run (x : Int × Int × Nat × Int × Int × Int × Int × Int × Int × Nat × Int × Int × Nat × List Int × List Int × Unit) : roundK tC G26 (look []) c26_6 p26_6 x = r26_6 x := r26_6_run0 x.1 x.2.1 x.2.2.1 x.2.2.2.1 x.2.2.2.2.1 x.2.2.2.2.2.1 x.2.2.2.2.2.2.1 x.2.2.2.2.2.2.2.1 x.2.2.2.2.2.2.2.2.1 x.2.2.2.2.2.2.2.2.2.1 x.2.2.2.2.2.2.2.2.2.2.1 x.2.2.2.2.2.2.2.2.2.2.2.1 x.2.2.2.2.2.2.2.2.2.2.2.2.1 x.2.2.2.2.2.2.2.2.2.2.2.2.2.1 x.2.2.2.2.2.2.2.2.2.2.2.2.2.2.1
noncomputable def l26_6 (x : Int × Int × Nat × Int × Int × Int × Int × Int × Int × Nat × Int × Int × Nat × List Int × List Int × Unit) : Option (Int × Int × Int × Int × Int × Int × Nat × Int × Int × Nat × List Int × List Int × Unit) := iterO r26_6 x
noncomputable def W26_6 : LF tC := loopW tC p26_6 2 l26_6
theorem W26_6_ok : keyed 6 (loopOf (bodyOf Tryd.f26) 0) = [.block 2 (.loop c26_6)] ∧ ∀ n, n ≤ 0 → Snd tC n (.block 2 (.loop c26_6)) W26_6.k := ⟨by kernel_rfl, fun n hn => loopW_ok (p := p26_6) (id := 2) Y26 (lam_le lam_nil n hn) hn r26_6_run⟩
noncomputable def c26_0 : Code := loopOf (bodyOf Tryd.f26) 0
def p26_0 : LS := ⟨0, [4, 6, 25, 26], ⟨vBs 4 ++ [.one (.one (.ptr 0 0 0)), vB, .one (.one (.ptr 1 0 0))] ++ vBs 18 ++ [vI, vI] ++ vBs 44, [.box [.int .i64, .int .i64, .nils], .box [.int .i64, .int .i64, .sl 2], .arr 5]⟩, [⟨.exit 0, [4, 6], ⟨vBs 4 ++ [.one (.one (.ptr 0 0 0)), vB, .one (.one (.ptr 1 0 0))] ++ vBs 64, [.box [.int .i64, .int .i64, .nils], .box [.int .i64, .int .i64, .sl 2], .arr 5]⟩, []⟩], []⟩
noncomputable def r26_0 (x : Int × Int × Int × Int × Int × Int × Nat × List Int × Unit) : Option (Int × Int × Int × Int × Int × Int × Nat × List Int × Unit ⊕ Int × Int × Int × Int × Nat × List Int × Unit) :=
  bif decide (x.snd.fst < x.fst) then
  bif
      true && decide ((↑x.snd.snd.snd.snd.snd.snd.fst : Int) ≤ (↑x.snd.snd.snd.snd.snd.snd.fst : Int)) &&
          decide ((↑x.snd.snd.snd.snd.snd.snd.fst : Int) * (1 : Int) ≤ (140737488355328 : Int)) &&
        decide ((↑x.snd.snd.snd.snd.snd.snd.fst : Int) ≤ (140737488355328 : Int)) then
    (l26_6
          (x.fst, x.snd.fst, x.snd.snd.snd.snd.snd.snd.fst, (↑x.snd.snd.snd.snd.snd.snd.fst : Int), (0 : Int), x.snd.snd.fst,
            x.snd.snd.snd.fst, x.snd.snd.snd.snd.fst, x.snd.snd.snd.snd.snd.fst, x.snd.snd.snd.snd.snd.snd.fst, x.snd.snd.snd.snd.snd.fst,
            x.snd.snd.snd.snd.fst, (↑x.snd.snd.snd.snd.snd.snd.fst : Int).toNat, x.snd.snd.snd.snd.snd.snd.snd.fst,
            List.replicate (↑x.snd.snd.snd.snd.snd.snd.fst : Int).toNat (0 : Int), ())).bind
      fun y65 =>
      some
        (Sum.inl
          (y65.fst, IntKind.i64.wrap (y65.snd.fst + (1 : Int)), y65.snd.snd.fst, y65.snd.snd.snd.fst, y65.snd.snd.snd.snd.snd.snd.snd.fst,
            y65.snd.snd.snd.snd.snd.snd.snd.snd.fst, y65.snd.snd.snd.snd.snd.snd.snd.snd.snd.fst,
            y65.snd.snd.snd.snd.snd.snd.snd.snd.snd.snd.snd.fst, ()))
  else none
else
  some
    (Sum.inr
      (x.snd.snd.fst, x.snd.snd.snd.fst, x.snd.snd.snd.snd.fst, x.snd.snd.snd.snd.snd.fst, x.snd.snd.snd.snd.snd.snd.fst,
        x.snd.snd.snd.snd.snd.snd.snd.fst, ()))
theorem r26_0_run0 (v0 : Int) (v1 : Int) (v2 : Int) (v3 : Int) (v4 : Int) (v5 : Int) (v6 : Nat) (v7 : List Int) : roundK tC G26 (look [(6, W26_6)]) c26_0 p26_0 (v0, v1, v2, v3, v4, v5, v6, v7, ()) = r26_0 (v0, v1, v2, v3, v4, v5, v6, v7, ()) := by kernel_rfl
theorem r26_0_run (x : Int × Int × Int × Int × Int × Int × Nat × List Int × Unit) : roundK tC G26 (look [(6, W26_6)]) c26_0 p26_0 x = r26_0 x := r26_0_run0 x.1 x.2.1 x.2.2.1 x.2.2.2.1 x.2.2.2.2.1 x.2.2.2.2.2.1 x.2.2.2.2.2.2.1 x.2.2.2.2.2.2.2.1
noncomputable def l26_0 (x : Int × Int × Int × Int × Int × Int × Nat × List Int × Unit) : Option (Int × Int × Int × Int × Nat × List Int × Unit) := iterO r26_0 x
noncomputable def W26_0 : LF tC := loopW tC p26_0 0 l26_0
theorem W26_0_ok : keyed 0 (bodyOf Tryd.f26) = [.block 0 (.loop c26_0)] ∧ ∀ n, n ≤ 0 → Snd tC n (.block 0 (.loop c26_0)) W26_0.k := ⟨by kernel_rfl, fun n hn => loopW_ok (p := p26_0) (id := 0) Y26 (lam_le (lam_cons W26_6_ok lam_nil) n hn) hn r26_0_run⟩
def S26 : FS := ⟨[[.v, .v, .s 5], [.v]], [⟨[.one (.agg [.int .i64, .int .i64, .imm 5]), vI], []⟩], [⟨[.tup [.agg [.int .i64, .int .i64, .imm 5], .one (.int .i64)]], []⟩], [[.v, .v, .s 5], [.v]], []⟩
noncomputable def f26 (x : Int × Int × List Int × Int × Unit) : Option (Int × Int × List Int × Int × Unit) :=
  (f43 (x.fst, x.snd.fst, x.snd.snd.fst, ())).bind fun y78 =>
  bif !y78.fst then some ((0 : Int), (0 : Int), [], (1 : Int), ())
  else
    (f45 (x.snd.snd.fst, ())).bind fun y77 =>
      (l26_0
            (bits BinOp.and IntKind.i64 x.snd.snd.snd.fst (3 : Int), (0 : Int), (0 : Int), (0 : Int), x.fst, x.snd.fst, y77.fst,
              y77.snd.fst, ())).bind
        fun y76 =>
        bif decide ((0 : Nat) + y76.snd.snd.snd.snd.fst ≤ y76.snd.snd.snd.snd.snd.fst.length) then
          some
            (y76.snd.snd.fst, y76.snd.snd.snd.fst, List.take y76.snd.snd.snd.snd.fst (List.drop (0 : Nat) y76.snd.snd.snd.snd.snd.fst),
              (0 : Int), ())
        else none
noncomputable def F26 : CF tC := mkF tC S26 f26
theorem f26_run : ∀ a, fnS tC G26 (look [(0, W26_0)]) Tryd.f26 S26 a = f26 a := fun a => by kernel_rfl
theorem F26_ok : CFOK tC 26 F26 := mkF_ok Y26 (fn := Tryd.f26) (body := bodyOf Tryd.f26) (by kernel_rfl) (by kernel_rfl) (by kernel_rfl) (m := 0) rfl (lam_le (lam_cons W26_0_ok lam_nil)) f26_run

/-! base.Mod -/
noncomputable def G28 : FuncId → Option (CF tC) := look []
theorem Y28 : SysN tC G28 := (sys_nil tC_ok tC_eq)
noncomputable def c28_13 : Code := subCode (bodyOf Tryd.f28) 13
def p28_13 : PS := ⟨0, [5], ⟨vBs 5 ++ [vI] ++ vBs 9, []⟩, [⟨.ret, [4], ⟨vBs 4 ++ [vI] ++ vBs 10, []⟩, []⟩], []⟩
noncomputable def j28_13 (x : Int × Unit) : Option (Int × Unit) :=
  some (x.fst, ())
theorem j28_13_run0 (v0 : Int) : pieceK tC G28 (look []) c28_13 p28_13 (v0, ()) = j28_13 (v0, ()) := by kernel_rfl
theorem j28_13_run (x : Int × Unit) : pieceK tC G28 (look []) c28_13 p28_13 x = j28_13 x := j28_13_run0 x.1
noncomputable def W28_13 : LF tC := cutLF tC p28_13 j28_13
theorem W28_13_ok : keyed 13 (bodyOf Tryd.f28) = [c28_13] ∧ ∀ n, n ≤ 0 → Snd tC n c28_13 W28_13.k := ⟨by kernel_rfl, fun n hn => cut_ok (p := p28_13) Y28 (lam_le lam_nil n hn) hn j28_13_run⟩
def S28 : FS := ⟨[[.v], [.v]], [⟨[vI, vI], []⟩], [⟨[vI], []⟩], [[.v]], []⟩
noncomputable def f28 (x : Int × Int × Unit) : Option (Int × Unit) :=
  bif x.snd.fst == (0 : Int) then none
else
  bif decide (x.fst.tmod x.snd.fst < (0 : Int)) then
    (j28_13 (IntKind.i64.wrap (x.fst.tmod x.snd.fst + x.snd.fst), ())).bind fun y8 => some (y8.fst, ())
  else (j28_13 (x.fst.tmod x.snd.fst, ())).bind fun y9 => some (y9.fst, ())
noncomputable def F28 : CF tC := mkF tC S28 f28
theorem f28_run : ∀ a, fnS tC G28 (look [(13, W28_13)]) Tryd.f28 S28 a = f28 a := fun a => by kernel_rfl
theorem F28_ok : CFOK tC 28 F28 := mkF_ok Y28 (fn := Tryd.f28) (body := bodyOf Tryd.f28) (by kernel_rfl) (by kernel_rfl) (by kernel_rfl) (m := 0) rfl (lam_le (lam_cons W28_13_ok lam_nil)) f28_run

/-! base.Plan -/
noncomputable def G29 : FuncId → Option (CF tC) := look []
theorem Y29 : SysN tC G29 := (sys_nil tC_ok tC_eq)
noncomputable def c29_0 : Code := loopOf (bodyOf Tryd.f29) 0
def p29_0 : LS := ⟨0, [1, 3], ⟨[vB, .one (.one (.ptr 0 0 0)), vB, vI] ++ vBs 42, [.box [.int .i64, .int .i64, .imm 5]]⟩, [⟨.ret, [2], ⟨[vB, vB, vO] ++ vBs 43, []⟩, []⟩, ⟨.exit 0, [], ⟨vBs 46, []⟩, []⟩], []⟩
noncomputable def r29_0 (x : Int × Int × Int × List Int × Unit) : Option (Int × Int × Int × List Int × Unit ⊕ Bool × Unit ⊕ Unit) :=
  bif decide (x.fst < (↑x.snd.snd.snd.fst.length : Int)) then
  (idxO x.snd.snd.snd.fst x.fst).bind fun y10 =>
    bif decide (y10 > (2 : Int)) then some (Sum.inr (Sum.inl (false, ())))
    else some (Sum.inl (IntKind.i64.wrap (x.fst + (1 : Int)), x.snd.fst, x.snd.snd.fst, x.snd.snd.snd.fst, ()))
else some (Sum.inr (Sum.inr ()))
theorem r29_0_run0 (v0 : Int) (v1 : Int) (v2 : Int) (v3 : List Int) : roundK tC G29 (look []) c29_0 p29_0 (v0, v1, v2, v3, ()) = r29_0 (v0, v1, v2, v3, ()) := by kernel_rfl
theorem r29_0_run (x : Int × Int × Int × List Int × Unit) : roundK tC G29 (look []) c29_0 p29_0 x = r29_0 x := r29_0_run0 x.1 x.2.1 x.2.2.1 x.2.2.2.1
noncomputable def l29_0 (x : Int × Int × Int × List Int × Unit) : Option (Bool × Unit ⊕ Unit) := iterO r29_0 x
noncomputable def W29_0 : LF tC := loopW tC p29_0 0 l29_0
theorem W29_0_ok : keyed 0 (bodyOf Tryd.f29) = [.block 0 (.loop c29_0)] ∧ ∀ n, n ≤ 0 → Snd tC n (.block 0 (.loop c29_0)) W29_0.k := ⟨by kernel_rfl, fun n hn => loopW_ok (p := p29_0) (id := 0) Y29 (lam_le lam_nil n hn) hn r29_0_run⟩
def S29 : FS := ⟨[[.v, .v, .s 5]], [⟨[.one (.agg [.int .i64, .int .i64, .imm 5])], []⟩], [⟨[vO], []⟩], [[.v]], []⟩
noncomputable def f29 (x : Int × Int × List Int × Unit) : Option (Bool × Unit) :=
  bif decide (x.fst < (1 : Int)) then some (false, ())
else
  bif decide (x.fst > (64 : Int)) then some (false, ())
  else
    bif decide (x.snd.fst < (1 : Int)) then some (false, ())
    else
      bif decide (x.snd.fst > (64 : Int)) then some (false, ())
      else
        bif (↑x.snd.snd.fst.length : Int) != IntKind.i64.wrap (x.fst * x.snd.fst) then some (false, ())
        else
          (l29_0 ((0 : Int), x.fst, x.snd.fst, x.snd.snd.fst, ())).bind fun y15 =>
            Sum.elim (fun y13 => some (y13.fst, ())) (fun _x => some (true, ())) y15
noncomputable def F29 : CF tC := mkF tC S29 f29
theorem f29_run : ∀ a, fnS tC G29 (look [(0, W29_0)]) Tryd.f29 S29 a = f29 a := fun a => by kernel_rfl
theorem F29_ok : CFOK tC 29 F29 := mkF_ok Y29 (fn := Tryd.f29) (body := bodyOf Tryd.f29) (by kernel_rfl) (by kernel_rfl) (by kernel_rfl) (m := 0) rfl (lam_le (lam_cons W29_0_ok lam_nil)) f29_run

/-! base.Clip -/
noncomputable def G30 : FuncId → Option (CF tC) := look []
theorem Y30 : SysN tC G30 := (sys_nil tC_ok tC_eq)
def S30 : FS := ⟨[[.v], [.v], [.v]], [⟨[vI, vI, vI], []⟩], [⟨[vI], []⟩], [[.v]], []⟩
def f30 (n1 : Int) (n2 : Int) (n3 : Int) : Int :=
  bif decide ((bif decide (n3 < n1) then n3 else n1) > n2) then bif decide (n3 < n1) then n3 else n1 else n2
noncomputable def F30 : CF tC := mkF tC S30 (fun a => some ((f30 a.1 a.2.1 a.2.2.1), ()))
def h30 (r : Int) : Option (altTy tE S30.outs) := some (r, ())
theorem f30_run : ∀ a, fnS tC G30 (look []) Tryd.f30 S30 a = (fun a => some ((f30 a.1 a.2.1 a.2.2.1), ())) a := fun a => by
  have key : ∀ (n1 : Int) (n2 : Int) (n3 : Int), (h30 (bif decide ((bif decide (n3 < n1) then n3 else n1) > n2) then bif decide (n3 < n1) then n3 else n1 else n2)) = h30 (f30 n1 n2 n3) := by
    intros
    unfold f30
    repeat' first | rfl | refine cond_h (g := h30) ?_ ?_
  exact Eq.trans (by kernel_rfl) (key a.1 a.2.1 a.2.2.1)
theorem F30_ok : CFOK tC 30 F30 := mkF_ok Y30 (fn := Tryd.f30) (body := bodyOf Tryd.f30) (by kernel_rfl) (by kernel_rfl) (by kernel_rfl) (m := 0) rfl (lam_le lam_nil) f30_run

/-! base.Building -/
noncomputable def G32 : FuncId → Option (CF tC) := look [(29, F29)]
theorem Y32 : SysN tC G32 := (sys_cons F29_ok (mkF_nat _ _) (sys_nil tC_ok tC_eq))
noncomputable def c32_0 : Code := loopOf (bodyOf Tryd.f32) 0
def p32_0 : LS := ⟨0, [1, 3], ⟨[vB, .one (.one (.ptr 0 0 0)), vB, vI] ++ vBs 16, [.box [.int .i64, .int .i64, .imm 5]]⟩, [⟨.ret, [2], ⟨[vB, vB, vO] ++ vBs 17, []⟩, []⟩, ⟨.exit 0, [], ⟨vBs 20, []⟩, []⟩], []⟩
noncomputable def r32_0 (x : Int × Int × Int × List Int × Unit) : Option (Int × Int × Int × List Int × Unit ⊕ Bool × Unit ⊕ Unit) :=
  bif decide (x.fst < (↑x.snd.snd.snd.fst.length : Int)) then
  (idxO x.snd.snd.snd.fst x.fst).bind fun y11 =>
    bif y11 == (0 : Int) then some (Sum.inr (Sum.inl (false, ())))
    else some (Sum.inl (IntKind.i64.wrap (x.fst + (1 : Int)), x.snd.fst, x.snd.snd.fst, x.snd.snd.snd.fst, ()))
else some (Sum.inr (Sum.inr ()))
theorem r32_0_run0 (v0 : Int) (v1 : Int) (v2 : Int) (v3 : List Int) : roundK tC G32 (look []) c32_0 p32_0 (v0, v1, v2, v3, ()) = r32_0 (v0, v1, v2, v3, ()) := by kernel_rfl
theorem r32_0_run (x : Int × Int × Int × List Int × Unit) : roundK tC G32 (look []) c32_0 p32_0 x = r32_0 x := r32_0_run0 x.1 x.2.1 x.2.2.1 x.2.2.2.1
noncomputable def l32_0 (x : Int × Int × Int × List Int × Unit) : Option (Bool × Unit ⊕ Unit) := iterO r32_0 x
noncomputable def W32_0 : LF tC := loopW tC p32_0 0 l32_0
theorem W32_0_ok : keyed 0 (bodyOf Tryd.f32) = [.block 0 (.loop c32_0)] ∧ ∀ n, n ≤ 0 → Snd tC n (.block 0 (.loop c32_0)) W32_0.k := ⟨by kernel_rfl, fun n hn => loopW_ok (p := p32_0) (id := 0) Y32 (lam_le lam_nil n hn) hn r32_0_run⟩
def S32 : FS := ⟨[[.v, .v, .s 5]], [⟨[.one (.agg [.int .i64, .int .i64, .imm 5])], []⟩], [⟨[vO], []⟩], [[.v]], []⟩
noncomputable def f32 (x : Int × Int × List Int × Unit) : Option (Bool × Unit) :=
  (f29 (x.fst, x.snd.fst, x.snd.snd.fst, ())).bind fun y17 =>
  bif !y17.fst then some (false, ())
  else
    (l32_0 ((0 : Int), x.fst, x.snd.fst, x.snd.snd.fst, ())).bind fun y16 =>
      Sum.elim (fun y14 => some (y14.fst, ())) (fun _x => some (true, ())) y16
noncomputable def F32 : CF tC := mkF tC S32 f32
theorem f32_run : ∀ a, fnS tC G32 (look [(0, W32_0)]) Tryd.f32 S32 a = f32 a := fun a => by kernel_rfl
theorem F32_ok : CFOK tC 32 F32 := mkF_ok Y32 (fn := Tryd.f32) (body := bodyOf Tryd.f32) (by kernel_rfl) (by kernel_rfl) (by kernel_rfl) (m := 0) rfl (lam_le (lam_cons W32_0_ok lam_nil)) f32_run

/-! base.Size -/
noncomputable def G57 : FuncId → Option (CF tC) := look []
theorem Y57 : SysN tC G57 := (sys_nil tC_ok tC_eq)
def S57 : FS := ⟨[[.v], [.v]], [⟨[vI, vI], []⟩], [⟨[vO], []⟩], [[.v]], []⟩
def f57 (n1 : Int) (n2 : Int) : Bool :=
  bif decide (n1 ≥ IntKind.i64.wrap ((0 : Int) - n2)) then decide (n1 ≤ n2) else false
noncomputable def F57 : CF tC := mkF tC S57 (fun a => some ((f57 a.1 a.2.1), ()))
def h57 (r : Bool) : Option (altTy tE S57.outs) := some (r, ())
theorem f57_run : ∀ a, fnS tC G57 (look []) Tryd.f57 S57 a = (fun a => some ((f57 a.1 a.2.1), ())) a := fun a => by
  have key : ∀ (n1 : Int) (n2 : Int), (bif decide (n1 ≥ IntKind.i64.wrap ((0 : Int) - n2)) then h57 (decide (n1 ≤ n2)) else h57 false) = h57 (f57 n1 n2) := by
    intros
    unfold f57
    repeat' first | rfl | refine cond_h (g := h57) ?_ ?_
  exact Eq.trans (by kernel_rfl) (key a.1 a.2.1)
theorem F57_ok : CFOK tC 57 F57 := mkF_ok Y57 (fn := Tryd.f57) (body := bodyOf Tryd.f57) (by kernel_rfl) (by kernel_rfl) (by kernel_rfl) (m := 0) rfl (lam_le lam_nil) f57_run

/-! base.Inside -/
noncomputable def G58 : FuncId → Option (CF tC) := look []
theorem Y58 : SysN tC G58 := (sys_nil tC_ok tC_eq)
def S58 : FS := ⟨[[.v, .v, .s 5], [.v, .v]], [⟨[.one (.agg [.int .i64, .int .i64, .imm 5]), .one (.agg [.int .i64, .int .i64])], []⟩], [⟨[vO], []⟩], [[.v]], []⟩
def f58 (n1 : Int) (n2 : Int) (_l3 : List Int) (n4 : Int) (n5 : Int) : Bool :=
  bif decide (n4 ≥ (0 : Int)) then bif decide (n4 < n1) then bif decide (n5 ≥ (0 : Int)) then decide (n5 < n2) else false else false
else false
noncomputable def F58 : CF tC := mkF tC S58 (fun a => some ((f58 a.1 a.2.1 a.2.2.1 a.2.2.2.1 a.2.2.2.2.1), ()))
def h58 (r : Bool) : Option (altTy tE S58.outs) := some (r, ())
theorem f58_run : ∀ a, fnS tC G58 (look []) Tryd.f58 S58 a = (fun a => some ((f58 a.1 a.2.1 a.2.2.1 a.2.2.2.1 a.2.2.2.2.1), ())) a := fun a => by
  have key : ∀ (n1 : Int) (n2 : Int) (l3 : List Int) (n4 : Int) (n5 : Int), (bif decide (n4 ≥ (0 : Int)) then
  bif decide (n4 < n1) then bif decide (n5 ≥ (0 : Int)) then h58 (decide (n5 < n2)) else h58 false else h58 false
else h58 false) = h58 (f58 n1 n2 l3 n4 n5) := by
    intros
    unfold f58
    repeat' first | rfl | refine cond_h (g := h58) ?_ ?_
  exact Eq.trans (by kernel_rfl) (key a.1 a.2.1 a.2.2.1 a.2.2.2.1 a.2.2.2.2.1)
theorem F58_ok : CFOK tC 58 F58 := mkF_ok Y58 (fn := Tryd.f58) (body := bodyOf Tryd.f58) (by kernel_rfl) (by kernel_rfl) (by kernel_rfl) (m := 0) rfl (lam_le lam_nil) f58_run

/-! base.Square -/
noncomputable def G59 : FuncId → Option (CF tC) := look []
theorem Y59 : SysN tC G59 := (sys_nil tC_ok tC_eq)
def S59 : FS := ⟨[[.v, .v]], [⟨[.one (.agg [.int .i64, .int .i64])], []⟩], [⟨[.one (.agg [.int .i64, .int .i64, .int .i64, .int .i64])], []⟩], [[.v, .v, .v, .v]], []⟩
def f59 (n1 : Int) (n2 : Int) : Int × Int × Int × Int :=
  (IntKind.i64.wrap (n1 * (64 : Int)), IntKind.i64.wrap (n2 * (64 : Int)), IntKind.i64.wrap (IntKind.i64.wrap (n1 * (64 : Int)) + (64 : Int)),
  IntKind.i64.wrap (IntKind.i64.wrap (n2 * (64 : Int)) + (64 : Int)))
noncomputable def F59 : CF tC := mkF tC S59 (fun a => some ((f59 a.1 a.2.1).1, (f59 a.1 a.2.1).2.1, (f59 a.1 a.2.1).2.2.1, (f59 a.1 a.2.1).2.2.2, ()))
def h59 (r : Int × Int × Int × Int) : Option (altTy tE S59.outs) := some (r.1, r.2.1, r.2.2.1, r.2.2.2, ())
theorem f59_run : ∀ a, fnS tC G59 (look []) Tryd.f59 S59 a = (fun a => some ((f59 a.1 a.2.1).1, (f59 a.1 a.2.1).2.1, (f59 a.1 a.2.1).2.2.1, (f59 a.1 a.2.1).2.2.2, ())) a := fun a => by
  have key : ∀ (n1 : Int) (n2 : Int), (h59
  (IntKind.i64.wrap (n1 * (64 : Int)), IntKind.i64.wrap (n2 * (64 : Int)),
    IntKind.i64.wrap (IntKind.i64.wrap (n1 * (64 : Int)) + (64 : Int)), IntKind.i64.wrap (IntKind.i64.wrap (n2 * (64 : Int)) + (64 : Int)))) = h59 (f59 n1 n2) := by
    intros
    unfold f59
    repeat' first | rfl | refine cond_h (g := h59) ?_ ?_
  exact Eq.trans (by kernel_rfl) (key a.1 a.2.1)
theorem F59_ok : CFOK tC 59 F59 := mkF_ok Y59 (fn := Tryd.f59) (body := bodyOf Tryd.f59) (by kernel_rfl) (by kernel_rfl) (by kernel_rfl) (m := 0) rfl (lam_le lam_nil) f59_run

/-! base.Point -/
noncomputable def G39 : FuncId → Option (CF tC) := look [(57, F57)]
theorem Y39 : SysN tC G39 := (sys_cons F57_ok (mkF_nat _ _) (sys_nil tC_ok tC_eq))
def S39 : FS := ⟨[[.v, .v]], [⟨[.one (.agg [.int .i64, .int .i64])], []⟩], [⟨[vO], []⟩], [[.v]], []⟩
def f39 (n1 : Int) (n2 : Int) : Bool :=
  bif f57 n1 (1048576 : Int) then f57 n2 (1048576 : Int) else false
noncomputable def F39 : CF tC := mkF tC S39 (fun a => some ((f39 a.1 a.2.1), ()))
def h39 (r : Bool) : Option (altTy tE S39.outs) := some (r, ())
theorem f39_run : ∀ a, fnS tC G39 (look []) Tryd.f39 S39 a = (fun a => some ((f39 a.1 a.2.1), ())) a := fun a => by
  have key : ∀ (n1 : Int) (n2 : Int), (bif f57 n1 (1048576 : Int) then h39 (f57 n2 (1048576 : Int)) else h39 false) = h39 (f39 n1 n2) := by
    intros
    unfold f39
    repeat' first | rfl | refine cond_h (g := h39) ?_ ?_
  exact Eq.trans (by kernel_rfl) (key a.1 a.2.1)
theorem F39_ok : CFOK tC 39 F39 := mkF_ok Y39 (fn := Tryd.f39) (body := bodyOf Tryd.f39) (by kernel_rfl) (by kernel_rfl) (by kernel_rfl) (m := 0) rfl (lam_le lam_nil) f39_run

/-! base.Floor -/
noncomputable def G40 : FuncId → Option (CF tC) := look []
theorem Y40 : SysN tC G40 := (sys_nil tC_ok tC_eq)
noncomputable def c40_13 : Code := subCode (bodyOf Tryd.f40) 13
def p40_13 : PS := ⟨0, [5], ⟨vBs 5 ++ [vI] ++ vBs 10, []⟩, [⟨.ret, [4], ⟨vBs 4 ++ [vI] ++ vBs 11, []⟩, []⟩], []⟩
noncomputable def j40_13 (x : Int × Unit) : Option (Int × Unit) :=
  some (x.fst, ())
theorem j40_13_run0 (v0 : Int) : pieceK tC G40 (look []) c40_13 p40_13 (v0, ()) = j40_13 (v0, ()) := by kernel_rfl
theorem j40_13_run (x : Int × Unit) : pieceK tC G40 (look []) c40_13 p40_13 x = j40_13 x := j40_13_run0 x.1
noncomputable def W40_13 : LF tC := cutLF tC p40_13 j40_13
theorem W40_13_ok : keyed 13 (bodyOf Tryd.f40) = [c40_13] ∧ ∀ n, n ≤ 0 → Snd tC n c40_13 W40_13.k := ⟨by kernel_rfl, fun n hn => cut_ok (p := p40_13) Y40 (lam_le lam_nil n hn) hn j40_13_run⟩
def S40 : FS := ⟨[[.v], [.v]], [⟨[vI, vI], []⟩], [⟨[vI], []⟩], [[.v]], []⟩
noncomputable def f40 (x : Int × Int × Unit) : Option (Int × Unit) :=
  bif x.snd.fst == (0 : Int) then none
else
  bif x.snd.fst == (0 : Int) then none
  else
    bif decide (x.fst.tmod x.snd.fst < (0 : Int)) then
      (j40_13 (IntKind.i64.wrap (IntKind.i64.wrap (x.fst.tdiv x.snd.fst) - (1 : Int)), ())).bind fun y8 => some (y8.fst, ())
    else (j40_13 (IntKind.i64.wrap (x.fst.tdiv x.snd.fst), ())).bind fun y9 => some (y9.fst, ())
noncomputable def F40 : CF tC := mkF tC S40 f40
theorem f40_run : ∀ a, fnS tC G40 (look [(13, W40_13)]) Tryd.f40 S40 a = f40 a := fun a => by kernel_rfl
theorem F40_ok : CFOK tC 40 F40 := mkF_ok Y40 (fn := Tryd.f40) (body := bodyOf Tryd.f40) (by kernel_rfl) (by kernel_rfl) (by kernel_rfl) (m := 0) rfl (lam_le (lam_cons W40_13_ok lam_nil)) f40_run

/-! base.At -/
noncomputable def G41 : FuncId → Option (CF tC) := look [(58, F58)]
theorem Y41 : SysN tC G41 := (sys_cons F58_ok (mkF_nat _ _) (sys_nil tC_ok tC_eq))
def S41 : FS := ⟨[[.v, .v, .s 5], [.v, .v]], [⟨[.one (.agg [.int .i64, .int .i64, .imm 5]), .one (.agg [.int .i64, .int .i64])], []⟩], [⟨[.one (.one (.int .u8))], []⟩], [[.v]], []⟩
noncomputable def f41 (x : Int × Int × List Int × Int × Int × Unit) : Option (Int × Unit) :=
  bif !f58 x.fst x.snd.fst x.snd.snd.fst x.snd.snd.snd.fst x.snd.snd.snd.snd.fst then some ((2 : Int), ())
else
  (idxO x.snd.snd.fst (IntKind.i64.wrap (IntKind.i64.wrap (x.snd.snd.snd.snd.fst * x.fst) + x.snd.snd.snd.fst))).bind fun y8 =>
    some (y8, ())
noncomputable def F41 : CF tC := mkF tC S41 f41
theorem f41_run : ∀ a, fnS tC G41 (look []) Tryd.f41 S41 a = f41 a := fun a => by kernel_rfl
theorem F41_ok : CFOK tC 41 F41 := mkF_ok Y41 (fn := Tryd.f41) (body := bodyOf Tryd.f41) (by kernel_rfl) (by kernel_rfl) (by kernel_rfl) (m := 0) rfl (lam_le lam_nil) f41_run

/-! ref.gap -/
noncomputable def G42 : FuncId → Option (CF tC) := look [(59, F59)]
theorem Y42 : SysN tC G42 := (sys_cons F59_ok (mkF_nat _ _) (sys_nil tC_ok tC_eq))
def S42 : FS := ⟨[[.v, .v], [.v, .v]], [⟨[.one (.agg [.int .i64, .int .i64]), .one (.agg [.int .i64, .int .i64])], []⟩], [⟨[vI], []⟩], [[.v]], []⟩
def f42 (n1 : Int) (n2 : Int) (n3 : Int) (n4 : Int) : Int :=
  IntKind.i64.wrap
  (IntKind.i64.wrap
      ((bif
            decide
              (IntKind.i64.wrap (n1 - (f59 n3 n4).snd.snd.fst) >
                bif decide ((0 : Int) > IntKind.i64.wrap ((f59 n3 n4).fst - n1)) then (0 : Int)
                else IntKind.i64.wrap ((f59 n3 n4).fst - n1)) then
          IntKind.i64.wrap (n1 - (f59 n3 n4).snd.snd.fst)
        else bif decide ((0 : Int) > IntKind.i64.wrap ((f59 n3 n4).fst - n1)) then (0 : Int) else IntKind.i64.wrap ((f59 n3 n4).fst - n1)) *
        bif
            decide
              (IntKind.i64.wrap (n1 - (f59 n3 n4).snd.snd.fst) >
                bif decide ((0 : Int) > IntKind.i64.wrap ((f59 n3 n4).fst - n1)) then (0 : Int)
                else IntKind.i64.wrap ((f59 n3 n4).fst - n1)) then
          IntKind.i64.wrap (n1 - (f59 n3 n4).snd.snd.fst)
        else bif decide ((0 : Int) > IntKind.i64.wrap ((f59 n3 n4).fst - n1)) then (0 : Int) else IntKind.i64.wrap ((f59 n3 n4).fst - n1)) +
    IntKind.i64.wrap
      ((bif
            decide
              (IntKind.i64.wrap (n2 - (f59 n3 n4).snd.snd.snd) >
                bif decide ((0 : Int) > IntKind.i64.wrap ((f59 n3 n4).snd.fst - n2)) then (0 : Int)
                else IntKind.i64.wrap ((f59 n3 n4).snd.fst - n2)) then
          IntKind.i64.wrap (n2 - (f59 n3 n4).snd.snd.snd)
        else
          bif decide ((0 : Int) > IntKind.i64.wrap ((f59 n3 n4).snd.fst - n2)) then (0 : Int)
          else IntKind.i64.wrap ((f59 n3 n4).snd.fst - n2)) *
        bif
            decide
              (IntKind.i64.wrap (n2 - (f59 n3 n4).snd.snd.snd) >
                bif decide ((0 : Int) > IntKind.i64.wrap ((f59 n3 n4).snd.fst - n2)) then (0 : Int)
                else IntKind.i64.wrap ((f59 n3 n4).snd.fst - n2)) then
          IntKind.i64.wrap (n2 - (f59 n3 n4).snd.snd.snd)
        else
          bif decide ((0 : Int) > IntKind.i64.wrap ((f59 n3 n4).snd.fst - n2)) then (0 : Int)
          else IntKind.i64.wrap ((f59 n3 n4).snd.fst - n2)))
noncomputable def F42 : CF tC := mkF tC S42 (fun a => some ((f42 a.1 a.2.1 a.2.2.1 a.2.2.2.1), ()))
def h42 (r : Int) : Option (altTy tE S42.outs) := some (r, ())
theorem f42_run : ∀ a, fnS tC G42 (look []) Tryd.f42 S42 a = (fun a => some ((f42 a.1 a.2.1 a.2.2.1 a.2.2.2.1), ())) a := fun a => by
  have key : ∀ (n1 : Int) (n2 : Int) (n3 : Int) (n4 : Int), (h42
  (IntKind.i64.wrap
    (IntKind.i64.wrap
        ((bif
              decide
                (IntKind.i64.wrap (n1 - (f59 n3 n4).snd.snd.fst) >
                  bif decide ((0 : Int) > IntKind.i64.wrap ((f59 n3 n4).fst - n1)) then (0 : Int)
                  else IntKind.i64.wrap ((f59 n3 n4).fst - n1)) then
            IntKind.i64.wrap (n1 - (f59 n3 n4).snd.snd.fst)
          else
            bif decide ((0 : Int) > IntKind.i64.wrap ((f59 n3 n4).fst - n1)) then (0 : Int) else IntKind.i64.wrap ((f59 n3 n4).fst - n1)) *
          bif
              decide
                (IntKind.i64.wrap (n1 - (f59 n3 n4).snd.snd.fst) >
                  bif decide ((0 : Int) > IntKind.i64.wrap ((f59 n3 n4).fst - n1)) then (0 : Int)
                  else IntKind.i64.wrap ((f59 n3 n4).fst - n1)) then
            IntKind.i64.wrap (n1 - (f59 n3 n4).snd.snd.fst)
          else
            bif decide ((0 : Int) > IntKind.i64.wrap ((f59 n3 n4).fst - n1)) then (0 : Int) else IntKind.i64.wrap ((f59 n3 n4).fst - n1)) +
      IntKind.i64.wrap
        ((bif
              decide
                (IntKind.i64.wrap (n2 - (f59 n3 n4).snd.snd.snd) >
                  bif decide ((0 : Int) > IntKind.i64.wrap ((f59 n3 n4).snd.fst - n2)) then (0 : Int)
                  else IntKind.i64.wrap ((f59 n3 n4).snd.fst - n2)) then
            IntKind.i64.wrap (n2 - (f59 n3 n4).snd.snd.snd)
          else
            bif decide ((0 : Int) > IntKind.i64.wrap ((f59 n3 n4).snd.fst - n2)) then (0 : Int)
            else IntKind.i64.wrap ((f59 n3 n4).snd.fst - n2)) *
          bif
              decide
                (IntKind.i64.wrap (n2 - (f59 n3 n4).snd.snd.snd) >
                  bif decide ((0 : Int) > IntKind.i64.wrap ((f59 n3 n4).snd.fst - n2)) then (0 : Int)
                  else IntKind.i64.wrap ((f59 n3 n4).snd.fst - n2)) then
            IntKind.i64.wrap (n2 - (f59 n3 n4).snd.snd.snd)
          else
            bif decide ((0 : Int) > IntKind.i64.wrap ((f59 n3 n4).snd.fst - n2)) then (0 : Int)
            else IntKind.i64.wrap ((f59 n3 n4).snd.fst - n2))))) = h42 (f42 n1 n2 n3 n4) := by
    intros
    unfold f42
    repeat' first | rfl | refine cond_h (g := h42) ?_ ?_
  exact Eq.trans (by kernel_rfl) (key a.1 a.2.1 a.2.2.1 a.2.2.2.1)
theorem F42_ok : CFOK tC 42 F42 := mkF_ok Y42 (fn := Tryd.f42) (body := bodyOf Tryd.f42) (by kernel_rfl) (by kernel_rfl) (by kernel_rfl) (m := 0) rfl (lam_le lam_nil) f42_run

/-! ref.Fits -/
noncomputable def G15 : FuncId → Option (CF tC) := look [(32, F32), (39, F39), (40, F40), (41, F41), (42, F42)]
theorem Y15 : SysN tC G15 := (sys_cons F32_ok (mkF_nat _ _) (sys_cons F39_ok (mkF_nat _ _) (sys_cons F40_ok (mkF_nat _ _) (sys_cons F41_ok (mkF_nat _ _) (sys_cons F42_ok (mkF_nat _ _) (sys_nil tC_ok tC_eq))))))
noncomputable def c15_31 : Code := subCode (loopOf (loopOf (bodyOf Tryd.f15) 0) 2) 31
def p15_31 : PS := ⟨0, [2, 3, 4, 7, 8, 9, 10, 11], ⟨[vB, vB, vI, .one (.one (.ptr 0 0 0)), .one (.one (.ptr 1 0 0)), vB, vB, vI, vI, vI, vI, vI] ++ vBs 62, [.box [.int .i64, .int .i64, .imm 5], .box [.int .i64, .int .i64]]⟩, [⟨.normal, [2, 3, 4, 7, 8, 9, 10, 11], ⟨[vB, vB, vI, .one (.one (.ptr 0 0 0)), .one (.one (.ptr 1 0 0)), vB, vB, vI, vI, vI, vI, vI] ++ vBs 62, [.box [.int .i64, .int .i64, .imm 5], .box [.int .i64, .int .i64]]⟩, []⟩], []⟩
noncomputable def j15_31 (x : Int × Int × Int × Int × Int × Int × Int × Int × List Int × Int × Int × Unit) : Option (Int × Int × Int × Int × Int × Int × Int × Int × List Int × Int × Int × Unit) :=
  some
  (x.fst, x.snd.fst, x.snd.snd.fst, x.snd.snd.snd.fst, x.snd.snd.snd.snd.fst, IntKind.i64.wrap (x.snd.snd.snd.snd.snd.fst + (1 : Int)),
    x.snd.snd.snd.snd.snd.snd.fst, x.snd.snd.snd.snd.snd.snd.snd.fst, x.snd.snd.snd.snd.snd.snd.snd.snd.fst,
    x.snd.snd.snd.snd.snd.snd.snd.snd.snd.fst, x.snd.snd.snd.snd.snd.snd.snd.snd.snd.snd.fst, ())
theorem j15_31_run0 (v0 : Int) (v1 : Int) (v2 : Int) (v3 : Int) (v4 : Int) (v5 : Int) (v6 : Int) (v7 : Int) (v8 : List Int) (v9 : Int) (v10 : Int) : pieceK tC G15 (look []) c15_31 p15_31 (v0, v1, v2, v3, v4, v5, v6, v7, v8, v9, v10, ()) = j15_31 (v0, v1, v2, v3, v4, v5, v6, v7, v8, v9, v10, ()) := by kernel_rfl
theorem j15_31_run (x : Int × Int × Int × Int × Int × Int × Int × Int × List Int × Int × Int × Unit) : pieceK tC G15 (look []) c15_31 p15_31 x = j15_31 x := j15_31_run0 x.1 x.2.1 x.2.2.1 x.2.2.2.1 x.2.2.2.2.1 x.2.2.2.2.2.1 x.2.2.2.2.2.2.1 x.2.2.2.2.2.2.2.1 x.2.2.2.2.2.2.2.2.1 x.2.2.2.2.2.2.2.2.2.1 x.2.2.2.2.2.2.2.2.2.2.1
noncomputable def W15_31 : LF tC := cutLF tC p15_31 j15_31
theorem W15_31_ok : keyed 31 (loopOf (loopOf (bodyOf Tryd.f15) 0) 2) = [c15_31] ∧ ∀ n, n ≤ 0 → Snd tC n c15_31 W15_31.k := ⟨by kernel_rfl, fun n hn => cut_ok (p := p15_31) Y15 (lam_le lam_nil n hn) hn j15_31_run⟩
noncomputable def c15_6 : Code := loopOf (loopOf (bodyOf Tryd.f15) 0) 2
def p15_6 : LS := ⟨0, [2, 3, 4, 7, 8, 9, 10, 11], ⟨[vB, vB, vI, .one (.one (.ptr 0 0 0)), .one (.one (.ptr 1 0 0)), vB, vB, vI, vI, vI, vI, vI] ++ vBs 62, [.box [.int .i64, .int .i64, .imm 5], .box [.int .i64, .int .i64]]⟩, [⟨.ret, [6], ⟨vBs 6 ++ [vO] ++ vBs 67, []⟩, []⟩, ⟨.exit 2, [2, 3, 4, 7, 8, 9, 10], ⟨[vB, vB, vI, .one (.one (.ptr 0 0 0)), .one (.one (.ptr 1 0 0)), vB, vB, vI, vI, vI, vI] ++ vBs 63, [.box [.int .i64, .int .i64, .imm 5], .box [.int .i64, .int .i64]]⟩, []⟩], []⟩
noncomputable def r15_6 (x : Int × Int × Int × Int × Int × Int × Int × Int × List Int × Int × Int × Unit) : Option
  (Int × Int × Int × Int × Int × Int × Int × Int × List Int × Int × Int × Unit ⊕
    Bool × Unit ⊕ Int × Int × Int × Int × Int × Int × Int × List Int × Int × Int × Unit) :=
  bif decide (x.snd.snd.snd.snd.snd.fst ≤ IntKind.i64.wrap (x.snd.fst + x.snd.snd.snd.fst)) then
  (f41
        (x.snd.snd.snd.snd.snd.snd.fst, x.snd.snd.snd.snd.snd.snd.snd.fst, x.snd.snd.snd.snd.snd.snd.snd.snd.fst, x.snd.snd.snd.snd.snd.fst,
          x.snd.snd.snd.snd.fst, ())).bind
    fun y89 =>
    bif y89.fst == (2 : Int) then
      bif
          decide
            (f42 x.snd.snd.snd.snd.snd.snd.snd.snd.snd.fst x.snd.snd.snd.snd.snd.snd.snd.snd.snd.snd.fst x.snd.snd.snd.snd.snd.fst
                x.snd.snd.snd.snd.fst ≤
              IntKind.i64.wrap (x.fst * x.fst)) then
        some (Sum.inr (Sum.inl (false, ())))
      else
        (j15_31
              (x.fst, x.snd.fst, x.snd.snd.fst, x.snd.snd.snd.fst, x.snd.snd.snd.snd.fst, x.snd.snd.snd.snd.snd.fst,
                x.snd.snd.snd.snd.snd.snd.fst, x.snd.snd.snd.snd.snd.snd.snd.fst, x.snd.snd.snd.snd.snd.snd.snd.snd.fst,
                x.snd.snd.snd.snd.snd.snd.snd.snd.snd.fst, x.snd.snd.snd.snd.snd.snd.snd.snd.snd.snd.fst, ())).bind
          fun y87 =>
          some
            (Sum.inl
              (y87.fst, y87.snd.fst, y87.snd.snd.fst, y87.snd.snd.snd.fst, y87.snd.snd.snd.snd.fst, y87.snd.snd.snd.snd.snd.fst,
                y87.snd.snd.snd.snd.snd.snd.fst, y87.snd.snd.snd.snd.snd.snd.snd.fst, y87.snd.snd.snd.snd.snd.snd.snd.snd.fst,
                y87.snd.snd.snd.snd.snd.snd.snd.snd.snd.fst, y87.snd.snd.snd.snd.snd.snd.snd.snd.snd.snd.fst, ()))
    else
      (j15_31
            (x.fst, x.snd.fst, x.snd.snd.fst, x.snd.snd.snd.fst, x.snd.snd.snd.snd.fst, x.snd.snd.snd.snd.snd.fst,
              x.snd.snd.snd.snd.snd.snd.fst, x.snd.snd.snd.snd.snd.snd.snd.fst, x.snd.snd.snd.snd.snd.snd.snd.snd.fst,
              x.snd.snd.snd.snd.snd.snd.snd.snd.snd.fst, x.snd.snd.snd.snd.snd.snd.snd.snd.snd.snd.fst, ())).bind
        fun y88 =>
        some
          (Sum.inl
            (y88.fst, y88.snd.fst, y88.snd.snd.fst, y88.snd.snd.snd.fst, y88.snd.snd.snd.snd.fst, y88.snd.snd.snd.snd.snd.fst,
              y88.snd.snd.snd.snd.snd.snd.fst, y88.snd.snd.snd.snd.snd.snd.snd.fst, y88.snd.snd.snd.snd.snd.snd.snd.snd.fst,
              y88.snd.snd.snd.snd.snd.snd.snd.snd.snd.fst, y88.snd.snd.snd.snd.snd.snd.snd.snd.snd.snd.fst, ()))
else
  some
    (Sum.inr
      (Sum.inr
        (x.fst, x.snd.fst, x.snd.snd.fst, x.snd.snd.snd.fst, x.snd.snd.snd.snd.fst, x.snd.snd.snd.snd.snd.snd.fst,
          x.snd.snd.snd.snd.snd.snd.snd.fst, x.snd.snd.snd.snd.snd.snd.snd.snd.fst, x.snd.snd.snd.snd.snd.snd.snd.snd.snd.fst,
          x.snd.snd.snd.snd.snd.snd.snd.snd.snd.snd.fst, ())))
theorem r15_6_run0 (v0 : Int) (v1 : Int) (v2 : Int) (v3 : Int) (v4 : Int) (v5 : Int) (v6 : Int) (v7 : Int) (v8 : List Int) (v9 : Int) (v10 : Int) : roundK tC G15 (look [(31, W15_31)]) c15_6 p15_6 (v0, v1, v2, v3, v4, v5, v6, v7, v8, v9, v10, ()) = r15_6 (v0, v1, v2, v3, v4, v5, v6, v7, v8, v9, v10, ()) := by kernel_rfl
theorem r15_6_run (x : Int × Int × Int × Int × Int × Int × Int × Int × List Int × Int × Int × Unit) : roundK tC G15 (look [(31, W15_31)]) c15_6 p15_6 x = r15_6 x := r15_6_run0 x.1 x.2.1 x.2.2.1 x.2.2.2.1 x.2.2.2.2.1 x.2.2.2.2.2.1 x.2.2.2.2.2.2.1 x.2.2.2.2.2.2.2.1 x.2.2.2.2.2.2.2.2.1 x.2.2.2.2.2.2.2.2.2.1 x.2.2.2.2.2.2.2.2.2.2.1
noncomputable def l15_6 (x : Int × Int × Int × Int × Int × Int × Int × Int × List Int × Int × Int × Unit) : Option (Bool × Unit ⊕ Int × Int × Int × Int × Int × Int × Int × List Int × Int × Int × Unit) := iterO r15_6 x
noncomputable def W15_6 : LF tC := loopW tC p15_6 2 l15_6
theorem W15_6_ok : keyed 6 (loopOf (bodyOf Tryd.f15) 0) = [.block 2 (.loop c15_6)] ∧ ∀ n, n ≤ 0 → Snd tC n (.block 2 (.loop c15_6)) W15_6.k := ⟨by kernel_rfl, fun n hn => loopW_ok (p := p15_6) (id := 2) Y15 (lam_le (lam_cons W15_31_ok lam_nil) n hn) hn r15_6_run⟩
noncomputable def c15_0 : Code := loopOf (bodyOf Tryd.f15) 0
def p15_0 : LS := ⟨0, [2, 3, 4, 7, 8, 9, 10], ⟨[vB, vB, vI, .one (.one (.ptr 0 0 0)), .one (.one (.ptr 1 0 0)), vB, vB, vI, vI, vI, vI] ++ vBs 63, [.box [.int .i64, .int .i64, .imm 5], .box [.int .i64, .int .i64]]⟩, [⟨.ret, [6], ⟨vBs 6 ++ [vO] ++ vBs 67, []⟩, []⟩, ⟨.exit 0, [], ⟨vBs 74, []⟩, []⟩], []⟩
noncomputable def r15_0 (x : Int × Int × Int × Int × Int × Int × Int × List Int × Int × Int × Unit) : Option (Int × Int × Int × Int × Int × Int × Int × List Int × Int × Int × Unit ⊕ Bool × Unit ⊕ Unit) :=
  bif decide (x.snd.snd.snd.snd.fst ≤ IntKind.i64.wrap (x.snd.snd.fst + x.snd.snd.snd.fst)) then
  (l15_6
        (x.fst, x.snd.fst, x.snd.snd.fst, x.snd.snd.snd.fst, x.snd.snd.snd.snd.fst, IntKind.i64.wrap (x.snd.fst - x.snd.snd.snd.fst),
          x.snd.snd.snd.snd.snd.fst, x.snd.snd.snd.snd.snd.snd.fst, x.snd.snd.snd.snd.snd.snd.snd.fst,
          x.snd.snd.snd.snd.snd.snd.snd.snd.fst, x.snd.snd.snd.snd.snd.snd.snd.snd.snd.fst, ())).bind
    fun y104 =>
    Sum.elim (fun y102 => some (Sum.inr (Sum.inl (y102.fst, ()))))
      (fun y103 =>
        some
          (Sum.inl
            (y103.fst, y103.snd.fst, y103.snd.snd.fst, y103.snd.snd.snd.fst, IntKind.i64.wrap (y103.snd.snd.snd.snd.fst + (1 : Int)),
              y103.snd.snd.snd.snd.snd.fst, y103.snd.snd.snd.snd.snd.snd.fst, y103.snd.snd.snd.snd.snd.snd.snd.fst,
              y103.snd.snd.snd.snd.snd.snd.snd.snd.fst, y103.snd.snd.snd.snd.snd.snd.snd.snd.snd.fst, ())))
      y104
else some (Sum.inr (Sum.inr ()))
theorem r15_0_run0 (v0 : Int) (v1 : Int) (v2 : Int) (v3 : Int) (v4 : Int) (v5 : Int) (v6 : Int) (v7 : List Int) (v8 : Int) (v9 : Int) : roundK tC G15 (look [(6, W15_6)]) c15_0 p15_0 (v0, v1, v2, v3, v4, v5, v6, v7, v8, v9, ()) = r15_0 (v0, v1, v2, v3, v4, v5, v6, v7, v8, v9, ()) := by kernel_rfl
theorem r15_0_run (x : Int × Int × Int × Int × Int × Int × Int × List Int × Int × Int × Unit) : roundK tC G15 (look [(6, W15_6)]) c15_0 p15_0 x = r15_0 x := r15_0_run0 x.1 x.2.1 x.2.2.1 x.2.2.2.1 x.2.2.2.2.1 x.2.2.2.2.2.1 x.2.2.2.2.2.2.1 x.2.2.2.2.2.2.2.1 x.2.2.2.2.2.2.2.2.1 x.2.2.2.2.2.2.2.2.2.1
noncomputable def l15_0 (x : Int × Int × Int × Int × Int × Int × Int × List Int × Int × Int × Unit) : Option (Bool × Unit ⊕ Unit) := iterO r15_0 x
noncomputable def W15_0 : LF tC := loopW tC p15_0 0 l15_0
theorem W15_0_ok : keyed 0 (bodyOf Tryd.f15) = [.block 0 (.loop c15_0)] ∧ ∀ n, n ≤ 0 → Snd tC n (.block 0 (.loop c15_0)) W15_0.k := ⟨by kernel_rfl, fun n hn => loopW_ok (p := p15_0) (id := 0) Y15 (lam_le (lam_cons W15_6_ok lam_nil) n hn) hn r15_0_run⟩
def S15 : FS := ⟨[[.v, .v, .s 5], [.v, .v], [.v]], [⟨[.one (.agg [.int .i64, .int .i64, .imm 5]), .one (.agg [.int .i64, .int .i64]), vI], []⟩], [⟨[vO], []⟩], [[.v]], []⟩
noncomputable def f15 (x : Int × Int × List Int × Int × Int × Int × Unit) : Option (Bool × Unit) :=
  (f32 (x.fst, x.snd.fst, x.snd.snd.fst, ())).bind fun y112 =>
  bif !y112.fst then some (false, ())
  else
    bif !f39 x.snd.snd.snd.fst x.snd.snd.snd.snd.fst then some (false, ())
    else
      bif decide (x.snd.snd.snd.snd.snd.fst < (0 : Int)) then some (false, ())
      else
        bif decide (x.snd.snd.snd.snd.snd.fst > (1024 : Int)) then some (false, ())
        else
          (f40 (x.snd.snd.snd.fst, (64 : Int), ())).bind fun y111 =>
            (f40 (x.snd.snd.snd.snd.fst, (64 : Int), ())).bind fun y110 =>
              (l15_0
                    (x.snd.snd.snd.snd.snd.fst, y111.fst, y110.fst,
                      IntKind.i64.wrap (IntKind.i64.wrap (x.snd.snd.snd.snd.snd.fst.tdiv (64 : Int)) + (2 : Int)),
                      IntKind.i64.wrap
                        (y110.fst - IntKind.i64.wrap (IntKind.i64.wrap (x.snd.snd.snd.snd.snd.fst.tdiv (64 : Int)) + (2 : Int))),
                      x.fst, x.snd.fst, x.snd.snd.fst, x.snd.snd.snd.fst, x.snd.snd.snd.snd.fst, ())).bind
                fun y109 => Sum.elim (fun y107 => some (y107.fst, ())) (fun _x => some (true, ())) y109
noncomputable def F15 : CF tC := mkF tC S15 f15
theorem f15_run : ∀ a, fnS tC G15 (look [(0, W15_0)]) Tryd.f15 S15 a = f15 a := fun a => by kernel_rfl
theorem F15_ok : CFOK tC 15 F15 := mkF_ok Y15 (fn := Tryd.f15) (body := bodyOf Tryd.f15) (by kernel_rfl) (by kernel_rfl) (by kernel_rfl) (m := 0) rfl (lam_le (lam_cons W15_0_ok lam_nil)) f15_run

/-! ref.Check -/
noncomputable def G21 : FuncId → Option (CF tC) := look [(29, F29), (32, F32)]
theorem Y21 : SysN tC G21 := (sys_cons F29_ok (mkF_nat _ _) (sys_cons F32_ok (mkF_nat _ _) (sys_nil tC_ok tC_eq)))
def S21 : FS := ⟨[[.v, .v, .s 5]], [⟨[.one (.agg [.int .i64, .int .i64, .imm 5])], []⟩], [⟨[vI], []⟩], [[.v]], []⟩
noncomputable def f21 (x : Int × Int × List Int × Unit) : Option (Int × Unit) :=
  (f29 (x.fst, x.snd.fst, x.snd.snd.fst, ())).bind fun y8 =>
  bif !y8.fst then some ((1 : Int), ())
  else (f32 (x.fst, x.snd.fst, x.snd.snd.fst, ())).bind fun y7 => bif !y7.fst then some ((3 : Int), ()) else some ((0 : Int), ())
noncomputable def F21 : CF tC := mkF tC S21 f21
theorem f21_run : ∀ a, fnS tC G21 (look []) Tryd.f21 S21 a = f21 a := fun a => by kernel_rfl
theorem F21_ok : CFOK tC 21 F21 := mkF_ok Y21 (fn := Tryd.f21) (body := bodyOf Tryd.f21) (by kernel_rfl) (by kernel_rfl) (by kernel_rfl) (m := 0) rfl (lam_le lam_nil) f21_run

/-! ref.Rooms -/
noncomputable def G17 : FuncId → Option (CF tC) := look [(21, F21), (41, F41)]
theorem Y17 : SysN tC G17 := (sys_cons F21_ok (mkF_nat _ _) (sys_cons F41_ok (mkF_nat _ _) (sys_nil tC_ok tC_eq)))
noncomputable def c17_0 : Code := loopOf (bodyOf Tryd.f17) 0
def p17_0 : LS := ⟨0, [1, 5, 6], ⟨[vB, .one (.one (.ptr 0 0 0)), vB, vB, vB, .one (.one (.sl 1)), vI] ++ vBs 137, [.box [.int .i64, .int .i64, .imm 5], .arr 3]⟩, [⟨.exit 0, [1, 5], ⟨[vB, .one (.one (.ptr 0 0 0)), vB, vB, vB, .one (.one (.sl 1))] ++ vBs 138, [.box [.int .i64, .int .i64, .imm 5], .arr 3]⟩, []⟩], []⟩
noncomputable def r17_0 (x : Nat × Int × Int × Int × List Int × List Int × Unit) : Option (Nat × Int × Int × Int × List Int × List Int × Unit ⊕ Nat × Int × Int × List Int × List Int × Unit) :=
  bif decide (x.snd.fst < (↑x.fst : Int)) then
  bif decide ((0 : Int) ≤ x.snd.fst) && decide (x.snd.fst < (↑x.fst : Int)) then
    x.snd.snd.snd.snd.snd.fst[(0 : Nat) + x.snd.fst.toNat]?.bind fun _x =>
      some
        (Sum.inl
          (x.fst, IntKind.i64.wrap (x.snd.fst + (1 : Int)), x.snd.snd.fst, x.snd.snd.snd.fst, x.snd.snd.snd.snd.fst,
            x.snd.snd.snd.snd.snd.fst.set ((0 : Nat) + x.snd.fst.toNat) (-1 : Int), ()))
  else none
else some (Sum.inr (x.fst, x.snd.snd.fst, x.snd.snd.snd.fst, x.snd.snd.snd.snd.fst, x.snd.snd.snd.snd.snd.fst, ()))
theorem r17_0_run0 (v0 : Nat) (v1 : Int) (v2 : Int) (v3 : Int) (v4 : List Int) (v5 : List Int) : roundK tC G17 (look []) c17_0 p17_0 (v0, v1, v2, v3, v4, v5, ()) = r17_0 (v0, v1, v2, v3, v4, v5, ()) := by kernel_rfl
theorem r17_0_run (x : Nat × Int × Int × Int × List Int × List Int × Unit) : roundK tC G17 (look []) c17_0 p17_0 x = r17_0 x := r17_0_run0 x.1 x.2.1 x.2.2.1 x.2.2.2.1 x.2.2.2.2.1 x.2.2.2.2.2.1
noncomputable def l17_0 (x : Nat × Int × Int × Int × List Int × List Int × Unit) : Option (Nat × Int × Int × List Int × List Int × Unit) := iterO r17_0 x
noncomputable def W17_0 : LF tC := loopW tC p17_0 0 l17_0
theorem W17_0_ok : keyed 0 (bodyOf Tryd.f17) = [.block 0 (.loop c17_0)] ∧ ∀ n, n ≤ 0 → Snd tC n (.block 0 (.loop c17_0)) W17_0.k := ⟨by kernel_rfl, fun n hn => loopW_ok (p := p17_0) (id := 0) Y17 (lam_le lam_nil n hn) hn r17_0_run⟩
noncomputable def c17_67 : Code := subCode (loopOf (loopOf (loopOf (bodyOf Tryd.f17) 2) 4) 6) 67
def p17_67 : PS := ⟨0, [1, 5, 7, 8, 9, 11, 12], ⟨[vB, .one (.one (.ptr 0 0 0)), vB, vB, vB, .one (.one (.sl 1)), vB, vI, vI, .one (.one (.slw 2)), vB, .one (.one (.sl 3)), vI] ++ vBs 131, [.box [.int .i64, .int .i64, .imm 5], .arr 3, .arr 39, .arr 39]⟩, [⟨.normal, [1, 5, 7, 8, 9, 11, 12], ⟨[vB, .one (.one (.ptr 0 0 0)), vB, vB, vB, .one (.one (.sl 1)), vB, vI, vI, .one (.one (.slw 2)), vB, .one (.one (.sl 3)), vI] ++ vBs 131, [.box [.int .i64, .int .i64, .imm 5], .arr 3, .arr 39, .arr 39]⟩, []⟩], []⟩
noncomputable def j17_67 (x : Nat × Int × Int × Nat × Nat × Nat × Int × Int × Int × List Int × List Int × List Pt × List Pt × Unit) : Option (Nat × Int × Int × Nat × Nat × Nat × Int × Int × Int × List Int × List Int × List Pt × List Pt × Unit) :=
  some
  (x.fst, x.snd.fst, x.snd.snd.fst, x.snd.snd.snd.fst, x.snd.snd.snd.snd.fst, x.snd.snd.snd.snd.snd.fst,
    IntKind.i64.wrap (x.snd.snd.snd.snd.snd.snd.fst + (1 : Int)), x.snd.snd.snd.snd.snd.snd.snd.fst, x.snd.snd.snd.snd.snd.snd.snd.snd.fst,
    x.snd.snd.snd.snd.snd.snd.snd.snd.snd.fst, x.snd.snd.snd.snd.snd.snd.snd.snd.snd.snd.fst,
    x.snd.snd.snd.snd.snd.snd.snd.snd.snd.snd.snd.fst, x.snd.snd.snd.snd.snd.snd.snd.snd.snd.snd.snd.snd.fst, ())
theorem j17_67_run0 (v0 : Nat) (v1 : Int) (v2 : Int) (v3 : Nat) (v4 : Nat) (v5 : Nat) (v6 : Int) (v7 : Int) (v8 : Int) (v9 : List Int) (v10 : List Int) (v11 : List Pt) (v12 : List Pt) : pieceK tC G17 (look []) c17_67 p17_67 (v0, v1, v2, v3, v4, v5, v6, v7, v8, v9, v10, v11, v12, ()) = j17_67 (v0, v1, v2, v3, v4, v5, v6, v7, v8, v9, v10, v11, v12, ()) := by kernel_rfl
theorem j17_67_run (x : Nat × Int × Int × Nat × Nat × Nat × Int × Int × Int × List Int × List Int × List Pt × List Pt × Unit) : pieceK tC G17 (look []) c17_67 p17_67 x = j17_67 x := j17_67_run0 x.1 x.2.1 x.2.2.1 x.2.2.2.1 x.2.2.2.2.1 x.2.2.2.2.2.1 x.2.2.2.2.2.2.1 x.2.2.2.2.2.2.2.1 x.2.2.2.2.2.2.2.2.1 x.2.2.2.2.2.2.2.2.2.1 x.2.2.2.2.2.2.2.2.2.2.1 x.2.2.2.2.2.2.2.2.2.2.2.1 x.2.2.2.2.2.2.2.2.2.2.2.2.1
noncomputable def W17_67 : LF tC := cutLF tC p17_67 j17_67
theorem W17_67_ok : keyed 67 (loopOf (loopOf (loopOf (bodyOf Tryd.f17) 2) 4) 6) = [c17_67] ∧ ∀ n, n ≤ 0 → Snd tC n c17_67 W17_67.k := ⟨by kernel_rfl, fun n hn => cut_ok (p := p17_67) Y17 (lam_le lam_nil n hn) hn j17_67_run⟩
noncomputable def c17_18 : Code := loopOf (loopOf (loopOf (bodyOf Tryd.f17) 2) 4) 6
def p17_18 : LS := ⟨0, [1, 5, 7, 8, 9, 11, 12], ⟨[vB, .one (.one (.ptr 0 0 0)), vB, vB, vB, .one (.one (.sl 1)), vB, vI, vI, .one (.one (.slw 2)), vB, .one (.one (.sl 3)), vI] ++ vBs 131, [.box [.int .i64, .int .i64, .imm 5], .arr 3, .arr 39, .arr 39]⟩, [⟨.exit 6, [1, 5, 7, 8, 9], ⟨[vB, .one (.one (.ptr 0 0 0)), vB, vB, vB, .one (.one (.sl 1)), vB, vI, vI, .one (.one (.slw 2))] ++ vBs 134, [.box [.int .i64, .int .i64, .imm 5], .arr 3, .arr 39]⟩, []⟩], []⟩
noncomputable def r17_18 (x : Nat × Int × Int × Nat × Nat × Nat × Int × Int × Int × List Int × List Int × List Pt × List Pt × Unit) : Option
  (Nat × Int × Int × Nat × Nat × Nat × Int × Int × Int × List Int × List Int × List Pt × List Pt × Unit ⊕
    Nat × Int × Int × Nat × Nat × Int × Int × List Int × List Int × List Pt × Unit) :=
  bif decide (x.snd.snd.snd.snd.snd.snd.fst < (4 : Int)) then
  bif decide ((0 : Int) ≤ x.snd.snd.snd.snd.snd.snd.fst) && decide (x.snd.snd.snd.snd.snd.snd.fst < (↑x.snd.snd.snd.snd.snd.fst : Int)) then
    x.snd.snd.snd.snd.snd.snd.snd.snd.snd.snd.snd.snd.fst[(0 : Nat) + x.snd.snd.snd.snd.snd.snd.fst.toNat]?.bind fun y261 =>
      (f41
            (x.snd.snd.snd.snd.snd.snd.snd.fst, x.snd.snd.snd.snd.snd.snd.snd.snd.fst, x.snd.snd.snd.snd.snd.snd.snd.snd.snd.fst, y261.X,
              y261.Y, ())).bind
        fun y260 =>
        bif y260.fst == (1 : Int) then
          bif
              decide ((0 : Int) ≤ IntKind.i64.wrap (IntKind.i64.wrap (y261.Y * x.snd.snd.snd.snd.snd.snd.snd.fst) + y261.X)) &&
                decide (IntKind.i64.wrap (IntKind.i64.wrap (y261.Y * x.snd.snd.snd.snd.snd.snd.snd.fst) + y261.X) < (↑x.fst : Int)) then
            x.snd.snd.snd.snd.snd.snd.snd.snd.snd.snd.fst[(0 : Nat) +
                    (IntKind.i64.wrap (IntKind.i64.wrap (y261.Y * x.snd.snd.snd.snd.snd.snd.snd.fst) + y261.X)).toNat]?.bind
              fun y258 =>
              bif decide (y258 < (0 : Int)) then
                bif
                    decide ((0 : Int) ≤ IntKind.i64.wrap (IntKind.i64.wrap (y261.Y * x.snd.snd.snd.snd.snd.snd.snd.fst) + y261.X)) &&
                      decide
                        (IntKind.i64.wrap (IntKind.i64.wrap (y261.Y * x.snd.snd.snd.snd.snd.snd.snd.fst) + y261.X) < (↑x.fst : Int)) then
                  x.snd.snd.snd.snd.snd.snd.snd.snd.snd.snd.fst[(0 : Nat) +
                          (IntKind.i64.wrap (IntKind.i64.wrap (y261.Y * x.snd.snd.snd.snd.snd.snd.snd.fst) + y261.X)).toNat]?.bind
                    fun _x =>
                    bif decide (x.snd.snd.snd.fst + x.snd.snd.snd.snd.fst ≤ x.snd.snd.snd.snd.snd.snd.snd.snd.snd.snd.snd.fst.length) then
                      bif roomy (x.snd.snd.snd.snd.fst + (1 : Nat)) (16 : Nat) then
                        (j17_67
                              (x.fst, x.snd.fst, x.snd.snd.fst, (0 : Nat), x.snd.snd.snd.snd.fst + (1 : Nat), x.snd.snd.snd.snd.snd.fst,
                                x.snd.snd.snd.snd.snd.snd.fst, x.snd.snd.snd.snd.snd.snd.snd.fst, x.snd.snd.snd.snd.snd.snd.snd.snd.fst,
                                x.snd.snd.snd.snd.snd.snd.snd.snd.snd.fst,
                                x.snd.snd.snd.snd.snd.snd.snd.snd.snd.snd.fst.set
                                  ((0 : Nat) +
                                    (IntKind.i64.wrap (IntKind.i64.wrap (y261.Y * x.snd.snd.snd.snd.snd.snd.snd.fst) + y261.X)).toNat)
                                  x.snd.fst,
                                List.take x.snd.snd.snd.snd.fst
                                    (List.drop x.snd.snd.snd.fst x.snd.snd.snd.snd.snd.snd.snd.snd.snd.snd.snd.fst) ++
                                  [Pt.mk y261.X y261.Y],
                                x.snd.snd.snd.snd.snd.snd.snd.snd.snd.snd.snd.snd.fst, ())).bind
                          fun y255 =>
                          some
                            (Sum.inl
                              (y255.fst, y255.snd.fst, y255.snd.snd.fst, y255.snd.snd.snd.fst, y255.snd.snd.snd.snd.fst,
                                y255.snd.snd.snd.snd.snd.fst, y255.snd.snd.snd.snd.snd.snd.fst, y255.snd.snd.snd.snd.snd.snd.snd.fst,
                                y255.snd.snd.snd.snd.snd.snd.snd.snd.fst, y255.snd.snd.snd.snd.snd.snd.snd.snd.snd.fst,
                                y255.snd.snd.snd.snd.snd.snd.snd.snd.snd.snd.fst, y255.snd.snd.snd.snd.snd.snd.snd.snd.snd.snd.snd.fst,
                                y255.snd.snd.snd.snd.snd.snd.snd.snd.snd.snd.snd.snd.fst, ()))
                      else none
                    else none
                else none
              else
                (j17_67
                      (x.fst, x.snd.fst, x.snd.snd.fst, x.snd.snd.snd.fst, x.snd.snd.snd.snd.fst, x.snd.snd.snd.snd.snd.fst,
                        x.snd.snd.snd.snd.snd.snd.fst, x.snd.snd.snd.snd.snd.snd.snd.fst, x.snd.snd.snd.snd.snd.snd.snd.snd.fst,
                        x.snd.snd.snd.snd.snd.snd.snd.snd.snd.fst, x.snd.snd.snd.snd.snd.snd.snd.snd.snd.snd.fst,
                        x.snd.snd.snd.snd.snd.snd.snd.snd.snd.snd.snd.fst, x.snd.snd.snd.snd.snd.snd.snd.snd.snd.snd.snd.snd.fst, ())).bind
                  fun y257 =>
                  some
                    (Sum.inl
                      (y257.fst, y257.snd.fst, y257.snd.snd.fst, y257.snd.snd.snd.fst, y257.snd.snd.snd.snd.fst,
                        y257.snd.snd.snd.snd.snd.fst, y257.snd.snd.snd.snd.snd.snd.fst, y257.snd.snd.snd.snd.snd.snd.snd.fst,
                        y257.snd.snd.snd.snd.snd.snd.snd.snd.fst, y257.snd.snd.snd.snd.snd.snd.snd.snd.snd.fst,
                        y257.snd.snd.snd.snd.snd.snd.snd.snd.snd.snd.fst, y257.snd.snd.snd.snd.snd.snd.snd.snd.snd.snd.snd.fst,
                        y257.snd.snd.snd.snd.snd.snd.snd.snd.snd.snd.snd.snd.fst, ()))
          else none
        else
          (j17_67
                (x.fst, x.snd.fst, x.snd.snd.fst, x.snd.snd.snd.fst, x.snd.snd.snd.snd.fst, x.snd.snd.snd.snd.snd.fst,
                  x.snd.snd.snd.snd.snd.snd.fst, x.snd.snd.snd.snd.snd.snd.snd.fst, x.snd.snd.snd.snd.snd.snd.snd.snd.fst,
                  x.snd.snd.snd.snd.snd.snd.snd.snd.snd.fst, x.snd.snd.snd.snd.snd.snd.snd.snd.snd.snd.fst,
                  x.snd.snd.snd.snd.snd.snd.snd.snd.snd.snd.snd.fst, x.snd.snd.snd.snd.snd.snd.snd.snd.snd.snd.snd.snd.fst, ())).bind
            fun y259 =>
            some
              (Sum.inl
                (y259.fst, y259.snd.fst, y259.snd.snd.fst, y259.snd.snd.snd.fst, y259.snd.snd.snd.snd.fst, y259.snd.snd.snd.snd.snd.fst,
                  y259.snd.snd.snd.snd.snd.snd.fst, y259.snd.snd.snd.snd.snd.snd.snd.fst, y259.snd.snd.snd.snd.snd.snd.snd.snd.fst,
                  y259.snd.snd.snd.snd.snd.snd.snd.snd.snd.fst, y259.snd.snd.snd.snd.snd.snd.snd.snd.snd.snd.fst,
                  y259.snd.snd.snd.snd.snd.snd.snd.snd.snd.snd.snd.fst, y259.snd.snd.snd.snd.snd.snd.snd.snd.snd.snd.snd.snd.fst, ()))
  else none
else
  some
    (Sum.inr
      (x.fst, x.snd.fst, x.snd.snd.fst, x.snd.snd.snd.fst, x.snd.snd.snd.snd.fst, x.snd.snd.snd.snd.snd.snd.snd.fst,
        x.snd.snd.snd.snd.snd.snd.snd.snd.fst, x.snd.snd.snd.snd.snd.snd.snd.snd.snd.fst, x.snd.snd.snd.snd.snd.snd.snd.snd.snd.snd.fst,
        x.snd.snd.snd.snd.snd.snd.snd.snd.snd.snd.snd.fst, ()))
theorem r17_18_run0 (v0 : Nat) (v1 : Int) (v2 : Int) (v3 : Nat) (v4 : Nat) (v5 : Nat) (v6 : Int) (v7 : Int) (v8 : Int) (v9 : List Int) (v10 : List Int) (v11 : List Pt) (v12 : List Pt) : roundK tC G17 (look [(67, W17_67)]) c17_18 p17_18 (v0, v1, v2, v3, v4, v5, v6, v7, v8, v9, v10, v11, v12, ()) = r17_18 (v0, v1, v2, v3, v4, v5, v6, v7, v8, v9, v10, v11, v12, ()) := by kernel_rfl
theorem r17_18_run (x : Nat × Int × Int × Nat × Nat × Nat × Int × Int × Int × List Int × List Int × List Pt × List Pt × Unit) : roundK tC G17 (look [(67, W17_67)]) c17_18 p17_18 x = r17_18 x := r17_18_run0 x.1 x.2.1 x.2.2.1 x.2.2.2.1 x.2.2.2.2.1 x.2.2.2.2.2.1 x.2.2.2.2.2.2.1 x.2.2.2.2.2.2.2.1 x.2.2.2.2.2.2.2.2.1 x.2.2.2.2.2.2.2.2.2.1 x.2.2.2.2.2.2.2.2.2.2.1 x.2.2.2.2.2.2.2.2.2.2.2.1 x.2.2.2.2.2.2.2.2.2.2.2.2.1
noncomputable def l17_18 (x : Nat × Int × Int × Nat × Nat × Nat × Int × Int × Int × List Int × List Int × List Pt × List Pt × Unit) : Option (Nat × Int × Int × Nat × Nat × Int × Int × List Int × List Int × List Pt × Unit) := iterO r17_18 x
noncomputable def W17_18 : LF tC := loopW tC p17_18 6 l17_18
theorem W17_18_ok : keyed 18 (loopOf (loopOf (bodyOf Tryd.f17) 2) 4) = [.block 6 (.loop c17_18)] ∧ ∀ n, n ≤ 0 → Snd tC n (.block 6 (.loop c17_18)) W17_18.k := ⟨by kernel_rfl, fun n hn => loopW_ok (p := p17_18) (id := 6) Y17 (lam_le (lam_cons W17_67_ok lam_nil) n hn) hn r17_18_run⟩
noncomputable def c17_12 : Code := loopOf (loopOf (bodyOf Tryd.f17) 2) 4
def p17_12 : LS := ⟨0, [1, 5, 7, 8, 9], ⟨[vB, .one (.one (.ptr 0 0 0)), vB, vB, vB, .one (.one (.sl 1)), vB, vI, vI, .one (.one (.slw 2))] ++ vBs 134, [.box [.int .i64, .int .i64, .imm 5], .arr 3, .arr 39]⟩, [⟨.exit 4, [1, 5, 7, 8], ⟨[vB, .one (.one (.ptr 0 0 0)), vB, vB, vB, .one (.one (.sl 1)), vB, vI, vI] ++ vBs 135, [.box [.int .i64, .int .i64, .imm 5], .arr 3]⟩, []⟩], []⟩
noncomputable def r17_12 (x : Nat × Int × Int × Nat × Nat × Int × Int × List Int × List Int × List Pt × Unit) : Option
  (Nat × Int × Int × Nat × Nat × Int × Int × List Int × List Int × List Pt × Unit ⊕
    Nat × Int × Int × Int × Int × List Int × List Int × Unit) :=
  bif decide ((↑x.snd.snd.snd.snd.fst : Int) > (0 : Int)) then
  bif true && decide ((0 : Int) < (↑x.snd.snd.snd.snd.fst : Int)) then
    x.snd.snd.snd.snd.snd.snd.snd.snd.snd.fst[x.snd.snd.snd.fst + (0 : Nat)]?.bind fun y280 =>
      bif
          true && decide ((1 : Int) ≤ (↑x.snd.snd.snd.snd.fst : Int)) &&
              decide ((↑x.snd.snd.snd.snd.fst : Int) ≤ (↑x.snd.snd.snd.snd.fst : Int)) &&
            decide ((↑x.snd.snd.snd.snd.fst : Int) ≤ (↑x.snd.snd.snd.snd.fst : Int)) then
        (l17_18
              (x.fst, x.snd.fst, x.snd.snd.fst, x.snd.snd.snd.fst + (1 : Nat), (↑x.snd.snd.snd.snd.fst : Int).toNat - (1 : Nat), (4 : Nat),
                (0 : Int), x.snd.snd.snd.snd.snd.fst, x.snd.snd.snd.snd.snd.snd.fst, x.snd.snd.snd.snd.snd.snd.snd.fst,
                x.snd.snd.snd.snd.snd.snd.snd.snd.fst, x.snd.snd.snd.snd.snd.snd.snd.snd.snd.fst,
                [Pt.mk (IntKind.i64.wrap (y280.X + (1 : Int))) y280.Y, Pt.mk y280.X (IntKind.i64.wrap (y280.Y + (1 : Int))),
                  Pt.mk (IntKind.i64.wrap (y280.X - (1 : Int))) y280.Y, Pt.mk y280.X (IntKind.i64.wrap (y280.Y - (1 : Int)))],
                ())).bind
          fun y279 =>
          some
            (Sum.inl
              (y279.fst, y279.snd.fst, y279.snd.snd.fst, y279.snd.snd.snd.fst, y279.snd.snd.snd.snd.fst, y279.snd.snd.snd.snd.snd.fst,
                y279.snd.snd.snd.snd.snd.snd.fst, y279.snd.snd.snd.snd.snd.snd.snd.fst, y279.snd.snd.snd.snd.snd.snd.snd.snd.fst,
                y279.snd.snd.snd.snd.snd.snd.snd.snd.snd.fst, ()))
      else none
  else none
else
  some
    (Sum.inr
      (x.fst, x.snd.fst, x.snd.snd.fst, x.snd.snd.snd.snd.snd.fst, x.snd.snd.snd.snd.snd.snd.fst, x.snd.snd.snd.snd.snd.snd.snd.fst,
        x.snd.snd.snd.snd.snd.snd.snd.snd.fst, ()))
theorem r17_12_run0 (v0 : Nat) (v1 : Int) (v2 : Int) (v3 : Nat) (v4 : Nat) (v5 : Int) (v6 : Int) (v7 : List Int) (v8 : List Int) (v9 : List Pt) : roundK tC G17 (look [(18, W17_18)]) c17_12 p17_12 (v0, v1, v2, v3, v4, v5, v6, v7, v8, v9, ()) = r17_12 (v0, v1, v2, v3, v4, v5, v6, v7, v8, v9, ()) := by kernel_rfl
theorem r17_12_run (x : Nat × Int × Int × Nat × Nat × Int × Int × List Int × List Int × List Pt × Unit) : roundK tC G17 (look [(18, W17_18)]) c17_12 p17_12 x = r17_12 x := r17_12_run0 x.1 x.2.1 x.2.2.1 x.2.2.2.1 x.2.2.2.2.1 x.2.2.2.2.2.1 x.2.2.2.2.2.2.1 x.2.2.2.2.2.2.2.1 x.2.2.2.2.2.2.2.2.1 x.2.2.2.2.2.2.2.2.2.1
noncomputable def l17_12 (x : Nat × Int × Int × Nat × Nat × Int × Int × List Int × List Int × List Pt × Unit) : Option (Nat × Int × Int × Int × Int × List Int × List Int × Unit) := iterO r17_12 x
noncomputable def W17_12 : LF tC := loopW tC p17_12 4 l17_12
theorem W17_12_ok : keyed 12 (loopOf (bodyOf Tryd.f17) 2) = [.block 4 (.loop c17_12)] ∧ ∀ n, n ≤ 0 → Snd tC n (.block 4 (.loop c17_12)) W17_12.k := ⟨by kernel_rfl, fun n hn => loopW_ok (p := p17_12) (id := 4) Y17 (lam_le (lam_cons W17_18_ok lam_nil) n hn) hn r17_12_run⟩
noncomputable def c17_37 : Code := subCode (loopOf (bodyOf Tryd.f17) 2) 37
def p17_37 : PS := ⟨0, [1, 5, 7, 8], ⟨[vB, .one (.one (.ptr 0 0 0)), vB, vB, vB, .one (.one (.sl 1)), vB, vI, vI] ++ vBs 135, [.box [.int .i64, .int .i64, .imm 5], .arr 3]⟩, [⟨.normal, [1, 5, 7, 8], ⟨[vB, .one (.one (.ptr 0 0 0)), vB, vB, vB, .one (.one (.sl 1)), vB, vI, vI] ++ vBs 135, [.box [.int .i64, .int .i64, .imm 5], .arr 3]⟩, []⟩], []⟩
noncomputable def j17_37 (x : Nat × Int × Int × Int × Int × List Int × List Int × Unit) : Option (Nat × Int × Int × Int × Int × List Int × List Int × Unit) :=
  some
  (x.fst, x.snd.fst, IntKind.i64.wrap (x.snd.snd.fst + (1 : Int)), x.snd.snd.snd.fst, x.snd.snd.snd.snd.fst, x.snd.snd.snd.snd.snd.fst,
    x.snd.snd.snd.snd.snd.snd.fst, ())
theorem j17_37_run0 (v0 : Nat) (v1 : Int) (v2 : Int) (v3 : Int) (v4 : Int) (v5 : List Int) (v6 : List Int) : pieceK tC G17 (look []) c17_37 p17_37 (v0, v1, v2, v3, v4, v5, v6, ()) = j17_37 (v0, v1, v2, v3, v4, v5, v6, ()) := by kernel_rfl
theorem j17_37_run (x : Nat × Int × Int × Int × Int × List Int × List Int × Unit) : pieceK tC G17 (look []) c17_37 p17_37 x = j17_37 x := j17_37_run0 x.1 x.2.1 x.2.2.1 x.2.2.2.1 x.2.2.2.2.1 x.2.2.2.2.2.1 x.2.2.2.2.2.2.1
noncomputable def W17_37 : LF tC := cutLF tC p17_37 j17_37
theorem W17_37_ok : keyed 37 (loopOf (bodyOf Tryd.f17) 2) = [c17_37] ∧ ∀ n, n ≤ 0 → Snd tC n c17_37 W17_37.k := ⟨by kernel_rfl, fun n hn => cut_ok (p := p17_37) Y17 (lam_le lam_nil n hn) hn j17_37_run⟩
noncomputable def c17_6 : Code := loopOf (bodyOf Tryd.f17) 2
def p17_6 : LS := ⟨0, [1, 5, 7, 8], ⟨[vB, .one (.one (.ptr 0 0 0)), vB, vB, vB, .one (.one (.sl 1)), vB, vI, vI] ++ vBs 135, [.box [.int .i64, .int .i64, .imm 5], .arr 3]⟩, [⟨.exit 2, [5], ⟨vBs 5 ++ [.one (.one (.sl 0))] ++ vBs 138, [.arr 3]⟩, []⟩], []⟩
noncomputable def r17_6 (x : Nat × Int × Int × Int × Int × List Int × List Int × Unit) : Option (Nat × Int × Int × Int × Int × List Int × List Int × Unit ⊕ Nat × List Int × Unit) :=
  bif decide (x.snd.snd.fst < (↑x.fst : Int)) then
  (idxO x.snd.snd.snd.snd.snd.fst x.snd.snd.fst).bind fun y331 =>
    bif y331 != (1 : Int) then
      (j17_37
            (x.fst, x.snd.fst, x.snd.snd.fst, x.snd.snd.snd.fst, x.snd.snd.snd.snd.fst, x.snd.snd.snd.snd.snd.fst,
              x.snd.snd.snd.snd.snd.snd.fst, ())).bind
        fun y325 =>
        some
          (Sum.inl
            (y325.fst, y325.snd.fst, y325.snd.snd.fst, y325.snd.snd.snd.fst, y325.snd.snd.snd.snd.fst, y325.snd.snd.snd.snd.snd.fst,
              y325.snd.snd.snd.snd.snd.snd.fst, ()))
    else
      bif decide ((0 : Int) ≤ x.snd.snd.fst) && decide (x.snd.snd.fst < (↑x.fst : Int)) then
        x.snd.snd.snd.snd.snd.snd.fst[(0 : Nat) + x.snd.snd.fst.toNat]?.bind fun y330 =>
          bif decide (y330 ≥ (0 : Int)) then
            (j17_37
                  (x.fst, x.snd.fst, x.snd.snd.fst, x.snd.snd.snd.fst, x.snd.snd.snd.snd.fst, x.snd.snd.snd.snd.snd.fst,
                    x.snd.snd.snd.snd.snd.snd.fst, ())).bind
              fun y326 =>
              some
                (Sum.inl
                  (y326.fst, y326.snd.fst, y326.snd.snd.fst, y326.snd.snd.snd.fst, y326.snd.snd.snd.snd.fst, y326.snd.snd.snd.snd.snd.fst,
                    y326.snd.snd.snd.snd.snd.snd.fst, ()))
          else
            bif decide ((0 : Int) ≤ x.snd.snd.fst) && decide (x.snd.snd.fst < (↑x.fst : Int)) then
              x.snd.snd.snd.snd.snd.snd.fst[(0 : Nat) + x.snd.snd.fst.toNat]?.bind fun _x =>
                bif x.snd.snd.snd.fst == (0 : Int) then none
                else
                  bif x.snd.snd.snd.fst == (0 : Int) then none
                  else
                    (l17_12
                          (x.fst, x.snd.fst, x.snd.snd.fst, (0 : Nat), (1 : Nat), x.snd.snd.snd.fst, x.snd.snd.snd.snd.fst,
                            x.snd.snd.snd.snd.snd.fst, x.snd.snd.snd.snd.snd.snd.fst.set ((0 : Nat) + x.snd.snd.fst.toNat) x.snd.fst,
                            [Pt.mk (x.snd.snd.fst.tmod x.snd.snd.snd.fst) (IntKind.i64.wrap (x.snd.snd.fst.tdiv x.snd.snd.snd.fst))],
                            ())).bind
                      fun y328 =>
                      (j17_37
                            (y328.fst, IntKind.i64.wrap (y328.snd.fst + (1 : Int)), y328.snd.snd.fst, y328.snd.snd.snd.fst,
                              y328.snd.snd.snd.snd.fst, y328.snd.snd.snd.snd.snd.fst, y328.snd.snd.snd.snd.snd.snd.fst, ())).bind
                        fun y327 =>
                        some
                          (Sum.inl
                            (y327.fst, y327.snd.fst, y327.snd.snd.fst, y327.snd.snd.snd.fst, y327.snd.snd.snd.snd.fst,
                              y327.snd.snd.snd.snd.snd.fst, y327.snd.snd.snd.snd.snd.snd.fst, ()))
            else none
      else none
else some (Sum.inr (x.fst, x.snd.snd.snd.snd.snd.snd.fst, ()))
theorem r17_6_run0 (v0 : Nat) (v1 : Int) (v2 : Int) (v3 : Int) (v4 : Int) (v5 : List Int) (v6 : List Int) : roundK tC G17 (look [(12, W17_12), (37, W17_37)]) c17_6 p17_6 (v0, v1, v2, v3, v4, v5, v6, ()) = r17_6 (v0, v1, v2, v3, v4, v5, v6, ()) := by kernel_rfl
theorem r17_6_run (x : Nat × Int × Int × Int × Int × List Int × List Int × Unit) : roundK tC G17 (look [(12, W17_12), (37, W17_37)]) c17_6 p17_6 x = r17_6 x := r17_6_run0 x.1 x.2.1 x.2.2.1 x.2.2.2.1 x.2.2.2.2.1 x.2.2.2.2.2.1 x.2.2.2.2.2.2.1
noncomputable def l17_6 (x : Nat × Int × Int × Int × Int × List Int × List Int × Unit) : Option (Nat × List Int × Unit) := iterO r17_6 x
noncomputable def W17_6 : LF tC := loopW tC p17_6 2 l17_6
theorem W17_6_ok : keyed 6 (bodyOf Tryd.f17) = [.block 2 (.loop c17_6)] ∧ ∀ n, n ≤ 0 → Snd tC n (.block 2 (.loop c17_6)) W17_6.k := ⟨by kernel_rfl, fun n hn => loopW_ok (p := p17_6) (id := 2) Y17 (lam_le (lam_cons W17_12_ok (lam_cons W17_37_ok lam_nil)) n hn) hn r17_6_run⟩
def S17 : FS := ⟨[[.v, .v, .s 5]], [⟨[.one (.agg [.int .i64, .int .i64, .imm 5])], []⟩], [⟨[.tup [.one (.sl 0), .one (.int .i64)]], [.arr 3]⟩], [[.v], [.v]], [(2, 3)]⟩
noncomputable def f17 (x : Int × Int × List Int × Unit) : Option (Nat × Int × List Int × Unit) :=
  (f21 (x.fst, x.snd.fst, x.snd.snd.fst, ())).bind fun y339 =>
  bif y339.fst != (0 : Int) then some ((0 : Nat), y339.fst, [], ())
  else
    bif
        decide ((0 : Int) ≤ IntKind.i64.wrap (x.fst * x.snd.fst)) &&
              decide (IntKind.i64.wrap (x.fst * x.snd.fst) ≤ IntKind.i64.wrap (x.fst * x.snd.fst)) &&
            decide (IntKind.i64.wrap (x.fst * x.snd.fst) * (8 : Int) ≤ (140737488355328 : Int)) &&
          decide (IntKind.i64.wrap (x.fst * x.snd.fst) ≤ (140737488355328 : Int)) then
      (l17_0
            ((IntKind.i64.wrap (x.fst * x.snd.fst)).toNat, (0 : Int), x.fst, x.snd.fst, x.snd.snd.fst,
              List.replicate (IntKind.i64.wrap (x.fst * x.snd.fst)).toNat (0 : Int), ())).bind
        fun y338 =>
        (l17_6 (y338.fst, (0 : Int), (0 : Int), y338.snd.fst, y338.snd.snd.fst, y338.snd.snd.snd.fst, y338.snd.snd.snd.snd.fst, ())).bind
          fun y337 => some (y337.fst, (0 : Int), y337.snd.fst, ())
    else none
noncomputable def F17 : CF tC := mkF tC S17 f17
theorem f17_run : ∀ a, fnS tC G17 (look [(0, W17_0), (6, W17_6)]) Tryd.f17 S17 a = f17 a := fun a => by kernel_rfl
theorem F17_ok : CFOK tC 17 F17 := mkF_ok Y17 (fn := Tryd.f17) (body := bodyOf Tryd.f17) (by kernel_rfl) (by kernel_rfl) (by kernel_rfl) (m := 0) rfl (lam_le (lam_cons W17_0_ok (lam_cons W17_6_ok lam_nil))) f17_run

/-! ref.Solid -/
noncomputable def G23 : FuncId → Option (CF tC) := look [(32, F32), (41, F41)]
theorem Y23 : SysN tC G23 := (sys_cons F32_ok (mkF_nat _ _) (sys_cons F41_ok (mkF_nat _ _) (sys_nil tC_ok tC_eq)))
noncomputable def c23_25 : Code := subCode (loopOf (loopOf (bodyOf Tryd.f23) 0) 2) 25
def p23_25 : PS := ⟨0, [1, 3, 4], ⟨[vB, .one (.one (.ptr 0 0 0)), vB, vI, vI] ++ vBs 43, [.box [.int .i64, .int .i64, .imm 5]]⟩, [⟨.normal, [1, 3, 4], ⟨[vB, .one (.one (.ptr 0 0 0)), vB, vI, vI] ++ vBs 43, [.box [.int .i64, .int .i64, .imm 5]]⟩, []⟩], []⟩
noncomputable def j23_25 (x : Int × Int × Int × Int × List Int × Unit) : Option (Int × Int × Int × Int × List Int × Unit) :=
  some (x.fst, IntKind.i64.wrap (x.snd.fst + (1 : Int)), x.snd.snd.fst, x.snd.snd.snd.fst, x.snd.snd.snd.snd.fst, ())
theorem j23_25_run0 (v0 : Int) (v1 : Int) (v2 : Int) (v3 : Int) (v4 : List Int) : pieceK tC G23 (look []) c23_25 p23_25 (v0, v1, v2, v3, v4, ()) = j23_25 (v0, v1, v2, v3, v4, ()) := by kernel_rfl
theorem j23_25_run (x : Int × Int × Int × Int × List Int × Unit) : pieceK tC G23 (look []) c23_25 p23_25 x = j23_25 x := j23_25_run0 x.1 x.2.1 x.2.2.1 x.2.2.2.1 x.2.2.2.2.1
noncomputable def W23_25 : LF tC := cutLF tC p23_25 j23_25
theorem W23_25_ok : keyed 25 (loopOf (loopOf (bodyOf Tryd.f23) 0) 2) = [c23_25] ∧ ∀ n, n ≤ 0 → Snd tC n c23_25 W23_25.k := ⟨by kernel_rfl, fun n hn => cut_ok (p := p23_25) Y23 (lam_le lam_nil n hn) hn j23_25_run⟩
noncomputable def c23_6 : Code := loopOf (loopOf (bodyOf Tryd.f23) 0) 2
def p23_6 : LS := ⟨0, [1, 3, 4], ⟨[vB, .one (.one (.ptr 0 0 0)), vB, vI, vI] ++ vBs 43, [.box [.int .i64, .int .i64, .imm 5]]⟩, [⟨.ret, [2], ⟨[vB, vB, vO] ++ vBs 45, []⟩, []⟩, ⟨.exit 2, [1, 3], ⟨[vB, .one (.one (.ptr 0 0 0)), vB, vI] ++ vBs 44, [.box [.int .i64, .int .i64, .imm 5]]⟩, []⟩], []⟩
noncomputable def r23_6 (x : Int × Int × Int × Int × List Int × Unit) : Option (Int × Int × Int × Int × List Int × Unit ⊕ Bool × Unit ⊕ Int × Int × Int × List Int × Unit) :=
  bif decide (x.snd.fst < x.snd.snd.fst) then
  bif x.snd.fst == (0 : Int) then
    (f41 (x.snd.snd.fst, x.snd.snd.snd.fst, x.snd.snd.snd.snd.fst, x.snd.fst, x.fst, ())).bind fun y59 =>
      bif y59.fst != (2 : Int) then some (Sum.inr (Sum.inl (false, ())))
      else
        (j23_25 (x.fst, x.snd.fst, x.snd.snd.fst, x.snd.snd.snd.fst, x.snd.snd.snd.snd.fst, ())).bind fun y58 =>
          some (Sum.inl (y58.fst, y58.snd.fst, y58.snd.snd.fst, y58.snd.snd.snd.fst, y58.snd.snd.snd.snd.fst, ()))
  else
    bif x.fst == (0 : Int) then
      (f41 (x.snd.snd.fst, x.snd.snd.snd.fst, x.snd.snd.snd.snd.fst, x.snd.fst, x.fst, ())).bind fun y61 =>
        bif y61.fst != (2 : Int) then some (Sum.inr (Sum.inl (false, ())))
        else
          (j23_25 (x.fst, x.snd.fst, x.snd.snd.fst, x.snd.snd.snd.fst, x.snd.snd.snd.snd.fst, ())).bind fun y60 =>
            some (Sum.inl (y60.fst, y60.snd.fst, y60.snd.snd.fst, y60.snd.snd.snd.fst, y60.snd.snd.snd.snd.fst, ()))
    else
      bif x.snd.fst == IntKind.i64.wrap (x.snd.snd.fst - (1 : Int)) then
        (f41 (x.snd.snd.fst, x.snd.snd.snd.fst, x.snd.snd.snd.snd.fst, x.snd.fst, x.fst, ())).bind fun y63 =>
          bif y63.fst != (2 : Int) then some (Sum.inr (Sum.inl (false, ())))
          else
            (j23_25 (x.fst, x.snd.fst, x.snd.snd.fst, x.snd.snd.snd.fst, x.snd.snd.snd.snd.fst, ())).bind fun y62 =>
              some (Sum.inl (y62.fst, y62.snd.fst, y62.snd.snd.fst, y62.snd.snd.snd.fst, y62.snd.snd.snd.snd.fst, ()))
      else
        bif x.fst == IntKind.i64.wrap (x.snd.snd.snd.fst - (1 : Int)) then
          (f41 (x.snd.snd.fst, x.snd.snd.snd.fst, x.snd.snd.snd.snd.fst, x.snd.fst, x.fst, ())).bind fun y65 =>
            bif y65.fst != (2 : Int) then some (Sum.inr (Sum.inl (false, ())))
            else
              (j23_25 (x.fst, x.snd.fst, x.snd.snd.fst, x.snd.snd.snd.fst, x.snd.snd.snd.snd.fst, ())).bind fun y64 =>
                some (Sum.inl (y64.fst, y64.snd.fst, y64.snd.snd.fst, y64.snd.snd.snd.fst, y64.snd.snd.snd.snd.fst, ()))
        else
          (j23_25 (x.fst, x.snd.fst, x.snd.snd.fst, x.snd.snd.snd.fst, x.snd.snd.snd.snd.fst, ())).bind fun y66 =>
            some (Sum.inl (y66.fst, y66.snd.fst, y66.snd.snd.fst, y66.snd.snd.snd.fst, y66.snd.snd.snd.snd.fst, ()))
else some (Sum.inr (Sum.inr (x.fst, x.snd.snd.fst, x.snd.snd.snd.fst, x.snd.snd.snd.snd.fst, ())))
theorem r23_6_run0 (v0 : Int) (v1 : Int) (v2 : Int) (v3 : Int) (v4 : List Int) : roundK tC G23 (look [(25, W23_25)]) c23_6 p23_6 (v0, v1, v2, v3, v4, ()) = r23_6 (v0, v1, v2, v3, v4, ()) := by kernel_rfl
theorem r23_6_run (x : Int × Int × Int × Int × List Int × Unit) : roundK tC G23 (look [(25, W23_25)]) c23_6 p23_6 x = r23_6 x := r23_6_run0 x.1 x.2.1 x.2.2.1 x.2.2.2.1 x.2.2.2.2.1
noncomputable def l23_6 (x : Int × Int × Int × Int × List Int × Unit) : Option (Bool × Unit ⊕ Int × Int × Int × List Int × Unit) := iterO r23_6 x
noncomputable def W23_6 : LF tC := loopW tC p23_6 2 l23_6
theorem W23_6_ok : keyed 6 (loopOf (bodyOf Tryd.f23) 0) = [.block 2 (.loop c23_6)] ∧ ∀ n, n ≤ 0 → Snd tC n (.block 2 (.loop c23_6)) W23_6.k := ⟨by kernel_rfl, fun n hn => loopW_ok (p := p23_6) (id := 2) Y23 (lam_le (lam_cons W23_25_ok lam_nil) n hn) hn r23_6_run⟩
noncomputable def c23_0 : Code := loopOf (bodyOf Tryd.f23) 0
def p23_0 : LS := ⟨0, [1, 3], ⟨[vB, .one (.one (.ptr 0 0 0)), vB, vI] ++ vBs 44, [.box [.int .i64, .int .i64, .imm 5]]⟩, [⟨.ret, [2], ⟨[vB, vB, vO] ++ vBs 45, []⟩, []⟩, ⟨.exit 0, [], ⟨vBs 48, []⟩, []⟩], []⟩
noncomputable def r23_0 (x : Int × Int × Int × List Int × Unit) : Option (Int × Int × Int × List Int × Unit ⊕ Bool × Unit ⊕ Unit) :=
  bif decide (x.fst < x.snd.snd.fst) then
  (l23_6 (x.fst, (0 : Int), x.snd.fst, x.snd.snd.fst, x.snd.snd.snd.fst, ())).bind fun y75 =>
    Sum.elim (fun y73 => some (Sum.inr (Sum.inl (y73.fst, ()))))
      (fun y74 => some (Sum.inl (IntKind.i64.wrap (y74.fst + (1 : Int)), y74.snd.fst, y74.snd.snd.fst, y74.snd.snd.snd.fst, ()))) y75
else some (Sum.inr (Sum.inr ()))
theorem r23_0_run0 (v0 : Int) (v1 : Int) (v2 : Int) (v3 : List Int) : roundK tC G23 (look [(6, W23_6)]) c23_0 p23_0 (v0, v1, v2, v3, ()) = r23_0 (v0, v1, v2, v3, ()) := by kernel_rfl
theorem r23_0_run (x : Int × Int × Int × List Int × Unit) : roundK tC G23 (look [(6, W23_6)]) c23_0 p23_0 x = r23_0 x := r23_0_run0 x.1 x.2.1 x.2.2.1 x.2.2.2.1
noncomputable def l23_0 (x : Int × Int × Int × List Int × Unit) : Option (Bool × Unit ⊕ Unit) := iterO r23_0 x
noncomputable def W23_0 : LF tC := loopW tC p23_0 0 l23_0
theorem W23_0_ok : keyed 0 (bodyOf Tryd.f23) = [.block 0 (.loop c23_0)] ∧ ∀ n, n ≤ 0 → Snd tC n (.block 0 (.loop c23_0)) W23_0.k := ⟨by kernel_rfl, fun n hn => loopW_ok (p := p23_0) (id := 0) Y23 (lam_le (lam_cons W23_6_ok lam_nil) n hn) hn r23_0_run⟩
def S23 : FS := ⟨[[.v, .v, .s 5]], [⟨[.one (.agg [.int .i64, .int .i64, .imm 5])], []⟩], [⟨[vO], []⟩], [[.v]], []⟩
noncomputable def f23 (x : Int × Int × List Int × Unit) : Option (Bool × Unit) :=
  (f32 (x.fst, x.snd.fst, x.snd.snd.fst, ())).bind fun y81 =>
  bif !y81.fst then some (false, ())
  else
    (l23_0 ((0 : Int), x.fst, x.snd.fst, x.snd.snd.fst, ())).bind fun y80 =>
      Sum.elim (fun y78 => some (y78.fst, ())) (fun _x => some (true, ())) y80
noncomputable def F23 : CF tC := mkF tC S23 f23
theorem f23_run : ∀ a, fnS tC G23 (look [(0, W23_0)]) Tryd.f23 S23 a = f23 a := fun a => by kernel_rfl
theorem F23_ok : CFOK tC 23 F23 := mkF_ok Y23 (fn := Tryd.f23) (body := bodyOf Tryd.f23) (by kernel_rfl) (by kernel_rfl) (by kernel_rfl) (m := 0) rfl (lam_le (lam_cons W23_0_ok lam_nil)) f23_run

/-! ref.Joined -/
noncomputable def G25 : FuncId → Option (CF tC) := look [(17, F17), (41, F41)]
theorem Y25 : SysN tC G25 := (sys_cons F17_ok (mkF_nat _ _) (sys_cons F41_ok (mkF_nat _ _) (sys_nil tC_ok tC_eq)))
def S25 : FS := ⟨[[.v, .v, .s 5], [.v, .v], [.v, .v]], [⟨[.one (.agg [.int .i64, .int .i64, .imm 5]), .one (.agg [.int .i64, .int .i64]), .one (.agg [.int .i64, .int .i64])], []⟩], [⟨[vO], []⟩], [[.v]], []⟩
noncomputable def f25 (x : Int × Int × List Int × Int × Int × Int × Int × Unit) : Option (Bool × Unit) :=
  (f17 (x.fst, x.snd.fst, x.snd.snd.fst, ())).bind fun y20 =>
  bif y20.snd.fst != (0 : Int) then some (false, ())
  else
    (f41 (x.fst, x.snd.fst, x.snd.snd.fst, x.snd.snd.snd.fst, x.snd.snd.snd.snd.fst, ())).bind fun y19 =>
      bif y19.fst != (1 : Int) then some (false, ())
      else
        (f41 (x.fst, x.snd.fst, x.snd.snd.fst, x.snd.snd.snd.snd.snd.fst, x.snd.snd.snd.snd.snd.snd.fst, ())).bind fun y18 =>
          bif y18.fst != (1 : Int) then some (false, ())
          else
            bif
                decide ((0 : Int) ≤ IntKind.i64.wrap (IntKind.i64.wrap (x.snd.snd.snd.snd.fst * x.fst) + x.snd.snd.snd.fst)) &&
                  decide (IntKind.i64.wrap (IntKind.i64.wrap (x.snd.snd.snd.snd.fst * x.fst) + x.snd.snd.snd.fst) < (↑y20.fst : Int)) then
              y20.snd.snd.fst[(0 : Nat) +
                      (IntKind.i64.wrap (IntKind.i64.wrap (x.snd.snd.snd.snd.fst * x.fst) + x.snd.snd.snd.fst)).toNat]?.bind
                fun y17 =>
                bif
                    decide
                        ((0 : Int) ≤
                          IntKind.i64.wrap (IntKind.i64.wrap (x.snd.snd.snd.snd.snd.snd.fst * x.fst) + x.snd.snd.snd.snd.snd.fst)) &&
                      decide
                        (IntKind.i64.wrap (IntKind.i64.wrap (x.snd.snd.snd.snd.snd.snd.fst * x.fst) + x.snd.snd.snd.snd.snd.fst) <
                          (↑y20.fst : Int)) then
                  y20.snd.snd.fst[(0 : Nat) +
                          (IntKind.i64.wrap
                              (IntKind.i64.wrap (x.snd.snd.snd.snd.snd.snd.fst * x.fst) + x.snd.snd.snd.snd.snd.fst)).toNat]?.bind
                    fun y16 => some (y17 == y16, ())
                else none
            else none
noncomputable def F25 : CF tC := mkF tC S25 f25
theorem f25_run : ∀ a, fnS tC G25 (look []) Tryd.f25 S25 a = f25 a := fun a => by kernel_rfl
theorem F25_ok : CFOK tC 25 F25 := mkF_ok Y25 (fn := Tryd.f25) (body := bodyOf Tryd.f25) (by kernel_rfl) (by kernel_rfl) (by kernel_rfl) (m := 0) rfl (lam_le lam_nil) f25_run

/-! ref.Turned -/
noncomputable def G27 : FuncId → Option (CF tC) := look [(29, F29), (28, F28)]
theorem Y27 : SysN tC G27 := (sys_cons F29_ok (mkF_nat _ _) (sys_cons F28_ok (mkF_nat _ _) (sys_nil tC_ok tC_eq)))
noncomputable def c27_12 : Code := loopOf (loopOf (loopOf (bodyOf Tryd.f27) 0) 2) 4
def p27_12 : LS := ⟨0, [1, 4, 6, 7, 8, 9, 10], ⟨[vB, vI, vB, vB, .one (.one (.ptr 0 0 0)), vB, .one (.one (.ptr 1 0 0)), vI, .one (.one (.ptr 2 0 0)), vI, vI] ++ vBs 65, [.box [.int .i64, .int .i64, .nils], .box [.int .i64, .int .i64, .sl 3], .box [.int .i64, .int .i64, .sl 4], .arr 5, .arr 5]⟩, [⟨.exit 4, [1, 4, 6, 7, 8, 9], ⟨[vB, vI, vB, vB, .one (.one (.ptr 0 0 0)), vB, .one (.one (.ptr 1 0 0)), vI, .one (.one (.ptr 2 0 0)), vI] ++ vBs 66, [.box [.int .i64, .int .i64, .nils], .box [.int .i64, .int .i64, .sl 3], .box [.int .i64, .int .i64, .sl 4], .arr 5, .arr 5]⟩, []⟩], []⟩
noncomputable def r27_12 (x : Int × Int × Int × Int × Int × Int × Int × Int × Nat × Int × Int × Nat × List Int × List Int × Unit) : Option
  (Int × Int × Int × Int × Int × Int × Int × Int × Nat × Int × Int × Nat × List Int × List Int × Unit ⊕
    Int × Int × Int × Int × Int × Int × Int × Nat × Int × Int × Nat × List Int × List Int × Unit) :=
  bif decide (x.snd.snd.snd.fst < x.snd.snd.snd.snd.snd.snd.fst) then
  bif
      decide ((0 : Int) ≤ IntKind.i64.wrap (IntKind.i64.wrap (x.snd.snd.fst * x.snd.snd.snd.snd.snd.snd.fst) + x.snd.snd.snd.fst)) &&
        decide
          (IntKind.i64.wrap (IntKind.i64.wrap (x.snd.snd.fst * x.snd.snd.snd.snd.snd.snd.fst) + x.snd.snd.snd.fst) <
            (↑x.snd.snd.snd.snd.snd.snd.snd.snd.fst : Int)) then
    x.snd.snd.snd.snd.snd.snd.snd.snd.snd.snd.snd.snd.fst[(0 : Nat) +
            (IntKind.i64.wrap (IntKind.i64.wrap (x.snd.snd.fst * x.snd.snd.snd.snd.snd.snd.fst) + x.snd.snd.snd.fst)).toNat]?.bind
      fun y58 =>
      bif
          decide
              ((0 : Int) ≤
                IntKind.i64.wrap
                  (IntKind.i64.wrap
                      (IntKind.i64.wrap
                          (IntKind.i64.wrap (x.snd.snd.snd.fst * x.snd.snd.snd.snd.snd.snd.snd.snd.snd.fst) +
                            x.snd.snd.snd.snd.snd.snd.snd.fst) -
                        (1 : Int)) -
                    x.snd.snd.fst)) &&
            decide
              (IntKind.i64.wrap
                  (IntKind.i64.wrap
                      (IntKind.i64.wrap
                          (IntKind.i64.wrap (x.snd.snd.snd.fst * x.snd.snd.snd.snd.snd.snd.snd.snd.snd.fst) +
                            x.snd.snd.snd.snd.snd.snd.snd.fst) -
                        (1 : Int)) -
                    x.snd.snd.fst) <
                (↑x.snd.snd.snd.snd.snd.snd.snd.snd.snd.snd.snd.fst : Int)) then
        x.snd.snd.snd.snd.snd.snd.snd.snd.snd.snd.snd.snd.snd.fst[(0 : Nat) +
                (IntKind.i64.wrap
                    (IntKind.i64.wrap
                        (IntKind.i64.wrap
                            (IntKind.i64.wrap (x.snd.snd.snd.fst * x.snd.snd.snd.snd.snd.snd.snd.snd.snd.fst) +
                              x.snd.snd.snd.snd.snd.snd.snd.fst) -
                          (1 : Int)) -
                      x.snd.snd.fst)).toNat]?.bind
          fun _x =>
          some
            (Sum.inl
              (x.fst, x.snd.fst, x.snd.snd.fst, IntKind.i64.wrap (x.snd.snd.snd.fst + (1 : Int)), x.snd.snd.snd.snd.fst,
                x.snd.snd.snd.snd.snd.fst, x.snd.snd.snd.snd.snd.snd.fst, x.snd.snd.snd.snd.snd.snd.snd.fst,
                x.snd.snd.snd.snd.snd.snd.snd.snd.fst, x.snd.snd.snd.snd.snd.snd.snd.snd.snd.fst,
                x.snd.snd.snd.snd.snd.snd.snd.snd.snd.snd.fst, x.snd.snd.snd.snd.snd.snd.snd.snd.snd.snd.snd.fst,
                x.snd.snd.snd.snd.snd.snd.snd.snd.snd.snd.snd.snd.fst,
                x.snd.snd.snd.snd.snd.snd.snd.snd.snd.snd.snd.snd.snd.fst.set
                  ((0 : Nat) +
                    (IntKind.i64.wrap
                        (IntKind.i64.wrap
                            (IntKind.i64.wrap
                                (IntKind.i64.wrap (x.snd.snd.snd.fst * x.snd.snd.snd.snd.snd.snd.snd.snd.snd.fst) +
                                  x.snd.snd.snd.snd.snd.snd.snd.fst) -
                              (1 : Int)) -
                          x.snd.snd.fst)).toNat)
                  y58,
                ()))
      else none
  else none
else
  some
    (Sum.inr
      (x.fst, x.snd.fst, x.snd.snd.fst, x.snd.snd.snd.snd.fst, x.snd.snd.snd.snd.snd.fst, x.snd.snd.snd.snd.snd.snd.fst,
        x.snd.snd.snd.snd.snd.snd.snd.fst, x.snd.snd.snd.snd.snd.snd.snd.snd.fst, x.snd.snd.snd.snd.snd.snd.snd.snd.snd.fst,
        x.snd.snd.snd.snd.snd.snd.snd.snd.snd.snd.fst, x.snd.snd.snd.snd.snd.snd.snd.snd.snd.snd.snd.fst,
        x.snd.snd.snd.snd.snd.snd.snd.snd.snd.snd.snd.snd.fst, x.snd.snd.snd.snd.snd.snd.snd.snd.snd.snd.snd.snd.snd.fst, ()))
theorem r27_12_run0 (v0 : Int) (v1 : Int) (v2 : Int) (v3 : Int) (v4 : Int) (v5 : Int) (v6 : Int) (v7 : Int) (v8 : Nat) (v9 : Int) (v10 : Int) (v11 : Nat) (v12 : List Int) (v13 : List Int) : roundK tC G27 (look []) c27_12 p27_12 (v0, v1, v2, v3, v4, v5, v6, v7, v8, v9, v10, v11, v12, v13, ()) = r27_12 (v0, v1, v2, v3, v4, v5, v6, v7, v8, v9, v10, v11, v12, v13, ()) := by kernel_rfl
theorem r27_12_run (x : Int × Int × Int × Int × Int × Int × Int × Int × Nat × Int × Int × Nat × List Int × List Int × Unit) : roundK tC G27 (look []) c27_12 p27_12 x = r27_12 x := r27_12_run0 x.1 x.2.1 x.2.2.1 x.2.2.2.1 x.2.2.2.2.1 x.2.2.2.2.2.1 x.2.2.2.2.2.2.1 x.2.2.2.2.2.2.2.1 x.2.2.2.2.2.2.2.2.1 x.2.2.2.2.2.2.2.2.2.1 x.2.2.2.2.2.2.2.2.2.2.1 x.2.2.2.2.2.2.2.2.2.2.2.1 x.2.2.2.2.2.2.2.2.2.2.2.2.1 x.2.2.2.2.2.2.2.2.2.2.2.2.2.1
noncomputable def l27_12 (x : Int × Int × Int × Int × Int × Int × Int × Int × Nat × Int × Int × Nat × List Int × List Int × Unit) : Option (Int × Int × Int × Int × Int × Int × Int × Nat × Int × Int × Nat × List Int × List Int × Unit) := iterO r27_12 x
noncomputable def W27_12 : LF tC := loopW tC p27_12 4 l27_12
theorem W27_12_ok : keyed 12 (loopOf (loopOf (bodyOf Tryd.f27) 0) 2) = [.block 4 (.loop c27_12)] ∧ ∀ n, n ≤ 0 → Snd tC n (.block 4 (.loop c27_12)) W27_12.k := ⟨by kernel_rfl, fun n hn => loopW_ok (p := p27_12) (id := 4) Y27 (lam_le lam_nil n hn) hn r27_12_run⟩
noncomputable def c27_6 : Code := loopOf (loopOf (bodyOf Tryd.f27) 0) 2
def p27_6 : LS := ⟨0, [1, 4, 6, 7, 8, 9], ⟨[vB, vI, vB, vB, .one (.one (.ptr 0 0 0)), vB, .one (.one (.ptr 1 0 0)), vI, .one (.one (.ptr 2 0 0)), vI] ++ vBs 66, [.box [.int .i64, .int .i64, .nils], .box [.int .i64, .int .i64, .sl 3], .box [.int .i64, .int .i64, .sl 4], .arr 5, .arr 5]⟩, [⟨.exit 2, [1, 4, 6, 7, 8], ⟨[vB, vI, vB, vB, .one (.one (.ptr 0 0 0)), vB, .one (.one (.ptr 1 0 0)), vI, .one (.one (.ptr 2 0 0))] ++ vBs 67, [.box [.int .i64, .int .i64, .nils], .box [.int .i64, .int .i64, .sl 3], .box [.int .i64, .int .i64, .sl 4], .arr 5, .arr 5]⟩, []⟩], []⟩
noncomputable def r27_6 (x : Int × Int × Int × Int × Int × Int × Int × Nat × Int × Int × Nat × List Int × List Int × Unit) : Option
  (Int × Int × Int × Int × Int × Int × Int × Nat × Int × Int × Nat × List Int × List Int × Unit ⊕
    Int × Int × Int × Int × Int × Int × Nat × Int × Int × Nat × List Int × List Int × Unit) :=
  bif decide (x.snd.snd.fst < x.snd.snd.snd.snd.snd.snd.fst) then
  (l27_12
        (x.fst, x.snd.fst, x.snd.snd.fst, (0 : Int), x.snd.snd.snd.fst, x.snd.snd.snd.snd.fst, x.snd.snd.snd.snd.snd.fst,
          x.snd.snd.snd.snd.snd.snd.fst, x.snd.snd.snd.snd.snd.snd.snd.fst, x.snd.snd.snd.snd.snd.snd.snd.snd.fst,
          x.snd.snd.snd.snd.snd.snd.snd.snd.snd.fst, x.snd.snd.snd.snd.snd.snd.snd.snd.snd.snd.fst,
          x.snd.snd.snd.snd.snd.snd.snd.snd.snd.snd.snd.fst, x.snd.snd.snd.snd.snd.snd.snd.snd.snd.snd.snd.snd.fst, ())).bind
    fun y84 =>
    some
      (Sum.inl
        (y84.fst, y84.snd.fst, IntKind.i64.wrap (y84.snd.snd.fst + (1 : Int)), y84.snd.snd.snd.fst, y84.snd.snd.snd.snd.fst,
          y84.snd.snd.snd.snd.snd.fst, y84.snd.snd.snd.snd.snd.snd.fst, y84.snd.snd.snd.snd.snd.snd.snd.fst,
          y84.snd.snd.snd.snd.snd.snd.snd.snd.fst, y84.snd.snd.snd.snd.snd.snd.snd.snd.snd.fst,
          y84.snd.snd.snd.snd.snd.snd.snd.snd.snd.snd.fst, y84.snd.snd.snd.snd.snd.snd.snd.snd.snd.snd.snd.fst,
          y84.snd.snd.snd.snd.snd.snd.snd.snd.snd.snd.snd.snd.fst, ()))
else
  some
    (Sum.inr
      (x.fst, x.snd.fst, x.snd.snd.snd.fst, x.snd.snd.snd.snd.fst, x.snd.snd.snd.snd.snd.fst, x.snd.snd.snd.snd.snd.snd.fst,
        x.snd.snd.snd.snd.snd.snd.snd.fst, x.snd.snd.snd.snd.snd.snd.snd.snd.fst, x.snd.snd.snd.snd.snd.snd.snd.snd.snd.fst,
        x.snd.snd.snd.snd.snd.snd.snd.snd.snd.snd.fst, x.snd.snd.snd.snd.snd.snd.snd.snd.snd.snd.snd.fst,
        x.snd.snd.snd.snd.snd.snd.snd.snd.snd.snd.snd.snd.fst, ()))
theorem r27_6_run0 (v0 : Int) (v1 : Int) (v2 : Int) (v3 : Int) (v4 : Int) (v5 : Int) (v6 : Int) (v7 : Nat) (v8 : Int) (v9 : Int) (v10 : Nat) (v11 : List Int) (v12 : List Int) : roundK tC G27 (look [(12, W27_12)]) c27_6 p27_6 (v0, v1, v2, v3, v4, v5, v6, v7, v8, v9, v10, v11, v12, ()) = r27_6 (v0, v1, v2, v3, v4, v5, v6, v7, v8, v9, v10, v11, v12, ()) := by kernel_rfl
theorem r27_6_run (x : Int × Int × Int × Int × Int × Int × Int × Nat × Int × Int × Nat × List Int × List Int × Unit) : roundK tC G27 (look [(12, W27_12)]) c27_6 p27_6 x = r27_6 x := r27_6_run0 x.1 x.2.1 x.2.2.1 x.2.2.2.1 x.2.2.2.2.1 x.2.2.2.2.2.1 x.2.2.2.2.2.2.1 x.2.2.2.2.2.2.2.1 x.2.2.2.2.2.2.2.2.1 x.2.2.2.2.2.2.2.2.2.1 x.2.2.2.2.2.2.2.2.2.2.1 x.2.2.2.2.2.2.2.2.2.2.2.1 x.2.2.2.2.2.2.2.2.2.2.2.2.1
noncomputable def l27_6 (x : Int × Int × Int × Int × Int × Int × Int × Nat × Int × Int × Nat × List Int × List Int × Unit) : Option (Int × Int × Int × Int × Int × Int × Nat × Int × Int × Nat × List Int × List Int × Unit) := iterO r27_6 x
noncomputable def W27_6 : LF tC := loopW tC p27_6 2 l27_6
theorem W27_6_ok : keyed 6 (loopOf (bodyOf Tryd.f27) 0) = [.block 2 (.loop c27_6)] ∧ ∀ n, n ≤ 0 → Snd tC n (.block 2 (.loop c27_6)) W27_6.k := ⟨by kernel_rfl, fun n hn => loopW_ok (p := p27_6) (id := 2) Y27 (lam_le (lam_cons W27_12_ok lam_nil) n hn) hn r27_6_run⟩
noncomputable def c27_0 : Code := loopOf (bodyOf Tryd.f27) 0
def p27_0 : LS := ⟨0, [1, 4, 6, 7], ⟨[vB, vI, vB, vB, .one (.one (.ptr 0 0 0)), vB, .one (.one (.ptr 1 0 0)), vI] ++ vBs 68, [.box [.int .i64, .int .i64, .nils], .box [.int .i64, .int .i64, .sl 2], .arr 5]⟩, [⟨.exit 0, [4, 6], ⟨vBs 4 ++ [.one (.one (.ptr 0 0 0)), vB, .one (.one (.ptr 1 0 0))] ++ vBs 69, [.box [.int .i64, .int .i64, .nils], .box [.int .i64, .int .i64, .sl 2], .arr 5]⟩, []⟩], []⟩
noncomputable def r27_0 (x : Int × Int × Int × Int × Int × Int × Nat × List Int × Unit) : Option (Int × Int × Int × Int × Int × Int × Nat × List Int × Unit ⊕ Int × Int × Int × Int × Nat × List Int × Unit) :=
  (f28 (x.fst, (4 : Int), ())).bind fun y104 =>
  bif decide (x.snd.fst < y104.fst) then
    bif
        true && decide ((↑x.snd.snd.snd.snd.snd.snd.fst : Int) ≤ (↑x.snd.snd.snd.snd.snd.snd.fst : Int)) &&
            decide ((↑x.snd.snd.snd.snd.snd.snd.fst : Int) * (1 : Int) ≤ (140737488355328 : Int)) &&
          decide ((↑x.snd.snd.snd.snd.snd.snd.fst : Int) ≤ (140737488355328 : Int)) then
      (l27_6
            (x.fst, x.snd.fst, (0 : Int), x.snd.snd.fst, x.snd.snd.snd.fst, x.snd.snd.snd.snd.fst, x.snd.snd.snd.snd.snd.fst,
              x.snd.snd.snd.snd.snd.snd.fst, x.snd.snd.snd.snd.snd.fst, x.snd.snd.snd.snd.fst, (↑x.snd.snd.snd.snd.snd.snd.fst : Int).toNat,
              x.snd.snd.snd.snd.snd.snd.snd.fst, List.replicate (↑x.snd.snd.snd.snd.snd.snd.fst : Int).toNat (0 : Int), ())).bind
        fun y103 =>
        some
          (Sum.inl
            (y103.fst, IntKind.i64.wrap (y103.snd.fst + (1 : Int)), y103.snd.snd.fst, y103.snd.snd.snd.fst,
              y103.snd.snd.snd.snd.snd.snd.snd.fst, y103.snd.snd.snd.snd.snd.snd.snd.snd.fst, y103.snd.snd.snd.snd.snd.snd.snd.snd.snd.fst,
              y103.snd.snd.snd.snd.snd.snd.snd.snd.snd.snd.snd.fst, ()))
    else none
  else
    some
      (Sum.inr
        (x.snd.snd.fst, x.snd.snd.snd.fst, x.snd.snd.snd.snd.fst, x.snd.snd.snd.snd.snd.fst, x.snd.snd.snd.snd.snd.snd.fst,
          x.snd.snd.snd.snd.snd.snd.snd.fst, ()))
theorem r27_0_run0 (v0 : Int) (v1 : Int) (v2 : Int) (v3 : Int) (v4 : Int) (v5 : Int) (v6 : Nat) (v7 : List Int) : roundK tC G27 (look [(6, W27_6)]) c27_0 p27_0 (v0, v1, v2, v3, v4, v5, v6, v7, ()) = r27_0 (v0, v1, v2, v3, v4, v5, v6, v7, ()) := by kernel_rfl
theorem r27_0_run (x : Int × Int × Int × Int × Int × Int × Nat × List Int × Unit) : roundK tC G27 (look [(6, W27_6)]) c27_0 p27_0 x = r27_0 x := r27_0_run0 x.1 x.2.1 x.2.2.1 x.2.2.2.1 x.2.2.2.2.1 x.2.2.2.2.2.1 x.2.2.2.2.2.2.1 x.2.2.2.2.2.2.2.1
noncomputable def l27_0 (x : Int × Int × Int × Int × Int × Int × Nat × List Int × Unit) : Option (Int × Int × Int × Int × Nat × List Int × Unit) := iterO r27_0 x
noncomputable def W27_0 : LF tC := loopW tC p27_0 0 l27_0
theorem W27_0_ok : keyed 0 (bodyOf Tryd.f27) = [.block 0 (.loop c27_0)] ∧ ∀ n, n ≤ 0 → Snd tC n (.block 0 (.loop c27_0)) W27_0.k := ⟨by kernel_rfl, fun n hn => loopW_ok (p := p27_0) (id := 0) Y27 (lam_le (lam_cons W27_6_ok lam_nil) n hn) hn r27_0_run⟩
def S27 : FS := ⟨[[.v, .v, .s 5], [.v]], [⟨[.one (.agg [.int .i64, .int .i64, .imm 5]), vI], []⟩], [⟨[.tup [.agg [.int .i64, .int .i64, .imm 5], .one (.int .i64)]], []⟩], [[.v, .v, .s 5], [.v]], []⟩
noncomputable def f27 (x : Int × Int × List Int × Int × Unit) : Option (Int × Int × List Int × Int × Unit) :=
  (f29 (x.fst, x.snd.fst, x.snd.snd.fst, ())).bind fun y116 =>
  bif !y116.fst then some ((0 : Int), (0 : Int), [], (1 : Int), ())
  else
    bif roomy ((0 : Nat) + x.snd.snd.fst.length) (1 : Nat) then
      (l27_0
            (x.snd.snd.snd.fst, (0 : Int), (0 : Int), (0 : Int), x.fst, x.snd.fst, (0 : Nat) + x.snd.snd.fst.length, [] ++ x.snd.snd.fst,
              ())).bind
        fun y115 =>
        bif decide ((0 : Nat) + y115.snd.snd.snd.snd.fst ≤ y115.snd.snd.snd.snd.snd.fst.length) then
          some
            (y115.snd.snd.fst, y115.snd.snd.snd.fst, List.take y115.snd.snd.snd.snd.fst (List.drop (0 : Nat) y115.snd.snd.snd.snd.snd.fst),
              (0 : Int), ())
        else none
    else none
noncomputable def F27 : CF tC := mkF tC S27 f27
theorem f27_run : ∀ a, fnS tC G27 (look [(0, W27_0)]) Tryd.f27 S27 a = f27 a := fun a => by kernel_rfl
theorem F27_ok : CFOK tC 27 F27 := mkF_ok Y27 (fn := Tryd.f27) (body := bodyOf Tryd.f27) (by kernel_rfl) (by kernel_rfl) (by kernel_rfl) (m := 0) rfl (lam_le (lam_cons W27_0_ok lam_nil)) f27_run
end Go.AE
