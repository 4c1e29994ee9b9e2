/-
  The plain functions that the seat's Go functions compute, each with the proof that the function keeps it. Printed by the generator (Gen2) and checked by the kernel.
-/
import Derived.Test.YtcphmffpkjngiaaF
namespace Go.AE
open Go.Proofs Go.RowKit
set_option maxRecDepth 100000

/-! New -/
noncomputable def G19 : FuncId → Option (CF tC) := look []
theorem Y19 : SysN tC G19 := (sys_nil tC_ok tC_eq)
def S19 : FS := ⟨[], [⟨[], []⟩], [⟨[.one (.one (.ptr 0 0 0))], [.box [.sl 1, .sl 2], .arr 5, .arr 26]⟩], [[.v]], [(2000001, 26)]⟩
def f19  : Nat × Nat × List Int × List Ev :=
  ((4 : Nat), (0 : Nat), [(87 : Int), (70 : Int), (74 : Int), (49 : Int)], [])
noncomputable def F19 : CF tC := mkF tC S19 (fun _ => some (f19.1, f19.2.1, f19.2.2.1, f19.2.2.2, ()))
theorem f19_run : ∀ a, fnS tC G19 (look []) Try.f19 S19 a = (fun _ => some (f19.1, f19.2.1, f19.2.2.1, f19.2.2.2, ())) a := fun a => by kernel_rfl
theorem F19_ok : CFOK tC 19 F19 := mkF_ok Y19 (fn := Try.f19) (body := bodyOf Try.f19) (by kernel_rfl) (by kernel_rfl) (by kernel_rfl) (m := 0) rfl (lam_le lam_nil) f19_run

/-! ref.New -/
noncomputable def G20 : FuncId → Option (CF tC) := look []
theorem Y20 : SysN tC G20 := (sys_nil tC_ok tC_eq)
def S20 : FS := ⟨[], [⟨[], []⟩], [⟨[.one (.one (.ptr 0 0 0))], [.box [.sl 1], .arr 26]⟩], [[.v]], [(2000000, 26)]⟩
def f20  : Nat × List Ev :=
  ((0 : Nat), [])
noncomputable def F20 : CF tC := mkF tC S20 (fun _ => some (f20.1, f20.2, ()))
theorem f20_run : ∀ a, fnS tC G20 (look []) Try.f20 S20 a = (fun _ => some (f20.1, f20.2, ())) a := fun a => by kernel_rfl
theorem F20_ok : CFOK tC 20 F20 := mkF_ok Y20 (fn := Try.f20) (body := bodyOf Try.f20) (by kernel_rfl) (by kernel_rfl) (by kernel_rfl) (m := 0) rfl (lam_le lam_nil) f20_run

/-! Last -/
noncomputable def G27 : FuncId → Option (CF tC) := look []
theorem Y27 : SysN tC G27 := (sys_nil tC_ok tC_eq)
def S27 : FS := ⟨[[.q]], [⟨[.one (.ro [.imm 5, .imm 26])], []⟩], [⟨[vI], []⟩], [[.v]], []⟩
noncomputable def f27 (x : List Int × List Ev × Unit) : Option (Int × Unit) :=
  bif (↑x.snd.fst.length : Int) == (0 : Int) then some ((0 : Int), ())
else (idxO x.snd.fst (IntKind.i64.wrap ((↑x.snd.fst.length : Int) - (1 : Int)))).bind fun y5 => some (y5.T, ())
noncomputable def F27 : CF tC := mkF tC S27 f27
theorem f27_run : ∀ a, fnS tC G27 (look []) Try.f27 S27 a = f27 a := fun a => by kernel_rfl
theorem F27_ok : CFOK tC 27 F27 := mkF_ok Y27 (fn := Try.f27) (body := bodyOf Try.f27) (by kernel_rfl) (by kernel_rfl) (by kernel_rfl) (m := 0) rfl (lam_le lam_nil) f27_run

/-! Len -/
noncomputable def G26 : FuncId → Option (CF tC) := look []
theorem Y26 : SysN tC G26 := (sys_nil tC_ok tC_eq)
def S26 : FS := ⟨[[.q]], [⟨[.one (.ro [.imm 5, .imm 26])], []⟩], [⟨[vI], []⟩], [[.v]], []⟩
def f26 (_l1 : List Int) (l2 : List Ev) : Int :=
  (↑l2.length : Int)
noncomputable def F26 : CF tC := mkF tC S26 (fun a => some ((f26 a.1 a.2.1), ()))
def h26 (r : Int) : Option (altTy tE S26.outs) := some (r, ())
theorem f26_run : ∀ a, fnS tC G26 (look []) Try.f26 S26 a = (fun a => some ((f26 a.1 a.2.1), ())) a := fun a => by
  have key : ∀ (l1 : List Int) (l2 : List Ev), (h26 (↑l2.length : Int)) = h26 (f26 l1 l2) := by
    intros
    unfold f26
    repeat' first | rfl | refine cond_h (g := h26) ?_ ?_
  exact Eq.trans (by kernel_rfl) (key a.1 a.2.1)
theorem F26_ok : CFOK tC 26 F26 := mkF_ok Y26 (fn := Try.f26) (body := bodyOf Try.f26) (by kernel_rfl) (by kernel_rfl) (by kernel_rfl) (m := 0) rfl (lam_le lam_nil) f26_run

/-! Journal.Bytes -/
noncomputable def G25 : FuncId → Option (CF tC) := look [(58, F58)]
theorem Y25 : SysN tC G25 := (sys_cons F58_ok (mkF_nat _ _) (sys_nil tC_ok tC_eq))
def S25 : FS := ⟨[[.q]], [⟨[.one (.ro [.imm 5, .imm 26])], []⟩], [⟨[.one (.one (.him 5))], []⟩], [[.h 5]], []⟩
noncomputable def f25 (x : List Int × List Ev × Unit) : Option (List Int × Unit) :=
  (f58 (x.fst, ())).bind fun y6 =>
  bif decide ((0 : Nat) + y6.fst ≤ y6.snd.fst.length) then some (List.take y6.fst (List.drop (0 : Nat) y6.snd.fst), ()) else none
noncomputable def F25 : CF tC := mkF tC S25 f25
theorem f25_run : ∀ a, fnS tC G25 (look []) Try.f25 S25 a = f25 a := fun a => by kernel_rfl
theorem F25_ok : CFOK tC 25 F25 := mkF_ok Y25 (fn := Try.f25) (body := bodyOf Try.f25) (by kernel_rfl) (by kernel_rfl) (by kernel_rfl) (m := 0) rfl (lam_le lam_nil) f25_run

/-! Events -/
noncomputable def G28 : FuncId → Option (CF tC) := look [(54, F54)]
theorem Y28 : SysN tC G28 := (sys_cons F54_ok (mkF_nat _ _) (sys_nil tC_ok tC_eq))
noncomputable def c28_0 : Code := loopOf (bodyOf Try.f28) 0
def p28_0 : LS := ⟨0, [3, 11, 12, 13], ⟨[vB, vB, vB, .one (.one (.sl 0))] ++ vBs 7 ++ [.one (.one (.imm 26)), vI, vI] ++ vBs 10, [.arr 26]⟩, [⟨.exit 0, [3], ⟨[vB, vB, vB, .one (.one (.sl 0))] ++ vBs 20, [.arr 26]⟩, []⟩], [(3, 26)]⟩
noncomputable def r28_0 (x : Nat × List Ev × Int × Int × List Ev × Unit) : Option (Nat × List Ev × Int × Int × List Ev × Unit ⊕ Nat × List Ev × Unit) :=
  bif decide (x.snd.snd.snd.fst < x.snd.snd.fst) then
  (idxO x.snd.fst x.snd.snd.snd.fst).bind fun y26 =>
    (f54 (y26.T, y26.U, y26.F, y26.B, y26.S, ())).bind fun y25 =>
      bif decide ((0 : Nat) + x.fst ≤ x.snd.snd.snd.snd.fst.length) then
        bif roomy (x.fst + (1 : Nat)) (56 : Nat) then
          some
            (Sum.inl
              (x.fst + (1 : Nat), x.snd.fst, x.snd.snd.fst, IntKind.i64.wrap (x.snd.snd.snd.fst + (1 : Int)),
                List.take x.fst (List.drop (0 : Nat) x.snd.snd.snd.snd.fst) ++
                  [Ev.mk y25.fst y25.snd.fst y25.snd.snd.fst y25.snd.snd.snd.fst y25.snd.snd.snd.snd.fst],
                ()))
        else none
      else none
else some (Sum.inr (x.fst, x.snd.snd.snd.snd.fst, ()))
theorem r28_0_run0 (v0 : Nat) (v1 : List Ev) (v2 : Int) (v3 : Int) (v4 : List Ev) : roundK tC G28 (look []) c28_0 p28_0 (v0, v1, v2, v3, v4, ()) = r28_0 (v0, v1, v2, v3, v4, ()) := by kernel_rfl
theorem r28_0_run (x : Nat × List Ev × Int × Int × List Ev × Unit) : roundK tC G28 (look []) c28_0 p28_0 x = r28_0 x := r28_0_run0 x.1 x.2.1 x.2.2.1 x.2.2.2.1 x.2.2.2.2.1
noncomputable def l28_0 (x : Nat × List Ev × Int × Int × List Ev × Unit) : Option (Nat × List Ev × Unit) := iterO r28_0 x
noncomputable def W28_0 : LF tC := loopW tC p28_0 0 l28_0
theorem W28_0_ok : keyed 0 (bodyOf Try.f28) = [.block 0 (.loop c28_0)] ∧ ∀ n, n ≤ 0 → Snd tC n (.block 0 (.loop c28_0)) W28_0.k := ⟨by kernel_rfl, fun n hn => loopW_ok (p := p28_0) (id := 0) Y28 (lam_le lam_nil n hn) hn r28_0_run⟩
def S28 : FS := ⟨[[.q]], [⟨[.one (.ro [.imm 5, .imm 26])], []⟩], [⟨[.one (.one (.him 26))], []⟩], [[.h 26]], []⟩
noncomputable def f28 (x : List Int × List Ev × Unit) : Option (List Ev × Unit) :=
  (l28_0 ((0 : Nat), x.snd.fst, (↑x.snd.fst.length : Int), (0 : Int), [], ())).bind fun y30 =>
  bif decide ((0 : Nat) + y30.fst ≤ y30.snd.fst.length) then some (List.take y30.fst (List.drop (0 : Nat) y30.snd.fst), ()) else none
noncomputable def F28 : CF tC := mkF tC S28 f28
theorem f28_run : ∀ a, fnS tC G28 (look [(0, W28_0)]) Try.f28 S28 a = f28 a := fun a => by kernel_rfl
theorem F28_ok : CFOK tC 28 F28 := mkF_ok Y28 (fn := Try.f28) (body := bodyOf Try.f28) (by kernel_rfl) (by kernel_rfl) (by kernel_rfl) (m := 0) rfl (lam_le (lam_cons W28_0_ok lam_nil)) f28_run

/-! Append -/
noncomputable def G22 : FuncId → Option (CF tC) := look [(40, F40), (41, F41), (27, F27), (42, F42), (53, F53), (54, F54)]
theorem Y22 : SysN tC G22 := (sys_cons F40_ok (mkF_nat _ _) (sys_cons F41_ok (mkF_nat _ _) (sys_cons F27_ok (mkF_nat _ _) (sys_cons F42_ok (mkF_nat _ _) (sys_cons F53_ok (mkF_nat _ _) (sys_cons F54_ok (mkF_nat _ _) (sys_nil tC_ok tC_eq)))))))
def S22 : FS := ⟨[[.p], [.v, .v, .v, .v, .s 46]], [⟨[.one (.one (.ptr 2 0 0)), .one (.agg [.int .i64, .int .i64, .int .i64, .bool, .imm 46])], [.arr 5, .arr 26, .box [.sl 0, .sl 1]]⟩], [⟨[vI], [.arr 5, .arr 26, .box [.sl 0, .sl 1]]⟩, ⟨[vI], [.gone, .gone, .box [.sl 3, .sl 4], .arr 5, .arr 26]⟩], [[.v]], []⟩
noncomputable def f22 (x : Int × Int × Int × Bool × List Bm × List Int × List Ev × Nat × Nat × Unit) : Option (Int × List Int × List Ev × Nat × Nat × Unit ⊕ Int × Nat × Nat × List Int × List Ev × Unit) :=
  bif !f40 x.snd.fst x.snd.snd.fst then
  some
    (Sum.inl
      ((1 : Int), x.snd.snd.snd.snd.snd.fst, x.snd.snd.snd.snd.snd.snd.fst, x.snd.snd.snd.snd.snd.snd.snd.fst,
        x.snd.snd.snd.snd.snd.snd.snd.snd.fst, ()))
else
  (f41 (x.snd.snd.snd.snd.fst, ())).bind fun y36 =>
    bif !y36.fst then
      some
        (Sum.inl
          ((1 : Int), x.snd.snd.snd.snd.snd.fst, x.snd.snd.snd.snd.snd.snd.fst, x.snd.snd.snd.snd.snd.snd.snd.fst,
            x.snd.snd.snd.snd.snd.snd.snd.snd.fst, ()))
    else
      bif decide ((0 : Nat) + x.snd.snd.snd.snd.snd.snd.snd.fst ≤ x.snd.snd.snd.snd.snd.fst.length) then
        bif decide ((0 : Nat) + x.snd.snd.snd.snd.snd.snd.snd.snd.fst ≤ x.snd.snd.snd.snd.snd.snd.fst.length) then
          (f27
                (List.take x.snd.snd.snd.snd.snd.snd.snd.fst (List.drop (0 : Nat) x.snd.snd.snd.snd.snd.fst),
                  List.take x.snd.snd.snd.snd.snd.snd.snd.snd.fst (List.drop (0 : Nat) x.snd.snd.snd.snd.snd.snd.fst), ())).bind
            fun y35 =>
            bif decide (x.fst ≤ y35.fst) then
              some
                (Sum.inl
                  ((2 : Int), x.snd.snd.snd.snd.snd.fst, x.snd.snd.snd.snd.snd.snd.fst, x.snd.snd.snd.snd.snd.snd.snd.fst,
                    x.snd.snd.snd.snd.snd.snd.snd.snd.fst, ()))
            else
              bif decide (x.fst > (1099511627776 : Int)) then
                some
                  (Sum.inl
                    ((2 : Int), x.snd.snd.snd.snd.snd.fst, x.snd.snd.snd.snd.snd.snd.fst, x.snd.snd.snd.snd.snd.snd.snd.fst,
                      x.snd.snd.snd.snd.snd.snd.snd.snd.fst, ()))
              else
                (f42 (x.fst, x.snd.fst, x.snd.snd.fst, x.snd.snd.snd.fst, x.snd.snd.snd.snd.fst, ())).bind fun y34 =>
                  bif decide ((0 : Nat) + y34.fst ≤ y34.snd.fst.length) then
                    (f53 ((1 : Int), List.take y34.fst (List.drop (0 : Nat) y34.snd.fst), ())).bind fun y33 =>
                      bif y33.snd.fst != (0 : Int) then
                        some
                          (Sum.inl
                            ((6 : Int), x.snd.snd.snd.snd.snd.fst, x.snd.snd.snd.snd.snd.snd.fst, x.snd.snd.snd.snd.snd.snd.snd.fst,
                              x.snd.snd.snd.snd.snd.snd.snd.snd.fst, ()))
                      else
                        bif decide (IntKind.i64.wrap ((↑x.snd.snd.snd.snd.snd.snd.snd.fst : Int) + (↑y33.fst : Int)) > (65536 : Int)) then
                          some
                            (Sum.inl
                              ((6 : Int), x.snd.snd.snd.snd.snd.fst, x.snd.snd.snd.snd.snd.snd.fst, x.snd.snd.snd.snd.snd.snd.snd.fst,
                                x.snd.snd.snd.snd.snd.snd.snd.snd.fst, ()))
                        else
                          bif decide ((0 : Nat) + y33.fst ≤ y33.snd.snd.fst.length) then
                            bif decide ((0 : Nat) + x.snd.snd.snd.snd.snd.snd.snd.fst ≤ x.snd.snd.snd.snd.snd.fst.length) then
                              bif
                                  roomy
                                    (x.snd.snd.snd.snd.snd.snd.snd.fst + (List.take y33.fst (List.drop (0 : Nat) y33.snd.snd.fst)).length)
                                    (1 : Nat) then
                                (f54 (x.fst, x.snd.fst, x.snd.snd.fst, x.snd.snd.snd.fst, x.snd.snd.snd.snd.fst, ())).bind fun y32 =>
                                  bif decide ((0 : Nat) + x.snd.snd.snd.snd.snd.snd.snd.snd.fst ≤ x.snd.snd.snd.snd.snd.snd.fst.length) then
                                    bif roomy (x.snd.snd.snd.snd.snd.snd.snd.snd.fst + (1 : Nat)) (56 : Nat) then
                                      some
                                        (Sum.inr
                                          ((0 : Int),
                                            x.snd.snd.snd.snd.snd.snd.snd.fst +
                                              (List.take y33.fst (List.drop (0 : Nat) y33.snd.snd.fst)).length,
                                            x.snd.snd.snd.snd.snd.snd.snd.snd.fst + (1 : Nat),
                                            List.take x.snd.snd.snd.snd.snd.snd.snd.fst (List.drop (0 : Nat) x.snd.snd.snd.snd.snd.fst) ++
                                              List.take y33.fst (List.drop (0 : Nat) y33.snd.snd.fst),
                                            List.take x.snd.snd.snd.snd.snd.snd.snd.snd.fst
                                                (List.drop (0 : Nat) x.snd.snd.snd.snd.snd.snd.fst) ++
                                              [Ev.mk y32.fst y32.snd.fst y32.snd.snd.fst y32.snd.snd.snd.fst y32.snd.snd.snd.snd.fst],
                                            ()))
                                    else none
                                  else none
                              else none
                            else none
                          else none
                  else none
        else none
      else none
noncomputable def F22 : CF tC := mkF tC S22 f22
theorem f22_run : ∀ a, fnS tC G22 (look []) Try.f22 S22 a = f22 a := fun a => by kernel_rfl
theorem F22_ok : CFOK tC 22 F22 := mkF_ok Y22 (fn := Try.f22) (body := bodyOf Try.f22) (by kernel_rfl) (by kernel_rfl) (by kernel_rfl) (m := 3) rfl (lam_le lam_nil) f22_run

/-! find$1 -/
noncomputable def G80 : FuncId → Option (CF tC) := look []
theorem Y80 : SysN tC G80 := (sys_nil tC_ok tC_eq)
def S80 : FS := ⟨[[.v, .v, .v, .v, .s 46], [.v]], [⟨[.one (.agg [.int .i64, .int .i64, .int .i64, .bool, .imm 46]), vI], []⟩], [⟨[vI], []⟩], [[.v]], []⟩
def f80 (n1 : Int) (_n2 : Int) (_n3 : Int) (_b4 : Bool) (_l5 : List Bm) (n6 : Int) : Int :=
  bif decide (n1 < n6) then (-1 : Int) else bif decide (n1 > n6) then (1 : Int) else (0 : Int)
noncomputable def F80 : CF tC := mkF tC S80 (fun a => some ((f80 a.1 a.2.1 a.2.2.1 a.2.2.2.1 a.2.2.2.2.1 a.2.2.2.2.2.1), ()))
def h80 (r : Int) : Option (altTy tE S80.outs) := some (r, ())
theorem f80_run : ∀ a, fnS tC G80 (look []) Try.f80 S80 a = (fun a => some ((f80 a.1 a.2.1 a.2.2.1 a.2.2.2.1 a.2.2.2.2.1 a.2.2.2.2.2.1), ())) a := fun a => by
  have key : ∀ (n1 : Int) (n2 : Int) (n3 : Int) (b4 : Bool) (l5 : List Bm) (n6 : Int), (bif decide (n1 < n6) then h80 (-1 : Int) else bif decide (n1 > n6) then h80 (1 : Int) else h80 (0 : Int)) = h80 (f80 n1 n2 n3 b4 l5 n6) := by
    intros
    unfold f80
    repeat' first | rfl | refine cond_h (g := h80) ?_ ?_
  exact Eq.trans (by kernel_rfl) (key a.1 a.2.1 a.2.2.1 a.2.2.2.1 a.2.2.2.2.1 a.2.2.2.2.2.1)
theorem F80_ok : CFOK tC 80 F80 := mkF_ok Y80 (fn := Try.f80) (body := bodyOf Try.f80) (by kernel_rfl) (by kernel_rfl) (by kernel_rfl) (m := 0) rfl (lam_le lam_nil) f80_run

/-! slices.BinarySearchFunc -/
noncomputable def G79 : FuncId → Option (CF tC) := look [(80, F80)]
theorem Y79 : SysN tC G79 := (sys_cons F80_ok (mkF_nat _ _) (sys_nil tC_ok tC_eq))
noncomputable def c79_0 : Code := loopOf (bodyOf Try.f79) 0
def p79_0 : LS := ⟨0, [0, 1, 2, 8, 9, 10], ⟨[.one (.one (.imm 26)), vI, .one (.fn 80 [])] ++ vBs 5 ++ [vI, vI, vI] ++ vBs 38, []⟩, [⟨.exit 0, [0, 1, 2, 8, 9], ⟨[.one (.one (.imm 26)), vI, .one (.fn 80 [])] ++ vBs 5 ++ [vI, vI] ++ vBs 39, []⟩, []⟩], []⟩
noncomputable def r79_0 (x : List Ev × Int × Int × Int × Int × Unit) : Option (List Ev × Int × Int × Int × Int × Unit ⊕ List Ev × Int × Int × Int × Unit) :=
  bif decide (x.snd.snd.snd.fst < x.snd.snd.snd.snd.fst) then
  (idxO x.fst (IntKind.i64.wrap ((IntKind.u64.wrap (IntKind.i64.wrap (x.snd.snd.snd.fst + x.snd.snd.snd.snd.fst))).fdiv (2 : Int)))).bind
    fun y13 =>
    bif decide (f80 y13.T y13.U y13.F y13.B y13.S x.snd.fst < (0 : Int)) then
      some
        (Sum.inl
          (x.fst, x.snd.fst, x.snd.snd.fst,
            IntKind.i64.wrap
              (IntKind.i64.wrap ((IntKind.u64.wrap (IntKind.i64.wrap (x.snd.snd.snd.fst + x.snd.snd.snd.snd.fst))).fdiv (2 : Int)) +
                (1 : Int)),
            x.snd.snd.snd.snd.fst, ()))
    else
      some
        (Sum.inl
          (x.fst, x.snd.fst, x.snd.snd.fst, x.snd.snd.snd.fst,
            IntKind.i64.wrap ((IntKind.u64.wrap (IntKind.i64.wrap (x.snd.snd.snd.fst + x.snd.snd.snd.snd.fst))).fdiv (2 : Int)), ()))
else some (Sum.inr (x.fst, x.snd.fst, x.snd.snd.fst, x.snd.snd.snd.fst, ()))
theorem r79_0_run0 (v0 : List Ev) (v1 : Int) (v2 : Int) (v3 : Int) (v4 : Int) : roundK tC G79 (look []) c79_0 p79_0 (v0, v1, v2, v3, v4, ()) = r79_0 (v0, v1, v2, v3, v4, ()) := by kernel_rfl
theorem r79_0_run (x : List Ev × Int × Int × Int × Int × Unit) : roundK tC G79 (look []) c79_0 p79_0 x = r79_0 x := r79_0_run0 x.1 x.2.1 x.2.2.1 x.2.2.2.1 x.2.2.2.2.1
noncomputable def l79_0 (x : List Ev × Int × Int × Int × Int × Unit) : Option (List Ev × Int × Int × Int × Unit) := iterO r79_0 x
noncomputable def W79_0 : LF tC := loopW tC p79_0 0 l79_0
theorem W79_0_ok : keyed 0 (bodyOf Try.f79) = [.block 0 (.loop c79_0)] ∧ ∀ n, n ≤ 0 → Snd tC n (.block 0 (.loop c79_0)) W79_0.k := ⟨by kernel_rfl, fun n hn => loopW_ok (p := p79_0) (id := 0) Y79 (lam_le lam_nil n hn) hn r79_0_run⟩
def S79 : FS := ⟨[[.s 26], [.v], [.f]], [⟨[.one (.one (.imm 26)), vI, .one (.fn 80 [])], []⟩], [⟨[.tup [.one (.int .i64), .one .bool]], []⟩], [[.v], [.v]], []⟩
noncomputable def f79 (x : List Ev × Int × Unit) : Option (Int × Bool × Unit) :=
  (l79_0 (x.fst, x.snd.fst, (↑x.fst.length : Int), (0 : Int), (↑x.fst.length : Int), ())).bind fun y22 =>
  bif decide (y22.snd.snd.snd.fst < y22.snd.snd.fst) then
    (idxO y22.fst y22.snd.snd.snd.fst).bind fun y21 =>
      some (y22.snd.snd.snd.fst, f80 y21.T y21.U y21.F y21.B y21.S y22.snd.fst == (0 : Int), ())
  else some (y22.snd.snd.snd.fst, false, ())
noncomputable def F79 : CF tC := mkF tC S79 f79
theorem f79_run : ∀ a, fnS tC G79 (look [(0, W79_0)]) Try.f79 S79 a = f79 a := fun a => by kernel_rfl
theorem F79_ok : CFOK tC 79 F79 := mkF_ok Y79 (fn := Try.f79) (body := bodyOf Try.f79) (by kernel_rfl) (by kernel_rfl) (by kernel_rfl) (m := 0) rfl (lam_le (lam_cons W79_0_ok lam_nil)) f79_run

/-! find -/
noncomputable def G59 : FuncId → Option (CF tC) := look [(79, F79), (80, F80)]
theorem Y59 : SysN tC G59 := (sys_cons F79_ok (mkF_nat _ _) (sys_cons F80_ok (mkF_nat _ _) (sys_nil tC_ok tC_eq)))
def S59 : FS := ⟨[[.q], [.v]], [⟨[.one (.ro [.imm 5, .imm 26]), vI], []⟩], [⟨[vI], []⟩], [[.v]], []⟩
noncomputable def f59 (x : List Int × List Ev × Int × Unit) : Option (Int × Unit) :=
  (f79 (x.snd.fst, x.snd.snd.fst, ())).bind fun y7 => some (y7.fst, ())
noncomputable def F59 : CF tC := mkF tC S59 f59
theorem f59_run : ∀ a, fnS tC G59 (look []) Try.f59 S59 a = f59 a := fun a => by kernel_rfl
theorem F59_ok : CFOK tC 59 F59 := mkF_ok Y59 (fn := Try.f59) (body := bodyOf Try.f59) (by kernel_rfl) (by kernel_rfl) (by kernel_rfl) (m := 0) rfl (lam_le lam_nil) f59_run

/-! At -/
noncomputable def G29 : FuncId → Option (CF tC) := look [(59, F59), (54, F54)]
theorem Y29 : SysN tC G29 := (sys_cons F59_ok (mkF_nat _ _) (sys_cons F54_ok (mkF_nat _ _) (sys_nil tC_ok tC_eq)))
def S29 : FS := ⟨[[.q], [.v]], [⟨[.one (.ro [.imm 5, .imm 26]), vI], []⟩], [⟨[.tup [.agg [.int .i64, .int .i64, .int .i64, .bool, .him 46], .one .bool]], []⟩], [[.v, .v, .v, .v, .h 46], [.v]], []⟩
noncomputable def f29 (x : List Int × List Ev × Int × Unit) : Option (Int × Int × Int × Bool × List Bm × Bool × Unit) :=
  (f59 (x.fst, x.snd.fst, x.snd.snd.fst, ())).bind fun y21 =>
  bif y21.fst == (↑x.snd.fst.length : Int) then some ((0 : Int), (0 : Int), (0 : Int), false, [], false, ())
  else
    (idxO x.snd.fst y21.fst).bind fun y20 =>
      bif y20.T != x.snd.snd.fst then some ((0 : Int), (0 : Int), (0 : Int), false, [], false, ())
      else
        (idxO x.snd.fst y21.fst).bind fun y19 =>
          (f54 (y19.T, y19.U, y19.F, y19.B, y19.S, ())).bind fun y18 =>
            some (y18.fst, y18.snd.fst, y18.snd.snd.fst, y18.snd.snd.snd.fst, y18.snd.snd.snd.snd.fst, true, ())
noncomputable def F29 : CF tC := mkF tC S29 f29
theorem f29_run : ∀ a, fnS tC G29 (look []) Try.f29 S29 a = f29 a := fun a => by kernel_rfl
theorem F29_ok : CFOK tC 29 F29 := mkF_ok Y29 (fn := Try.f29) (body := bodyOf Try.f29) (by kernel_rfl) (by kernel_rfl) (by kernel_rfl) (m := 0) rfl (lam_le lam_nil) f29_run

/-! Between -/
noncomputable def G32 : FuncId → Option (CF tC) := look [(59, F59), (54, F54)]
theorem Y32 : SysN tC G32 := (sys_cons F59_ok (mkF_nat _ _) (sys_cons F54_ok (mkF_nat _ _) (sys_nil tC_ok tC_eq)))
noncomputable def c32_0 : Code := loopOf (bodyOf Try.f32) 0
def p32_0 : LS := ⟨0, [2, 7, 20, 21, 22], ⟨[vB, vB, vI] ++ vBs 4 ++ [.one (.one (.sl 0))] ++ vBs 12 ++ [.one (.one (.imm 26)), vI, vI] ++ vBs 14, [.arr 26]⟩, [⟨.exit 0, [7], ⟨vBs 7 ++ [.one (.one (.sl 0))] ++ vBs 29, [.arr 26]⟩, []⟩], [(7, 26)]⟩
noncomputable def r32_0 (x : Int × Nat × List Ev × Int × Int × List Ev × Unit) : Option (Int × Nat × List Ev × Int × Int × List Ev × Unit ⊕ Nat × List Ev × Unit) :=
  bif decide (x.snd.snd.snd.snd.fst < x.snd.snd.snd.fst) then
  (idxO x.snd.snd.fst x.snd.snd.snd.snd.fst).bind fun y31 =>
    bif decide (y31.T > x.fst) then some (Sum.inr (x.snd.fst, x.snd.snd.snd.snd.snd.fst, ()))
    else
      (f54 (y31.T, y31.U, y31.F, y31.B, y31.S, ())).bind fun y30 =>
        bif decide ((0 : Nat) + x.snd.fst ≤ x.snd.snd.snd.snd.snd.fst.length) then
          bif roomy (x.snd.fst + (1 : Nat)) (56 : Nat) then
            some
              (Sum.inl
                (x.fst, x.snd.fst + (1 : Nat), x.snd.snd.fst, x.snd.snd.snd.fst, IntKind.i64.wrap (x.snd.snd.snd.snd.fst + (1 : Int)),
                  List.take x.snd.fst (List.drop (0 : Nat) x.snd.snd.snd.snd.snd.fst) ++
                    [Ev.mk y30.fst y30.snd.fst y30.snd.snd.fst y30.snd.snd.snd.fst y30.snd.snd.snd.snd.fst],
                  ()))
          else none
        else none
else some (Sum.inr (x.snd.fst, x.snd.snd.snd.snd.snd.fst, ()))
theorem r32_0_run0 (v0 : Int) (v1 : Nat) (v2 : List Ev) (v3 : Int) (v4 : Int) (v5 : List Ev) : roundK tC G32 (look []) c32_0 p32_0 (v0, v1, v2, v3, v4, v5, ()) = r32_0 (v0, v1, v2, v3, v4, v5, ()) := by kernel_rfl
theorem r32_0_run (x : Int × Nat × List Ev × Int × Int × List Ev × Unit) : roundK tC G32 (look []) c32_0 p32_0 x = r32_0 x := r32_0_run0 x.1 x.2.1 x.2.2.1 x.2.2.2.1 x.2.2.2.2.1 x.2.2.2.2.2.1
noncomputable def l32_0 (x : Int × Nat × List Ev × Int × Int × List Ev × Unit) : Option (Nat × List Ev × Unit) := iterO r32_0 x
noncomputable def W32_0 : LF tC := loopW tC p32_0 0 l32_0
theorem W32_0_ok : keyed 0 (bodyOf Try.f32) = [.block 0 (.loop c32_0)] ∧ ∀ n, n ≤ 0 → Snd tC n (.block 0 (.loop c32_0)) W32_0.k := ⟨by kernel_rfl, fun n hn => loopW_ok (p := p32_0) (id := 0) Y32 (lam_le lam_nil n hn) hn r32_0_run⟩
def S32 : FS := ⟨[[.q], [.v], [.v]], [⟨[.one (.ro [.imm 5, .imm 26]), vI, vI], []⟩], [⟨[.one (.one (.him 26))], []⟩], [[.h 26]], []⟩
noncomputable def f32 (x : List Int × List Ev × Int × Int × Unit) : Option (List Ev × Unit) :=
  (f59 (x.fst, x.snd.fst, x.snd.snd.fst, ())).bind fun y36 =>
  bif
      decide ((0 : Int) ≤ y36.fst) && decide (y36.fst ≤ (↑x.snd.fst.length : Int)) &&
          decide ((↑x.snd.fst.length : Int) ≤ (↑x.snd.fst.length : Int)) &&
        decide ((↑x.snd.fst.length : Int) ≤ (↑x.snd.fst.length : Int)) then
    (l32_0
          (x.snd.snd.snd.fst, (0 : Nat), List.drop y36.fst.toNat (List.take (↑x.snd.fst.length : Int).toNat x.snd.fst),
            (↑(List.drop y36.fst.toNat (List.take (↑x.snd.fst.length : Int).toNat x.snd.fst)).length : Int), (0 : Int), [], ())).bind
      fun y35 =>
      bif decide ((0 : Nat) + y35.fst ≤ y35.snd.fst.length) then some (List.take y35.fst (List.drop (0 : Nat) y35.snd.fst), ()) else none
  else none
noncomputable def F32 : CF tC := mkF tC S32 f32
theorem f32_run : ∀ a, fnS tC G32 (look [(0, W32_0)]) Try.f32 S32 a = f32 a := fun a => by kernel_rfl
theorem F32_ok : CFOK tC 32 F32 := mkF_ok Y32 (fn := Try.f32) (body := bodyOf Try.f32) (by kernel_rfl) (by kernel_rfl) (by kernel_rfl) (m := 0) rfl (lam_le (lam_cons W32_0_ok lam_nil)) f32_run

/-! ref.Len -/
noncomputable def G36 : FuncId → Option (CF tC) := look []
theorem Y36 : SysN tC G36 := (sys_nil tC_ok tC_eq)
def S36 : FS := ⟨[[.q]], [⟨[.one (.ro [.imm 26])], []⟩], [⟨[vI], []⟩], [[.v]], []⟩
def f36 (l1 : List Ev) : Int :=
  (↑l1.length : Int)
noncomputable def F36 : CF tC := mkF tC S36 (fun a => some ((f36 a.1), ()))
def h36 (r : Int) : Option (altTy tE S36.outs) := some (r, ())
theorem f36_run : ∀ a, fnS tC G36 (look []) Try.f36 S36 a = (fun a => some ((f36 a.1), ())) a := fun a => by
  have key : ∀ (l1 : List Ev), (h36 (↑l1.length : Int)) = h36 (f36 l1) := by
    intros
    unfold f36
    repeat' first | rfl | refine cond_h (g := h36) ?_ ?_
  exact Eq.trans (by kernel_rfl) (key a.1)
theorem F36_ok : CFOK tC 36 F36 := mkF_ok Y36 (fn := Try.f36) (body := bodyOf Try.f36) (by kernel_rfl) (by kernel_rfl) (by kernel_rfl) (m := 0) rfl (lam_le lam_nil) f36_run

/-! ref.Last -/
noncomputable def G55 : FuncId → Option (CF tC) := look [(36, F36)]
theorem Y55 : SysN tC G55 := (sys_cons F36_ok (mkF_nat _ _) (sys_nil tC_ok tC_eq))
def S55 : FS := ⟨[[.q]], [⟨[.one (.ro [.imm 26])], []⟩], [⟨[vI], []⟩], [[.v]], []⟩
noncomputable def f55 (x : List Ev × Unit) : Option (Int × Unit) :=
  bif f36 x.fst == (0 : Int) then some ((0 : Int), ())
else (idxO x.fst (IntKind.i64.wrap ((↑x.fst.length : Int) - (1 : Int)))).bind fun y4 => some (y4.T, ())
noncomputable def F55 : CF tC := mkF tC S55 f55
theorem f55_run : ∀ a, fnS tC G55 (look []) Try.f55 S55 a = f55 a := fun a => by kernel_rfl
theorem F55_ok : CFOK tC 55 F55 := mkF_ok Y55 (fn := Try.f55) (body := bodyOf Try.f55) (by kernel_rfl) (by kernel_rfl) (by kernel_rfl) (m := 0) rfl (lam_le lam_nil) f55_run

/-! ref.Events -/
noncomputable def G57 : FuncId → Option (CF tC) := look []
theorem Y57 : SysN tC G57 := (sys_nil tC_ok tC_eq)
def S57 : FS := ⟨[[.p]], [⟨[.one (.one (.ptr 1 0 0))], [.arr 26, .box [.sl 0]]⟩], [⟨[.one (.one (.sl 0))], [.arr 26, .box [.sl 0]]⟩], [[.v]], []⟩
def f57 (l1 : List Ev) (k2 : Nat) : Nat × List Ev × Nat :=
  (k2, l1, k2)
noncomputable def F57 : CF tC := mkF tC S57 (fun a => some ((f57 a.1 a.2.1).1, (f57 a.1 a.2.1).2.1, (f57 a.1 a.2.1).2.2, ()))
def h57 (r : Nat × List Ev × Nat) : Option (altTy tE S57.outs) := some (r.1, r.2.1, r.2.2, ())
theorem f57_run : ∀ a, fnS tC G57 (look []) Try.f57 S57 a = (fun a => some ((f57 a.1 a.2.1).1, (f57 a.1 a.2.1).2.1, (f57 a.1 a.2.1).2.2, ())) a := fun a => by
  have key : ∀ (l1 : List Ev) (k2 : Nat), (h57 (k2, l1, k2)) = h57 (f57 l1 k2) := by
    intros
    unfold f57
    repeat' first | rfl | refine cond_h (g := h57) ?_ ?_
  exact Eq.trans (by kernel_rfl) (key a.1 a.2.1)
theorem F57_ok : CFOK tC 57 F57 := mkF_ok Y57 (fn := Try.f57) (body := bodyOf Try.f57) (by kernel_rfl) (by kernel_rfl) (by kernel_rfl) (m := 2) rfl (lam_le lam_nil) f57_run

/-! ref.Bytes -/
noncomputable def G35 : FuncId → Option (CF tC) := look [(13, F13), (56, F56)]
theorem Y35 : SysN tC G35 := (sys_cons F13_ok (mkF_nat _ _) (sys_cons F56_ok (mkF_nat _ _) (sys_nil tC_ok tC_eq)))
noncomputable def c35_0 : Code := loopOf (bodyOf Try.f35) 0
def p35_0 : LS := ⟨0, [0, 3, 4], ⟨[.one (.ro [.imm 26]), vB, vB, .one (.one (.sl 0)), vI] ++ vBs 31, [.arr 5]⟩, [⟨.exit 0, [3], ⟨[vB, vB, vB, .one (.one (.sl 0))] ++ vBs 32, [.arr 5]⟩, []⟩], []⟩
noncomputable def r35_0 (x : List Ev × Nat × Int × List Int × Unit) : Option (List Ev × Nat × Int × List Int × Unit ⊕ Nat × List Int × Unit) :=
  bif decide (x.snd.snd.fst < (↑x.fst.length : Int)) then
  (idxO x.fst x.snd.snd.fst).bind fun y15 =>
    (f13 (y15.T, y15.U, y15.F, y15.B, y15.S, ())).bind fun y14 =>
      (f56 ((1 : Int), y14.fst, ())).bind fun y13 =>
        bif decide ((0 : Nat) + y13.fst ≤ y13.snd.snd.fst.length) then
          bif decide ((0 : Nat) + x.snd.fst ≤ x.snd.snd.snd.fst.length) then
            bif roomy (x.snd.fst + (List.take y13.fst (List.drop (0 : Nat) y13.snd.snd.fst)).length) (1 : Nat) then
              some
                (Sum.inl
                  (x.fst, x.snd.fst + (List.take y13.fst (List.drop (0 : Nat) y13.snd.snd.fst)).length,
                    IntKind.i64.wrap (x.snd.snd.fst + (1 : Int)),
                    List.take x.snd.fst (List.drop (0 : Nat) x.snd.snd.snd.fst) ++ List.take y13.fst (List.drop (0 : Nat) y13.snd.snd.fst),
                    ()))
            else none
          else none
        else none
else some (Sum.inr (x.snd.fst, x.snd.snd.snd.fst, ()))
theorem r35_0_run0 (v0 : List Ev) (v1 : Nat) (v2 : Int) (v3 : List Int) : roundK tC G35 (look []) c35_0 p35_0 (v0, v1, v2, v3, ()) = r35_0 (v0, v1, v2, v3, ()) := by kernel_rfl
theorem r35_0_run (x : List Ev × Nat × Int × List Int × Unit) : roundK tC G35 (look []) c35_0 p35_0 x = r35_0 x := r35_0_run0 x.1 x.2.1 x.2.2.1 x.2.2.2.1
noncomputable def l35_0 (x : List Ev × Nat × Int × List Int × Unit) : Option (Nat × List Int × Unit) := iterO r35_0 x
noncomputable def W35_0 : LF tC := loopW tC p35_0 0 l35_0
theorem W35_0_ok : keyed 0 (bodyOf Try.f35) = [.block 0 (.loop c35_0)] ∧ ∀ n, n ≤ 0 → Snd tC n (.block 0 (.loop c35_0)) W35_0.k := ⟨by kernel_rfl, fun n hn => loopW_ok (p := p35_0) (id := 0) Y35 (lam_le lam_nil n hn) hn r35_0_run⟩
def S35 : FS := ⟨[[.q]], [⟨[.one (.ro [.imm 26])], []⟩], [⟨[.one (.one (.him 5))], []⟩], [[.h 5]], []⟩
noncomputable def f35 (x : List Ev × Unit) : Option (List Int × Unit) :=
  (l35_0 (x.fst, (4 : Nat), (0 : Int), [(87 : Int), (70 : Int), (74 : Int), (49 : Int)], ())).bind fun y19 =>
  bif decide ((0 : Nat) + y19.fst ≤ y19.snd.fst.length) then some (List.take y19.fst (List.drop (0 : Nat) y19.snd.fst), ()) else none
noncomputable def F35 : CF tC := mkF tC S35 f35
theorem f35_run : ∀ a, fnS tC G35 (look [(0, W35_0)]) Try.f35 S35 a = f35 a := fun a => by kernel_rfl
theorem F35_ok : CFOK tC 35 F35 := mkF_ok Y35 (fn := Try.f35) (body := bodyOf Try.f35) (by kernel_rfl) (by kernel_rfl) (by kernel_rfl) (m := 0) rfl (lam_le (lam_cons W35_0_ok lam_nil)) f35_run

/-! ref.Between -/
noncomputable def G33 : FuncId → Option (CF tC) := look [(36, F36)]
theorem Y33 : SysN tC G33 := (sys_cons F36_ok (mkF_nat _ _) (sys_nil tC_ok tC_eq))
noncomputable def c33_13 : Code := subCode (loopOf (bodyOf Try.f33) 0) 13
def p33_13 : PS := ⟨0, [0, 1, 2, 7, 8], ⟨[.one (.ro [.imm 26]), vI, vI] ++ vBs 4 ++ [.one (.one (.sl 0)), vI] ++ vBs 39, [.arr 26]⟩, [⟨.normal, [0, 1, 2, 7, 8], ⟨[.one (.ro [.imm 26]), vI, vI] ++ vBs 4 ++ [.one (.one (.sl 0)), vI] ++ vBs 39, [.arr 26]⟩, []⟩], []⟩
noncomputable def j33_13 (x : List Ev × Int × Int × Nat × Int × List Ev × Unit) : Option (List Ev × Int × Int × Nat × Int × List Ev × Unit) :=
  some
  (x.fst, x.snd.fst, x.snd.snd.fst, x.snd.snd.snd.fst, IntKind.i64.wrap (x.snd.snd.snd.snd.fst + (1 : Int)), x.snd.snd.snd.snd.snd.fst, ())
theorem j33_13_run0 (v0 : List Ev) (v1 : Int) (v2 : Int) (v3 : Nat) (v4 : Int) (v5 : List Ev) : pieceK tC G33 (look []) c33_13 p33_13 (v0, v1, v2, v3, v4, v5, ()) = j33_13 (v0, v1, v2, v3, v4, v5, ()) := by kernel_rfl
theorem j33_13_run (x : List Ev × Int × Int × Nat × Int × List Ev × Unit) : pieceK tC G33 (look []) c33_13 p33_13 x = j33_13 x := j33_13_run0 x.1 x.2.1 x.2.2.1 x.2.2.2.1 x.2.2.2.2.1 x.2.2.2.2.2.1
noncomputable def W33_13 : LF tC := cutLF tC p33_13 j33_13
theorem W33_13_ok : keyed 13 (loopOf (bodyOf Try.f33) 0) = [c33_13] ∧ ∀ n, n ≤ 0 → Snd tC n c33_13 W33_13.k := ⟨by kernel_rfl, fun n hn => cut_ok (p := p33_13) Y33 (lam_le lam_nil n hn) hn j33_13_run⟩
noncomputable def c33_0 : Code := loopOf (bodyOf Try.f33) 0
def p33_0 : LS := ⟨0, [0, 1, 2, 7, 8], ⟨[.one (.ro [.imm 26]), vI, vI] ++ vBs 4 ++ [.one (.one (.sl 0)), vI] ++ vBs 39, [.arr 26]⟩, [⟨.exit 0, [7], ⟨vBs 7 ++ [.one (.one (.sl 0))] ++ vBs 40, [.arr 26]⟩, []⟩], [(7, 26)]⟩
noncomputable def r33_0 (x : List Ev × Int × Int × Nat × Int × List Ev × Unit) : Option (List Ev × Int × Int × Nat × Int × List Ev × Unit ⊕ Nat × List Ev × Unit) :=
  bif decide (x.snd.snd.snd.snd.fst < f36 x.fst) then
  (idxO x.fst x.snd.snd.snd.snd.fst).bind fun y87 =>
    bif decide (y87.T ≥ x.snd.fst) then
      (idxO x.fst x.snd.snd.snd.snd.fst).bind fun y85 =>
        bif decide (y85.T ≤ x.snd.snd.fst) then
          (idxO x.fst x.snd.snd.snd.snd.fst).bind fun y83 =>
            bif decide ((0 : Nat) + x.snd.snd.snd.fst ≤ x.snd.snd.snd.snd.snd.fst.length) then
              bif roomy (x.snd.snd.snd.fst + (1 : Nat)) (56 : Nat) then
                (j33_13
                      (x.fst, x.snd.fst, x.snd.snd.fst, x.snd.snd.snd.fst + (1 : Nat), x.snd.snd.snd.snd.fst,
                        List.take x.snd.snd.snd.fst (List.drop (0 : Nat) x.snd.snd.snd.snd.snd.fst) ++
                          [Ev.mk y83.T y83.U y83.F y83.B y83.S],
                        ())).bind
                  fun y82 =>
                  some
                    (Sum.inl
                      (y82.fst, y82.snd.fst, y82.snd.snd.fst, y82.snd.snd.snd.fst, y82.snd.snd.snd.snd.fst, y82.snd.snd.snd.snd.snd.fst,
                        ()))
              else none
            else none
        else
          (j33_13 (x.fst, x.snd.fst, x.snd.snd.fst, x.snd.snd.snd.fst, x.snd.snd.snd.snd.fst, x.snd.snd.snd.snd.snd.fst, ())).bind
            fun y84 =>
            some
              (Sum.inl
                (y84.fst, y84.snd.fst, y84.snd.snd.fst, y84.snd.snd.snd.fst, y84.snd.snd.snd.snd.fst, y84.snd.snd.snd.snd.snd.fst, ()))
    else
      (j33_13 (x.fst, x.snd.fst, x.snd.snd.fst, x.snd.snd.snd.fst, x.snd.snd.snd.snd.fst, x.snd.snd.snd.snd.snd.fst, ())).bind fun y86 =>
        some
          (Sum.inl (y86.fst, y86.snd.fst, y86.snd.snd.fst, y86.snd.snd.snd.fst, y86.snd.snd.snd.snd.fst, y86.snd.snd.snd.snd.snd.fst, ()))
else some (Sum.inr (x.snd.snd.snd.fst, x.snd.snd.snd.snd.snd.fst, ()))
theorem r33_0_run0 (v0 : List Ev) (v1 : Int) (v2 : Int) (v3 : Nat) (v4 : Int) (v5 : List Ev) : roundK tC G33 (look [(13, W33_13)]) c33_0 p33_0 (v0, v1, v2, v3, v4, v5, ()) = r33_0 (v0, v1, v2, v3, v4, v5, ()) := by kernel_rfl
theorem r33_0_run (x : List Ev × Int × Int × Nat × Int × List Ev × Unit) : roundK tC G33 (look [(13, W33_13)]) c33_0 p33_0 x = r33_0 x := r33_0_run0 x.1 x.2.1 x.2.2.1 x.2.2.2.1 x.2.2.2.2.1 x.2.2.2.2.2.1
noncomputable def l33_0 (x : List Ev × Int × Int × Nat × Int × List Ev × Unit) : Option (Nat × List Ev × Unit) := iterO r33_0 x
noncomputable def W33_0 : LF tC := loopW tC p33_0 0 l33_0
theorem W33_0_ok : keyed 0 (bodyOf Try.f33) = [.block 0 (.loop c33_0)] ∧ ∀ n, n ≤ 0 → Snd tC n (.block 0 (.loop c33_0)) W33_0.k := ⟨by kernel_rfl, fun n hn => loopW_ok (p := p33_0) (id := 0) Y33 (lam_le (lam_cons W33_13_ok lam_nil) n hn) hn r33_0_run⟩
def S33 : FS := ⟨[[.q], [.v], [.v]], [⟨[.one (.ro [.imm 26]), vI, vI], []⟩], [⟨[.one (.one (.him 26))], []⟩], [[.h 26]], []⟩
noncomputable def f33 (x : List Ev × Int × Int × Unit) : Option (List Ev × Unit) :=
  (l33_0 (x.fst, x.snd.fst, x.snd.snd.fst, (0 : Nat), (0 : Int), [], ())).bind fun y91 =>
  bif decide ((0 : Nat) + y91.fst ≤ y91.snd.fst.length) then some (List.take y91.fst (List.drop (0 : Nat) y91.snd.fst), ()) else none
noncomputable def F33 : CF tC := mkF tC S33 f33
theorem f33_run : ∀ a, fnS tC G33 (look [(0, W33_0)]) Try.f33 S33 a = f33 a := fun a => by kernel_rfl
theorem F33_ok : CFOK tC 33 F33 := mkF_ok Y33 (fn := Try.f33) (body := bodyOf Try.f33) (by kernel_rfl) (by kernel_rfl) (by kernel_rfl) (m := 0) rfl (lam_le (lam_cons W33_0_ok lam_nil)) f33_run

/-! ref.At -/
noncomputable def G30 : FuncId → Option (CF tC) := look [(33, F33)]
theorem Y30 : SysN tC G30 := (sys_cons F33_ok (mkF_nat _ _) (sys_nil tC_ok tC_eq))
def S30 : FS := ⟨[[.q], [.v]], [⟨[.one (.ro [.imm 26]), vI], []⟩], [⟨[.tup [.agg [.int .i64, .int .i64, .int .i64, .bool, .him 46], .one .bool]], []⟩], [[.v, .v, .v, .v, .h 46], [.v]], []⟩
noncomputable def f30 (x : List Ev × Int × Unit) : Option (Int × Int × Int × Bool × List Bm × Bool × Unit) :=
  (f33 (x.fst, x.snd.fst, x.snd.fst, ())).bind fun y12 =>
  bif (↑y12.fst.length : Int) == (0 : Int) then some ((0 : Int), (0 : Int), (0 : Int), false, [], false, ())
  else (idxO y12.fst (0 : Int)).bind fun y11 => some (y11.T, y11.U, y11.F, y11.B, y11.S, true, ())
noncomputable def F30 : CF tC := mkF tC S30 f30
theorem f30_run : ∀ a, fnS tC G30 (look []) Try.f30 S30 a = f30 a := fun a => by kernel_rfl
theorem F30_ok : CFOK tC 30 F30 := mkF_ok Y30 (fn := Try.f30) (body := bodyOf Try.f30) (by kernel_rfl) (by kernel_rfl) (by kernel_rfl) (m := 0) rfl (lam_le lam_nil) f30_run

/-! ref.Append -/
noncomputable def G23 : FuncId → Option (CF tC) := look [(43, F43), (44, F44), (55, F55), (13, F13), (56, F56), (35, F35)]
theorem Y23 : SysN tC G23 := (sys_cons F43_ok (mkF_nat _ _) (sys_cons F44_ok (mkF_nat _ _) (sys_cons F55_ok (mkF_nat _ _) (sys_cons F13_ok (mkF_nat _ _) (sys_cons F56_ok (mkF_nat _ _) (sys_cons F35_ok (mkF_nat _ _) (sys_nil tC_ok tC_eq)))))))
def S23 : FS := ⟨[[.p], [.v, .v, .v, .v, .v]], [⟨[.one (.one (.ptr 1 0 0)), .one (.agg [.int .i64, .int .i64, .int .i64, .bool, .him 46])], [.arr 26, .box [.sl 0]]⟩], [⟨[vI], [.arr 26, .box [.sl 0]]⟩, ⟨[vI], [.arr 26, .box [.sl 2], .arr 26]⟩], [[.v]], []⟩
noncomputable def f23 (x : Int × Int × Int × Bool × List Bm × List Ev × Nat × Unit) : Option (Int × List Ev × Nat × Unit ⊕ Int × List Ev × Nat × List Ev × Unit) :=
  bif !f43 x.snd.fst x.snd.snd.fst then some (Sum.inl ((1 : Int), x.snd.snd.snd.snd.snd.fst, x.snd.snd.snd.snd.snd.snd.fst, ()))
else
  (f44 (x.snd.snd.snd.snd.fst, ())).bind fun y26 =>
    bif !y26.fst then some (Sum.inl ((1 : Int), x.snd.snd.snd.snd.snd.fst, x.snd.snd.snd.snd.snd.snd.fst, ()))
    else
      bif decide ((0 : Nat) + x.snd.snd.snd.snd.snd.snd.fst ≤ x.snd.snd.snd.snd.snd.fst.length) then
        (f55 (List.take x.snd.snd.snd.snd.snd.snd.fst (List.drop (0 : Nat) x.snd.snd.snd.snd.snd.fst), ())).bind fun y25 =>
          bif decide (x.fst ≤ y25.fst) then some (Sum.inl ((2 : Int), x.snd.snd.snd.snd.snd.fst, x.snd.snd.snd.snd.snd.snd.fst, ()))
          else
            bif decide (x.fst > (1099511627776 : Int)) then
              some (Sum.inl ((2 : Int), x.snd.snd.snd.snd.snd.fst, x.snd.snd.snd.snd.snd.snd.fst, ()))
            else
              (f13 (x.fst, x.snd.fst, x.snd.snd.fst, x.snd.snd.snd.fst, x.snd.snd.snd.snd.fst, ())).bind fun y24 =>
                (f56 ((1 : Int), y24.fst, ())).bind fun y23 =>
                  bif decide ((0 : Nat) + x.snd.snd.snd.snd.snd.snd.fst ≤ x.snd.snd.snd.snd.snd.fst.length) then
                    (f35 (List.take x.snd.snd.snd.snd.snd.snd.fst (List.drop (0 : Nat) x.snd.snd.snd.snd.snd.fst), ())).bind fun y22 =>
                      bif decide (IntKind.i64.wrap ((↑y22.fst.length : Int) + (↑y23.fst : Int)) > (65536 : Int)) then
                        some (Sum.inl ((6 : Int), x.snd.snd.snd.snd.snd.fst, x.snd.snd.snd.snd.snd.snd.fst, ()))
                      else
                        bif decide ((0 : Nat) + x.snd.snd.snd.snd.snd.snd.fst ≤ x.snd.snd.snd.snd.snd.fst.length) then
                          bif
                              roomy
                                ((0 : Nat) +
                                  (List.take x.snd.snd.snd.snd.snd.snd.fst (List.drop (0 : Nat) x.snd.snd.snd.snd.snd.fst)).length)
                                (56 : Nat) then
                            bif
                                decide
                                  ((0 : Nat) +
                                      ((0 : Nat) +
                                        (List.take x.snd.snd.snd.snd.snd.snd.fst (List.drop (0 : Nat) x.snd.snd.snd.snd.snd.fst)).length) ≤
                                    ([] ++
                                        List.take x.snd.snd.snd.snd.snd.snd.fst
                                          (List.drop (0 : Nat) x.snd.snd.snd.snd.snd.fst)).length) then
                              bif
                                  roomy
                                    ((0 : Nat) +
                                        (List.take x.snd.snd.snd.snd.snd.snd.fst (List.drop (0 : Nat) x.snd.snd.snd.snd.snd.fst)).length +
                                      (1 : Nat))
                                    (56 : Nat) then
                                some
                                  (Sum.inr
                                    ((0 : Int), x.snd.snd.snd.snd.snd.fst,
                                      (0 : Nat) +
                                          (List.take x.snd.snd.snd.snd.snd.snd.fst (List.drop (0 : Nat) x.snd.snd.snd.snd.snd.fst)).length +
                                        (1 : Nat),
                                      List.take
                                          ((0 : Nat) +
                                            (List.take x.snd.snd.snd.snd.snd.snd.fst
                                                (List.drop (0 : Nat) x.snd.snd.snd.snd.snd.fst)).length)
                                          (List.drop (0 : Nat)
                                            ([] ++
                                              List.take x.snd.snd.snd.snd.snd.snd.fst (List.drop (0 : Nat) x.snd.snd.snd.snd.snd.fst))) ++
                                        [Ev.mk x.fst x.snd.fst x.snd.snd.fst x.snd.snd.snd.fst x.snd.snd.snd.snd.fst],
                                      ()))
                              else none
                            else none
                          else none
                        else none
                  else none
      else none
noncomputable def F23 : CF tC := mkF tC S23 f23
theorem f23_run : ∀ a, fnS tC G23 (look []) Try.f23 S23 a = f23 a := fun a => by kernel_rfl
theorem F23_ok : CFOK tC 23 F23 := mkF_ok Y23 (fn := Try.f23) (body := bodyOf Try.f23) (by kernel_rfl) (by kernel_rfl) (by kernel_rfl) (m := 2) rfl (lam_le lam_nil) f23_run

/-! Open -/
noncomputable def G38 : FuncId → Option (CF tC) := look [(19, F19), (60, F60), (15, F15), (22, F22)]
theorem Y38 : SysN tC G38 := (sys_cons F19_ok (mkF_nat _ _) (sys_cons F60_ok (mkF_nat _ _) (sys_cons F15_ok (mkF_nat _ _) (sys_cons F22_ok (mkF_nat _ _) (sys_nil tC_ok tC_eq)))))
noncomputable def c38_0 : Code := loopOf (bodyOf Try.f38) 0
def p38_0 : LS := ⟨0, [5, 6], ⟨vBs 5 ++ [.one (.one (.ptr 0 0 0)), .one (.one (.imm 5))] ++ vBs 45, [.box [.sl 1, .sl 2], .arr 5, .arr 26]⟩, [⟨.exit 0, [5, 6], ⟨vBs 5 ++ [.one (.one (.ptr 0 0 0)), .one (.one (.imm 5))] ++ vBs 45, [.box [.sl 1, .sl 2], .arr 5, .arr 26]⟩, []⟩], []⟩
noncomputable def r38_0 (x : List Int × Nat × Nat × List Int × List Ev × Unit) : Option (List Int × Nat × Nat × List Int × List Ev × Unit ⊕ List Int × Nat × Nat × List Int × List Ev × Unit) :=
  (f60 (x.fst, ())).bind fun y36 =>
  bif y36.snd.snd.snd.fst != (0 : Int) then some (Sum.inr (x.fst, x.snd.fst, x.snd.snd.fst, x.snd.snd.snd.fst, x.snd.snd.snd.snd.fst, ()))
  else
    bif y36.fst != (1 : Int) then some (Sum.inr (x.fst, x.snd.fst, x.snd.snd.fst, x.snd.snd.snd.fst, x.snd.snd.snd.snd.fst, ()))
    else
      (f15 (y36.snd.fst, ())).bind fun y35 =>
        bif y35.snd.snd.snd.snd.snd.fst != (0 : Int) then
          some (Sum.inr (x.fst, x.snd.fst, x.snd.snd.fst, x.snd.snd.snd.fst, x.snd.snd.snd.snd.fst, ()))
        else
          bif decide ((0 : Nat) + x.snd.fst ≤ x.snd.snd.snd.fst.length) then
            bif decide ((0 : Nat) + x.snd.snd.fst ≤ x.snd.snd.snd.snd.fst.length) then
              (f22
                    (y35.fst, y35.snd.fst, y35.snd.snd.fst, y35.snd.snd.snd.fst, y35.snd.snd.snd.snd.fst,
                      List.take x.snd.fst (List.drop (0 : Nat) x.snd.snd.snd.fst),
                      List.take x.snd.snd.fst (List.drop (0 : Nat) x.snd.snd.snd.snd.fst), x.snd.fst, x.snd.snd.fst, ())).bind
                fun y34 =>
                Sum.elim
                  (fun y32 =>
                    bif y32.fst != (0 : Int) then
                      some (Sum.inr (x.fst, y32.snd.snd.snd.fst, y32.snd.snd.snd.snd.fst, y32.snd.fst, y32.snd.snd.fst, ()))
                    else some (Sum.inl (y36.snd.snd.fst, y32.snd.snd.snd.fst, y32.snd.snd.snd.snd.fst, y32.snd.fst, y32.snd.snd.fst, ())))
                  (fun y33 =>
                    bif y33.fst != (0 : Int) then
                      some (Sum.inr (x.fst, y33.snd.fst, y33.snd.snd.fst, y33.snd.snd.snd.fst, y33.snd.snd.snd.snd.fst, ()))
                    else some (Sum.inl (y36.snd.snd.fst, y33.snd.fst, y33.snd.snd.fst, y33.snd.snd.snd.fst, y33.snd.snd.snd.snd.fst, ())))
                  y34
            else none
          else none
theorem r38_0_run0 (v0 : List Int) (v1 : Nat) (v2 : Nat) (v3 : List Int) (v4 : List Ev) : roundK tC G38 (look []) c38_0 p38_0 (v0, v1, v2, v3, v4, ()) = r38_0 (v0, v1, v2, v3, v4, ()) := by kernel_rfl
theorem r38_0_run (x : List Int × Nat × Nat × List Int × List Ev × Unit) : roundK tC G38 (look []) c38_0 p38_0 x = r38_0 x := r38_0_run0 x.1 x.2.1 x.2.2.1 x.2.2.2.1 x.2.2.2.2.1
noncomputable def l38_0 (x : List Int × Nat × Nat × List Int × List Ev × Unit) : Option (List Int × Nat × Nat × List Int × List Ev × Unit) := iterO r38_0 x
noncomputable def W38_0 : LF tC := loopW tC p38_0 0 l38_0
theorem W38_0_ok : keyed 0 (bodyOf Try.f38) = [.block 0 (.loop c38_0)] ∧ ∀ n, n ≤ 0 → Snd tC n (.block 0 (.loop c38_0)) W38_0.k := ⟨by kernel_rfl, fun n hn => loopW_ok (p := p38_0) (id := 0) Y38 (lam_le lam_nil n hn) hn r38_0_run⟩
def S38 : FS := ⟨[[.s 5]], [⟨[.one (.one (.imm 5))], []⟩], [⟨[.tup [.one .nilp, .one (.lit .i64 0), .one (.lit .i64 4)]], []⟩, ⟨[.tup [.one .nilp, .one (.lit .i64 0), .one (.lit .i64 3)]], []⟩, ⟨[.tup [.one (.ptr 0 0 0), .one (.int .i64), .one (.lit .i64 0)]], [.box [.sl 1, .sl 2], .arr 5, .arr 26]⟩], [[.v], [.v], [.v]], []⟩
noncomputable def f38 (x : List Int × Unit) : Option (Unit ⊕ Unit ⊕ Int × Nat × Nat × List Int × List Ev × Unit) :=
  bif decide ((↑x.fst.length : Int) < (4 : Int)) then some (Sum.inl ())
else
  bif true && decide ((4 : Int) ≤ (↑x.fst.length : Int)) && decide ((↑x.fst.length : Int) ≤ (↑x.fst.length : Int)) then
    bif !decide (List.drop (0 : Nat) (List.take (4 : Nat) x.fst) = [(87 : Int), (70 : Int), (74 : Int), (49 : Int)]) then
      some (Sum.inr (Sum.inl ()))
    else
      bif
          true && decide ((4 : Int) ≤ (↑x.fst.length : Int)) && decide ((↑x.fst.length : Int) ≤ (↑x.fst.length : Int)) &&
            decide ((↑x.fst.length : Int) ≤ (↑x.fst.length : Int)) then
        (l38_0
              (List.drop (4 : Nat) (List.take (↑x.fst.length : Int).toNat x.fst), f19.fst, f19.snd.fst, f19.snd.snd.fst, f19.snd.snd.snd,
                ())).bind
          fun y47 =>
          some (Sum.inr (Sum.inr ((↑y47.fst.length : Int), y47.snd.fst, y47.snd.snd.fst, y47.snd.snd.snd.fst, y47.snd.snd.snd.snd.fst, ())))
      else none
  else none
noncomputable def F38 : CF tC := mkF tC S38 f38
theorem f38_run : ∀ a, fnS tC G38 (look [(0, W38_0)]) Try.f38 S38 a = f38 a := fun a => by kernel_rfl
theorem F38_ok : CFOK tC 38 F38 := mkF_ok Y38 (fn := Try.f38) (body := bodyOf Try.f38) (by kernel_rfl) (by kernel_rfl) (by kernel_rfl) (m := 0) rfl (lam_le (lam_cons W38_0_ok lam_nil)) f38_run

/-! ref.Open -/
noncomputable def G39 : FuncId → Option (CF tC) := look [(20, F20), (61, F61), (17, F17), (23, F23)]
theorem Y39 : SysN tC G39 := (sys_cons F20_ok (mkF_nat _ _) (sys_cons F61_ok (mkF_nat _ _) (sys_cons F17_ok (mkF_nat _ _) (sys_cons F23_ok (mkF_nat _ _) (sys_nil tC_ok tC_eq)))))
noncomputable def c39_0 : Code := loopOf (bodyOf Try.f39) 0
def p39_0 : LS := ⟨0, [5, 6], ⟨vBs 5 ++ [.one (.one (.ptr 0 0 0)), .one (.one (.imm 5))] ++ vBs 49, [.box [.sl 1], .arr 26]⟩, [⟨.ret, [2, 3, 4], ⟨[vB, vB, .one (.one (.ptr 0 0 0)), vI, vI] ++ vBs 51, [.box [.sl 1], .arr 26]⟩, []⟩], []⟩
noncomputable def r39_0 (x : List Int × Nat × List Ev × Unit) : Option (List Int × Nat × List Ev × Unit ⊕ Int × Int × Nat × List Ev × Unit) :=
  (f61 (x.fst, ())).bind fun y30 =>
  bif y30.snd.snd.snd.fst != (0 : Int) then some (Sum.inr ((↑x.fst.length : Int), (0 : Int), x.snd.fst, x.snd.snd.fst, ()))
  else
    bif y30.fst != (1 : Int) then some (Sum.inr ((↑x.fst.length : Int), (0 : Int), x.snd.fst, x.snd.snd.fst, ()))
    else
      (f17 (y30.snd.fst, ())).bind fun y29 =>
        bif y29.snd.snd.snd.snd.snd.fst != (0 : Int) then some (Sum.inr ((↑x.fst.length : Int), (0 : Int), x.snd.fst, x.snd.snd.fst, ()))
        else
          bif decide ((0 : Nat) + x.snd.fst ≤ x.snd.snd.fst.length) then
            (f23
                  (y29.fst, y29.snd.fst, y29.snd.snd.fst, y29.snd.snd.snd.fst, y29.snd.snd.snd.snd.fst,
                    List.take x.snd.fst (List.drop (0 : Nat) x.snd.snd.fst), x.snd.fst, ())).bind
              fun y28 =>
              Sum.elim
                (fun y26 =>
                  bif y26.fst != (0 : Int) then some (Sum.inr ((↑x.fst.length : Int), (0 : Int), y26.snd.snd.fst, y26.snd.fst, ()))
                  else some (Sum.inl (y30.snd.snd.fst, y26.snd.snd.fst, y26.snd.fst, ())))
                (fun y27 =>
                  bif y27.fst != (0 : Int) then some (Sum.inr ((↑x.fst.length : Int), (0 : Int), y27.snd.snd.fst, y27.snd.snd.snd.fst, ()))
                  else some (Sum.inl (y30.snd.snd.fst, y27.snd.snd.fst, y27.snd.snd.snd.fst, ())))
                y28
          else none
theorem r39_0_run0 (v0 : List Int) (v1 : Nat) (v2 : List Ev) : roundK tC G39 (look []) c39_0 p39_0 (v0, v1, v2, ()) = r39_0 (v0, v1, v2, ()) := by kernel_rfl
theorem r39_0_run (x : List Int × Nat × List Ev × Unit) : roundK tC G39 (look []) c39_0 p39_0 x = r39_0 x := r39_0_run0 x.1 x.2.1 x.2.2.1
noncomputable def l39_0 (x : List Int × Nat × List Ev × Unit) : Option (Int × Int × Nat × List Ev × Unit) := iterO r39_0 x
noncomputable def W39_0 : LF tC := loopW tC p39_0 0 l39_0
theorem W39_0_ok : keyed 0 (bodyOf Try.f39) = [.block 0 (.loop c39_0)] ∧ ∀ n, n ≤ 0 → Snd tC n (.block 0 (.loop c39_0)) W39_0.k := ⟨by kernel_rfl, fun n hn => loopW_ok (p := p39_0) (id := 0) Y39 (lam_le lam_nil n hn) hn r39_0_run⟩
def S39 : FS := ⟨[[.s 5]], [⟨[.one (.one (.imm 5))], []⟩], [⟨[.tup [.one .nilp, .one (.lit .i64 0), .one (.lit .i64 4)]], []⟩, ⟨[.tup [.one .nilp, .one (.lit .i64 0), .one (.lit .i64 3)]], []⟩, ⟨[.tup [.one (.ptr 0 0 0), .one (.int .i64), .one (.int .i64)]], [.box [.sl 1], .arr 26]⟩], [[.v], [.v], [.v]], []⟩
noncomputable def f39 (x : List Int × Unit) : Option (Unit ⊕ Unit ⊕ Int × Int × Nat × List Ev × Unit) :=
  bif decide ((↑x.fst.length : Int) < (4 : Int)) then some (Sum.inl ())
else
  bif true && decide ((4 : Int) ≤ (↑x.fst.length : Int)) && decide ((↑x.fst.length : Int) ≤ (↑x.fst.length : Int)) then
    bif !decide (List.drop (0 : Nat) (List.take (4 : Nat) x.fst) = [(87 : Int), (70 : Int), (74 : Int), (49 : Int)]) then
      some (Sum.inr (Sum.inl ()))
    else
      bif
          true && decide ((4 : Int) ≤ (↑x.fst.length : Int)) && decide ((↑x.fst.length : Int) ≤ (↑x.fst.length : Int)) &&
            decide ((↑x.fst.length : Int) ≤ (↑x.fst.length : Int)) then
        (l39_0 (List.drop (4 : Nat) (List.take (↑x.fst.length : Int).toNat x.fst), f20.fst, f20.snd, ())).bind fun y39 =>
          some (Sum.inr (Sum.inr (y39.fst, y39.snd.fst, y39.snd.snd.fst, y39.snd.snd.snd.fst, ())))
      else none
  else none
noncomputable def F39 : CF tC := mkF tC S39 f39
theorem f39_run : ∀ a, fnS tC G39 (look [(0, W39_0)]) Try.f39 S39 a = f39 a := fun a => by kernel_rfl
theorem F39_ok : CFOK tC 39 F39 := mkF_ok Y39 (fn := Try.f39) (body := bodyOf Try.f39) (by kernel_rfl) (by kernel_rfl) (by kernel_rfl) (m := 0) rfl (lam_le (lam_cons W39_0_ok lam_nil)) f39_run

/-! build -/
noncomputable def G34 : FuncId → Option (CF tC) := look [(19, F19), (22, F22)]
theorem Y34 : SysN tC G34 := (sys_cons F19_ok (mkF_nat _ _) (sys_cons F22_ok (mkF_nat _ _) (sys_nil tC_ok tC_eq)))
noncomputable def c34_13 : Code := subCode (loopOf (bodyOf Try.f34) 0) 13
def p34_13 : PS := ⟨0, [0, 3, 4], ⟨[.one (.one (.imm 26)), vB, vB, .one (.one (.ptr 0 0 0)), vI] ++ vBs 14, [.box [.sl 1, .sl 2], .arr 5, .arr 26]⟩, [⟨.normal, [0, 3, 4], ⟨[.one (.one (.imm 26)), vB, vB, .one (.one (.ptr 0 0 0)), vI] ++ vBs 14, [.box [.sl 1, .sl 2], .arr 5, .arr 26]⟩, []⟩], []⟩
noncomputable def j34_13 (x : List Ev × Int × Nat × Nat × List Int × List Ev × Unit) : Option (List Ev × Int × Nat × Nat × List Int × List Ev × Unit) :=
  some
  (x.fst, IntKind.i64.wrap (x.snd.fst + (1 : Int)), x.snd.snd.fst, x.snd.snd.snd.fst, x.snd.snd.snd.snd.fst, x.snd.snd.snd.snd.snd.fst, ())
theorem j34_13_run0 (v0 : List Ev) (v1 : Int) (v2 : Nat) (v3 : Nat) (v4 : List Int) (v5 : List Ev) : pieceK tC G34 (look []) c34_13 p34_13 (v0, v1, v2, v3, v4, v5, ()) = j34_13 (v0, v1, v2, v3, v4, v5, ()) := by kernel_rfl
theorem j34_13_run (x : List Ev × Int × Nat × Nat × List Int × List Ev × Unit) : pieceK tC G34 (look []) c34_13 p34_13 x = j34_13 x := j34_13_run0 x.1 x.2.1 x.2.2.1 x.2.2.2.1 x.2.2.2.2.1 x.2.2.2.2.2.1
noncomputable def W34_13 : LF tC := cutLF tC p34_13 j34_13
theorem W34_13_ok : keyed 13 (loopOf (bodyOf Try.f34) 0) = [c34_13] ∧ ∀ n, n ≤ 0 → Snd tC n c34_13 W34_13.k := ⟨by kernel_rfl, fun n hn => cut_ok (p := p34_13) Y34 (lam_le lam_nil n hn) hn j34_13_run⟩
noncomputable def c34_0 : Code := loopOf (bodyOf Try.f34) 0
def p34_0 : LS := ⟨0, [0, 3, 4], ⟨[.one (.one (.imm 26)), vB, vB, .one (.one (.ptr 0 0 0)), vI] ++ vBs 14, [.box [.sl 1, .sl 2], .arr 5, .arr 26]⟩, [⟨.exit 0, [3], ⟨[vB, vB, vB, .one (.one (.ptr 0 0 0))] ++ vBs 15, [.box [.sl 1, .sl 2], .arr 5, .arr 26]⟩, []⟩], []⟩
noncomputable def r34_0 (x : List Ev × Int × Nat × Nat × List Int × List Ev × Unit) : Option (List Ev × Int × Nat × Nat × List Int × List Ev × Unit ⊕ Nat × Nat × List Int × List Ev × Unit) :=
  bif decide (x.snd.fst < (↑x.fst.length : Int)) then
  (idxO x.fst x.snd.fst).bind fun y52 =>
    bif decide ((0 : Nat) + x.snd.snd.fst ≤ x.snd.snd.snd.snd.fst.length) then
      bif decide ((0 : Nat) + x.snd.snd.snd.fst ≤ x.snd.snd.snd.snd.snd.fst.length) then
        (f22
              (y52.T, y52.U, y52.F, y52.B, y52.S, List.take x.snd.snd.fst (List.drop (0 : Nat) x.snd.snd.snd.snd.fst),
                List.take x.snd.snd.snd.fst (List.drop (0 : Nat) x.snd.snd.snd.snd.snd.fst), x.snd.snd.fst, x.snd.snd.snd.fst, ())).bind
          fun y51 =>
          Sum.elim
            (fun y48 =>
              (j34_13 (x.fst, x.snd.fst, y48.snd.snd.snd.fst, y48.snd.snd.snd.snd.fst, y48.snd.fst, y48.snd.snd.fst, ())).bind fun y47 =>
                some
                  (Sum.inl
                    (y47.fst, y47.snd.fst, y47.snd.snd.fst, y47.snd.snd.snd.fst, y47.snd.snd.snd.snd.fst, y47.snd.snd.snd.snd.snd.fst, ())))
            (fun y50 =>
              (j34_13 (x.fst, x.snd.fst, y50.snd.fst, y50.snd.snd.fst, y50.snd.snd.snd.fst, y50.snd.snd.snd.snd.fst, ())).bind fun y49 =>
                some
                  (Sum.inl
                    (y49.fst, y49.snd.fst, y49.snd.snd.fst, y49.snd.snd.snd.fst, y49.snd.snd.snd.snd.fst, y49.snd.snd.snd.snd.snd.fst, ())))
            y51
      else none
    else none
else some (Sum.inr (x.snd.snd.fst, x.snd.snd.snd.fst, x.snd.snd.snd.snd.fst, x.snd.snd.snd.snd.snd.fst, ()))
theorem r34_0_run0 (v0 : List Ev) (v1 : Int) (v2 : Nat) (v3 : Nat) (v4 : List Int) (v5 : List Ev) : roundK tC G34 (look [(13, W34_13)]) c34_0 p34_0 (v0, v1, v2, v3, v4, v5, ()) = r34_0 (v0, v1, v2, v3, v4, v5, ()) := by kernel_rfl
theorem r34_0_run (x : List Ev × Int × Nat × Nat × List Int × List Ev × Unit) : roundK tC G34 (look [(13, W34_13)]) c34_0 p34_0 x = r34_0 x := r34_0_run0 x.1 x.2.1 x.2.2.1 x.2.2.2.1 x.2.2.2.2.1 x.2.2.2.2.2.1
noncomputable def l34_0 (x : List Ev × Int × Nat × Nat × List Int × List Ev × Unit) : Option (Nat × Nat × List Int × List Ev × Unit) := iterO r34_0 x
noncomputable def W34_0 : LF tC := loopW tC p34_0 0 l34_0
theorem W34_0_ok : keyed 0 (bodyOf Try.f34) = [.block 0 (.loop c34_0)] ∧ ∀ n, n ≤ 0 → Snd tC n (.block 0 (.loop c34_0)) W34_0.k := ⟨by kernel_rfl, fun n hn => loopW_ok (p := p34_0) (id := 0) Y34 (lam_le (lam_cons W34_13_ok lam_nil) n hn) hn r34_0_run⟩
def S34 : FS := ⟨[[.s 26]], [⟨[.one (.one (.imm 26))], []⟩], [⟨[.one (.one (.ptr 0 0 0))], [.box [.sl 1, .sl 2], .arr 5, .arr 26]⟩], [[.v]], []⟩
noncomputable def f34 (x : List Ev × Unit) : Option (Nat × Nat × List Int × List Ev × Unit) :=
  (l34_0 (x.fst, (0 : Int), f19.fst, f19.snd.fst, f19.snd.snd.fst, f19.snd.snd.snd, ())).bind fun y61 =>
  some (y61.fst, y61.snd.fst, y61.snd.snd.fst, y61.snd.snd.snd.fst, ())
noncomputable def F34 : CF tC := mkF tC S34 f34
theorem f34_run : ∀ a, fnS tC G34 (look [(0, W34_0)]) Try.f34 S34 a = f34 a := fun a => by kernel_rfl
theorem F34_ok : CFOK tC 34 F34 := mkF_ok Y34 (fn := Try.f34) (body := bodyOf Try.f34) (by kernel_rfl) (by kernel_rfl) (by kernel_rfl) (m := 0) rfl (lam_le (lam_cons W34_0_ok lam_nil)) f34_run

/-! before -/
noncomputable def G37 : FuncId → Option (CF tC) := look [(36, F36), (13, F13)]
theorem Y37 : SysN tC G37 := (sys_cons F36_ok (mkF_nat _ _) (sys_cons F13_ok (mkF_nat _ _) (sys_nil tC_ok tC_eq)))
noncomputable def c37_28 : Code := subCode (loopOf (bodyOf Try.f37) 0) 28
def p37_28 : PS := ⟨0, [0, 1, 6, 7, 8, 9], ⟨[.one (.ro [.imm 26]), vI] ++ vBs 4 ++ [vI, vI, .one (.one (.him 5)), vI] ++ vBs 43, []⟩, [⟨.ret, [4, 5], ⟨vBs 4 ++ [vI, vO] ++ vBs 47, []⟩, []⟩, ⟨.normal, [0, 1, 6, 7], ⟨[.one (.ro [.imm 26]), vI] ++ vBs 4 ++ [vI, vI] ++ vBs 45, []⟩, []⟩], []⟩
noncomputable def j37_28 (x : List Ev × Int × Int × Int × List Int × Int × Unit) : Option (Int × Bool × Unit ⊕ List Ev × Int × Int × Int × Unit) :=
  bif
    decide
      (x.snd.fst <
        IntKind.i64.wrap
          (IntKind.i64.wrap
              (IntKind.i64.wrap (IntKind.i64.wrap (x.snd.snd.fst + (1 : Int)) + x.snd.snd.snd.snd.snd.fst) +
                (↑x.snd.snd.snd.snd.fst.length : Int)) +
            (4 : Int))) then
  bif decide (x.snd.fst > x.snd.snd.fst) then
    some (Sum.inl (x.snd.snd.snd.fst, decide (x.snd.fst ≤ IntKind.i64.wrap (x.snd.snd.fst + x.snd.snd.snd.snd.snd.fst)), ()))
  else some (Sum.inl (x.snd.snd.snd.fst, false, ()))
else
  some
    (Sum.inr
      (x.fst, x.snd.fst,
        IntKind.i64.wrap
          (IntKind.i64.wrap
              (IntKind.i64.wrap (IntKind.i64.wrap (x.snd.snd.fst + (1 : Int)) + x.snd.snd.snd.snd.snd.fst) +
                (↑x.snd.snd.snd.snd.fst.length : Int)) +
            (4 : Int)),
        x.snd.snd.snd.fst, ()))
theorem j37_28_run0 (v0 : List Ev) (v1 : Int) (v2 : Int) (v3 : Int) (v4 : List Int) (v5 : Int) : pieceK tC G37 (look []) c37_28 p37_28 (v0, v1, v2, v3, v4, v5, ()) = j37_28 (v0, v1, v2, v3, v4, v5, ()) := by kernel_rfl
theorem j37_28_run (x : List Ev × Int × Int × Int × List Int × Int × Unit) : pieceK tC G37 (look []) c37_28 p37_28 x = j37_28 x := j37_28_run0 x.1 x.2.1 x.2.2.1 x.2.2.2.1 x.2.2.2.2.1 x.2.2.2.2.2.1
noncomputable def W37_28 : LF tC := cutLF tC p37_28 j37_28
theorem W37_28_ok : keyed 28 (loopOf (bodyOf Try.f37) 0) = [c37_28] ∧ ∀ n, n ≤ 0 → Snd tC n c37_28 W37_28.k := ⟨by kernel_rfl, fun n hn => cut_ok (p := p37_28) Y37 (lam_le lam_nil n hn) hn j37_28_run⟩
noncomputable def c37_13 : Code := subCode (loopOf (bodyOf Try.f37) 0) 13
def p37_13 : PS := ⟨0, [0, 1, 6, 7], ⟨[.one (.ro [.imm 26]), vI] ++ vBs 4 ++ [vI, vI] ++ vBs 45, []⟩, [⟨.normal, [0, 1, 6, 7], ⟨[.one (.ro [.imm 26]), vI] ++ vBs 4 ++ [vI, vI] ++ vBs 45, []⟩, []⟩], []⟩
noncomputable def j37_13 (x : List Ev × Int × Int × Int × Unit) : Option (List Ev × Int × Int × Int × Unit) :=
  some (x.fst, x.snd.fst, x.snd.snd.fst, IntKind.i64.wrap (x.snd.snd.snd.fst + (1 : Int)), ())
theorem j37_13_run0 (v0 : List Ev) (v1 : Int) (v2 : Int) (v3 : Int) : pieceK tC G37 (look []) c37_13 p37_13 (v0, v1, v2, v3, ()) = j37_13 (v0, v1, v2, v3, ()) := by kernel_rfl
theorem j37_13_run (x : List Ev × Int × Int × Int × Unit) : pieceK tC G37 (look []) c37_13 p37_13 x = j37_13 x := j37_13_run0 x.1 x.2.1 x.2.2.1 x.2.2.2.1
noncomputable def W37_13 : LF tC := cutLF tC p37_13 j37_13
theorem W37_13_ok : keyed 13 (loopOf (bodyOf Try.f37) 0) = [c37_13] ∧ ∀ n, n ≤ 0 → Snd tC n c37_13 W37_13.k := ⟨by kernel_rfl, fun n hn => cut_ok (p := p37_13) Y37 (lam_le lam_nil n hn) hn j37_13_run⟩
noncomputable def c37_0 : Code := loopOf (bodyOf Try.f37) 0
def p37_0 : LS := ⟨0, [0, 1, 6, 7], ⟨[.one (.ro [.imm 26]), vI] ++ vBs 4 ++ [vI, vI] ++ vBs 45, []⟩, [⟨.ret, [4, 5], ⟨vBs 4 ++ [vI, vO] ++ vBs 47, []⟩, []⟩, ⟨.exit 0, [0], ⟨[.one (.ro [.imm 26])] ++ vBs 52, []⟩, []⟩], []⟩
noncomputable def r37_0 (x : List Ev × Int × Int × Int × Unit) : Option (List Ev × Int × Int × Int × Unit ⊕ Int × Bool × Unit ⊕ List Ev × Unit) :=
  bif decide (x.snd.snd.snd.fst < f36 x.fst) then
  (idxO x.fst x.snd.snd.snd.fst).bind fun y61 =>
    (f13 (y61.T, y61.U, y61.F, y61.B, y61.S, ())).bind fun y60 =>
      bif decide ((↑y60.fst.length : Int) > (127 : Int)) then
        (j37_28 (x.fst, x.snd.fst, x.snd.snd.fst, x.snd.snd.snd.fst, y60.fst, (2 : Int), ())).bind fun y55 =>
          Sum.elim (fun y52 => some (Sum.inr (Sum.inl (y52.fst, y52.snd.fst, ()))))
            (fun y54 =>
              (j37_13 (y54.fst, y54.snd.fst, y54.snd.snd.fst, y54.snd.snd.snd.fst, ())).bind fun y53 =>
                some (Sum.inl (y53.fst, y53.snd.fst, y53.snd.snd.fst, y53.snd.snd.snd.fst, ())))
            y55
      else
        (j37_28 (x.fst, x.snd.fst, x.snd.snd.fst, x.snd.snd.snd.fst, y60.fst, (1 : Int), ())).bind fun y59 =>
          Sum.elim (fun y56 => some (Sum.inr (Sum.inl (y56.fst, y56.snd.fst, ()))))
            (fun y58 =>
              (j37_13 (y58.fst, y58.snd.fst, y58.snd.snd.fst, y58.snd.snd.snd.fst, ())).bind fun y57 =>
                some (Sum.inl (y57.fst, y57.snd.fst, y57.snd.snd.fst, y57.snd.snd.snd.fst, ())))
            y59
else some (Sum.inr (Sum.inr (x.fst, ())))
theorem r37_0_run0 (v0 : List Ev) (v1 : Int) (v2 : Int) (v3 : Int) : roundK tC G37 (look [(28, W37_28), (13, W37_13)]) c37_0 p37_0 (v0, v1, v2, v3, ()) = r37_0 (v0, v1, v2, v3, ()) := by kernel_rfl
theorem r37_0_run (x : List Ev × Int × Int × Int × Unit) : roundK tC G37 (look [(28, W37_28), (13, W37_13)]) c37_0 p37_0 x = r37_0 x := r37_0_run0 x.1 x.2.1 x.2.2.1 x.2.2.2.1
noncomputable def l37_0 (x : List Ev × Int × Int × Int × Unit) : Option (Int × Bool × Unit ⊕ List Ev × Unit) := iterO r37_0 x
noncomputable def W37_0 : LF tC := loopW tC p37_0 0 l37_0
theorem W37_0_ok : keyed 0 (bodyOf Try.f37) = [.block 0 (.loop c37_0)] ∧ ∀ n, n ≤ 0 → Snd tC n (.block 0 (.loop c37_0)) W37_0.k := ⟨by kernel_rfl, fun n hn => loopW_ok (p := p37_0) (id := 0) Y37 (lam_le (lam_cons W37_28_ok (lam_cons W37_13_ok lam_nil)) n hn) hn r37_0_run⟩
def S37 : FS := ⟨[[.q], [.v]], [⟨[.one (.ro [.imm 26]), vI], []⟩], [⟨[.tup [.one (.int .i64), .one .bool]], []⟩], [[.v], [.v]], []⟩
noncomputable def f37 (x : List Ev × Int × Unit) : Option (Int × Bool × Unit) :=
  (l37_0 (x.fst, x.snd.fst, (4 : Int), (0 : Int), ())).bind fun y69 =>
  Sum.elim (fun y67 => some (y67.fst, y67.snd.fst, ())) (fun y68 => some (f36 y68.fst, false, ())) y69
noncomputable def F37 : CF tC := mkF tC S37 f37
theorem f37_run : ∀ a, fnS tC G37 (look [(0, W37_0)]) Try.f37 S37 a = f37 a := fun a => by kernel_rfl
theorem F37_ok : CFOK tC 37 F37 := mkF_ok Y37 (fn := Try.f37) (body := bodyOf Try.f37) (by kernel_rfl) (by kernel_rfl) (by kernel_rfl) (m := 0) rfl (lam_le (lam_cons W37_0_ok lam_nil)) f37_run

/-! same -/
noncomputable def G24 : FuncId → Option (CF tC) := look [(26, F26), (36, F36), (27, F27), (55, F55), (28, F28), (57, F57), (31, F31), (25, F25), (35, F35), (14, F14)]
theorem Y24 : SysN tC G24 := (sys_cons F26_ok (mkF_nat _ _) (sys_cons F36_ok (mkF_nat _ _) (sys_cons F27_ok (mkF_nat _ _) (sys_cons F55_ok (mkF_nat _ _) (sys_cons F28_ok (mkF_nat _ _) (sys_cons F57_ok (mkF_nat _ _) (sys_cons F31_ok (mkF_nat _ _) (sys_cons F25_ok (mkF_nat _ _) (sys_cons F35_ok (mkF_nat _ _) (sys_cons F14_ok (mkF_nat _ _) (sys_nil tC_ok tC_eq)))))))))))
def S24 : FS := ⟨[[.q], [.p]], [⟨[.one (.ro [.imm 5, .imm 26]), .one (.one (.ptr 1 0 0))], [.arr 26, .box [.sl 0]]⟩], [⟨[vO], [.gone, .box [.sl 2], .arr 26]⟩, ⟨[vO], [.arr 26, .box [.sl 0]]⟩], [[.v]], []⟩
noncomputable def f24 (x : List Int × List Ev × List Ev × Nat × Unit) : Option (Bool × Nat × List Ev × Unit ⊕ Bool × List Ev × Nat × Unit) :=
  bif decide ((0 : Nat) + x.snd.snd.snd.fst ≤ x.snd.snd.fst.length) then
  bif f26 x.fst x.snd.fst == f36 (List.take x.snd.snd.snd.fst (List.drop (0 : Nat) x.snd.snd.fst)) then
    (f27 (x.fst, x.snd.fst, ())).bind fun y22 =>
      bif decide ((0 : Nat) + x.snd.snd.snd.fst ≤ x.snd.snd.fst.length) then
        (f55 (List.take x.snd.snd.snd.fst (List.drop (0 : Nat) x.snd.snd.fst), ())).bind fun y21 =>
          bif y22.fst == y21.fst then
            (f28 (x.fst, x.snd.fst, ())).bind fun y20 =>
              bif decide ((0 : Nat) + x.snd.snd.snd.fst ≤ x.snd.snd.fst.length) then
                bif
                    decide
                      ((0 : Nat) + (f57 (List.take x.snd.snd.snd.fst (List.drop (0 : Nat) x.snd.snd.fst)) x.snd.snd.snd.fst).fst ≤
                        (f57 (List.take x.snd.snd.snd.fst (List.drop (0 : Nat) x.snd.snd.fst)) x.snd.snd.snd.fst).snd.fst.length) then
                  (f31
                        (y20.fst,
                          List.take (f57 (List.take x.snd.snd.snd.fst (List.drop (0 : Nat) x.snd.snd.fst)) x.snd.snd.snd.fst).fst
                            (List.drop (0 : Nat)
                              (f57 (List.take x.snd.snd.snd.fst (List.drop (0 : Nat) x.snd.snd.fst)) x.snd.snd.snd.fst).snd.fst),
                          ())).bind
                    fun y19 =>
                    bif y19.fst then
                      (f25 (x.fst, x.snd.fst, ())).bind fun y18 =>
                        bif
                            decide
                              ((0 : Nat) +
                                  (f57 (List.take x.snd.snd.snd.fst (List.drop (0 : Nat) x.snd.snd.fst)) x.snd.snd.snd.fst).snd.snd ≤
                                (f57 (List.take x.snd.snd.snd.fst (List.drop (0 : Nat) x.snd.snd.fst))
                                        x.snd.snd.snd.fst).snd.fst.length) then
                          (f35
                                (List.take (f57 (List.take x.snd.snd.snd.fst (List.drop (0 : Nat) x.snd.snd.fst)) x.snd.snd.snd.fst).snd.snd
                                    (List.drop (0 : Nat)
                                      (f57 (List.take x.snd.snd.snd.fst (List.drop (0 : Nat) x.snd.snd.fst)) x.snd.snd.snd.fst).snd.fst),
                                  ())).bind
                            fun y17 =>
                            some
                              (Sum.inl
                                (f14 y18.fst y17.fst,
                                  (f57 (List.take x.snd.snd.snd.fst (List.drop (0 : Nat) x.snd.snd.fst)) x.snd.snd.snd.fst).snd.snd,
                                  (f57 (List.take x.snd.snd.snd.fst (List.drop (0 : Nat) x.snd.snd.fst)) x.snd.snd.snd.fst).snd.fst, ()))
                        else none
                    else
                      some
                        (Sum.inl
                          (false, (f57 (List.take x.snd.snd.snd.fst (List.drop (0 : Nat) x.snd.snd.fst)) x.snd.snd.snd.fst).snd.snd,
                            (f57 (List.take x.snd.snd.snd.fst (List.drop (0 : Nat) x.snd.snd.fst)) x.snd.snd.snd.fst).snd.fst, ()))
                else none
              else none
          else some (Sum.inr (false, x.snd.snd.fst, x.snd.snd.snd.fst, ()))
      else none
  else some (Sum.inr (false, x.snd.snd.fst, x.snd.snd.snd.fst, ()))
else none
noncomputable def F24 : CF tC := mkF tC S24 f24
theorem f24_run : ∀ a, fnS tC G24 (look []) Try.f24 S24 a = f24 a := fun a => by kernel_rfl
theorem F24_ok : CFOK tC 24 F24 := mkF_ok Y24 (fn := Try.f24) (body := bodyOf Try.f24) (by kernel_rfl) (by kernel_rfl) (by kernel_rfl) (m := 2) rfl (lam_le lam_nil) f24_run

/-! awake -/
noncomputable def G11 : FuncId → Option (CF tC) := look [(15, F15), (19, F19), (12, F12), (14, F14), (16, F16), (22, F22)]
theorem Y11 : SysN tC G11 := (sys_cons F15_ok (mkF_nat _ _) (sys_cons F19_ok (mkF_nat _ _) (sys_cons F12_ok (mkF_nat _ _) (sys_cons F14_ok (mkF_nat _ _) (sys_cons F16_ok (mkF_nat _ _) (sys_cons F22_ok (mkF_nat _ _) (sys_nil tC_ok tC_eq)))))))
def S11 : FS := ⟨[], [⟨[], []⟩], [⟨[vO], []⟩], [[.v]], []⟩
noncomputable def f11 (_x : Unit) : Option (Bool × Unit) :=
  (f15 ([(10 : Int), (5 : Int), (40 : Int), (0 : Int), (1 : Int), (64 : Int), (101 : Int)], ())).bind fun y25 =>
  (f12 ((5 : Int), (-3 : Int), (20 : Int), false, [Bm.mk (64 : Int) (100 : Int)], ())).bind fun y24 =>
    bif f14 y24.fst [(10 : Int), (5 : Int), (40 : Int), (0 : Int), (1 : Int), (64 : Int), (101 : Int)] then
      bif y25.snd.snd.snd.snd.snd.fst == (0 : Int) then
        (f16
              (y25.fst, y25.snd.fst, y25.snd.snd.fst, y25.snd.snd.snd.fst, y25.snd.snd.snd.snd.fst, (5 : Int), (-3 : Int), (20 : Int),
                false, [Bm.mk (64 : Int) (100 : Int)], ())).bind
          fun y23 =>
          bif y23.fst then
            bif decide ((0 : Nat) + f19.fst ≤ f19.snd.snd.fst.length) then
              bif decide ((0 : Nat) + f19.snd.fst ≤ f19.snd.snd.snd.length) then
                (f22
                      ((5 : Int), (-3 : Int), (20 : Int), false, [Bm.mk (64 : Int) (100 : Int)],
                        List.take f19.fst (List.drop (0 : Nat) f19.snd.snd.fst),
                        List.take f19.snd.fst (List.drop (0 : Nat) f19.snd.snd.snd), f19.fst, f19.snd.fst, ())).bind
                  fun y22 => Sum.elim (fun y20 => some (y20.fst == (0 : Int), ())) (fun y21 => some (y21.fst == (0 : Int), ())) y22
              else none
            else none
          else some (false, ())
      else some (false, ())
    else some (false, ())
noncomputable def F11 : CF tC := mkF tC S11 f11
theorem f11_run : ∀ a, fnS tC G11 (look []) Try.f11 S11 a = f11 a := fun a => by kernel_rfl
theorem F11_ok : CFOK tC 11 F11 := mkF_ok Y11 (fn := Try.f11) (body := bodyOf Try.f11) (by kernel_rfl) (by kernel_rfl) (by kernel_rfl) (m := 0) rfl (lam_le lam_nil) f11_run
end Go.AE
