/-
  The plain functions that the seat's Go functions compute, each with the proof that the function keeps it. Printed by the generator (Gen2) and checked by the kernel.
-/
import Derived.Test.YtcphmffpkjngiaaFb
namespace Go.AE
open Go.Proofs Go.RowKit
set_option maxRecDepth 100000

/-! Append, of nil -/
noncomputable def G922 : FuncId → Option (CF tC) := look [(40, F40), (41, F41), (27, F27), (42, F42), (53, F53), (54, F54)]
theorem Y922 : SysN tC G922 := (sys_cons F40_ok (mkF_nat _ _) (sys_cons F41_ok (mkF_nat _ _) (sys_cons F27_ok (mkF_nat _ _) (sys_cons F42_ok (mkF_nat _ _) (sys_cons F53_ok (mkF_nat _ _) (sys_cons F54_ok (mkF_nat _ _) (sys_nil tC_ok tC_eq)))))))
def S922 : FS := ⟨[[.p], [.v, .v, .v, .v, .s 46]], [⟨[.one (.one .nilp), .one (.agg [.int .i64, .int .i64, .int .i64, .bool, .imm 46])], []⟩], [⟨[vI], []⟩], [[.v]], []⟩
def f922 (_n1 : Int) (_n2 : Int) (_n3 : Int) (_b4 : Bool) (_l5 : List Bm) : Int :=
  (1 : Int)
noncomputable def F922 : CF tC := mkF tC S922 (fun a => some ((f922 a.1 a.2.1 a.2.2.1 a.2.2.2.1 a.2.2.2.2.1), ()))
def h922 (r : Int) : Option (altTy tE S922.outs) := some (r, ())
theorem f922_run : ∀ a, fnS tC G922 (look []) Try.f22 S922 a = (fun a => some ((f922 a.1 a.2.1 a.2.2.1 a.2.2.2.1 a.2.2.2.2.1), ())) a := fun a => by
  have key : ∀ (n1 : Int) (n2 : Int) (n3 : Int) (b4 : Bool) (l5 : List Bm), (h922 (1 : Int)) = h922 (f922 n1 n2 n3 b4 l5) := by
    intros
    unfold f922
    repeat' first | rfl | refine cond_h (g := h922) ?_ ?_
  exact Eq.trans (by kernel_rfl) (key a.1 a.2.1 a.2.2.1 a.2.2.2.1 a.2.2.2.2.1)
theorem F922_ok : CFOK tC 22 F922 := mkF_ok Y922 (fn := Try.f22) (body := bodyOf Try.f22) (by kernel_rfl) (by kernel_rfl) (by kernel_rfl) (m := 0) rfl (lam_le lam_nil) f922_run

/-! Last, of nil -/
noncomputable def G927 : FuncId → Option (CF tC) := look []
theorem Y927 : SysN tC G927 := (sys_nil tC_ok tC_eq)
def S927 : FS := ⟨[[.q]], [⟨[.one (.one .nilp)], []⟩], [⟨[vI], []⟩], [[.v]], []⟩
def f927  : Int :=
  (0 : Int)
noncomputable def F927 : CF tC := mkF tC S927 (fun _ => some (f927, ()))
theorem f927_run : ∀ a, fnS tC G927 (look []) Try.f27 S927 a = (fun _ => some (f927, ())) a := fun a => by kernel_rfl
theorem F927_ok : CFOK tC 27 F927 := mkF_ok Y927 (fn := Try.f27) (body := bodyOf Try.f27) (by kernel_rfl) (by kernel_rfl) (by kernel_rfl) (m := 0) rfl (lam_le lam_nil) f927_run

/-! Len, of nil -/
noncomputable def G926 : FuncId → Option (CF tC) := look []
theorem Y926 : SysN tC G926 := (sys_nil tC_ok tC_eq)
def S926 : FS := ⟨[[.q]], [⟨[.one (.one .nilp)], []⟩], [⟨[vI], []⟩], [[.v]], []⟩
def f926  : Int :=
  (0 : Int)
noncomputable def F926 : CF tC := mkF tC S926 (fun _ => some (f926, ()))
theorem f926_run : ∀ a, fnS tC G926 (look []) Try.f26 S926 a = (fun _ => some (f926, ())) a := fun a => by kernel_rfl
theorem F926_ok : CFOK tC 26 F926 := mkF_ok Y926 (fn := Try.f26) (body := bodyOf Try.f26) (by kernel_rfl) (by kernel_rfl) (by kernel_rfl) (m := 0) rfl (lam_le lam_nil) f926_run

/-! Bytes, of nil -/
noncomputable def G925 : FuncId → Option (CF tC) := look [(58, F58)]
theorem Y925 : SysN tC G925 := (sys_cons F58_ok (mkF_nat _ _) (sys_nil tC_ok tC_eq))
def S925 : FS := ⟨[[.q]], [⟨[.one (.one .nilp)], []⟩], [⟨[.one (.one (.him 5))], []⟩], [[.h 5]], []⟩
def f925  : List Int :=
  []
noncomputable def F925 : CF tC := mkF tC S925 (fun _ => some (f925, ()))
theorem f925_run : ∀ a, fnS tC G925 (look []) Try.f25 S925 a = (fun _ => some (f925, ())) a := fun a => by kernel_rfl
theorem F925_ok : CFOK tC 25 F925 := mkF_ok Y925 (fn := Try.f25) (body := bodyOf Try.f25) (by kernel_rfl) (by kernel_rfl) (by kernel_rfl) (m := 0) rfl (lam_le lam_nil) f925_run

/-! Events, of nil -/
noncomputable def G928 : FuncId → Option (CF tC) := look [(54, F54)]
theorem Y928 : SysN tC G928 := (sys_cons F54_ok (mkF_nat _ _) (sys_nil tC_ok tC_eq))
def S928 : FS := ⟨[[.q]], [⟨[.one (.one .nilp)], []⟩], [⟨[.one (.one (.him 26))], []⟩], [[.h 26]], []⟩
def f928  : List Ev :=
  []
noncomputable def F928 : CF tC := mkF tC S928 (fun _ => some (f928, ()))
theorem f928_run : ∀ a, fnS tC G928 (look []) Try.f28 S928 a = (fun _ => some (f928, ())) a := fun a => by kernel_rfl
theorem F928_ok : CFOK tC 28 F928 := mkF_ok Y928 (fn := Try.f28) (body := bodyOf Try.f28) (by kernel_rfl) (by kernel_rfl) (by kernel_rfl) (m := 0) rfl (lam_le lam_nil) f928_run

/-! JournalAppends -/
noncomputable def G5 : FuncId → Option (CF tC) := look [(11, F11), (18, F18), (19, F19), (20, F20), (24, F24), (22, F922), (25, F925), (26, F926), (27, F927), (28, F928)]
theorem Y5 : SysN tC G5 := (sys_cons F11_ok (mkF_nat _ _) (sys_cons F18_ok (mkF_nat _ _) (sys_cons F19_ok (mkF_nat _ _) (sys_cons F20_ok (mkF_nat _ _) (sys_cons F24_ok (mkF_nat _ _) (sys_cons F922_ok (mkF_nat _ _) (sys_cons F925_ok (mkF_nat _ _) (sys_cons F926_ok (mkF_nat _ _) (sys_cons F927_ok (mkF_nat _ _) (sys_cons F928_ok (mkF_nat _ _) (sys_nil tC_ok tC_eq)))))))))))
noncomputable def H5 : FuncId → Option (CF tC) := look [(11, F11), (18, F18), (19, F19), (20, F20), (21, F21), (22, F22), (23, F23), (24, F24)]
theorem Z5 : SysN tC H5 := (sys_cons F11_ok (mkF_nat _ _) (sys_cons F18_ok (mkF_nat _ _) (sys_cons F19_ok (mkF_nat _ _) (sys_cons F20_ok (mkF_nat _ _) (sys_cons F21_ok (mkF_nat _ _) (sys_cons F22_ok (mkF_nat _ _) (sys_cons F23_ok (mkF_nat _ _) (sys_cons F24_ok (mkF_nat _ _) (sys_nil tC_ok tC_eq)))))))))
noncomputable def c5_6 : Code := loopOf (loopOf (bodyOf Try.f5) 0) 2
def p5_6 : LS := ⟨0, [0, 3, 4, 5, 6, 7], ⟨[.one (.one (.imm 26)), vB, vB, .one (.one (.ptr 0 0 0)), .one (.one (.ptr 1 0 0)), vI, .one (.one (.ptr 2 0 0)), vI] ++ vBs 75, [.box [.sl 3, .sl 4], .box [.sl 5], .box [.int .i64, .int .i64, .int .i64, .bool, .sl 6], .arr 5, .arr 26, .arr 26, .arr 46]⟩, [⟨.exit 2, [0, 3, 4, 5], ⟨[.one (.one (.imm 26)), vB, vB, .one (.one (.ptr 0 0 0)), .one (.one (.ptr 1 0 0)), vI] ++ vBs 77, [.box [.sl 2, .sl 3], .box [.sl 4], .arr 5, .arr 26, .arr 26]⟩, []⟩], []⟩
noncomputable def r5_6 (x : List Ev × Int × Int × Nat × Nat × Nat × Int × Int × Int × Bool × Nat × List Int × List Ev × List Ev × List Bm × Unit) : Option
  (List Ev × Int × Int × Nat × Nat × Nat × Int × Int × Int × Bool × Nat × List Int × List Ev × List Ev × List Bm × Unit ⊕
    List Ev × Int × Nat × Nat × Nat × List Int × List Ev × List Ev × Unit) :=
  bif decide (x.snd.snd.fst < (↑x.snd.snd.snd.snd.snd.snd.snd.snd.snd.snd.fst : Int)) then
  bif decide ((0 : Int) ≤ x.snd.snd.fst) && decide (x.snd.snd.fst < (↑x.snd.snd.snd.snd.snd.snd.snd.snd.snd.snd.fst : Int)) then
    x.snd.snd.snd.snd.snd.snd.snd.snd.snd.snd.snd.snd.snd.snd.fst[(0 : Nat) + x.snd.snd.fst.toNat]?.bind fun y71 =>
      some
        (Sum.inl
          (x.fst, x.snd.fst, IntKind.i64.wrap (x.snd.snd.fst + (1 : Int)), x.snd.snd.snd.fst, x.snd.snd.snd.snd.fst,
            x.snd.snd.snd.snd.snd.fst, x.snd.snd.snd.snd.snd.snd.fst, x.snd.snd.snd.snd.snd.snd.snd.fst,
            x.snd.snd.snd.snd.snd.snd.snd.snd.fst, x.snd.snd.snd.snd.snd.snd.snd.snd.snd.fst, x.snd.snd.snd.snd.snd.snd.snd.snd.snd.snd.fst,
            x.snd.snd.snd.snd.snd.snd.snd.snd.snd.snd.snd.fst, x.snd.snd.snd.snd.snd.snd.snd.snd.snd.snd.snd.snd.fst,
            x.snd.snd.snd.snd.snd.snd.snd.snd.snd.snd.snd.snd.snd.fst,
            x.snd.snd.snd.snd.snd.snd.snd.snd.snd.snd.snd.snd.snd.snd.fst.set ((0 : Nat) + x.snd.snd.fst.toNat) (Bm.mk (7 : Int) y71.R),
            ()))
  else none
else
  some
    (Sum.inr
      (x.fst, x.snd.fst, x.snd.snd.snd.fst, x.snd.snd.snd.snd.fst, x.snd.snd.snd.snd.snd.fst,
        x.snd.snd.snd.snd.snd.snd.snd.snd.snd.snd.snd.fst, x.snd.snd.snd.snd.snd.snd.snd.snd.snd.snd.snd.snd.fst,
        x.snd.snd.snd.snd.snd.snd.snd.snd.snd.snd.snd.snd.snd.fst, ()))
theorem r5_6_run0 (v0 : List Ev) (v1 : Int) (v2 : Int) (v3 : Nat) (v4 : Nat) (v5 : Nat) (v6 : Int) (v7 : Int) (v8 : Int) (v9 : Bool) (v10 : Nat) (v11 : List Int) (v12 : List Ev) (v13 : List Ev) (v14 : List Bm) : roundK tC H5 (look []) c5_6 p5_6 (v0, v1, v2, v3, v4, v5, v6, v7, v8, v9, v10, v11, v12, v13, v14, ()) = r5_6 (v0, v1, v2, v3, v4, v5, v6, v7, v8, v9, v10, v11, v12, v13, v14, ()) := by kernel_rfl
theorem r5_6_run (x : List Ev × Int × Int × Nat × Nat × Nat × Int × Int × Int × Bool × Nat × List Int × List Ev × List Ev × List Bm × Unit) : roundK tC H5 (look []) c5_6 p5_6 x = r5_6 x := r5_6_run0 x.1 x.2.1 x.2.2.1 x.2.2.2.1 x.2.2.2.2.1 x.2.2.2.2.2.1 x.2.2.2.2.2.2.1 x.2.2.2.2.2.2.2.1 x.2.2.2.2.2.2.2.2.1 x.2.2.2.2.2.2.2.2.2.1 x.2.2.2.2.2.2.2.2.2.2.1 x.2.2.2.2.2.2.2.2.2.2.2.1 x.2.2.2.2.2.2.2.2.2.2.2.2.1 x.2.2.2.2.2.2.2.2.2.2.2.2.2.1 x.2.2.2.2.2.2.2.2.2.2.2.2.2.2.1
noncomputable def l5_6 (x : List Ev × Int × Int × Nat × Nat × Nat × Int × Int × Int × Bool × Nat × List Int × List Ev × List Ev × List Bm × Unit) : Option (List Ev × Int × Nat × Nat × Nat × List Int × List Ev × List Ev × Unit) := iterO r5_6 x
noncomputable def W5_6 : LF tC := loopW tC p5_6 2 l5_6
theorem W5_6_ok : keyed 6 (loopOf (bodyOf Try.f5) 0) = [.block 2 (.loop c5_6)] ∧ ∀ n, n ≤ 0 → Snd tC n (.block 2 (.loop c5_6)) W5_6.k := ⟨by kernel_rfl, fun n hn => loopW_ok (p := p5_6) (id := 2) Z5 (lam_le lam_nil n hn) hn r5_6_run⟩
noncomputable def c5_0 : Code := loopOf (bodyOf Try.f5) 0
def p5_0 : LS := ⟨0, [0, 3, 4, 5], ⟨[.one (.one (.imm 26)), vB, vB, .one (.one (.ptr 0 0 0)), .one (.one (.ptr 1 0 0)), vI] ++ vBs 77, [.box [.sl 2, .sl 3], .box [.sl 4], .arr 5, .arr 26, .arr 26]⟩, [⟨.ret, [2], ⟨[vB, vB, vO] ++ vBs 80, []⟩, []⟩, ⟨.exit 0, [3, 4], ⟨[vB, vB, vB, .one (.one (.ptr 0 0 0)), .one (.one (.ptr 1 0 0))] ++ vBs 78, [.box [.sl 2, .sl 3], .box [.sl 4], .arr 5, .arr 26, .arr 26]⟩, []⟩], []⟩
noncomputable def r5_0 (x : List Ev × Int × Nat × Nat × Nat × List Int × List Ev × List Ev × Unit) : Option
  (List Ev × Int × Nat × Nat × Nat × List Int × List Ev × List Ev × Unit ⊕
    Bool × Unit ⊕ Nat × Nat × Nat × List Int × List Ev × List Ev × Unit) :=
  bif decide (x.snd.fst < (↑x.fst.length : Int)) then
  (idxO x.fst x.snd.fst).bind fun y127 =>
    (f21 (y127.T, y127.U, y127.F, y127.B, y127.S, ())).bind fun y126 =>
      bif decide ((0 : Nat) + x.snd.snd.fst ≤ x.snd.snd.snd.snd.snd.fst.length) then
        bif decide ((0 : Nat) + x.snd.snd.snd.fst ≤ x.snd.snd.snd.snd.snd.snd.fst.length) then
          bif decide ((0 : Nat) + y126.snd.snd.snd.snd.fst ≤ y126.snd.snd.snd.snd.snd.fst.length) then
            (f22
                  (y126.fst, y126.snd.fst, y126.snd.snd.fst, y126.snd.snd.snd.fst,
                    List.take y126.snd.snd.snd.snd.fst (List.drop (0 : Nat) y126.snd.snd.snd.snd.snd.fst),
                    List.take x.snd.snd.fst (List.drop (0 : Nat) x.snd.snd.snd.snd.snd.fst),
                    List.take x.snd.snd.snd.fst (List.drop (0 : Nat) x.snd.snd.snd.snd.snd.snd.fst), x.snd.snd.fst, x.snd.snd.snd.fst,
                    ())).bind
              fun y125 =>
              Sum.elim
                (fun y117 =>
                  (idxO x.fst x.snd.fst).bind fun y116 =>
                    bif decide ((0 : Nat) + x.snd.snd.snd.snd.fst ≤ x.snd.snd.snd.snd.snd.snd.snd.fst.length) then
                      (f23
                            (y116.T, y116.U, y116.F, y116.B, y116.S,
                              List.take x.snd.snd.snd.snd.fst (List.drop (0 : Nat) x.snd.snd.snd.snd.snd.snd.snd.fst),
                              x.snd.snd.snd.snd.fst, ())).bind
                        fun y115 =>
                        Sum.elim
                          (fun y112 =>
                            bif y117.fst != y112.fst then some (Sum.inr (Sum.inl (false, ())))
                            else
                              (l5_6
                                    (x.fst, x.snd.fst, (0 : Int), y117.snd.snd.snd.fst, y117.snd.snd.snd.snd.fst, y112.snd.snd.fst,
                                      y126.fst, y126.snd.fst, y126.snd.snd.fst, y126.snd.snd.snd.fst, y126.snd.snd.snd.snd.fst,
                                      y117.snd.fst, y117.snd.snd.fst, y112.snd.fst, y126.snd.snd.snd.snd.snd.fst, ())).bind
                                fun y111 =>
                                some
                                  (Sum.inl
                                    (y111.fst, IntKind.i64.wrap (y111.snd.fst + (1 : Int)), y111.snd.snd.fst, y111.snd.snd.snd.fst,
                                      y111.snd.snd.snd.snd.fst, y111.snd.snd.snd.snd.snd.fst, y111.snd.snd.snd.snd.snd.snd.fst,
                                      y111.snd.snd.snd.snd.snd.snd.snd.fst, ())))
                          (fun y114 =>
                            bif y117.fst != y114.fst then some (Sum.inr (Sum.inl (false, ())))
                            else
                              (l5_6
                                    (x.fst, x.snd.fst, (0 : Int), y117.snd.snd.snd.fst, y117.snd.snd.snd.snd.fst, y114.snd.snd.fst,
                                      y126.fst, y126.snd.fst, y126.snd.snd.fst, y126.snd.snd.snd.fst, y126.snd.snd.snd.snd.fst,
                                      y117.snd.fst, y117.snd.snd.fst, y114.snd.snd.snd.fst, y126.snd.snd.snd.snd.snd.fst, ())).bind
                                fun y113 =>
                                some
                                  (Sum.inl
                                    (y113.fst, IntKind.i64.wrap (y113.snd.fst + (1 : Int)), y113.snd.snd.fst, y113.snd.snd.snd.fst,
                                      y113.snd.snd.snd.snd.fst, y113.snd.snd.snd.snd.snd.fst, y113.snd.snd.snd.snd.snd.snd.fst,
                                      y113.snd.snd.snd.snd.snd.snd.snd.fst, ())))
                          y115
                    else none)
                (fun y124 =>
                  (idxO x.fst x.snd.fst).bind fun y123 =>
                    bif decide ((0 : Nat) + x.snd.snd.snd.snd.fst ≤ x.snd.snd.snd.snd.snd.snd.snd.fst.length) then
                      (f23
                            (y123.T, y123.U, y123.F, y123.B, y123.S,
                              List.take x.snd.snd.snd.snd.fst (List.drop (0 : Nat) x.snd.snd.snd.snd.snd.snd.snd.fst),
                              x.snd.snd.snd.snd.fst, ())).bind
                        fun y122 =>
                        Sum.elim
                          (fun y119 =>
                            bif y124.fst != y119.fst then some (Sum.inr (Sum.inl (false, ())))
                            else
                              (l5_6
                                    (x.fst, x.snd.fst, (0 : Int), y124.snd.fst, y124.snd.snd.fst, y119.snd.snd.fst, y126.fst, y126.snd.fst,
                                      y126.snd.snd.fst, y126.snd.snd.snd.fst, y126.snd.snd.snd.snd.fst, y124.snd.snd.snd.fst,
                                      y124.snd.snd.snd.snd.fst, y119.snd.fst, y126.snd.snd.snd.snd.snd.fst, ())).bind
                                fun y118 =>
                                some
                                  (Sum.inl
                                    (y118.fst, IntKind.i64.wrap (y118.snd.fst + (1 : Int)), y118.snd.snd.fst, y118.snd.snd.snd.fst,
                                      y118.snd.snd.snd.snd.fst, y118.snd.snd.snd.snd.snd.fst, y118.snd.snd.snd.snd.snd.snd.fst,
                                      y118.snd.snd.snd.snd.snd.snd.snd.fst, ())))
                          (fun y121 =>
                            bif y124.fst != y121.fst then some (Sum.inr (Sum.inl (false, ())))
                            else
                              (l5_6
                                    (x.fst, x.snd.fst, (0 : Int), y124.snd.fst, y124.snd.snd.fst, y121.snd.snd.fst, y126.fst, y126.snd.fst,
                                      y126.snd.snd.fst, y126.snd.snd.snd.fst, y126.snd.snd.snd.snd.fst, y124.snd.snd.snd.fst,
                                      y124.snd.snd.snd.snd.fst, y121.snd.snd.snd.fst, y126.snd.snd.snd.snd.snd.fst, ())).bind
                                fun y120 =>
                                some
                                  (Sum.inl
                                    (y120.fst, IntKind.i64.wrap (y120.snd.fst + (1 : Int)), y120.snd.snd.fst, y120.snd.snd.snd.fst,
                                      y120.snd.snd.snd.snd.fst, y120.snd.snd.snd.snd.snd.fst, y120.snd.snd.snd.snd.snd.snd.fst,
                                      y120.snd.snd.snd.snd.snd.snd.snd.fst, ())))
                          y122
                    else none)
                y125
          else none
        else none
      else none
else
  some
    (Sum.inr
      (Sum.inr
        (x.snd.snd.fst, x.snd.snd.snd.fst, x.snd.snd.snd.snd.fst, x.snd.snd.snd.snd.snd.fst, x.snd.snd.snd.snd.snd.snd.fst,
          x.snd.snd.snd.snd.snd.snd.snd.fst, ())))
theorem r5_0_run0 (v0 : List Ev) (v1 : Int) (v2 : Nat) (v3 : Nat) (v4 : Nat) (v5 : List Int) (v6 : List Ev) (v7 : List Ev) : roundK tC H5 (look [(6, W5_6)]) c5_0 p5_0 (v0, v1, v2, v3, v4, v5, v6, v7, ()) = r5_0 (v0, v1, v2, v3, v4, v5, v6, v7, ()) := by kernel_rfl
theorem r5_0_run (x : List Ev × Int × Nat × Nat × Nat × List Int × List Ev × List Ev × Unit) : roundK tC H5 (look [(6, W5_6)]) c5_0 p5_0 x = r5_0 x := r5_0_run0 x.1 x.2.1 x.2.2.1 x.2.2.2.1 x.2.2.2.2.1 x.2.2.2.2.2.1 x.2.2.2.2.2.2.1 x.2.2.2.2.2.2.2.1
noncomputable def l5_0 (x : List Ev × Int × Nat × Nat × Nat × List Int × List Ev × List Ev × Unit) : Option (Bool × Unit ⊕ Nat × Nat × Nat × List Int × List Ev × List Ev × Unit) := iterO r5_0 x
noncomputable def W5_0 : LF tC := loopW tC p5_0 0 l5_0
theorem W5_0_ok : keyed 0 (bodyOf Try.f5) = [.block 0 (.loop c5_0)] ∧ ∀ n, n ≤ 0 → Snd tC n (.block 0 (.loop c5_0)) W5_0.k := ⟨by kernel_rfl, fun n hn => loopW_ok (p := p5_0) (id := 0) Z5 (lam_le (lam_cons W5_6_ok lam_nil) n hn) hn r5_0_run⟩
def S5 : FS := ⟨[[.s 26]], [⟨[.one (.one (.imm 26))], []⟩], [⟨[vO], []⟩], [[.v]], []⟩
noncomputable def f5 (x : List Ev × Unit) : Option (Bool × Unit) :=
  (f11 ()).bind fun y151 =>
  bif !y151.fst then (f11 ()).bind fun y142 => some (y142.fst, ())
  else
    (f18 (x.fst, ())).bind fun y150 =>
      bif !y150.fst then (f11 ()).bind fun y143 => some (y143.fst, ())
      else
        (l5_0 (x.fst, (0 : Int), f19.fst, f19.snd.fst, f20.fst, f19.snd.snd.fst, f19.snd.snd.snd, f20.snd, ())).bind fun y149 =>
          Sum.elim (fun y144 => some (y144.fst, ()))
            (fun y148 =>
              bif decide ((0 : Nat) + y148.fst ≤ y148.snd.snd.snd.fst.length) then
                bif decide ((0 : Nat) + y148.snd.fst ≤ y148.snd.snd.snd.snd.fst.length) then
                  bif decide ((0 : Nat) + y148.snd.snd.fst ≤ y148.snd.snd.snd.snd.snd.fst.length) then
                    (f24
                          (List.take y148.fst (List.drop (0 : Nat) y148.snd.snd.snd.fst),
                            List.take y148.snd.fst (List.drop (0 : Nat) y148.snd.snd.snd.snd.fst),
                            List.take y148.snd.snd.fst (List.drop (0 : Nat) y148.snd.snd.snd.snd.snd.fst), y148.snd.snd.fst, ())).bind
                      fun y147 =>
                      Sum.elim
                        (fun y145 =>
                          bif y145.fst then
                            bif f922 (1 : Int) (0 : Int) (0 : Int) false [] == (1 : Int) then
                              bif (↑f925.length : Int) == (0 : Int) then
                                bif f926 == (0 : Int) then
                                  bif f927 == (0 : Int) then some ((↑f928.length : Int) == (0 : Int), ()) else some (false, ())
                                else some (false, ())
                              else some (false, ())
                            else some (false, ())
                          else some (false, ()))
                        (fun y146 =>
                          bif y146.fst then
                            bif f922 (1 : Int) (0 : Int) (0 : Int) false [] == (1 : Int) then
                              bif (↑f925.length : Int) == (0 : Int) then
                                bif f926 == (0 : Int) then
                                  bif f927 == (0 : Int) then some ((↑f928.length : Int) == (0 : Int), ()) else some (false, ())
                                else some (false, ())
                              else some (false, ())
                            else some (false, ())
                          else some (false, ()))
                        y147
                  else none
                else none
              else none)
            y149
noncomputable def F5 : CF tC := mkF tC S5 f5
theorem f5_run : ∀ a, fnS tC G5 (look [(0, W5_0)]) Try.f5 S5 a = f5 a := fun a => by kernel_rfl
theorem F5_ok : CFOK tC 5 F5 := mkF_ok Y5 (fn := Try.f5) (body := bodyOf Try.f5) (by kernel_rfl) (by kernel_rfl) (by kernel_rfl) (m := 0) rfl (lam_le (lam_cons W5_0_ok lam_nil)) f5_run
end Go.AE
