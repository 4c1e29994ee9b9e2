/-
  The plain functions that the seat's Go functions compute, each with the proof that the function keeps it. Printed by the generator (Gen2) and checked by the kernel.
-/
import Derived.Test.YtilmnpkjlaamlaaFb
namespace Go.AE
open Go.Proofs Go.RowKit
set_option maxRecDepth 100000

/-! ref.New -/
noncomputable def G26 : FuncId → Option (CF tC) := look [(11, F11), (12, F12)]
theorem Y26 : SysN tC G26 := (sys_cons F11_ok (mkF_nat _ _) (sys_cons F12_ok (mkF_nat _ _) (sys_nil tC_ok tC_eq)))
def S26 : FS := ⟨[[.v, .v, .s 5], [.v, .v]], [⟨[.one (.agg [.int .i64, .int .i64, .imm 5]), .one (.agg [.int .i64, .int .i64])], []⟩], [⟨[.tup [.agg [.int .i64, .int .i64, .imm 5, .int .i64, .int .i64], .one (.lit .i64 1)]], []⟩, ⟨[.tup [.agg [.int .i64, .int .i64, .imm 5, .int .i64, .int .i64], .one (.lit .i64 7)]], []⟩, ⟨[.tup [.agg [.int .i64, .int .i64, .imm 5, .int .i64, .int .i64], .one (.lit .i64 0)]], []⟩], [[.v, .v, .s 5, .v, .v], [.v]], []⟩
noncomputable def f26 (x : Int × Int × List Int × Int × Int × Unit) : Option (Int × Int × List Int × Int × Int × Unit ⊕ Int × Int × List Int × Int × Int × Unit ⊕ Int × Int × List Int × Int × Int × Unit) :=
  (f11 (x.fst, x.snd.fst, x.snd.snd.fst, ())).bind fun y22 =>
  bif !y22.fst then some (Sum.inl ((0 : Int), (0 : Int), [], (0 : Int), (0 : Int), ()))
  else
    bif !f12 x.fst x.snd.fst x.snd.snd.fst x.snd.snd.snd.fst x.snd.snd.snd.snd.fst then
      some (Sum.inr (Sum.inl ((0 : Int), (0 : Int), [], (0 : Int), (0 : Int), ())))
    else
      bif roomy ((0 : Nat) + x.snd.snd.fst.length) (1 : Nat) then
        bif decide ((0 : Nat) + ((0 : Nat) + x.snd.snd.fst.length) ≤ ([] ++ x.snd.snd.fst).length) then
          some
            (Sum.inr
              (Sum.inr
                (x.fst, x.snd.fst, List.take ((0 : Nat) + x.snd.snd.fst.length) (List.drop (0 : Nat) ([] ++ x.snd.snd.fst)),
                  x.snd.snd.snd.fst, x.snd.snd.snd.snd.fst, ())))
        else none
      else none
noncomputable def F26 : CF tC := mkF tC S26 f26
theorem f26_run : ∀ a, fnS tC G26 (look []) Try.f26 S26 a = f26 a := fun a => by kernel_rfl
theorem F26_ok : CFOK tC 26 F26 := mkF_ok Y26 (fn := Try.f26) (body := bodyOf Try.f26) (by kernel_rfl) (by kernel_rfl) (by kernel_rfl) (m := 0) rfl (lam_le lam_nil) f26_run

/-! ref.Set -/
noncomputable def G28 : FuncId → Option (CF tC) := look [(12, F12)]
theorem Y28 : SysN tC G28 := (sys_cons F12_ok (mkF_nat _ _) (sys_nil tC_ok tC_eq))
noncomputable def c28_22 : Code := subCode (bodyOf Try.f28) 22
def p28_22 : PS := ⟨0, [3, 6, 8], ⟨[vB, vB, vB, .one (.one (.ptr 0 0 0)), vB, vB, .one (.one (.ptr 1 0 0)), vB, .one (.one (.sl 2))] ++ vBs 38, [.box [.int .i64, .int .i64, .imm 5, .int .i64, .int .i64], .box [.int .i64, .int .i64, .nils, .int .i64, .int .i64], .arr 5]⟩, [⟨.ret, [6, 7], ⟨vBs 6 ++ [.one (.one (.ptr 0 0 0)), vI] ++ vBs 39, [.box [.int .i64, .int .i64, .sl 1, .int .i64, .int .i64], .arr 5]⟩, []⟩], []⟩
noncomputable def j28_22 (x : Nat × Int × Int × List Int × Int × Int × Int × Int × Int × Int × List Int × Unit) : Option (Int × Int × Int × Nat × Int × Int × List Int × Unit) :=
  some
  ((0 : Int), x.snd.fst, x.snd.snd.fst, x.fst, x.snd.snd.snd.snd.fst, x.snd.snd.snd.snd.snd.fst,
    x.snd.snd.snd.snd.snd.snd.snd.snd.snd.snd.fst, ())
theorem j28_22_run0 (v0 : Nat) (v1 : Int) (v2 : Int) (v3 : List Int) (v4 : Int) (v5 : Int) (v6 : Int) (v7 : Int) (v8 : Int) (v9 : Int) (v10 : List Int) : pieceK tC G28 (look []) c28_22 p28_22 (v0, v1, v2, v3, v4, v5, v6, v7, v8, v9, v10, ()) = j28_22 (v0, v1, v2, v3, v4, v5, v6, v7, v8, v9, v10, ()) := by kernel_rfl
theorem j28_22_run (x : Nat × Int × Int × List Int × Int × Int × Int × Int × Int × Int × List Int × Unit) : pieceK tC G28 (look []) c28_22 p28_22 x = j28_22 x := j28_22_run0 x.1 x.2.1 x.2.2.1 x.2.2.2.1 x.2.2.2.2.1 x.2.2.2.2.2.1 x.2.2.2.2.2.2.1 x.2.2.2.2.2.2.2.1 x.2.2.2.2.2.2.2.2.1 x.2.2.2.2.2.2.2.2.2.1 x.2.2.2.2.2.2.2.2.2.2.1
noncomputable def W28_22 : LF tC := cutLF tC p28_22 j28_22
theorem W28_22_ok : keyed 22 (bodyOf Try.f28) = [c28_22] ∧ ∀ n, n ≤ 0 → Snd tC n c28_22 W28_22.k := ⟨by kernel_rfl, fun n hn => cut_ok (p := p28_22) Y28 (lam_le lam_nil n hn) hn j28_22_run⟩
def S28 : FS := ⟨[[.v, .v, .s 5, .v, .v], [.v, .v], [.v]], [⟨[.one (.agg [.int .i64, .int .i64, .imm 5, .int .i64, .int .i64]), .one (.agg [.int .i64, .int .i64]), vO], []⟩], [⟨[.tup [.agg [.int .i64, .int .i64, .imm 5, .int .i64, .int .i64], .one (.int .i64)]], []⟩], [[.v, .v, .s 5, .v, .v], [.v]], []⟩
noncomputable def f28 (x : Int × Int × List Int × Int × Int × Int × Int × Bool × Unit) : Option (Int × Int × List Int × Int × Int × Int × Unit) :=
  bif !f12 x.fst x.snd.fst x.snd.snd.fst x.snd.snd.snd.snd.snd.fst x.snd.snd.snd.snd.snd.snd.fst then
  some (x.fst, x.snd.fst, x.snd.snd.fst, x.snd.snd.snd.fst, x.snd.snd.snd.snd.fst, (7 : Int), ())
else
  bif roomy ((0 : Nat) + x.snd.snd.fst.length) (1 : Nat) then
    bif
        decide ((0 : Int) ≤ IntKind.i64.wrap (IntKind.i64.wrap (x.snd.snd.snd.snd.snd.snd.fst * x.fst) + x.snd.snd.snd.snd.snd.fst)) &&
          decide
            (IntKind.i64.wrap (IntKind.i64.wrap (x.snd.snd.snd.snd.snd.snd.fst * x.fst) + x.snd.snd.snd.snd.snd.fst) <
              (↑((0 : Nat) + x.snd.snd.fst.length) : Int)) then
      ([] ++
              x.snd.snd.fst)[(0 : Nat) +
              (IntKind.i64.wrap (IntKind.i64.wrap (x.snd.snd.snd.snd.snd.snd.fst * x.fst) + x.snd.snd.snd.snd.snd.fst)).toNat]?.bind
        fun _x =>
        bif x.snd.snd.snd.snd.snd.snd.snd.fst then
          bif
              decide
                  ((0 : Int) ≤ IntKind.i64.wrap (IntKind.i64.wrap (x.snd.snd.snd.snd.snd.snd.fst * x.fst) + x.snd.snd.snd.snd.snd.fst)) &&
                decide
                  (IntKind.i64.wrap (IntKind.i64.wrap (x.snd.snd.snd.snd.snd.snd.fst * x.fst) + x.snd.snd.snd.snd.snd.fst) <
                    (↑((0 : Nat) + x.snd.snd.fst.length) : Int)) then
            (([] ++ x.snd.snd.fst).set
                    ((0 : Nat) +
                      (IntKind.i64.wrap (IntKind.i64.wrap (x.snd.snd.snd.snd.snd.snd.fst * x.fst) + x.snd.snd.snd.snd.snd.fst)).toNat)
                    (2 :
                      Int))[(0 : Nat) +
                    (IntKind.i64.wrap (IntKind.i64.wrap (x.snd.snd.snd.snd.snd.snd.fst * x.fst) + x.snd.snd.snd.snd.snd.fst)).toNat]?.bind
              fun _x =>
              (j28_22
                    ((0 : Nat) + x.snd.snd.fst.length, x.fst, x.snd.fst, x.snd.snd.fst, x.snd.snd.snd.fst, x.snd.snd.snd.snd.fst, (0 : Int),
                      (0 : Int), (0 : Int), (0 : Int),
                      (([] ++ x.snd.snd.fst).set
                            ((0 : Nat) +
                              (IntKind.i64.wrap
                                  (IntKind.i64.wrap (x.snd.snd.snd.snd.snd.snd.fst * x.fst) + x.snd.snd.snd.snd.snd.fst)).toNat)
                            (2 : Int)).set
                        ((0 : Nat) +
                          (IntKind.i64.wrap (IntKind.i64.wrap (x.snd.snd.snd.snd.snd.snd.fst * x.fst) + x.snd.snd.snd.snd.snd.fst)).toNat)
                        (1 : Int),
                      ())).bind
                fun y49 =>
                bif decide ((0 : Nat) + y49.snd.snd.snd.fst ≤ y49.snd.snd.snd.snd.snd.snd.fst.length) then
                  some
                    (y49.snd.fst, y49.snd.snd.fst, List.take y49.snd.snd.snd.fst (List.drop (0 : Nat) y49.snd.snd.snd.snd.snd.snd.fst),
                      y49.snd.snd.snd.snd.fst, y49.snd.snd.snd.snd.snd.fst, y49.fst, ())
                else none
          else none
        else
          (j28_22
                ((0 : Nat) + x.snd.snd.fst.length, x.fst, x.snd.fst, x.snd.snd.fst, x.snd.snd.snd.fst, x.snd.snd.snd.snd.fst, (0 : Int),
                  (0 : Int), (0 : Int), (0 : Int),
                  ([] ++ x.snd.snd.fst).set
                    ((0 : Nat) +
                      (IntKind.i64.wrap (IntKind.i64.wrap (x.snd.snd.snd.snd.snd.snd.fst * x.fst) + x.snd.snd.snd.snd.snd.fst)).toNat)
                    (2 : Int),
                  ())).bind
            fun y51 =>
            bif decide ((0 : Nat) + y51.snd.snd.snd.fst ≤ y51.snd.snd.snd.snd.snd.snd.fst.length) then
              some
                (y51.snd.fst, y51.snd.snd.fst, List.take y51.snd.snd.snd.fst (List.drop (0 : Nat) y51.snd.snd.snd.snd.snd.snd.fst),
                  y51.snd.snd.snd.snd.fst, y51.snd.snd.snd.snd.snd.fst, y51.fst, ())
            else none
    else none
  else none
noncomputable def F28 : CF tC := mkF tC S28 f28
theorem f28_run : ∀ a, fnS tC G28 (look [(22, W28_22)]) Try.f28 S28 a = f28 a := fun a => by kernel_rfl
theorem F28_ok : CFOK tC 28 F28 := mkF_ok Y28 (fn := Try.f28) (body := bodyOf Try.f28) (by kernel_rfl) (by kernel_rfl) (by kernel_rfl) (m := 0) rfl (lam_le (lam_cons W28_22_ok lam_nil)) f28_run

/-! ref.Move -/
noncomputable def G29 : FuncId → Option (CF tC) := look [(12, F12)]
theorem Y29 : SysN tC G29 := (sys_cons F12_ok (mkF_nat _ _) (sys_nil tC_ok tC_eq))
def S29 : FS := ⟨[[.v, .v, .s 5, .v, .v], [.v, .v]], [⟨[.one (.agg [.int .i64, .int .i64, .imm 5, .int .i64, .int .i64]), .one (.agg [.int .i64, .int .i64])], []⟩], [⟨[.tup [.agg [.int .i64, .int .i64, .imm 5, .int .i64, .int .i64], .one (.int .i64)]], []⟩], [[.v, .v, .s 5, .v, .v], [.v]], []⟩
def f29 (n1 : Int) (n2 : Int) (l3 : List Int) (n4 : Int) (n5 : Int) (n6 : Int) (n7 : Int) : Int × Int × List Int × Int × Int × Int :=
  bif !f12 n1 n2 l3 n6 n7 then (n1, n2, l3, n4, n5, (7 : Int)) else (n1, n2, l3, n6, n7, (0 : Int))
noncomputable def F29 : CF tC := mkF tC S29 (fun a => some ((f29 a.1 a.2.1 a.2.2.1 a.2.2.2.1 a.2.2.2.2.1 a.2.2.2.2.2.1 a.2.2.2.2.2.2.1).1, (f29 a.1 a.2.1 a.2.2.1 a.2.2.2.1 a.2.2.2.2.1 a.2.2.2.2.2.1 a.2.2.2.2.2.2.1).2.1, (f29 a.1 a.2.1 a.2.2.1 a.2.2.2.1 a.2.2.2.2.1 a.2.2.2.2.2.1 a.2.2.2.2.2.2.1).2.2.1, (f29 a.1 a.2.1 a.2.2.1 a.2.2.2.1 a.2.2.2.2.1 a.2.2.2.2.2.1 a.2.2.2.2.2.2.1).2.2.2.1, (f29 a.1 a.2.1 a.2.2.1 a.2.2.2.1 a.2.2.2.2.1 a.2.2.2.2.2.1 a.2.2.2.2.2.2.1).2.2.2.2.1, (f29 a.1 a.2.1 a.2.2.1 a.2.2.2.1 a.2.2.2.2.1 a.2.2.2.2.2.1 a.2.2.2.2.2.2.1).2.2.2.2.2, ()))
def h29 (r : Int × Int × List Int × Int × Int × Int) : Option (altTy tE S29.outs) := some (r.1, r.2.1, r.2.2.1, r.2.2.2.1, r.2.2.2.2.1, r.2.2.2.2.2, ())
theorem f29_run : ∀ a, fnS tC G29 (look []) Try.f29 S29 a = (fun a => some ((f29 a.1 a.2.1 a.2.2.1 a.2.2.2.1 a.2.2.2.2.1 a.2.2.2.2.2.1 a.2.2.2.2.2.2.1).1, (f29 a.1 a.2.1 a.2.2.1 a.2.2.2.1 a.2.2.2.2.1 a.2.2.2.2.2.1 a.2.2.2.2.2.2.1).2.1, (f29 a.1 a.2.1 a.2.2.1 a.2.2.2.1 a.2.2.2.2.1 a.2.2.2.2.2.1 a.2.2.2.2.2.2.1).2.2.1, (f29 a.1 a.2.1 a.2.2.1 a.2.2.2.1 a.2.2.2.2.1 a.2.2.2.2.2.1 a.2.2.2.2.2.2.1).2.2.2.1, (f29 a.1 a.2.1 a.2.2.1 a.2.2.2.1 a.2.2.2.2.1 a.2.2.2.2.2.1 a.2.2.2.2.2.2.1).2.2.2.2.1, (f29 a.1 a.2.1 a.2.2.1 a.2.2.2.1 a.2.2.2.2.1 a.2.2.2.2.2.1 a.2.2.2.2.2.2.1).2.2.2.2.2, ())) a := fun a => by
  have key : ∀ (n1 : Int) (n2 : Int) (l3 : List Int) (n4 : Int) (n5 : Int) (n6 : Int) (n7 : Int), (bif !f12 n1 n2 l3 n6 n7 then h29 (n1, n2, l3, n4, n5, (7 : Int)) else h29 (n1, n2, l3, n6, n7, (0 : Int))) = h29 (f29 n1 n2 l3 n4 n5 n6 n7) := by
    intros
    unfold f29
    repeat' first | rfl | refine cond_h (g := h29) ?_ ?_
  exact Eq.trans (by kernel_rfl) (key a.1 a.2.1 a.2.2.1 a.2.2.2.1 a.2.2.2.2.1 a.2.2.2.2.2.1 a.2.2.2.2.2.2.1)
theorem F29_ok : CFOK tC 29 F29 := mkF_ok Y29 (fn := Try.f29) (body := bodyOf Try.f29) (by kernel_rfl) (by kernel_rfl) (by kernel_rfl) (m := 0) rfl (lam_le lam_nil) f29_run

/-! ref.Cost -/
noncomputable def G30 : FuncId → Option (CF tC) := look [(45, F45), (12, F12)]
theorem Y30 : SysN tC G30 := (sys_cons F45_ok (mkF_nat _ _) (sys_cons F12_ok (mkF_nat _ _) (sys_nil tC_ok tC_eq)))
def S30 : FS := ⟨[[.v, .v, .s 5, .v, .v], [.v, .v]], [⟨[.one (.agg [.int .i64, .int .i64, .imm 5, .int .i64, .int .i64]), .one (.agg [.int .i64, .int .i64])], []⟩], [⟨[vI], []⟩], [[.v]], []⟩
noncomputable def f30 (x : Int × Int × List Int × Int × Int × Int × Int × Unit) : Option (Int × Unit) :=
  (f45 (x.fst, x.snd.fst, x.snd.snd.fst, x.snd.snd.snd.fst, x.snd.snd.snd.snd.fst, ())).bind fun y14 =>
  bif y14.snd.fst != (0 : Int) then some ((-1 : Int), ())
  else
    bif !f12 x.fst x.snd.fst x.snd.snd.fst x.snd.snd.snd.snd.snd.fst x.snd.snd.snd.snd.snd.snd.fst then some ((-1 : Int), ())
    else
      bif
          decide ((0 : Int) ≤ IntKind.i64.wrap (IntKind.i64.wrap (x.snd.snd.snd.snd.snd.snd.fst * x.fst) + x.snd.snd.snd.snd.snd.fst)) &&
            decide
              (IntKind.i64.wrap (IntKind.i64.wrap (x.snd.snd.snd.snd.snd.snd.fst * x.fst) + x.snd.snd.snd.snd.snd.fst) <
                (↑y14.fst : Int)) then
        y14.snd.snd.fst[(0 : Nat) +
                (IntKind.i64.wrap (IntKind.i64.wrap (x.snd.snd.snd.snd.snd.snd.fst * x.fst) + x.snd.snd.snd.snd.snd.fst)).toNat]?.bind
          fun y13 => some (y13, ())
      else none
noncomputable def F30 : CF tC := mkF tC S30 f30
theorem f30_run : ∀ a, fnS tC G30 (look []) Try.f30 S30 a = f30 a := fun a => by kernel_rfl
theorem F30_ok : CFOK tC 30 F30 := mkF_ok Y30 (fn := Try.f30) (body := bodyOf Try.f30) (by kernel_rfl) (by kernel_rfl) (by kernel_rfl) (m := 0) rfl (lam_le lam_nil) f30_run

/-! ref.Path -/
noncomputable def G31 : FuncId → Option (CF tC) := look [(46, F46)]
theorem Y31 : SysN tC G31 := (sys_cons F46_ok (mkF_nat _ _) (sys_nil tC_ok tC_eq))
def S31 : FS := ⟨[[.v, .v, .s 5, .v, .v], [.v, .v]], [⟨[.one (.agg [.int .i64, .int .i64, .imm 5, .int .i64, .int .i64]), .one (.agg [.int .i64, .int .i64])], []⟩], [⟨[.tup [.one (.sl 0), .one (.int .i64), .one (.int .i64)]], [.arr 26]⟩], [[.v], [.v], [.v]], [(4, 26)]⟩
noncomputable def f31 (x : Int × Int × List Int × Int × Int × Int × Int × Unit) : Option (Nat × Int × Int × List Pt × Unit) :=
  (f46
      (x.fst, x.snd.fst, x.snd.snd.fst, x.snd.snd.snd.snd.snd.fst, x.snd.snd.snd.snd.snd.snd.fst, x.snd.snd.snd.fst, x.snd.snd.snd.snd.fst,
        ())).bind
  fun y16 => some (y16.fst, y16.snd.fst, y16.snd.snd.fst, y16.snd.snd.snd.fst, ())
noncomputable def F31 : CF tC := mkF tC S31 f31
theorem f31_run : ∀ a, fnS tC G31 (look []) Try.f31 S31 a = f31 a := fun a => by kernel_rfl
theorem F31_ok : CFOK tC 31 F31 := mkF_ok Y31 (fn := Try.f31) (body := bodyOf Try.f31) (by kernel_rfl) (by kernel_rfl) (by kernel_rfl) (m := 0) rfl (lam_le lam_nil) f31_run

/-! Set of nil -/
noncomputable def G916 : FuncId → Option (CF tC) := look []
theorem Y916 : SysN tC G916 := (sys_nil tC_ok tC_eq)
def S916 : FS := ⟨[[.p], [.v, .v], [.v]], [⟨[.one (.one .nilp), .one (.agg [.int .i64, .int .i64]), vO], []⟩], [⟨[vI], []⟩], [[.v]], []⟩
def f916 (_n1 : Int) (_n2 : Int) (_b3 : Bool) : Int :=
  (1 : Int)
noncomputable def F916 : CF tC := mkF tC S916 (fun a => some ((f916 a.1 a.2.1 a.2.2.1), ()))
def h916 (r : Int) : Option (altTy tE S916.outs) := some (r, ())
theorem f916_run : ∀ a, fnS tC G916 (look []) Try.f16 S916 a = (fun a => some ((f916 a.1 a.2.1 a.2.2.1), ())) a := fun a => by
  have key : ∀ (n1 : Int) (n2 : Int) (b3 : Bool), (h916 (1 : Int)) = h916 (f916 n1 n2 b3) := by
    intros
    unfold f916
    repeat' first | rfl | refine cond_h (g := h916) ?_ ?_
  exact Eq.trans (by kernel_rfl) (key a.1 a.2.1 a.2.2.1)
theorem F916_ok : CFOK tC 16 F916 := mkF_ok Y916 (fn := Try.f16) (body := bodyOf Try.f16) (by kernel_rfl) (by kernel_rfl) (by kernel_rfl) (m := 0) rfl (lam_le lam_nil) f916_run

/-! Move of nil -/
noncomputable def G921 : FuncId → Option (CF tC) := look []
theorem Y921 : SysN tC G921 := (sys_nil tC_ok tC_eq)
def S921 : FS := ⟨[[.p], [.v, .v]], [⟨[.one (.one .nilp), .one (.agg [.int .i64, .int .i64])], []⟩], [⟨[vI], []⟩], [[.v]], []⟩
def f921 (_n1 : Int) (_n2 : Int) : Int :=
  (1 : Int)
noncomputable def F921 : CF tC := mkF tC S921 (fun a => some ((f921 a.1 a.2.1), ()))
def h921 (r : Int) : Option (altTy tE S921.outs) := some (r, ())
theorem f921_run : ∀ a, fnS tC G921 (look []) Try.f21 S921 a = (fun a => some ((f921 a.1 a.2.1), ())) a := fun a => by
  have key : ∀ (n1 : Int) (n2 : Int), (h921 (1 : Int)) = h921 (f921 n1 n2) := by
    intros
    unfold f921
    repeat' first | rfl | refine cond_h (g := h921) ?_ ?_
  exact Eq.trans (by kernel_rfl) (key a.1 a.2.1)
theorem F921_ok : CFOK tC 21 F921 := mkF_ok Y921 (fn := Try.f21) (body := bodyOf Try.f21) (by kernel_rfl) (by kernel_rfl) (by kernel_rfl) (m := 0) rfl (lam_le lam_nil) f921_run

/-! Clone of nil -/
noncomputable def G927 : FuncId → Option (CF tC) := look []
theorem Y927 : SysN tC G927 := (sys_nil tC_ok tC_eq)
def S927 : FS := ⟨[[.q]], [⟨[.one (.one .nilp)], []⟩], [⟨[.one (.one .nilp)], []⟩], [[.v]], []⟩
def f927  : Unit :=
  ()
noncomputable def F927 : CF tC := mkF tC S927 (fun _ => some ())
theorem f927_run : ∀ a, fnS tC G927 (look []) Try.f27 S927 a = (fun _ => some ()) a := fun a => by kernel_rfl
theorem F927_ok : CFOK tC 27 F927 := mkF_ok Y927 (fn := Try.f27) (body := bodyOf Try.f27) (by kernel_rfl) (by kernel_rfl) (by kernel_rfl) (m := 0) rfl (lam_le lam_nil) f927_run

/-! Cost, also of nil -/
noncomputable def G914 : FuncId → Option (CF tC) := look [(33, F33), (36, F36)]
theorem Y914 : SysN tC G914 := (sys_cons F33_ok (mkF_nat _ _) (sys_cons F36_ok (mkF_nat _ _) (sys_nil tC_ok tC_eq)))
def S914 : FS := ⟨[[.q], [.v, .v]], [⟨[.one (.ro [.int .i64, .int .i64, .imm 5, .int .i64, .int .i64, .imm 3]), .one (.agg [.int .i64, .int .i64])], []⟩, ⟨[.one (.one .nilp), .one (.agg [.int .i64, .int .i64])], []⟩], [⟨[vI], []⟩], [[.v]], []⟩
noncomputable def f914_0 (x : Int × Int × List Int × Int × Int × List Int × Int × Int × Unit) : Option (Int × Unit) :=
  bif !f33 x.fst x.snd.fst x.snd.snd.fst x.snd.snd.snd.snd.snd.snd.fst x.snd.snd.snd.snd.snd.snd.snd.fst then some ((-1 : Int), ())
else
  (idxO x.snd.snd.snd.snd.snd.fst
        (f36 x.fst x.snd.fst x.snd.snd.fst x.snd.snd.snd.fst x.snd.snd.snd.snd.fst x.snd.snd.snd.snd.snd.fst x.snd.snd.snd.snd.snd.snd.fst
          x.snd.snd.snd.snd.snd.snd.snd.fst)).bind
    fun y13 => some (y13, ())
noncomputable def f914_1 (_x : Int × Int × Unit) : Option (Int × Unit) :=
  some ((-1 : Int), ())
noncomputable def f914 (x : altTy tE S914.ins) : Option (altTy tE S914.outs) := (Sum.elim f914_0 f914_1) x
noncomputable def F914 : CF tC := mkF tC S914 f914
theorem f914_run : ∀ a, fnS tC G914 (look []) Try.f14 S914 a = f914 a := fun a => by
  rcases a with a | a
  · kernel_rfl
  kernel_rfl
theorem F914_ok : CFOK tC 14 F914 := mkF_ok Y914 (fn := Try.f14) (body := bodyOf Try.f14) (by kernel_rfl) (by kernel_rfl) (by kernel_rfl) (m := 0) rfl (lam_le lam_nil) f914_run

/-! Path, also of nil -/
noncomputable def G915 : FuncId → Option (CF tC) := look [(25, F25)]
theorem Y915 : SysN tC G915 := (sys_cons F25_ok (mkF_nat _ _) (sys_nil tC_ok tC_eq))
def S915 : FS := ⟨[[.q], [.v, .v]], [⟨[.one (.ro [.int .i64, .int .i64, .imm 5, .int .i64, .int .i64, .imm 3]), .one (.agg [.int .i64, .int .i64])], []⟩, ⟨[.one (.one .nilp), .one (.agg [.int .i64, .int .i64])], []⟩], [⟨[.tup [.one (.sl 0), .one (.int .i64), .one (.int .i64)]], [.arr 26]⟩], [[.v], [.v], [.v]], [(4, 26)]⟩
noncomputable def f915_0 (x : Int × Int × List Int × Int × Int × List Int × Int × Int × Unit) : Option (Nat × Int × Int × List Pt × Unit) :=
  (f25
      (x.fst, x.snd.fst, x.snd.snd.fst, x.snd.snd.snd.snd.snd.snd.fst, x.snd.snd.snd.snd.snd.snd.snd.fst, x.snd.snd.snd.fst,
        x.snd.snd.snd.snd.fst, ())).bind
  fun y19 => some (y19.fst, y19.snd.fst, y19.snd.snd.fst, y19.snd.snd.snd.fst, ())
noncomputable def f915_1 (_x : Int × Int × Unit) : Option (Nat × Int × Int × List Pt × Unit) :=
  some ((0 : Nat), (0 : Int), (1 : Int), [], ())
noncomputable def f915 (x : altTy tE S915.ins) : Option (altTy tE S915.outs) := (Sum.elim f915_0 f915_1) x
noncomputable def F915 : CF tC := mkF tC S915 f915
theorem f915_run : ∀ a, fnS tC G915 (look []) Try.f15 S915 a = f915 a := fun a => by
  rcases a with a | a
  · kernel_rfl
  kernel_rfl
theorem F915_ok : CFOK tC 15 F915 := mkF_ok Y915 (fn := Try.f15) (body := bodyOf Try.f15) (by kernel_rfl) (by kernel_rfl) (by kernel_rfl) (m := 0) rfl (lam_le lam_nil) f915_run

/-! Plan, also of nil -/
noncomputable def G919 : FuncId → Option (CF tC) := look [(34, F34)]
theorem Y919 : SysN tC G919 := (sys_cons F34_ok (mkF_nat _ _) (sys_nil tC_ok tC_eq))
def S919 : FS := ⟨[[.q]], [⟨[.one (.ro [.int .i64, .int .i64, .imm 5, .int .i64, .int .i64, .imm 3])], []⟩, ⟨[.one (.one .nilp)], []⟩], [⟨[.one (.agg [.int .i64, .int .i64, .sl 0])], [.arr 5]⟩, ⟨[.one (.agg [.int .i64, .int .i64, .nils])], []⟩], [[.v, .v, .v]], []⟩
noncomputable def f919_0 (x : Int × Int × List Int × Int × Int × List Int × Unit) : Option (Int × Int × Nat × List Int × Unit ⊕ Int × Int × Unit) :=
  (f34 (x.snd.snd.fst, ())).bind fun y15 => some (Sum.inl (x.fst, x.snd.fst, y15.fst, y15.snd.fst, ()))
noncomputable def f919_1 (_x : Unit) : Option (Int × Int × Nat × List Int × Unit ⊕ Int × Int × Unit) :=
  some (Sum.inr ((0 : Int), (0 : Int), ()))
noncomputable def f919 (x : altTy tE S919.ins) : Option (altTy tE S919.outs) := (Sum.elim f919_0 f919_1) x
noncomputable def F919 : CF tC := mkF tC S919 f919
theorem f919_run : ∀ a, fnS tC G919 (look []) Try.f19 S919 a = f919 a := fun a => by
  rcases a with a | a
  · kernel_rfl
  kernel_rfl
theorem F919_ok : CFOK tC 19 F919 := mkF_ok Y919 (fn := Try.f19) (body := bodyOf Try.f19) (by kernel_rfl) (by kernel_rfl) (by kernel_rfl) (m := 0) rfl (lam_le lam_nil) f919_run

/-! Goal, also of nil -/
noncomputable def G923 : FuncId → Option (CF tC) := look []
theorem Y923 : SysN tC G923 := (sys_nil tC_ok tC_eq)
def S923 : FS := ⟨[[.q]], [⟨[.one (.ro [.int .i64, .int .i64, .imm 5, .int .i64, .int .i64, .imm 3])], []⟩, ⟨[.one (.one .nilp)], []⟩], [⟨[.one (.agg [.int .i64, .int .i64])], []⟩], [[.v, .v]], []⟩
noncomputable def f923_0 (x : Int × Int × List Int × Int × Int × List Int × Unit) : Option (Int × Int × Unit) :=
  some (x.snd.snd.snd.fst, x.snd.snd.snd.snd.fst, ())
noncomputable def f923_1 (_x : Unit) : Option (Int × Int × Unit) :=
  some ((0 : Int), (0 : Int), ())
noncomputable def f923 (x : altTy tE S923.ins) : Option (altTy tE S923.outs) := (Sum.elim f923_0 f923_1) x
noncomputable def F923 : CF tC := mkF tC S923 f923
theorem f923_run : ∀ a, fnS tC G923 (look []) Try.f23 S923 a = f923 a := fun a => by
  rcases a with a | a
  · kernel_rfl
  kernel_rfl
theorem F923_ok : CFOK tC 23 F923 := mkF_ok Y923 (fn := Try.f23) (body := bodyOf Try.f23) (by kernel_rfl) (by kernel_rfl) (by kernel_rfl) (m := 0) rfl (lam_le lam_nil) f923_run

/-! RepairPlays -/
noncomputable def G7 : FuncId → Option (CF tC) := look [(9, F9), (20, F20), (10, F10), (26, F26), (15, F915), (14, F914), (16, F916), (21, F921), (19, F919), (23, F923), (27, F927), (22, F22), (28, F28), (29, F29), (18, F18), (30, F30), (31, F31), (17, F17)]
theorem Y7 : SysN tC G7 := (sys_cons F9_ok (mkF_nat _ _) (sys_cons F20_ok (mkF_nat _ _) (sys_cons F10_ok (mkF_nat _ _) (sys_cons F26_ok (mkF_nat _ _) (sys_cons F915_ok (mkF_nat _ _) (sys_cons F914_ok (mkF_nat _ _) (sys_cons F916_ok (mkF_nat _ _) (sys_cons F921_ok (mkF_nat _ _) (sys_cons F919_ok (mkF_nat _ _) (sys_cons F923_ok (mkF_nat _ _) (sys_cons F927_ok (mkF_nat _ _) (sys_cons F22_ok (mkF_nat _ _) (sys_cons F28_ok (mkF_nat _ _) (sys_cons F29_ok (mkF_nat _ _) (sys_cons F18_ok (mkF_nat _ _) (sys_cons F30_ok (mkF_nat _ _) (sys_cons F31_ok (mkF_nat _ _) (sys_cons F17_ok (mkF_nat _ _) (sys_nil tC_ok tC_eq)))))))))))))))))))
noncomputable def c7_28 : Code := subCode (bodyOf Try.f7) 28
def p7_28 : PS := ⟨0, [4, 7, 13], ⟨vBs 4 ++ [.one (.one (.ptr 0 0 0)), vB, vB, .one (.one .nilp)] ++ vBs 5 ++ [vI] ++ vBs 200, [.box [.int .i64, .int .i64]]⟩, [⟨.ret, [6], ⟨vBs 6 ++ [vO] ++ vBs 207, []⟩, []⟩], []⟩
noncomputable def j7_28 (x : Int × Int × Int × Unit) : Option (Bool × Unit) :=
  bif x.fst == (1 : Int) then
  (f914 (Sum.inr (x.snd.fst, x.snd.snd.fst, ()))).bind fun y91 =>
    bif y91.fst == (-1 : Int) then
      bif f916 x.snd.fst x.snd.snd.fst true == (1 : Int) then
        bif f921 x.snd.fst x.snd.snd.fst == (1 : Int) then
          (f919 (Sum.inr ())).bind fun y90 =>
            Sum.elim
              (fun y87 =>
                bif y87.fst == (0 : Int) then
                  (f923 (Sum.inr ())).bind fun y86 =>
                    bif bif y86.fst == (0 : Int) then bif y86.snd.fst == (0 : Int) then true else false else false then some (true, ())
                    else some (false, ())
                else some (false, ()))
              (fun y89 =>
                bif y89.fst == (0 : Int) then
                  (f923 (Sum.inr ())).bind fun y88 =>
                    bif bif y88.fst == (0 : Int) then bif y88.snd.fst == (0 : Int) then true else false else false then some (true, ())
                    else some (false, ())
                else some (false, ()))
              y90
        else some (false, ())
      else some (false, ())
    else some (false, ())
else some (false, ())
theorem j7_28_run0 (v0 : Int) (v1 : Int) (v2 : Int) : pieceK tC G7 (look []) c7_28 p7_28 (v0, v1, v2, ()) = j7_28 (v0, v1, v2, ()) := by kernel_rfl
theorem j7_28_run (x : Int × Int × Int × Unit) : pieceK tC G7 (look []) c7_28 p7_28 x = j7_28 x := j7_28_run0 x.1 x.2.1 x.2.2.1
noncomputable def W7_28 : LF tC := cutLF tC p7_28 j7_28
theorem W7_28_ok : keyed 28 (bodyOf Try.f7) = [c7_28] ∧ ∀ n, n ≤ 0 → Snd tC n c7_28 W7_28.k := ⟨by kernel_rfl, fun n hn => cut_ok (p := p7_28) Y7 (lam_le lam_nil n hn) hn j7_28_run⟩
noncomputable def c7_58 : Code := subCode (subCode (loopOf (bodyOf Try.f7) 0) 49) 58
def p7_58 : PS := ⟨0, [2, 4, 7, 9, 14], ⟨[vB, vB, .one (.one (.imm 47)), vB, .one (.one (.ptr 0 0 0)), vB, vB, .one (.one (.ptr 1 0 0)), vB, .one (.one (.ptr 2 0 0))] ++ vBs 4 ++ [vI] ++ vBs 199, [.box [.int .i64, .int .i64], .box [.int .i64, .int .i64, .sl 3, .int .i64, .int .i64, .sl 4], .box [.int .i64, .int .i64, .imm 5, .int .i64, .int .i64], .arr 5, .arr 3]⟩, [⟨.ret, [6], ⟨vBs 6 ++ [vO] ++ vBs 207, []⟩, []⟩, ⟨.normal, [2, 4, 7, 9, 14], ⟨[vB, vB, .one (.one (.imm 47)), vB, .one (.one (.ptr 0 0 0)), vB, vB, .one (.one (.ptr 1 0 0)), vB, .one (.one (.ptr 2 0 0))] ++ vBs 4 ++ [vI] ++ vBs 199, [.box [.int .i64, .int .i64], .box [.int .i64, .int .i64, .sl 3, .int .i64, .int .i64, .sl 4], .box [.int .i64, .int .i64, .imm 5, .int .i64, .int .i64], .arr 5, .arr 3]⟩, []⟩], []⟩
noncomputable def j7_58 (x : List Ac × Int × Int × Int × Int × Int × Nat × Int × Int × Nat × Int × Int × List Int × Int × Int × List Int × List Int × Unit) : Option
  (Bool × Unit ⊕
    List Ac × Int × Int × Int × Int × Int × Nat × Int × Int × Nat × Int × Int × List Int × Int × Int × List Int × List Int × Unit) :=
  bif decide ((0 : Nat) + x.snd.snd.snd.snd.snd.snd.fst ≤ x.snd.snd.snd.snd.snd.snd.snd.snd.snd.snd.snd.snd.snd.snd.snd.fst.length) then
  bif
      decide
        ((0 : Nat) + x.snd.snd.snd.snd.snd.snd.snd.snd.snd.fst ≤
          x.snd.snd.snd.snd.snd.snd.snd.snd.snd.snd.snd.snd.snd.snd.snd.snd.fst.length) then
    (f915
          (Sum.inl
            (x.snd.snd.snd.snd.fst, x.snd.snd.snd.snd.snd.fst,
              List.take x.snd.snd.snd.snd.snd.snd.fst
                (List.drop (0 : Nat) x.snd.snd.snd.snd.snd.snd.snd.snd.snd.snd.snd.snd.snd.snd.snd.fst),
              x.snd.snd.snd.snd.snd.snd.snd.fst, x.snd.snd.snd.snd.snd.snd.snd.snd.fst,
              List.take x.snd.snd.snd.snd.snd.snd.snd.snd.snd.fst
                (List.drop (0 : Nat) x.snd.snd.snd.snd.snd.snd.snd.snd.snd.snd.snd.snd.snd.snd.snd.snd.fst),
              x.snd.snd.fst, x.snd.snd.snd.fst, ()))).bind
      fun y218 =>
      (f31
            (x.snd.snd.snd.snd.snd.snd.snd.snd.snd.snd.fst, x.snd.snd.snd.snd.snd.snd.snd.snd.snd.snd.snd.fst,
              x.snd.snd.snd.snd.snd.snd.snd.snd.snd.snd.snd.snd.fst, x.snd.snd.snd.snd.snd.snd.snd.snd.snd.snd.snd.snd.snd.fst,
              x.snd.snd.snd.snd.snd.snd.snd.snd.snd.snd.snd.snd.snd.snd.fst, x.snd.snd.fst, x.snd.snd.snd.fst, ())).bind
        fun y217 =>
        bif decide ((0 : Nat) + y218.fst ≤ y218.snd.snd.snd.fst.length) then
          bif decide ((0 : Nat) + y217.fst ≤ y217.snd.snd.snd.fst.length) then
            (f17
                  (List.take y218.fst (List.drop (0 : Nat) y218.snd.snd.snd.fst),
                    List.take y217.fst (List.drop (0 : Nat) y217.snd.snd.snd.fst), ())).bind
              fun y216 =>
              bif !y216.fst then some (Sum.inl (false, ()))
              else
                bif y218.snd.fst != y217.snd.fst then some (Sum.inl (false, ()))
                else
                  bif y218.snd.snd.fst != y217.snd.snd.fst then some (Sum.inl (false, ()))
                  else
                    some
                      (Sum.inr
                        (x.fst, x.snd.fst, x.snd.snd.fst, x.snd.snd.snd.fst, x.snd.snd.snd.snd.fst, x.snd.snd.snd.snd.snd.fst,
                          x.snd.snd.snd.snd.snd.snd.fst, x.snd.snd.snd.snd.snd.snd.snd.fst, x.snd.snd.snd.snd.snd.snd.snd.snd.fst,
                          x.snd.snd.snd.snd.snd.snd.snd.snd.snd.fst, x.snd.snd.snd.snd.snd.snd.snd.snd.snd.snd.fst,
                          x.snd.snd.snd.snd.snd.snd.snd.snd.snd.snd.snd.fst, x.snd.snd.snd.snd.snd.snd.snd.snd.snd.snd.snd.snd.fst,
                          x.snd.snd.snd.snd.snd.snd.snd.snd.snd.snd.snd.snd.snd.fst,
                          x.snd.snd.snd.snd.snd.snd.snd.snd.snd.snd.snd.snd.snd.snd.fst,
                          x.snd.snd.snd.snd.snd.snd.snd.snd.snd.snd.snd.snd.snd.snd.snd.fst,
                          x.snd.snd.snd.snd.snd.snd.snd.snd.snd.snd.snd.snd.snd.snd.snd.snd.fst, ()))
          else none
        else none
  else none
else none
theorem j7_58_run0 (v0 : List Ac) (v1 : Int) (v2 : Int) (v3 : Int) (v4 : Int) (v5 : Int) (v6 : Nat) (v7 : Int) (v8 : Int) (v9 : Nat) (v10 : Int) (v11 : Int) (v12 : List Int) (v13 : Int) (v14 : Int) (v15 : List Int) (v16 : List Int) : pieceK tC G7 (look []) c7_58 p7_58 (v0, v1, v2, v3, v4, v5, v6, v7, v8, v9, v10, v11, v12, v13, v14, v15, v16, ()) = j7_58 (v0, v1, v2, v3, v4, v5, v6, v7, v8, v9, v10, v11, v12, v13, v14, v15, v16, ()) := by kernel_rfl
theorem j7_58_run (x : List Ac × Int × Int × Int × Int × Int × Nat × Int × Int × Nat × Int × Int × List Int × Int × Int × List Int × List Int × Unit) : pieceK tC G7 (look []) c7_58 p7_58 x = j7_58 x := j7_58_run0 x.1 x.2.1 x.2.2.1 x.2.2.2.1 x.2.2.2.2.1 x.2.2.2.2.2.1 x.2.2.2.2.2.2.1 x.2.2.2.2.2.2.2.1 x.2.2.2.2.2.2.2.2.1 x.2.2.2.2.2.2.2.2.2.1 x.2.2.2.2.2.2.2.2.2.2.1 x.2.2.2.2.2.2.2.2.2.2.2.1 x.2.2.2.2.2.2.2.2.2.2.2.2.1 x.2.2.2.2.2.2.2.2.2.2.2.2.2.1 x.2.2.2.2.2.2.2.2.2.2.2.2.2.2.1 x.2.2.2.2.2.2.2.2.2.2.2.2.2.2.2.1 x.2.2.2.2.2.2.2.2.2.2.2.2.2.2.2.2.1
noncomputable def W7_58 : LF tC := cutLF tC p7_58 j7_58
theorem W7_58_ok : keyed 58 (subCode (loopOf (bodyOf Try.f7) 0) 49) = [c7_58] ∧ ∀ n, n ≤ 0 → Snd tC n c7_58 W7_58.k := ⟨by kernel_rfl, fun n hn => cut_ok (p := p7_58) Y7 (lam_le lam_nil n hn) hn j7_58_run⟩
noncomputable def c7_49 : Code := subCode (loopOf (bodyOf Try.f7) 0) 49
def p7_49 : PS := ⟨0, [2, 4, 7, 9, 14, 15, 16], ⟨[vB, vB, .one (.one (.imm 47)), vB, .one (.one (.ptr 0 0 0)), vB, vB, .one (.one (.ptr 1 0 0)), vB, .one (.one (.ptr 2 0 0))] ++ vBs 4 ++ [vI, .one (.one (.ptr 3 0 0)), vI] ++ vBs 197, [.box [.int .i64, .int .i64], .box [.int .i64, .int .i64, .sl 4, .int .i64, .int .i64, .sl 5], .box [.int .i64, .int .i64, .imm 5, .int .i64, .int .i64], .box [.int .i64, .int .i64, .imm 5, .int .i64, .int .i64], .arr 5, .arr 3]⟩, [⟨.ret, [6], ⟨vBs 6 ++ [vO] ++ vBs 207, []⟩, []⟩, ⟨.normal, [2, 4, 7, 9, 14], ⟨[vB, vB, .one (.one (.imm 47)), vB, .one (.one (.ptr 0 0 0)), vB, vB, .one (.one (.ptr 1 0 0)), vB, .one (.one (.ptr 2 0 0))] ++ vBs 4 ++ [vI] ++ vBs 199, [.box [.int .i64, .int .i64], .box [.int .i64, .int .i64, .sl 3, .int .i64, .int .i64, .sl 4], .box [.int .i64, .int .i64, .imm 5, .int .i64, .int .i64], .arr 5, .arr 3]⟩, []⟩], []⟩
noncomputable def j7_49 (x : List Ac ×
  Int ×
    Int ×
      Int ×
        Int ×
          Int ×
            Int × Nat × Int × Int × Nat × Int × Int × List Int × Int × Int × Int × Int × List Int × Int × Int × List Int × List Int × Unit) : Option
  (Bool × Unit ⊕
    List Ac × Int × Int × Int × Int × Int × Nat × Int × Int × Nat × Int × Int × List Int × Int × Int × List Int × List Int × Unit) :=
  (idxO x.fst x.snd.fst).bind fun y293 =>
  bif
      decide
        ((0 : Nat) + x.snd.snd.snd.snd.snd.snd.snd.fst ≤
          x.snd.snd.snd.snd.snd.snd.snd.snd.snd.snd.snd.snd.snd.snd.snd.snd.snd.snd.snd.snd.snd.fst.length) then
    bif
        decide
          ((0 : Nat) + x.snd.snd.snd.snd.snd.snd.snd.snd.snd.snd.fst ≤
            x.snd.snd.snd.snd.snd.snd.snd.snd.snd.snd.snd.snd.snd.snd.snd.snd.snd.snd.snd.snd.snd.snd.fst.length) then
      (f22
            (y293.K, y293.X, y293.Y,
              List.take x.snd.snd.snd.snd.snd.snd.snd.fst
                (List.drop (0 : Nat) x.snd.snd.snd.snd.snd.snd.snd.snd.snd.snd.snd.snd.snd.snd.snd.snd.snd.snd.snd.snd.snd.fst),
              List.take x.snd.snd.snd.snd.snd.snd.snd.snd.snd.snd.fst
                (List.drop (0 : Nat) x.snd.snd.snd.snd.snd.snd.snd.snd.snd.snd.snd.snd.snd.snd.snd.snd.snd.snd.snd.snd.snd.snd.fst),
              x.snd.snd.snd.snd.snd.fst, x.snd.snd.snd.snd.snd.snd.fst, x.snd.snd.snd.snd.snd.snd.snd.fst,
              x.snd.snd.snd.snd.snd.snd.snd.snd.fst, x.snd.snd.snd.snd.snd.snd.snd.snd.snd.fst,
              x.snd.snd.snd.snd.snd.snd.snd.snd.snd.snd.fst, ())).bind
        fun y292 =>
        bif y292.fst != x.snd.snd.fst then some (Sum.inl (false, ()))
        else
          bif decide ((0 : Nat) + y292.snd.snd.snd.fst ≤ y292.snd.snd.snd.snd.snd.snd.snd.fst.length) then
            bif decide ((0 : Nat) + y292.snd.snd.snd.snd.snd.snd.fst ≤ y292.snd.snd.snd.snd.snd.snd.snd.snd.fst.length) then
              (f919
                    (Sum.inl
                      (y292.snd.fst, y292.snd.snd.fst,
                        List.take y292.snd.snd.snd.fst (List.drop (0 : Nat) y292.snd.snd.snd.snd.snd.snd.snd.fst), y292.snd.snd.snd.snd.fst,
                        y292.snd.snd.snd.snd.snd.fst,
                        List.take y292.snd.snd.snd.snd.snd.snd.fst (List.drop (0 : Nat) y292.snd.snd.snd.snd.snd.snd.snd.snd.fst),
                        ()))).bind
                fun y291 =>
                Sum.elim
                  (fun y281 =>
                    bif decide ((0 : Nat) + y281.snd.snd.fst ≤ y281.snd.snd.snd.fst.length) then
                      bif
                          !f18 y281.fst y281.snd.fst (List.take y281.snd.snd.fst (List.drop (0 : Nat) y281.snd.snd.snd.fst))
                              x.snd.snd.snd.snd.snd.snd.snd.snd.snd.snd.snd.snd.snd.snd.snd.snd.fst
                              x.snd.snd.snd.snd.snd.snd.snd.snd.snd.snd.snd.snd.snd.snd.snd.snd.snd.fst
                              x.snd.snd.snd.snd.snd.snd.snd.snd.snd.snd.snd.snd.snd.snd.snd.snd.snd.snd.fst then
                        some (Sum.inl (false, ()))
                      else
                        bif decide ((0 : Nat) + y292.snd.snd.snd.fst ≤ y292.snd.snd.snd.snd.snd.snd.snd.fst.length) then
                          bif decide ((0 : Nat) + y292.snd.snd.snd.snd.snd.snd.fst ≤ y292.snd.snd.snd.snd.snd.snd.snd.snd.fst.length) then
                            (f923
                                  (Sum.inl
                                    (y292.snd.fst, y292.snd.snd.fst,
                                      List.take y292.snd.snd.snd.fst (List.drop (0 : Nat) y292.snd.snd.snd.snd.snd.snd.snd.fst),
                                      y292.snd.snd.snd.snd.fst, y292.snd.snd.snd.snd.snd.fst,
                                      List.take y292.snd.snd.snd.snd.snd.snd.fst
                                        (List.drop (0 : Nat) y292.snd.snd.snd.snd.snd.snd.snd.snd.fst),
                                      ()))).bind
                              fun y280 =>
                              bif
                                  !bif y280.fst == x.snd.snd.snd.snd.snd.snd.snd.snd.snd.snd.snd.snd.snd.snd.snd.snd.snd.snd.snd.fst then
                                      bif
                                          y280.snd.fst ==
                                            x.snd.snd.snd.snd.snd.snd.snd.snd.snd.snd.snd.snd.snd.snd.snd.snd.snd.snd.snd.snd.fst then
                                        true
                                      else false
                                    else false then
                                some (Sum.inl (false, ()))
                              else
                                (idxO x.fst x.snd.fst).bind fun y279 =>
                                  bif decide ((0 : Nat) + y292.snd.snd.snd.fst ≤ y292.snd.snd.snd.snd.snd.snd.snd.fst.length) then
                                    bif
                                        decide
                                          ((0 : Nat) + y292.snd.snd.snd.snd.snd.snd.fst ≤
                                            y292.snd.snd.snd.snd.snd.snd.snd.snd.fst.length) then
                                      (f914
                                            (Sum.inl
                                              (y292.snd.fst, y292.snd.snd.fst,
                                                List.take y292.snd.snd.snd.fst (List.drop (0 : Nat) y292.snd.snd.snd.snd.snd.snd.snd.fst),
                                                y292.snd.snd.snd.snd.fst, y292.snd.snd.snd.snd.snd.fst,
                                                List.take y292.snd.snd.snd.snd.snd.snd.fst
                                                  (List.drop (0 : Nat) y292.snd.snd.snd.snd.snd.snd.snd.snd.fst),
                                                y279.X, y279.Y, ()))).bind
                                        fun y278 =>
                                        (idxO x.fst x.snd.fst).bind fun y277 =>
                                          (f30
                                                (x.snd.snd.snd.snd.snd.snd.snd.snd.snd.snd.snd.snd.snd.snd.snd.snd.fst,
                                                  x.snd.snd.snd.snd.snd.snd.snd.snd.snd.snd.snd.snd.snd.snd.snd.snd.snd.fst,
                                                  x.snd.snd.snd.snd.snd.snd.snd.snd.snd.snd.snd.snd.snd.snd.snd.snd.snd.snd.fst,
                                                  x.snd.snd.snd.snd.snd.snd.snd.snd.snd.snd.snd.snd.snd.snd.snd.snd.snd.snd.snd.fst,
                                                  x.snd.snd.snd.snd.snd.snd.snd.snd.snd.snd.snd.snd.snd.snd.snd.snd.snd.snd.snd.snd.fst,
                                                  y277.X, y277.Y, ())).bind
                                            fun y276 =>
                                            bif y278.fst != y276.fst then some (Sum.inl (false, ()))
                                            else
                                              (j7_58
                                                    (x.fst, x.snd.fst, x.snd.snd.snd.fst, x.snd.snd.snd.snd.fst, y292.snd.fst,
                                                      y292.snd.snd.fst, y292.snd.snd.snd.fst, y292.snd.snd.snd.snd.fst,
                                                      y292.snd.snd.snd.snd.snd.fst, y292.snd.snd.snd.snd.snd.snd.fst,
                                                      x.snd.snd.snd.snd.snd.snd.snd.snd.snd.snd.snd.snd.snd.snd.snd.snd.fst,
                                                      x.snd.snd.snd.snd.snd.snd.snd.snd.snd.snd.snd.snd.snd.snd.snd.snd.snd.fst,
                                                      x.snd.snd.snd.snd.snd.snd.snd.snd.snd.snd.snd.snd.snd.snd.snd.snd.snd.snd.fst,
                                                      x.snd.snd.snd.snd.snd.snd.snd.snd.snd.snd.snd.snd.snd.snd.snd.snd.snd.snd.snd.fst,
                                                      x.snd.snd.snd.snd.snd.snd.snd.snd.snd.snd.snd.snd.snd.snd.snd.snd.snd.snd.snd.snd.fst,
                                                      y292.snd.snd.snd.snd.snd.snd.snd.fst, y292.snd.snd.snd.snd.snd.snd.snd.snd.fst,
                                                      ())).bind
                                                fun y275 =>
                                                Sum.elim (fun y273 => some (Sum.inl (y273.fst, ())))
                                                  (fun y274 =>
                                                    some
                                                      (Sum.inr
                                                        (y274.fst, y274.snd.fst, y274.snd.snd.fst, y274.snd.snd.snd.fst,
                                                          y274.snd.snd.snd.snd.fst, y274.snd.snd.snd.snd.snd.fst,
                                                          y274.snd.snd.snd.snd.snd.snd.fst, y274.snd.snd.snd.snd.snd.snd.snd.fst,
                                                          y274.snd.snd.snd.snd.snd.snd.snd.snd.fst,
                                                          y274.snd.snd.snd.snd.snd.snd.snd.snd.snd.fst,
                                                          y274.snd.snd.snd.snd.snd.snd.snd.snd.snd.snd.fst,
                                                          y274.snd.snd.snd.snd.snd.snd.snd.snd.snd.snd.snd.fst,
                                                          y274.snd.snd.snd.snd.snd.snd.snd.snd.snd.snd.snd.snd.fst,
                                                          y274.snd.snd.snd.snd.snd.snd.snd.snd.snd.snd.snd.snd.snd.fst,
                                                          y274.snd.snd.snd.snd.snd.snd.snd.snd.snd.snd.snd.snd.snd.snd.fst,
                                                          y274.snd.snd.snd.snd.snd.snd.snd.snd.snd.snd.snd.snd.snd.snd.snd.fst,
                                                          y274.snd.snd.snd.snd.snd.snd.snd.snd.snd.snd.snd.snd.snd.snd.snd.snd.fst, ())))
                                                  y275
                                    else none
                                  else none
                          else none
                        else none
                    else none)
                  (fun y290 =>
                    bif
                        !f18 y290.fst y290.snd.fst [] x.snd.snd.snd.snd.snd.snd.snd.snd.snd.snd.snd.snd.snd.snd.snd.snd.fst
                            x.snd.snd.snd.snd.snd.snd.snd.snd.snd.snd.snd.snd.snd.snd.snd.snd.snd.fst
                            x.snd.snd.snd.snd.snd.snd.snd.snd.snd.snd.snd.snd.snd.snd.snd.snd.snd.snd.fst then
                      some (Sum.inl (false, ()))
                    else
                      bif decide ((0 : Nat) + y292.snd.snd.snd.fst ≤ y292.snd.snd.snd.snd.snd.snd.snd.fst.length) then
                        bif decide ((0 : Nat) + y292.snd.snd.snd.snd.snd.snd.fst ≤ y292.snd.snd.snd.snd.snd.snd.snd.snd.fst.length) then
                          (f923
                                (Sum.inl
                                  (y292.snd.fst, y292.snd.snd.fst,
                                    List.take y292.snd.snd.snd.fst (List.drop (0 : Nat) y292.snd.snd.snd.snd.snd.snd.snd.fst),
                                    y292.snd.snd.snd.snd.fst, y292.snd.snd.snd.snd.snd.fst,
                                    List.take y292.snd.snd.snd.snd.snd.snd.fst
                                      (List.drop (0 : Nat) y292.snd.snd.snd.snd.snd.snd.snd.snd.fst),
                                    ()))).bind
                            fun y289 =>
                            bif
                                !bif y289.fst == x.snd.snd.snd.snd.snd.snd.snd.snd.snd.snd.snd.snd.snd.snd.snd.snd.snd.snd.snd.fst then
                                    bif
                                        y289.snd.fst ==
                                          x.snd.snd.snd.snd.snd.snd.snd.snd.snd.snd.snd.snd.snd.snd.snd.snd.snd.snd.snd.snd.fst then
                                      true
                                    else false
                                  else false then
                              some (Sum.inl (false, ()))
                            else
                              (idxO x.fst x.snd.fst).bind fun y288 =>
                                bif decide ((0 : Nat) + y292.snd.snd.snd.fst ≤ y292.snd.snd.snd.snd.snd.snd.snd.fst.length) then
                                  bif
                                      decide
                                        ((0 : Nat) + y292.snd.snd.snd.snd.snd.snd.fst ≤
                                          y292.snd.snd.snd.snd.snd.snd.snd.snd.fst.length) then
                                    (f914
                                          (Sum.inl
                                            (y292.snd.fst, y292.snd.snd.fst,
                                              List.take y292.snd.snd.snd.fst (List.drop (0 : Nat) y292.snd.snd.snd.snd.snd.snd.snd.fst),
                                              y292.snd.snd.snd.snd.fst, y292.snd.snd.snd.snd.snd.fst,
                                              List.take y292.snd.snd.snd.snd.snd.snd.fst
                                                (List.drop (0 : Nat) y292.snd.snd.snd.snd.snd.snd.snd.snd.fst),
                                              y288.X, y288.Y, ()))).bind
                                      fun y287 =>
                                      (idxO x.fst x.snd.fst).bind fun y286 =>
                                        (f30
                                              (x.snd.snd.snd.snd.snd.snd.snd.snd.snd.snd.snd.snd.snd.snd.snd.snd.fst,
                                                x.snd.snd.snd.snd.snd.snd.snd.snd.snd.snd.snd.snd.snd.snd.snd.snd.snd.fst,
                                                x.snd.snd.snd.snd.snd.snd.snd.snd.snd.snd.snd.snd.snd.snd.snd.snd.snd.snd.fst,
                                                x.snd.snd.snd.snd.snd.snd.snd.snd.snd.snd.snd.snd.snd.snd.snd.snd.snd.snd.snd.fst,
                                                x.snd.snd.snd.snd.snd.snd.snd.snd.snd.snd.snd.snd.snd.snd.snd.snd.snd.snd.snd.snd.fst,
                                                y286.X, y286.Y, ())).bind
                                          fun y285 =>
                                          bif y287.fst != y285.fst then some (Sum.inl (false, ()))
                                          else
                                            (j7_58
                                                  (x.fst, x.snd.fst, x.snd.snd.snd.fst, x.snd.snd.snd.snd.fst, y292.snd.fst,
                                                    y292.snd.snd.fst, y292.snd.snd.snd.fst, y292.snd.snd.snd.snd.fst,
                                                    y292.snd.snd.snd.snd.snd.fst, y292.snd.snd.snd.snd.snd.snd.fst,
                                                    x.snd.snd.snd.snd.snd.snd.snd.snd.snd.snd.snd.snd.snd.snd.snd.snd.fst,
                                                    x.snd.snd.snd.snd.snd.snd.snd.snd.snd.snd.snd.snd.snd.snd.snd.snd.snd.fst,
                                                    x.snd.snd.snd.snd.snd.snd.snd.snd.snd.snd.snd.snd.snd.snd.snd.snd.snd.snd.fst,
                                                    x.snd.snd.snd.snd.snd.snd.snd.snd.snd.snd.snd.snd.snd.snd.snd.snd.snd.snd.snd.fst,
                                                    x.snd.snd.snd.snd.snd.snd.snd.snd.snd.snd.snd.snd.snd.snd.snd.snd.snd.snd.snd.snd.fst,
                                                    y292.snd.snd.snd.snd.snd.snd.snd.fst, y292.snd.snd.snd.snd.snd.snd.snd.snd.fst,
                                                    ())).bind
                                              fun y284 =>
                                              Sum.elim (fun y282 => some (Sum.inl (y282.fst, ())))
                                                (fun y283 =>
                                                  some
                                                    (Sum.inr
                                                      (y283.fst, y283.snd.fst, y283.snd.snd.fst, y283.snd.snd.snd.fst,
                                                        y283.snd.snd.snd.snd.fst, y283.snd.snd.snd.snd.snd.fst,
                                                        y283.snd.snd.snd.snd.snd.snd.fst, y283.snd.snd.snd.snd.snd.snd.snd.fst,
                                                        y283.snd.snd.snd.snd.snd.snd.snd.snd.fst,
                                                        y283.snd.snd.snd.snd.snd.snd.snd.snd.snd.fst,
                                                        y283.snd.snd.snd.snd.snd.snd.snd.snd.snd.snd.fst,
                                                        y283.snd.snd.snd.snd.snd.snd.snd.snd.snd.snd.snd.fst,
                                                        y283.snd.snd.snd.snd.snd.snd.snd.snd.snd.snd.snd.snd.fst,
                                                        y283.snd.snd.snd.snd.snd.snd.snd.snd.snd.snd.snd.snd.snd.fst,
                                                        y283.snd.snd.snd.snd.snd.snd.snd.snd.snd.snd.snd.snd.snd.snd.fst,
                                                        y283.snd.snd.snd.snd.snd.snd.snd.snd.snd.snd.snd.snd.snd.snd.snd.fst,
                                                        y283.snd.snd.snd.snd.snd.snd.snd.snd.snd.snd.snd.snd.snd.snd.snd.snd.fst, ())))
                                                y284
                                  else none
                                else none
                        else none
                      else none)
                  y291
            else none
          else none
    else none
  else none
theorem j7_49_run0 (v0 : List Ac) (v1 : Int) (v2 : Int) (v3 : Int) (v4 : Int) (v5 : Int) (v6 : Int) (v7 : Nat) (v8 : Int) (v9 : Int) (v10 : Nat) (v11 : Int) (v12 : Int) (v13 : List Int) (v14 : Int) (v15 : Int) (v16 : Int) (v17 : Int) (v18 : List Int) (v19 : Int) (v20 : Int) (v21 : List Int) (v22 : List Int) : pieceK tC G7 (look [(58, W7_58)]) c7_49 p7_49 (v0, v1, v2, v3, v4, v5, v6, v7, v8, v9, v10, v11, v12, v13, v14, v15, v16, v17, v18, v19, v20, v21, v22, ()) = j7_49 (v0, v1, v2, v3, v4, v5, v6, v7, v8, v9, v10, v11, v12, v13, v14, v15, v16, v17, v18, v19, v20, v21, v22, ()) := by kernel_rfl
theorem j7_49_run (x : List Ac ×
  Int ×
    Int ×
      Int ×
        Int ×
          Int ×
            Int × Nat × Int × Int × Nat × Int × Int × List Int × Int × Int × Int × Int × List Int × Int × Int × List Int × List Int × Unit) : pieceK tC G7 (look [(58, W7_58)]) c7_49 p7_49 x = j7_49 x := j7_49_run0 x.1 x.2.1 x.2.2.1 x.2.2.2.1 x.2.2.2.2.1 x.2.2.2.2.2.1 x.2.2.2.2.2.2.1 x.2.2.2.2.2.2.2.1 x.2.2.2.2.2.2.2.2.1 x.2.2.2.2.2.2.2.2.2.1 x.2.2.2.2.2.2.2.2.2.2.1 x.2.2.2.2.2.2.2.2.2.2.2.1 x.2.2.2.2.2.2.2.2.2.2.2.2.1 x.2.2.2.2.2.2.2.2.2.2.2.2.2.1 x.2.2.2.2.2.2.2.2.2.2.2.2.2.2.1 x.2.2.2.2.2.2.2.2.2.2.2.2.2.2.2.1 x.2.2.2.2.2.2.2.2.2.2.2.2.2.2.2.2.1 x.2.2.2.2.2.2.2.2.2.2.2.2.2.2.2.2.2.1 x.2.2.2.2.2.2.2.2.2.2.2.2.2.2.2.2.2.2.1 x.2.2.2.2.2.2.2.2.2.2.2.2.2.2.2.2.2.2.2.1 x.2.2.2.2.2.2.2.2.2.2.2.2.2.2.2.2.2.2.2.2.1 x.2.2.2.2.2.2.2.2.2.2.2.2.2.2.2.2.2.2.2.2.2.1 x.2.2.2.2.2.2.2.2.2.2.2.2.2.2.2.2.2.2.2.2.2.2.1
noncomputable def W7_49 : LF tC := cutLF tC p7_49 j7_49
theorem W7_49_ok : keyed 49 (loopOf (bodyOf Try.f7) 0) = [c7_49] ∧ ∀ n, n ≤ 0 → Snd tC n c7_49 W7_49.k := ⟨by kernel_rfl, fun n hn => cut_ok (p := p7_49) Y7 (lam_le (lam_cons W7_58_ok lam_nil) n hn) hn j7_49_run⟩
noncomputable def c7_37 : Code := subCode (loopOf (bodyOf Try.f7) 0) 37
def p7_37 : PS := ⟨0, [2, 4, 7, 9, 14], ⟨[vB, vB, .one (.one (.imm 47)), vB, .one (.one (.ptr 0 0 0)), vB, vB, .one (.one (.ptr 1 0 0)), vB, .one (.one (.ptr 2 0 0))] ++ vBs 4 ++ [vI] ++ vBs 199, [.box [.int .i64, .int .i64], .box [.int .i64, .int .i64, .sl 3, .int .i64, .int .i64, .sl 4], .box [.int .i64, .int .i64, .imm 5, .int .i64, .int .i64], .arr 5, .arr 3]⟩, [⟨.normal, [2, 4, 7, 9, 14], ⟨[vB, vB, .one (.one (.imm 47)), vB, .one (.one (.ptr 0 0 0)), vB, vB, .one (.one (.ptr 1 0 0)), vB, .one (.one (.ptr 2 0 0))] ++ vBs 4 ++ [vI] ++ vBs 199, [.box [.int .i64, .int .i64], .box [.int .i64, .int .i64, .sl 3, .int .i64, .int .i64, .sl 4], .box [.int .i64, .int .i64, .imm 5, .int .i64, .int .i64], .arr 5, .arr 3]⟩, []⟩], []⟩
noncomputable def j7_37 (x : List Ac × Int × Int × Int × Int × Int × Nat × Int × Int × Nat × Int × Int × List Int × Int × Int × List Int × List Int × Unit) : Option (List Ac × Int × Int × Int × Int × Int × Nat × Int × Int × Nat × Int × Int × List Int × Int × Int × List Int × List Int × Unit) :=
  some
  (x.fst, IntKind.i64.wrap (x.snd.fst + (1 : Int)), x.snd.snd.fst, x.snd.snd.snd.fst, x.snd.snd.snd.snd.fst, x.snd.snd.snd.snd.snd.fst,
    x.snd.snd.snd.snd.snd.snd.fst, x.snd.snd.snd.snd.snd.snd.snd.fst, x.snd.snd.snd.snd.snd.snd.snd.snd.fst,
    x.snd.snd.snd.snd.snd.snd.snd.snd.snd.fst, x.snd.snd.snd.snd.snd.snd.snd.snd.snd.snd.fst,
    x.snd.snd.snd.snd.snd.snd.snd.snd.snd.snd.snd.fst, x.snd.snd.snd.snd.snd.snd.snd.snd.snd.snd.snd.snd.fst,
    x.snd.snd.snd.snd.snd.snd.snd.snd.snd.snd.snd.snd.snd.fst, x.snd.snd.snd.snd.snd.snd.snd.snd.snd.snd.snd.snd.snd.snd.fst,
    x.snd.snd.snd.snd.snd.snd.snd.snd.snd.snd.snd.snd.snd.snd.snd.fst,
    x.snd.snd.snd.snd.snd.snd.snd.snd.snd.snd.snd.snd.snd.snd.snd.snd.fst, ())
theorem j7_37_run0 (v0 : List Ac) (v1 : Int) (v2 : Int) (v3 : Int) (v4 : Int) (v5 : Int) (v6 : Nat) (v7 : Int) (v8 : Int) (v9 : Nat) (v10 : Int) (v11 : Int) (v12 : List Int) (v13 : Int) (v14 : Int) (v15 : List Int) (v16 : List Int) : pieceK tC G7 (look []) c7_37 p7_37 (v0, v1, v2, v3, v4, v5, v6, v7, v8, v9, v10, v11, v12, v13, v14, v15, v16, ()) = j7_37 (v0, v1, v2, v3, v4, v5, v6, v7, v8, v9, v10, v11, v12, v13, v14, v15, v16, ()) := by kernel_rfl
theorem j7_37_run (x : List Ac × Int × Int × Int × Int × Int × Nat × Int × Int × Nat × Int × Int × List Int × Int × Int × List Int × List Int × Unit) : pieceK tC G7 (look []) c7_37 p7_37 x = j7_37 x := j7_37_run0 x.1 x.2.1 x.2.2.1 x.2.2.2.1 x.2.2.2.2.1 x.2.2.2.2.2.1 x.2.2.2.2.2.2.1 x.2.2.2.2.2.2.2.1 x.2.2.2.2.2.2.2.2.1 x.2.2.2.2.2.2.2.2.2.1 x.2.2.2.2.2.2.2.2.2.2.1 x.2.2.2.2.2.2.2.2.2.2.2.1 x.2.2.2.2.2.2.2.2.2.2.2.2.1 x.2.2.2.2.2.2.2.2.2.2.2.2.2.1 x.2.2.2.2.2.2.2.2.2.2.2.2.2.2.1 x.2.2.2.2.2.2.2.2.2.2.2.2.2.2.2.1 x.2.2.2.2.2.2.2.2.2.2.2.2.2.2.2.2.1
noncomputable def W7_37 : LF tC := cutLF tC p7_37 j7_37
theorem W7_37_ok : keyed 37 (loopOf (bodyOf Try.f7) 0) = [c7_37] ∧ ∀ n, n ≤ 0 → Snd tC n c7_37 W7_37.k := ⟨by kernel_rfl, fun n hn => cut_ok (p := p7_37) Y7 (lam_le lam_nil n hn) hn j7_37_run⟩
noncomputable def c7_0 : Code := loopOf (bodyOf Try.f7) 0
def p7_0 : LS := ⟨0, [2, 4, 7, 9, 14], ⟨[vB, vB, .one (.one (.imm 47)), vB, .one (.one (.ptr 0 0 0)), vB, vB, .one (.one (.ptr 1 0 0)), vB, .one (.one (.ptr 2 0 0))] ++ vBs 4 ++ [vI] ++ vBs 199, [.box [.int .i64, .int .i64], .box [.int .i64, .int .i64, .sl 3, .int .i64, .int .i64, .sl 4], .box [.int .i64, .int .i64, .imm 5, .int .i64, .int .i64], .arr 5, .arr 3]⟩, [⟨.ret, [6], ⟨vBs 6 ++ [vO] ++ vBs 207, []⟩, []⟩, ⟨.exit 0, [7, 9], ⟨vBs 7 ++ [.one (.one (.ptr 0 0 0)), vB, .one (.one (.ptr 1 0 0))] ++ vBs 204, [.box [.int .i64, .int .i64, .sl 2, .int .i64, .int .i64, .sl 3], .box [.int .i64, .int .i64, .imm 5, .int .i64, .int .i64], .arr 5, .arr 3]⟩, []⟩], []⟩
noncomputable def r7_0 (x : List Ac × Int × Int × Int × Int × Int × Nat × Int × Int × Nat × Int × Int × List Int × Int × Int × List Int × List Int × Unit) : Option
  (List Ac × Int × Int × Int × Int × Int × Nat × Int × Int × Nat × Int × Int × List Int × Int × Int × List Int × List Int × Unit ⊕
    Bool × Unit ⊕ Int × Int × Nat × Int × Int × Nat × Int × Int × List Int × Int × Int × List Int × List Int × Unit) :=
  bif decide (x.snd.fst < (↑x.fst.length : Int)) then
  (idxO x.fst x.snd.fst).bind fun y424 =>
    (idxO x.fst x.snd.fst).bind fun y423 =>
      (f28
            (x.snd.snd.snd.snd.snd.snd.snd.snd.snd.snd.fst, x.snd.snd.snd.snd.snd.snd.snd.snd.snd.snd.snd.fst,
              x.snd.snd.snd.snd.snd.snd.snd.snd.snd.snd.snd.snd.fst, x.snd.snd.snd.snd.snd.snd.snd.snd.snd.snd.snd.snd.snd.fst,
              x.snd.snd.snd.snd.snd.snd.snd.snd.snd.snd.snd.snd.snd.snd.fst, y424.X, y424.Y, y423.K.tmod (3 : Int) == (1 : Int), ())).bind
        fun y422 =>
        (idxO x.fst x.snd.fst).bind fun y421 =>
          bif y421.K.tmod (3 : Int) == (2 : Int) then
            (idxO x.fst x.snd.fst).bind fun y416 =>
              (j7_49
                    (x.fst, x.snd.fst,
                      (f29 x.snd.snd.snd.snd.snd.snd.snd.snd.snd.snd.fst x.snd.snd.snd.snd.snd.snd.snd.snd.snd.snd.snd.fst
                                  x.snd.snd.snd.snd.snd.snd.snd.snd.snd.snd.snd.snd.fst
                                  x.snd.snd.snd.snd.snd.snd.snd.snd.snd.snd.snd.snd.snd.fst
                                  x.snd.snd.snd.snd.snd.snd.snd.snd.snd.snd.snd.snd.snd.snd.fst y416.X y416.Y).snd.snd.snd.snd.snd,
                      x.snd.snd.fst, x.snd.snd.snd.fst, x.snd.snd.snd.snd.fst, x.snd.snd.snd.snd.snd.fst, x.snd.snd.snd.snd.snd.snd.fst,
                      x.snd.snd.snd.snd.snd.snd.snd.fst, x.snd.snd.snd.snd.snd.snd.snd.snd.fst, x.snd.snd.snd.snd.snd.snd.snd.snd.snd.fst,
                      x.snd.snd.snd.snd.snd.snd.snd.snd.snd.snd.fst, x.snd.snd.snd.snd.snd.snd.snd.snd.snd.snd.snd.fst,
                      x.snd.snd.snd.snd.snd.snd.snd.snd.snd.snd.snd.snd.fst, x.snd.snd.snd.snd.snd.snd.snd.snd.snd.snd.snd.snd.snd.fst,
                      x.snd.snd.snd.snd.snd.snd.snd.snd.snd.snd.snd.snd.snd.snd.fst,
                      (f29 x.snd.snd.snd.snd.snd.snd.snd.snd.snd.snd.fst x.snd.snd.snd.snd.snd.snd.snd.snd.snd.snd.snd.fst
                          x.snd.snd.snd.snd.snd.snd.snd.snd.snd.snd.snd.snd.fst x.snd.snd.snd.snd.snd.snd.snd.snd.snd.snd.snd.snd.snd.fst
                          x.snd.snd.snd.snd.snd.snd.snd.snd.snd.snd.snd.snd.snd.snd.fst y416.X y416.Y).fst,
                      (f29 x.snd.snd.snd.snd.snd.snd.snd.snd.snd.snd.fst x.snd.snd.snd.snd.snd.snd.snd.snd.snd.snd.snd.fst
                            x.snd.snd.snd.snd.snd.snd.snd.snd.snd.snd.snd.snd.fst x.snd.snd.snd.snd.snd.snd.snd.snd.snd.snd.snd.snd.snd.fst
                            x.snd.snd.snd.snd.snd.snd.snd.snd.snd.snd.snd.snd.snd.snd.fst y416.X y416.Y).snd.fst,
                      (f29 x.snd.snd.snd.snd.snd.snd.snd.snd.snd.snd.fst x.snd.snd.snd.snd.snd.snd.snd.snd.snd.snd.snd.fst
                              x.snd.snd.snd.snd.snd.snd.snd.snd.snd.snd.snd.snd.fst
                              x.snd.snd.snd.snd.snd.snd.snd.snd.snd.snd.snd.snd.snd.fst
                              x.snd.snd.snd.snd.snd.snd.snd.snd.snd.snd.snd.snd.snd.snd.fst y416.X y416.Y).snd.snd.fst,
                      (f29 x.snd.snd.snd.snd.snd.snd.snd.snd.snd.snd.fst x.snd.snd.snd.snd.snd.snd.snd.snd.snd.snd.snd.fst
                                x.snd.snd.snd.snd.snd.snd.snd.snd.snd.snd.snd.snd.fst
                                x.snd.snd.snd.snd.snd.snd.snd.snd.snd.snd.snd.snd.snd.fst
                                x.snd.snd.snd.snd.snd.snd.snd.snd.snd.snd.snd.snd.snd.snd.fst y416.X y416.Y).snd.snd.snd.fst,
                      (f29 x.snd.snd.snd.snd.snd.snd.snd.snd.snd.snd.fst x.snd.snd.snd.snd.snd.snd.snd.snd.snd.snd.snd.fst
                                  x.snd.snd.snd.snd.snd.snd.snd.snd.snd.snd.snd.snd.fst
                                  x.snd.snd.snd.snd.snd.snd.snd.snd.snd.snd.snd.snd.snd.fst
                                  x.snd.snd.snd.snd.snd.snd.snd.snd.snd.snd.snd.snd.snd.snd.fst y416.X y416.Y).snd.snd.snd.snd.fst,
                      x.snd.snd.snd.snd.snd.snd.snd.snd.snd.snd.snd.snd.snd.snd.snd.fst,
                      x.snd.snd.snd.snd.snd.snd.snd.snd.snd.snd.snd.snd.snd.snd.snd.snd.fst, ())).bind
                fun y415 =>
                Sum.elim (fun y412 => some (Sum.inr (Sum.inl (y412.fst, ()))))
                  (fun y414 =>
                    (j7_37
                          (y414.fst, y414.snd.fst, y414.snd.snd.fst, y414.snd.snd.snd.fst, y414.snd.snd.snd.snd.fst,
                            y414.snd.snd.snd.snd.snd.fst, y414.snd.snd.snd.snd.snd.snd.fst, y414.snd.snd.snd.snd.snd.snd.snd.fst,
                            y414.snd.snd.snd.snd.snd.snd.snd.snd.fst, y414.snd.snd.snd.snd.snd.snd.snd.snd.snd.fst,
                            y414.snd.snd.snd.snd.snd.snd.snd.snd.snd.snd.fst, y414.snd.snd.snd.snd.snd.snd.snd.snd.snd.snd.snd.fst,
                            y414.snd.snd.snd.snd.snd.snd.snd.snd.snd.snd.snd.snd.fst,
                            y414.snd.snd.snd.snd.snd.snd.snd.snd.snd.snd.snd.snd.snd.fst,
                            y414.snd.snd.snd.snd.snd.snd.snd.snd.snd.snd.snd.snd.snd.snd.fst,
                            y414.snd.snd.snd.snd.snd.snd.snd.snd.snd.snd.snd.snd.snd.snd.snd.fst,
                            y414.snd.snd.snd.snd.snd.snd.snd.snd.snd.snd.snd.snd.snd.snd.snd.snd.fst, ())).bind
                      fun y413 =>
                      some
                        (Sum.inl
                          (y413.fst, y413.snd.fst, y413.snd.snd.fst, y413.snd.snd.snd.fst, y413.snd.snd.snd.snd.fst,
                            y413.snd.snd.snd.snd.snd.fst, y413.snd.snd.snd.snd.snd.snd.fst, y413.snd.snd.snd.snd.snd.snd.snd.fst,
                            y413.snd.snd.snd.snd.snd.snd.snd.snd.fst, y413.snd.snd.snd.snd.snd.snd.snd.snd.snd.fst,
                            y413.snd.snd.snd.snd.snd.snd.snd.snd.snd.snd.fst, y413.snd.snd.snd.snd.snd.snd.snd.snd.snd.snd.snd.fst,
                            y413.snd.snd.snd.snd.snd.snd.snd.snd.snd.snd.snd.snd.fst,
                            y413.snd.snd.snd.snd.snd.snd.snd.snd.snd.snd.snd.snd.snd.fst,
                            y413.snd.snd.snd.snd.snd.snd.snd.snd.snd.snd.snd.snd.snd.snd.fst,
                            y413.snd.snd.snd.snd.snd.snd.snd.snd.snd.snd.snd.snd.snd.snd.snd.fst,
                            y413.snd.snd.snd.snd.snd.snd.snd.snd.snd.snd.snd.snd.snd.snd.snd.snd.fst, ())))
                  y415
          else
            (j7_49
                  (x.fst, x.snd.fst, y422.snd.snd.snd.snd.snd.fst, x.snd.snd.fst, x.snd.snd.snd.fst, x.snd.snd.snd.snd.fst,
                    x.snd.snd.snd.snd.snd.fst, x.snd.snd.snd.snd.snd.snd.fst, x.snd.snd.snd.snd.snd.snd.snd.fst,
                    x.snd.snd.snd.snd.snd.snd.snd.snd.fst, x.snd.snd.snd.snd.snd.snd.snd.snd.snd.fst,
                    x.snd.snd.snd.snd.snd.snd.snd.snd.snd.snd.fst, x.snd.snd.snd.snd.snd.snd.snd.snd.snd.snd.snd.fst,
                    x.snd.snd.snd.snd.snd.snd.snd.snd.snd.snd.snd.snd.fst, x.snd.snd.snd.snd.snd.snd.snd.snd.snd.snd.snd.snd.snd.fst,
                    x.snd.snd.snd.snd.snd.snd.snd.snd.snd.snd.snd.snd.snd.snd.fst, y422.fst, y422.snd.fst, y422.snd.snd.fst,
                    y422.snd.snd.snd.fst, y422.snd.snd.snd.snd.fst, x.snd.snd.snd.snd.snd.snd.snd.snd.snd.snd.snd.snd.snd.snd.snd.fst,
                    x.snd.snd.snd.snd.snd.snd.snd.snd.snd.snd.snd.snd.snd.snd.snd.snd.fst, ())).bind
              fun y420 =>
              Sum.elim (fun y417 => some (Sum.inr (Sum.inl (y417.fst, ()))))
                (fun y419 =>
                  (j7_37
                        (y419.fst, y419.snd.fst, y419.snd.snd.fst, y419.snd.snd.snd.fst, y419.snd.snd.snd.snd.fst,
                          y419.snd.snd.snd.snd.snd.fst, y419.snd.snd.snd.snd.snd.snd.fst, y419.snd.snd.snd.snd.snd.snd.snd.fst,
                          y419.snd.snd.snd.snd.snd.snd.snd.snd.fst, y419.snd.snd.snd.snd.snd.snd.snd.snd.snd.fst,
                          y419.snd.snd.snd.snd.snd.snd.snd.snd.snd.snd.fst, y419.snd.snd.snd.snd.snd.snd.snd.snd.snd.snd.snd.fst,
                          y419.snd.snd.snd.snd.snd.snd.snd.snd.snd.snd.snd.snd.fst,
                          y419.snd.snd.snd.snd.snd.snd.snd.snd.snd.snd.snd.snd.snd.fst,
                          y419.snd.snd.snd.snd.snd.snd.snd.snd.snd.snd.snd.snd.snd.snd.fst,
                          y419.snd.snd.snd.snd.snd.snd.snd.snd.snd.snd.snd.snd.snd.snd.snd.fst,
                          y419.snd.snd.snd.snd.snd.snd.snd.snd.snd.snd.snd.snd.snd.snd.snd.snd.fst, ())).bind
                    fun y418 =>
                    some
                      (Sum.inl
                        (y418.fst, y418.snd.fst, y418.snd.snd.fst, y418.snd.snd.snd.fst, y418.snd.snd.snd.snd.fst,
                          y418.snd.snd.snd.snd.snd.fst, y418.snd.snd.snd.snd.snd.snd.fst, y418.snd.snd.snd.snd.snd.snd.snd.fst,
                          y418.snd.snd.snd.snd.snd.snd.snd.snd.fst, y418.snd.snd.snd.snd.snd.snd.snd.snd.snd.fst,
                          y418.snd.snd.snd.snd.snd.snd.snd.snd.snd.snd.fst, y418.snd.snd.snd.snd.snd.snd.snd.snd.snd.snd.snd.fst,
                          y418.snd.snd.snd.snd.snd.snd.snd.snd.snd.snd.snd.snd.fst,
                          y418.snd.snd.snd.snd.snd.snd.snd.snd.snd.snd.snd.snd.snd.fst,
                          y418.snd.snd.snd.snd.snd.snd.snd.snd.snd.snd.snd.snd.snd.snd.fst,
                          y418.snd.snd.snd.snd.snd.snd.snd.snd.snd.snd.snd.snd.snd.snd.snd.fst,
                          y418.snd.snd.snd.snd.snd.snd.snd.snd.snd.snd.snd.snd.snd.snd.snd.snd.fst, ())))
                y420
else
  some
    (Sum.inr
      (Sum.inr
        (x.snd.snd.snd.snd.fst, x.snd.snd.snd.snd.snd.fst, x.snd.snd.snd.snd.snd.snd.fst, x.snd.snd.snd.snd.snd.snd.snd.fst,
          x.snd.snd.snd.snd.snd.snd.snd.snd.fst, x.snd.snd.snd.snd.snd.snd.snd.snd.snd.fst, x.snd.snd.snd.snd.snd.snd.snd.snd.snd.snd.fst,
          x.snd.snd.snd.snd.snd.snd.snd.snd.snd.snd.snd.fst, x.snd.snd.snd.snd.snd.snd.snd.snd.snd.snd.snd.snd.fst,
          x.snd.snd.snd.snd.snd.snd.snd.snd.snd.snd.snd.snd.snd.fst, x.snd.snd.snd.snd.snd.snd.snd.snd.snd.snd.snd.snd.snd.snd.fst,
          x.snd.snd.snd.snd.snd.snd.snd.snd.snd.snd.snd.snd.snd.snd.snd.fst,
          x.snd.snd.snd.snd.snd.snd.snd.snd.snd.snd.snd.snd.snd.snd.snd.snd.fst, ())))
theorem r7_0_run0 (v0 : List Ac) (v1 : Int) (v2 : Int) (v3 : Int) (v4 : Int) (v5 : Int) (v6 : Nat) (v7 : Int) (v8 : Int) (v9 : Nat) (v10 : Int) (v11 : Int) (v12 : List Int) (v13 : Int) (v14 : Int) (v15 : List Int) (v16 : List Int) : roundK tC G7 (look [(49, W7_49), (37, W7_37)]) c7_0 p7_0 (v0, v1, v2, v3, v4, v5, v6, v7, v8, v9, v10, v11, v12, v13, v14, v15, v16, ()) = r7_0 (v0, v1, v2, v3, v4, v5, v6, v7, v8, v9, v10, v11, v12, v13, v14, v15, v16, ()) := by kernel_rfl
theorem r7_0_run (x : List Ac × Int × Int × Int × Int × Int × Nat × Int × Int × Nat × Int × Int × List Int × Int × Int × List Int × List Int × Unit) : roundK tC G7 (look [(49, W7_49), (37, W7_37)]) c7_0 p7_0 x = r7_0 x := r7_0_run0 x.1 x.2.1 x.2.2.1 x.2.2.2.1 x.2.2.2.2.1 x.2.2.2.2.2.1 x.2.2.2.2.2.2.1 x.2.2.2.2.2.2.2.1 x.2.2.2.2.2.2.2.2.1 x.2.2.2.2.2.2.2.2.2.1 x.2.2.2.2.2.2.2.2.2.2.1 x.2.2.2.2.2.2.2.2.2.2.2.1 x.2.2.2.2.2.2.2.2.2.2.2.2.1 x.2.2.2.2.2.2.2.2.2.2.2.2.2.1 x.2.2.2.2.2.2.2.2.2.2.2.2.2.2.1 x.2.2.2.2.2.2.2.2.2.2.2.2.2.2.2.1 x.2.2.2.2.2.2.2.2.2.2.2.2.2.2.2.2.1
noncomputable def l7_0 (x : List Ac × Int × Int × Int × Int × Int × Nat × Int × Int × Nat × Int × Int × List Int × Int × Int × List Int × List Int × Unit) : Option (Bool × Unit ⊕ Int × Int × Nat × Int × Int × Nat × Int × Int × List Int × Int × Int × List Int × List Int × Unit) := iterO r7_0 x
noncomputable def W7_0 : LF tC := loopW tC p7_0 0 l7_0
theorem W7_0_ok : keyed 0 (bodyOf Try.f7) = [.block 0 (.loop c7_0)] ∧ ∀ n, n ≤ 0 → Snd tC n (.block 0 (.loop c7_0)) W7_0.k := ⟨by kernel_rfl, fun n hn => loopW_ok (p := p7_0) (id := 0) Y7 (lam_le (lam_cons W7_49_ok (lam_cons W7_37_ok lam_nil)) n hn) hn r7_0_run⟩
def S7 : FS := ⟨[[.v, .v, .s 5], [.v, .v], [.s 47]], [⟨[.one (.agg [.int .i64, .int .i64, .imm 5]), .one (.agg [.int .i64, .int .i64]), .one (.one (.imm 47))], []⟩], [⟨[vO], []⟩], [[.v]], []⟩
noncomputable def f7 (x : Int × Int × List Int × Int × Int × List Ac × Unit) : Option (Bool × Unit) :=
  (f9 ()).bind fun y478 =>
  bif !y478.fst then (f9 ()).bind fun y446 => some (y446.fst, ())
  else
    bif !f20 x.fst x.snd.fst x.snd.snd.fst x.snd.snd.snd.snd.snd.fst then (f9 ()).bind fun y447 => some (y447.fst, ())
    else
      (f10 (x.fst, x.snd.fst, x.snd.snd.fst, x.snd.snd.snd.fst, x.snd.snd.snd.snd.fst, ())).bind fun y477 =>
        Sum.elim
          (fun _x =>
            (f26 (x.fst, x.snd.fst, x.snd.snd.fst, x.snd.snd.snd.fst, x.snd.snd.snd.snd.fst, ())).bind fun y454 =>
              Sum.elim
                (fun _x =>
                  (f915 (Sum.inr (x.snd.snd.snd.fst, x.snd.snd.snd.snd.fst, ()))).bind fun y449 =>
                    (j7_28 (y449.snd.snd.fst, x.snd.snd.snd.fst, x.snd.snd.snd.snd.fst, ())).bind fun y448 => some (y448.fst, ()))
                (fun y453 => Sum.elim (fun _x => some (false, ())) (fun _x => some (false, ())) y453) y454)
          (fun y476 =>
            Sum.elim
              (fun _x =>
                (f26 (x.fst, x.snd.fst, x.snd.snd.fst, x.snd.snd.snd.fst, x.snd.snd.snd.snd.fst, ())).bind fun y462 =>
                  Sum.elim (fun _x => some (false, ()))
                    (fun y461 =>
                      Sum.elim
                        (fun _x =>
                          (f915 (Sum.inr (x.snd.snd.snd.fst, x.snd.snd.snd.snd.fst, ()))).bind fun y458 =>
                            (j7_28 (y458.snd.snd.fst, x.snd.snd.snd.fst, x.snd.snd.snd.snd.fst, ())).bind fun y457 => some (y457.fst, ()))
                        (fun _x => some (false, ())) y461)
                    y462)
              (fun y475 =>
                (f26 (x.fst, x.snd.fst, x.snd.snd.fst, x.snd.snd.snd.fst, x.snd.snd.snd.snd.fst, ())).bind fun y474 =>
                  Sum.elim (fun _x => some (false, ()))
                    (fun y473 =>
                      Sum.elim (fun _x => some (false, ()))
                        (fun y472 =>
                          (l7_0
                                (x.snd.snd.snd.snd.snd.fst, (0 : Int), x.snd.snd.snd.fst, x.snd.snd.snd.snd.fst, y475.fst, y475.snd.fst,
                                  y475.snd.snd.fst, y475.snd.snd.snd.fst, y475.snd.snd.snd.snd.fst, y475.snd.snd.snd.snd.snd.fst, y472.fst,
                                  y472.snd.fst, y472.snd.snd.fst, y472.snd.snd.snd.fst, y472.snd.snd.snd.snd.fst,
                                  y475.snd.snd.snd.snd.snd.snd.fst, y475.snd.snd.snd.snd.snd.snd.snd.fst, ())).bind
                            fun y471 =>
                            Sum.elim (fun y466 => some (y466.fst, ()))
                              (fun y470 =>
                                bif decide ((0 : Nat) + y470.snd.snd.fst ≤ y470.snd.snd.snd.snd.snd.snd.snd.snd.snd.snd.snd.fst.length) then
                                  bif
                                      decide
                                        ((0 : Nat) + y470.snd.snd.snd.snd.snd.fst ≤
                                          y470.snd.snd.snd.snd.snd.snd.snd.snd.snd.snd.snd.snd.fst.length) then
                                    (f919
                                          (Sum.inl
                                            (y470.fst, y470.snd.fst,
                                              List.take y470.snd.snd.fst
                                                (List.drop (0 : Nat) y470.snd.snd.snd.snd.snd.snd.snd.snd.snd.snd.snd.fst),
                                              y470.snd.snd.snd.fst, y470.snd.snd.snd.snd.fst,
                                              List.take y470.snd.snd.snd.snd.snd.fst
                                                (List.drop (0 : Nat) y470.snd.snd.snd.snd.snd.snd.snd.snd.snd.snd.snd.snd.fst),
                                              ()))).bind
                                      fun y469 =>
                                      Sum.elim
                                        (fun y467 =>
                                          bif decide ((0 : Nat) + y467.snd.snd.fst ≤ y467.snd.snd.snd.fst.length) then
                                            some
                                              (f18 y467.fst y467.snd.fst
                                                  (List.take y467.snd.snd.fst (List.drop (0 : Nat) y467.snd.snd.snd.fst))
                                                  y470.snd.snd.snd.snd.snd.snd.fst y470.snd.snd.snd.snd.snd.snd.snd.fst
                                                  y470.snd.snd.snd.snd.snd.snd.snd.snd.fst,
                                                ())
                                          else none)
                                        (fun y468 =>
                                          some
                                            (f18 y468.fst y468.snd.fst [] y470.snd.snd.snd.snd.snd.snd.fst
                                                y470.snd.snd.snd.snd.snd.snd.snd.fst y470.snd.snd.snd.snd.snd.snd.snd.snd.fst,
                                              ()))
                                        y469
                                  else none
                                else none)
                              y471)
                        y473)
                    y474)
              y476)
          y477
noncomputable def F7 : CF tC := mkF tC S7 f7
theorem f7_run : ∀ a, fnS tC G7 (look [(28, W7_28), (0, W7_0)]) Try.f7 S7 a = f7 a := fun a => by kernel_rfl
theorem F7_ok : CFOK tC 7 F7 := mkF_ok Y7 (fn := Try.f7) (body := bodyOf Try.f7) (by kernel_rfl) (by kernel_rfl) (by kernel_rfl) (m := 0) rfl (lam_le (lam_cons W7_28_ok (lam_cons W7_0_ok lam_nil))) f7_run
end Go.AE
