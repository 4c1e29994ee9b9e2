/-
  The plain functions that the seat's Go functions compute, each with the proof that the function keeps it. Printed by the generator (Gen2) and checked by the kernel.
-/
import Derived.Test.YthelgkjfdjnmeaaDoorFe
namespace Go.AE
open Go.Proofs Go.RowKit
set_option maxRecDepth 100000

/-! FloorMazes -/
noncomputable def G10 : FuncId → Option (CF tC) := look [(12, F12), (31, F31), (32, F32), (23, F23), (16, F16), (19, F19)]
theorem Y10 : SysN tC G10 := (sys_cons F12_ok (mkF_nat _ _) (sys_cons F31_ok (mkF_nat _ _) (sys_cons F32_ok (mkF_nat _ _) (sys_cons F23_ok (mkF_nat _ _) (sys_cons F16_ok (mkF_nat _ _) (sys_cons F19_ok (mkF_nat _ _) (sys_nil tC_ok tC_eq)))))))
noncomputable def c10_43 : Code := subCode (loopOf (loopOf (bodyOf Tryd.f10) 0) 2) 43
def p10_43 : PS := ⟨0, [0, 1, 2, 7, 9, 10, 11, 12], ⟨[vI, vI, vI] ++ vBs 4 ++ [.one (.one (.ptr 0 0 0)), vB, vI, vI, vI, vI] ++ vBs 188, [.box [.int .i64, .int .i64, .imm 5]]⟩, [⟨.normal, [0, 1, 2, 7, 9, 10, 11, 12], ⟨[vI, vI, vI] ++ vBs 4 ++ [.one (.one (.ptr 0 0 0)), vB, vI, vI, vI, vI] ++ vBs 188, [.box [.int .i64, .int .i64, .imm 5]]⟩, []⟩], []⟩
noncomputable def j10_43 (x : Int × Int × Int × Int × Int × Int × Int × Int × Int × List Int × Unit) : Option (Int × Int × Int × Int × Int × Int × Int × Int × Int × List Int × Unit) :=
  some
  (x.fst, x.snd.fst, x.snd.snd.fst, x.snd.snd.snd.fst, x.snd.snd.snd.snd.fst, x.snd.snd.snd.snd.snd.fst,
    IntKind.i64.wrap (x.snd.snd.snd.snd.snd.snd.fst + (1 : Int)), x.snd.snd.snd.snd.snd.snd.snd.fst, x.snd.snd.snd.snd.snd.snd.snd.snd.fst,
    x.snd.snd.snd.snd.snd.snd.snd.snd.snd.fst, ())
theorem j10_43_run0 (v0 : Int) (v1 : Int) (v2 : Int) (v3 : Int) (v4 : Int) (v5 : Int) (v6 : Int) (v7 : Int) (v8 : Int) (v9 : List Int) : pieceK tC G10 (look []) c10_43 p10_43 (v0, v1, v2, v3, v4, v5, v6, v7, v8, v9, ()) = j10_43 (v0, v1, v2, v3, v4, v5, v6, v7, v8, v9, ()) := by kernel_rfl
theorem j10_43_run (x : Int × Int × Int × Int × Int × Int × Int × Int × Int × List Int × Unit) : pieceK tC G10 (look []) c10_43 p10_43 x = j10_43 x := j10_43_run0 x.1 x.2.1 x.2.2.1 x.2.2.2.1 x.2.2.2.2.1 x.2.2.2.2.2.1 x.2.2.2.2.2.2.1 x.2.2.2.2.2.2.2.1 x.2.2.2.2.2.2.2.2.1 x.2.2.2.2.2.2.2.2.2.1
noncomputable def W10_43 : LF tC := cutLF tC p10_43 j10_43
theorem W10_43_ok : keyed 43 (loopOf (loopOf (bodyOf Tryd.f10) 0) 2) = [c10_43] ∧ ∀ n, n ≤ 0 → Snd tC n c10_43 W10_43.k := ⟨by kernel_rfl, fun n hn => cut_ok (p := p10_43) Y10 (lam_le lam_nil n hn) hn j10_43_run⟩
noncomputable def c10_6 : Code := loopOf (loopOf (bodyOf Tryd.f10) 0) 2
def p10_6 : LS := ⟨0, [0, 1, 2, 7, 9, 10, 11, 12], ⟨[vI, vI, vI] ++ vBs 4 ++ [.one (.one (.ptr 0 0 0)), vB, vI, vI, vI, vI] ++ vBs 188, [.box [.int .i64, .int .i64, .imm 5]]⟩, [⟨.ret, [6], ⟨vBs 6 ++ [vO] ++ vBs 194, []⟩, []⟩, ⟨.exit 2, [0, 1, 2, 7, 9, 10, 11], ⟨[vI, vI, vI] ++ vBs 4 ++ [.one (.one (.ptr 0 0 0)), vB, vI, vI, vI] ++ vBs 189, [.box [.int .i64, .int .i64, .imm 5]]⟩, []⟩], []⟩
noncomputable def r10_6 (x : Int × Int × Int × Int × Int × Int × Int × Int × Int × List Int × Unit) : Option
  (Int × Int × Int × Int × Int × Int × Int × Int × Int × List Int × Unit ⊕
    Bool × Unit ⊕ Int × Int × Int × Int × Int × Int × Int × Int × List Int × Unit) :=
  bif decide (x.snd.snd.snd.snd.snd.snd.fst < x.fst) then
  (idxO x.snd.snd.snd.snd.snd.snd.snd.snd.snd.fst
        (IntKind.i64.wrap (IntKind.i64.wrap (x.snd.snd.snd.snd.snd.fst * x.fst) + x.snd.snd.snd.snd.snd.snd.fst))).bind
    fun y182 =>
    bif x.snd.snd.snd.snd.snd.snd.fst.tmod (2 : Int) == (1 : Int) then
      bif x.snd.snd.snd.snd.snd.fst.tmod (2 : Int) == (1 : Int) then
        bif !y182 == (1 : Int) then some (Sum.inr (Sum.inl (false, ())))
        else
          (j10_43
                (x.fst, x.snd.fst, x.snd.snd.fst, IntKind.i64.wrap (x.snd.snd.snd.fst + (1 : Int)), x.snd.snd.snd.snd.fst,
                  x.snd.snd.snd.snd.snd.fst, x.snd.snd.snd.snd.snd.snd.fst, x.snd.snd.snd.snd.snd.snd.snd.fst,
                  x.snd.snd.snd.snd.snd.snd.snd.snd.fst, x.snd.snd.snd.snd.snd.snd.snd.snd.snd.fst, ())).bind
            fun y171 =>
            some
              (Sum.inl
                (y171.fst, y171.snd.fst, y171.snd.snd.fst, y171.snd.snd.snd.fst, y171.snd.snd.snd.snd.fst, y171.snd.snd.snd.snd.snd.fst,
                  y171.snd.snd.snd.snd.snd.snd.fst, y171.snd.snd.snd.snd.snd.snd.snd.fst, y171.snd.snd.snd.snd.snd.snd.snd.snd.fst,
                  y171.snd.snd.snd.snd.snd.snd.snd.snd.snd.fst, ()))
      else
        bif x.snd.snd.snd.snd.snd.snd.fst.tmod (2 : Int) == (0 : Int) then
          bif x.snd.snd.snd.snd.snd.fst.tmod (2 : Int) == (0 : Int) then
            bif y182 == (1 : Int) then some (Sum.inr (Sum.inl (false, ())))
            else
              (j10_43
                    (x.fst, x.snd.fst, x.snd.snd.fst, x.snd.snd.snd.fst, x.snd.snd.snd.snd.fst, x.snd.snd.snd.snd.snd.fst,
                      x.snd.snd.snd.snd.snd.snd.fst, x.snd.snd.snd.snd.snd.snd.snd.fst, x.snd.snd.snd.snd.snd.snd.snd.snd.fst,
                      x.snd.snd.snd.snd.snd.snd.snd.snd.snd.fst, ())).bind
                fun y172 =>
                some
                  (Sum.inl
                    (y172.fst, y172.snd.fst, y172.snd.snd.fst, y172.snd.snd.snd.fst, y172.snd.snd.snd.snd.fst, y172.snd.snd.snd.snd.snd.fst,
                      y172.snd.snd.snd.snd.snd.snd.fst, y172.snd.snd.snd.snd.snd.snd.snd.fst, y172.snd.snd.snd.snd.snd.snd.snd.snd.fst,
                      y172.snd.snd.snd.snd.snd.snd.snd.snd.snd.fst, ()))
          else
            bif y182 == (1 : Int) then
              (j10_43
                    (x.fst, x.snd.fst, x.snd.snd.fst, x.snd.snd.snd.fst, IntKind.i64.wrap (x.snd.snd.snd.snd.fst + (1 : Int)),
                      x.snd.snd.snd.snd.snd.fst, x.snd.snd.snd.snd.snd.snd.fst, x.snd.snd.snd.snd.snd.snd.snd.fst,
                      x.snd.snd.snd.snd.snd.snd.snd.snd.fst, x.snd.snd.snd.snd.snd.snd.snd.snd.snd.fst, ())).bind
                fun y173 =>
                some
                  (Sum.inl
                    (y173.fst, y173.snd.fst, y173.snd.snd.fst, y173.snd.snd.snd.fst, y173.snd.snd.snd.snd.fst, y173.snd.snd.snd.snd.snd.fst,
                      y173.snd.snd.snd.snd.snd.snd.fst, y173.snd.snd.snd.snd.snd.snd.snd.fst, y173.snd.snd.snd.snd.snd.snd.snd.snd.fst,
                      y173.snd.snd.snd.snd.snd.snd.snd.snd.snd.fst, ()))
            else
              (j10_43
                    (x.fst, x.snd.fst, x.snd.snd.fst, x.snd.snd.snd.fst, x.snd.snd.snd.snd.fst, x.snd.snd.snd.snd.snd.fst,
                      x.snd.snd.snd.snd.snd.snd.fst, x.snd.snd.snd.snd.snd.snd.snd.fst, x.snd.snd.snd.snd.snd.snd.snd.snd.fst,
                      x.snd.snd.snd.snd.snd.snd.snd.snd.snd.fst, ())).bind
                fun y174 =>
                some
                  (Sum.inl
                    (y174.fst, y174.snd.fst, y174.snd.snd.fst, y174.snd.snd.snd.fst, y174.snd.snd.snd.snd.fst, y174.snd.snd.snd.snd.snd.fst,
                      y174.snd.snd.snd.snd.snd.snd.fst, y174.snd.snd.snd.snd.snd.snd.snd.fst, y174.snd.snd.snd.snd.snd.snd.snd.snd.fst,
                      y174.snd.snd.snd.snd.snd.snd.snd.snd.snd.fst, ()))
        else
          bif y182 == (1 : Int) then
            (j10_43
                  (x.fst, x.snd.fst, x.snd.snd.fst, x.snd.snd.snd.fst, IntKind.i64.wrap (x.snd.snd.snd.snd.fst + (1 : Int)),
                    x.snd.snd.snd.snd.snd.fst, x.snd.snd.snd.snd.snd.snd.fst, x.snd.snd.snd.snd.snd.snd.snd.fst,
                    x.snd.snd.snd.snd.snd.snd.snd.snd.fst, x.snd.snd.snd.snd.snd.snd.snd.snd.snd.fst, ())).bind
              fun y175 =>
              some
                (Sum.inl
                  (y175.fst, y175.snd.fst, y175.snd.snd.fst, y175.snd.snd.snd.fst, y175.snd.snd.snd.snd.fst, y175.snd.snd.snd.snd.snd.fst,
                    y175.snd.snd.snd.snd.snd.snd.fst, y175.snd.snd.snd.snd.snd.snd.snd.fst, y175.snd.snd.snd.snd.snd.snd.snd.snd.fst,
                    y175.snd.snd.snd.snd.snd.snd.snd.snd.snd.fst, ()))
          else
            (j10_43
                  (x.fst, x.snd.fst, x.snd.snd.fst, x.snd.snd.snd.fst, x.snd.snd.snd.snd.fst, x.snd.snd.snd.snd.snd.fst,
                    x.snd.snd.snd.snd.snd.snd.fst, x.snd.snd.snd.snd.snd.snd.snd.fst, x.snd.snd.snd.snd.snd.snd.snd.snd.fst,
                    x.snd.snd.snd.snd.snd.snd.snd.snd.snd.fst, ())).bind
              fun y176 =>
              some
                (Sum.inl
                  (y176.fst, y176.snd.fst, y176.snd.snd.fst, y176.snd.snd.snd.fst, y176.snd.snd.snd.snd.fst, y176.snd.snd.snd.snd.snd.fst,
                    y176.snd.snd.snd.snd.snd.snd.fst, y176.snd.snd.snd.snd.snd.snd.snd.fst, y176.snd.snd.snd.snd.snd.snd.snd.snd.fst,
                    y176.snd.snd.snd.snd.snd.snd.snd.snd.snd.fst, ()))
    else
      bif x.snd.snd.snd.snd.snd.snd.fst.tmod (2 : Int) == (0 : Int) then
        bif x.snd.snd.snd.snd.snd.fst.tmod (2 : Int) == (0 : Int) then
          bif y182 == (1 : Int) then some (Sum.inr (Sum.inl (false, ())))
          else
            (j10_43
                  (x.fst, x.snd.fst, x.snd.snd.fst, x.snd.snd.snd.fst, x.snd.snd.snd.snd.fst, x.snd.snd.snd.snd.snd.fst,
                    x.snd.snd.snd.snd.snd.snd.fst, x.snd.snd.snd.snd.snd.snd.snd.fst, x.snd.snd.snd.snd.snd.snd.snd.snd.fst,
                    x.snd.snd.snd.snd.snd.snd.snd.snd.snd.fst, ())).bind
              fun y177 =>
              some
                (Sum.inl
                  (y177.fst, y177.snd.fst, y177.snd.snd.fst, y177.snd.snd.snd.fst, y177.snd.snd.snd.snd.fst, y177.snd.snd.snd.snd.snd.fst,
                    y177.snd.snd.snd.snd.snd.snd.fst, y177.snd.snd.snd.snd.snd.snd.snd.fst, y177.snd.snd.snd.snd.snd.snd.snd.snd.fst,
                    y177.snd.snd.snd.snd.snd.snd.snd.snd.snd.fst, ()))
        else
          bif y182 == (1 : Int) then
            (j10_43
                  (x.fst, x.snd.fst, x.snd.snd.fst, x.snd.snd.snd.fst, IntKind.i64.wrap (x.snd.snd.snd.snd.fst + (1 : Int)),
                    x.snd.snd.snd.snd.snd.fst, x.snd.snd.snd.snd.snd.snd.fst, x.snd.snd.snd.snd.snd.snd.snd.fst,
                    x.snd.snd.snd.snd.snd.snd.snd.snd.fst, x.snd.snd.snd.snd.snd.snd.snd.snd.snd.fst, ())).bind
              fun y178 =>
              some
                (Sum.inl
                  (y178.fst, y178.snd.fst, y178.snd.snd.fst, y178.snd.snd.snd.fst, y178.snd.snd.snd.snd.fst, y178.snd.snd.snd.snd.snd.fst,
                    y178.snd.snd.snd.snd.snd.snd.fst, y178.snd.snd.snd.snd.snd.snd.snd.fst, y178.snd.snd.snd.snd.snd.snd.snd.snd.fst,
                    y178.snd.snd.snd.snd.snd.snd.snd.snd.snd.fst, ()))
          else
            (j10_43
                  (x.fst, x.snd.fst, x.snd.snd.fst, x.snd.snd.snd.fst, x.snd.snd.snd.snd.fst, x.snd.snd.snd.snd.snd.fst,
                    x.snd.snd.snd.snd.snd.snd.fst, x.snd.snd.snd.snd.snd.snd.snd.fst, x.snd.snd.snd.snd.snd.snd.snd.snd.fst,
                    x.snd.snd.snd.snd.snd.snd.snd.snd.snd.fst, ())).bind
              fun y179 =>
              some
                (Sum.inl
                  (y179.fst, y179.snd.fst, y179.snd.snd.fst, y179.snd.snd.snd.fst, y179.snd.snd.snd.snd.fst, y179.snd.snd.snd.snd.snd.fst,
                    y179.snd.snd.snd.snd.snd.snd.fst, y179.snd.snd.snd.snd.snd.snd.snd.fst, y179.snd.snd.snd.snd.snd.snd.snd.snd.fst,
                    y179.snd.snd.snd.snd.snd.snd.snd.snd.snd.fst, ()))
      else
        bif y182 == (1 : Int) then
          (j10_43
                (x.fst, x.snd.fst, x.snd.snd.fst, x.snd.snd.snd.fst, IntKind.i64.wrap (x.snd.snd.snd.snd.fst + (1 : Int)),
                  x.snd.snd.snd.snd.snd.fst, x.snd.snd.snd.snd.snd.snd.fst, x.snd.snd.snd.snd.snd.snd.snd.fst,
                  x.snd.snd.snd.snd.snd.snd.snd.snd.fst, x.snd.snd.snd.snd.snd.snd.snd.snd.snd.fst, ())).bind
            fun y180 =>
            some
              (Sum.inl
                (y180.fst, y180.snd.fst, y180.snd.snd.fst, y180.snd.snd.snd.fst, y180.snd.snd.snd.snd.fst, y180.snd.snd.snd.snd.snd.fst,
                  y180.snd.snd.snd.snd.snd.snd.fst, y180.snd.snd.snd.snd.snd.snd.snd.fst, y180.snd.snd.snd.snd.snd.snd.snd.snd.fst,
                  y180.snd.snd.snd.snd.snd.snd.snd.snd.snd.fst, ()))
        else
          (j10_43
                (x.fst, x.snd.fst, x.snd.snd.fst, x.snd.snd.snd.fst, x.snd.snd.snd.snd.fst, x.snd.snd.snd.snd.snd.fst,
                  x.snd.snd.snd.snd.snd.snd.fst, x.snd.snd.snd.snd.snd.snd.snd.fst, x.snd.snd.snd.snd.snd.snd.snd.snd.fst,
                  x.snd.snd.snd.snd.snd.snd.snd.snd.snd.fst, ())).bind
            fun y181 =>
            some
              (Sum.inl
                (y181.fst, y181.snd.fst, y181.snd.snd.fst, y181.snd.snd.snd.fst, y181.snd.snd.snd.snd.fst, y181.snd.snd.snd.snd.snd.fst,
                  y181.snd.snd.snd.snd.snd.snd.fst, y181.snd.snd.snd.snd.snd.snd.snd.fst, y181.snd.snd.snd.snd.snd.snd.snd.snd.fst,
                  y181.snd.snd.snd.snd.snd.snd.snd.snd.snd.fst, ()))
else
  some
    (Sum.inr
      (Sum.inr
        (x.fst, x.snd.fst, x.snd.snd.fst, x.snd.snd.snd.fst, x.snd.snd.snd.snd.fst, x.snd.snd.snd.snd.snd.fst,
          x.snd.snd.snd.snd.snd.snd.snd.fst, x.snd.snd.snd.snd.snd.snd.snd.snd.fst, x.snd.snd.snd.snd.snd.snd.snd.snd.snd.fst, ())))
theorem r10_6_run0 (v0 : Int) (v1 : Int) (v2 : Int) (v3 : Int) (v4 : Int) (v5 : Int) (v6 : Int) (v7 : Int) (v8 : Int) (v9 : List Int) : roundK tC G10 (look [(43, W10_43)]) c10_6 p10_6 (v0, v1, v2, v3, v4, v5, v6, v7, v8, v9, ()) = r10_6 (v0, v1, v2, v3, v4, v5, v6, v7, v8, v9, ()) := by kernel_rfl
theorem r10_6_run (x : Int × Int × Int × Int × Int × Int × Int × Int × Int × List Int × Unit) : roundK tC G10 (look [(43, W10_43)]) c10_6 p10_6 x = r10_6 x := r10_6_run0 x.1 x.2.1 x.2.2.1 x.2.2.2.1 x.2.2.2.2.1 x.2.2.2.2.2.1 x.2.2.2.2.2.2.1 x.2.2.2.2.2.2.2.1 x.2.2.2.2.2.2.2.2.1 x.2.2.2.2.2.2.2.2.2.1
noncomputable def l10_6 (x : Int × Int × Int × Int × Int × Int × Int × Int × Int × List Int × Unit) : Option (Bool × Unit ⊕ Int × Int × Int × Int × Int × Int × Int × Int × List Int × Unit) := iterO r10_6 x
noncomputable def W10_6 : LF tC := loopW tC p10_6 2 l10_6
theorem W10_6_ok : keyed 6 (loopOf (bodyOf Tryd.f10) 0) = [.block 2 (.loop c10_6)] ∧ ∀ n, n ≤ 0 → Snd tC n (.block 2 (.loop c10_6)) W10_6.k := ⟨by kernel_rfl, fun n hn => loopW_ok (p := p10_6) (id := 2) Y10 (lam_le (lam_cons W10_43_ok lam_nil) n hn) hn r10_6_run⟩
noncomputable def c10_0 : Code := loopOf (bodyOf Tryd.f10) 0
def p10_0 : LS := ⟨0, [0, 1, 2, 7, 9, 10, 11], ⟨[vI, vI, vI] ++ vBs 4 ++ [.one (.one (.ptr 0 0 0)), vB, vI, vI, vI] ++ vBs 189, [.box [.int .i64, .int .i64, .imm 5]]⟩, [⟨.ret, [6], ⟨vBs 6 ++ [vO] ++ vBs 194, []⟩, []⟩, ⟨.exit 0, [0, 1, 2, 7, 9, 10], ⟨[vI, vI, vI] ++ vBs 4 ++ [.one (.one (.ptr 0 0 0)), vB, vI, vI] ++ vBs 190, [.box [.int .i64, .int .i64, .imm 5]]⟩, []⟩], []⟩
noncomputable def r10_0 (x : Int × Int × Int × Int × Int × Int × Int × Int × List Int × Unit) : Option
  (Int × Int × Int × Int × Int × Int × Int × Int × List Int × Unit ⊕
    Bool × Unit ⊕ Int × Int × Int × Int × Int × Int × Int × List Int × Unit) :=
  bif decide (x.snd.snd.snd.snd.snd.fst < x.snd.fst) then
  (l10_6
        (x.fst, x.snd.fst, x.snd.snd.fst, x.snd.snd.snd.fst, x.snd.snd.snd.snd.fst, x.snd.snd.snd.snd.snd.fst, (0 : Int),
          x.snd.snd.snd.snd.snd.snd.fst, x.snd.snd.snd.snd.snd.snd.snd.fst, x.snd.snd.snd.snd.snd.snd.snd.snd.fst, ())).bind
    fun y204 =>
    Sum.elim (fun y202 => some (Sum.inr (Sum.inl (y202.fst, ()))))
      (fun y203 =>
        some
          (Sum.inl
            (y203.fst, y203.snd.fst, y203.snd.snd.fst, y203.snd.snd.snd.fst, y203.snd.snd.snd.snd.fst,
              IntKind.i64.wrap (y203.snd.snd.snd.snd.snd.fst + (1 : Int)), y203.snd.snd.snd.snd.snd.snd.fst,
              y203.snd.snd.snd.snd.snd.snd.snd.fst, y203.snd.snd.snd.snd.snd.snd.snd.snd.fst, ())))
      y204
else
  some
    (Sum.inr
      (Sum.inr
        (x.fst, x.snd.fst, x.snd.snd.fst, x.snd.snd.snd.fst, x.snd.snd.snd.snd.fst, x.snd.snd.snd.snd.snd.snd.fst,
          x.snd.snd.snd.snd.snd.snd.snd.fst, x.snd.snd.snd.snd.snd.snd.snd.snd.fst, ())))
theorem r10_0_run0 (v0 : Int) (v1 : Int) (v2 : Int) (v3 : Int) (v4 : Int) (v5 : Int) (v6 : Int) (v7 : Int) (v8 : List Int) : roundK tC G10 (look [(6, W10_6)]) c10_0 p10_0 (v0, v1, v2, v3, v4, v5, v6, v7, v8, ()) = r10_0 (v0, v1, v2, v3, v4, v5, v6, v7, v8, ()) := by kernel_rfl
theorem r10_0_run (x : Int × Int × Int × Int × Int × Int × Int × Int × List Int × Unit) : roundK tC G10 (look [(6, W10_6)]) c10_0 p10_0 x = r10_0 x := r10_0_run0 x.1 x.2.1 x.2.2.1 x.2.2.2.1 x.2.2.2.2.1 x.2.2.2.2.2.1 x.2.2.2.2.2.2.1 x.2.2.2.2.2.2.2.1 x.2.2.2.2.2.2.2.2.1
noncomputable def l10_0 (x : Int × Int × Int × Int × Int × Int × Int × Int × List Int × Unit) : Option (Bool × Unit ⊕ Int × Int × Int × Int × Int × Int × Int × List Int × Unit) := iterO r10_0 x
noncomputable def W10_0 : LF tC := loopW tC p10_0 0 l10_0
theorem W10_0_ok : keyed 0 (bodyOf Tryd.f10) = [.block 0 (.loop c10_0)] ∧ ∀ n, n ≤ 0 → Snd tC n (.block 0 (.loop c10_0)) W10_0.k := ⟨by kernel_rfl, fun n hn => loopW_ok (p := p10_0) (id := 0) Y10 (lam_le (lam_cons W10_6_ok lam_nil) n hn) hn r10_0_run⟩
noncomputable def c10_15 : Code := loopOf (bodyOf Tryd.f10) 5
def p10_15 : LS := ⟨0, [0, 1, 2, 7, 9, 10, 14, 16], ⟨[vI, vI, vI] ++ vBs 4 ++ [.one (.one (.ptr 0 0 0)), vB, vI, vI, vB, vB, vB, .one (.one (.sl 1)), vB, vI] ++ vBs 184, [.box [.int .i64, .int .i64, .imm 5], .arr 3]⟩, [⟨.ret, [6], ⟨vBs 6 ++ [vO] ++ vBs 194, []⟩, []⟩, ⟨.exit 5, [0, 1, 2, 7, 9, 10], ⟨[vI, vI, vI] ++ vBs 4 ++ [.one (.one (.ptr 0 0 0)), vB, vI, vI] ++ vBs 190, [.box [.int .i64, .int .i64, .imm 5]]⟩, []⟩], []⟩
noncomputable def r10_15 (x : Int × Int × Int × Int × Int × Nat × Int × Int × Int × List Int × List Int × Unit) : Option
  (Int × Int × Int × Int × Int × Nat × Int × Int × Int × List Int × List Int × Unit ⊕
    Bool × Unit ⊕ Int × Int × Int × Int × Int × Int × Int × List Int × Unit) :=
  bif decide (x.snd.snd.snd.snd.snd.snd.fst < (↑x.snd.snd.snd.snd.snd.fst : Int)) then
  bif decide ((0 : Int) ≤ x.snd.snd.snd.snd.snd.snd.fst) && decide (x.snd.snd.snd.snd.snd.snd.fst < (↑x.snd.snd.snd.snd.snd.fst : Int)) then
    x.snd.snd.snd.snd.snd.snd.snd.snd.snd.snd.fst[(0 : Nat) + x.snd.snd.snd.snd.snd.snd.fst.toNat]?.bind fun y242 =>
      bif decide (y242 > (0 : Int)) then some (Sum.inr (Sum.inl (false, ())))
      else
        bif
            decide ((0 : Int) ≤ x.snd.snd.snd.snd.snd.snd.fst) &&
              decide (x.snd.snd.snd.snd.snd.snd.fst < (↑x.snd.snd.snd.snd.snd.fst : Int)) then
          x.snd.snd.snd.snd.snd.snd.snd.snd.snd.snd.fst[(0 : Nat) + x.snd.snd.snd.snd.snd.snd.fst.toNat]?.bind fun y241 =>
            (idxO x.snd.snd.snd.snd.snd.snd.snd.snd.snd.fst x.snd.snd.snd.snd.snd.snd.fst).bind fun y240 =>
              bif !(y241 == (0 : Int)) == (y240 == (1 : Int)) then some (Sum.inr (Sum.inl (false, ())))
              else
                some
                  (Sum.inl
                    (x.fst, x.snd.fst, x.snd.snd.fst, x.snd.snd.snd.fst, x.snd.snd.snd.snd.fst, x.snd.snd.snd.snd.snd.fst,
                      IntKind.i64.wrap (x.snd.snd.snd.snd.snd.snd.fst + (1 : Int)), x.snd.snd.snd.snd.snd.snd.snd.fst,
                      x.snd.snd.snd.snd.snd.snd.snd.snd.fst, x.snd.snd.snd.snd.snd.snd.snd.snd.snd.fst,
                      x.snd.snd.snd.snd.snd.snd.snd.snd.snd.snd.fst, ()))
        else none
  else none
else
  some
    (Sum.inr
      (Sum.inr
        (x.fst, x.snd.fst, x.snd.snd.fst, x.snd.snd.snd.fst, x.snd.snd.snd.snd.fst, x.snd.snd.snd.snd.snd.snd.snd.fst,
          x.snd.snd.snd.snd.snd.snd.snd.snd.fst, x.snd.snd.snd.snd.snd.snd.snd.snd.snd.fst, ())))
theorem r10_15_run0 (v0 : Int) (v1 : Int) (v2 : Int) (v3 : Int) (v4 : Int) (v5 : Nat) (v6 : Int) (v7 : Int) (v8 : Int) (v9 : List Int) (v10 : List Int) : roundK tC G10 (look []) c10_15 p10_15 (v0, v1, v2, v3, v4, v5, v6, v7, v8, v9, v10, ()) = r10_15 (v0, v1, v2, v3, v4, v5, v6, v7, v8, v9, v10, ()) := by kernel_rfl
theorem r10_15_run (x : Int × Int × Int × Int × Int × Nat × Int × Int × Int × List Int × List Int × Unit) : roundK tC G10 (look []) c10_15 p10_15 x = r10_15 x := r10_15_run0 x.1 x.2.1 x.2.2.1 x.2.2.2.1 x.2.2.2.2.1 x.2.2.2.2.2.1 x.2.2.2.2.2.2.1 x.2.2.2.2.2.2.2.1 x.2.2.2.2.2.2.2.2.1 x.2.2.2.2.2.2.2.2.2.1 x.2.2.2.2.2.2.2.2.2.2.1
noncomputable def l10_15 (x : Int × Int × Int × Int × Int × Nat × Int × Int × Int × List Int × List Int × Unit) : Option (Bool × Unit ⊕ Int × Int × Int × Int × Int × Int × Int × List Int × Unit) := iterO r10_15 x
noncomputable def W10_15 : LF tC := loopW tC p10_15 5 l10_15
theorem W10_15_ok : keyed 15 (bodyOf Tryd.f10) = [.block 5 (.loop c10_15)] ∧ ∀ n, n ≤ 0 → Snd tC n (.block 5 (.loop c10_15)) W10_15.k := ⟨by kernel_rfl, fun n hn => loopW_ok (p := p10_15) (id := 5) Y10 (lam_le lam_nil n hn) hn r10_15_run⟩
def S10 : FS := ⟨[[.v], [.v], [.v]], [⟨[vI, vI, vI], []⟩], [⟨[vO], []⟩], [[.v]], []⟩
noncomputable def f10 (x : Int × Int × Int × Unit) : Option (Bool × Unit) :=
  (f12 ()).bind fun y268 =>
  bif !y268.fst then some (false, ())
  else
    (f31 (x.fst, x.snd.fst, x.snd.snd.fst, ())).bind fun y267 =>
      bif decide (x.fst < (3 : Int)) then
        bif y267.snd.snd.snd.fst == (2 : Int) then
          bif y267.fst == (0 : Int) then
            bif y267.snd.fst == (0 : Int) then some ((↑y267.snd.snd.fst.length : Int) == (0 : Int), ()) else some (false, ())
          else some (false, ())
        else some (false, ())
      else
        bif decide (x.fst > (63 : Int)) then
          bif y267.snd.snd.snd.fst == (2 : Int) then
            bif y267.fst == (0 : Int) then
              bif y267.snd.fst == (0 : Int) then some ((↑y267.snd.snd.fst.length : Int) == (0 : Int), ()) else some (false, ())
            else some (false, ())
          else some (false, ())
        else
          bif decide (x.snd.fst < (3 : Int)) then
            bif y267.snd.snd.snd.fst == (2 : Int) then
              bif y267.fst == (0 : Int) then
                bif y267.snd.fst == (0 : Int) then some ((↑y267.snd.snd.fst.length : Int) == (0 : Int), ()) else some (false, ())
              else some (false, ())
            else some (false, ())
          else
            bif decide (x.snd.fst > (63 : Int)) then
              bif y267.snd.snd.snd.fst == (2 : Int) then
                bif y267.fst == (0 : Int) then
                  bif y267.snd.fst == (0 : Int) then some ((↑y267.snd.snd.fst.length : Int) == (0 : Int), ()) else some (false, ())
                else some (false, ())
              else some (false, ())
            else
              bif x.fst.tmod (2 : Int) == (0 : Int) then
                bif y267.snd.snd.snd.fst == (2 : Int) then
                  bif y267.fst == (0 : Int) then
                    bif y267.snd.fst == (0 : Int) then some ((↑y267.snd.snd.fst.length : Int) == (0 : Int), ()) else some (false, ())
                  else some (false, ())
                else some (false, ())
              else
                bif x.snd.fst.tmod (2 : Int) == (0 : Int) then
                  bif y267.snd.snd.snd.fst == (2 : Int) then
                    bif y267.fst == (0 : Int) then
                      bif y267.snd.fst == (0 : Int) then some ((↑y267.snd.snd.fst.length : Int) == (0 : Int), ()) else some (false, ())
                    else some (false, ())
                  else some (false, ())
                else
                  bif y267.snd.snd.snd.fst != (0 : Int) then some (false, ())
                  else
                    bif y267.fst != x.fst then some (false, ())
                    else
                      bif y267.snd.fst != x.snd.fst then some (false, ())
                      else
                        (f32 (y267.fst, y267.snd.fst, y267.snd.snd.fst, ())).bind fun y266 =>
                          bif !y266.fst then some (false, ())
                          else
                            (f23 (y267.fst, y267.snd.fst, y267.snd.snd.fst, ())).bind fun y265 =>
                              bif !y265.fst then some (false, ())
                              else
                                (l10_0
                                      (x.fst, x.snd.fst, x.snd.snd.fst, (0 : Int), (0 : Int), (0 : Int), y267.fst, y267.snd.fst,
                                        y267.snd.snd.fst, ())).bind
                                  fun y264 =>
                                  Sum.elim (fun y257 => some (y257.fst, ()))
                                    (fun y263 =>
                                      (f16
                                            (y263.snd.snd.snd.snd.snd.fst, y263.snd.snd.snd.snd.snd.snd.fst,
                                              y263.snd.snd.snd.snd.snd.snd.snd.fst, ())).bind
                                        fun y262 =>
                                        bif y262.snd.fst != (0 : Int) then some (false, ())
                                        else
                                          bif (↑y262.fst : Int) != (↑y263.snd.snd.snd.snd.snd.snd.snd.fst.length : Int) then
                                            some (false, ())
                                          else
                                            (l10_15
                                                  (y263.fst, y263.snd.fst, y263.snd.snd.fst, y263.snd.snd.snd.fst, y263.snd.snd.snd.snd.fst,
                                                    y262.fst, (0 : Int), y263.snd.snd.snd.snd.snd.fst, y263.snd.snd.snd.snd.snd.snd.fst,
                                                    y263.snd.snd.snd.snd.snd.snd.snd.fst, y262.snd.snd.fst, ())).bind
                                              fun y261 =>
                                              Sum.elim (fun y258 => some (y258.fst, ()))
                                                (fun y260 =>
                                                  (f31 (y260.fst, y260.snd.fst, y260.snd.snd.fst, ())).bind fun y259 =>
                                                    bif y260.snd.snd.snd.snd.fst == IntKind.i64.wrap (y260.snd.snd.snd.fst - (1 : Int)) then
                                                      bif y259.snd.snd.snd.fst == (0 : Int) then
                                                        some
                                                          (f19 y260.snd.snd.snd.snd.snd.fst y260.snd.snd.snd.snd.snd.snd.fst
                                                              y260.snd.snd.snd.snd.snd.snd.snd.fst y259.fst y259.snd.fst y259.snd.snd.fst,
                                                            ())
                                                      else some (false, ())
                                                    else some (false, ()))
                                                y261)
                                    y264
noncomputable def F10 : CF tC := mkF tC S10 f10
theorem f10_run : ∀ a, fnS tC G10 (look [(0, W10_0), (15, W10_15)]) Tryd.f10 S10 a = f10 a := fun a => by kernel_rfl
theorem F10_ok : CFOK tC 10 F10 := mkF_ok Y10 (fn := Tryd.f10) (body := bodyOf Tryd.f10) (by kernel_rfl) (by kernel_rfl) (by kernel_rfl) (m := 0) rfl (lam_le (lam_cons W10_0_ok (lam_cons W10_15_ok lam_nil))) f10_run

/-! FloorGates -/
noncomputable def G11 : FuncId → Option (CF tC) := look [(12, F12), (28, F28), (31, F31), (24, F24)]
theorem Y11 : SysN tC G11 := (sys_cons F12_ok (mkF_nat _ _) (sys_cons F28_ok (mkF_nat _ _) (sys_cons F31_ok (mkF_nat _ _) (sys_cons F24_ok (mkF_nat _ _) (sys_nil tC_ok tC_eq)))))
noncomputable def c11_58 : Code := subCode (loopOf (loopOf (bodyOf Tryd.f11) 0) 2) 58
def p11_58 : PS := ⟨0, [0, 1, 7, 9, 10, 11, 12, 13], ⟨[vI, vI] ++ vBs 5 ++ [.one (.one (.ptr 0 0 0)), vB, vI, vI, .one (.one (.ptr 1 0 0)), .one (.one (.ptr 2 0 0)), .one (.one (.ptr 3 0 0))] ++ vBs 102, [.box [.int .i64, .int .i64, .imm 5], .box [.int .i64, .int .i64, .sl 4], .box [.int .i64, .int .i64], .box [.int .i64, .int .i64], .arr 5]⟩, [⟨.ret, [6], ⟨vBs 6 ++ [vO] ++ vBs 109, []⟩, []⟩, ⟨.normal, [0, 1, 7, 9, 10], ⟨[vI, vI] ++ vBs 5 ++ [.one (.one (.ptr 0 0 0)), vB, vI, vI] ++ vBs 105, [.box [.int .i64, .int .i64, .imm 5]]⟩, []⟩], []⟩
noncomputable def j11_58 (x : Int × Int × Int × Int × Int × Int × List Int × Int × Int × Nat × Int × Int × Int × Int × List Int × Unit) : Option (Bool × Unit ⊕ Int × Int × Int × Int × Int × Int × List Int × Unit) :=
  (f24
      (x.snd.snd.snd.snd.fst, x.snd.snd.snd.snd.snd.fst, x.snd.snd.snd.snd.snd.snd.fst, x.snd.snd.snd.snd.snd.snd.snd.snd.snd.snd.fst,
        x.snd.snd.snd.snd.snd.snd.snd.snd.snd.snd.snd.fst, x.snd.snd.snd.snd.snd.snd.snd.snd.snd.snd.snd.snd.fst,
        x.snd.snd.snd.snd.snd.snd.snd.snd.snd.snd.snd.snd.snd.fst, ())).bind
  fun y52 =>
  bif !y52.fst then some (Sum.inl (false, ()))
  else
    bif
        decide
          ((0 : Nat) + x.snd.snd.snd.snd.snd.snd.snd.snd.snd.fst ≤
            x.snd.snd.snd.snd.snd.snd.snd.snd.snd.snd.snd.snd.snd.snd.fst.length) then
      (f24
            (x.snd.snd.snd.snd.snd.snd.snd.fst, x.snd.snd.snd.snd.snd.snd.snd.snd.fst,
              List.take x.snd.snd.snd.snd.snd.snd.snd.snd.snd.fst
                (List.drop (0 : Nat) x.snd.snd.snd.snd.snd.snd.snd.snd.snd.snd.snd.snd.snd.snd.fst),
              x.snd.snd.snd.snd.snd.snd.snd.snd.snd.snd.fst, x.snd.snd.snd.snd.snd.snd.snd.snd.snd.snd.snd.fst,
              x.snd.snd.snd.snd.snd.snd.snd.snd.snd.snd.snd.snd.fst, x.snd.snd.snd.snd.snd.snd.snd.snd.snd.snd.snd.snd.snd.fst, ())).bind
        fun y51 =>
        bif y51.fst then some (Sum.inl (false, ()))
        else
          some
            (Sum.inr
              (x.fst, x.snd.fst, x.snd.snd.fst, x.snd.snd.snd.fst, x.snd.snd.snd.snd.fst, x.snd.snd.snd.snd.snd.fst,
                x.snd.snd.snd.snd.snd.snd.fst, ()))
    else none
theorem j11_58_run0 (v0 : Int) (v1 : Int) (v2 : Int) (v3 : Int) (v4 : Int) (v5 : Int) (v6 : List Int) (v7 : Int) (v8 : Int) (v9 : Nat) (v10 : Int) (v11 : Int) (v12 : Int) (v13 : Int) (v14 : List Int) : pieceK tC G11 (look []) c11_58 p11_58 (v0, v1, v2, v3, v4, v5, v6, v7, v8, v9, v10, v11, v12, v13, v14, ()) = j11_58 (v0, v1, v2, v3, v4, v5, v6, v7, v8, v9, v10, v11, v12, v13, v14, ()) := by kernel_rfl
theorem j11_58_run (x : Int × Int × Int × Int × Int × Int × List Int × Int × Int × Nat × Int × Int × Int × Int × List Int × Unit) : pieceK tC G11 (look []) c11_58 p11_58 x = j11_58 x := j11_58_run0 x.1 x.2.1 x.2.2.1 x.2.2.2.1 x.2.2.2.2.1 x.2.2.2.2.2.1 x.2.2.2.2.2.2.1 x.2.2.2.2.2.2.2.1 x.2.2.2.2.2.2.2.2.1 x.2.2.2.2.2.2.2.2.2.1 x.2.2.2.2.2.2.2.2.2.2.1 x.2.2.2.2.2.2.2.2.2.2.2.1 x.2.2.2.2.2.2.2.2.2.2.2.2.1 x.2.2.2.2.2.2.2.2.2.2.2.2.2.1 x.2.2.2.2.2.2.2.2.2.2.2.2.2.2.1
noncomputable def W11_58 : LF tC := cutLF tC p11_58 j11_58
theorem W11_58_ok : keyed 58 (loopOf (loopOf (bodyOf Tryd.f11) 0) 2) = [c11_58] ∧ ∀ n, n ≤ 0 → Snd tC n c11_58 W11_58.k := ⟨by kernel_rfl, fun n hn => cut_ok (p := p11_58) Y11 (lam_le lam_nil n hn) hn j11_58_run⟩
noncomputable def c11_37 : Code := subCode (loopOf (loopOf (bodyOf Tryd.f11) 0) 2) 37
def p11_37 : PS := ⟨0, [0, 1, 7, 9, 10], ⟨[vI, vI] ++ vBs 5 ++ [.one (.one (.ptr 0 0 0)), vB, vI, vI] ++ vBs 105, [.box [.int .i64, .int .i64, .imm 5]]⟩, [⟨.normal, [0, 1, 7, 9, 10], ⟨[vI, vI] ++ vBs 5 ++ [.one (.one (.ptr 0 0 0)), vB, vI, vI] ++ vBs 105, [.box [.int .i64, .int .i64, .imm 5]]⟩, []⟩], []⟩
noncomputable def j11_37 (x : Int × Int × Int × Int × Int × Int × List Int × Unit) : Option (Int × Int × Int × Int × Int × Int × List Int × Unit) :=
  some
  (x.fst, x.snd.fst, x.snd.snd.fst, IntKind.i64.wrap (x.snd.snd.snd.fst + (1 : Int)), x.snd.snd.snd.snd.fst, x.snd.snd.snd.snd.snd.fst,
    x.snd.snd.snd.snd.snd.snd.fst, ())
theorem j11_37_run0 (v0 : Int) (v1 : Int) (v2 : Int) (v3 : Int) (v4 : Int) (v5 : Int) (v6 : List Int) : pieceK tC G11 (look []) c11_37 p11_37 (v0, v1, v2, v3, v4, v5, v6, ()) = j11_37 (v0, v1, v2, v3, v4, v5, v6, ()) := by kernel_rfl
theorem j11_37_run (x : Int × Int × Int × Int × Int × Int × List Int × Unit) : pieceK tC G11 (look []) c11_37 p11_37 x = j11_37 x := j11_37_run0 x.1 x.2.1 x.2.2.1 x.2.2.2.1 x.2.2.2.2.1 x.2.2.2.2.2.1 x.2.2.2.2.2.2.1
noncomputable def W11_37 : LF tC := cutLF tC p11_37 j11_37
theorem W11_37_ok : keyed 37 (loopOf (loopOf (bodyOf Tryd.f11) 0) 2) = [c11_37] ∧ ∀ n, n ≤ 0 → Snd tC n c11_37 W11_37.k := ⟨by kernel_rfl, fun n hn => cut_ok (p := p11_37) Y11 (lam_le lam_nil n hn) hn j11_37_run⟩
noncomputable def c11_6 : Code := loopOf (loopOf (bodyOf Tryd.f11) 0) 2
def p11_6 : LS := ⟨0, [0, 1, 7, 9, 10], ⟨[vI, vI] ++ vBs 5 ++ [.one (.one (.ptr 0 0 0)), vB, vI, vI] ++ vBs 105, [.box [.int .i64, .int .i64, .imm 5]]⟩, [⟨.ret, [6], ⟨vBs 6 ++ [vO] ++ vBs 109, []⟩, []⟩, ⟨.exit 2, [0, 1, 7, 9], ⟨[vI, vI] ++ vBs 5 ++ [.one (.one (.ptr 0 0 0)), vB, vI] ++ vBs 106, [.box [.int .i64, .int .i64, .imm 5]]⟩, []⟩], []⟩
noncomputable def r11_6 (x : Int × Int × Int × Int × Int × Int × List Int × Unit) : Option (Int × Int × Int × Int × Int × Int × List Int × Unit ⊕ Bool × Unit ⊕ Int × Int × Int × Int × Int × List Int × Unit) :=
  bif decide (x.snd.snd.snd.fst < IntKind.i64.wrap (x.fst - (1 : Int))) then
  bif (IntKind.i64.wrap (x.snd.snd.snd.fst + x.snd.snd.fst)).tmod (2 : Int) == (0 : Int) then
    (j11_37
          (x.fst, x.snd.fst, x.snd.snd.fst, x.snd.snd.snd.fst, x.snd.snd.snd.snd.fst, x.snd.snd.snd.snd.snd.fst,
            x.snd.snd.snd.snd.snd.snd.fst, ())).bind
      fun y118 =>
      some
        (Sum.inl
          (y118.fst, y118.snd.fst, y118.snd.snd.fst, y118.snd.snd.snd.fst, y118.snd.snd.snd.snd.fst, y118.snd.snd.snd.snd.snd.fst,
            y118.snd.snd.snd.snd.snd.snd.fst, ()))
  else
    (idxO x.snd.snd.snd.snd.snd.snd.fst (IntKind.i64.wrap (IntKind.i64.wrap (x.snd.snd.fst * x.fst) + x.snd.snd.snd.fst))).bind fun y129 =>
      bif y129 != (1 : Int) then
        (j11_37
              (x.fst, x.snd.fst, x.snd.snd.fst, x.snd.snd.snd.fst, x.snd.snd.snd.snd.fst, x.snd.snd.snd.snd.snd.fst,
                x.snd.snd.snd.snd.snd.snd.fst, ())).bind
          fun y119 =>
          some
            (Sum.inl
              (y119.fst, y119.snd.fst, y119.snd.snd.fst, y119.snd.snd.snd.fst, y119.snd.snd.snd.snd.fst, y119.snd.snd.snd.snd.snd.fst,
                y119.snd.snd.snd.snd.snd.snd.fst, ()))
      else
        bif roomy ((0 : Nat) + x.snd.snd.snd.snd.snd.snd.fst.length) (1 : Nat) then
          bif
              decide ((0 : Int) ≤ IntKind.i64.wrap (IntKind.i64.wrap (x.snd.snd.fst * x.fst) + x.snd.snd.snd.fst)) &&
                decide
                  (IntKind.i64.wrap (IntKind.i64.wrap (x.snd.snd.fst * x.fst) + x.snd.snd.snd.fst) <
                    (↑((0 : Nat) + x.snd.snd.snd.snd.snd.snd.fst.length) : Int)) then
            ([] ++
                    x.snd.snd.snd.snd.snd.snd.fst)[(0 : Nat) +
                    (IntKind.i64.wrap (IntKind.i64.wrap (x.snd.snd.fst * x.fst) + x.snd.snd.snd.fst)).toNat]?.bind
              fun _x =>
              bif x.snd.snd.fst.tmod (2 : Int) == (0 : Int) then
                (j11_58
                      (x.fst, x.snd.fst, x.snd.snd.fst, x.snd.snd.snd.fst, x.snd.snd.snd.snd.fst, x.snd.snd.snd.snd.snd.fst,
                        x.snd.snd.snd.snd.snd.snd.fst, x.fst, x.snd.fst, (0 : Nat) + x.snd.snd.snd.snd.snd.snd.fst.length,
                        x.snd.snd.snd.fst, IntKind.i64.wrap (x.snd.snd.fst - (1 : Int)), x.snd.snd.snd.fst,
                        IntKind.i64.wrap (x.snd.snd.fst + (1 : Int)),
                        ([] ++ x.snd.snd.snd.snd.snd.snd.fst).set
                          ((0 : Nat) + (IntKind.i64.wrap (IntKind.i64.wrap (x.snd.snd.fst * x.fst) + x.snd.snd.snd.fst)).toNat) (2 : Int),
                        ())).bind
                  fun y123 =>
                  Sum.elim (fun y120 => some (Sum.inr (Sum.inl (y120.fst, ()))))
                    (fun y122 =>
                      (j11_37
                            (y122.fst, y122.snd.fst, y122.snd.snd.fst, y122.snd.snd.snd.fst, y122.snd.snd.snd.snd.fst,
                              y122.snd.snd.snd.snd.snd.fst, y122.snd.snd.snd.snd.snd.snd.fst, ())).bind
                        fun y121 =>
                        some
                          (Sum.inl
                            (y121.fst, y121.snd.fst, y121.snd.snd.fst, y121.snd.snd.snd.fst, y121.snd.snd.snd.snd.fst,
                              y121.snd.snd.snd.snd.snd.fst, y121.snd.snd.snd.snd.snd.snd.fst, ())))
                    y123
              else
                (j11_58
                      (x.fst, x.snd.fst, x.snd.snd.fst, x.snd.snd.snd.fst, x.snd.snd.snd.snd.fst, x.snd.snd.snd.snd.snd.fst,
                        x.snd.snd.snd.snd.snd.snd.fst, x.fst, x.snd.fst, (0 : Nat) + x.snd.snd.snd.snd.snd.snd.fst.length,
                        IntKind.i64.wrap (x.snd.snd.snd.fst - (1 : Int)), x.snd.snd.fst, IntKind.i64.wrap (x.snd.snd.snd.fst + (1 : Int)),
                        x.snd.snd.fst,
                        ([] ++ x.snd.snd.snd.snd.snd.snd.fst).set
                          ((0 : Nat) + (IntKind.i64.wrap (IntKind.i64.wrap (x.snd.snd.fst * x.fst) + x.snd.snd.snd.fst)).toNat) (2 : Int),
                        ())).bind
                  fun y127 =>
                  Sum.elim (fun y124 => some (Sum.inr (Sum.inl (y124.fst, ()))))
                    (fun y126 =>
                      (j11_37
                            (y126.fst, y126.snd.fst, y126.snd.snd.fst, y126.snd.snd.snd.fst, y126.snd.snd.snd.snd.fst,
                              y126.snd.snd.snd.snd.snd.fst, y126.snd.snd.snd.snd.snd.snd.fst, ())).bind
                        fun y125 =>
                        some
                          (Sum.inl
                            (y125.fst, y125.snd.fst, y125.snd.snd.fst, y125.snd.snd.snd.fst, y125.snd.snd.snd.snd.fst,
                              y125.snd.snd.snd.snd.snd.fst, y125.snd.snd.snd.snd.snd.snd.fst, ())))
                    y127
          else none
        else none
else
  some
    (Sum.inr
      (Sum.inr (x.fst, x.snd.fst, x.snd.snd.fst, x.snd.snd.snd.snd.fst, x.snd.snd.snd.snd.snd.fst, x.snd.snd.snd.snd.snd.snd.fst, ())))
theorem r11_6_run0 (v0 : Int) (v1 : Int) (v2 : Int) (v3 : Int) (v4 : Int) (v5 : Int) (v6 : List Int) : roundK tC G11 (look [(58, W11_58), (37, W11_37)]) c11_6 p11_6 (v0, v1, v2, v3, v4, v5, v6, ()) = r11_6 (v0, v1, v2, v3, v4, v5, v6, ()) := by kernel_rfl
theorem r11_6_run (x : Int × Int × Int × Int × Int × Int × List Int × Unit) : roundK tC G11 (look [(58, W11_58), (37, W11_37)]) c11_6 p11_6 x = r11_6 x := r11_6_run0 x.1 x.2.1 x.2.2.1 x.2.2.2.1 x.2.2.2.2.1 x.2.2.2.2.2.1 x.2.2.2.2.2.2.1
noncomputable def l11_6 (x : Int × Int × Int × Int × Int × Int × List Int × Unit) : Option (Bool × Unit ⊕ Int × Int × Int × Int × Int × List Int × Unit) := iterO r11_6 x
noncomputable def W11_6 : LF tC := loopW tC p11_6 2 l11_6
theorem W11_6_ok : keyed 6 (loopOf (bodyOf Tryd.f11) 0) = [.block 2 (.loop c11_6)] ∧ ∀ n, n ≤ 0 → Snd tC n (.block 2 (.loop c11_6)) W11_6.k := ⟨by kernel_rfl, fun n hn => loopW_ok (p := p11_6) (id := 2) Y11 (lam_le (lam_cons W11_58_ok (lam_cons W11_37_ok lam_nil)) n hn) hn r11_6_run⟩
noncomputable def c11_0 : Code := loopOf (bodyOf Tryd.f11) 0
def p11_0 : LS := ⟨0, [0, 1, 7, 9], ⟨[vI, vI] ++ vBs 5 ++ [.one (.one (.ptr 0 0 0)), vB, vI] ++ vBs 106, [.box [.int .i64, .int .i64, .imm 5]]⟩, [⟨.ret, [6], ⟨vBs 6 ++ [vO] ++ vBs 109, []⟩, []⟩, ⟨.exit 0, [], ⟨vBs 116, []⟩, []⟩], []⟩
noncomputable def r11_0 (x : Int × Int × Int × Int × Int × List Int × Unit) : Option (Int × Int × Int × Int × Int × List Int × Unit ⊕ Bool × Unit ⊕ Unit) :=
  bif decide (x.snd.snd.fst < IntKind.i64.wrap (x.snd.fst - (1 : Int))) then
  (l11_6 (x.fst, x.snd.fst, x.snd.snd.fst, (1 : Int), x.snd.snd.snd.fst, x.snd.snd.snd.snd.fst, x.snd.snd.snd.snd.snd.fst, ())).bind
    fun y140 =>
    Sum.elim (fun y138 => some (Sum.inr (Sum.inl (y138.fst, ()))))
      (fun y139 =>
        some
          (Sum.inl
            (y139.fst, y139.snd.fst, IntKind.i64.wrap (y139.snd.snd.fst + (1 : Int)), y139.snd.snd.snd.fst, y139.snd.snd.snd.snd.fst,
              y139.snd.snd.snd.snd.snd.fst, ())))
      y140
else some (Sum.inr (Sum.inr ()))
theorem r11_0_run0 (v0 : Int) (v1 : Int) (v2 : Int) (v3 : Int) (v4 : Int) (v5 : List Int) : roundK tC G11 (look [(6, W11_6)]) c11_0 p11_0 (v0, v1, v2, v3, v4, v5, ()) = r11_0 (v0, v1, v2, v3, v4, v5, ()) := by kernel_rfl
theorem r11_0_run (x : Int × Int × Int × Int × Int × List Int × Unit) : roundK tC G11 (look [(6, W11_6)]) c11_0 p11_0 x = r11_0 x := r11_0_run0 x.1 x.2.1 x.2.2.1 x.2.2.2.1 x.2.2.2.2.1 x.2.2.2.2.2.1
noncomputable def l11_0 (x : Int × Int × Int × Int × Int × List Int × Unit) : Option (Bool × Unit ⊕ Unit) := iterO r11_0 x
noncomputable def W11_0 : LF tC := loopW tC p11_0 0 l11_0
theorem W11_0_ok : keyed 0 (bodyOf Tryd.f11) = [.block 0 (.loop c11_0)] ∧ ∀ n, n ≤ 0 → Snd tC n (.block 0 (.loop c11_0)) W11_0.k := ⟨by kernel_rfl, fun n hn => loopW_ok (p := p11_0) (id := 0) Y11 (lam_le (lam_cons W11_6_ok lam_nil) n hn) hn r11_0_run⟩
def S11 : FS := ⟨[[.v], [.v], [.v]], [⟨[vI, vI, vI], []⟩], [⟨[vO], []⟩], [[.v]], []⟩
noncomputable def f11 (x : Int × Int × Int × Unit) : Option (Bool × Unit) :=
  (f12 ()).bind fun y149 =>
  bif !y149.fst then some (false, ())
  else
    (f28 (x.fst, (5 : Int), ())).bind fun y148 =>
      (f28 (x.snd.fst, (5 : Int), ())).bind fun y147 =>
        (f31
              (IntKind.i64.wrap ((3 : Int) + IntKind.i64.wrap ((2 : Int) * y148.fst)),
                IntKind.i64.wrap ((3 : Int) + IntKind.i64.wrap ((2 : Int) * y147.fst)), x.snd.snd.fst, ())).bind
          fun y146 =>
          bif y146.snd.snd.snd.fst != (0 : Int) then some (false, ())
          else
            bif
                (↑y146.snd.snd.fst.length : Int) !=
                  IntKind.i64.wrap
                    (IntKind.i64.wrap ((3 : Int) + IntKind.i64.wrap ((2 : Int) * y148.fst)) *
                      IntKind.i64.wrap ((3 : Int) + IntKind.i64.wrap ((2 : Int) * y147.fst))) then
              some (false, ())
            else
              (l11_0
                    (IntKind.i64.wrap ((3 : Int) + IntKind.i64.wrap ((2 : Int) * y148.fst)),
                      IntKind.i64.wrap ((3 : Int) + IntKind.i64.wrap ((2 : Int) * y147.fst)), (1 : Int), y146.fst, y146.snd.fst,
                      y146.snd.snd.fst, ())).bind
                fun y145 => Sum.elim (fun y143 => some (y143.fst, ())) (fun _x => some (true, ())) y145
noncomputable def F11 : CF tC := mkF tC S11 f11
theorem f11_run : ∀ a, fnS tC G11 (look [(0, W11_0)]) Tryd.f11 S11 a = f11 a := fun a => by kernel_rfl
theorem F11_ok : CFOK tC 11 F11 := mkF_ok Y11 (fn := Tryd.f11) (body := bodyOf Tryd.f11) (by kernel_rfl) (by kernel_rfl) (by kernel_rfl) (m := 0) rfl (lam_le (lam_cons W11_0_ok lam_nil)) f11_run
end Go.AE
