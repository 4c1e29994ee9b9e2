/-
  The plain functions that the seat's Go functions compute, each with the proof that the function keeps it. Printed by the generator (Gen2) and checked by the kernel.
-/
import Derived.Test.YtilmnpkjlaamlaaF
namespace Go.AE
open Go.Proofs Go.RowKit
set_option maxRecDepth 100000

/-! Set -/
noncomputable def G16 : FuncId → Option (CF tC) := look [(33, F33), (36, F36), (35, F35), (38, F38), (37, F37), (39, F39)]
theorem Y16 : SysN tC G16 := (sys_cons F33_ok (mkF_nat _ _) (sys_cons F36_ok (mkF_nat _ _) (sys_cons F35_ok (mkF_nat _ _) (sys_cons F38_ok (mkF_nat _ _) (sys_cons F37_ok (mkF_nat _ _) (sys_cons F39_ok (mkF_nat _ _) (sys_nil tC_ok tC_eq)))))))
def S16 : FS := ⟨[[.p], [.v, .v], [.v]], [⟨[.one (.one (.ptr 2 0 0)), .one (.agg [.int .i64, .int .i64]), vO], [.arr 5, .arr 3, .box [.int .i64, .int .i64, .sl 0, .int .i64, .int .i64, .sl 1]]⟩], [⟨[vI], [.arr 5, .arr 3, .box [.int .i64, .int .i64, .sl 0, .int .i64, .int .i64, .sl 1]]⟩, ⟨[vI], [.gone, .gone, .box [.int .i64, .int .i64, .sl 3, .int .i64, .int .i64, .sl 4], .arr 5, .arr 3]⟩], [[.v]], []⟩
noncomputable def f16 (x : Int × Int × Bool × List Int × List Int × Int × Int × Nat × Int × Int × Nat × Unit) : Option
  (Int × List Int × List Int × Int × Int × Nat × Int × Int × Nat × Unit ⊕
    Int × Int × Int × Nat × Int × Int × Nat × List Int × List Int × Unit) :=
  bif decide ((0 : Nat) + x.snd.snd.snd.snd.snd.snd.snd.fst ≤ x.snd.snd.snd.fst.length) then
  bif
      !f33 x.snd.snd.snd.snd.snd.fst x.snd.snd.snd.snd.snd.snd.fst
          (List.take x.snd.snd.snd.snd.snd.snd.snd.fst (List.drop (0 : Nat) x.snd.snd.snd.fst)) x.fst x.snd.fst then
    some
      (Sum.inl
        ((7 : Int), x.snd.snd.snd.fst, x.snd.snd.snd.snd.fst, x.snd.snd.snd.snd.snd.fst, x.snd.snd.snd.snd.snd.snd.fst,
          x.snd.snd.snd.snd.snd.snd.snd.fst, x.snd.snd.snd.snd.snd.snd.snd.snd.fst, x.snd.snd.snd.snd.snd.snd.snd.snd.snd.fst,
          x.snd.snd.snd.snd.snd.snd.snd.snd.snd.snd.fst, ()))
  else
    bif decide ((0 : Nat) + x.snd.snd.snd.snd.snd.snd.snd.fst ≤ x.snd.snd.snd.fst.length) then
      bif decide ((0 : Nat) + x.snd.snd.snd.snd.snd.snd.snd.snd.snd.snd.fst ≤ x.snd.snd.snd.snd.fst.length) then
        bif
            decide
                ((0 : Int) ≤
                  f36 x.snd.snd.snd.snd.snd.fst x.snd.snd.snd.snd.snd.snd.fst
                    (List.take x.snd.snd.snd.snd.snd.snd.snd.fst (List.drop (0 : Nat) x.snd.snd.snd.fst))
                    x.snd.snd.snd.snd.snd.snd.snd.snd.fst x.snd.snd.snd.snd.snd.snd.snd.snd.snd.fst
                    (List.take x.snd.snd.snd.snd.snd.snd.snd.snd.snd.snd.fst (List.drop (0 : Nat) x.snd.snd.snd.snd.fst)) x.fst
                    x.snd.fst) &&
              decide
                (f36 x.snd.snd.snd.snd.snd.fst x.snd.snd.snd.snd.snd.snd.fst
                    (List.take x.snd.snd.snd.snd.snd.snd.snd.fst (List.drop (0 : Nat) x.snd.snd.snd.fst))
                    x.snd.snd.snd.snd.snd.snd.snd.snd.fst x.snd.snd.snd.snd.snd.snd.snd.snd.snd.fst
                    (List.take x.snd.snd.snd.snd.snd.snd.snd.snd.snd.snd.fst (List.drop (0 : Nat) x.snd.snd.snd.snd.fst)) x.fst x.snd.fst <
                  (↑x.snd.snd.snd.snd.snd.snd.snd.fst : Int)) then
          x.snd.snd.snd.fst[(0 : Nat) +
                  (f36 x.snd.snd.snd.snd.snd.fst x.snd.snd.snd.snd.snd.snd.fst
                      (List.take x.snd.snd.snd.snd.snd.snd.snd.fst (List.drop (0 : Nat) x.snd.snd.snd.fst))
                      x.snd.snd.snd.snd.snd.snd.snd.snd.fst x.snd.snd.snd.snd.snd.snd.snd.snd.snd.fst
                      (List.take x.snd.snd.snd.snd.snd.snd.snd.snd.snd.snd.fst (List.drop (0 : Nat) x.snd.snd.snd.snd.fst)) x.fst
                      x.snd.fst).toNat]?.bind
            fun y103 =>
            bif decide ((0 : Nat) + x.snd.snd.snd.snd.snd.snd.snd.fst ≤ x.snd.snd.snd.fst.length) then
              bif decide ((0 : Nat) + x.snd.snd.snd.snd.snd.snd.snd.snd.snd.snd.fst ≤ x.snd.snd.snd.snd.fst.length) then
                bif
                    decide
                        ((0 : Int) ≤
                          f36 x.snd.snd.snd.snd.snd.fst x.snd.snd.snd.snd.snd.snd.fst
                            (List.take x.snd.snd.snd.snd.snd.snd.snd.fst (List.drop (0 : Nat) x.snd.snd.snd.fst))
                            x.snd.snd.snd.snd.snd.snd.snd.snd.fst x.snd.snd.snd.snd.snd.snd.snd.snd.snd.fst
                            (List.take x.snd.snd.snd.snd.snd.snd.snd.snd.snd.snd.fst (List.drop (0 : Nat) x.snd.snd.snd.snd.fst)) x.fst
                            x.snd.fst) &&
                      decide
                        (f36 x.snd.snd.snd.snd.snd.fst x.snd.snd.snd.snd.snd.snd.fst
                            (List.take x.snd.snd.snd.snd.snd.snd.snd.fst (List.drop (0 : Nat) x.snd.snd.snd.fst))
                            x.snd.snd.snd.snd.snd.snd.snd.snd.fst x.snd.snd.snd.snd.snd.snd.snd.snd.snd.fst
                            (List.take x.snd.snd.snd.snd.snd.snd.snd.snd.snd.snd.fst (List.drop (0 : Nat) x.snd.snd.snd.snd.fst)) x.fst
                            x.snd.fst <
                          (↑x.snd.snd.snd.snd.snd.snd.snd.fst : Int)) then
                  x.snd.snd.snd.fst[(0 : Nat) +
                          (f36 x.snd.snd.snd.snd.snd.fst x.snd.snd.snd.snd.snd.snd.fst
                              (List.take x.snd.snd.snd.snd.snd.snd.snd.fst (List.drop (0 : Nat) x.snd.snd.snd.fst))
                              x.snd.snd.snd.snd.snd.snd.snd.snd.fst x.snd.snd.snd.snd.snd.snd.snd.snd.snd.fst
                              (List.take x.snd.snd.snd.snd.snd.snd.snd.snd.snd.snd.fst (List.drop (0 : Nat) x.snd.snd.snd.snd.fst)) x.fst
                              x.snd.fst).toNat]?.bind
                    fun _x =>
                    bif x.snd.snd.fst then
                      bif
                          decide
                            ((0 : Nat) + x.snd.snd.snd.snd.snd.snd.snd.fst ≤
                              (x.snd.snd.snd.fst.set
                                  ((0 : Nat) +
                                    (f36 x.snd.snd.snd.snd.snd.fst x.snd.snd.snd.snd.snd.snd.fst
                                        (List.take x.snd.snd.snd.snd.snd.snd.snd.fst (List.drop (0 : Nat) x.snd.snd.snd.fst))
                                        x.snd.snd.snd.snd.snd.snd.snd.snd.fst x.snd.snd.snd.snd.snd.snd.snd.snd.snd.fst
                                        (List.take x.snd.snd.snd.snd.snd.snd.snd.snd.snd.snd.fst
                                          (List.drop (0 : Nat) x.snd.snd.snd.snd.fst))
                                        x.fst x.snd.fst).toNat)
                                  (2 : Int)).length) then
                        bif decide ((0 : Nat) + x.snd.snd.snd.snd.snd.snd.snd.snd.snd.snd.fst ≤ x.snd.snd.snd.snd.fst.length) then
                          bif
                              decide
                                  ((0 : Int) ≤
                                    f36 x.snd.snd.snd.snd.snd.fst x.snd.snd.snd.snd.snd.snd.fst
                                      (List.take x.snd.snd.snd.snd.snd.snd.snd.fst
                                        (List.drop (0 : Nat)
                                          (x.snd.snd.snd.fst.set
                                            ((0 : Nat) +
                                              (f36 x.snd.snd.snd.snd.snd.fst x.snd.snd.snd.snd.snd.snd.fst
                                                  (List.take x.snd.snd.snd.snd.snd.snd.snd.fst (List.drop (0 : Nat) x.snd.snd.snd.fst))
                                                  x.snd.snd.snd.snd.snd.snd.snd.snd.fst x.snd.snd.snd.snd.snd.snd.snd.snd.snd.fst
                                                  (List.take x.snd.snd.snd.snd.snd.snd.snd.snd.snd.snd.fst
                                                    (List.drop (0 : Nat) x.snd.snd.snd.snd.fst))
                                                  x.fst x.snd.fst).toNat)
                                            (2 : Int))))
                                      x.snd.snd.snd.snd.snd.snd.snd.snd.fst x.snd.snd.snd.snd.snd.snd.snd.snd.snd.fst
                                      (List.take x.snd.snd.snd.snd.snd.snd.snd.snd.snd.snd.fst (List.drop (0 : Nat) x.snd.snd.snd.snd.fst))
                                      x.fst x.snd.fst) &&
                                decide
                                  (f36 x.snd.snd.snd.snd.snd.fst x.snd.snd.snd.snd.snd.snd.fst
                                      (List.take x.snd.snd.snd.snd.snd.snd.snd.fst
                                        (List.drop (0 : Nat)
                                          (x.snd.snd.snd.fst.set
                                            ((0 : Nat) +
                                              (f36 x.snd.snd.snd.snd.snd.fst x.snd.snd.snd.snd.snd.snd.fst
                                                  (List.take x.snd.snd.snd.snd.snd.snd.snd.fst (List.drop (0 : Nat) x.snd.snd.snd.fst))
                                                  x.snd.snd.snd.snd.snd.snd.snd.snd.fst x.snd.snd.snd.snd.snd.snd.snd.snd.snd.fst
                                                  (List.take x.snd.snd.snd.snd.snd.snd.snd.snd.snd.snd.fst
                                                    (List.drop (0 : Nat) x.snd.snd.snd.snd.fst))
                                                  x.fst x.snd.fst).toNat)
                                            (2 : Int))))
                                      x.snd.snd.snd.snd.snd.snd.snd.snd.fst x.snd.snd.snd.snd.snd.snd.snd.snd.snd.fst
                                      (List.take x.snd.snd.snd.snd.snd.snd.snd.snd.snd.snd.fst (List.drop (0 : Nat) x.snd.snd.snd.snd.fst))
                                      x.fst x.snd.fst <
                                    (↑x.snd.snd.snd.snd.snd.snd.snd.fst : Int)) then
                            (x.snd.snd.snd.fst.set
                                    ((0 : Nat) +
                                      (f36 x.snd.snd.snd.snd.snd.fst x.snd.snd.snd.snd.snd.snd.fst
                                          (List.take x.snd.snd.snd.snd.snd.snd.snd.fst (List.drop (0 : Nat) x.snd.snd.snd.fst))
                                          x.snd.snd.snd.snd.snd.snd.snd.snd.fst x.snd.snd.snd.snd.snd.snd.snd.snd.snd.fst
                                          (List.take x.snd.snd.snd.snd.snd.snd.snd.snd.snd.snd.fst
                                            (List.drop (0 : Nat) x.snd.snd.snd.snd.fst))
                                          x.fst x.snd.fst).toNat)
                                    (2 :
                                      Int))[(0 : Nat) +
                                    (f36 x.snd.snd.snd.snd.snd.fst x.snd.snd.snd.snd.snd.snd.fst
                                        (List.take x.snd.snd.snd.snd.snd.snd.snd.fst
                                          (List.drop (0 : Nat)
                                            (x.snd.snd.snd.fst.set
                                              ((0 : Nat) +
                                                (f36 x.snd.snd.snd.snd.snd.fst x.snd.snd.snd.snd.snd.snd.fst
                                                    (List.take x.snd.snd.snd.snd.snd.snd.snd.fst (List.drop (0 : Nat) x.snd.snd.snd.fst))
                                                    x.snd.snd.snd.snd.snd.snd.snd.snd.fst x.snd.snd.snd.snd.snd.snd.snd.snd.snd.fst
                                                    (List.take x.snd.snd.snd.snd.snd.snd.snd.snd.snd.snd.fst
                                                      (List.drop (0 : Nat) x.snd.snd.snd.snd.fst))
                                                    x.fst x.snd.fst).toNat)
                                              (2 : Int))))
                                        x.snd.snd.snd.snd.snd.snd.snd.snd.fst x.snd.snd.snd.snd.snd.snd.snd.snd.snd.fst
                                        (List.take x.snd.snd.snd.snd.snd.snd.snd.snd.snd.snd.fst
                                          (List.drop (0 : Nat) x.snd.snd.snd.snd.fst))
                                        x.fst x.snd.fst).toNat]?.bind
                              fun _x =>
                              bif (y103 == (1 : Int)) == x.snd.snd.fst then
                                some
                                  (Sum.inl
                                    ((0 : Int),
                                      (x.snd.snd.snd.fst.set
                                            ((0 : Nat) +
                                              (f36 x.snd.snd.snd.snd.snd.fst x.snd.snd.snd.snd.snd.snd.fst
                                                  (List.take x.snd.snd.snd.snd.snd.snd.snd.fst (List.drop (0 : Nat) x.snd.snd.snd.fst))
                                                  x.snd.snd.snd.snd.snd.snd.snd.snd.fst x.snd.snd.snd.snd.snd.snd.snd.snd.snd.fst
                                                  (List.take x.snd.snd.snd.snd.snd.snd.snd.snd.snd.snd.fst
                                                    (List.drop (0 : Nat) x.snd.snd.snd.snd.fst))
                                                  x.fst x.snd.fst).toNat)
                                            (2 : Int)).set
                                        ((0 : Nat) +
                                          (f36 x.snd.snd.snd.snd.snd.fst x.snd.snd.snd.snd.snd.snd.fst
                                              (List.take x.snd.snd.snd.snd.snd.snd.snd.fst
                                                (List.drop (0 : Nat)
                                                  (x.snd.snd.snd.fst.set
                                                    ((0 : Nat) +
                                                      (f36 x.snd.snd.snd.snd.snd.fst x.snd.snd.snd.snd.snd.snd.fst
                                                          (List.take x.snd.snd.snd.snd.snd.snd.snd.fst
                                                            (List.drop (0 : Nat) x.snd.snd.snd.fst))
                                                          x.snd.snd.snd.snd.snd.snd.snd.snd.fst x.snd.snd.snd.snd.snd.snd.snd.snd.snd.fst
                                                          (List.take x.snd.snd.snd.snd.snd.snd.snd.snd.snd.snd.fst
                                                            (List.drop (0 : Nat) x.snd.snd.snd.snd.fst))
                                                          x.fst x.snd.fst).toNat)
                                                    (2 : Int))))
                                              x.snd.snd.snd.snd.snd.snd.snd.snd.fst x.snd.snd.snd.snd.snd.snd.snd.snd.snd.fst
                                              (List.take x.snd.snd.snd.snd.snd.snd.snd.snd.snd.snd.fst
                                                (List.drop (0 : Nat) x.snd.snd.snd.snd.fst))
                                              x.fst x.snd.fst).toNat)
                                        (1 : Int),
                                      x.snd.snd.snd.snd.fst, x.snd.snd.snd.snd.snd.fst, x.snd.snd.snd.snd.snd.snd.fst,
                                      x.snd.snd.snd.snd.snd.snd.snd.fst, x.snd.snd.snd.snd.snd.snd.snd.snd.fst,
                                      x.snd.snd.snd.snd.snd.snd.snd.snd.snd.fst, x.snd.snd.snd.snd.snd.snd.snd.snd.snd.snd.fst, ()))
                              else
                                bif
                                    bif x.fst == x.snd.snd.snd.snd.snd.snd.snd.snd.fst then
                                      bif x.snd.fst == x.snd.snd.snd.snd.snd.snd.snd.snd.snd.fst then true else false
                                    else false then
                                  bif
                                      decide
                                        ((0 : Nat) + x.snd.snd.snd.snd.snd.snd.snd.fst ≤
                                          ((x.snd.snd.snd.fst.set
                                                  ((0 : Nat) +
                                                    (f36 x.snd.snd.snd.snd.snd.fst x.snd.snd.snd.snd.snd.snd.fst
                                                        (List.take x.snd.snd.snd.snd.snd.snd.snd.fst
                                                          (List.drop (0 : Nat) x.snd.snd.snd.fst))
                                                        x.snd.snd.snd.snd.snd.snd.snd.snd.fst x.snd.snd.snd.snd.snd.snd.snd.snd.snd.fst
                                                        (List.take x.snd.snd.snd.snd.snd.snd.snd.snd.snd.snd.fst
                                                          (List.drop (0 : Nat) x.snd.snd.snd.snd.fst))
                                                        x.fst x.snd.fst).toNat)
                                                  (2 : Int)).set
                                              ((0 : Nat) +
                                                (f36 x.snd.snd.snd.snd.snd.fst x.snd.snd.snd.snd.snd.snd.fst
                                                    (List.take x.snd.snd.snd.snd.snd.snd.snd.fst
                                                      (List.drop (0 : Nat)
                                                        (x.snd.snd.snd.fst.set
                                                          ((0 : Nat) +
                                                            (f36 x.snd.snd.snd.snd.snd.fst x.snd.snd.snd.snd.snd.snd.fst
                                                                (List.take x.snd.snd.snd.snd.snd.snd.snd.fst
                                                                  (List.drop (0 : Nat) x.snd.snd.snd.fst))
                                                                x.snd.snd.snd.snd.snd.snd.snd.snd.fst
                                                                x.snd.snd.snd.snd.snd.snd.snd.snd.snd.fst
                                                                (List.take x.snd.snd.snd.snd.snd.snd.snd.snd.snd.snd.fst
                                                                  (List.drop (0 : Nat) x.snd.snd.snd.snd.fst))
                                                                x.fst x.snd.fst).toNat)
                                                          (2 : Int))))
                                                    x.snd.snd.snd.snd.snd.snd.snd.snd.fst x.snd.snd.snd.snd.snd.snd.snd.snd.snd.fst
                                                    (List.take x.snd.snd.snd.snd.snd.snd.snd.snd.snd.snd.fst
                                                      (List.drop (0 : Nat) x.snd.snd.snd.snd.fst))
                                                    x.fst x.snd.fst).toNat)
                                              (1 : Int)).length) then
                                    bif
                                        decide
                                          ((0 : Nat) + x.snd.snd.snd.snd.snd.snd.snd.snd.snd.snd.fst ≤ x.snd.snd.snd.snd.fst.length) then
                                      (f35
                                            (List.take x.snd.snd.snd.snd.snd.snd.snd.fst
                                                (List.drop (0 : Nat)
                                                  ((x.snd.snd.snd.fst.set
                                                        ((0 : Nat) +
                                                          (f36 x.snd.snd.snd.snd.snd.fst x.snd.snd.snd.snd.snd.snd.fst
                                                              (List.take x.snd.snd.snd.snd.snd.snd.snd.fst
                                                                (List.drop (0 : Nat) x.snd.snd.snd.fst))
                                                              x.snd.snd.snd.snd.snd.snd.snd.snd.fst
                                                              x.snd.snd.snd.snd.snd.snd.snd.snd.snd.fst
                                                              (List.take x.snd.snd.snd.snd.snd.snd.snd.snd.snd.snd.fst
                                                                (List.drop (0 : Nat) x.snd.snd.snd.snd.fst))
                                                              x.fst x.snd.fst).toNat)
                                                        (2 : Int)).set
                                                    ((0 : Nat) +
                                                      (f36 x.snd.snd.snd.snd.snd.fst x.snd.snd.snd.snd.snd.snd.fst
                                                          (List.take x.snd.snd.snd.snd.snd.snd.snd.fst
                                                            (List.drop (0 : Nat)
                                                              (x.snd.snd.snd.fst.set
                                                                ((0 : Nat) +
                                                                  (f36 x.snd.snd.snd.snd.snd.fst x.snd.snd.snd.snd.snd.snd.fst
                                                                      (List.take x.snd.snd.snd.snd.snd.snd.snd.fst
                                                                        (List.drop (0 : Nat) x.snd.snd.snd.fst))
                                                                      x.snd.snd.snd.snd.snd.snd.snd.snd.fst
                                                                      x.snd.snd.snd.snd.snd.snd.snd.snd.snd.fst
                                                                      (List.take x.snd.snd.snd.snd.snd.snd.snd.snd.snd.snd.fst
                                                                        (List.drop (0 : Nat) x.snd.snd.snd.snd.fst))
                                                                      x.fst x.snd.fst).toNat)
                                                                (2 : Int))))
                                                          x.snd.snd.snd.snd.snd.snd.snd.snd.fst x.snd.snd.snd.snd.snd.snd.snd.snd.snd.fst
                                                          (List.take x.snd.snd.snd.snd.snd.snd.snd.snd.snd.snd.fst
                                                            (List.drop (0 : Nat) x.snd.snd.snd.snd.fst))
                                                          x.fst x.snd.fst).toNat)
                                                    (1 : Int))),
                                              List.take x.snd.snd.snd.snd.snd.snd.snd.snd.snd.snd.fst
                                                (List.drop (0 : Nat) x.snd.snd.snd.snd.fst),
                                              x.snd.snd.snd.snd.snd.fst, x.snd.snd.snd.snd.snd.snd.fst, x.snd.snd.snd.snd.snd.snd.snd.fst,
                                              x.snd.snd.snd.snd.snd.snd.snd.snd.fst, x.snd.snd.snd.snd.snd.snd.snd.snd.snd.fst,
                                              x.snd.snd.snd.snd.snd.snd.snd.snd.snd.snd.fst, ())).bind
                                        fun y91 =>
                                        some
                                          (Sum.inr
                                            ((0 : Int), y91.snd.snd.fst, y91.snd.snd.snd.fst, y91.snd.snd.snd.snd.fst,
                                              y91.snd.snd.snd.snd.snd.fst, y91.snd.snd.snd.snd.snd.snd.fst,
                                              y91.snd.snd.snd.snd.snd.snd.snd.fst, y91.fst, y91.snd.snd.snd.snd.snd.snd.snd.snd.fst, ()))
                                    else none
                                  else none
                                else
                                  bif x.snd.snd.fst then
                                    bif
                                        decide
                                          ((0 : Nat) + x.snd.snd.snd.snd.snd.snd.snd.fst ≤
                                            ((x.snd.snd.snd.fst.set
                                                    ((0 : Nat) +
                                                      (f36 x.snd.snd.snd.snd.snd.fst x.snd.snd.snd.snd.snd.snd.fst
                                                          (List.take x.snd.snd.snd.snd.snd.snd.snd.fst
                                                            (List.drop (0 : Nat) x.snd.snd.snd.fst))
                                                          x.snd.snd.snd.snd.snd.snd.snd.snd.fst x.snd.snd.snd.snd.snd.snd.snd.snd.snd.fst
                                                          (List.take x.snd.snd.snd.snd.snd.snd.snd.snd.snd.snd.fst
                                                            (List.drop (0 : Nat) x.snd.snd.snd.snd.fst))
                                                          x.fst x.snd.fst).toNat)
                                                    (2 : Int)).set
                                                ((0 : Nat) +
                                                  (f36 x.snd.snd.snd.snd.snd.fst x.snd.snd.snd.snd.snd.snd.fst
                                                      (List.take x.snd.snd.snd.snd.snd.snd.snd.fst
                                                        (List.drop (0 : Nat)
                                                          (x.snd.snd.snd.fst.set
                                                            ((0 : Nat) +
                                                              (f36 x.snd.snd.snd.snd.snd.fst x.snd.snd.snd.snd.snd.snd.fst
                                                                  (List.take x.snd.snd.snd.snd.snd.snd.snd.fst
                                                                    (List.drop (0 : Nat) x.snd.snd.snd.fst))
                                                                  x.snd.snd.snd.snd.snd.snd.snd.snd.fst
                                                                  x.snd.snd.snd.snd.snd.snd.snd.snd.snd.fst
                                                                  (List.take x.snd.snd.snd.snd.snd.snd.snd.snd.snd.snd.fst
                                                                    (List.drop (0 : Nat) x.snd.snd.snd.snd.fst))
                                                                  x.fst x.snd.fst).toNat)
                                                            (2 : Int))))
                                                      x.snd.snd.snd.snd.snd.snd.snd.snd.fst x.snd.snd.snd.snd.snd.snd.snd.snd.snd.fst
                                                      (List.take x.snd.snd.snd.snd.snd.snd.snd.snd.snd.snd.fst
                                                        (List.drop (0 : Nat) x.snd.snd.snd.snd.fst))
                                                      x.fst x.snd.fst).toNat)
                                                (1 : Int)).length) then
                                      (f38
                                            (x.snd.snd.snd.snd.snd.fst, x.snd.snd.snd.snd.snd.snd.fst,
                                              List.take x.snd.snd.snd.snd.snd.snd.snd.fst
                                                (List.drop (0 : Nat)
                                                  ((x.snd.snd.snd.fst.set
                                                        ((0 : Nat) +
                                                          (f36 x.snd.snd.snd.snd.snd.fst x.snd.snd.snd.snd.snd.snd.fst
                                                              (List.take x.snd.snd.snd.snd.snd.snd.snd.fst
                                                                (List.drop (0 : Nat) x.snd.snd.snd.fst))
                                                              x.snd.snd.snd.snd.snd.snd.snd.snd.fst
                                                              x.snd.snd.snd.snd.snd.snd.snd.snd.snd.fst
                                                              (List.take x.snd.snd.snd.snd.snd.snd.snd.snd.snd.snd.fst
                                                                (List.drop (0 : Nat) x.snd.snd.snd.snd.fst))
                                                              x.fst x.snd.fst).toNat)
                                                        (2 : Int)).set
                                                    ((0 : Nat) +
                                                      (f36 x.snd.snd.snd.snd.snd.fst x.snd.snd.snd.snd.snd.snd.fst
                                                          (List.take x.snd.snd.snd.snd.snd.snd.snd.fst
                                                            (List.drop (0 : Nat)
                                                              (x.snd.snd.snd.fst.set
                                                                ((0 : Nat) +
                                                                  (f36 x.snd.snd.snd.snd.snd.fst x.snd.snd.snd.snd.snd.snd.fst
                                                                      (List.take x.snd.snd.snd.snd.snd.snd.snd.fst
                                                                        (List.drop (0 : Nat) x.snd.snd.snd.fst))
                                                                      x.snd.snd.snd.snd.snd.snd.snd.snd.fst
                                                                      x.snd.snd.snd.snd.snd.snd.snd.snd.snd.fst
                                                                      (List.take x.snd.snd.snd.snd.snd.snd.snd.snd.snd.snd.fst
                                                                        (List.drop (0 : Nat) x.snd.snd.snd.snd.fst))
                                                                      x.fst x.snd.fst).toNat)
                                                                (2 : Int))))
                                                          x.snd.snd.snd.snd.snd.snd.snd.snd.fst x.snd.snd.snd.snd.snd.snd.snd.snd.snd.fst
                                                          (List.take x.snd.snd.snd.snd.snd.snd.snd.snd.snd.snd.fst
                                                            (List.drop (0 : Nat) x.snd.snd.snd.snd.fst))
                                                          x.fst x.snd.fst).toNat)
                                                    (1 : Int))),
                                              x.fst, x.snd.fst, ())).bind
                                        fun y93 =>
                                        bif
                                            decide
                                              ((0 : Nat) + x.snd.snd.snd.snd.snd.snd.snd.fst ≤
                                                ((x.snd.snd.snd.fst.set
                                                        ((0 : Nat) +
                                                          (f36 x.snd.snd.snd.snd.snd.fst x.snd.snd.snd.snd.snd.snd.fst
                                                              (List.take x.snd.snd.snd.snd.snd.snd.snd.fst
                                                                (List.drop (0 : Nat) x.snd.snd.snd.fst))
                                                              x.snd.snd.snd.snd.snd.snd.snd.snd.fst
                                                              x.snd.snd.snd.snd.snd.snd.snd.snd.snd.fst
                                                              (List.take x.snd.snd.snd.snd.snd.snd.snd.snd.snd.snd.fst
                                                                (List.drop (0 : Nat) x.snd.snd.snd.snd.fst))
                                                              x.fst x.snd.fst).toNat)
                                                        (2 : Int)).set
                                                    ((0 : Nat) +
                                                      (f36 x.snd.snd.snd.snd.snd.fst x.snd.snd.snd.snd.snd.snd.fst
                                                          (List.take x.snd.snd.snd.snd.snd.snd.snd.fst
                                                            (List.drop (0 : Nat)
                                                              (x.snd.snd.snd.fst.set
                                                                ((0 : Nat) +
                                                                  (f36 x.snd.snd.snd.snd.snd.fst x.snd.snd.snd.snd.snd.snd.fst
                                                                      (List.take x.snd.snd.snd.snd.snd.snd.snd.fst
                                                                        (List.drop (0 : Nat) x.snd.snd.snd.fst))
                                                                      x.snd.snd.snd.snd.snd.snd.snd.snd.fst
                                                                      x.snd.snd.snd.snd.snd.snd.snd.snd.snd.fst
                                                                      (List.take x.snd.snd.snd.snd.snd.snd.snd.snd.snd.snd.fst
                                                                        (List.drop (0 : Nat) x.snd.snd.snd.snd.fst))
                                                                      x.fst x.snd.fst).toNat)
                                                                (2 : Int))))
                                                          x.snd.snd.snd.snd.snd.snd.snd.snd.fst x.snd.snd.snd.snd.snd.snd.snd.snd.snd.fst
                                                          (List.take x.snd.snd.snd.snd.snd.snd.snd.snd.snd.snd.fst
                                                            (List.drop (0 : Nat) x.snd.snd.snd.snd.fst))
                                                          x.fst x.snd.fst).toNat)
                                                    (1 : Int)).length) then
                                          bif
                                              decide
                                                ((0 : Nat) + x.snd.snd.snd.snd.snd.snd.snd.snd.snd.snd.fst ≤
                                                  x.snd.snd.snd.snd.fst.length) then
                                            bif decide ((0 : Nat) + y93.fst ≤ y93.snd.fst.length) then
                                              (f37
                                                    (y93.fst,
                                                      List.take x.snd.snd.snd.snd.snd.snd.snd.fst
                                                        (List.drop (0 : Nat)
                                                          ((x.snd.snd.snd.fst.set
                                                                ((0 : Nat) +
                                                                  (f36 x.snd.snd.snd.snd.snd.fst x.snd.snd.snd.snd.snd.snd.fst
                                                                      (List.take x.snd.snd.snd.snd.snd.snd.snd.fst
                                                                        (List.drop (0 : Nat) x.snd.snd.snd.fst))
                                                                      x.snd.snd.snd.snd.snd.snd.snd.snd.fst
                                                                      x.snd.snd.snd.snd.snd.snd.snd.snd.snd.fst
                                                                      (List.take x.snd.snd.snd.snd.snd.snd.snd.snd.snd.snd.fst
                                                                        (List.drop (0 : Nat) x.snd.snd.snd.snd.fst))
                                                                      x.fst x.snd.fst).toNat)
                                                                (2 : Int)).set
                                                            ((0 : Nat) +
                                                              (f36 x.snd.snd.snd.snd.snd.fst x.snd.snd.snd.snd.snd.snd.fst
                                                                  (List.take x.snd.snd.snd.snd.snd.snd.snd.fst
                                                                    (List.drop (0 : Nat)
                                                                      (x.snd.snd.snd.fst.set
                                                                        ((0 : Nat) +
                                                                          (f36 x.snd.snd.snd.snd.snd.fst x.snd.snd.snd.snd.snd.snd.fst
                                                                              (List.take x.snd.snd.snd.snd.snd.snd.snd.fst
                                                                                (List.drop (0 : Nat) x.snd.snd.snd.fst))
                                                                              x.snd.snd.snd.snd.snd.snd.snd.snd.fst
                                                                              x.snd.snd.snd.snd.snd.snd.snd.snd.snd.fst
                                                                              (List.take x.snd.snd.snd.snd.snd.snd.snd.snd.snd.snd.fst
                                                                                (List.drop (0 : Nat) x.snd.snd.snd.snd.fst))
                                                                              x.fst x.snd.fst).toNat)
                                                                        (2 : Int))))
                                                                  x.snd.snd.snd.snd.snd.snd.snd.snd.fst
                                                                  x.snd.snd.snd.snd.snd.snd.snd.snd.snd.fst
                                                                  (List.take x.snd.snd.snd.snd.snd.snd.snd.snd.snd.snd.fst
                                                                    (List.drop (0 : Nat) x.snd.snd.snd.snd.fst))
                                                                  x.fst x.snd.fst).toNat)
                                                            (1 : Int))),
                                                      List.take x.snd.snd.snd.snd.snd.snd.snd.snd.snd.snd.fst
                                                        (List.drop (0 : Nat) x.snd.snd.snd.snd.fst),
                                                      x.snd.snd.snd.snd.snd.fst, x.snd.snd.snd.snd.snd.snd.fst,
                                                      x.snd.snd.snd.snd.snd.snd.snd.fst, x.snd.snd.snd.snd.snd.snd.snd.snd.fst,
                                                      x.snd.snd.snd.snd.snd.snd.snd.snd.snd.fst,
                                                      x.snd.snd.snd.snd.snd.snd.snd.snd.snd.snd.fst,
                                                      List.take y93.fst (List.drop (0 : Nat) y93.snd.fst), ())).bind
                                                fun y92 =>
                                                some
                                                  (Sum.inr
                                                    ((0 : Int), y92.snd.snd.fst, y92.snd.snd.snd.fst, y92.snd.snd.snd.snd.fst,
                                                      y92.snd.snd.snd.snd.snd.fst, y92.snd.snd.snd.snd.snd.snd.fst,
                                                      y92.snd.snd.snd.snd.snd.snd.snd.fst, y92.fst, y92.snd.fst, ()))
                                            else none
                                          else none
                                        else none
                                    else none
                                  else
                                    bif
                                        decide
                                          ((0 : Nat) + x.snd.snd.snd.snd.snd.snd.snd.fst ≤
                                            ((x.snd.snd.snd.fst.set
                                                    ((0 : Nat) +
                                                      (f36 x.snd.snd.snd.snd.snd.fst x.snd.snd.snd.snd.snd.snd.fst
                                                          (List.take x.snd.snd.snd.snd.snd.snd.snd.fst
                                                            (List.drop (0 : Nat) x.snd.snd.snd.fst))
                                                          x.snd.snd.snd.snd.snd.snd.snd.snd.fst x.snd.snd.snd.snd.snd.snd.snd.snd.snd.fst
                                                          (List.take x.snd.snd.snd.snd.snd.snd.snd.snd.snd.snd.fst
                                                            (List.drop (0 : Nat) x.snd.snd.snd.snd.fst))
                                                          x.fst x.snd.fst).toNat)
                                                    (2 : Int)).set
                                                ((0 : Nat) +
                                                  (f36 x.snd.snd.snd.snd.snd.fst x.snd.snd.snd.snd.snd.snd.fst
                                                      (List.take x.snd.snd.snd.snd.snd.snd.snd.fst
                                                        (List.drop (0 : Nat)
                                                          (x.snd.snd.snd.fst.set
                                                            ((0 : Nat) +
                                                              (f36 x.snd.snd.snd.snd.snd.fst x.snd.snd.snd.snd.snd.snd.fst
                                                                  (List.take x.snd.snd.snd.snd.snd.snd.snd.fst
                                                                    (List.drop (0 : Nat) x.snd.snd.snd.fst))
                                                                  x.snd.snd.snd.snd.snd.snd.snd.snd.fst
                                                                  x.snd.snd.snd.snd.snd.snd.snd.snd.snd.fst
                                                                  (List.take x.snd.snd.snd.snd.snd.snd.snd.snd.snd.snd.fst
                                                                    (List.drop (0 : Nat) x.snd.snd.snd.snd.fst))
                                                                  x.fst x.snd.fst).toNat)
                                                            (2 : Int))))
                                                      x.snd.snd.snd.snd.snd.snd.snd.snd.fst x.snd.snd.snd.snd.snd.snd.snd.snd.snd.fst
                                                      (List.take x.snd.snd.snd.snd.snd.snd.snd.snd.snd.snd.fst
                                                        (List.drop (0 : Nat) x.snd.snd.snd.snd.fst))
                                                      x.fst x.snd.fst).toNat)
                                                (1 : Int)).length) then
                                      (f38
                                            (x.snd.snd.snd.snd.snd.fst, x.snd.snd.snd.snd.snd.snd.fst,
                                              List.take x.snd.snd.snd.snd.snd.snd.snd.fst
                                                (List.drop (0 : Nat)
                                                  ((x.snd.snd.snd.fst.set
                                                        ((0 : Nat) +
                                                          (f36 x.snd.snd.snd.snd.snd.fst x.snd.snd.snd.snd.snd.snd.fst
                                                              (List.take x.snd.snd.snd.snd.snd.snd.snd.fst
                                                                (List.drop (0 : Nat) x.snd.snd.snd.fst))
                                                              x.snd.snd.snd.snd.snd.snd.snd.snd.fst
                                                              x.snd.snd.snd.snd.snd.snd.snd.snd.snd.fst
                                                              (List.take x.snd.snd.snd.snd.snd.snd.snd.snd.snd.snd.fst
                                                                (List.drop (0 : Nat) x.snd.snd.snd.snd.fst))
                                                              x.fst x.snd.fst).toNat)
                                                        (2 : Int)).set
                                                    ((0 : Nat) +
                                                      (f36 x.snd.snd.snd.snd.snd.fst x.snd.snd.snd.snd.snd.snd.fst
                                                          (List.take x.snd.snd.snd.snd.snd.snd.snd.fst
                                                            (List.drop (0 : Nat)
                                                              (x.snd.snd.snd.fst.set
                                                                ((0 : Nat) +
                                                                  (f36 x.snd.snd.snd.snd.snd.fst x.snd.snd.snd.snd.snd.snd.fst
                                                                      (List.take x.snd.snd.snd.snd.snd.snd.snd.fst
                                                                        (List.drop (0 : Nat) x.snd.snd.snd.fst))
                                                                      x.snd.snd.snd.snd.snd.snd.snd.snd.fst
                                                                      x.snd.snd.snd.snd.snd.snd.snd.snd.snd.fst
                                                                      (List.take x.snd.snd.snd.snd.snd.snd.snd.snd.snd.snd.fst
                                                                        (List.drop (0 : Nat) x.snd.snd.snd.snd.fst))
                                                                      x.fst x.snd.fst).toNat)
                                                                (2 : Int))))
                                                          x.snd.snd.snd.snd.snd.snd.snd.snd.fst x.snd.snd.snd.snd.snd.snd.snd.snd.snd.fst
                                                          (List.take x.snd.snd.snd.snd.snd.snd.snd.snd.snd.snd.fst
                                                            (List.drop (0 : Nat) x.snd.snd.snd.snd.fst))
                                                          x.fst x.snd.fst).toNat)
                                                    (1 : Int))),
                                              x.fst, x.snd.fst, ())).bind
                                        fun y95 =>
                                        bif
                                            decide
                                              ((0 : Nat) + x.snd.snd.snd.snd.snd.snd.snd.fst ≤
                                                ((x.snd.snd.snd.fst.set
                                                        ((0 : Nat) +
                                                          (f36 x.snd.snd.snd.snd.snd.fst x.snd.snd.snd.snd.snd.snd.fst
                                                              (List.take x.snd.snd.snd.snd.snd.snd.snd.fst
                                                                (List.drop (0 : Nat) x.snd.snd.snd.fst))
                                                              x.snd.snd.snd.snd.snd.snd.snd.snd.fst
                                                              x.snd.snd.snd.snd.snd.snd.snd.snd.snd.fst
                                                              (List.take x.snd.snd.snd.snd.snd.snd.snd.snd.snd.snd.fst
                                                                (List.drop (0 : Nat) x.snd.snd.snd.snd.fst))
                                                              x.fst x.snd.fst).toNat)
                                                        (2 : Int)).set
                                                    ((0 : Nat) +
                                                      (f36 x.snd.snd.snd.snd.snd.fst x.snd.snd.snd.snd.snd.snd.fst
                                                          (List.take x.snd.snd.snd.snd.snd.snd.snd.fst
                                                            (List.drop (0 : Nat)
                                                              (x.snd.snd.snd.fst.set
                                                                ((0 : Nat) +
                                                                  (f36 x.snd.snd.snd.snd.snd.fst x.snd.snd.snd.snd.snd.snd.fst
                                                                      (List.take x.snd.snd.snd.snd.snd.snd.snd.fst
                                                                        (List.drop (0 : Nat) x.snd.snd.snd.fst))
                                                                      x.snd.snd.snd.snd.snd.snd.snd.snd.fst
                                                                      x.snd.snd.snd.snd.snd.snd.snd.snd.snd.fst
                                                                      (List.take x.snd.snd.snd.snd.snd.snd.snd.snd.snd.snd.fst
                                                                        (List.drop (0 : Nat) x.snd.snd.snd.snd.fst))
                                                                      x.fst x.snd.fst).toNat)
                                                                (2 : Int))))
                                                          x.snd.snd.snd.snd.snd.snd.snd.snd.fst x.snd.snd.snd.snd.snd.snd.snd.snd.snd.fst
                                                          (List.take x.snd.snd.snd.snd.snd.snd.snd.snd.snd.snd.fst
                                                            (List.drop (0 : Nat) x.snd.snd.snd.snd.fst))
                                                          x.fst x.snd.fst).toNat)
                                                    (1 : Int)).length) then
                                          bif
                                              decide
                                                ((0 : Nat) + x.snd.snd.snd.snd.snd.snd.snd.snd.snd.snd.fst ≤
                                                  x.snd.snd.snd.snd.fst.length) then
                                            bif decide ((0 : Nat) + y95.fst ≤ y95.snd.fst.length) then
                                              (f39
                                                    (y95.fst,
                                                      List.take x.snd.snd.snd.snd.snd.snd.snd.fst
                                                        (List.drop (0 : Nat)
                                                          ((x.snd.snd.snd.fst.set
                                                                ((0 : Nat) +
                                                                  (f36 x.snd.snd.snd.snd.snd.fst x.snd.snd.snd.snd.snd.snd.fst
                                                                      (List.take x.snd.snd.snd.snd.snd.snd.snd.fst
                                                                        (List.drop (0 : Nat) x.snd.snd.snd.fst))
                                                                      x.snd.snd.snd.snd.snd.snd.snd.snd.fst
                                                                      x.snd.snd.snd.snd.snd.snd.snd.snd.snd.fst
                                                                      (List.take x.snd.snd.snd.snd.snd.snd.snd.snd.snd.snd.fst
                                                                        (List.drop (0 : Nat) x.snd.snd.snd.snd.fst))
                                                                      x.fst x.snd.fst).toNat)
                                                                (2 : Int)).set
                                                            ((0 : Nat) +
                                                              (f36 x.snd.snd.snd.snd.snd.fst x.snd.snd.snd.snd.snd.snd.fst
                                                                  (List.take x.snd.snd.snd.snd.snd.snd.snd.fst
                                                                    (List.drop (0 : Nat)
                                                                      (x.snd.snd.snd.fst.set
                                                                        ((0 : Nat) +
                                                                          (f36 x.snd.snd.snd.snd.snd.fst x.snd.snd.snd.snd.snd.snd.fst
                                                                              (List.take x.snd.snd.snd.snd.snd.snd.snd.fst
                                                                                (List.drop (0 : Nat) x.snd.snd.snd.fst))
                                                                              x.snd.snd.snd.snd.snd.snd.snd.snd.fst
                                                                              x.snd.snd.snd.snd.snd.snd.snd.snd.snd.fst
                                                                              (List.take x.snd.snd.snd.snd.snd.snd.snd.snd.snd.snd.fst
                                                                                (List.drop (0 : Nat) x.snd.snd.snd.snd.fst))
                                                                              x.fst x.snd.fst).toNat)
                                                                        (2 : Int))))
                                                                  x.snd.snd.snd.snd.snd.snd.snd.snd.fst
                                                                  x.snd.snd.snd.snd.snd.snd.snd.snd.snd.fst
                                                                  (List.take x.snd.snd.snd.snd.snd.snd.snd.snd.snd.snd.fst
                                                                    (List.drop (0 : Nat) x.snd.snd.snd.snd.fst))
                                                                  x.fst x.snd.fst).toNat)
                                                            (1 : Int))),
                                                      List.take x.snd.snd.snd.snd.snd.snd.snd.snd.snd.snd.fst
                                                        (List.drop (0 : Nat) x.snd.snd.snd.snd.fst),
                                                      x.snd.snd.snd.snd.snd.fst, x.snd.snd.snd.snd.snd.snd.fst,
                                                      x.snd.snd.snd.snd.snd.snd.snd.fst, x.snd.snd.snd.snd.snd.snd.snd.snd.fst,
                                                      x.snd.snd.snd.snd.snd.snd.snd.snd.snd.fst,
                                                      x.snd.snd.snd.snd.snd.snd.snd.snd.snd.snd.fst,
                                                      List.take y95.fst (List.drop (0 : Nat) y95.snd.fst), ())).bind
                                                fun y94 =>
                                                some
                                                  (Sum.inr
                                                    ((0 : Int), y94.fst, y94.snd.fst, y94.snd.snd.fst, y94.snd.snd.snd.fst,
                                                      y94.snd.snd.snd.snd.fst, y94.snd.snd.snd.snd.snd.fst, y94.snd.snd.snd.snd.snd.snd.fst,
                                                      y94.snd.snd.snd.snd.snd.snd.snd.fst, ()))
                                            else none
                                          else none
                                        else none
                                    else none
                          else none
                        else none
                      else none
                    else
                      bif (y103 == (1 : Int)) == x.snd.snd.fst then
                        some
                          (Sum.inl
                            ((0 : Int),
                              x.snd.snd.snd.fst.set
                                ((0 : Nat) +
                                  (f36 x.snd.snd.snd.snd.snd.fst x.snd.snd.snd.snd.snd.snd.fst
                                      (List.take x.snd.snd.snd.snd.snd.snd.snd.fst (List.drop (0 : Nat) x.snd.snd.snd.fst))
                                      x.snd.snd.snd.snd.snd.snd.snd.snd.fst x.snd.snd.snd.snd.snd.snd.snd.snd.snd.fst
                                      (List.take x.snd.snd.snd.snd.snd.snd.snd.snd.snd.snd.fst (List.drop (0 : Nat) x.snd.snd.snd.snd.fst))
                                      x.fst x.snd.fst).toNat)
                                (2 : Int),
                              x.snd.snd.snd.snd.fst, x.snd.snd.snd.snd.snd.fst, x.snd.snd.snd.snd.snd.snd.fst,
                              x.snd.snd.snd.snd.snd.snd.snd.fst, x.snd.snd.snd.snd.snd.snd.snd.snd.fst,
                              x.snd.snd.snd.snd.snd.snd.snd.snd.snd.fst, x.snd.snd.snd.snd.snd.snd.snd.snd.snd.snd.fst, ()))
                      else
                        bif
                            bif x.fst == x.snd.snd.snd.snd.snd.snd.snd.snd.fst then
                              bif x.snd.fst == x.snd.snd.snd.snd.snd.snd.snd.snd.snd.fst then true else false
                            else false then
                          bif
                              decide
                                ((0 : Nat) + x.snd.snd.snd.snd.snd.snd.snd.fst ≤
                                  (x.snd.snd.snd.fst.set
                                      ((0 : Nat) +
                                        (f36 x.snd.snd.snd.snd.snd.fst x.snd.snd.snd.snd.snd.snd.fst
                                            (List.take x.snd.snd.snd.snd.snd.snd.snd.fst (List.drop (0 : Nat) x.snd.snd.snd.fst))
                                            x.snd.snd.snd.snd.snd.snd.snd.snd.fst x.snd.snd.snd.snd.snd.snd.snd.snd.snd.fst
                                            (List.take x.snd.snd.snd.snd.snd.snd.snd.snd.snd.snd.fst
                                              (List.drop (0 : Nat) x.snd.snd.snd.snd.fst))
                                            x.fst x.snd.fst).toNat)
                                      (2 : Int)).length) then
                            bif decide ((0 : Nat) + x.snd.snd.snd.snd.snd.snd.snd.snd.snd.snd.fst ≤ x.snd.snd.snd.snd.fst.length) then
                              (f35
                                    (List.take x.snd.snd.snd.snd.snd.snd.snd.fst
                                        (List.drop (0 : Nat)
                                          (x.snd.snd.snd.fst.set
                                            ((0 : Nat) +
                                              (f36 x.snd.snd.snd.snd.snd.fst x.snd.snd.snd.snd.snd.snd.fst
                                                  (List.take x.snd.snd.snd.snd.snd.snd.snd.fst (List.drop (0 : Nat) x.snd.snd.snd.fst))
                                                  x.snd.snd.snd.snd.snd.snd.snd.snd.fst x.snd.snd.snd.snd.snd.snd.snd.snd.snd.fst
                                                  (List.take x.snd.snd.snd.snd.snd.snd.snd.snd.snd.snd.fst
                                                    (List.drop (0 : Nat) x.snd.snd.snd.snd.fst))
                                                  x.fst x.snd.fst).toNat)
                                            (2 : Int))),
                                      List.take x.snd.snd.snd.snd.snd.snd.snd.snd.snd.snd.fst (List.drop (0 : Nat) x.snd.snd.snd.snd.fst),
                                      x.snd.snd.snd.snd.snd.fst, x.snd.snd.snd.snd.snd.snd.fst, x.snd.snd.snd.snd.snd.snd.snd.fst,
                                      x.snd.snd.snd.snd.snd.snd.snd.snd.fst, x.snd.snd.snd.snd.snd.snd.snd.snd.snd.fst,
                                      x.snd.snd.snd.snd.snd.snd.snd.snd.snd.snd.fst, ())).bind
                                fun y97 =>
                                some
                                  (Sum.inr
                                    ((0 : Int), y97.snd.snd.fst, y97.snd.snd.snd.fst, y97.snd.snd.snd.snd.fst, y97.snd.snd.snd.snd.snd.fst,
                                      y97.snd.snd.snd.snd.snd.snd.fst, y97.snd.snd.snd.snd.snd.snd.snd.fst, y97.fst,
                                      y97.snd.snd.snd.snd.snd.snd.snd.snd.fst, ()))
                            else none
                          else none
                        else
                          bif x.snd.snd.fst then
                            bif
                                decide
                                  ((0 : Nat) + x.snd.snd.snd.snd.snd.snd.snd.fst ≤
                                    (x.snd.snd.snd.fst.set
                                        ((0 : Nat) +
                                          (f36 x.snd.snd.snd.snd.snd.fst x.snd.snd.snd.snd.snd.snd.fst
                                              (List.take x.snd.snd.snd.snd.snd.snd.snd.fst (List.drop (0 : Nat) x.snd.snd.snd.fst))
                                              x.snd.snd.snd.snd.snd.snd.snd.snd.fst x.snd.snd.snd.snd.snd.snd.snd.snd.snd.fst
                                              (List.take x.snd.snd.snd.snd.snd.snd.snd.snd.snd.snd.fst
                                                (List.drop (0 : Nat) x.snd.snd.snd.snd.fst))
                                              x.fst x.snd.fst).toNat)
                                        (2 : Int)).length) then
                              (f38
                                    (x.snd.snd.snd.snd.snd.fst, x.snd.snd.snd.snd.snd.snd.fst,
                                      List.take x.snd.snd.snd.snd.snd.snd.snd.fst
                                        (List.drop (0 : Nat)
                                          (x.snd.snd.snd.fst.set
                                            ((0 : Nat) +
                                              (f36 x.snd.snd.snd.snd.snd.fst x.snd.snd.snd.snd.snd.snd.fst
                                                  (List.take x.snd.snd.snd.snd.snd.snd.snd.fst (List.drop (0 : Nat) x.snd.snd.snd.fst))
                                                  x.snd.snd.snd.snd.snd.snd.snd.snd.fst x.snd.snd.snd.snd.snd.snd.snd.snd.snd.fst
                                                  (List.take x.snd.snd.snd.snd.snd.snd.snd.snd.snd.snd.fst
                                                    (List.drop (0 : Nat) x.snd.snd.snd.snd.fst))
                                                  x.fst x.snd.fst).toNat)
                                            (2 : Int))),
                                      x.fst, x.snd.fst, ())).bind
                                fun y99 =>
                                bif
                                    decide
                                      ((0 : Nat) + x.snd.snd.snd.snd.snd.snd.snd.fst ≤
                                        (x.snd.snd.snd.fst.set
                                            ((0 : Nat) +
                                              (f36 x.snd.snd.snd.snd.snd.fst x.snd.snd.snd.snd.snd.snd.fst
                                                  (List.take x.snd.snd.snd.snd.snd.snd.snd.fst (List.drop (0 : Nat) x.snd.snd.snd.fst))
                                                  x.snd.snd.snd.snd.snd.snd.snd.snd.fst x.snd.snd.snd.snd.snd.snd.snd.snd.snd.fst
                                                  (List.take x.snd.snd.snd.snd.snd.snd.snd.snd.snd.snd.fst
                                                    (List.drop (0 : Nat) x.snd.snd.snd.snd.fst))
                                                  x.fst x.snd.fst).toNat)
                                            (2 : Int)).length) then
                                  bif decide ((0 : Nat) + x.snd.snd.snd.snd.snd.snd.snd.snd.snd.snd.fst ≤ x.snd.snd.snd.snd.fst.length) then
                                    bif decide ((0 : Nat) + y99.fst ≤ y99.snd.fst.length) then
                                      (f37
                                            (y99.fst,
                                              List.take x.snd.snd.snd.snd.snd.snd.snd.fst
                                                (List.drop (0 : Nat)
                                                  (x.snd.snd.snd.fst.set
                                                    ((0 : Nat) +
                                                      (f36 x.snd.snd.snd.snd.snd.fst x.snd.snd.snd.snd.snd.snd.fst
                                                          (List.take x.snd.snd.snd.snd.snd.snd.snd.fst
                                                            (List.drop (0 : Nat) x.snd.snd.snd.fst))
                                                          x.snd.snd.snd.snd.snd.snd.snd.snd.fst x.snd.snd.snd.snd.snd.snd.snd.snd.snd.fst
                                                          (List.take x.snd.snd.snd.snd.snd.snd.snd.snd.snd.snd.fst
                                                            (List.drop (0 : Nat) x.snd.snd.snd.snd.fst))
                                                          x.fst x.snd.fst).toNat)
                                                    (2 : Int))),
                                              List.take x.snd.snd.snd.snd.snd.snd.snd.snd.snd.snd.fst
                                                (List.drop (0 : Nat) x.snd.snd.snd.snd.fst),
                                              x.snd.snd.snd.snd.snd.fst, x.snd.snd.snd.snd.snd.snd.fst, x.snd.snd.snd.snd.snd.snd.snd.fst,
                                              x.snd.snd.snd.snd.snd.snd.snd.snd.fst, x.snd.snd.snd.snd.snd.snd.snd.snd.snd.fst,
                                              x.snd.snd.snd.snd.snd.snd.snd.snd.snd.snd.fst,
                                              List.take y99.fst (List.drop (0 : Nat) y99.snd.fst), ())).bind
                                        fun y98 =>
                                        some
                                          (Sum.inr
                                            ((0 : Int), y98.snd.snd.fst, y98.snd.snd.snd.fst, y98.snd.snd.snd.snd.fst,
                                              y98.snd.snd.snd.snd.snd.fst, y98.snd.snd.snd.snd.snd.snd.fst,
                                              y98.snd.snd.snd.snd.snd.snd.snd.fst, y98.fst, y98.snd.fst, ()))
                                    else none
                                  else none
                                else none
                            else none
                          else
                            bif
                                decide
                                  ((0 : Nat) + x.snd.snd.snd.snd.snd.snd.snd.fst ≤
                                    (x.snd.snd.snd.fst.set
                                        ((0 : Nat) +
                                          (f36 x.snd.snd.snd.snd.snd.fst x.snd.snd.snd.snd.snd.snd.fst
                                              (List.take x.snd.snd.snd.snd.snd.snd.snd.fst (List.drop (0 : Nat) x.snd.snd.snd.fst))
                                              x.snd.snd.snd.snd.snd.snd.snd.snd.fst x.snd.snd.snd.snd.snd.snd.snd.snd.snd.fst
                                              (List.take x.snd.snd.snd.snd.snd.snd.snd.snd.snd.snd.fst
                                                (List.drop (0 : Nat) x.snd.snd.snd.snd.fst))
                                              x.fst x.snd.fst).toNat)
                                        (2 : Int)).length) then
                              (f38
                                    (x.snd.snd.snd.snd.snd.fst, x.snd.snd.snd.snd.snd.snd.fst,
                                      List.take x.snd.snd.snd.snd.snd.snd.snd.fst
                                        (List.drop (0 : Nat)
                                          (x.snd.snd.snd.fst.set
                                            ((0 : Nat) +
                                              (f36 x.snd.snd.snd.snd.snd.fst x.snd.snd.snd.snd.snd.snd.fst
                                                  (List.take x.snd.snd.snd.snd.snd.snd.snd.fst (List.drop (0 : Nat) x.snd.snd.snd.fst))
                                                  x.snd.snd.snd.snd.snd.snd.snd.snd.fst x.snd.snd.snd.snd.snd.snd.snd.snd.snd.fst
                                                  (List.take x.snd.snd.snd.snd.snd.snd.snd.snd.snd.snd.fst
                                                    (List.drop (0 : Nat) x.snd.snd.snd.snd.fst))
                                                  x.fst x.snd.fst).toNat)
                                            (2 : Int))),
                                      x.fst, x.snd.fst, ())).bind
                                fun y101 =>
                                bif
                                    decide
                                      ((0 : Nat) + x.snd.snd.snd.snd.snd.snd.snd.fst ≤
                                        (x.snd.snd.snd.fst.set
                                            ((0 : Nat) +
                                              (f36 x.snd.snd.snd.snd.snd.fst x.snd.snd.snd.snd.snd.snd.fst
                                                  (List.take x.snd.snd.snd.snd.snd.snd.snd.fst (List.drop (0 : Nat) x.snd.snd.snd.fst))
                                                  x.snd.snd.snd.snd.snd.snd.snd.snd.fst x.snd.snd.snd.snd.snd.snd.snd.snd.snd.fst
                                                  (List.take x.snd.snd.snd.snd.snd.snd.snd.snd.snd.snd.fst
                                                    (List.drop (0 : Nat) x.snd.snd.snd.snd.fst))
                                                  x.fst x.snd.fst).toNat)
                                            (2 : Int)).length) then
                                  bif decide ((0 : Nat) + x.snd.snd.snd.snd.snd.snd.snd.snd.snd.snd.fst ≤ x.snd.snd.snd.snd.fst.length) then
                                    bif decide ((0 : Nat) + y101.fst ≤ y101.snd.fst.length) then
                                      (f39
                                            (y101.fst,
                                              List.take x.snd.snd.snd.snd.snd.snd.snd.fst
                                                (List.drop (0 : Nat)
                                                  (x.snd.snd.snd.fst.set
                                                    ((0 : Nat) +
                                                      (f36 x.snd.snd.snd.snd.snd.fst x.snd.snd.snd.snd.snd.snd.fst
                                                          (List.take x.snd.snd.snd.snd.snd.snd.snd.fst
                                                            (List.drop (0 : Nat) x.snd.snd.snd.fst))
                                                          x.snd.snd.snd.snd.snd.snd.snd.snd.fst x.snd.snd.snd.snd.snd.snd.snd.snd.snd.fst
                                                          (List.take x.snd.snd.snd.snd.snd.snd.snd.snd.snd.snd.fst
                                                            (List.drop (0 : Nat) x.snd.snd.snd.snd.fst))
                                                          x.fst x.snd.fst).toNat)
                                                    (2 : Int))),
                                              List.take x.snd.snd.snd.snd.snd.snd.snd.snd.snd.snd.fst
                                                (List.drop (0 : Nat) x.snd.snd.snd.snd.fst),
                                              x.snd.snd.snd.snd.snd.fst, x.snd.snd.snd.snd.snd.snd.fst, x.snd.snd.snd.snd.snd.snd.snd.fst,
                                              x.snd.snd.snd.snd.snd.snd.snd.snd.fst, x.snd.snd.snd.snd.snd.snd.snd.snd.snd.fst,
                                              x.snd.snd.snd.snd.snd.snd.snd.snd.snd.snd.fst,
                                              List.take y101.fst (List.drop (0 : Nat) y101.snd.fst), ())).bind
                                        fun y100 =>
                                        some
                                          (Sum.inr
                                            ((0 : Int), y100.fst, y100.snd.fst, y100.snd.snd.fst, y100.snd.snd.snd.fst,
                                              y100.snd.snd.snd.snd.fst, y100.snd.snd.snd.snd.snd.fst, y100.snd.snd.snd.snd.snd.snd.fst,
                                              y100.snd.snd.snd.snd.snd.snd.snd.fst, ()))
                                    else none
                                  else none
                                else none
                            else none
                else none
              else none
            else none
        else none
      else none
    else none
else none
noncomputable def F16 : CF tC := mkF tC S16 f16
theorem f16_run : ∀ a, fnS tC G16 (look []) Try.f16 S16 a = f16 a := fun a => by kernel_rfl
theorem F16_ok : CFOK tC 16 F16 := mkF_ok Y16 (fn := Try.f16) (body := bodyOf Try.f16) (by kernel_rfl) (by kernel_rfl) (by kernel_rfl) (m := 3) rfl (lam_le lam_nil) f16_run

/-! Move -/
noncomputable def G21 : FuncId → Option (CF tC) := look [(33, F33), (35, F35)]
theorem Y21 : SysN tC G21 := (sys_cons F33_ok (mkF_nat _ _) (sys_cons F35_ok (mkF_nat _ _) (sys_nil tC_ok tC_eq)))
def S21 : FS := ⟨[[.p], [.v, .v]], [⟨[.one (.one (.ptr 2 0 0)), .one (.agg [.int .i64, .int .i64])], [.arr 5, .arr 3, .box [.int .i64, .int .i64, .sl 0, .int .i64, .int .i64, .sl 1]]⟩], [⟨[vI], [.arr 5, .arr 3, .box [.int .i64, .int .i64, .sl 0, .int .i64, .int .i64, .sl 1]]⟩, ⟨[vI], [.gone, .gone, .box [.int .i64, .int .i64, .sl 3, .int .i64, .int .i64, .sl 4], .arr 5, .arr 3]⟩], [[.v]], []⟩
noncomputable def f21 (x : Int × Int × List Int × List Int × Int × Int × Nat × Int × Int × Nat × Unit) : Option
  (Int × List Int × List Int × Int × Int × Nat × Int × Int × Nat × Unit ⊕
    Int × Int × Int × Nat × Int × Int × Nat × List Int × List Int × Unit) :=
  bif decide ((0 : Nat) + x.snd.snd.snd.snd.snd.snd.fst ≤ x.snd.snd.fst.length) then
  bif
      !f33 x.snd.snd.snd.snd.fst x.snd.snd.snd.snd.snd.fst (List.take x.snd.snd.snd.snd.snd.snd.fst (List.drop (0 : Nat) x.snd.snd.fst))
          x.fst x.snd.fst then
    some
      (Sum.inl
        ((7 : Int), x.snd.snd.fst, x.snd.snd.snd.fst, x.snd.snd.snd.snd.fst, x.snd.snd.snd.snd.snd.fst, x.snd.snd.snd.snd.snd.snd.fst,
          x.snd.snd.snd.snd.snd.snd.snd.fst, x.snd.snd.snd.snd.snd.snd.snd.snd.fst, x.snd.snd.snd.snd.snd.snd.snd.snd.snd.fst, ()))
  else
    bif decide ((0 : Nat) + x.snd.snd.snd.snd.snd.snd.fst ≤ x.snd.snd.fst.length) then
      bif decide ((0 : Nat) + x.snd.snd.snd.snd.snd.snd.snd.snd.snd.fst ≤ x.snd.snd.snd.fst.length) then
        (f35
              (List.take x.snd.snd.snd.snd.snd.snd.fst (List.drop (0 : Nat) x.snd.snd.fst),
                List.take x.snd.snd.snd.snd.snd.snd.snd.snd.snd.fst (List.drop (0 : Nat) x.snd.snd.snd.fst), x.snd.snd.snd.snd.fst,
                x.snd.snd.snd.snd.snd.fst, x.snd.snd.snd.snd.snd.snd.fst, x.fst, x.snd.fst, x.snd.snd.snd.snd.snd.snd.snd.snd.snd.fst,
                ())).bind
          fun y38 =>
          some
            (Sum.inr
              ((0 : Int), y38.snd.snd.fst, y38.snd.snd.snd.fst, y38.snd.snd.snd.snd.fst, y38.snd.snd.snd.snd.snd.fst,
                y38.snd.snd.snd.snd.snd.snd.fst, y38.snd.snd.snd.snd.snd.snd.snd.fst, y38.fst, y38.snd.snd.snd.snd.snd.snd.snd.snd.fst, ()))
      else none
    else none
else none
noncomputable def F21 : CF tC := mkF tC S21 f21
theorem f21_run : ∀ a, fnS tC G21 (look []) Try.f21 S21 a = f21 a := fun a => by kernel_rfl
theorem F21_ok : CFOK tC 21 F21 := mkF_ok Y21 (fn := Try.f21) (body := bodyOf Try.f21) (by kernel_rfl) (by kernel_rfl) (by kernel_rfl) (m := 3) rfl (lam_le lam_nil) f21_run

/-! Cost -/
noncomputable def G14 : FuncId → Option (CF tC) := look [(33, F33), (36, F36)]
theorem Y14 : SysN tC G14 := (sys_cons F33_ok (mkF_nat _ _) (sys_cons F36_ok (mkF_nat _ _) (sys_nil tC_ok tC_eq)))
def S14 : FS := ⟨[[.q], [.v, .v]], [⟨[.one (.ro [.int .i64, .int .i64, .imm 5, .int .i64, .int .i64, .imm 3]), .one (.agg [.int .i64, .int .i64])], []⟩], [⟨[vI], []⟩], [[.v]], []⟩
noncomputable def f14 (x : Int × Int × List Int × Int × Int × List Int × Int × Int × Unit) : Option (Int × Unit) :=
  bif !f33 x.fst x.snd.fst x.snd.snd.fst x.snd.snd.snd.snd.snd.snd.fst x.snd.snd.snd.snd.snd.snd.snd.fst then some ((-1 : Int), ())
else
  (idxO x.snd.snd.snd.snd.snd.fst
        (f36 x.fst x.snd.fst x.snd.snd.fst x.snd.snd.snd.fst x.snd.snd.snd.snd.fst x.snd.snd.snd.snd.snd.fst x.snd.snd.snd.snd.snd.snd.fst
          x.snd.snd.snd.snd.snd.snd.snd.fst)).bind
    fun y11 => some (y11, ())
noncomputable def F14 : CF tC := mkF tC S14 f14
theorem f14_run : ∀ a, fnS tC G14 (look []) Try.f14 S14 a = f14 a := fun a => by kernel_rfl
theorem F14_ok : CFOK tC 14 F14 := mkF_ok Y14 (fn := Try.f14) (body := bodyOf Try.f14) (by kernel_rfl) (by kernel_rfl) (by kernel_rfl) (m := 0) rfl (lam_le lam_nil) f14_run

/-! Path -/
noncomputable def G15 : FuncId → Option (CF tC) := look [(25, F25)]
theorem Y15 : SysN tC G15 := (sys_cons F25_ok (mkF_nat _ _) (sys_nil tC_ok tC_eq))
def S15 : FS := ⟨[[.q], [.v, .v]], [⟨[.one (.ro [.int .i64, .int .i64, .imm 5, .int .i64, .int .i64, .imm 3]), .one (.agg [.int .i64, .int .i64])], []⟩], [⟨[.tup [.one (.sl 0), .one (.int .i64), .one (.int .i64)]], [.arr 26]⟩], [[.v], [.v], [.v]], [(4, 26)]⟩
noncomputable def f15 (x : Int × Int × List Int × Int × Int × List Int × Int × Int × Unit) : Option (Nat × Int × Int × List Pt × Unit) :=
  (f25
      (x.fst, x.snd.fst, x.snd.snd.fst, x.snd.snd.snd.snd.snd.snd.fst, x.snd.snd.snd.snd.snd.snd.snd.fst, x.snd.snd.snd.fst,
        x.snd.snd.snd.snd.fst, ())).bind
  fun y17 => some (y17.fst, y17.snd.fst, y17.snd.snd.fst, y17.snd.snd.snd.fst, ())
noncomputable def F15 : CF tC := mkF tC S15 f15
theorem f15_run : ∀ a, fnS tC G15 (look []) Try.f15 S15 a = f15 a := fun a => by kernel_rfl
theorem F15_ok : CFOK tC 15 F15 := mkF_ok Y15 (fn := Try.f15) (body := bodyOf Try.f15) (by kernel_rfl) (by kernel_rfl) (by kernel_rfl) (m := 0) rfl (lam_le lam_nil) f15_run

/-! Plan -/
noncomputable def G19 : FuncId → Option (CF tC) := look [(34, F34)]
theorem Y19 : SysN tC G19 := (sys_cons F34_ok (mkF_nat _ _) (sys_nil tC_ok tC_eq))
def S19 : FS := ⟨[[.q]], [⟨[.one (.ro [.int .i64, .int .i64, .imm 5, .int .i64, .int .i64, .imm 3])], []⟩], [⟨[.one (.agg [.int .i64, .int .i64, .sl 0])], [.arr 5]⟩], [[.v, .v, .v]], []⟩
noncomputable def f19 (x : Int × Int × List Int × Int × Int × List Int × Unit) : Option (Int × Int × Nat × List Int × Unit) :=
  (f34 (x.snd.snd.fst, ())).bind fun y13 => some (x.fst, x.snd.fst, y13.fst, y13.snd.fst, ())
noncomputable def F19 : CF tC := mkF tC S19 f19
theorem f19_run : ∀ a, fnS tC G19 (look []) Try.f19 S19 a = f19 a := fun a => by kernel_rfl
theorem F19_ok : CFOK tC 19 F19 := mkF_ok Y19 (fn := Try.f19) (body := bodyOf Try.f19) (by kernel_rfl) (by kernel_rfl) (by kernel_rfl) (m := 0) rfl (lam_le lam_nil) f19_run

/-! Goal -/
noncomputable def G23 : FuncId → Option (CF tC) := look []
theorem Y23 : SysN tC G23 := (sys_nil tC_ok tC_eq)
def S23 : FS := ⟨[[.q]], [⟨[.one (.ro [.int .i64, .int .i64, .imm 5, .int .i64, .int .i64, .imm 3])], []⟩], [⟨[.one (.agg [.int .i64, .int .i64])], []⟩], [[.v, .v]], []⟩
def f23 (_n1 : Int) (_n2 : Int) (_l3 : List Int) (n4 : Int) (n5 : Int) (_l6 : List Int) : Int × Int :=
  (n4, n5)
noncomputable def F23 : CF tC := mkF tC S23 (fun a => some ((f23 a.1 a.2.1 a.2.2.1 a.2.2.2.1 a.2.2.2.2.1 a.2.2.2.2.2.1).1, (f23 a.1 a.2.1 a.2.2.1 a.2.2.2.1 a.2.2.2.2.1 a.2.2.2.2.2.1).2, ()))
def h23 (r : Int × Int) : Option (altTy tE S23.outs) := some (r.1, r.2, ())
theorem f23_run : ∀ a, fnS tC G23 (look []) Try.f23 S23 a = (fun a => some ((f23 a.1 a.2.1 a.2.2.1 a.2.2.2.1 a.2.2.2.2.1 a.2.2.2.2.2.1).1, (f23 a.1 a.2.1 a.2.2.1 a.2.2.2.1 a.2.2.2.2.1 a.2.2.2.2.2.1).2, ())) a := fun a => by
  have key : ∀ (n1 : Int) (n2 : Int) (l3 : List Int) (n4 : Int) (n5 : Int) (l6 : List Int), (h23 (n4, n5)) = h23 (f23 n1 n2 l3 n4 n5 l6) := by
    intros
    unfold f23
    repeat' first | rfl | refine cond_h (g := h23) ?_ ?_
  exact Eq.trans (by kernel_rfl) (key a.1 a.2.1 a.2.2.1 a.2.2.2.1 a.2.2.2.2.1 a.2.2.2.2.2.1)
theorem F23_ok : CFOK tC 23 F23 := mkF_ok Y23 (fn := Try.f23) (body := bodyOf Try.f23) (by kernel_rfl) (by kernel_rfl) (by kernel_rfl) (m := 0) rfl (lam_le lam_nil) f23_run

/-! Clone -/
noncomputable def G27 : FuncId → Option (CF tC) := look [(19, F19), (44, F44)]
theorem Y27 : SysN tC G27 := (sys_cons F19_ok (mkF_nat _ _) (sys_cons F44_ok (mkF_nat _ _) (sys_nil tC_ok tC_eq)))
def S27 : FS := ⟨[[.q]], [⟨[.one (.ro [.int .i64, .int .i64, .imm 5, .int .i64, .int .i64, .imm 3])], []⟩], [⟨[.one (.one (.ptr 0 0 0))], [.box [.int .i64, .int .i64, .sl 1, .int .i64, .int .i64, .sl 2], .arr 5, .arr 3]⟩], [[.v]], []⟩
noncomputable def f27 (x : Int × Int × List Int × Int × Int × List Int × Unit) : Option (Int × Int × Nat × Int × Int × Nat × List Int × List Int × Unit) :=
  (f19 (x.fst, x.snd.fst, x.snd.snd.fst, x.snd.snd.snd.fst, x.snd.snd.snd.snd.fst, x.snd.snd.snd.snd.snd.fst, ())).bind fun y22 =>
  (f44 (x.snd.snd.snd.snd.snd.fst, ())).bind fun y21 =>
    some (y22.fst, y22.snd.fst, y22.snd.snd.fst, x.snd.snd.snd.fst, x.snd.snd.snd.snd.fst, y21.fst, y22.snd.snd.snd.fst, y21.snd.fst, ())
noncomputable def F27 : CF tC := mkF tC S27 f27
theorem f27_run : ∀ a, fnS tC G27 (look []) Try.f27 S27 a = f27 a := fun a => by kernel_rfl
theorem F27_ok : CFOK tC 27 F27 := mkF_ok Y27 (fn := Try.f27) (body := bodyOf Try.f27) (by kernel_rfl) (by kernel_rfl) (by kernel_rfl) (m := 0) rfl (lam_le lam_nil) f27_run

/-! do -/
noncomputable def G22 : FuncId → Option (CF tC) := look [(21, F21), (16, F16)]
theorem Y22 : SysN tC G22 := (sys_cons F21_ok (mkF_nat _ _) (sys_cons F16_ok (mkF_nat _ _) (sys_nil tC_ok tC_eq)))
def S22 : FS := ⟨[[.p], [.v, .v, .v]], [⟨[.one (.one (.ptr 2 0 0)), .one (.agg [.int .u8, .int .i64, .int .i64])], [.arr 5, .arr 3, .box [.int .i64, .int .i64, .sl 0, .int .i64, .int .i64, .sl 1]]⟩], [⟨[vI], [.gone, .gone, .box [.int .i64, .int .i64, .sl 3, .int .i64, .int .i64, .sl 4], .arr 5, .arr 3]⟩], [[.v]], []⟩
noncomputable def f22 (x : Int × Int × Int × List Int × List Int × Int × Int × Nat × Int × Int × Nat × Unit) : Option (Int × Int × Int × Nat × Int × Int × Nat × List Int × List Int × Unit) :=
  bif x.fst.tmod (3 : Int) == (2 : Int) then
  bif decide ((0 : Nat) + x.snd.snd.snd.snd.snd.snd.snd.fst ≤ x.snd.snd.snd.fst.length) then
    bif decide ((0 : Nat) + x.snd.snd.snd.snd.snd.snd.snd.snd.snd.snd.fst ≤ x.snd.snd.snd.snd.fst.length) then
      (f21
            (x.snd.fst, x.snd.snd.fst, List.take x.snd.snd.snd.snd.snd.snd.snd.fst (List.drop (0 : Nat) x.snd.snd.snd.fst),
              List.take x.snd.snd.snd.snd.snd.snd.snd.snd.snd.snd.fst (List.drop (0 : Nat) x.snd.snd.snd.snd.fst),
              x.snd.snd.snd.snd.snd.fst, x.snd.snd.snd.snd.snd.snd.fst, x.snd.snd.snd.snd.snd.snd.snd.fst,
              x.snd.snd.snd.snd.snd.snd.snd.snd.fst, x.snd.snd.snd.snd.snd.snd.snd.snd.snd.fst,
              x.snd.snd.snd.snd.snd.snd.snd.snd.snd.snd.fst, ())).bind
        fun y59 =>
        Sum.elim
          (fun y57 =>
            some
              (y57.fst, y57.snd.snd.snd.fst, y57.snd.snd.snd.snd.fst, y57.snd.snd.snd.snd.snd.fst, y57.snd.snd.snd.snd.snd.snd.fst,
                y57.snd.snd.snd.snd.snd.snd.snd.fst, y57.snd.snd.snd.snd.snd.snd.snd.snd.fst, y57.snd.fst, y57.snd.snd.fst, ()))
          (fun y58 =>
            some
              (y58.fst, y58.snd.fst, y58.snd.snd.fst, y58.snd.snd.snd.fst, y58.snd.snd.snd.snd.fst, y58.snd.snd.snd.snd.snd.fst,
                y58.snd.snd.snd.snd.snd.snd.fst, y58.snd.snd.snd.snd.snd.snd.snd.fst, y58.snd.snd.snd.snd.snd.snd.snd.snd.fst, ()))
          y59
    else none
  else none
else
  bif decide ((0 : Nat) + x.snd.snd.snd.snd.snd.snd.snd.fst ≤ x.snd.snd.snd.fst.length) then
    bif decide ((0 : Nat) + x.snd.snd.snd.snd.snd.snd.snd.snd.snd.snd.fst ≤ x.snd.snd.snd.snd.fst.length) then
      (f16
            (x.snd.fst, x.snd.snd.fst, x.fst.tmod (3 : Int) == (1 : Int),
              List.take x.snd.snd.snd.snd.snd.snd.snd.fst (List.drop (0 : Nat) x.snd.snd.snd.fst),
              List.take x.snd.snd.snd.snd.snd.snd.snd.snd.snd.snd.fst (List.drop (0 : Nat) x.snd.snd.snd.snd.fst),
              x.snd.snd.snd.snd.snd.fst, x.snd.snd.snd.snd.snd.snd.fst, x.snd.snd.snd.snd.snd.snd.snd.fst,
              x.snd.snd.snd.snd.snd.snd.snd.snd.fst, x.snd.snd.snd.snd.snd.snd.snd.snd.snd.fst,
              x.snd.snd.snd.snd.snd.snd.snd.snd.snd.snd.fst, ())).bind
        fun y62 =>
        Sum.elim
          (fun y60 =>
            some
              (y60.fst, y60.snd.snd.snd.fst, y60.snd.snd.snd.snd.fst, y60.snd.snd.snd.snd.snd.fst, y60.snd.snd.snd.snd.snd.snd.fst,
                y60.snd.snd.snd.snd.snd.snd.snd.fst, y60.snd.snd.snd.snd.snd.snd.snd.snd.fst, y60.snd.fst, y60.snd.snd.fst, ()))
          (fun y61 =>
            some
              (y61.fst, y61.snd.fst, y61.snd.snd.fst, y61.snd.snd.snd.fst, y61.snd.snd.snd.snd.fst, y61.snd.snd.snd.snd.snd.fst,
                y61.snd.snd.snd.snd.snd.snd.fst, y61.snd.snd.snd.snd.snd.snd.snd.fst, y61.snd.snd.snd.snd.snd.snd.snd.snd.fst, ()))
          y62
    else none
  else none
noncomputable def F22 : CF tC := mkF tC S22 f22
theorem f22_run : ∀ a, fnS tC G22 (look []) Try.f22 S22 a = f22 a := fun a => by kernel_rfl
theorem F22_ok : CFOK tC 22 F22 := mkF_ok Y22 (fn := Try.f22) (body := bodyOf Try.f22) (by kernel_rfl) (by kernel_rfl) (by kernel_rfl) (m := 3) rfl (lam_le lam_nil) f22_run

/-! base.Plan -/
noncomputable def G11 : FuncId → Option (CF tC) := look []
theorem Y11 : SysN tC G11 := (sys_nil tC_ok tC_eq)
noncomputable def c11_0 : Code := loopOf (bodyOf Try.f11) 0
def p11_0 : LS := ⟨0, [1, 3], ⟨[vB, .one (.one (.ptr 0 0 0)), vB, vI] ++ vBs 42, [.box [.int .i64, .int .i64, .imm 5]]⟩, [⟨.ret, [2], ⟨[vB, vB, vO] ++ vBs 43, []⟩, []⟩, ⟨.exit 0, [], ⟨vBs 46, []⟩, []⟩], []⟩
noncomputable def r11_0 (x : Int × Int × Int × List Int × Unit) : Option (Int × Int × Int × List Int × Unit ⊕ Bool × Unit ⊕ Unit) :=
  bif decide (x.fst < (↑x.snd.snd.snd.fst.length : Int)) then
  (idxO x.snd.snd.snd.fst x.fst).bind fun y10 =>
    bif decide (y10 > (2 : Int)) then some (Sum.inr (Sum.inl (false, ())))
    else some (Sum.inl (IntKind.i64.wrap (x.fst + (1 : Int)), x.snd.fst, x.snd.snd.fst, x.snd.snd.snd.fst, ()))
else some (Sum.inr (Sum.inr ()))
theorem r11_0_run0 (v0 : Int) (v1 : Int) (v2 : Int) (v3 : List Int) : roundK tC G11 (look []) c11_0 p11_0 (v0, v1, v2, v3, ()) = r11_0 (v0, v1, v2, v3, ()) := by kernel_rfl
theorem r11_0_run (x : Int × Int × Int × List Int × Unit) : roundK tC G11 (look []) c11_0 p11_0 x = r11_0 x := r11_0_run0 x.1 x.2.1 x.2.2.1 x.2.2.2.1
noncomputable def l11_0 (x : Int × Int × Int × List Int × Unit) : Option (Bool × Unit ⊕ Unit) := iterO r11_0 x
noncomputable def W11_0 : LF tC := loopW tC p11_0 0 l11_0
theorem W11_0_ok : keyed 0 (bodyOf Try.f11) = [.block 0 (.loop c11_0)] ∧ ∀ n, n ≤ 0 → Snd tC n (.block 0 (.loop c11_0)) W11_0.k := ⟨by kernel_rfl, fun n hn => loopW_ok (p := p11_0) (id := 0) Y11 (lam_le lam_nil n hn) hn r11_0_run⟩
def S11 : FS := ⟨[[.v, .v, .s 5]], [⟨[.one (.agg [.int .i64, .int .i64, .imm 5])], []⟩], [⟨[vO], []⟩], [[.v]], []⟩
noncomputable def f11 (x : Int × Int × List Int × Unit) : Option (Bool × Unit) :=
  bif decide (x.fst < (1 : Int)) then some (false, ())
else
  bif decide (x.fst > (64 : Int)) then some (false, ())
  else
    bif decide (x.snd.fst < (1 : Int)) then some (false, ())
    else
      bif decide (x.snd.fst > (64 : Int)) then some (false, ())
      else
        bif (↑x.snd.snd.fst.length : Int) != IntKind.i64.wrap (x.fst * x.snd.fst) then some (false, ())
        else
          (l11_0 ((0 : Int), x.fst, x.snd.fst, x.snd.snd.fst, ())).bind fun y15 =>
            Sum.elim (fun y13 => some (y13.fst, ())) (fun _x => some (true, ())) y15
noncomputable def F11 : CF tC := mkF tC S11 f11
theorem f11_run : ∀ a, fnS tC G11 (look [(0, W11_0)]) Try.f11 S11 a = f11 a := fun a => by kernel_rfl
theorem F11_ok : CFOK tC 11 F11 := mkF_ok Y11 (fn := Try.f11) (body := bodyOf Try.f11) (by kernel_rfl) (by kernel_rfl) (by kernel_rfl) (m := 0) rfl (lam_le (lam_cons W11_0_ok lam_nil)) f11_run

/-! base.Inside -/
noncomputable def G12 : FuncId → Option (CF tC) := look []
theorem Y12 : SysN tC G12 := (sys_nil tC_ok tC_eq)
def S12 : FS := ⟨[[.v, .v, .s 5], [.v, .v]], [⟨[.one (.agg [.int .i64, .int .i64, .imm 5]), .one (.agg [.int .i64, .int .i64])], []⟩], [⟨[vO], []⟩], [[.v]], []⟩
def f12 (n1 : Int) (n2 : Int) (_l3 : List Int) (n4 : Int) (n5 : Int) : Bool :=
  bif decide (n4 ≥ (0 : Int)) then bif decide (n4 < n1) then bif decide (n5 ≥ (0 : Int)) then decide (n5 < n2) else false else false
else false
noncomputable def F12 : CF tC := mkF tC S12 (fun a => some ((f12 a.1 a.2.1 a.2.2.1 a.2.2.2.1 a.2.2.2.2.1), ()))
def h12 (r : Bool) : Option (altTy tE S12.outs) := some (r, ())
theorem f12_run : ∀ a, fnS tC G12 (look []) Try.f12 S12 a = (fun a => some ((f12 a.1 a.2.1 a.2.2.1 a.2.2.2.1 a.2.2.2.2.1), ())) a := fun a => by
  have key : ∀ (n1 : Int) (n2 : Int) (l3 : List Int) (n4 : Int) (n5 : Int), (bif decide (n4 ≥ (0 : Int)) then
  bif decide (n4 < n1) then bif decide (n5 ≥ (0 : Int)) then h12 (decide (n5 < n2)) else h12 false else h12 false
else h12 false) = h12 (f12 n1 n2 l3 n4 n5) := by
    intros
    unfold f12
    repeat' first | rfl | refine cond_h (g := h12) ?_ ?_
  exact Eq.trans (by kernel_rfl) (key a.1 a.2.1 a.2.2.1 a.2.2.2.1 a.2.2.2.2.1)
theorem F12_ok : CFOK tC 12 F12 := mkF_ok Y12 (fn := Try.f12) (body := bodyOf Try.f12) (by kernel_rfl) (by kernel_rfl) (by kernel_rfl) (m := 0) rfl (lam_le lam_nil) f12_run

/-! base.At -/
noncomputable def G13 : FuncId → Option (CF tC) := look [(12, F12)]
theorem Y13 : SysN tC G13 := (sys_cons F12_ok (mkF_nat _ _) (sys_nil tC_ok tC_eq))
def S13 : FS := ⟨[[.v, .v, .s 5], [.v, .v]], [⟨[.one (.agg [.int .i64, .int .i64, .imm 5]), .one (.agg [.int .i64, .int .i64])], []⟩], [⟨[.one (.one (.int .u8))], []⟩], [[.v]], []⟩
noncomputable def f13 (x : Int × Int × List Int × Int × Int × Unit) : Option (Int × Unit) :=
  bif !f12 x.fst x.snd.fst x.snd.snd.fst x.snd.snd.snd.fst x.snd.snd.snd.snd.fst then some ((2 : Int), ())
else
  (idxO x.snd.snd.fst (IntKind.i64.wrap (IntKind.i64.wrap (x.snd.snd.snd.snd.fst * x.fst) + x.snd.snd.snd.fst))).bind fun y8 =>
    some (y8, ())
noncomputable def F13 : CF tC := mkF tC S13 f13
theorem f13_run : ∀ a, fnS tC G13 (look []) Try.f13 S13 a = f13 a := fun a => by kernel_rfl
theorem F13_ok : CFOK tC 13 F13 := mkF_ok Y13 (fn := Try.f13) (body := bodyOf Try.f13) (by kernel_rfl) (by kernel_rfl) (by kernel_rfl) (m := 0) rfl (lam_le lam_nil) f13_run

/-! base.Cells -/
noncomputable def G17 : FuncId → Option (CF tC) := look []
theorem Y17 : SysN tC G17 := (sys_nil tC_ok tC_eq)
noncomputable def c17_0 : Code := loopOf (bodyOf Try.f17) 0
def p17_0 : LS := ⟨0, [0, 1, 5], ⟨[.one (.one (.imm 26)), .one (.one (.imm 26)), vB, vB, vB, vI] ++ vBs 20, []⟩, [⟨.ret, [4], ⟨vBs 4 ++ [vO] ++ vBs 21, []⟩, []⟩, ⟨.exit 0, [], ⟨vBs 26, []⟩, []⟩], []⟩
noncomputable def r17_0 (x : List Pt × List Pt × Int × Unit) : Option (List Pt × List Pt × Int × Unit ⊕ Bool × Unit ⊕ Unit) :=
  bif decide (x.snd.snd.fst < (↑x.fst.length : Int)) then
  (idxO x.fst x.snd.snd.fst).bind fun y10 =>
    (idxO x.snd.fst x.snd.snd.fst).bind fun y9 =>
      bif !bif y10.X == y9.X then bif y10.Y == y9.Y then true else false else false then some (Sum.inr (Sum.inl (false, ())))
      else some (Sum.inl (x.fst, x.snd.fst, IntKind.i64.wrap (x.snd.snd.fst + (1 : Int)), ()))
else some (Sum.inr (Sum.inr ()))
theorem r17_0_run0 (v0 : List Pt) (v1 : List Pt) (v2 : Int) : roundK tC G17 (look []) c17_0 p17_0 (v0, v1, v2, ()) = r17_0 (v0, v1, v2, ()) := by kernel_rfl
theorem r17_0_run (x : List Pt × List Pt × Int × Unit) : roundK tC G17 (look []) c17_0 p17_0 x = r17_0 x := r17_0_run0 x.1 x.2.1 x.2.2.1
noncomputable def l17_0 (x : List Pt × List Pt × Int × Unit) : Option (Bool × Unit ⊕ Unit) := iterO r17_0 x
noncomputable def W17_0 : LF tC := loopW tC p17_0 0 l17_0
theorem W17_0_ok : keyed 0 (bodyOf Try.f17) = [.block 0 (.loop c17_0)] ∧ ∀ n, n ≤ 0 → Snd tC n (.block 0 (.loop c17_0)) W17_0.k := ⟨by kernel_rfl, fun n hn => loopW_ok (p := p17_0) (id := 0) Y17 (lam_le lam_nil n hn) hn r17_0_run⟩
def S17 : FS := ⟨[[.s 26], [.s 26]], [⟨[.one (.one (.imm 26)), .one (.one (.imm 26))], []⟩], [⟨[vO], []⟩], [[.v]], []⟩
noncomputable def f17 (x : List Pt × List Pt × Unit) : Option (Bool × Unit) :=
  bif (↑x.fst.length : Int) != (↑x.snd.fst.length : Int) then some (false, ())
else (l17_0 (x.fst, x.snd.fst, (0 : Int), ())).bind fun y15 => Sum.elim (fun y13 => some (y13.fst, ())) (fun _x => some (true, ())) y15
noncomputable def F17 : CF tC := mkF tC S17 f17
theorem f17_run : ∀ a, fnS tC G17 (look [(0, W17_0)]) Try.f17 S17 a = f17 a := fun a => by kernel_rfl
theorem F17_ok : CFOK tC 17 F17 := mkF_ok Y17 (fn := Try.f17) (body := bodyOf Try.f17) (by kernel_rfl) (by kernel_rfl) (by kernel_rfl) (m := 0) rfl (lam_le (lam_cons W17_0_ok lam_nil)) f17_run

/-! base.Plans -/
noncomputable def G18 : FuncId → Option (CF tC) := look []
theorem Y18 : SysN tC G18 := (sys_nil tC_ok tC_eq)
def S18 : FS := ⟨[[.v, .v, .s 5], [.v, .v, .s 5]], [⟨[.one (.agg [.int .i64, .int .i64, .imm 5]), .one (.agg [.int .i64, .int .i64, .imm 5])], []⟩], [⟨[vO], []⟩], [[.v]], []⟩
def f18 (n1 : Int) (n2 : Int) (l3 : List Int) (n4 : Int) (n5 : Int) (l6 : List Int) : Bool :=
  bif n1 == n4 then bif n2 == n5 then decide (l3 = l6) else false else false
noncomputable def F18 : CF tC := mkF tC S18 (fun a => some ((f18 a.1 a.2.1 a.2.2.1 a.2.2.2.1 a.2.2.2.2.1 a.2.2.2.2.2.1), ()))
def h18 (r : Bool) : Option (altTy tE S18.outs) := some (r, ())
theorem f18_run : ∀ a, fnS tC G18 (look []) Try.f18 S18 a = (fun a => some ((f18 a.1 a.2.1 a.2.2.1 a.2.2.2.1 a.2.2.2.2.1 a.2.2.2.2.2.1), ())) a := fun a => by
  have key : ∀ (n1 : Int) (n2 : Int) (l3 : List Int) (n4 : Int) (n5 : Int) (l6 : List Int), (bif n1 == n4 then bif n2 == n5 then h18 (decide (l3 = l6)) else h18 false else h18 false) = h18 (f18 n1 n2 l3 n4 n5 l6) := by
    intros
    unfold f18
    repeat' first | rfl | refine cond_h (g := h18) ?_ ?_
  exact Eq.trans (by kernel_rfl) (key a.1 a.2.1 a.2.2.1 a.2.2.2.1 a.2.2.2.2.1 a.2.2.2.2.2.1)
theorem F18_ok : CFOK tC 18 F18 := mkF_ok Y18 (fn := Try.f18) (body := bodyOf Try.f18) (by kernel_rfl) (by kernel_rfl) (by kernel_rfl) (m := 0) rfl (lam_le lam_nil) f18_run

/-! few -/
noncomputable def G20 : FuncId → Option (CF tC) := look []
theorem Y20 : SysN tC G20 := (sys_nil tC_ok tC_eq)
def S20 : FS := ⟨[[.v, .v, .s 5], [.s 47]], [⟨[.one (.agg [.int .i64, .int .i64, .imm 5]), .one (.one (.imm 47))], []⟩], [⟨[vO], []⟩], [[.v]], []⟩
def f20 (_n1 : Int) (_n2 : Int) (l3 : List Int) (l4 : List Ac) : Bool :=
  bif decide ((↑l3.length : Int) ≤ (100 : Int)) then decide ((↑l4.length : Int) ≤ (20 : Int)) else false
noncomputable def F20 : CF tC := mkF tC S20 (fun a => some ((f20 a.1 a.2.1 a.2.2.1 a.2.2.2.1), ()))
def h20 (r : Bool) : Option (altTy tE S20.outs) := some (r, ())
theorem f20_run : ∀ a, fnS tC G20 (look []) Try.f20 S20 a = (fun a => some ((f20 a.1 a.2.1 a.2.2.1 a.2.2.2.1), ())) a := fun a => by
  have key : ∀ (n1 : Int) (n2 : Int) (l3 : List Int) (l4 : List Ac), (bif decide ((↑l3.length : Int) ≤ (100 : Int)) then h20 (decide ((↑l4.length : Int) ≤ (20 : Int))) else h20 false) = h20 (f20 n1 n2 l3 l4) := by
    intros
    unfold f20
    repeat' first | rfl | refine cond_h (g := h20) ?_ ?_
  exact Eq.trans (by kernel_rfl) (key a.1 a.2.1 a.2.2.1 a.2.2.2.1)
theorem F20_ok : CFOK tC 20 F20 := mkF_ok Y20 (fn := Try.f20) (body := bodyOf Try.f20) (by kernel_rfl) (by kernel_rfl) (by kernel_rfl) (m := 0) rfl (lam_le lam_nil) f20_run

/-! base.Size -/
noncomputable def G59 : FuncId → Option (CF tC) := look []
theorem Y59 : SysN tC G59 := (sys_nil tC_ok tC_eq)
def S59 : FS := ⟨[[.v], [.v]], [⟨[vI, vI], []⟩], [⟨[vO], []⟩], [[.v]], []⟩
def f59 (n1 : Int) (n2 : Int) : Bool :=
  bif decide (n1 ≥ IntKind.i64.wrap ((0 : Int) - n2)) then decide (n1 ≤ n2) else false
noncomputable def F59 : CF tC := mkF tC S59 (fun a => some ((f59 a.1 a.2.1), ()))
def h59 (r : Bool) : Option (altTy tE S59.outs) := some (r, ())
theorem f59_run : ∀ a, fnS tC G59 (look []) Try.f59 S59 a = (fun a => some ((f59 a.1 a.2.1), ())) a := fun a => by
  have key : ∀ (n1 : Int) (n2 : Int), (bif decide (n1 ≥ IntKind.i64.wrap ((0 : Int) - n2)) then h59 (decide (n1 ≤ n2)) else h59 false) = h59 (f59 n1 n2) := by
    intros
    unfold f59
    repeat' first | rfl | refine cond_h (g := h59) ?_ ?_
  exact Eq.trans (by kernel_rfl) (key a.1 a.2.1)
theorem F59_ok : CFOK tC 59 F59 := mkF_ok Y59 (fn := Try.f59) (body := bodyOf Try.f59) (by kernel_rfl) (by kernel_rfl) (by kernel_rfl) (m := 0) rfl (lam_le lam_nil) f59_run

/-! ref.Free -/
noncomputable def G54 : FuncId → Option (CF tC) := look [(13, F13)]
theorem Y54 : SysN tC G54 := (sys_cons F13_ok (mkF_nat _ _) (sys_nil tC_ok tC_eq))
def S54 : FS := ⟨[[.v, .v, .s 5], [.v, .v]], [⟨[.one (.agg [.int .i64, .int .i64, .imm 5]), .one (.agg [.int .i64, .int .i64])], []⟩], [⟨[vO], []⟩], [[.v]], []⟩
noncomputable def f54 (x : Int × Int × List Int × Int × Int × Unit) : Option (Bool × Unit) :=
  (f13 (x.fst, x.snd.fst, x.snd.snd.fst, x.snd.snd.snd.fst, x.snd.snd.snd.snd.fst, ())).bind fun y8 => some (y8.fst == (1 : Int), ())
noncomputable def F54 : CF tC := mkF tC S54 f54
theorem f54_run : ∀ a, fnS tC G54 (look []) Try.f54 S54 a = f54 a := fun a => by kernel_rfl
theorem F54_ok : CFOK tC 54 F54 := mkF_ok Y54 (fn := Try.f54) (body := bodyOf Try.f54) (by kernel_rfl) (by kernel_rfl) (by kernel_rfl) (m := 0) rfl (lam_le lam_nil) f54_run

/-! ref.Turns -/
noncomputable def G55 : FuncId → Option (CF tC) := look []
theorem Y55 : SysN tC G55 := (sys_nil tC_ok tC_eq)
def S55 : FS := ⟨[], [⟨[], []⟩], [⟨[.one (.one (.sl 0))], [.arr 26]⟩], [[.v]], [(0, 26)]⟩
def f55  : Nat × List Pt :=
  ((8 : Nat),
  [Pt.mk (1 : Int) (0 : Int), Pt.mk (1 : Int) (1 : Int), Pt.mk (0 : Int) (1 : Int), Pt.mk (-1 : Int) (1 : Int), Pt.mk (-1 : Int) (0 : Int),
    Pt.mk (-1 : Int) (-1 : Int), Pt.mk (0 : Int) (-1 : Int), Pt.mk (1 : Int) (-1 : Int)])
noncomputable def F55 : CF tC := mkF tC S55 (fun _ => some (f55.1, f55.2, ()))
theorem f55_run : ∀ a, fnS tC G55 (look []) Try.f55 S55 a = (fun _ => some (f55.1, f55.2, ())) a := fun a => by kernel_rfl
theorem F55_ok : CFOK tC 55 F55 := mkF_ok Y55 (fn := Try.f55) (body := bodyOf Try.f55) (by kernel_rfl) (by kernel_rfl) (by kernel_rfl) (m := 0) rfl (lam_le lam_nil) f55_run

/-! ref.Step -/
noncomputable def G56 : FuncId → Option (CF tC) := look [(54, F54), (59, F59)]
theorem Y56 : SysN tC G56 := (sys_cons F54_ok (mkF_nat _ _) (sys_cons F59_ok (mkF_nat _ _) (sys_nil tC_ok tC_eq)))
noncomputable def c56_31 : Code := subCode (bodyOf Try.f56) 31
def p56_31 : PS := ⟨0, [], ⟨vBs 74, []⟩, [⟨.ret, [6], ⟨vBs 6 ++ [vI] ++ vBs 67, []⟩, []⟩], []⟩
noncomputable def j56_31 (_x : Unit) : Option (Int × Unit) :=
  some ((-1 : Int), ())
theorem j56_31_run0  : pieceK tC G56 (look []) c56_31 p56_31 (()) = j56_31 (()) := by kernel_rfl
theorem j56_31_run (x : Unit) : pieceK tC G56 (look []) c56_31 p56_31 x = j56_31 x := j56_31_run0 
noncomputable def W56_31 : LF tC := cutLF tC p56_31 j56_31
theorem W56_31_ok : keyed 31 (bodyOf Try.f56) = [c56_31] ∧ ∀ n, n ≤ 0 → Snd tC n c56_31 W56_31.k := ⟨by kernel_rfl, fun n hn => cut_ok (p := p56_31) Y56 (lam_le lam_nil n hn) hn j56_31_run⟩
def S56 : FS := ⟨[[.v, .v, .s 5], [.v, .v], [.v, .v]], [⟨[.one (.agg [.int .i64, .int .i64, .imm 5]), .one (.agg [.int .i64, .int .i64]), .one (.agg [.int .i64, .int .i64])], []⟩], [⟨[vI], []⟩], [[.v]], []⟩
noncomputable def f56 (x : Int × Int × List Int × Int × Int × Int × Int × Unit) : Option (Int × Unit) :=
  (f54 (x.fst, x.snd.fst, x.snd.snd.fst, x.snd.snd.snd.fst, x.snd.snd.snd.snd.fst, ())).bind fun y29 =>
  bif !y29.fst then some ((-1 : Int), ())
  else
    (f54 (x.fst, x.snd.fst, x.snd.snd.fst, x.snd.snd.snd.snd.snd.fst, x.snd.snd.snd.snd.snd.snd.fst, ())).bind fun y28 =>
      bif !y28.fst then some ((-1 : Int), ())
      else
        bif IntKind.i64.wrap (x.snd.snd.snd.snd.snd.fst - x.snd.snd.snd.fst) == (0 : Int) then
          bif IntKind.i64.wrap (x.snd.snd.snd.snd.snd.snd.fst - x.snd.snd.snd.snd.fst) == (0 : Int) then some ((-1 : Int), ())
          else
            bif !f59 (IntKind.i64.wrap (x.snd.snd.snd.snd.snd.fst - x.snd.snd.snd.fst)) (1 : Int) then some ((-1 : Int), ())
            else
              bif !f59 (IntKind.i64.wrap (x.snd.snd.snd.snd.snd.snd.fst - x.snd.snd.snd.snd.fst)) (1 : Int) then some ((-1 : Int), ())
              else
                bif IntKind.i64.wrap (x.snd.snd.snd.snd.snd.fst - x.snd.snd.snd.fst) == (0 : Int) then some ((70 : Int), ())
                else
                  bif IntKind.i64.wrap (x.snd.snd.snd.snd.snd.snd.fst - x.snd.snd.snd.snd.fst) == (0 : Int) then some ((70 : Int), ())
                  else
                    (f54
                          (x.fst, x.snd.fst, x.snd.snd.fst,
                            IntKind.i64.wrap (x.snd.snd.snd.fst + IntKind.i64.wrap (x.snd.snd.snd.snd.snd.fst - x.snd.snd.snd.fst)),
                            x.snd.snd.snd.snd.fst, ())).bind
                      fun y23 =>
                      bif y23.fst then
                        (f54
                              (x.fst, x.snd.fst, x.snd.snd.fst, x.snd.snd.snd.fst,
                                IntKind.i64.wrap
                                  (x.snd.snd.snd.snd.fst + IntKind.i64.wrap (x.snd.snd.snd.snd.snd.snd.fst - x.snd.snd.snd.snd.fst)),
                                ())).bind
                          fun y21 => bif y21.fst then some ((99 : Int), ()) else (j56_31 ()).bind fun y20 => some (y20.fst, ())
                      else (j56_31 ()).bind fun y22 => some (y22.fst, ())
        else
          bif !f59 (IntKind.i64.wrap (x.snd.snd.snd.snd.snd.fst - x.snd.snd.snd.fst)) (1 : Int) then some ((-1 : Int), ())
          else
            bif !f59 (IntKind.i64.wrap (x.snd.snd.snd.snd.snd.snd.fst - x.snd.snd.snd.snd.fst)) (1 : Int) then some ((-1 : Int), ())
            else
              bif IntKind.i64.wrap (x.snd.snd.snd.snd.snd.fst - x.snd.snd.snd.fst) == (0 : Int) then some ((70 : Int), ())
              else
                bif IntKind.i64.wrap (x.snd.snd.snd.snd.snd.snd.fst - x.snd.snd.snd.snd.fst) == (0 : Int) then some ((70 : Int), ())
                else
                  (f54
                        (x.fst, x.snd.fst, x.snd.snd.fst,
                          IntKind.i64.wrap (x.snd.snd.snd.fst + IntKind.i64.wrap (x.snd.snd.snd.snd.snd.fst - x.snd.snd.snd.fst)),
                          x.snd.snd.snd.snd.fst, ())).bind
                    fun y27 =>
                    bif y27.fst then
                      (f54
                            (x.fst, x.snd.fst, x.snd.snd.fst, x.snd.snd.snd.fst,
                              IntKind.i64.wrap
                                (x.snd.snd.snd.snd.fst + IntKind.i64.wrap (x.snd.snd.snd.snd.snd.snd.fst - x.snd.snd.snd.snd.fst)),
                              ())).bind
                        fun y25 => bif y25.fst then some ((99 : Int), ()) else (j56_31 ()).bind fun y24 => some (y24.fst, ())
                    else (j56_31 ()).bind fun y26 => some (y26.fst, ())
noncomputable def F56 : CF tC := mkF tC S56 f56
theorem f56_run : ∀ a, fnS tC G56 (look [(31, W56_31)]) Try.f56 S56 a = f56 a := fun a => by kernel_rfl
theorem F56_ok : CFOK tC 56 F56 := mkF_ok Y56 (fn := Try.f56) (body := bodyOf Try.f56) (by kernel_rfl) (by kernel_rfl) (by kernel_rfl) (m := 0) rfl (lam_le (lam_cons W56_31_ok lam_nil)) f56_run

/-! ref.Costs -/
noncomputable def G45 : FuncId → Option (CF tC) := look [(11, F11), (54, F54), (55, F55), (56, F56)]
theorem Y45 : SysN tC G45 := (sys_cons F11_ok (mkF_nat _ _) (sys_cons F54_ok (mkF_nat _ _) (sys_cons F55_ok (mkF_nat _ _) (sys_cons F56_ok (mkF_nat _ _) (sys_nil tC_ok tC_eq)))))
noncomputable def c45_0 : Code := loopOf (bodyOf Try.f45) 0
def p45_0 : LS := ⟨0, [2, 3, 6, 7], ⟨[vB, vB, .one (.one (.ptr 0 0 0)), .one (.one (.ptr 1 0 0)), vB, vB, .one (.one (.sl 2)), vI] ++ vBs 124, [.box [.int .i64, .int .i64, .imm 5], .box [.int .i64, .int .i64], .arr 3]⟩, [⟨.exit 0, [2, 3, 6], ⟨[vB, vB, .one (.one (.ptr 0 0 0)), .one (.one (.ptr 1 0 0)), vB, vB, .one (.one (.sl 2))] ++ vBs 125, [.box [.int .i64, .int .i64, .imm 5], .box [.int .i64, .int .i64], .arr 3]⟩, []⟩], []⟩
noncomputable def r45_0 (x : Nat × Int × Int × Int × List Int × Int × Int × List Int × Unit) : Option (Nat × Int × Int × Int × List Int × Int × Int × List Int × Unit ⊕ Nat × Int × Int × List Int × Int × Int × List Int × Unit) :=
  bif decide (x.snd.fst < (↑x.fst : Int)) then
  bif decide ((0 : Int) ≤ x.snd.fst) && decide (x.snd.fst < (↑x.fst : Int)) then
    x.snd.snd.snd.snd.snd.snd.snd.fst[(0 : Nat) + x.snd.fst.toNat]?.bind fun _x =>
      some
        (Sum.inl
          (x.fst, IntKind.i64.wrap (x.snd.fst + (1 : Int)), x.snd.snd.fst, x.snd.snd.snd.fst, x.snd.snd.snd.snd.fst,
            x.snd.snd.snd.snd.snd.fst, x.snd.snd.snd.snd.snd.snd.fst,
            x.snd.snd.snd.snd.snd.snd.snd.fst.set ((0 : Nat) + x.snd.fst.toNat) (-1 : Int), ()))
  else none
else
  some
    (Sum.inr
      (x.fst, x.snd.snd.fst, x.snd.snd.snd.fst, x.snd.snd.snd.snd.fst, x.snd.snd.snd.snd.snd.fst, x.snd.snd.snd.snd.snd.snd.fst,
        x.snd.snd.snd.snd.snd.snd.snd.fst, ()))
theorem r45_0_run0 (v0 : Nat) (v1 : Int) (v2 : Int) (v3 : Int) (v4 : List Int) (v5 : Int) (v6 : Int) (v7 : List Int) : roundK tC G45 (look []) c45_0 p45_0 (v0, v1, v2, v3, v4, v5, v6, v7, ()) = r45_0 (v0, v1, v2, v3, v4, v5, v6, v7, ()) := by kernel_rfl
theorem r45_0_run (x : Nat × Int × Int × Int × List Int × Int × Int × List Int × Unit) : roundK tC G45 (look []) c45_0 p45_0 x = r45_0 x := r45_0_run0 x.1 x.2.1 x.2.2.1 x.2.2.2.1 x.2.2.2.2.1 x.2.2.2.2.2.1 x.2.2.2.2.2.2.1 x.2.2.2.2.2.2.2.1
noncomputable def l45_0 (x : Nat × Int × Int × Int × List Int × Int × Int × List Int × Unit) : Option (Nat × Int × Int × List Int × Int × Int × List Int × Unit) := iterO r45_0 x
noncomputable def W45_0 : LF tC := loopW tC p45_0 0 l45_0
theorem W45_0_ok : keyed 0 (bodyOf Try.f45) = [.block 0 (.loop c45_0)] ∧ ∀ n, n ≤ 0 → Snd tC n (.block 0 (.loop c45_0)) W45_0.k := ⟨by kernel_rfl, fun n hn => loopW_ok (p := p45_0) (id := 0) Y45 (lam_le lam_nil n hn) hn r45_0_run⟩
noncomputable def c45_79 : Code := subCode (loopOf (loopOf (bodyOf Try.f45) 2) 4) 79
def p45_79 : PS := ⟨0, [2, 6, 8, 9, 10, 11, 12], ⟨[vB, vB, .one (.one (.ptr 0 0 0)), vB, vB, vB, .one (.one (.sl 1)), vB, .one (.one (.sl 2)), .one (.one (.slw 3)), .one (.one (.ptr 4 0 0)), vI, .one (.one (.ptr 5 0 0))] ++ vBs 119, [.box [.int .i64, .int .i64, .imm 5], .arr 3, .arr 26, .arr 26, .box [.int .i64, .int .i64], .box [.int .i64, .int .i64]]⟩, [⟨.normal, [2, 6, 8, 9, 10, 11], ⟨[vB, vB, .one (.one (.ptr 0 0 0)), vB, vB, vB, .one (.one (.sl 1)), vB, .one (.one (.sl 2)), .one (.one (.sl 3)), .one (.one (.ptr 4 0 0)), vI] ++ vBs 120, [.box [.int .i64, .int .i64, .imm 5], .arr 3, .arr 26, .arr 26, .box [.int .i64, .int .i64]]⟩, []⟩], []⟩
noncomputable def j45_79 (x : Nat × Nat × Nat × Nat × Int × Int × Int × List Int × List Int × List Pt × List Pt × Int × Int × Int × Int × Unit) : Option (Nat × Nat × Nat × Int × Int × Int × List Int × List Int × List Pt × List Pt × Int × Int × Unit) :=
  bif decide (x.snd.snd.fst + x.snd.snd.snd.fst ≤ x.snd.snd.snd.snd.snd.snd.snd.snd.snd.snd.fst.length) then
  bif roomy (x.snd.snd.snd.fst + (1 : Nat)) (16 : Nat) then
    some
      (x.fst, x.snd.fst, x.snd.snd.snd.fst + (1 : Nat), x.snd.snd.snd.snd.fst, x.snd.snd.snd.snd.snd.fst, x.snd.snd.snd.snd.snd.snd.fst,
        x.snd.snd.snd.snd.snd.snd.snd.fst, x.snd.snd.snd.snd.snd.snd.snd.snd.fst, x.snd.snd.snd.snd.snd.snd.snd.snd.snd.fst,
        List.take x.snd.snd.snd.fst (List.drop x.snd.snd.fst x.snd.snd.snd.snd.snd.snd.snd.snd.snd.snd.fst) ++
          [Pt.mk x.snd.snd.snd.snd.snd.snd.snd.snd.snd.snd.snd.snd.snd.fst x.snd.snd.snd.snd.snd.snd.snd.snd.snd.snd.snd.snd.snd.snd.fst],
        x.snd.snd.snd.snd.snd.snd.snd.snd.snd.snd.snd.fst, x.snd.snd.snd.snd.snd.snd.snd.snd.snd.snd.snd.snd.fst, ())
  else none
else none
theorem j45_79_run0 (v0 : Nat) (v1 : Nat) (v2 : Nat) (v3 : Nat) (v4 : Int) (v5 : Int) (v6 : Int) (v7 : List Int) (v8 : List Int) (v9 : List Pt) (v10 : List Pt) (v11 : Int) (v12 : Int) (v13 : Int) (v14 : Int) : pieceK tC G45 (look []) c45_79 p45_79 (v0, v1, v2, v3, v4, v5, v6, v7, v8, v9, v10, v11, v12, v13, v14, ()) = j45_79 (v0, v1, v2, v3, v4, v5, v6, v7, v8, v9, v10, v11, v12, v13, v14, ()) := by kernel_rfl
theorem j45_79_run (x : Nat × Nat × Nat × Nat × Int × Int × Int × List Int × List Int × List Pt × List Pt × Int × Int × Int × Int × Unit) : pieceK tC G45 (look []) c45_79 p45_79 x = j45_79 x := j45_79_run0 x.1 x.2.1 x.2.2.1 x.2.2.2.1 x.2.2.2.2.1 x.2.2.2.2.2.1 x.2.2.2.2.2.2.1 x.2.2.2.2.2.2.2.1 x.2.2.2.2.2.2.2.2.1 x.2.2.2.2.2.2.2.2.2.1 x.2.2.2.2.2.2.2.2.2.2.1 x.2.2.2.2.2.2.2.2.2.2.2.1 x.2.2.2.2.2.2.2.2.2.2.2.2.1 x.2.2.2.2.2.2.2.2.2.2.2.2.2.1 x.2.2.2.2.2.2.2.2.2.2.2.2.2.2.1
noncomputable def W45_79 : LF tC := cutLF tC p45_79 j45_79
theorem W45_79_ok : keyed 79 (loopOf (loopOf (bodyOf Try.f45) 2) 4) = [c45_79] ∧ ∀ n, n ≤ 0 → Snd tC n c45_79 W45_79.k := ⟨by kernel_rfl, fun n hn => cut_ok (p := p45_79) Y45 (lam_le lam_nil n hn) hn j45_79_run⟩
noncomputable def c45_55 : Code := subCode (loopOf (loopOf (bodyOf Try.f45) 2) 4) 55
def p45_55 : PS := ⟨0, [2, 6, 8, 9, 10, 11], ⟨[vB, vB, .one (.one (.ptr 0 0 0)), vB, vB, vB, .one (.one (.sl 1)), vB, .one (.one (.sl 2)), .one (.one (.slw 3)), .one (.one (.ptr 4 0 0)), vI] ++ vBs 120, [.box [.int .i64, .int .i64, .imm 5], .arr 3, .arr 26, .arr 26, .box [.int .i64, .int .i64]]⟩, [⟨.normal, [2, 6, 8, 9, 10, 11], ⟨[vB, vB, .one (.one (.ptr 0 0 0)), vB, vB, vB, .one (.one (.sl 1)), vB, .one (.one (.sl 2)), .one (.one (.slw 3)), .one (.one (.ptr 4 0 0)), vI] ++ vBs 120, [.box [.int .i64, .int .i64, .imm 5], .arr 3, .arr 26, .arr 26, .box [.int .i64, .int .i64]]⟩, []⟩], []⟩
noncomputable def j45_55 (x : Nat × Nat × Nat × Nat × Int × Int × Int × List Int × List Int × List Pt × List Pt × Int × Int × Unit) : Option (Nat × Nat × Nat × Nat × Int × Int × Int × List Int × List Int × List Pt × List Pt × Int × Int × Unit) :=
  some
  (x.fst, x.snd.fst, x.snd.snd.fst, x.snd.snd.snd.fst, IntKind.i64.wrap (x.snd.snd.snd.snd.fst + (1 : Int)), x.snd.snd.snd.snd.snd.fst,
    x.snd.snd.snd.snd.snd.snd.fst, x.snd.snd.snd.snd.snd.snd.snd.fst, x.snd.snd.snd.snd.snd.snd.snd.snd.fst,
    x.snd.snd.snd.snd.snd.snd.snd.snd.snd.fst, x.snd.snd.snd.snd.snd.snd.snd.snd.snd.snd.fst,
    x.snd.snd.snd.snd.snd.snd.snd.snd.snd.snd.snd.fst, x.snd.snd.snd.snd.snd.snd.snd.snd.snd.snd.snd.snd.fst, ())
theorem j45_55_run0 (v0 : Nat) (v1 : Nat) (v2 : Nat) (v3 : Nat) (v4 : Int) (v5 : Int) (v6 : Int) (v7 : List Int) (v8 : List Int) (v9 : List Pt) (v10 : List Pt) (v11 : Int) (v12 : Int) : pieceK tC G45 (look []) c45_55 p45_55 (v0, v1, v2, v3, v4, v5, v6, v7, v8, v9, v10, v11, v12, ()) = j45_55 (v0, v1, v2, v3, v4, v5, v6, v7, v8, v9, v10, v11, v12, ()) := by kernel_rfl
theorem j45_55_run (x : Nat × Nat × Nat × Nat × Int × Int × Int × List Int × List Int × List Pt × List Pt × Int × Int × Unit) : pieceK tC G45 (look []) c45_55 p45_55 x = j45_55 x := j45_55_run0 x.1 x.2.1 x.2.2.1 x.2.2.2.1 x.2.2.2.2.1 x.2.2.2.2.2.1 x.2.2.2.2.2.2.1 x.2.2.2.2.2.2.2.1 x.2.2.2.2.2.2.2.2.1 x.2.2.2.2.2.2.2.2.2.1 x.2.2.2.2.2.2.2.2.2.2.1 x.2.2.2.2.2.2.2.2.2.2.2.1 x.2.2.2.2.2.2.2.2.2.2.2.2.1
noncomputable def W45_55 : LF tC := cutLF tC p45_55 j45_55
theorem W45_55_ok : keyed 55 (loopOf (loopOf (bodyOf Try.f45) 2) 4) = [c45_55] ∧ ∀ n, n ≤ 0 → Snd tC n c45_55 W45_55.k := ⟨by kernel_rfl, fun n hn => cut_ok (p := p45_55) Y45 (lam_le lam_nil n hn) hn j45_55_run⟩
noncomputable def c45_12 : Code := loopOf (loopOf (bodyOf Try.f45) 2) 4
def p45_12 : LS := ⟨0, [2, 6, 8, 9, 10, 11], ⟨[vB, vB, .one (.one (.ptr 0 0 0)), vB, vB, vB, .one (.one (.sl 1)), vB, .one (.one (.sl 2)), .one (.one (.slw 3)), .one (.one (.ptr 4 0 0)), vI] ++ vBs 120, [.box [.int .i64, .int .i64, .imm 5], .arr 3, .arr 26, .arr 26, .box [.int .i64, .int .i64]]⟩, [⟨.exit 4, [2, 6, 8, 9], ⟨[vB, vB, .one (.one (.ptr 0 0 0)), vB, vB, vB, .one (.one (.sl 1)), vB, .one (.one (.sl 2)), .one (.one (.slw 3))] ++ vBs 122, [.box [.int .i64, .int .i64, .imm 5], .arr 3, .arr 26, .arr 26]⟩, []⟩], []⟩
noncomputable def r45_12 (x : Nat × Nat × Nat × Nat × Int × Int × Int × List Int × List Int × List Pt × List Pt × Int × Int × Unit) : Option
  (Nat × Nat × Nat × Nat × Int × Int × Int × List Int × List Int × List Pt × List Pt × Int × Int × Unit ⊕
    Nat × Nat × Nat × Nat × Int × Int × List Int × List Int × List Pt × List Pt × Unit) :=
  bif decide (x.snd.snd.snd.snd.fst < (8 : Int)) then
  bif decide ((0 : Int) ≤ x.snd.snd.snd.snd.fst) && decide (x.snd.snd.snd.snd.fst < (↑x.snd.fst : Int)) then
    x.snd.snd.snd.snd.snd.snd.snd.snd.snd.fst[(0 : Nat) + x.snd.snd.snd.snd.fst.toNat]?.bind fun y407 =>
      bif decide ((0 : Int) ≤ x.snd.snd.snd.snd.fst) && decide (x.snd.snd.snd.snd.fst < (↑x.snd.fst : Int)) then
        x.snd.snd.snd.snd.snd.snd.snd.snd.snd.fst[(0 : Nat) + x.snd.snd.snd.snd.fst.toNat]?.bind fun y406 =>
          (f56
                (x.snd.snd.snd.snd.snd.fst, x.snd.snd.snd.snd.snd.snd.fst, x.snd.snd.snd.snd.snd.snd.snd.fst,
                  x.snd.snd.snd.snd.snd.snd.snd.snd.snd.snd.snd.fst, x.snd.snd.snd.snd.snd.snd.snd.snd.snd.snd.snd.snd.fst,
                  IntKind.i64.wrap (x.snd.snd.snd.snd.snd.snd.snd.snd.snd.snd.snd.fst + y407.X),
                  IntKind.i64.wrap (x.snd.snd.snd.snd.snd.snd.snd.snd.snd.snd.snd.snd.fst + y406.Y), ())).bind
            fun y405 =>
            bif decide (y405.fst < (0 : Int)) then
              (j45_55
                    (x.fst, x.snd.fst, x.snd.snd.fst, x.snd.snd.snd.fst, x.snd.snd.snd.snd.fst, x.snd.snd.snd.snd.snd.fst,
                      x.snd.snd.snd.snd.snd.snd.fst, x.snd.snd.snd.snd.snd.snd.snd.fst, x.snd.snd.snd.snd.snd.snd.snd.snd.fst,
                      x.snd.snd.snd.snd.snd.snd.snd.snd.snd.fst, x.snd.snd.snd.snd.snd.snd.snd.snd.snd.snd.fst,
                      x.snd.snd.snd.snd.snd.snd.snd.snd.snd.snd.snd.fst, x.snd.snd.snd.snd.snd.snd.snd.snd.snd.snd.snd.snd.fst, ())).bind
                fun y395 =>
                some
                  (Sum.inl
                    (y395.fst, y395.snd.fst, y395.snd.snd.fst, y395.snd.snd.snd.fst, y395.snd.snd.snd.snd.fst, y395.snd.snd.snd.snd.snd.fst,
                      y395.snd.snd.snd.snd.snd.snd.fst, y395.snd.snd.snd.snd.snd.snd.snd.fst, y395.snd.snd.snd.snd.snd.snd.snd.snd.fst,
                      y395.snd.snd.snd.snd.snd.snd.snd.snd.snd.fst, y395.snd.snd.snd.snd.snd.snd.snd.snd.snd.snd.fst,
                      y395.snd.snd.snd.snd.snd.snd.snd.snd.snd.snd.snd.fst, y395.snd.snd.snd.snd.snd.snd.snd.snd.snd.snd.snd.snd.fst, ()))
            else
              bif
                  decide
                      ((0 : Int) ≤
                        IntKind.i64.wrap
                          (IntKind.i64.wrap (x.snd.snd.snd.snd.snd.snd.snd.snd.snd.snd.snd.snd.fst * x.snd.snd.snd.snd.snd.fst) +
                            x.snd.snd.snd.snd.snd.snd.snd.snd.snd.snd.snd.fst)) &&
                    decide
                      (IntKind.i64.wrap
                          (IntKind.i64.wrap (x.snd.snd.snd.snd.snd.snd.snd.snd.snd.snd.snd.snd.fst * x.snd.snd.snd.snd.snd.fst) +
                            x.snd.snd.snd.snd.snd.snd.snd.snd.snd.snd.snd.fst) <
                        (↑x.fst : Int)) then
                x.snd.snd.snd.snd.snd.snd.snd.snd.fst[(0 : Nat) +
                        (IntKind.i64.wrap
                            (IntKind.i64.wrap (x.snd.snd.snd.snd.snd.snd.snd.snd.snd.snd.snd.snd.fst * x.snd.snd.snd.snd.snd.fst) +
                              x.snd.snd.snd.snd.snd.snd.snd.snd.snd.snd.snd.fst)).toNat]?.bind
                  fun y404 =>
                  bif
                      decide
                          ((0 : Int) ≤
                            IntKind.i64.wrap
                              (IntKind.i64.wrap
                                  (IntKind.i64.wrap (x.snd.snd.snd.snd.snd.snd.snd.snd.snd.snd.snd.snd.fst + y406.Y) *
                                    x.snd.snd.snd.snd.snd.fst) +
                                IntKind.i64.wrap (x.snd.snd.snd.snd.snd.snd.snd.snd.snd.snd.snd.fst + y407.X))) &&
                        decide
                          (IntKind.i64.wrap
                              (IntKind.i64.wrap
                                  (IntKind.i64.wrap (x.snd.snd.snd.snd.snd.snd.snd.snd.snd.snd.snd.snd.fst + y406.Y) *
                                    x.snd.snd.snd.snd.snd.fst) +
                                IntKind.i64.wrap (x.snd.snd.snd.snd.snd.snd.snd.snd.snd.snd.snd.fst + y407.X)) <
                            (↑x.fst : Int)) then
                    x.snd.snd.snd.snd.snd.snd.snd.snd.fst[(0 : Nat) +
                            (IntKind.i64.wrap
                                (IntKind.i64.wrap
                                    (IntKind.i64.wrap (x.snd.snd.snd.snd.snd.snd.snd.snd.snd.snd.snd.snd.fst + y406.Y) *
                                      x.snd.snd.snd.snd.snd.fst) +
                                  IntKind.i64.wrap (x.snd.snd.snd.snd.snd.snd.snd.snd.snd.snd.snd.fst + y407.X))).toNat]?.bind
                      fun y403 =>
                      bif decide (y403 < (0 : Int)) then
                        bif
                            decide
                                ((0 : Int) ≤
                                  IntKind.i64.wrap
                                    (IntKind.i64.wrap
                                        (IntKind.i64.wrap (x.snd.snd.snd.snd.snd.snd.snd.snd.snd.snd.snd.snd.fst + y406.Y) *
                                          x.snd.snd.snd.snd.snd.fst) +
                                      IntKind.i64.wrap (x.snd.snd.snd.snd.snd.snd.snd.snd.snd.snd.snd.fst + y407.X))) &&
                              decide
                                (IntKind.i64.wrap
                                    (IntKind.i64.wrap
                                        (IntKind.i64.wrap (x.snd.snd.snd.snd.snd.snd.snd.snd.snd.snd.snd.snd.fst + y406.Y) *
                                          x.snd.snd.snd.snd.snd.fst) +
                                      IntKind.i64.wrap (x.snd.snd.snd.snd.snd.snd.snd.snd.snd.snd.snd.fst + y407.X)) <
                                  (↑x.fst : Int)) then
                          x.snd.snd.snd.snd.snd.snd.snd.snd.fst[(0 : Nat) +
                                  (IntKind.i64.wrap
                                      (IntKind.i64.wrap
                                          (IntKind.i64.wrap (x.snd.snd.snd.snd.snd.snd.snd.snd.snd.snd.snd.snd.fst + y406.Y) *
                                            x.snd.snd.snd.snd.snd.fst) +
                                        IntKind.i64.wrap (x.snd.snd.snd.snd.snd.snd.snd.snd.snd.snd.snd.fst + y407.X))).toNat]?.bind
                            fun _x =>
                            (j45_79
                                  (x.fst, x.snd.fst, x.snd.snd.fst, x.snd.snd.snd.fst, x.snd.snd.snd.snd.fst, x.snd.snd.snd.snd.snd.fst,
                                    x.snd.snd.snd.snd.snd.snd.fst, x.snd.snd.snd.snd.snd.snd.snd.fst,
                                    x.snd.snd.snd.snd.snd.snd.snd.snd.fst.set
                                      ((0 : Nat) +
                                        (IntKind.i64.wrap
                                            (IntKind.i64.wrap
                                                (IntKind.i64.wrap (x.snd.snd.snd.snd.snd.snd.snd.snd.snd.snd.snd.snd.fst + y406.Y) *
                                                  x.snd.snd.snd.snd.snd.fst) +
                                              IntKind.i64.wrap (x.snd.snd.snd.snd.snd.snd.snd.snd.snd.snd.snd.fst + y407.X))).toNat)
                                      (IntKind.i64.wrap (y405.fst + y404)),
                                    x.snd.snd.snd.snd.snd.snd.snd.snd.snd.fst, x.snd.snd.snd.snd.snd.snd.snd.snd.snd.snd.fst,
                                    x.snd.snd.snd.snd.snd.snd.snd.snd.snd.snd.snd.fst,
                                    x.snd.snd.snd.snd.snd.snd.snd.snd.snd.snd.snd.snd.fst,
                                    IntKind.i64.wrap (x.snd.snd.snd.snd.snd.snd.snd.snd.snd.snd.snd.fst + y407.X),
                                    IntKind.i64.wrap (x.snd.snd.snd.snd.snd.snd.snd.snd.snd.snd.snd.snd.fst + y406.Y), ())).bind
                              fun y397 =>
                              (j45_55
                                    (y397.fst, y397.snd.fst, (0 : Nat), y397.snd.snd.fst, y397.snd.snd.snd.fst, y397.snd.snd.snd.snd.fst,
                                      y397.snd.snd.snd.snd.snd.fst, y397.snd.snd.snd.snd.snd.snd.fst, y397.snd.snd.snd.snd.snd.snd.snd.fst,
                                      y397.snd.snd.snd.snd.snd.snd.snd.snd.fst, y397.snd.snd.snd.snd.snd.snd.snd.snd.snd.fst,
                                      y397.snd.snd.snd.snd.snd.snd.snd.snd.snd.snd.fst,
                                      y397.snd.snd.snd.snd.snd.snd.snd.snd.snd.snd.snd.fst, ())).bind
                                fun y396 =>
                                some
                                  (Sum.inl
                                    (y396.fst, y396.snd.fst, y396.snd.snd.fst, y396.snd.snd.snd.fst, y396.snd.snd.snd.snd.fst,
                                      y396.snd.snd.snd.snd.snd.fst, y396.snd.snd.snd.snd.snd.snd.fst, y396.snd.snd.snd.snd.snd.snd.snd.fst,
                                      y396.snd.snd.snd.snd.snd.snd.snd.snd.fst, y396.snd.snd.snd.snd.snd.snd.snd.snd.snd.fst,
                                      y396.snd.snd.snd.snd.snd.snd.snd.snd.snd.snd.fst,
                                      y396.snd.snd.snd.snd.snd.snd.snd.snd.snd.snd.snd.fst,
                                      y396.snd.snd.snd.snd.snd.snd.snd.snd.snd.snd.snd.snd.fst, ()))
                        else none
                      else
                        bif decide (IntKind.i64.wrap (y405.fst + y404) < y403) then
                          bif
                              decide
                                  ((0 : Int) ≤
                                    IntKind.i64.wrap
                                      (IntKind.i64.wrap
                                          (IntKind.i64.wrap (x.snd.snd.snd.snd.snd.snd.snd.snd.snd.snd.snd.snd.fst + y406.Y) *
                                            x.snd.snd.snd.snd.snd.fst) +
                                        IntKind.i64.wrap (x.snd.snd.snd.snd.snd.snd.snd.snd.snd.snd.snd.fst + y407.X))) &&
                                decide
                                  (IntKind.i64.wrap
                                      (IntKind.i64.wrap
                                          (IntKind.i64.wrap (x.snd.snd.snd.snd.snd.snd.snd.snd.snd.snd.snd.snd.fst + y406.Y) *
                                            x.snd.snd.snd.snd.snd.fst) +
                                        IntKind.i64.wrap (x.snd.snd.snd.snd.snd.snd.snd.snd.snd.snd.snd.fst + y407.X)) <
                                    (↑x.fst : Int)) then
                            x.snd.snd.snd.snd.snd.snd.snd.snd.fst[(0 : Nat) +
                                    (IntKind.i64.wrap
                                        (IntKind.i64.wrap
                                            (IntKind.i64.wrap (x.snd.snd.snd.snd.snd.snd.snd.snd.snd.snd.snd.snd.fst + y406.Y) *
                                              x.snd.snd.snd.snd.snd.fst) +
                                          IntKind.i64.wrap (x.snd.snd.snd.snd.snd.snd.snd.snd.snd.snd.snd.fst + y407.X))).toNat]?.bind
                              fun _x =>
                              (j45_79
                                    (x.fst, x.snd.fst, x.snd.snd.fst, x.snd.snd.snd.fst, x.snd.snd.snd.snd.fst, x.snd.snd.snd.snd.snd.fst,
                                      x.snd.snd.snd.snd.snd.snd.fst, x.snd.snd.snd.snd.snd.snd.snd.fst,
                                      x.snd.snd.snd.snd.snd.snd.snd.snd.fst.set
                                        ((0 : Nat) +
                                          (IntKind.i64.wrap
                                              (IntKind.i64.wrap
                                                  (IntKind.i64.wrap (x.snd.snd.snd.snd.snd.snd.snd.snd.snd.snd.snd.snd.fst + y406.Y) *
                                                    x.snd.snd.snd.snd.snd.fst) +
                                                IntKind.i64.wrap (x.snd.snd.snd.snd.snd.snd.snd.snd.snd.snd.snd.fst + y407.X))).toNat)
                                        (IntKind.i64.wrap (y405.fst + y404)),
                                      x.snd.snd.snd.snd.snd.snd.snd.snd.snd.fst, x.snd.snd.snd.snd.snd.snd.snd.snd.snd.snd.fst,
                                      x.snd.snd.snd.snd.snd.snd.snd.snd.snd.snd.snd.fst,
                                      x.snd.snd.snd.snd.snd.snd.snd.snd.snd.snd.snd.snd.fst,
                                      IntKind.i64.wrap (x.snd.snd.snd.snd.snd.snd.snd.snd.snd.snd.snd.fst + y407.X),
                                      IntKind.i64.wrap (x.snd.snd.snd.snd.snd.snd.snd.snd.snd.snd.snd.snd.fst + y406.Y), ())).bind
                                fun y400 =>
                                (j45_55
                                      (y400.fst, y400.snd.fst, (0 : Nat), y400.snd.snd.fst, y400.snd.snd.snd.fst, y400.snd.snd.snd.snd.fst,
                                        y400.snd.snd.snd.snd.snd.fst, y400.snd.snd.snd.snd.snd.snd.fst,
                                        y400.snd.snd.snd.snd.snd.snd.snd.fst, y400.snd.snd.snd.snd.snd.snd.snd.snd.fst,
                                        y400.snd.snd.snd.snd.snd.snd.snd.snd.snd.fst, y400.snd.snd.snd.snd.snd.snd.snd.snd.snd.snd.fst,
                                        y400.snd.snd.snd.snd.snd.snd.snd.snd.snd.snd.snd.fst, ())).bind
                                  fun y399 =>
                                  some
                                    (Sum.inl
                                      (y399.fst, y399.snd.fst, y399.snd.snd.fst, y399.snd.snd.snd.fst, y399.snd.snd.snd.snd.fst,
                                        y399.snd.snd.snd.snd.snd.fst, y399.snd.snd.snd.snd.snd.snd.fst,
                                        y399.snd.snd.snd.snd.snd.snd.snd.fst, y399.snd.snd.snd.snd.snd.snd.snd.snd.fst,
                                        y399.snd.snd.snd.snd.snd.snd.snd.snd.snd.fst, y399.snd.snd.snd.snd.snd.snd.snd.snd.snd.snd.fst,
                                        y399.snd.snd.snd.snd.snd.snd.snd.snd.snd.snd.snd.fst,
                                        y399.snd.snd.snd.snd.snd.snd.snd.snd.snd.snd.snd.snd.fst, ()))
                          else none
                        else
                          (j45_55
                                (x.fst, x.snd.fst, x.snd.snd.fst, x.snd.snd.snd.fst, x.snd.snd.snd.snd.fst, x.snd.snd.snd.snd.snd.fst,
                                  x.snd.snd.snd.snd.snd.snd.fst, x.snd.snd.snd.snd.snd.snd.snd.fst, x.snd.snd.snd.snd.snd.snd.snd.snd.fst,
                                  x.snd.snd.snd.snd.snd.snd.snd.snd.snd.fst, x.snd.snd.snd.snd.snd.snd.snd.snd.snd.snd.fst,
                                  x.snd.snd.snd.snd.snd.snd.snd.snd.snd.snd.snd.fst, x.snd.snd.snd.snd.snd.snd.snd.snd.snd.snd.snd.snd.fst,
                                  ())).bind
                            fun y402 =>
                            some
                              (Sum.inl
                                (y402.fst, y402.snd.fst, y402.snd.snd.fst, y402.snd.snd.snd.fst, y402.snd.snd.snd.snd.fst,
                                  y402.snd.snd.snd.snd.snd.fst, y402.snd.snd.snd.snd.snd.snd.fst, y402.snd.snd.snd.snd.snd.snd.snd.fst,
                                  y402.snd.snd.snd.snd.snd.snd.snd.snd.fst, y402.snd.snd.snd.snd.snd.snd.snd.snd.snd.fst,
                                  y402.snd.snd.snd.snd.snd.snd.snd.snd.snd.snd.fst, y402.snd.snd.snd.snd.snd.snd.snd.snd.snd.snd.snd.fst,
                                  y402.snd.snd.snd.snd.snd.snd.snd.snd.snd.snd.snd.snd.fst, ()))
                  else none
              else none
      else none
  else none
else
  some
    (Sum.inr
      (x.fst, x.snd.fst, x.snd.snd.fst, x.snd.snd.snd.fst, x.snd.snd.snd.snd.snd.fst, x.snd.snd.snd.snd.snd.snd.fst,
        x.snd.snd.snd.snd.snd.snd.snd.fst, x.snd.snd.snd.snd.snd.snd.snd.snd.fst, x.snd.snd.snd.snd.snd.snd.snd.snd.snd.fst,
        x.snd.snd.snd.snd.snd.snd.snd.snd.snd.snd.fst, ()))
theorem r45_12_run0 (v0 : Nat) (v1 : Nat) (v2 : Nat) (v3 : Nat) (v4 : Int) (v5 : Int) (v6 : Int) (v7 : List Int) (v8 : List Int) (v9 : List Pt) (v10 : List Pt) (v11 : Int) (v12 : Int) : roundK tC G45 (look [(79, W45_79), (55, W45_55)]) c45_12 p45_12 (v0, v1, v2, v3, v4, v5, v6, v7, v8, v9, v10, v11, v12, ()) = r45_12 (v0, v1, v2, v3, v4, v5, v6, v7, v8, v9, v10, v11, v12, ()) := by kernel_rfl
theorem r45_12_run (x : Nat × Nat × Nat × Nat × Int × Int × Int × List Int × List Int × List Pt × List Pt × Int × Int × Unit) : roundK tC G45 (look [(79, W45_79), (55, W45_55)]) c45_12 p45_12 x = r45_12 x := r45_12_run0 x.1 x.2.1 x.2.2.1 x.2.2.2.1 x.2.2.2.2.1 x.2.2.2.2.2.1 x.2.2.2.2.2.2.1 x.2.2.2.2.2.2.2.1 x.2.2.2.2.2.2.2.2.1 x.2.2.2.2.2.2.2.2.2.1 x.2.2.2.2.2.2.2.2.2.2.1 x.2.2.2.2.2.2.2.2.2.2.2.1 x.2.2.2.2.2.2.2.2.2.2.2.2.1
noncomputable def l45_12 (x : Nat × Nat × Nat × Nat × Int × Int × Int × List Int × List Int × List Pt × List Pt × Int × Int × Unit) : Option (Nat × Nat × Nat × Nat × Int × Int × List Int × List Int × List Pt × List Pt × Unit) := iterO r45_12 x
noncomputable def W45_12 : LF tC := loopW tC p45_12 4 l45_12
theorem W45_12_ok : keyed 12 (loopOf (bodyOf Try.f45) 2) = [.block 4 (.loop c45_12)] ∧ ∀ n, n ≤ 0 → Snd tC n (.block 4 (.loop c45_12)) W45_12.k := ⟨by kernel_rfl, fun n hn => loopW_ok (p := p45_12) (id := 4) Y45 (lam_le (lam_cons W45_79_ok (lam_cons W45_55_ok lam_nil)) n hn) hn r45_12_run⟩
noncomputable def c45_6 : Code := loopOf (bodyOf Try.f45) 2
def p45_6 : LS := ⟨0, [2, 6, 8, 9], ⟨[vB, vB, .one (.one (.ptr 0 0 0)), vB, vB, vB, .one (.one (.sl 1)), vB, .one (.one (.sl 2)), .one (.one (.slw 3))] ++ vBs 122, [.box [.int .i64, .int .i64, .imm 5], .arr 3, .arr 26, .arr 26]⟩, [⟨.exit 2, [6], ⟨vBs 6 ++ [.one (.one (.sl 0))] ++ vBs 125, [.arr 3]⟩, []⟩], []⟩
noncomputable def r45_6 (x : Nat × Nat × Nat × Nat × Int × Int × List Int × List Int × List Pt × List Pt × Unit) : Option (Nat × Nat × Nat × Nat × Int × Int × List Int × List Int × List Pt × List Pt × Unit ⊕ Nat × List Int × Unit) :=
  bif decide ((↑x.snd.snd.snd.fst : Int) > (0 : Int)) then
  bif true && decide ((0 : Int) < (↑x.snd.snd.snd.fst : Int)) then
    x.snd.snd.snd.snd.snd.snd.snd.snd.snd.fst[x.snd.snd.fst + (0 : Nat)]?.bind fun y421 =>
      bif
          true && decide ((1 : Int) ≤ (↑x.snd.snd.snd.fst : Int)) && decide ((↑x.snd.snd.snd.fst : Int) ≤ (↑x.snd.snd.snd.fst : Int)) &&
            decide ((↑x.snd.snd.snd.fst : Int) ≤ (↑x.snd.snd.snd.fst : Int)) then
        (l45_12
              (x.fst, x.snd.fst, x.snd.snd.fst + (1 : Nat), (↑x.snd.snd.snd.fst : Int).toNat - (1 : Nat), (0 : Int), x.snd.snd.snd.snd.fst,
                x.snd.snd.snd.snd.snd.fst, x.snd.snd.snd.snd.snd.snd.fst, x.snd.snd.snd.snd.snd.snd.snd.fst,
                x.snd.snd.snd.snd.snd.snd.snd.snd.fst, x.snd.snd.snd.snd.snd.snd.snd.snd.snd.fst, y421.X, y421.Y, ())).bind
          fun y420 =>
          some
            (Sum.inl
              (y420.fst, y420.snd.fst, y420.snd.snd.fst, y420.snd.snd.snd.fst, y420.snd.snd.snd.snd.fst, y420.snd.snd.snd.snd.snd.fst,
                y420.snd.snd.snd.snd.snd.snd.fst, y420.snd.snd.snd.snd.snd.snd.snd.fst, y420.snd.snd.snd.snd.snd.snd.snd.snd.fst,
                y420.snd.snd.snd.snd.snd.snd.snd.snd.snd.fst, ()))
      else none
  else none
else some (Sum.inr (x.fst, x.snd.snd.snd.snd.snd.snd.snd.fst, ()))
theorem r45_6_run0 (v0 : Nat) (v1 : Nat) (v2 : Nat) (v3 : Nat) (v4 : Int) (v5 : Int) (v6 : List Int) (v7 : List Int) (v8 : List Pt) (v9 : List Pt) : roundK tC G45 (look [(12, W45_12)]) c45_6 p45_6 (v0, v1, v2, v3, v4, v5, v6, v7, v8, v9, ()) = r45_6 (v0, v1, v2, v3, v4, v5, v6, v7, v8, v9, ()) := by kernel_rfl
theorem r45_6_run (x : Nat × Nat × Nat × Nat × Int × Int × List Int × List Int × List Pt × List Pt × Unit) : roundK tC G45 (look [(12, W45_12)]) c45_6 p45_6 x = r45_6 x := r45_6_run0 x.1 x.2.1 x.2.2.1 x.2.2.2.1 x.2.2.2.2.1 x.2.2.2.2.2.1 x.2.2.2.2.2.2.1 x.2.2.2.2.2.2.2.1 x.2.2.2.2.2.2.2.2.1 x.2.2.2.2.2.2.2.2.2.1
noncomputable def l45_6 (x : Nat × Nat × Nat × Nat × Int × Int × List Int × List Int × List Pt × List Pt × Unit) : Option (Nat × List Int × Unit) := iterO r45_6 x
noncomputable def W45_6 : LF tC := loopW tC p45_6 2 l45_6
theorem W45_6_ok : keyed 6 (bodyOf Try.f45) = [.block 2 (.loop c45_6)] ∧ ∀ n, n ≤ 0 → Snd tC n (.block 2 (.loop c45_6)) W45_6.k := ⟨by kernel_rfl, fun n hn => loopW_ok (p := p45_6) (id := 2) Y45 (lam_le (lam_cons W45_12_ok lam_nil) n hn) hn r45_6_run⟩
def S45 : FS := ⟨[[.v, .v, .s 5], [.v, .v]], [⟨[.one (.agg [.int .i64, .int .i64, .imm 5]), .one (.agg [.int .i64, .int .i64])], []⟩], [⟨[.tup [.one (.sl 0), .one (.int .i64)]], [.arr 3]⟩], [[.v], [.v]], [(4, 3)]⟩
noncomputable def f45 (x : Int × Int × List Int × Int × Int × Unit) : Option (Nat × Int × List Int × Unit) :=
  (f11 (x.fst, x.snd.fst, x.snd.snd.fst, ())).bind fun y431 =>
  bif !y431.fst then some ((0 : Nat), (1 : Int), [], ())
  else
    (f54 (x.fst, x.snd.fst, x.snd.snd.fst, x.snd.snd.snd.fst, x.snd.snd.snd.snd.fst, ())).bind fun y430 =>
      bif !y430.fst then some ((0 : Nat), (7 : Int), [], ())
      else
        bif
            decide ((0 : Int) ≤ IntKind.i64.wrap (x.fst * x.snd.fst)) &&
                  decide (IntKind.i64.wrap (x.fst * x.snd.fst) ≤ IntKind.i64.wrap (x.fst * x.snd.fst)) &&
                decide (IntKind.i64.wrap (x.fst * x.snd.fst) * (8 : Int) ≤ (140737488355328 : Int)) &&
              decide (IntKind.i64.wrap (x.fst * x.snd.fst) ≤ (140737488355328 : Int)) then
          (l45_0
                ((IntKind.i64.wrap (x.fst * x.snd.fst)).toNat, (0 : Int), x.fst, x.snd.fst, x.snd.snd.fst, x.snd.snd.snd.fst,
                  x.snd.snd.snd.snd.fst, List.replicate (IntKind.i64.wrap (x.fst * x.snd.fst)).toNat (0 : Int), ())).bind
            fun y429 =>
            bif
                decide
                    ((0 : Int) ≤
                      IntKind.i64.wrap (IntKind.i64.wrap (y429.snd.snd.snd.snd.snd.fst * y429.snd.fst) + y429.snd.snd.snd.snd.fst)) &&
                  decide
                    (IntKind.i64.wrap (IntKind.i64.wrap (y429.snd.snd.snd.snd.snd.fst * y429.snd.fst) + y429.snd.snd.snd.snd.fst) <
                      (↑y429.fst : Int)) then
              y429.snd.snd.snd.snd.snd.snd.fst[(0 : Nat) +
                      (IntKind.i64.wrap
                          (IntKind.i64.wrap (y429.snd.snd.snd.snd.snd.fst * y429.snd.fst) + y429.snd.snd.snd.snd.fst)).toNat]?.bind
                fun _x =>
                (l45_6
                      (y429.fst, f55.fst, (0 : Nat), (1 : Nat), y429.snd.fst, y429.snd.snd.fst, y429.snd.snd.snd.fst,
                        y429.snd.snd.snd.snd.snd.snd.fst.set
                          ((0 : Nat) +
                            (IntKind.i64.wrap
                                (IntKind.i64.wrap (y429.snd.snd.snd.snd.snd.fst * y429.snd.fst) + y429.snd.snd.snd.snd.fst)).toNat)
                          (0 : Int),
                        f55.snd, [Pt.mk y429.snd.snd.snd.snd.fst y429.snd.snd.snd.snd.snd.fst], ())).bind
                  fun y427 => some (y427.fst, (0 : Int), y427.snd.fst, ())
            else none
        else none
noncomputable def F45 : CF tC := mkF tC S45 f45
theorem f45_run : ∀ a, fnS tC G45 (look [(0, W45_0), (6, W45_6)]) Try.f45 S45 a = f45 a := fun a => by kernel_rfl
theorem F45_ok : CFOK tC 45 F45 := mkF_ok Y45 (fn := Try.f45) (body := bodyOf Try.f45) (by kernel_rfl) (by kernel_rfl) (by kernel_rfl) (m := 0) rfl (lam_le (lam_cons W45_0_ok (lam_cons W45_6_ok lam_nil))) f45_run

/-! ref.Find -/
noncomputable def G46 : FuncId → Option (CF tC) := look [(11, F11), (54, F54), (45, F45), (55, F55), (56, F56)]
theorem Y46 : SysN tC G46 := (sys_cons F11_ok (mkF_nat _ _) (sys_cons F54_ok (mkF_nat _ _) (sys_cons F45_ok (mkF_nat _ _) (sys_cons F55_ok (mkF_nat _ _) (sys_cons F56_ok (mkF_nat _ _) (sys_nil tC_ok tC_eq))))))
noncomputable def c46_46 : Code := subCode (loopOf (loopOf (bodyOf Try.f46) 0) 2) 46
def p46_46 : PS := ⟨0, [3, 5, 9, 11, 12, 13, 14, 15], ⟨[vB, vB, vB, .one (.one (.ptr 0 0 0)), vB, .one (.one (.ptr 1 0 0)), vB, vB, vB, .one (.one (.sl 2)), vB, vI, .one (.one (.sl 3)), .one (.one (.sl 4)), .one (.one (.ptr 5 0 0)), vI] ++ vBs 103, [.box [.int .i64, .int .i64, .imm 5], .box [.int .i64, .int .i64], .arr 3, .arr 26, .arr 26, .box [.int .i64, .int .i64]]⟩, [⟨.normal, [3, 5, 9, 11, 12, 13, 14, 15], ⟨[vB, vB, vB, .one (.one (.ptr 0 0 0)), vB, .one (.one (.ptr 1 0 0)), vB, vB, vB, .one (.one (.sl 2)), vB, vI, .one (.one (.sl 3)), .one (.one (.sl 4)), .one (.one (.ptr 5 0 0)), vI] ++ vBs 103, [.box [.int .i64, .int .i64, .imm 5], .box [.int .i64, .int .i64], .arr 3, .arr 26, .arr 26, .box [.int .i64, .int .i64]]⟩, []⟩], []⟩
noncomputable def j46_46 (x : Nat × Int × Nat × Nat × Int × Int × Int × List Int × Int × Int × List Int × List Pt × List Pt × Int × Int × Unit) : Option (Nat × Int × Nat × Nat × Int × Int × Int × List Int × Int × Int × List Int × List Pt × List Pt × Int × Int × Unit) :=
  some
  (x.fst, x.snd.fst, x.snd.snd.fst, x.snd.snd.snd.fst, IntKind.i64.wrap (x.snd.snd.snd.snd.fst + (1 : Int)), x.snd.snd.snd.snd.snd.fst,
    x.snd.snd.snd.snd.snd.snd.fst, x.snd.snd.snd.snd.snd.snd.snd.fst, x.snd.snd.snd.snd.snd.snd.snd.snd.fst,
    x.snd.snd.snd.snd.snd.snd.snd.snd.snd.fst, x.snd.snd.snd.snd.snd.snd.snd.snd.snd.snd.fst,
    x.snd.snd.snd.snd.snd.snd.snd.snd.snd.snd.snd.fst, x.snd.snd.snd.snd.snd.snd.snd.snd.snd.snd.snd.snd.fst,
    x.snd.snd.snd.snd.snd.snd.snd.snd.snd.snd.snd.snd.snd.fst, x.snd.snd.snd.snd.snd.snd.snd.snd.snd.snd.snd.snd.snd.snd.fst, ())
theorem j46_46_run0 (v0 : Nat) (v1 : Int) (v2 : Nat) (v3 : Nat) (v4 : Int) (v5 : Int) (v6 : Int) (v7 : List Int) (v8 : Int) (v9 : Int) (v10 : List Int) (v11 : List Pt) (v12 : List Pt) (v13 : Int) (v14 : Int) : pieceK tC G46 (look []) c46_46 p46_46 (v0, v1, v2, v3, v4, v5, v6, v7, v8, v9, v10, v11, v12, v13, v14, ()) = j46_46 (v0, v1, v2, v3, v4, v5, v6, v7, v8, v9, v10, v11, v12, v13, v14, ()) := by kernel_rfl
theorem j46_46_run (x : Nat × Int × Nat × Nat × Int × Int × Int × List Int × Int × Int × List Int × List Pt × List Pt × Int × Int × Unit) : pieceK tC G46 (look []) c46_46 p46_46 x = j46_46 x := j46_46_run0 x.1 x.2.1 x.2.2.1 x.2.2.2.1 x.2.2.2.2.1 x.2.2.2.2.2.1 x.2.2.2.2.2.2.1 x.2.2.2.2.2.2.2.1 x.2.2.2.2.2.2.2.2.1 x.2.2.2.2.2.2.2.2.2.1 x.2.2.2.2.2.2.2.2.2.2.1 x.2.2.2.2.2.2.2.2.2.2.2.1 x.2.2.2.2.2.2.2.2.2.2.2.2.1 x.2.2.2.2.2.2.2.2.2.2.2.2.2.1 x.2.2.2.2.2.2.2.2.2.2.2.2.2.2.1
noncomputable def W46_46 : LF tC := cutLF tC p46_46 j46_46
theorem W46_46_ok : keyed 46 (loopOf (loopOf (bodyOf Try.f46) 0) 2) = [c46_46] ∧ ∀ n, n ≤ 0 → Snd tC n c46_46 W46_46.k := ⟨by kernel_rfl, fun n hn => cut_ok (p := p46_46) Y46 (lam_le lam_nil n hn) hn j46_46_run⟩
noncomputable def c46_6 : Code := loopOf (loopOf (bodyOf Try.f46) 0) 2
def p46_6 : LS := ⟨0, [3, 5, 9, 11, 12, 13, 14, 15], ⟨[vB, vB, vB, .one (.one (.ptr 0 0 0)), vB, .one (.one (.ptr 1 0 0)), vB, vB, vB, .one (.one (.sl 2)), vB, vI, .one (.one (.sl 3)), .one (.one (.sl 4)), .one (.one (.ptr 5 0 0)), vI] ++ vBs 103, [.box [.int .i64, .int .i64, .imm 5], .box [.int .i64, .int .i64], .arr 3, .arr 26, .arr 26, .box [.int .i64, .int .i64]]⟩, [⟨.exit 2, [3, 5, 9, 11, 12, 13, 14], ⟨[vB, vB, vB, .one (.one (.ptr 0 0 0)), vB, .one (.one (.ptr 1 0 0)), vB, vB, vB, .one (.one (.sl 2)), vB, vI, .one (.one (.sl 3)), .one (.one (.sl 4)), .one (.one (.ptr 5 0 0))] ++ vBs 104, [.box [.int .i64, .int .i64, .imm 5], .box [.int .i64, .int .i64], .arr 3, .arr 26, .arr 26, .box [.int .i64, .int .i64]]⟩, []⟩], []⟩
noncomputable def r46_6 (x : Nat × Int × Nat × Nat × Int × Int × Int × List Int × Int × Int × List Int × List Pt × List Pt × Int × Int × Unit) : Option
  (Nat × Int × Nat × Nat × Int × Int × Int × List Int × Int × Int × List Int × List Pt × List Pt × Int × Int × Unit ⊕
    Nat × Int × Nat × Nat × Int × Int × List Int × Int × Int × List Int × List Pt × List Pt × Int × Int × Unit) :=
  bif decide (x.snd.snd.snd.snd.fst < (8 : Int)) then
  bif decide ((0 : Int) ≤ x.snd.snd.snd.snd.fst) && decide (x.snd.snd.snd.snd.fst < (↑x.snd.snd.fst : Int)) then
    x.snd.snd.snd.snd.snd.snd.snd.snd.snd.snd.snd.fst[(0 : Nat) + x.snd.snd.snd.snd.fst.toNat]?.bind fun y129 =>
      bif decide ((0 : Int) ≤ x.snd.snd.snd.snd.fst) && decide (x.snd.snd.snd.snd.fst < (↑x.snd.snd.fst : Int)) then
        x.snd.snd.snd.snd.snd.snd.snd.snd.snd.snd.snd.fst[(0 : Nat) + x.snd.snd.snd.snd.fst.toNat]?.bind fun y128 =>
          (f56
                (x.snd.snd.snd.snd.snd.fst, x.snd.snd.snd.snd.snd.snd.fst, x.snd.snd.snd.snd.snd.snd.snd.fst,
                  x.snd.snd.snd.snd.snd.snd.snd.snd.snd.snd.snd.snd.snd.fst, x.snd.snd.snd.snd.snd.snd.snd.snd.snd.snd.snd.snd.snd.snd.fst,
                  IntKind.i64.wrap (x.snd.snd.snd.snd.snd.snd.snd.snd.snd.snd.snd.snd.snd.fst + y129.X),
                  IntKind.i64.wrap (x.snd.snd.snd.snd.snd.snd.snd.snd.snd.snd.snd.snd.snd.snd.fst + y128.Y), ())).bind
            fun y127 =>
            bif decide (y127.fst ≥ (0 : Int)) then
              bif
                  decide
                      ((0 : Int) ≤
                        IntKind.i64.wrap
                          (IntKind.i64.wrap
                              (IntKind.i64.wrap (x.snd.snd.snd.snd.snd.snd.snd.snd.snd.snd.snd.snd.snd.snd.fst + y128.Y) *
                                x.snd.snd.snd.snd.snd.fst) +
                            IntKind.i64.wrap (x.snd.snd.snd.snd.snd.snd.snd.snd.snd.snd.snd.snd.snd.fst + y129.X))) &&
                    decide
                      (IntKind.i64.wrap
                          (IntKind.i64.wrap
                              (IntKind.i64.wrap (x.snd.snd.snd.snd.snd.snd.snd.snd.snd.snd.snd.snd.snd.snd.fst + y128.Y) *
                                x.snd.snd.snd.snd.snd.fst) +
                            IntKind.i64.wrap (x.snd.snd.snd.snd.snd.snd.snd.snd.snd.snd.snd.snd.snd.fst + y129.X)) <
                        (↑x.fst : Int)) then
                x.snd.snd.snd.snd.snd.snd.snd.snd.snd.snd.fst[(0 : Nat) +
                        (IntKind.i64.wrap
                            (IntKind.i64.wrap
                                (IntKind.i64.wrap (x.snd.snd.snd.snd.snd.snd.snd.snd.snd.snd.snd.snd.snd.snd.fst + y128.Y) *
                                  x.snd.snd.snd.snd.snd.fst) +
                              IntKind.i64.wrap (x.snd.snd.snd.snd.snd.snd.snd.snd.snd.snd.snd.snd.snd.fst + y129.X))).toNat]?.bind
                  fun y125 =>
                  bif
                      decide
                          ((0 : Int) ≤
                            IntKind.i64.wrap
                              (IntKind.i64.wrap
                                  (x.snd.snd.snd.snd.snd.snd.snd.snd.snd.snd.snd.snd.snd.snd.fst * x.snd.snd.snd.snd.snd.fst) +
                                x.snd.snd.snd.snd.snd.snd.snd.snd.snd.snd.snd.snd.snd.fst)) &&
                        decide
                          (IntKind.i64.wrap
                              (IntKind.i64.wrap
                                  (x.snd.snd.snd.snd.snd.snd.snd.snd.snd.snd.snd.snd.snd.snd.fst * x.snd.snd.snd.snd.snd.fst) +
                                x.snd.snd.snd.snd.snd.snd.snd.snd.snd.snd.snd.snd.snd.fst) <
                            (↑x.fst : Int)) then
                    x.snd.snd.snd.snd.snd.snd.snd.snd.snd.snd.fst[(0 : Nat) +
                            (IntKind.i64.wrap
                                (IntKind.i64.wrap
                                    (x.snd.snd.snd.snd.snd.snd.snd.snd.snd.snd.snd.snd.snd.snd.fst * x.snd.snd.snd.snd.snd.fst) +
                                  x.snd.snd.snd.snd.snd.snd.snd.snd.snd.snd.snd.snd.snd.fst)).toNat]?.bind
                      fun y124 =>
                      bif IntKind.i64.wrap (y125 + y127.fst) == y124 then
                        some
                          (Sum.inr
                            (x.fst, x.snd.fst, x.snd.snd.fst, x.snd.snd.snd.fst, x.snd.snd.snd.snd.snd.fst, x.snd.snd.snd.snd.snd.snd.fst,
                              x.snd.snd.snd.snd.snd.snd.snd.fst, x.snd.snd.snd.snd.snd.snd.snd.snd.fst,
                              x.snd.snd.snd.snd.snd.snd.snd.snd.snd.fst, x.snd.snd.snd.snd.snd.snd.snd.snd.snd.snd.fst,
                              x.snd.snd.snd.snd.snd.snd.snd.snd.snd.snd.snd.fst, x.snd.snd.snd.snd.snd.snd.snd.snd.snd.snd.snd.snd.fst,
                              IntKind.i64.wrap (x.snd.snd.snd.snd.snd.snd.snd.snd.snd.snd.snd.snd.snd.fst + y129.X),
                              IntKind.i64.wrap (x.snd.snd.snd.snd.snd.snd.snd.snd.snd.snd.snd.snd.snd.snd.fst + y128.Y), ()))
                      else
                        (j46_46
                              (x.fst, x.snd.fst, x.snd.snd.fst, x.snd.snd.snd.fst, x.snd.snd.snd.snd.fst, x.snd.snd.snd.snd.snd.fst,
                                x.snd.snd.snd.snd.snd.snd.fst, x.snd.snd.snd.snd.snd.snd.snd.fst, x.snd.snd.snd.snd.snd.snd.snd.snd.fst,
                                x.snd.snd.snd.snd.snd.snd.snd.snd.snd.fst, x.snd.snd.snd.snd.snd.snd.snd.snd.snd.snd.fst,
                                x.snd.snd.snd.snd.snd.snd.snd.snd.snd.snd.snd.fst, x.snd.snd.snd.snd.snd.snd.snd.snd.snd.snd.snd.snd.fst,
                                x.snd.snd.snd.snd.snd.snd.snd.snd.snd.snd.snd.snd.snd.fst,
                                x.snd.snd.snd.snd.snd.snd.snd.snd.snd.snd.snd.snd.snd.snd.fst, ())).bind
                          fun y123 =>
                          some
                            (Sum.inl
                              (y123.fst, y123.snd.fst, y123.snd.snd.fst, y123.snd.snd.snd.fst, y123.snd.snd.snd.snd.fst,
                                y123.snd.snd.snd.snd.snd.fst, y123.snd.snd.snd.snd.snd.snd.fst, y123.snd.snd.snd.snd.snd.snd.snd.fst,
                                y123.snd.snd.snd.snd.snd.snd.snd.snd.fst, y123.snd.snd.snd.snd.snd.snd.snd.snd.snd.fst,
                                y123.snd.snd.snd.snd.snd.snd.snd.snd.snd.snd.fst, y123.snd.snd.snd.snd.snd.snd.snd.snd.snd.snd.snd.fst,
                                y123.snd.snd.snd.snd.snd.snd.snd.snd.snd.snd.snd.snd.fst,
                                y123.snd.snd.snd.snd.snd.snd.snd.snd.snd.snd.snd.snd.snd.fst,
                                y123.snd.snd.snd.snd.snd.snd.snd.snd.snd.snd.snd.snd.snd.snd.fst, ()))
                  else none
              else none
            else
              (j46_46
                    (x.fst, x.snd.fst, x.snd.snd.fst, x.snd.snd.snd.fst, x.snd.snd.snd.snd.fst, x.snd.snd.snd.snd.snd.fst,
                      x.snd.snd.snd.snd.snd.snd.fst, x.snd.snd.snd.snd.snd.snd.snd.fst, x.snd.snd.snd.snd.snd.snd.snd.snd.fst,
                      x.snd.snd.snd.snd.snd.snd.snd.snd.snd.fst, x.snd.snd.snd.snd.snd.snd.snd.snd.snd.snd.fst,
                      x.snd.snd.snd.snd.snd.snd.snd.snd.snd.snd.snd.fst, x.snd.snd.snd.snd.snd.snd.snd.snd.snd.snd.snd.snd.fst,
                      x.snd.snd.snd.snd.snd.snd.snd.snd.snd.snd.snd.snd.snd.fst,
                      x.snd.snd.snd.snd.snd.snd.snd.snd.snd.snd.snd.snd.snd.snd.fst, ())).bind
                fun y126 =>
                some
                  (Sum.inl
                    (y126.fst, y126.snd.fst, y126.snd.snd.fst, y126.snd.snd.snd.fst, y126.snd.snd.snd.snd.fst, y126.snd.snd.snd.snd.snd.fst,
                      y126.snd.snd.snd.snd.snd.snd.fst, y126.snd.snd.snd.snd.snd.snd.snd.fst, y126.snd.snd.snd.snd.snd.snd.snd.snd.fst,
                      y126.snd.snd.snd.snd.snd.snd.snd.snd.snd.fst, y126.snd.snd.snd.snd.snd.snd.snd.snd.snd.snd.fst,
                      y126.snd.snd.snd.snd.snd.snd.snd.snd.snd.snd.snd.fst, y126.snd.snd.snd.snd.snd.snd.snd.snd.snd.snd.snd.snd.fst,
                      y126.snd.snd.snd.snd.snd.snd.snd.snd.snd.snd.snd.snd.snd.fst,
                      y126.snd.snd.snd.snd.snd.snd.snd.snd.snd.snd.snd.snd.snd.snd.fst, ()))
      else none
  else none
else
  some
    (Sum.inr
      (x.fst, x.snd.fst, x.snd.snd.fst, x.snd.snd.snd.fst, x.snd.snd.snd.snd.snd.fst, x.snd.snd.snd.snd.snd.snd.fst,
        x.snd.snd.snd.snd.snd.snd.snd.fst, x.snd.snd.snd.snd.snd.snd.snd.snd.fst, x.snd.snd.snd.snd.snd.snd.snd.snd.snd.fst,
        x.snd.snd.snd.snd.snd.snd.snd.snd.snd.snd.fst, x.snd.snd.snd.snd.snd.snd.snd.snd.snd.snd.snd.fst,
        x.snd.snd.snd.snd.snd.snd.snd.snd.snd.snd.snd.snd.fst, x.snd.snd.snd.snd.snd.snd.snd.snd.snd.snd.snd.snd.snd.fst,
        x.snd.snd.snd.snd.snd.snd.snd.snd.snd.snd.snd.snd.snd.snd.fst, ()))
theorem r46_6_run0 (v0 : Nat) (v1 : Int) (v2 : Nat) (v3 : Nat) (v4 : Int) (v5 : Int) (v6 : Int) (v7 : List Int) (v8 : Int) (v9 : Int) (v10 : List Int) (v11 : List Pt) (v12 : List Pt) (v13 : Int) (v14 : Int) : roundK tC G46 (look [(46, W46_46)]) c46_6 p46_6 (v0, v1, v2, v3, v4, v5, v6, v7, v8, v9, v10, v11, v12, v13, v14, ()) = r46_6 (v0, v1, v2, v3, v4, v5, v6, v7, v8, v9, v10, v11, v12, v13, v14, ()) := by kernel_rfl
theorem r46_6_run (x : Nat × Int × Nat × Nat × Int × Int × Int × List Int × Int × Int × List Int × List Pt × List Pt × Int × Int × Unit) : roundK tC G46 (look [(46, W46_46)]) c46_6 p46_6 x = r46_6 x := r46_6_run0 x.1 x.2.1 x.2.2.1 x.2.2.2.1 x.2.2.2.2.1 x.2.2.2.2.2.1 x.2.2.2.2.2.2.1 x.2.2.2.2.2.2.2.1 x.2.2.2.2.2.2.2.2.1 x.2.2.2.2.2.2.2.2.2.1 x.2.2.2.2.2.2.2.2.2.2.1 x.2.2.2.2.2.2.2.2.2.2.2.1 x.2.2.2.2.2.2.2.2.2.2.2.2.1 x.2.2.2.2.2.2.2.2.2.2.2.2.2.1 x.2.2.2.2.2.2.2.2.2.2.2.2.2.2.1
noncomputable def l46_6 (x : Nat × Int × Nat × Nat × Int × Int × Int × List Int × Int × Int × List Int × List Pt × List Pt × Int × Int × Unit) : Option (Nat × Int × Nat × Nat × Int × Int × List Int × Int × Int × List Int × List Pt × List Pt × Int × Int × Unit) := iterO r46_6 x
noncomputable def W46_6 : LF tC := loopW tC p46_6 2 l46_6
theorem W46_6_ok : keyed 6 (loopOf (bodyOf Try.f46) 0) = [.block 2 (.loop c46_6)] ∧ ∀ n, n ≤ 0 → Snd tC n (.block 2 (.loop c46_6)) W46_6.k := ⟨by kernel_rfl, fun n hn => loopW_ok (p := p46_6) (id := 2) Y46 (lam_le (lam_cons W46_46_ok lam_nil) n hn) hn r46_6_run⟩
noncomputable def c46_0 : Code := loopOf (bodyOf Try.f46) 0
def p46_0 : LS := ⟨0, [3, 5, 9, 11, 12, 13, 14], ⟨[vB, vB, vB, .one (.one (.ptr 0 0 0)), vB, .one (.one (.ptr 1 0 0)), vB, vB, vB, .one (.one (.sl 2)), vB, vI, .one (.one (.sl 3)), .one (.one (.sl 4)), .one (.one (.ptr 5 0 0))] ++ vBs 104, [.box [.int .i64, .int .i64, .imm 5], .box [.int .i64, .int .i64], .arr 3, .arr 26, .arr 26, .box [.int .i64, .int .i64]]⟩, [⟨.exit 0, [11, 13], ⟨vBs 11 ++ [vI, vB, .one (.one (.sl 0))] ++ vBs 105, [.arr 26]⟩, []⟩], []⟩
noncomputable def r46_0 (x : Nat × Int × Nat × Nat × Int × Int × List Int × Int × Int × List Int × List Pt × List Pt × Int × Int × Unit) : Option
  (Nat × Int × Nat × Nat × Int × Int × List Int × Int × Int × List Int × List Pt × List Pt × Int × Int × Unit ⊕ Int × Nat × List Pt × Unit) :=
  bif
    !bif x.snd.snd.snd.snd.snd.snd.snd.snd.snd.snd.snd.snd.fst == x.snd.snd.snd.snd.snd.snd.snd.fst then
        bif x.snd.snd.snd.snd.snd.snd.snd.snd.snd.snd.snd.snd.snd.fst == x.snd.snd.snd.snd.snd.snd.snd.snd.fst then true else false
      else false then
  (l46_6
        (x.fst, x.snd.fst, x.snd.snd.fst, x.snd.snd.snd.fst, (0 : Int), x.snd.snd.snd.snd.fst, x.snd.snd.snd.snd.snd.fst,
          x.snd.snd.snd.snd.snd.snd.fst, x.snd.snd.snd.snd.snd.snd.snd.fst, x.snd.snd.snd.snd.snd.snd.snd.snd.fst,
          x.snd.snd.snd.snd.snd.snd.snd.snd.snd.fst, x.snd.snd.snd.snd.snd.snd.snd.snd.snd.snd.fst,
          x.snd.snd.snd.snd.snd.snd.snd.snd.snd.snd.snd.fst, x.snd.snd.snd.snd.snd.snd.snd.snd.snd.snd.snd.snd.fst,
          x.snd.snd.snd.snd.snd.snd.snd.snd.snd.snd.snd.snd.snd.fst, ())).bind
    fun y147 =>
    bif decide ((0 : Nat) + y147.snd.snd.snd.fst ≤ y147.snd.snd.snd.snd.snd.snd.snd.snd.snd.snd.snd.fst.length) then
      bif roomy (y147.snd.snd.snd.fst + (1 : Nat)) (16 : Nat) then
        some
          (Sum.inl
            (y147.fst, y147.snd.fst, y147.snd.snd.fst, y147.snd.snd.snd.fst + (1 : Nat), y147.snd.snd.snd.snd.fst,
              y147.snd.snd.snd.snd.snd.fst, y147.snd.snd.snd.snd.snd.snd.fst, y147.snd.snd.snd.snd.snd.snd.snd.fst,
              y147.snd.snd.snd.snd.snd.snd.snd.snd.fst, y147.snd.snd.snd.snd.snd.snd.snd.snd.snd.fst,
              y147.snd.snd.snd.snd.snd.snd.snd.snd.snd.snd.fst,
              List.take y147.snd.snd.snd.fst (List.drop (0 : Nat) y147.snd.snd.snd.snd.snd.snd.snd.snd.snd.snd.snd.fst) ++
                [Pt.mk y147.snd.snd.snd.snd.snd.snd.snd.snd.snd.snd.snd.snd.fst
                    y147.snd.snd.snd.snd.snd.snd.snd.snd.snd.snd.snd.snd.snd.fst],
              y147.snd.snd.snd.snd.snd.snd.snd.snd.snd.snd.snd.snd.fst, y147.snd.snd.snd.snd.snd.snd.snd.snd.snd.snd.snd.snd.snd.fst, ()))
      else none
    else none
else some (Sum.inr (x.snd.fst, x.snd.snd.snd.fst, x.snd.snd.snd.snd.snd.snd.snd.snd.snd.snd.snd.fst, ()))
theorem r46_0_run0 (v0 : Nat) (v1 : Int) (v2 : Nat) (v3 : Nat) (v4 : Int) (v5 : Int) (v6 : List Int) (v7 : Int) (v8 : Int) (v9 : List Int) (v10 : List Pt) (v11 : List Pt) (v12 : Int) (v13 : Int) : roundK tC G46 (look [(6, W46_6)]) c46_0 p46_0 (v0, v1, v2, v3, v4, v5, v6, v7, v8, v9, v10, v11, v12, v13, ()) = r46_0 (v0, v1, v2, v3, v4, v5, v6, v7, v8, v9, v10, v11, v12, v13, ()) := by kernel_rfl
theorem r46_0_run (x : Nat × Int × Nat × Nat × Int × Int × List Int × Int × Int × List Int × List Pt × List Pt × Int × Int × Unit) : roundK tC G46 (look [(6, W46_6)]) c46_0 p46_0 x = r46_0 x := r46_0_run0 x.1 x.2.1 x.2.2.1 x.2.2.2.1 x.2.2.2.2.1 x.2.2.2.2.2.1 x.2.2.2.2.2.2.1 x.2.2.2.2.2.2.2.1 x.2.2.2.2.2.2.2.2.1 x.2.2.2.2.2.2.2.2.2.1 x.2.2.2.2.2.2.2.2.2.2.1 x.2.2.2.2.2.2.2.2.2.2.2.1 x.2.2.2.2.2.2.2.2.2.2.2.2.1 x.2.2.2.2.2.2.2.2.2.2.2.2.2.1
noncomputable def l46_0 (x : Nat × Int × Nat × Nat × Int × Int × List Int × Int × Int × List Int × List Pt × List Pt × Int × Int × Unit) : Option (Int × Nat × List Pt × Unit) := iterO r46_0 x
noncomputable def W46_0 : LF tC := loopW tC p46_0 0 l46_0
theorem W46_0_ok : keyed 0 (bodyOf Try.f46) = [.block 0 (.loop c46_0)] ∧ ∀ n, n ≤ 0 → Snd tC n (.block 0 (.loop c46_0)) W46_0.k := ⟨by kernel_rfl, fun n hn => loopW_ok (p := p46_0) (id := 0) Y46 (lam_le (lam_cons W46_6_ok lam_nil) n hn) hn r46_0_run⟩
def S46 : FS := ⟨[[.v, .v, .s 5], [.v, .v], [.v, .v]], [⟨[.one (.agg [.int .i64, .int .i64, .imm 5]), .one (.agg [.int .i64, .int .i64]), .one (.agg [.int .i64, .int .i64])], []⟩], [⟨[.tup [.one (.sl 0), .one (.int .i64), .one (.int .i64)]], [.arr 26]⟩], [[.v], [.v], [.v]], [(6, 26)]⟩
noncomputable def f46 (x : Int × Int × List Int × Int × Int × Int × Int × Unit) : Option (Nat × Int × Int × List Pt × Unit) :=
  (f11 (x.fst, x.snd.fst, x.snd.snd.fst, ())).bind fun y160 =>
  bif !y160.fst then some ((0 : Nat), (0 : Int), (1 : Int), [], ())
  else
    (f54 (x.fst, x.snd.fst, x.snd.snd.fst, x.snd.snd.snd.fst, x.snd.snd.snd.snd.fst, ())).bind fun y159 =>
      bif !y159.fst then some ((0 : Nat), (0 : Int), (7 : Int), [], ())
      else
        (f54 (x.fst, x.snd.fst, x.snd.snd.fst, x.snd.snd.snd.snd.snd.fst, x.snd.snd.snd.snd.snd.snd.fst, ())).bind fun y158 =>
          bif !y158.fst then some ((0 : Nat), (0 : Int), (7 : Int), [], ())
          else
            (f45 (x.fst, x.snd.fst, x.snd.snd.fst, x.snd.snd.snd.snd.snd.fst, x.snd.snd.snd.snd.snd.snd.fst, ())).bind fun y157 =>
              bif
                  decide ((0 : Int) ≤ IntKind.i64.wrap (IntKind.i64.wrap (x.snd.snd.snd.snd.fst * x.fst) + x.snd.snd.snd.fst)) &&
                    decide
                      (IntKind.i64.wrap (IntKind.i64.wrap (x.snd.snd.snd.snd.fst * x.fst) + x.snd.snd.snd.fst) < (↑y157.fst : Int)) then
                y157.snd.snd.fst[(0 : Nat) +
                        (IntKind.i64.wrap (IntKind.i64.wrap (x.snd.snd.snd.snd.fst * x.fst) + x.snd.snd.snd.fst)).toNat]?.bind
                  fun y156 =>
                  bif decide (y156 < (0 : Int)) then some ((0 : Nat), (0 : Int), (14 : Int), [], ())
                  else
                    (l46_0
                          (y157.fst, y156, f55.fst, (1 : Nat), x.fst, x.snd.fst, x.snd.snd.fst, x.snd.snd.snd.snd.snd.fst,
                            x.snd.snd.snd.snd.snd.snd.fst, y157.snd.snd.fst, f55.snd, [Pt.mk x.snd.snd.snd.fst x.snd.snd.snd.snd.fst],
                            x.snd.snd.snd.fst, x.snd.snd.snd.snd.fst, ())).bind
                      fun y155 => some (y155.snd.fst, y155.fst, (0 : Int), y155.snd.snd.fst, ())
              else none
noncomputable def F46 : CF tC := mkF tC S46 f46
theorem f46_run : ∀ a, fnS tC G46 (look [(0, W46_0)]) Try.f46 S46 a = f46 a := fun a => by kernel_rfl
theorem F46_ok : CFOK tC 46 F46 := mkF_ok Y46 (fn := Try.f46) (body := bodyOf Try.f46) (by kernel_rfl) (by kernel_rfl) (by kernel_rfl) (m := 0) rfl (lam_le (lam_cons W46_0_ok lam_nil)) f46_run

/-! awake -/
noncomputable def G9 : FuncId → Option (CF tC) := look [(10, F10), (14, F14), (15, F15), (16, F16)]
theorem Y9 : SysN tC G9 := (sys_cons F10_ok (mkF_nat _ _) (sys_cons F14_ok (mkF_nat _ _) (sys_cons F15_ok (mkF_nat _ _) (sys_cons F16_ok (mkF_nat _ _) (sys_nil tC_ok tC_eq)))))
def S9 : FS := ⟨[], [⟨[], []⟩], [⟨[vO], []⟩], [[.v]], []⟩
noncomputable def f9 (_x : Unit) : Option (Bool × Unit) :=
  (f10 ((3 : Int), (2 : Int), [(1 : Int), (1 : Int), (1 : Int), (1 : Int), (1 : Int), (1 : Int)], (2 : Int), (1 : Int), ())).bind fun y51 =>
  Sum.elim (fun _x => some (false, ()))
    (fun y50 =>
      Sum.elim (fun _x => some (false, ()))
        (fun y49 =>
          bif decide ((0 : Nat) + y49.snd.snd.fst ≤ y49.snd.snd.snd.snd.snd.snd.fst.length) then
            bif decide ((0 : Nat) + y49.snd.snd.snd.snd.snd.fst ≤ y49.snd.snd.snd.snd.snd.snd.snd.fst.length) then
              (f14
                    (y49.fst, y49.snd.fst, List.take y49.snd.snd.fst (List.drop (0 : Nat) y49.snd.snd.snd.snd.snd.snd.fst),
                      y49.snd.snd.snd.fst, y49.snd.snd.snd.snd.fst,
                      List.take y49.snd.snd.snd.snd.snd.fst (List.drop (0 : Nat) y49.snd.snd.snd.snd.snd.snd.snd.fst), (0 : Int), (1 : Int),
                      ())).bind
                fun y48 =>
                bif decide ((0 : Nat) + y49.snd.snd.fst ≤ y49.snd.snd.snd.snd.snd.snd.fst.length) then
                  bif decide ((0 : Nat) + y49.snd.snd.snd.snd.snd.fst ≤ y49.snd.snd.snd.snd.snd.snd.snd.fst.length) then
                    (f16
                          ((1 : Int), (1 : Int), false, List.take y49.snd.snd.fst (List.drop (0 : Nat) y49.snd.snd.snd.snd.snd.snd.fst),
                            List.take y49.snd.snd.snd.snd.snd.fst (List.drop (0 : Nat) y49.snd.snd.snd.snd.snd.snd.snd.fst), y49.fst,
                            y49.snd.fst, y49.snd.snd.fst, y49.snd.snd.snd.fst, y49.snd.snd.snd.snd.fst, y49.snd.snd.snd.snd.snd.fst,
                            ())).bind
                      fun y47 =>
                      Sum.elim
                        (fun y43 =>
                          bif decide ((0 : Nat) + y43.snd.snd.snd.snd.snd.fst ≤ y43.snd.fst.length) then
                            bif decide ((0 : Nat) + y43.snd.snd.snd.snd.snd.snd.snd.snd.fst ≤ y43.snd.snd.fst.length) then
                              (f14
                                    (y43.snd.snd.snd.fst, y43.snd.snd.snd.snd.fst,
                                      List.take y43.snd.snd.snd.snd.snd.fst (List.drop (0 : Nat) y43.snd.fst),
                                      y43.snd.snd.snd.snd.snd.snd.fst, y43.snd.snd.snd.snd.snd.snd.snd.fst,
                                      List.take y43.snd.snd.snd.snd.snd.snd.snd.snd.fst (List.drop (0 : Nat) y43.snd.snd.fst), (0 : Int),
                                      (1 : Int), ())).bind
                                fun y42 =>
                                bif decide ((0 : Nat) + y43.snd.snd.snd.snd.snd.fst ≤ y43.snd.fst.length) then
                                  bif decide ((0 : Nat) + y43.snd.snd.snd.snd.snd.snd.snd.snd.fst ≤ y43.snd.snd.fst.length) then
                                    (f15
                                          (y43.snd.snd.snd.fst, y43.snd.snd.snd.snd.fst,
                                            List.take y43.snd.snd.snd.snd.snd.fst (List.drop (0 : Nat) y43.snd.fst),
                                            y43.snd.snd.snd.snd.snd.snd.fst, y43.snd.snd.snd.snd.snd.snd.snd.fst,
                                            List.take y43.snd.snd.snd.snd.snd.snd.snd.snd.fst (List.drop (0 : Nat) y43.snd.snd.fst),
                                            (0 : Int), (1 : Int), ())).bind
                                      fun y41 =>
                                      bif y48.fst == (140 : Int) then
                                        bif y43.fst == (0 : Int) then
                                          bif y42.fst == (280 : Int) then
                                            bif (↑y41.fst : Int) == (5 : Int) then
                                              bif y41.snd.fst == (280 : Int) then some (y41.snd.snd.fst == (0 : Int), ())
                                              else some (false, ())
                                            else some (false, ())
                                          else some (false, ())
                                        else some (false, ())
                                      else some (false, ())
                                  else none
                                else none
                            else none
                          else none)
                        (fun y46 =>
                          bif decide ((0 : Nat) + y46.snd.snd.snd.fst ≤ y46.snd.snd.snd.snd.snd.snd.snd.fst.length) then
                            bif decide ((0 : Nat) + y46.snd.snd.snd.snd.snd.snd.fst ≤ y46.snd.snd.snd.snd.snd.snd.snd.snd.fst.length) then
                              (f14
                                    (y46.snd.fst, y46.snd.snd.fst,
                                      List.take y46.snd.snd.snd.fst (List.drop (0 : Nat) y46.snd.snd.snd.snd.snd.snd.snd.fst),
                                      y46.snd.snd.snd.snd.fst, y46.snd.snd.snd.snd.snd.fst,
                                      List.take y46.snd.snd.snd.snd.snd.snd.fst
                                        (List.drop (0 : Nat) y46.snd.snd.snd.snd.snd.snd.snd.snd.fst),
                                      (0 : Int), (1 : Int), ())).bind
                                fun y45 =>
                                bif decide ((0 : Nat) + y46.snd.snd.snd.fst ≤ y46.snd.snd.snd.snd.snd.snd.snd.fst.length) then
                                  bif
                                      decide
                                        ((0 : Nat) + y46.snd.snd.snd.snd.snd.snd.fst ≤ y46.snd.snd.snd.snd.snd.snd.snd.snd.fst.length) then
                                    (f15
                                          (y46.snd.fst, y46.snd.snd.fst,
                                            List.take y46.snd.snd.snd.fst (List.drop (0 : Nat) y46.snd.snd.snd.snd.snd.snd.snd.fst),
                                            y46.snd.snd.snd.snd.fst, y46.snd.snd.snd.snd.snd.fst,
                                            List.take y46.snd.snd.snd.snd.snd.snd.fst
                                              (List.drop (0 : Nat) y46.snd.snd.snd.snd.snd.snd.snd.snd.fst),
                                            (0 : Int), (1 : Int), ())).bind
                                      fun y44 =>
                                      bif y48.fst == (140 : Int) then
                                        bif y46.fst == (0 : Int) then
                                          bif y45.fst == (280 : Int) then
                                            bif (↑y44.fst : Int) == (5 : Int) then
                                              bif y44.snd.fst == (280 : Int) then some (y44.snd.snd.fst == (0 : Int), ())
                                              else some (false, ())
                                            else some (false, ())
                                          else some (false, ())
                                        else some (false, ())
                                      else some (false, ())
                                  else none
                                else none
                            else none
                          else none)
                        y47
                  else none
                else none
            else none
          else none)
        y50)
    y51
noncomputable def F9 : CF tC := mkF tC S9 f9
theorem f9_run : ∀ a, fnS tC G9 (look []) Try.f9 S9 a = f9 a := fun a => by kernel_rfl
theorem F9_ok : CFOK tC 9 F9 := mkF_ok Y9 (fn := Try.f9) (body := bodyOf Try.f9) (by kernel_rfl) (by kernel_rfl) (by kernel_rfl) (m := 0) rfl (lam_le lam_nil) f9_run
end Go.AE
