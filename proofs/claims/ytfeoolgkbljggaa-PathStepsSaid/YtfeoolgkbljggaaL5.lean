/-
  Plain laws of the chapter Path: steps and what is seen.
-/
import Derived.Test.YtfeoolgkbljggaaP10
import Derived.Test.YtfeoolgkbljggaaL1
namespace Go.AE
open Go.Proofs Go.RowKit
set_option maxRecDepth 100000

theorem pathSteps_plain (x : Int × Int × List Int × Int × Int × Int × Int × Unit) : f11 x = some (true, ()) := by
  obtain ⟨w, h, l, a, b, c, d, ⟨⟩⟩ := x
  unfold f11
  simp only [f14_spec, Option.bind_some, Bool.not_true, cond_false, f15_spec]
  by_cases hl : l.length ≤ 400
  · simp only [hl, decide_true, Bool.not_true, cond_false, f16_spec w h (l := l) (by omega), Option.bind_some, zl, cond_true, take_self]
    cases hv : (⟨w, h, l⟩ : Pl).vld with
    | false =>
      have hll : (⟨w, h, l⟩ : Pl).C.length ≤ 1000000 := by simp only; omega
      have e1 : f32 (w, h, l, a, b, c, d, ()) = some (0, false, ()) := f32_bad hll hv a b c d
      have e2 : f24 (w, h, l, ()) = some (false, ()) := by have := f24_spec hll; rw [hv] at this; exact this
      have e3 : f27 (w, h, l, a, b, c, d, ()) = some (false, ()) := f27_bad hll hv a b c d
      have e4 : f34 (w, h, l, a, b, c, d, ()) = some (false, ()) := f34_bad hll hv a b c d
      have n1 : (0 : Int) > -1 := by omega
      have n2 : ¬ (-1 : Int) ≥ 0 := by omega
      simp only [e1, e2, Option.bind_some, cond_false, j11_25, n1, n2, decide_true, decide_false, cond_true, beq_self_eq_true, zl, take_self, e3, e4, f20_self]
    | true =>
      have hp := Pl.vld_ok hv hl
      have e1 := f32_spec hp ⟨a, b⟩ ⟨c, d⟩
      have e2 : f24 (w, h, l, ()) = some (true, ()) := by have := f24_spec (p := ⟨w, h, l⟩) (by simp only; omega); rw [hv] at this; exact this
      have e3 := f33_spec hp ⟨a, b⟩ ⟨c, d⟩
      obtain ⟨t, e4, e5⟩ := f27_spec hp ⟨a, b⟩ ⟨c, d⟩
      obtain ⟨u, e6, e7⟩ := f34_spec hp ⟨a, b⟩ ⟨c, d⟩
      have : t = u := by rw [Bool.eq_iff_iff, e5, e7]
      subst this
      simp only at e1 e3 e4 e6
      have k1 : ((⟨w, h, l⟩ : Pl).stp ⟨a, b⟩ ⟨c, d⟩).getD 0 = (bif decide (0 > num ((⟨w, h, l⟩ : Pl).stp ⟨a, b⟩ ⟨c, d⟩)) then 0 else num ((⟨w, h, l⟩ : Pl).stp ⟨a, b⟩ ⟨c, d⟩)) ∧ ((⟨w, h, l⟩ : Pl).stp ⟨a, b⟩ ⟨c, d⟩).isSome = decide (num ((⟨w, h, l⟩ : Pl).stp ⟨a, b⟩ ⟨c, d⟩) ≥ 0) := by
        cases hs : (⟨w, h, l⟩ : Pl).stp ⟨a, b⟩ ⟨c, d⟩ with
        | none => exact ⟨rfl, rfl⟩
        | some k =>
          have := Pl.stp_pos hs
          have n1 : ¬ (0 : Int) > num (some k) := by have : num (some k) = k := rfl; omega
          have n2 : num (some k) ≥ 0 := by have : num (some k) = k := rfl; omega
          rw [decide_eq_false n1, decide_eq_true n2]
          exact ⟨rfl, rfl⟩
      simp only [e1, e2, e3, Option.bind_some, cond_true, j11_25, ← k1.1, ← k1.2, beq_self_eq_true, zl, decide_true, take_self, e4, e6, f20_self]
  · simp only [hl, decide_false, Bool.not_false, cond_true]

end Go.AE
