/-
  'SegmentMoves': for every input the law's function returns true, and each argument reads as it did.
  Conditions: none beyond those of the given statement.
-/
import Derived.Test.YtkhnmonbielapaaRows
import Derived.Test.YtkhnmonbielapaaAeW
import Derived.Test.YtkhnmonbielapaaC
import Derived.Test.YtkhnmonbielapaaWf
namespace Go.Proofs.Ytkhnmonbielapaa.segmentMoves
open Go.AE Go.ChangeShapes Go.WideShapes Go.ChangeAt Go.RowKit

theorem own : ownKnob Try.prog.godebug = none := by kernel_rfl
theorem laidOut : laidOutB Try.prog = true := by kernel_rfl

set_option maxRecDepth 100000 in
theorem lifted (os : Os) (started : os.Started) (H : Type) (enc : TypeId × Value → H) :
    ReturnsInHanded {} Try.checked os 4 .any (Rows.segmentMovesSpec.pre6 enc Try.prog Try.f4 Rows.segmentMovesRow.domain false) (Rows.segmentMovesSpec.post enc Try.prog Try.f4 false true false false) := by
  refine returnsInHanded_of_change (C := Try.checked) own started (by kernel_rfl) Try.func4
    (ChangeSpec.witness6 (enc := enc) (C := Try.checked) false ⟨#[], #[.agg #[.int .i64 0, .int .i64 0, .int .i64 0, .int .i64 0, .int .i64 0], .agg #[.int .i64 0, .int .i64 0, .int .i64 0, .int .i64 0], .agg #[.int .i16 0, .int .i16 0]], []⟩ 8 (by kernel_rfl) (by kernel_rfl) (by kernel_rfl) (by kernel_rfl)) ?_
  intro W base args ds gs before hval0 hW _ _
  have hval : ∀ (j : Nat) t v, Try.f4.params[j]? = some t → args[j]? = some v → Value.okWide Try.prog W .any base t v := hval0
  have hW' := hW
  obtain ⟨p, q, hA0, hV, rfl, _, _⟩ := hW
  have hA : DataW.TrodAll enc Try.prog W 0 (fun _ => true) true Try.f4.params.toList args.toList ds p := hA0
  obtain ⟨rfl, rfl⟩ := trodVars_none hV
  clear hA0 hval0
  simp only [List.append_nil] at hW'
  have hP : Try.f4.params.toList = [27, 29, 38] := by rw [Try.params4]
  have hA2 := hA
  rw [hP] at hA2
  obtain ⟨hlen, hcalls⟩ := law_calls (C := tC) (enc := enc) (el := tEl) (D := tD) tC_ok tE_total (f := 4) (ts := [27, 29, 38]) (by kernel_rfl) (by kernel_rfl) F4_ok (fun ⟨px, py, x, y, d, a, b, c, e, s, t, ⟨⟩⟩ hw => by
      have h := wf_at hw 2 rfl
      have h1 := wf_int h 0 rfl
      have h2 := wf_int h 1 rfl
      exact segmentMoves_plain px py x y d a b c e s t h1.1 h1.2 h2.1 h2.2)
    (fun j t v h1 h2 => hval j t v (by rw [← Array.getElem?_toList, hP]; exact h1) (by rw [← Array.getElem?_toList]; exact h2)) hA2
  refine hcalls.mono fun e W' ⟨he, hb⟩ => ?_
  subst he
  refine ⟨_, rfl, law_post (C := tC) (tb := 4) rfl (by kernel_rfl) Try.underlying4 laidOut (by kernel_rfl) ?_ hW' hA hb⟩
  match ds, hlen with
  | [d1, d2, d3], _ => rfl

theorem over : Rows.segmentMovesRow.holds Try.pinned (OpenSpec.ofChange Rows.segmentMovesSpec) :=
  OpenClaim.holds_of_wide 4 Try.f4 rfl rfl rfl rfl rfl rfl rfl ⟨rfl, rfl, rfl, rfl, rfl⟩ rfl rfl rfl rfl rfl (by kernel_rfl) Try.func4 (by kernel_rfl)
    (of_decide_eq_true (by kernel_rfl)) (by unfold Func.isWrapper; first | (rw [if_pos (by decide +kernel)]; kernel_rfl) | (rw [if_neg (by decide +kernel)]; exact ⟨rfl, rfl⟩))
    (fun os started H enc _ => lifted os started H enc)

/-- The statement. -/
theorem proved : Rows.SegmentMovesSaid := over
#print axioms proved
end Go.Proofs.Ytkhnmonbielapaa.segmentMoves

