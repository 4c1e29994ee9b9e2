/-
  'WholeRetract': for every input the law's function returns true, and each argument reads as it did.
  Conditions: none beyond those of the given statement.
-/
import Derived.Test.YtadnppefidjhfaaGreatRows
import Derived.Test.YtadnppefidjhfaaGreatAeW
import Derived.Test.YtadnppefidjhfaaGreatN8
import Derived.Test.YtadnppefidjhfaaGreatCfgT
import Derived.Test.YtadnppefidjhfaaGreatCfgU
namespace Go.Proofs.YtadnppefidjhfaaGreat.wholeRetract
open Go.AE Go.ChangeShapes Go.WideShapes Go.ChangeAt Go.RowKit

theorem own : ownKnob Tryz.prog.godebug = none := by kernel_rfl
theorem laidOut : laidOutB Tryz.prog = true := by kernel_rfl

set_option maxRecDepth 100000 in
theorem lifted (os : Os) (started : os.Started) (H : Type) (enc : TypeId × Value → H) :
    ReturnsInHanded {} Tryz.checked os 3 .any (Rows.wholeRetractSpec.pre6 enc Tryz.prog Tryz.f3 Rows.wholeRetractRow.domain false) (Rows.wholeRetractSpec.post enc Tryz.prog Tryz.f3 false true false false) := by
  refine returnsInHanded_of_change (C := Tryz.checked) own started (by kernel_rfl) Tryz.func3
    (ChangeSpec.witness6 (enc := enc) (C := Tryz.checked) false ⟨#[], #[.slice none 0 0, .int .i64 0, .agg #[.int .i64 0, .bool false, .int .i64 0, .int .i64 0, .int .i64 0]], []⟩ 8 (by kernel_rfl) (by kernel_rfl) (by kernel_rfl) (by kernel_rfl)) ?_
  intro W base args ds gs before hval0 hW _ _
  have hval : ∀ (j : Nat) t v, Tryz.f3.params[j]? = some t → args[j]? = some v → Value.okWide Tryz.prog W .any base t v := hval0
  have hW' := hW
  obtain ⟨p, q, hA0, hV, rfl, _, _⟩ := hW
  have hA : DataW.TrodAll enc Tryz.prog W 0 (fun _ => true) true Tryz.f3.params.toList args.toList ds p := hA0
  obtain ⟨rfl, rfl⟩ := trodVars_none hV
  clear hA0 hval0
  simp only [List.append_nil] at hW'
  have hP : Tryz.f3.params.toList = [22, 3, 26] := by rw [Tryz.params3]
  have hA2 := hA
  rw [hP] at hA2
  obtain ⟨hlen, hcalls⟩ := law_calls (C := tC) (enc := enc) (el := tEl) (D := 5) tC_ok tE_totalU (f := 3) (ts := [22, 3, 26]) (by kernel_rfl) (by kernel_rfl) F3_ok (fun y _ => wholeRetract_plain y.1 y.2.1 ⟨y.2.2.1, y.2.2.2.1, y.2.2.2.2.1, y.2.2.2.2.2.1, y.2.2.2.2.2.2.1⟩)
    (fun j t v h1 h2 => hval j t v (by rw [← Array.getElem?_toList, hP]; exact h1) (by rw [← Array.getElem?_toList]; exact h2)) hA2 (fun g l e => by cases (show none = some l from e)) Tryz.func3 (by kernel_rfl) (by kernel_rfl)
  refine hcalls.mono fun e W' ⟨he, hb⟩ => ?_
  subst he
  refine ⟨_, rfl, law_post (C := tC) (tb := 4) rfl (by kernel_rfl) Tryz.underlying4 laidOut (by kernel_rfl) ?_ hW' hA hb⟩
  match ds, hlen with
  | [d1, d2, d3], _ => rfl

theorem over : Rows.wholeRetractRow.holds Tryz.pinned (OpenSpec.ofChange Rows.wholeRetractSpec) :=
  OpenClaim.holds_of_wide 3 Tryz.f3 rfl rfl rfl rfl rfl rfl rfl ⟨rfl, rfl, rfl, rfl, rfl⟩ rfl rfl rfl rfl rfl (by kernel_rfl) Tryz.func3 (by kernel_rfl)
    (of_decide_eq_true (by kernel_rfl)) (by unfold Func.isWrapper; first | (rw [if_pos (by decide +kernel)]; kernel_rfl) | (rw [if_neg (by decide +kernel)]; exact ⟨rfl, rfl⟩))
    (fun os started H enc _ => lifted os started H enc)

/-- The statement. -/
theorem proved : Rows.WholeRetractSaid := over
#print axioms proved
end Go.Proofs.YtadnppefidjhfaaGreat.wholeRetract

