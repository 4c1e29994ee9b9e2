/-
  'WireBytes': for every input the law's function returns true, and each argument reads as it did.
  Conditions: none beyond those of the given statement.
-/
import Derived.Test.YtlkoecfkmaifiaaRows
import Derived.Test.YtlkoecfkmaifiaaAeW
import Derived.Test.YtlkoecfkmaifiaaF
import Derived.Test.YtlkoecfkmaifiaaA
import Derived.Test.YtlkoecfkmaifiaaB
import Derived.Test.YtlkoecfkmaifiaaC
import Derived.Test.YtlkoecfkmaifiaaD
import Derived.Test.YtlkoecfkmaifiaaG
import Derived.Test.YtlkoecfkmaifiaaH
import Derived.Test.YtlkoecfkmaifiaaI
import Derived.Test.YtlkoecfkmaifiaaWf
namespace Go.Proofs.Ytlkoecfkmaifiaa.wireBytes
open Go.AE Go.ChangeShapes Go.WideShapes Go.ChangeAt Go.RowKit

theorem own : ownKnob Try.prog.godebug = none := by kernel_rfl
theorem laidOut : laidOutB Try.prog = true := by kernel_rfl

set_option maxRecDepth 100000 in
theorem lifted (os : Os) (started : os.Started) (H : Type) (enc : TypeId × Value → H) :
    ReturnsInHanded {} Try.checked os 12 .any (Rows.wireBytesSpec.pre6 enc Try.prog Try.f12 Rows.wireBytesRow.domain false) (Rows.wireBytesSpec.post enc Try.prog Try.f12 false true false false) := by
  refine returnsInHanded_of_change (C := Try.checked) own started (by kernel_rfl) Try.func12
    (ChangeSpec.witness6 (enc := enc) (C := Try.checked) false ⟨#[], #[.slice none 0 0, .slice none 0 0, .int .i64 0], []⟩ 8 (by kernel_rfl) (by kernel_rfl) (by kernel_rfl) (by kernel_rfl)) ?_
  intro W base args ds gs before hval0 hW _ _
  have hval : ∀ (j : Nat) t v, Try.f12.params[j]? = some t → args[j]? = some v → Value.okWide Try.prog W .any base t v := hval0
  have hW' := hW
  obtain ⟨p, q, hA0, hV, rfl, _, _⟩ := hW
  have hA : DataW.TrodAll enc Try.prog W 0 (fun _ => true) true Try.f12.params.toList args.toList ds p := hA0
  obtain ⟨rfl, rfl⟩ := trodVars_none hV
  clear hA0 hval0
  simp only [List.append_nil] at hW'
  have hP : Try.f12.params.toList = [23, 23, 3] := by rw [Try.params12]
  have hA2 := hA
  rw [hP] at hA2
  obtain ⟨hlen, hcalls⟩ := law_calls (C := tC) (enc := enc) (el := tEl) (D := tD) tC_ok tE_total (f := 12) (ts := [23, 23, 3]) (by kernel_rfl) (by kernel_rfl) F12_ok (fun y hw => by have h := wf_at hw 0 rfl; have h1 := wf_at hw 1 rfl; have h3 := wf_int1 (wf_at hw 2 rfl); have h4 : (-9223372036854775808 : Int) ≤ y.2.2.1 := h3.1; have h5 : y.2.2.1 ≤ (9223372036854775807 : Int) := h3.2; exact wireBytes_plain (byt_of (wf_imm h (k := .u8) (fun x => x) (fun _ => rfl))) (byt_of (wf_imm h1 (k := .u8) (fun x => x) (fun _ => rfl))) h4 h5)
    (fun j t v h1 h2 => hval j t v (by rw [← Array.getElem?_toList, hP]; exact h1) (by rw [← Array.getElem?_toList]; exact h2)) hA2
  refine hcalls.mono fun e W' ⟨he, hb⟩ => ?_
  subst he
  refine ⟨_, rfl, law_post (C := tC) (tb := 4) rfl (by kernel_rfl) Try.underlying4 laidOut (by kernel_rfl) ?_ hW' hA hb⟩
  match ds, hlen with
  | [d1, d2, d3], _ => rfl

theorem over : Rows.wireBytesRow.holds Try.pinned (OpenSpec.ofChange Rows.wireBytesSpec) :=
  OpenClaim.holds_of_wide 12 Try.f12 rfl rfl rfl rfl rfl rfl rfl ⟨rfl, rfl, rfl, rfl, rfl⟩ rfl rfl rfl rfl rfl (by kernel_rfl) Try.func12 (by kernel_rfl)
    (of_decide_eq_true (by kernel_rfl)) (by unfold Func.isWrapper; first | (rw [if_pos (by decide +kernel)]; kernel_rfl) | (rw [if_neg (by decide +kernel)]; exact ⟨rfl, rfl⟩))
    (fun os started H enc _ => lifted os started H enc)

/-- The statement. -/
theorem proved : Rows.WireBytesSaid := over
#print axioms proved
end Go.Proofs.Ytlkoecfkmaifiaa.wireBytes

