/-
  'FloorGates': for every input the law's function returns true, and each argument reads as it did.
  Conditions: none beyond those of the given statement.
-/
import Derived.Test.YthelgkjfdjnmeaaDoorRows
import Derived.Test.YthelgkjfdjnmeaaDoorAeW
import Derived.Test.YthelgkjfdjnmeaaDoorCards
import Derived.Test.YthelgkjfdjnmeaaDoorTie
import Derived.Test.YthelgkjfdjnmeaaDoorGl
import Derived.ChangeSame
import Derived.ChangeVars
import Derived.JoinedOf
import Derived.RowKitTokens
import Derived.LaidHandle
import Derived.Stop.Joined
import Derived.SevenTiedAt
import Derived.Test.YthelgkjfdjnmeaaDoorR5
namespace Go.Proofs.YthelgkjfdjnmeaaDoor.floorGates
open Go.AE Go.ChangeShapes Go.WideShapes Go.ChangeAt Go.RowKit

theorem own : ownKnob Tryd.prog.godebug = none := by kernel_rfl
theorem laidOut : laidOutB Tryd.prog = true := by kernel_rfl

set_option maxRecDepth 100000 in
theorem lifted (os : Os) (started : os.Started) (H : Type) (enc : TypeId × Value → H) :
    ReturnsInHanded {} Tryd.checked os 11 .any (fun w args => (Rows.floorGatesSpec.pre enc Tryd.prog Tryd.f11 [] false w args ∧ laidMetH Tryd.prog Rows.floorGatesRow.laid w) ∧ sizedMet enc Tryd.prog Tryd.f11 (OpenSpec.ofChange Rows.floorGatesSpec) false w args) (Rows.floorGatesSpec.post enc Tryd.prog Tryd.f11 false true false false) := by
  refine returnsInHanded_of_change_and (C := Tryd.checked) (X := fun w _ => laidMetH Tryd.prog Rows.floorGatesRow.laid w) (fun _ _ _ hh h => h.of_heap hh) own started (by kernel_rfl) Tryd.func11
    (ChangeSpec.witness_at (enc := enc) (C := Tryd.checked) (os := os) (X := fun w _ => laidMetH Tryd.prog Rows.floorGatesRow.laid w) false (laidWorld os) #[.int .i64 0, .int .i64 0, .int .i64 0] 8 rfl (by kernel_rfl) (by kernel_rfl) (by kernel_rfl) (by kernel_rfl) (by kernel_rfl) (laidWorld_met os _)) ?_
  intro W base args ds gs before hval0 hW _ _ hL _
  have hval : ∀ (j : Nat) t v, Tryd.f11.params[j]? = some t → args[j]? = some v → Value.okWide Tryd.prog W .any base t v := hval0
  have hW' := hW
  obtain ⟨p, q, hA0, hV, rfl, _, _⟩ := hW
  have hA : DataW.TrodAll enc Tryd.prog W 0 (fun _ => true) true Tryd.f11.params.toList args.toList ds p := hA0
  obtain ⟨rfl, rfl⟩ := trodVars_none hV
  clear hA0 hval0
  simp only [List.append_nil] at hW'
  have hP : Tryd.f11.params.toList = [3, 3, 3] := by rw [Tryd.params11]
  have hA2 := hA
  rw [hP] at hA2
  obtain ⟨hlen, hcalls⟩ := law_calls (C := tC) (enc := enc) (el := tEl) (D := tD) tC_ok tE_total (f := 11) (ts := [3, 3, 3]) (by kernel_rfl) (by kernel_rfl) F11_ok (fun y _ => floorGates_plain y)
    (fun j t v h1 h2 => hval j t v (by rw [← Array.getElem?_toList, hP]; exact h1) (by rw [← Array.getElem?_toList]; exact h2)) hA2 (glob_of hL) Tryd.func11 (by kernel_rfl) (by kernel_rfl)
  refine hcalls.mono fun e W' ⟨he, hb⟩ => ?_
  subst he
  refine ⟨_, rfl, law_post (C := tC) (tb := 4) rfl (by kernel_rfl) Tryd.underlying4 laidOut (by kernel_rfl) ?_ hW' hA hb⟩
  match ds, hlen with
  | [d1, d2, d3], _ => rfl

theorem over : Rows.floorGatesRow.holds Tryd.pinned (OpenSpec.ofChange Rows.floorGatesSpec) :=
  OpenClaim.holds_of_wide 11 Tryd.f11 rfl rfl rfl rfl rfl rfl rfl ⟨rfl, rfl, rfl, rfl, rfl⟩ rfl rfl rfl rfl rfl (by kernel_rfl) Tryd.func11 (by kernel_rfl)
    (of_decide_eq_true (by kernel_rfl)) (by unfold Func.isWrapper; first | (rw [if_pos (by decide +kernel)]; kernel_rfl) | (rw [if_neg (by decide +kernel)]; exact ⟨rfl, rfl⟩))
    (fun os started H enc _ => lifted os started H enc)

/-- The statement: the card. -/
theorem proved : Rows.FloorGatesCardSaid :=
  Claim7.holds_tied_plain_at .later [] [.data] true (true, "0f732b26d0115816faa953e6331dc43c2b8df19b2dd41d6a31454e20281be15c") false
    over (fun _ h => by cases h) (by kernel_rfl) (fun _ h => by cases h) floorGates_row_tie rfl ⟨rfl, rfl⟩ (by kernel_rfl) rfl
    (fun f fn hf hfn => by
      obtain rfl : f = 11 := Option.some.inj ((show Tryd.prog.funcNamed "wayfinder/wayfinderlaw09.FloorGates" = some 11 by kernel_rfl).symm.trans hf) |>.symm
      obtain rfl : fn = Tryd.f11 := (Option.some.inj (Tryd.func11.symm.trans hfn)).symm
      exact ⟨by kernel_rfl, fun j t ht => by
        have hall : Tryd.f11.params.toList.all (fun t => !Tryd.prog.wantsStandIn t) = true := by kernel_rfl
        have hm : t ∈ Tryd.f11.params.toList := List.mem_of_getElem? (i := j) (by rw [Array.getElem?_toList]; exact ht)
        exact (by simpa using List.all_eq_true.1 hall t hm : Tryd.prog.wantsStandIn t = false)⟩)
    (by kernel_rfl)
#print axioms proved
end Go.Proofs.YthelgkjfdjnmeaaDoor.floorGates

