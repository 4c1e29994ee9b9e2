/-
  AE, part 18: what is known of a law's arguments: each integer fits its kind.
-/
import Derived.Test.YtmhbjgelllhnbaaAeW
namespace Go.AE
open Go.RowKit
section
variable {C : Cfg}
/-- An argument of a law; a cell of it. -/
theorem wf_at {n : Nat} {shapes : List VT} {y : tysV C.E shapes Unit} (hw : ∀ x ∈ (embV shapes y).1, AV.wf C n x) (i : Nat) {v : AV C.E} (h : (embV shapes y).1[i]? = some v) : AV.wf C n v := hw v (List.mem_of_getElem? h)
theorem wf_cell {n : Nat} {cs : List (AV C.E)} (hw : AV.wf C (n + 1) (.agg cs)) (i : Nat) {v : AV C.E} (h : cs[i]? = some v) : AV.wf C n v := hw v (List.mem_of_getElem? h)
theorem wf_int1 {n : Nat} {k : IntKind} {i : Int} (hw : AV.wf C (n + 1) (.int k i)) : k.min ≤ i ∧ i ≤ k.max := by
  have h : (Lit.int k i).wf = true := hw
  simpa [Lit.wf] using h
theorem wf_int {n : Nat} {cs : List (AV C.E)} (hw : AV.wf C (n + 2) (.agg cs)) (i : Nat) {k : IntKind} {m : Int} (h : cs[i]? = some (.int k m)) : k.min ≤ m ∧ m ≤ k.max := wf_int1 (wf_cell hw i h)
/-- The elements of a slice of integers. -/
theorem wf_imm {n : Nat} {e : TypeId} {xs : List (C.E e)} (hw : AV.wf C (n + 2) (.imm e xs)) {k : IntKind} (f : C.E e → Int) (he : ∀ x, C.enc e x = [.int k (f x)]) : ∀ x ∈ xs, k.min ≤ f x ∧ f x ≤ k.max := fun x hx => by
  have h := hw x hx
  rw [he] at h
  exact wf_int1 (h _ (List.mem_singleton.2 rfl))

end
end Go.AE
