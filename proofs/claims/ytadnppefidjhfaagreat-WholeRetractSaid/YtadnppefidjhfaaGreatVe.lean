/-
  maps.Values(t) hands back an iterator over the tally's entries.
-/
import Derived.Test.YtadnppefidjhfaaGreatVd
namespace Go.AE
open Go.Proofs Go.RowKit Go.ChangeMaps Go.Maps Go.Shelf

theorem values_in (F : Fence) (n : Nat) (h59 : F.fn 63) (hro : F.round = none) (mb : Option Nat) (w : World) :
    CallsIn F n Tryz.prog 63 #[.map mb] w fun e w' => e = .returned (.func (.func 83) #[] #[.pointer (some ⟨w.heap.size, 0, none⟩)]) ∧ w' = w.alloc (.cells #[.map mb] 77) := by
  refine callsIn_of_wp Tryz.func63 rfl h59 ?_ hro
  simp only [Tryz.ntmps63, List.size_toArray, List.length_cons, List.length_nil, Nat.reduceAdd, Nat.reduceSub, Array.replicate_succ, Array.replicate_zero, List.push_toArray, List.append_toArray, List.nil_append, List.cons_append]
  gi_wp2
  go_ret
  exact ⟨rfl, rfl⟩

/-- What the iterator gives: the map's values, in some order. -/
def Gave (es : Array MapEntry) (xs : List En) : Prop := ∃ ss : List MapEntry, es.toList.Perm ss ∧ ss.map (·.val) = xs.map enE

theorem vals_gives (F : Fence) (n : Nat) (h74 : F.fn 83) (hro : F.round = none) (hn : 1 ≤ n) (Bm b nn : Nat) (es : Array MapEntry) (w : World) (hBm : Bm < w.heap.size) (hv : ∀ m ∈ es.toList, ∃ x : En, m.val = enE x)
    (hm : w.cell? ⟨Bm, 0, none⟩ = some (.map (some b))) (hb : w.heap[b]? = some (.map es nn)) (hbo : ∀ x ∈ es.toList, x.born < nn) (hnd : (es.toList.map (·.born)).Nodup) :
    SeqGives F n Tryz.prog 83 #[.pointer (some ⟨Bm, 0, none⟩)] enE (Gave es) es.size w := fun l J W hW hJ hY h0 =>
  vals_in F n h74 hro hn l Bm b nn es J hv hY W hJ ((hW.cell (p := ⟨Bm, 0, none⟩) hBm).trans hm) ((hW.block b (Array.getElem?_eq_some_iff.1 hb).1).trans hb) hbo hnd h0
end Go.AE
