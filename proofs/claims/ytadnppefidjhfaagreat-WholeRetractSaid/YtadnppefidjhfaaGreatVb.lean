/-
  maps.Values at a tally: the entries come, each once, in some order.
-/
import Derived.Test.YtadnppefidjhfaaGreatVa
import Derived.RangeFuncSeq
import Derived.Sort.MapsRangeIn
import Derived.WalkKit
import Derived.OwnWalkIn
import Derived.TacticsInMore
import Derived.RegionIn
import Derived.LoopNIn
import Derived.LoopIn
import Derived.Maps.AppendAt
import Derived.Shelf.Abstract
namespace Go.AE
open Go.Proofs Go.RowKit Go.ChangeMaps Go.Maps Go.Shelf

/-- An entry as a value. -/
def enE (x : En) : Value := .agg #[.int .i64 x.X, .int .i64 x.Y, .int .i64 x.A, .int .i64 x.B]

set_option maxRecDepth 100000 in
set_option maxHeartbeats 1000000 in
theorem vals_in (F : Fence) (n : Nat) (h74 : F.fn 83) (hro : F.round = none) (hn : 1 ≤ n) (l Bm b nn : Nat) (es : Array MapEntry) (J : List En → World → Prop) (hv : ∀ m ∈ es.toList, ∃ x : En, m.val = enE x)
    (hY : ∀ pre x W, J pre W → pre.length < es.size → YieldAt F (n - 1) Tryz.prog l #[enE x] W fun e W' => e = .returned (.bool true) ∧ J (pre ++ [x]) W' ∧ KeepsWalks W W')
    (W : World) (hJ : AbidesFrom W.heap.size J) (hm : W.cell? ⟨Bm, 0, none⟩ = some (.map (some b))) (hb : W.heap[b]? = some (.map es nn)) (hbo : ∀ x ∈ es.toList, x.born < nn) (hnd : (es.toList.map (·.born)).Nodup) (h0 : J [] W) :
    CallsIn F n Tryz.prog 83 #[.func (.yield l) #[] #[], .pointer (some ⟨Bm, 0, none⟩)] W fun e W' => (∃ v, e = .returned v) ∧ ∃ xs : List En, (∃ ss : List MapEntry, es.toList.Perm ss ∧ ss.map (·.val) = xs.map enE) ∧ J xs W' := by
  refine callsIn_of_wp Tryz.func83 rfl h74 ?_ hro
  simp only [Tryz.ntmps83, List.size_toArray, List.length_cons, List.length_nil, Nat.reduceAdd, Nat.reduceSub, Array.replicate_succ, Array.replicate_zero, List.push_toArray, List.append_toArray, List.nil_append, List.cons_append]
  gi_wp2_with (first
    | (gi_at_range; refine wpListIn_range_walk _ rfl _ 77 rfl 66 68 Tryz.underlying77 b nn es rfl hb hbo hnd ?_; intro w0 hrg0 hg0 hs0)
    | gi_in)
  go_frame
  gi_loopw [4] (fun _ wr => ∃ (ss : List MapEntry) (xs : List En), Walk wr b W.heap.size es nn ss ∧ ss.map (·.val) = xs.map enE ∧ J xs wr)
    (fun _ wr => walkLeft wr b W.heap.size)
  case atStart =>
    exact ⟨[], [], hrg0, rfl, hJ [] W w0 none h0 hg0 (fun r e => by cases e)⟩
  case round =>
    obtain ⟨ss, xs, hrg, hsx, hJs⟩ := hrel
    gi_wp2_with (first
      | (gi_at_next; refine wpListIn_next_walk _ rfl _ rfl b W.heap.size nn es ss rfl hrg ?_ ?_)
      | gi_in)
    · intro hp0
      gi_wp2
      go_end0
      exact ⟨⟨_, rfl⟩, xs, ⟨ss, hp0, hsx⟩, hJs⟩
    · intro m w2 hm2 hrg2 hg2 hs2 hen
      obtain ⟨x, hx⟩ := hv m (by simpa using hm2)
      have hJ2 : J xs w2 := hJ xs wr w2 (some W.heap.size) hJs hg2 (fun r e => by cases e; exact ⟨Nat.le_refl _, hrg.iter_walk⟩)
      have hJ3 : J xs (w2.alloc (.cells #[.int .i64 x.X, .int .i64 x.Y, .int .i64 x.A, .int .i64 x.B] 68)) := hJ xs w2 _ none hJ2 (World.grownBy_alloc w2 _ none) (fun r e => by cases e)
      have hlen : xs.length < es.size := by
        have h1 := hrg2.lt
        have h2 : ss.length = xs.length := by simpa using congrArg List.length hsx
        simp at h1
        omega
      obtain ⟨fn, tmps, assign, body, hy, hR⟩ := hY xs x _ hJ3 hlen
      rw [hx] at hen ⊢
      unfold enE at hen hy ⊢
      clear hs2
      gi_wp2
      refine hR.mono ?_
      rintro e W3 ⟨rfl, hJ4, hk3⟩
      gi_wp2
      have hrg3 := (hrg2.walks (KeepsWalks.alloc _ _)).walks hk3
      go_roundw
      case rel => exact ⟨ss ++ [m], xs ++ [x], hrg3, by simp [hsx, hx, enE], hJ4⟩
      case measure =>
        have h1 := hrg3.left_eq
        have h2 := hrg.left_eq
        simp at h1
        omega
end Go.AE
