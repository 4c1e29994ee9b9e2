/-
  The comparator of a tally's list: what it hands back, and that it only lays blocks.
-/
import Derived.Test.YtadnppefidjhfaaGreatVe
import Derived.Shelf.SlSortCmp.WholeK
import Derived.Shelf.SlicesG.Cmp
import Derived.Shelf.SlGeneric
import Derived.Ground.SlgcProg
import Derived.Ground.SlsfProg
import Derived.Deep.QuietTactic
import Derived.BigQuiet
import Derived.Deep.LoopGhost
import Derived.StillTailTactics
import Derived.Test.YtadnppefidjhfaaGreatLd
import Derived.Test.YtadnppefidjhfaaGreatAeS
import Derived.Shelf.SlSortCmp.NoneTotal
namespace Go.Proofs
open Go.Shelf
def Tryz.sortE0_ren : Go.Shelf.Ren := ⟨fun | 6 => 66 | 15 => 72 | 14 => 84 | 28 => 93 | 29 => 94 | 20 => 98 | 21 => 99 | 22 => 100 | 23 => 101 | 24 => 102 | 25 => 103 | 26 => 104 | 27 => 105 | 46 => 115 | 47 => 107 | 48 => 108 | 49 => 116 | 50 => 117 | 57 => 120 | n => n, fun | 22 => 37 | 24 => 68 | 25 => 121 | 3 => 3 | 39 => 124 | 0 => 0 | 53 => 147 | 55 => 104 | 4 => 4 | 46 => 140 | 45 => 139 | 50 => 144 | 5 => 5 | 9 => 9 | 66 => 162 | 70 => 166 | 76 => 171 | 77 => 129 | n => n, fun | n => n⟩
theorem Tryz.sortE0 : Go.Proofs.SlLaysF0.n6 Tryz.prog Tryz.sortE0_ren := {
  mixed := by kernel_rfl
  f6 := ⟨Tryz.f66.name, by decide, Tryz.func66.trans (congrArg some (by kernel_rfl))⟩
  f14 := ⟨Tryz.f84.name, by decide, Tryz.func84.trans (congrArg some (by kernel_rfl))⟩
  f15 := Tryz.func72.trans (congrArg some (by kernel_rfl))
  f20 := ⟨Tryz.f98.name, by decide, Tryz.func98.trans (congrArg some (by kernel_rfl))⟩
  f21 := ⟨Tryz.f99.name, by decide, Tryz.func99.trans (congrArg some (by kernel_rfl))⟩
  f22 := ⟨Tryz.f100.name, by decide, Tryz.func100.trans (congrArg some (by kernel_rfl))⟩
  f23 := ⟨Tryz.f101.name, by decide, Tryz.func101.trans (congrArg some (by kernel_rfl))⟩
  f24 := ⟨Tryz.f102.name, by decide, Tryz.func102.trans (congrArg some (by kernel_rfl))⟩
  f25 := ⟨Tryz.f103.name, by decide, Tryz.func103.trans (congrArg some (by kernel_rfl))⟩
  f26 := ⟨Tryz.f104.name, by decide, Tryz.func104.trans (congrArg some (by kernel_rfl))⟩
  f27 := ⟨Tryz.f105.name, by decide, Tryz.func105.trans (congrArg some (by kernel_rfl))⟩
  f28 := Tryz.func93.trans (congrArg some (by kernel_rfl))
  f29 := Tryz.func94.trans (congrArg some (by kernel_rfl))
  f46 := ⟨Tryz.f115.name, by decide, Tryz.func115.trans (congrArg some (by kernel_rfl))⟩
  f47 := Tryz.func107.trans (congrArg some (by kernel_rfl))
  f48 := Tryz.func108.trans (congrArg some (by kernel_rfl))
  f49 := ⟨Tryz.f116.name, by decide, Tryz.func116.trans (congrArg some (by kernel_rfl))⟩
  f50 := ⟨Tryz.f117.name, by decide, Tryz.func117.trans (congrArg some (by kernel_rfl))⟩
  f57 := ⟨Tryz.f120.name, by decide, Tryz.func120.trans (congrArg some (by kernel_rfl))⟩
  t0 := Tryz.underlying0
  a0 := Tryz.isAgg0
  z0 := Tryz.sizeOf0
  v0 := Tryz.zeroValue0
  t3 := Tryz.underlying3
  a3 := Tryz.isAgg3
  z3 := Tryz.sizeOf3
  v3 := Tryz.zeroValue3
  t4 := Tryz.underlying4
  a4 := Tryz.isAgg4
  z4 := Tryz.sizeOf4
  v4 := Tryz.zeroValue4
  t5 := Tryz.underlying5
  a5 := Tryz.isAgg5
  z5 := Tryz.sizeOf5
  v5 := Tryz.zeroValue5
  t9 := Tryz.underlying9
  a9 := Tryz.isAgg9
  z9 := Tryz.sizeOf9
  v9 := Tryz.zeroValue9
  t22 := Tryz.underlying37
  a22 := Tryz.isAgg37
  z22 := Tryz.sizeOf37
  v22 := Tryz.zeroValue37
  t25 := Tryz.underlying121
  a25 := Tryz.isAgg121
  z25 := Tryz.sizeOf121
  v25 := Tryz.zeroValue121
  t39 := Tryz.underlying124
  a39 := Tryz.isAgg124
  z39 := Tryz.sizeOf124
  v39 := Tryz.zeroValue124
  t45 := Tryz.underlying139
  a45 := Tryz.isAgg139
  z45 := Tryz.sizeOf139
  v45 := Tryz.zeroValue139
  t46 := Tryz.underlying140
  a46 := Tryz.isAgg140
  z46 := Tryz.sizeOf140
  v46 := Tryz.zeroValue140
  t50 := Tryz.underlying144
  a50 := Tryz.isAgg144
  z50 := Tryz.sizeOf144
  v50 := Tryz.zeroValue144
  t53 := Tryz.underlying147
  a53 := Tryz.isAgg147
  z53 := Tryz.sizeOf147
  v53 := Tryz.zeroValue147
  t55 := Tryz.underlying104
  a55 := Tryz.isAgg104
  z55 := Tryz.sizeOf104
  v55 := Tryz.zeroValue104
  t66 := Tryz.underlying162
  a66 := Tryz.isAgg162
  z66 := Tryz.sizeOf162
  v66 := Tryz.zeroValue162
  t70 := Tryz.underlying166
  a70 := Tryz.isAgg166
  z70 := Tryz.sizeOf166
  v70 := Tryz.zeroValue166
  t76 := Tryz.underlying171
  a76 := Tryz.isAgg171
  z76 := Tryz.sizeOf171
  v76 := Tryz.zeroValue171
  t77 := Tryz.underlying129
  a77 := Tryz.isAgg129
  z77 := Tryz.sizeOf129
  v77 := Tryz.zeroValue129 }
def Tryz.sortC0_ren : Go.Shelf.Ren := ⟨fun | 6 => 51 | 15 => 72 | 14 => 71 | 28 => 93 | 29 => 94 | 20 => 85 | 21 => 86 | 22 => 87 | 23 => 88 | 24 => 89 | 25 => 90 | 26 => 91 | 27 => 92 | 46 => 106 | 47 => 107 | 48 => 108 | 49 => 109 | 50 => 110 | 57 => 118 | n => n, fun | 22 => 82 | 24 => 66 | 25 => 95 | 3 => 3 | 39 => 124 | 0 => 0 | 53 => 147 | 55 => 104 | 4 => 4 | 46 => 140 | 45 => 139 | 50 => 144 | 5 => 5 | 9 => 9 | 66 => 162 | 70 => 166 | 76 => 171 | 77 => 129 | n => n, fun | n => n⟩
theorem Tryz.sortC0 : Go.Proofs.SlLaysF0.n6 Tryz.prog Tryz.sortC0_ren := {
  mixed := by kernel_rfl
  f6 := ⟨Tryz.f51.name, by decide, Tryz.func51.trans (congrArg some (by kernel_rfl))⟩
  f14 := ⟨Tryz.f71.name, by decide, Tryz.func71.trans (congrArg some (by kernel_rfl))⟩
  f15 := Tryz.func72.trans (congrArg some (by kernel_rfl))
  f20 := ⟨Tryz.f85.name, by decide, Tryz.func85.trans (congrArg some (by kernel_rfl))⟩
  f21 := ⟨Tryz.f86.name, by decide, Tryz.func86.trans (congrArg some (by kernel_rfl))⟩
  f22 := ⟨Tryz.f87.name, by decide, Tryz.func87.trans (congrArg some (by kernel_rfl))⟩
  f23 := ⟨Tryz.f88.name, by decide, Tryz.func88.trans (congrArg some (by kernel_rfl))⟩
  f24 := ⟨Tryz.f89.name, by decide, Tryz.func89.trans (congrArg some (by kernel_rfl))⟩
  f25 := ⟨Tryz.f90.name, by decide, Tryz.func90.trans (congrArg some (by kernel_rfl))⟩
  f26 := ⟨Tryz.f91.name, by decide, Tryz.func91.trans (congrArg some (by kernel_rfl))⟩
  f27 := ⟨Tryz.f92.name, by decide, Tryz.func92.trans (congrArg some (by kernel_rfl))⟩
  f28 := Tryz.func93.trans (congrArg some (by kernel_rfl))
  f29 := Tryz.func94.trans (congrArg some (by kernel_rfl))
  f46 := ⟨Tryz.f106.name, by decide, Tryz.func106.trans (congrArg some (by kernel_rfl))⟩
  f47 := Tryz.func107.trans (congrArg some (by kernel_rfl))
  f48 := Tryz.func108.trans (congrArg some (by kernel_rfl))
  f49 := ⟨Tryz.f109.name, by decide, Tryz.func109.trans (congrArg some (by kernel_rfl))⟩
  f50 := ⟨Tryz.f110.name, by decide, Tryz.func110.trans (congrArg some (by kernel_rfl))⟩
  f57 := ⟨Tryz.f118.name, by decide, Tryz.func118.trans (congrArg some (by kernel_rfl))⟩
  t0 := Tryz.underlying0
  a0 := Tryz.isAgg0
  z0 := Tryz.sizeOf0
  v0 := Tryz.zeroValue0
  t3 := Tryz.underlying3
  a3 := Tryz.isAgg3
  z3 := Tryz.sizeOf3
  v3 := Tryz.zeroValue3
  t4 := Tryz.underlying4
  a4 := Tryz.isAgg4
  z4 := Tryz.sizeOf4
  v4 := Tryz.zeroValue4
  t5 := Tryz.underlying5
  a5 := Tryz.isAgg5
  z5 := Tryz.sizeOf5
  v5 := Tryz.zeroValue5
  t9 := Tryz.underlying9
  a9 := Tryz.isAgg9
  z9 := Tryz.sizeOf9
  v9 := Tryz.zeroValue9
  t22 := Tryz.underlying82
  a22 := Tryz.isAgg82
  z22 := Tryz.sizeOf82
  v22 := Tryz.zeroValue82
  t25 := Tryz.underlying95
  a25 := Tryz.isAgg95
  z25 := Tryz.sizeOf95
  v25 := Tryz.zeroValue95
  t39 := Tryz.underlying124
  a39 := Tryz.isAgg124
  z39 := Tryz.sizeOf124
  v39 := Tryz.zeroValue124
  t45 := Tryz.underlying139
  a45 := Tryz.isAgg139
  z45 := Tryz.sizeOf139
  v45 := Tryz.zeroValue139
  t46 := Tryz.underlying140
  a46 := Tryz.isAgg140
  z46 := Tryz.sizeOf140
  v46 := Tryz.zeroValue140
  t50 := Tryz.underlying144
  a50 := Tryz.isAgg144
  z50 := Tryz.sizeOf144
  v50 := Tryz.zeroValue144
  t53 := Tryz.underlying147
  a53 := Tryz.isAgg147
  z53 := Tryz.sizeOf147
  v53 := Tryz.zeroValue147
  t55 := Tryz.underlying104
  a55 := Tryz.isAgg104
  z55 := Tryz.sizeOf104
  v55 := Tryz.zeroValue104
  t66 := Tryz.underlying162
  a66 := Tryz.isAgg162
  z66 := Tryz.sizeOf162
  v66 := Tryz.zeroValue162
  t70 := Tryz.underlying166
  a70 := Tryz.isAgg166
  z70 := Tryz.sizeOf166
  v70 := Tryz.zeroValue166
  t76 := Tryz.underlying171
  a76 := Tryz.isAgg171
  z76 := Tryz.sizeOf171
  v76 := Tryz.zeroValue171
  t77 := Tryz.underlying129
  a77 := Tryz.isAgg129
  z77 := Tryz.sizeOf129
  v77 := Tryz.zeroValue129 }
def Tryz.cmpI0_ren : Go.Shelf.Ren := ⟨fun | 5 => 39 | 7 => 68 | n => n, fun | 22 => 3 | 3 => 3 | 4 => 4 | n => n, fun | n => n⟩
theorem Tryz.cmpI0 : Go.Proofs.SlLaysC2.n5 Tryz.prog Tryz.cmpI0_ren := {
  mixed := by kernel_rfl
  f5 := ⟨Tryz.f39.name, by decide, Tryz.func39.trans (congrArg some (by kernel_rfl))⟩
  f7 := ⟨Tryz.f68.name, by decide, Tryz.func68.trans (congrArg some (by kernel_rfl))⟩
  t3 := Tryz.underlying3
  a3 := Tryz.isAgg3
  z3 := Tryz.sizeOf3
  v3 := Tryz.zeroValue3
  t4 := Tryz.underlying4
  a4 := Tryz.isAgg4
  z4 := Tryz.sizeOf4
  v4 := Tryz.zeroValue4
  t22 := Tryz.underlying3
  a22 := Tryz.isAgg3
  z22 := Tryz.sizeOf3
  v22 := Tryz.zeroValue3 }
end Go.Proofs
namespace Go.AE
open Go.Proofs Go.RowKit Go.Shelf Go.Lib Go.Sort

set_option maxHeartbeats 1000000 in
theorem or64 (x y : Int) (b : Nat) (w : World) (h0 : w.cell? ⟨b, 0, none⟩ = some (.int .i64 x)) (h1 : w.cell? ⟨b, 1, none⟩ = some (.int .i64 y)) :
    Calls Tryz.prog 38 #[.slice (some ⟨b, 0, none⟩) 2 2] w fun e w' => e = .returned (.int .i64 (if x ≠ 0 then x else y)) ∧ w' = w := by
  go_enter Tryz.func38, Tryz.ntmps38
  go_wp2
  go_loopg [5, 8] 2 (fun gg _ s8 wr => ∃ kk : Nat, kk ≤ 2 ∧ 2 - kk ≤ gg ∧ s8 = .int .i64 kk ∧ wr = w ∧ Aside (1 ≤ kk → x = 0) ∧ Aside (kk = 2 → y = 0))
  case atStart => exact ⟨0, by omega, by omega, rfl, rfl, fun h => absurd h (by omega), fun h => absurd h (by omega)⟩
  case round =>
    obtain ⟨kk, hkk, hg, rfl, rfl, A, B⟩ := hrel
    have hk3 : kk = 0 ∨ kk = 1 ∨ kk = 2 := by omega
    rcases hk3 with rfl | rfl | rfl
    · by_cases hx : x = 0
      · subst hx
        go_wp2
        go_roundg 1
        case measure => omega
        case rel => exact ⟨1, by omega, by omega, by go_num, rfl, fun _ => trivial, fun h => absurd h (by omega)⟩
      · go_wp2
        go_ret
        exact ⟨by simp, rfl⟩
    · have hx : x = 0 := A.out (by omega)
      by_cases hy : y = 0
      · subst hy
        go_wp2
        go_roundg 0
        case measure => omega
        case rel => exact ⟨2, by omega, by omega, by go_num, rfl, fun _ => hx, fun _ => trivial⟩
      · go_wp2
        go_ret
        exact ⟨by simp, rfl⟩
    · have hx : x = 0 := A.out (by omega)
      have hy : y = 0 := B.out rfl
      go_wp2
      go_ret
      exact ⟨by simp, rfl⟩

theorem cmp65 (x y : Int) (w : World) : Calls Tryz.prog 39 #[.int .i64 x, .int .i64 y] w fun e w' => e = .returned (.int .i64 (Lib.compareInt x y)) ∧ w' = w := AnyG.cmp_Compare_int Tryz.cmpI0 x y w

def cmpC (ax ay bx by_ : Int) : Int := if Lib.compareInt ay by_ ≠ 0 then Lib.compareInt ay by_ else Lib.compareInt ax bx

theorem two_boxes (w : World) (c d : Array Value) (t u : TypeId) (W : World) (hW : ({ (w.alloc (.cells c t)).alloc (.cells d u) with drawn := ((w.alloc (.cells c t)).alloc (.cells d u)).drawn + 1 } : World) = W) :
    (∀ i, W.cell? ⟨w.heap.size, i, none⟩ = c[i]?) ∧ ∀ i, W.cell? ⟨w.heap.size + 1, i, none⟩ = d[i]? := by
  subst hW
  have h1 : ((w.alloc (.cells c t)).alloc (.cells d u)).heap[w.heap.size]? = some (.cells c t (0, 0)) := (Below.heap_alloc _ _ _ (by simp)).trans (World.alloc_heap_new w _)
  have h2 : ((w.alloc (.cells c t)).alloc (.cells d u)).heap[w.heap.size + 1]? = some (.cells d u (0, 0)) := by
    have := World.alloc_heap_new (w.alloc (.cells c t)) (.cells d u)
    rwa [World.size_alloc] at this
  refine ⟨fun i => ?_, fun i => ?_⟩ <;> unfold World.cell? <;> dsimp only
  · rw [h1]; rfl
  · rw [h2]; rfl

set_option maxRecDepth 100000 in
set_option maxHeartbeats 1000000 in
theorem cmp40 (ax ay bx by_ : Int) (w : World) : Calls Tryz.prog 49 #[.agg #[.int .i64 ax, .int .i64 ay], .agg #[.int .i64 bx, .int .i64 by_]] w fun e w' => e = .returned (.int .i64 (cmpC ax ay bx by_)) ∧ ∃ q os', w' = grow (w.drewN q) os' := by
  have k1 := fun w => cmp65 ay by_ w
  have k2 := fun w => cmp65 ax bx w
  unfold cmpC
  generalize Lib.compareInt ay by_ = r1 at k1 ⊢
  generalize Lib.compareInt ax bx = r2 at k2 ⊢
  generalize hr : (if r1 ≠ 0 then r1 else r2) = r
  go_enter Tryz.func49, Tryz.ntmps49
  go_wp2
  refine wp_region_still_tail 10 (by kernel_rfl) (by kernel_rfl) ?_
  simp only [List.take_succ_cons, List.take_zero, List.drop_succ_cons, List.drop_zero]
  obtain ⟨W, hW⟩ : ∃ W : World, ({ (w.alloc (.cells #[.int .i64 ax, .int .i64 ay] 66)).alloc (.cells #[.int .i64 bx, .int .i64 by_] 66) with drawn := ((w.alloc (.cells #[.int .i64 ax, .int .i64 ay] 66)).alloc (.cells #[.int .i64 bx, .int .i64 by_] 66)).drawn + 1 } : World) = W := ⟨_, rfl⟩
  rw [hW]
  obtain ⟨d1, d2⟩ := two_boxes w _ _ _ _ W hW
  have c0 : W.cell? ⟨w.heap.size, 0, none⟩ = some (.int .i64 ax) := d1 0
  have c1 : W.cell? ⟨w.heap.size, 1, none⟩ = some (.int .i64 ay) := d1 1
  have c2 : W.cell? ⟨w.heap.size + 1, 0, none⟩ = some (.int .i64 bx) := d2 0
  have c3 : W.cell? ⟨w.heap.size + 1, 1, none⟩ = some (.int .i64 by_) := d2 1
  clear d1 d2
  repeat still_step
  still_call (k1 _)
  repeat still_step
  still_call (k2 _)
  refine wpStill_nil ?_
  have ho : ∀ t, Calls Tryz.prog 38 #[.slice (some ⟨W.heap.size, 0, none⟩) 2 2] (W.alloc (.cells #[.int .i64 r1, .int .i64 r2] t)) fun e w' => e = .returned (.int .i64 r) ∧ w' = W.alloc (.cells #[.int .i64 r1, .int .i64 r2] t) := fun t => by
    rw [← hr]
    exact or64 r1 r2 _ _ (by rw [World.cell?_alloc_new]; rfl) (by rw [World.cell?_alloc_new]; rfl)
  go_wp2_with (go_at_call 38; refine (ho _).mono ?_; rintro e w' ⟨rfl, rfl⟩)
  go_ret
  refine ⟨rfl, 1, #[.cells #[.int .i64 ax, .int .i64 ay] 66, .cells #[.int .i64 bx, .int .i64 by_] 66, .cells #[.int .i64 r1, .int .i64 r2] 3], ?_⟩
  rw [← hW]
  rfl
end Go.AE

/-
  slices.SortFunc at a tally's entries: its contract. The entries' cells differ, so the order is one.
-/
namespace Go.AE
open Go.Proofs Go.RowKit Go.Shelf Go.Lib Go.Sort
set_option maxRecDepth 100000

def cmpE (a b : En) : Int := cmpC a.X a.Y b.X b.Y

theorem grow3 (w : World) (a b c : Array Obj) (q : Nat) : grow ((grow (grow w a) b).drewN q) c = grow (w.drewN q) ((a ++ b) ++ c) := by
  unfold grow World.drewN
  simp [Array.append_assoc]

set_option maxHeartbeats 1000000 in
theorem cmp63 (a b : En) (w : World) : Calls Tryz.prog 67 #[.agg (enC a).toArray, .agg (enC b).toArray] w fun e w' => e = .returned (.int .i64 (cmpE a b)) ∧ ∃ q os', w' = grow (w.drewN q) os' := by
  have k := fun w => cmp40 a.X a.Y b.X b.Y w
  unfold cmpE enC
  generalize cmpC a.X a.Y b.X b.Y = r at k ⊢
  go_enter Tryz.func67, Tryz.ntmps67
  go_wp2_with (go_at_call 49; refine (k _).mono ?_; rintro e w' ⟨rfl, q, os', rfl⟩)
  go_ret
  refine ⟨rfl, q, #[.cells #[.int .i64 a.X, .int .i64 a.Y, .int .i64 a.A, .int .i64 a.B] 68, .cells #[.int .i64 b.X, .int .i64 b.Y, .int .i64 b.A, .int .i64 b.B] 68] ++ os', ?_⟩
  rw [alloc_eq_grow, alloc_eq_grow]
  exact grow3 _ _ _ _ _


theorem cmpLays63 (blk off size : Nat) (w : World) : CmpLays Tryz.prog 67 #[] enC 4 cmpE blk off size w := fun _ _ _ _ x y => cmp63 x y _

theorem ltOf_E (a b : En) : ltOf cmpE a b = decide (a.Y < b.Y ∨ a.Y = b.Y ∧ a.X < b.X) := by
  unfold ltOf cmpE cmpC Lib.compareInt
  by_cases h1 : a.Y < b.Y
  · simp [h1]
  · by_cases h2 : b.Y < a.Y
    · have : a.Y ≠ b.Y := by omega
      simp [h1, h2, this]
    · have e : a.Y = b.Y := by omega
      by_cases h3 : a.X < b.X
      · simp [e, h3]
      · by_cases h4 : b.X < a.X <;> simp [e, h3, h4]

theorem swoE : SWO (ltOf cmpE) where
  irrefl x := by rw [ltOf_E]; simp
  trans x y z h1 h2 := by rw [ltOf_E] at *; simp at *; omega
  ntrans x y z h1 h2 := by rw [ltOf_E] at *; simp at *; omega

/-! ### The order -/

def sameC (a b : En) : Prop := a.X = b.X ∧ a.Y = b.Y
theorem sortE_perm (l : List En) : (sortE l).Perm l := List.mergeSort_perm l leE
theorem sortE_len (l : List En) : (sortE l).length = l.length := (sortE_perm l).length_eq
theorem sortE_sorted (l : List En) : (sortE l).Pairwise fun a b => leE a b = true :=
  List.pairwise_mergeSort (fun a b c h1 h2 => by simp [leE] at *; omega) (fun a b => by simp [leE]; omega) l

/-- Two rows of the same entries, both in order, no cell twice: they are one. -/
theorem sorted_one : ∀ {l m : List En}, l.Perm m → (l.Pairwise fun a b => leE a b = true) → (m.Pairwise fun a b => leE a b = true) → (l.Pairwise fun a b => ¬ sameC a b) → l = m
  | [], m, hp, _, _, _ => (List.nil_perm.1 hp).symm
  | a :: l, [], hp, _, _, _ => absurd hp.length_eq (by simp)
  | a :: l, b :: m, hp, hl, hm, hd => by
    obtain ⟨hl1, hl2⟩ := List.pairwise_cons.1 hl
    obtain ⟨hm1, hm2⟩ := List.pairwise_cons.1 hm
    obtain ⟨hd1, hd2⟩ := List.pairwise_cons.1 hd
    have hab : a = b := by
      have h1 : a ∈ b :: m := hp.subset (by simp)
      have h2 : b ∈ a :: l := hp.symm.subset (by simp)
      rcases List.mem_cons.1 h2 with h | h
      · exact h.symm
      · rcases List.mem_cons.1 h1 with h' | h'
        · exact h'
        · have e1 := hl1 b h
          have e2 := hm1 a h'
          exact absurd ⟨by simp [leE] at e1 e2; omega, by simp [leE] at e1 e2; omega⟩ (hd1 b h)
    subst hab
    rw [sorted_one ((List.perm_cons a).1 hp) hl2 hm2 hd2]

theorem sorted_in {d d' : Array En} {n : Nat} (hn : d.size = n) (hp : PermIn 0 n d d') (hs : SortedIn (ltOf cmpE) 0 n d') (hd : d.toList.Pairwise fun a b => ¬ sameC a b) : d'.toList = sortE d.toList := by
  obtain ⟨hsz, _, hperm⟩ := hp
  have e1 : (d'.extract 0 n) = d' := by rw [← hn, ← hsz]; simp
  have e2 : (d.extract 0 n) = d := by rw [← hn]; simp
  rw [e1, e2] at hperm
  have hs' : d'.toList.Pairwise fun a b => leE a b = true := by
    rw [List.pairwise_iff_getElem]
    intro i j hi hj hij
    have h := hs i j (Nat.zero_le _) hij (by simpa [hsz, hn] using hj)
    rw [ltOf_E, getElem!_pos d' i (by simpa using hi), getElem!_pos d' j (by simpa using hj)] at h
    simp only [Array.getElem_toList]
    simp [leE] at h ⊢
    omega
  have hd' : d'.toList.Pairwise fun a b => ¬ sameC a b := hperm.symm.pairwise hd (fun {a b} h h' => h ⟨h'.1.symm, h'.2.symm⟩)
  exact sorted_one (hperm.trans (sortE_perm _).symm) hs' (sortE_sorted _) hd'
end Go.AE

/-
  slices.SortFunc at a tally's entries: its contract. The entries' cells differ, so the order is one.
-/
namespace Go.AE
open Go.Proofs Go.RowKit Go.Sort
set_option maxRecDepth 100000

theorem size61 : sizeT tC 68 = 4 := by kernel_rfl
def wfE (x : En) : Prop := (Lit.int .i64 x.X).wf = true ∧ (Lit.int .i64 x.Y).wf = true ∧ (Lit.int .i64 x.A).wf = true ∧ (Lit.int .i64 x.B).wf = true

theorem lt4 {j : Nat} (h : j < 4) : j = 0 ∨ j = 1 ∨ j = 2 ∨ j = 3 := by omega

theorem rows61 {c : Ctx} {w : World} {x : En} {f : Nat → Value} (hr : ∀ j (h' : j < (tC.enc 68 (x : En)).length), R tC c w (tC.enc 68 (x : En))[j] (f j)) : (∀ j, j < 4 → f j = (enC x)[j]!) ∧ wfE x := by
  have h0 : R tC c w (.int .i64 x.X) (f 0) := hr 0 (show 0 < 4 by omega)
  have h1 : R tC c w (.int .i64 x.Y) (f 1) := hr 1 (show 1 < 4 by omega)
  have h2 : R tC c w (.int .i64 x.A) (f 2) := hr 2 (show 2 < 4 by omega)
  have h3 : R tC c w (.int .i64 x.B) (f 3) := hr 3 (show 3 < 4 by omega)
  generalize e0 : f 0 = v0 at h0
  generalize e1 : f 1 = v1 at h1
  generalize e2 : f 2 = v2 at h2
  generalize e3 : f 3 = v3 at h3
  cases h0 with
  | int g0 =>
  cases h1 with
  | int g1 =>
  cases h2 with
  | int g2 =>
  cases h3 with
  | int g3 =>
  refine ⟨fun j hj => ?_, g0, g1, g2, g3⟩
  rcases lt4 hj with rfl | rfl | rfl | rfl
  · exact e0
  · exact e1
  · exact e2
  · exact e3

theorem encR61 {c : Ctx} {w : World} {x : En} (h : wfE x) : ∀ j (h' : j < (tC.enc 68 (x : En)).length), R tC c w (tC.enc 68 (x : En))[j] ((enC x)[j]!) := by
  intro j hj
  rcases lt4 (show j < 4 from hj) with rfl | rfl | rfl | rfl
  · exact .int h.1
  · exact .int h.2.1
  · exact .int h.2.2.1
  · exact .int h.2.2.2

theorem getD_E (l : List En) (i : Nat) (h : i < l.length) : l.getD i default = l[i] := by rw [List.getD_eq_getElem?_getD, List.getElem?_eq_getElem h]; rfl

theorem arr61 {c : Ctx} {w : World} {id : Nat} {ys : List En} {b base : Nat} (hs : c.σ id = some ⟨b, base, 4⟩) (hc : ∀ i, i < ys.length → ∀ j, j < 4 → w.cell? ⟨b, base + i * 4 + j, none⟩ = some (enC (ys.getD i default))[j]!) (hw : ∀ x ∈ ys, wfE x) : ObR tC c w id (.arr 68 ys) := by
  refine ObR.arr (C := tC) (e := 68) (xs := ys) (b := b) (base := base) (by rw [size61]; exact hs) (fun i j => (enC (ys.getD i default))[j]!) (fun i j hi hj => ?_) (fun i hi j hj => ?_)
  · rw [size61] at hj ⊢
    exact hc i hi j hj
  · have := encR61 (c := c) (w := w) (hw _ (List.getElem_mem hi)) j hj
    have e := getD_E ys i hi
    show R tC c w (tC.enc 68 (ys[i] : En))[j] (enC (ys.getD i default))[j]!
    rw [e]
    exact this

theorem arr61_inv {c : Ctx} {w : World} {id : Nat} {xs : List En} (h : ObR tC c w id (.arr 68 xs)) (hs : c.σ id ≠ none) : ∃ b base, c.σ id = some ⟨b, base, 4⟩ ∧ (∀ i, i < xs.length → ∀ j, j < 4 → w.cell? ⟨b, base + i * 4 + j, none⟩ = some (enC (xs.getD i default))[j]!) ∧ ∀ x ∈ xs, wfE x := by
  obtain ⟨b, base, f, hs', hc, hr⟩ : ∃ (b base : Nat) (f : Nat → Nat → Value), c.σ id = some ⟨b, base, sizeT tC 68⟩ ∧ (∀ i j, i < xs.length → j < sizeT tC 68 → w.cell? ⟨b, base + i * sizeT tC 68 + j, none⟩ = some (f i j)) ∧
      (∀ i (h : i < xs.length) j (h' : j < (tC.enc 68 (xs[i] : En)).length), R tC c w (tC.enc 68 (xs[i] : En))[j] (f i j)) := by
    cases h with
    | nowhere h0 => exact absurd h0 hs
    | arr hs f hc hr => exact ⟨_, _, f, hs, hc, hr⟩
  rw [size61] at hs' hc
  refine ⟨b, base, hs', fun i hi j hj => ?_, fun x hx => ?_⟩
  · rw [hc i j hi hj, (rows61 (hr i hi)).1 j hj, getD_E xs i hi]
  · obtain ⟨i, hi, rfl⟩ := List.getElem_of_mem hx
    exact (rows61 (hr i hi)).2

def S66 : FS := ⟨[[.w 68], [.f]], [⟨[.one (.one (.sl 0)), .one (.fn 67 [])], [.arr 68]⟩], [⟨[.tup []], [.arr 68]⟩], [], []⟩
def f66 (x : Nat × List En × Unit) : Option (List En × Unit) := bif decide (x.1 ≤ x.2.1.length) && (decide (x.1 ≤ 1000000) && apartE (x.2.1.take x.1)) then some (sortE (x.2.1.take x.1) ++ x.2.1.drop x.1, ()) else none
noncomputable def F66 : CF tC := mkF tC S66 f66

theorem flat_at {d : Array En} {i j : Nat} (hi : i < d.size) (hj : j < 4) : (flatK enC 4 d)[i * 4 + j]! = (enC d[i]!)[j]! := by
  rw [get_flatK _ _ _ _ (by omega), show (i * 4 + j) / 4 = i by omega, show (i * 4 + j) % 4 = j by omega]

/-- What stands behind the sort. -/
theorem sortE_after {c : Ctx} {w : World} {xs ys : List En} {n b base m : Nat} {os : Array Obj} {cs : Array Value} {e0 : TypeId} {fr : Nat × Nat} (hh : HR tC c w [some (.arr 68 xs)]) (hs : c.σ 0 = some ⟨b, base, 4⟩) (hle : n ≤ xs.length)
    (hb : w.heap[b]? = some (.cells cs e0 fr)) (hc : ∀ i, i < xs.length → ∀ j, j < 4 → w.cell? ⟨b, base + i * 4 + j, none⟩ = some (enC (xs.getD i default))[j]!)
    (hH : HoldsK enC 4 w b base (xs.take n).toArray) {d : Array En} (hdn : d.size = n) (hyl : ys.length = xs.length) (hy1 : ∀ i, i < n → d[i]! = ys.getD i default) (hy2 : ∀ i, n ≤ i → ys.getD i default = xs.getD i default)
    (hwf : ∀ x ∈ ys, wfE x) :
    HR tC c (sortWorldK enC 4 w b base m d os) [some (.arr 68 ys)] ∧ Le c [some (Ob.arr (E := tC.E) 68 xs)] w c [some (Ob.arr (E := tC.E) 68 ys)] (sortWorldK enC 4 w b base m d os) := by
  have hbl : b < w.heap.size := (Array.getElem?_eq_some_iff.1 hb).1
  have hds : (flatK enC 4 d).size = (flatK enC 4 (xs.take n).toArray).size := by simp; omega
  have hfs : (flatK enC 4 d).size = n * 4 := by simp [hdn]
  have hfl : ∀ i, i < n → ∀ j, j < 4 → (flatK enC 4 d)[i * 4 + j]! = (enC (ys.getD i default))[j]! := fun i hi j hj => by rw [flat_at (by omega) hj, hy1 i hi]
  have hH' : Sort.Holds id w b base (flatK enC 4 (xs.take n).toArray) := hH
  unfold sortWorldK putRowK
  generalize flatK enC 4 d = D at hds hfs hfl ⊢
  have hps : ∀ k, k < w.heap.size → (grow (putRow id (Sort.ahead w m) b base D) os).heap[k]? = (putRow id w b base D).heap[k]? := fun k hk => by
    rw [heap_grow_old _ _ (by simpa using hk)]
    rfl
  have hne : ∀ k, k < w.heap.size → k ≠ b → (grow (putRow id (Sort.ahead w m) b base D) os).heap[k]? = w.heap[k]? := fun k hk hkb => by
    rw [hps k hk]
    have : b ≠ k := fun h => hkb h.symm
    simp [putRow, mapBlock, Array.getElem?_modify, this]
  have heq : (grow (putRow id (Sort.ahead w m) b base D) os).heap[b]? = some (.cells (putCells id base D cs) e0 fr) := by
    rw [hps b hbl]
    simp [putRow, mapBlock, Array.getElem?_modify, hb, onCells]
  have hcell : ∀ o, (grow (putRow id (Sort.ahead w m) b base D) os).cell? ⟨b, o, none⟩ = (putRow id w b base D).cell? ⟨b, o, none⟩ := fun o => by
    rw [cell?_grow _ _ _ (by simpa using hbl), putRow_ahead]
    rfl
  have hsoft := hh.soft 0 _ _ rfl hs
  constructor
  · refine ⟨fun g l hg => (by cases hg), hh.len, hh.sn, fun k hk => ?_, hh.hI, fun id o ho => ?_, fun id o loc ho hl => ?_, fun i j oi oj li lj h1 h2 h3 h4 h5 => ?_⟩
    · have := hh.bnd k hk
      simp
      omega
    · cases id with
      | succ id => simp at ho
      | zero =>
        simp only [List.getElem?_cons_zero, Option.some.injEq] at ho
        subst ho
        refine arr61 hs (fun i hi j hj => ?_) hwf
        rw [hcell]
        by_cases hin : i < n
        · rw [Nat.add_assoc, cell?_putRow _ _ _ _ _ _ hH' hds (i * 4 + j) (by omega), hfl i hin j hj]
          rfl
        · rw [cell?_putRow_other _ _ _ _ _ _ (.inr (.inr (by show base + D.size ≤ base + i * 4 + j; omega))), hc i (by omega) j hj, hy2 i (by omega)]
    · cases id with
      | succ id => simp at ho
      | zero =>
        rw [hs] at hl
        cases hl
        simp only [List.getElem?_cons_zero, Option.some.injEq] at ho
        subst ho
        refine ⟨?_, hsoft.2⟩
        obtain ⟨cs', e', fr', q1, q2⟩ := hsoft.1
        rw [hb] at q1
        cases q1
        exact ⟨_, _, _, heq, by simpa [putCells] using q2⟩
    · cases i with
      | succ i => simp at h1
      | zero => cases j with
        | succ j => simp at h2
        | zero => rfl
  · have hown : ∀ k, Own c [some (Ob.arr (E := tC.E) 68 ys)] k → Own c [some (Ob.arr (E := tC.E) 68 xs)] k := by
      rintro k ⟨id, o, loc, h1, h2, h3⟩
      cases id with
      | succ id => simp at h1
      | zero => exact ⟨0, _, loc, rfl, h2, h3⟩
    refine ⟨Nat.le_refl _, fun _ _ _ h => h, fun _ h => h, fun _ h => h, fun _ _ h => .inl h, fun _ _ h => .inl h, fun k _ h => hown k h, by simp, rfl, rfl, rfl, fun k hk hno => ?_, fun k cs' e' fr' hk => ?_⟩
    · exact hne k hk (fun h => hno ⟨0, _, _, rfl, hs, h.symm⟩)
    · have hks := (Array.getElem?_eq_some_iff.1 hk).1
      by_cases hkb : k = b
      · subst hkb
        rw [hb] at hk
        cases hk
        exact ⟨_, _, heq, by simp [putCells]⟩
      · exact ⟨_, _, by rw [hne k hks hkb]; exact hk, rfl⟩

theorem sortE_run {Z : Type} {c : Ctx} {w : World} {xs ys : List En} {n : Nat} {v0 : Value} {K : AV tC.E → List (Option (Ob tC.E)) → Option Z} {z : Z} (hle : n ≤ xs.length) (hle2 : n ≤ 1000000) (hap : apartE (xs.take n) = true) (hys : ys = sortE (xs.take n) ++ xs.drop n)
    (hk' : K (.tup []) [some (.arr 68 ys)] = some z) (hh : HR tC c w [some (.arr 68 xs)]) (r0 : R tC c w (.sl 0 0 n) v0) :
    Calls tC.P 66 #[v0, .func (.func 67) #[] #[]] w fun e w' => ∃ v r h' c', e = .returned v ∧ K r h' = some z ∧ R tC c' w' r v ∧ HR tC c' w' h' ∧ Le c [some (Ob.arr (E := tC.E) 68 xs)] w c' h' w' := by
  rcases R_sl_inv r0 with ⟨a', rfl, rfl, hn⟩ | ⟨cap, loc, cs, e0, fr, rfl, hs, hn, hlc, hm, hb, hsz⟩
  · refine Calls.mono (AnyF.slices_SortFunc_none Tryz.sortE0 a' 0 _ w) fun e w' ⟨he, hw⟩ => ?_
    subst hw
    have e0 : ys = xs := by rw [hys]; simp [sortE]
    rw [e0] at hk'
    exact ⟨_, _, _, c, he, hk', .tup rfl (fun j hj => absurd hj (Nat.not_lt_zero _)), hh, Le.refl _ _ _⟩
  · obtain ⟨b, base, hs1, hc1, hwx⟩ := arr61_inv (hh.ob 0 _ rfl) (by rw [hs]; simp)
    rw [hs1] at hs
    cases hs
    have hsoft := hh.soft 0 _ _ rfl hs1
    have hbl : b < w.heap.size := (Array.getElem?_eq_some_iff.1 hb).1
    have hlen : (xs.take n).length = n := by rw [List.length_take]; omega
    have hH : HoldsK enC 4 w b base (xs.take n).toArray := by
      intro t ht
      have ht' : t < n * 4 := by simp at ht; omega
      have hi : t / 4 < n := by omega
      have e1 : base + t = base + t / 4 * 4 + t % 4 := by omega
      refine ⟨?_, ?_⟩
      · rw [get_flatK _ _ _ _ (by simpa [hlen] using ht'), e1, hc1 (t / 4) (by omega) (t % 4) (by omega), getElem!_pos _ (t / 4) (by simpa [hlen] using hi), getD_E xs _ (by omega)]
        simp
      · obtain ⟨cs', e', fr', q1, q2⟩ := hsoft.1
        rw [hb] at q1
        cases q1
        exact soft_free hb q2 _ (by simp at hsz; omega)
    have key := AnyQ.slices_SortFunc Tryz.sortE0 4 (fun w => by kernel_rfl) (fun w => by kernel_rfl) enC (fun _ => rfl) (fun x v hv => by simp [enC] at hv; rcases hv with rfl | rfl | rfl | rfl <;> rfl) cmpE swoE 67 #[] b base cap (xs.take n).toArray w
      (enters_of Tryz.func67 (by kernel_rfl) rfl) (cmpLays63 b base _ w) hH hbl (by simp; omega)
    have hsz' : (xs.take n).toArray.size = n := by simpa using hlen
    rw [hsz'] at key
    have e5 : base + 0 * 4 = base := by omega
    simp only [e5]
    refine Calls.mono key fun e w' ⟨he, d', m, os, hp, hsd, hw⟩ => ?_
    subst hw
    have hd' : d'.toList = sortE (xs.take n) := by
      have := sorted_in hsz' hp hsd (by simpa [apartE, sameC] using hap)
      simpa using this
    have hdn : d'.size = n := by rw [hp.1, hsz']
    obtain ⟨k1, k2⟩ := sortE_after (ys := ys) (n := n) (m := m) (os := os) (d := d') hh hs1 hle hb hc1 hH hdn (by rw [hys, List.length_append, sortE_len, hlen, List.length_drop]; omega)
      (fun i hi => by
        rw [hys, List.getD_eq_getElem?_getD, List.getElem?_append_left (by rw [sortE_len]; omega), ← hd', getElem!_pos _ i (by omega), Array.getElem?_toList, Array.getElem?_eq_getElem (by omega)]
        rfl)
      (fun i hi => by
        rw [hys, List.getD_eq_getElem?_getD, List.getD_eq_getElem?_getD, List.getElem?_append_right (by rw [sortE_len]; omega), List.getElem?_drop, sortE_len, hlen, show n + (i - n) = i by omega])
      (fun x hx => by
        rw [hys] at hx
        rcases List.mem_append.1 hx with h | h
        · exact hwx x (List.mem_of_mem_take ((sortE_perm _).mem_iff.1 h))
        · exact hwx x (List.mem_of_mem_drop h))
    exact ⟨_, _, _, c, he, hk', .tup rfl (fun j hj => absurd hj (Nat.not_lt_zero _)), k1, k2⟩

theorem F66_ok : CFOK tC 66 F66 := by
  refine ⟨fun {Z} c w h args vs K z hk hh hl hr => .inl ⟨Tryz.f66, by kernel_rfl, by kernel_rfl, by kernel_rfl, ?_⟩⟩
  obtain ⟨a, h1, hk⟩ := bind_eq hk
  obtain ⟨r, h2, hk⟩ := bind_eq hk
  have e1 := unAlt_ok h1
  obtain ⟨n, xs, ⟨⟩⟩ := a
  have e2 : (⟨[.sl 0 0 n, .fn 67 []], [some (.arr 68 xs)]⟩ : St tC.E) = ⟨args, h⟩ := e1
  injection e2 with e3 e4
  subst e3 e4
  have h2' : f66 (n, xs, ()) = some r := h2
  unfold f66 at h2'
  obtain ⟨hle, h2'⟩ := cond_some h2'
  simp only [Bool.and_eq_true, decide_eq_true_eq] at hle
  obtain ⟨hle, hle2, hap⟩ := hle
  cases h2'
  have hl2 : vs.size = 2 := by simpa using hl.symm
  have hv2 : vs = #[vs.getD 0 undef, vs.getD 1 undef] := by
    apply Array.ext
    · simpa using hl2
    · intro i h1 h2
      have : i = 0 ∨ i = 1 := by simp at h2; omega
      rcases this with rfl | rfl <;> simp [Array.getD, h1]
  have r0 := hr 0 (by simp)
  have r1 := hr 1 (by simp)
  simp only [List.getElem_cons_zero, List.getElem_cons_succ] at r0 r1
  rw [hv2]
  generalize vs.getD 1 undef = v1 at r1 ⊢
  cases r1 with
  | fn hl3 hr3 =>
    rename_i gs
    have : gs = #[] := by
      apply Array.eq_empty_of_size_eq_zero
      simpa using hl3.symm
    subst this
    exact sortE_run hle hle2 hap rfl hk hh r0
end Go.AE
