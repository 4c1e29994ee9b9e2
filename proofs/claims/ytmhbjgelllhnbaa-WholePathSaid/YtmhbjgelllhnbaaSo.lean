/-
  slices.Sort at []int, off the shelf; its contract.
-/
import Derived.Test.YtmhbjgelllhnbaaSys
import Derived.Test.YtmhbjgelllhnbaaAeS
import Derived.Shelf.Sort.Plain
import Derived.Shelf.Slices.In.SortNone
import Derived.Shelf.Slices.CompactI
import Derived.Ground.NamesProg
import Derived.KernelRfl
import Derived.Ground.Names2Prog
namespace Go.Proofs
open Go.Shelf
def Try.lays189_ren : Go.Shelf.Ren := ⟨fun | 189 => 30 | 125 => 49 | 257 => 48 | 128 => 63 | 129 => 64 | 294 => 54 | 295 => 55 | 296 => 56 | 297 => 57 | 298 => 58 | 299 => 59 | 216 => 60 | 300 => 61 | 301 => 62 | 328 => 68 | 329 => 69 | 330 => 70 | 331 => 71 | 332 => 72 | 215 => 73 | 343 => 74 | n => n, fun | 28 => 34 | 3 => 3 | 46 => 83 | 0 => 0 | 51 => 101 | 53 => 103 | 4 => 4 | 183 => 94 | 182 => 93 | 131 => 85 | 5 => 5 | 9 => 9 | 218 => 108 | 222 => 79 | 228 => 113 | 229 => 114 | n => n, fun | n => n⟩
theorem Try.lays189 : Go.Proofs.Lays.n189 Try.prog Try.lays189_ren := {
  mixed := by kernel_rfl
  f125 := Try.func49.trans (congrArg some (by kernel_rfl))
  f128 := Try.func63.trans (congrArg some (by kernel_rfl))
  f129 := Try.func64.trans (congrArg some (by kernel_rfl))
  f189 := Try.func30.trans (congrArg some (by kernel_rfl))
  f215 := Try.func73.trans (congrArg some (by kernel_rfl))
  f216 := Try.func60.trans (congrArg some (by kernel_rfl))
  f257 := Try.func48.trans (congrArg some (by kernel_rfl))
  f294 := Try.func54.trans (congrArg some (by kernel_rfl))
  f295 := Try.func55.trans (congrArg some (by kernel_rfl))
  f296 := Try.func56.trans (congrArg some (by kernel_rfl))
  f297 := Try.func57.trans (congrArg some (by kernel_rfl))
  f298 := Try.func58.trans (congrArg some (by kernel_rfl))
  f299 := Try.func59.trans (congrArg some (by kernel_rfl))
  f300 := Try.func61.trans (congrArg some (by kernel_rfl))
  f301 := Try.func62.trans (congrArg some (by kernel_rfl))
  f328 := Try.func68.trans (congrArg some (by kernel_rfl))
  f329 := Try.func69.trans (congrArg some (by kernel_rfl))
  f330 := Try.func70.trans (congrArg some (by kernel_rfl))
  f331 := Try.func71.trans (congrArg some (by kernel_rfl))
  f332 := Try.func72.trans (congrArg some (by kernel_rfl))
  f343 := Try.func74.trans (congrArg some (by kernel_rfl))
  t0 := Try.underlying0
  a0 := Try.isAgg0
  z0 := Try.sizeOf0
  v0 := Try.zeroValue0
  t3 := Try.underlying3
  a3 := Try.isAgg3
  z3 := Try.sizeOf3
  v3 := Try.zeroValue3
  t4 := Try.underlying4
  a4 := Try.isAgg4
  z4 := Try.sizeOf4
  v4 := Try.zeroValue4
  t5 := Try.underlying5
  a5 := Try.isAgg5
  z5 := Try.sizeOf5
  v5 := Try.zeroValue5
  t9 := Try.underlying9
  a9 := Try.isAgg9
  z9 := Try.sizeOf9
  v9 := Try.zeroValue9
  t28 := Try.underlying34
  a28 := Try.isAgg34
  z28 := Try.sizeOf34
  v28 := Try.zeroValue34
  t46 := Try.underlying83
  a46 := Try.isAgg83
  z46 := Try.sizeOf83
  v46 := Try.zeroValue83
  t51 := Try.underlying101
  a51 := Try.isAgg101
  z51 := Try.sizeOf101
  v51 := Try.zeroValue101
  t53 := Try.underlying103
  a53 := Try.isAgg103
  z53 := Try.sizeOf103
  v53 := Try.zeroValue103
  t131 := Try.underlying85
  a131 := Try.isAgg85
  z131 := Try.sizeOf85
  v131 := Try.zeroValue85
  t182 := Try.underlying93
  a182 := Try.isAgg93
  z182 := Try.sizeOf93
  v182 := Try.zeroValue93
  t183 := Try.underlying94
  a183 := Try.isAgg94
  z183 := Try.sizeOf94
  v183 := Try.zeroValue94
  t218 := Try.underlying108
  a218 := Try.isAgg108
  z218 := Try.sizeOf108
  v218 := Try.zeroValue108
  t222 := Try.underlying79
  a222 := Try.isAgg79
  z222 := Try.sizeOf79
  v222 := Try.zeroValue79
  t228 := Try.underlying113
  a228 := Try.isAgg113
  z228 := Try.sizeOf113
  v228 := Try.zeroValue113
  t229 := Try.underlying114
  a229 := Try.isAgg114
  z229 := Try.sizeOf114
  v229 := Try.zeroValue114 }
def Try.laysNm220_ren : Go.Shelf.Ren := ⟨fun | 20 => 31 | n => n, fun | 22 => 34 | 3 => 3 | 4 => 4 | 0 => 0 | n => n, fun | n => n⟩
theorem Try.laysNm220 : Go.Proofs.Lays2.n20 Try.prog Try.laysNm220_ren := {
  mixed := by kernel_rfl
  f20 := Try.func31.trans (congrArg some (by kernel_rfl))
  t0 := Try.underlying0
  a0 := Try.isAgg0
  z0 := Try.sizeOf0
  v0 := Try.zeroValue0
  t3 := Try.underlying3
  a3 := Try.isAgg3
  z3 := Try.sizeOf3
  v3 := Try.zeroValue3
  t4 := Try.underlying4
  a4 := Try.isAgg4
  z4 := Try.sizeOf4
  v4 := Try.zeroValue4
  t22 := Try.underlying34
  a22 := Try.isAgg34
  z22 := Try.sizeOf34
  v22 := Try.zeroValue34
  i3 := by kernel_rfl }
end Go.Proofs
namespace Go.AE
open Go.Proofs Go.RowKit Go.Sort
set_option maxRecDepth 100000

def sortL (l : List Int) : List Int := l.mergeSort fun x y => decide (x ≤ y)
theorem sortL_len (l : List Int) : (sortL l).length = l.length := by unfold sortL; simp

def S30 : FS := ⟨[[.w 3]], [⟨[.one (.one (.sl 0))], [.arr 3]⟩], [⟨[.tup []], [.arr 3]⟩], [], []⟩
def f30 (x : Nat × List Int × Unit) : Option (List Int × Unit) := bif decide (x.1 ≤ x.2.1.length) && decide (x.1 ≤ 1000000) then some (sortL (x.2.1.take x.1) ++ x.2.1.drop x.1, ()) else none
noncomputable def F30 : CF tC := mkF tC S30 f30

theorem size3 : sizeT tC 3 = 1 := by kernel_rfl
theorem rows3 {c : Ctx} {w : World} {xs : List Int} {f : Nat → Nat → Value} (hr : ∀ i (h : i < xs.length) j (h' : j < (tC.enc 3 (xs[i] : Int)).length), R tC c w (tC.enc 3 (xs[i] : Int))[j] (f i j)) (i : Nat) (h : i < xs.length) :
    f i 0 = .int .i64 xs[i] ∧ (Lit.int .i64 xs[i]).wf = true := by
  have h2 : R tC c w (.int .i64 xs[i]) (f i 0) := hr i h 0 (show 0 < 1 by omega)
  generalize f i 0 = v at h2
  cases h2 with
  | int h => exact ⟨rfl, h⟩
theorem getD_at (l : List Int) (i : Nat) (h : i < l.length) : l.getD i 0 = l[i] := by rw [List.getD_eq_getElem?_getD, List.getElem?_eq_getElem h]; rfl
theorem arr3 {c : Ctx} {w : World} {ys : List Int} {b base : Nat} (hs : c.σ 0 = some ⟨b, base, 1⟩) (hc : ∀ i, i < ys.length → w.cell? ⟨b, base + i, none⟩ = some (.int .i64 (ys.getD i 0))) (hw : ∀ x ∈ ys, (Lit.int .i64 x).wf = true) : ObR tC c w 0 (.arr 3 ys) := by
  refine ObR.arr (C := tC) (e := 3) (xs := ys) (b := b) (base := base) (by rw [size3]; exact hs) (fun i _ => .int .i64 (ys.getD i 0)) (fun i j hi hj => ?_) (fun i hi j hj => ?_)
  · rw [size3] at hj ⊢
    have hj0 : j = 0 := by omega
    subst hj0
    rw [Nat.mul_one, Nat.add_zero]
    exact hc i hi
  · have hj0 : j = 0 := by
      have : j < 1 := hj
      omega
    subst hj0
    have e := getD_at ys i hi
    have h2 : R tC c w (.int .i64 (ys[i]'hi)) (.int .i64 (ys[i]'hi)) := R.int (hw _ (List.getElem_mem hi))
    rw [← e] at h2
    have h3 : R tC c w (.int .i64 (ys[i]'hi)) (.int .i64 (ys.getD i 0)) := by rw [← e]; exact h2
    exact h3

/-- What stands behind the sort. -/
theorem sort_after {c : Ctx} {w : World} {xs ys : List Int} {n b base m : Nat} {os : Array Obj} {cs : Array Value} {e0 : TypeId} {fr : Nat × Nat} (hh : HR tC c w [some (.arr 3 xs)]) (hs : c.σ 0 = some ⟨b, base, 1⟩) (hle : n ≤ xs.length)
    (hb : w.heap[b]? = some (.cells cs e0 fr)) (hc : ∀ i, i < xs.length → w.cell? ⟨b, base + i, none⟩ = some (.int .i64 (xs.getD i 0)))
    (hH : Sort.Holds (Value.int .i64) w b base (xs.take n).toArray) {d : Array Int} (hdn : d.size = n) (hyl : ys.length = xs.length) (hy1 : ∀ i, i < n → d[i]! = ys.getD i 0) (hy2 : ∀ i, n ≤ i → ys.getD i 0 = xs.getD i 0)
    (hwf : ∀ x ∈ ys, (Lit.int .i64 x).wf = true) :
    HR tC c (grow (putRow (Value.int .i64) (Sort.ahead w m) b base d) os) [some (.arr 3 ys)] ∧
      Le c [some (Ob.arr (E := tC.E) 3 xs)] w c [some (Ob.arr (E := tC.E) 3 ys)] (grow (putRow (Value.int .i64) (Sort.ahead w m) b base d) os) := by
  have hbl : b < w.heap.size := (Array.getElem?_eq_some_iff.1 hb).1
  have hds : d.size = (xs.take n).toArray.size := by rw [hdn]; simp; omega
  have hps : ∀ k, k < w.heap.size → (grow (putRow (Value.int .i64) (Sort.ahead w m) b base d) os).heap[k]? = (putRow (Value.int .i64) w b base d).heap[k]? := fun k hk => by
    rw [heap_grow_old _ _ (by simpa using hk)]
    rfl
  have hne : ∀ k, k < w.heap.size → k ≠ b → (grow (putRow (Value.int .i64) (Sort.ahead w m) b base d) os).heap[k]? = w.heap[k]? := fun k hk hkb => by
    rw [hps k hk]
    have : b ≠ k := fun h => hkb h.symm
    simp [putRow, mapBlock, Array.getElem?_modify, this]
  have heq : (grow (putRow (Value.int .i64) (Sort.ahead w m) b base d) os).heap[b]? = some (.cells (putCells (Value.int .i64) base d cs) e0 fr) := by
    rw [hps b hbl]
    simp [putRow, mapBlock, Array.getElem?_modify, hb, onCells]
  have hcell : ∀ o, (grow (putRow (Value.int .i64) (Sort.ahead w m) b base d) os).cell? ⟨b, o, none⟩ = (putRow (Value.int .i64) w b base d).cell? ⟨b, o, none⟩ := fun o => by
    rw [cell?_grow _ _ _ (by simpa using hbl), putRow_ahead]
    rfl
  have hsoft := hh.soft 0 _ _ rfl hs
  constructor
  · refine ⟨fun g l hg => (by cases hg), hh.len, hh.sn, fun k hk => ?_, hh.hI, fun id o ho => ?_, fun id o loc ho hl => ?_, fun i j oi oj li lj h1 h2 h3 h4 h5 => ?_⟩
    · have := hh.bnd k hk
      simp
      omega
    · cases id with
      | succ id => simp at ho
      | zero =>
        simp only [List.getElem?_cons_zero, Option.some.injEq] at ho
        subst ho
        refine arr3 hs (fun i hi => ?_) hwf
        rw [hcell]
        by_cases hin : i < n
        · rw [cell?_putRow _ _ _ _ _ _ hH hds i (by omega), hy1 i hin]
        · rw [cell?_putRow_other _ _ _ _ _ _ (.inr (.inr (by show _ ≤ base + i; omega))), hc i (by omega), hy2 i (by omega)]
    · cases id with
      | succ id => simp at ho
      | zero =>
        rw [hs] at hl
        cases hl
        refine ⟨?_, hsoft.2⟩
        obtain ⟨cs', e', fr', q1, q2⟩ := hsoft.1
        rw [hb] at q1
        cases q1
        exact ⟨_, _, _, heq, by simpa [putCells] using q2⟩
    · cases i with
      | succ i => simp at h1
      | zero => cases j with
        | succ j => simp at h2
        | zero => rfl
  · have hown : ∀ k, Own c [some (Ob.arr (E := tC.E) 3 ys)] k → Own c [some (Ob.arr (E := tC.E) 3 xs)] k := by
      rintro k ⟨id, o, loc, h1, h2, h3⟩
      cases id with
      | succ id => simp at h1
      | zero => exact ⟨0, _, loc, rfl, h2, h3⟩
    refine ⟨Nat.le_refl _, fun _ _ _ h => h, fun _ h => h, fun _ h => h, fun _ _ h => .inl h, fun _ _ h => .inl h, fun k _ h => hown k h, by simp, rfl, rfl, rfl, fun k hk hno => ?_, fun k cs' e' fr' hk => ?_⟩
    · exact hne k hk (fun h => hno ⟨0, _, _, rfl, hs, h.symm⟩)
    · have hks := (Array.getElem?_eq_some_iff.1 hk).1
      by_cases hkb : k = b
      · subst hkb
        rw [hb] at hk
        cases hk
        exact ⟨_, _, heq, by simp [putCells]⟩
      · exact ⟨_, _, by rw [hne k hks hkb]; exact hk, rfl⟩

theorem sort_run {Z : Type} {c : Ctx} {w : World} {xs ys : List Int} {n : Nat} {v0 : Value} {K : AV tC.E → List (Option (Ob tC.E)) → Option Z} {z : Z} (hle : n ≤ xs.length) (hle2 : n ≤ 1000000) (hys : ys = sortL (xs.take n) ++ xs.drop n)
    (hk' : K (.tup []) [some (.arr 3 ys)] = some z) (hh : HR tC c w [some (.arr 3 xs)]) (r0 : R tC c w (.sl 0 0 n) v0) :
    Calls tC.P 30 #[v0] w fun e w' => ∃ v r h' c', e = .returned v ∧ K r h' = some z ∧ R tC c' w' r v ∧ HR tC c' w' h' ∧ Le c [some (Ob.arr (E := tC.E) 3 xs)] w c' h' w' := by
  rcases R_sl_inv r0 with ⟨a', rfl, rfl, hn⟩ | ⟨cap, loc, cs, e0, fr, rfl, hs, hn, hlc, hm, hb, hsz⟩
  · refine Calls.mono (Any.slices_Sort_int_none Try.lays189 a' 0 w) fun e w' ⟨he, hw⟩ => ?_
    subst hw
    have e0 : ys = xs := by rw [hys]; simp [sortL]
    rw [e0] at hk'
    exact ⟨_, _, _, c, he, hk', .tup rfl (fun j hj => absurd hj (Nat.not_lt_zero _)), hh, Le.refl _ _ _⟩
  · have hob := hh.ob 0 _ rfl
    obtain ⟨b, base, f, hs', hc, hrr⟩ : ∃ (b base : Nat) (f : Nat → Nat → Value), c.σ 0 = some ⟨b, base, sizeT tC 3⟩ ∧ (∀ i j, i < xs.length → j < sizeT tC 3 → w.cell? ⟨b, base + i * sizeT tC 3 + j, none⟩ = some (f i j)) ∧
        (∀ i (h : i < xs.length) j (h' : j < (tC.enc 3 (xs[i] : Int)).length), R tC c w (tC.enc 3 (xs[i] : Int))[j] (f i j)) := by
      cases hob with
      | nowhere h0 => rw [h0] at hs; cases hs
      | arr hs f hc hr => exact ⟨_, _, f, hs, hc, hr⟩
    rw [hs'] at hs
    cases hs
    have hs1 : c.σ 0 = some ⟨b, base, 1⟩ := by rw [hs', size3]
    have hgd : ∀ i (h : i < xs.length), xs.getD i 0 = xs[i] := fun i h => by rw [List.getD_eq_getElem?_getD, List.getElem?_eq_getElem h]; rfl
    have hc1 : ∀ i, i < xs.length → w.cell? ⟨b, base + i, none⟩ = some (.int .i64 (xs.getD i 0)) := fun i hi => by
      have h1 := hc i 0 hi (by rw [size3]; omega)
      rw [size3, Nat.mul_one, Nat.add_zero, (rows3 hrr i hi).1] at h1
      rw [h1, hgd i hi]
    have hH : Sort.Holds (Value.int .i64) w b base (xs.take n).toArray := by
      intro j hj
      have hj' : j < n := by simp at hj; omega
      constructor
      · rw [hc1 j (by omega), hgd j (by omega), getElem!_pos _ j hj]
        simp
      · obtain ⟨cs', e', fr', q1, q2⟩ := (hh.soft 0 _ _ rfl hs1).1
        rw [hb] at q1
        cases q1
        rw [size3] at hsz
        exact soft_free hb q2 _ (by simp at hsz; omega)
    have hbl : b < w.heap.size := (Array.getElem?_eq_some_iff.1 hb).1
    have hlen : (xs.take n).length = n := by rw [List.length_take]; omega
    have hsl : (sortL (xs.take n)).length = n := by rw [sortL_len, hlen]
    have key := Any.slices_Sort_int Try.lays189 b base cap (xs.take n) w hH hbl (by rw [hlen]; omega)
    rw [hlen] at key
    have e5 : base + 0 * sizeT tC 3 = base := by omega
    simp only [e5]
    refine Calls.mono key fun e w' ⟨he, m, os, hw⟩ => ?_
    subst hw
    have hwx : ∀ x ∈ xs, (Lit.int .i64 x).wf = true := fun x hx => by
      obtain ⟨i, hi, rfl⟩ := List.getElem_of_mem hx
      exact (rows3 hrr i hi).2
    obtain ⟨k1, k2⟩ := sort_after (ys := ys) (n := n) (m := m) (os := os) (d := (sortL (xs.take n)).toArray) hh hs1 hle hb hc1 hH (by simpa using hsl) (by rw [hys, List.length_append, hsl, List.length_drop]; omega)
      (fun i hi => by
        rw [hys, getElem!_pos _ i (by simpa [hsl] using hi), List.getD_eq_getElem?_getD, List.getElem?_append_left (by omega), List.getElem?_eq_getElem (by omega)]
        simp)
      (fun i hi => by
        rw [hys, List.getD_eq_getElem?_getD, List.getD_eq_getElem?_getD, List.getElem?_append_right (by omega), List.getElem?_drop, hsl, show n + (i - n) = i by omega])
      (fun x hx => by
        rw [hys] at hx
        rcases List.mem_append.1 hx with h | h
        · unfold sortL at h
          rw [List.mem_mergeSort] at h
          exact hwx x (List.mem_of_mem_take h)
        · exact hwx x (List.mem_of_mem_drop h))
    exact ⟨_, _, _, c, he, hk', .tup rfl (fun j hj => absurd hj (Nat.not_lt_zero _)), k1, k2⟩

theorem F30_ok : CFOK tC 30 F30 := by
  refine ⟨fun {Z} c w h args vs K z hk hh hl hr => .inl ⟨Try.f30, by kernel_rfl, by kernel_rfl, by kernel_rfl, ?_⟩⟩
  obtain ⟨a, h1, hk⟩ := bind_eq hk
  obtain ⟨r, h2, hk⟩ := bind_eq hk
  have e1 := unAlt_ok h1
  obtain ⟨n, xs, ⟨⟩⟩ := a
  have e2 : (⟨[.sl 0 0 n], [some (.arr 3 xs)]⟩ : St tC.E) = ⟨args, h⟩ := e1
  injection e2 with e3 e4
  subst e3 e4
  have h2' : f30 (n, xs, ()) = some r := h2
  unfold f30 at h2'
  obtain ⟨hle, h2'⟩ := cond_some h2'
  simp only [Bool.and_eq_true, decide_eq_true_eq] at hle
  obtain ⟨hle, hle2⟩ := hle
  cases h2'
  have hv2 : vs = #[vs.getD 0 undef] := by
    apply Array.ext
    · simpa using hl.symm
    · intro i h1 h2
      have : i = 0 := by simp at h2; omega
      subst this
      simp [Array.getD, h1]
  have r0 := hr 0 (by simp)
  simp only [List.getElem_cons_zero] at r0
  rw [hv2]
  exact sort_run hle hle2 rfl hk hh r0

/-! ### Compact -/

def compactL (l : List Int) : List Int := Lib.compact l
def S31 : FS := ⟨[[.w 3]], [⟨[.one (.one (.sl 0))], [.arr 3]⟩], [⟨[.one (.one (.sl 0))], [.arr 3]⟩], [[.v]], []⟩
def f31 (x : Nat × List Int × Unit) : Option (Nat × List Int × Unit) := bif decide (x.1 ≤ x.2.1.length) && (decide (x.1 ≤ 1000000) && decide ((compactL (x.2.1.take x.1)).length ≤ x.1)) then
  some ((compactL (x.2.1.take x.1)).length, compactL (x.2.1.take x.1) ++ List.replicate (x.1 - (compactL (x.2.1.take x.1)).length) 0 ++ x.2.1.drop x.1, ()) else none
noncomputable def F31 : CF tC := mkF tC S31 f31

theorem compactL_mem {l : List Int} {x : Int} (h : x ∈ compactL l) : x ∈ l := by
  unfold compactL Lib.compact Lib.compactUpTo at h
  obtain ⟨j, hj, rfl⟩ := List.mem_map.1 h
  have hj2 := List.mem_range.1 (List.mem_filter.1 hj).1
  have e : l.toArray[j]! = l[j] := by
    rw [getElem!_pos _ j (by simpa using hj2)]
    exact List.getElem_toArray _
  rw [e]
  exact List.getElem_mem hj2

theorem compact_run {Z : Type} {c : Ctx} {w : World} {xs ys : List Int} {n m : Nat} {v0 : Value} {K : AV tC.E → List (Option (Ob tC.E)) → Option Z} {z : Z} (hle : n ≤ xs.length) (hle2 : n ≤ 1000000)
    (hm' : m = (compactL (xs.take n)).length) (hmn : m ≤ n) (hys : ys = compactL (xs.take n) ++ List.replicate (n - m) 0 ++ xs.drop n)
    (hk' : K (.sl 0 0 m) [some (.arr 3 ys)] = some z) (hh : HR tC c w [some (.arr 3 xs)]) (r0 : R tC c w (.sl 0 0 n) v0) :
    Calls tC.P 31 #[v0] w fun e w' => ∃ v r h' c', e = .returned v ∧ K r h' = some z ∧ R tC c' w' r v ∧ HR tC c' w' h' ∧ Le c [some (Ob.arr (E := tC.E) 3 xs)] w c' h' w' := by
  rcases R_sl_inv r0 with ⟨a', rfl, rfl, hn⟩ | ⟨cap, loc, cs, e0, fr, rfl, hs, hn, hlc, hm, hb, hsz⟩
  · refine Calls.mono (Any.slices_Compact_int_empty Try.laysNm220 a' 0 w) fun e w' ⟨he, hw⟩ => ?_
    subst hw
    have e1 : m = 0 := by omega
    subst e1
    have e2 : compactL (xs.take 0) = [] := List.eq_nil_of_length_eq_zero hm'.symm
    have e0 : ys = xs := by rw [hys, e2]; simp
    rw [e0] at hk'
    exact ⟨_, _, _, c, he, hk', r0, hh, Le.refl _ _ _⟩
  · have hob := hh.ob 0 _ rfl
    obtain ⟨b, base, f, hs', hc, hrr⟩ : ∃ (b base : Nat) (f : Nat → Nat → Value), c.σ 0 = some ⟨b, base, sizeT tC 3⟩ ∧ (∀ i j, i < xs.length → j < sizeT tC 3 → w.cell? ⟨b, base + i * sizeT tC 3 + j, none⟩ = some (f i j)) ∧
        (∀ i (h : i < xs.length) j (h' : j < (tC.enc 3 (xs[i] : Int)).length), R tC c w (tC.enc 3 (xs[i] : Int))[j] (f i j)) := by
      cases hob with
      | nowhere h0 => rw [h0] at hs; cases hs
      | arr hs f hc hr => exact ⟨_, _, f, hs, hc, hr⟩
    rw [hs'] at hs
    cases hs
    have hs1 : c.σ 0 = some ⟨b, base, 1⟩ := by rw [hs', size3]
    have hgd : ∀ i (h : i < xs.length), xs.getD i 0 = xs[i] := fun i h => by rw [List.getD_eq_getElem?_getD, List.getElem?_eq_getElem h]; rfl
    have hc1 : ∀ i, i < xs.length → w.cell? ⟨b, base + i, none⟩ = some (.int .i64 (xs.getD i 0)) := fun i hi => by
      have h1 := hc i 0 hi (by rw [size3]; omega)
      rw [size3, Nat.mul_one, Nat.add_zero, (rows3 hrr i hi).1] at h1
      rw [h1, hgd i hi]
    have hH : Sort.Holds (Value.int .i64) w b base (xs.take n).toArray := by
      intro j hj
      have hj' : j < n := by simp at hj; omega
      constructor
      · rw [hc1 j (by omega), hgd j (by omega), getElem!_pos _ j hj]
        simp
      · obtain ⟨cs', e', fr', q1, q2⟩ := (hh.soft 0 _ _ rfl hs1).1
        rw [hb] at q1
        cases q1
        rw [size3] at hsz
        exact soft_free hb q2 _ (by simp at hsz; omega)
    have hlen : (xs.take n).length = n := by rw [List.length_take]; omega
    have key := Any.slices_Compact_int Try.laysNm220 b base cap (xs.take n) w hH (by rw [hlen]; omega) (by rw [hlen]; exact hlc)
    rw [hlen] at key
    have hm2 : (Lib.compact (xs.take n)).length = m := hm'.symm
    rw [hm2] at key
    have e5 : base + 0 * sizeT tC 3 = base := by omega
    simp only [e5]
    refine Calls.mono key fun e w' ⟨he, q, hw⟩ => ?_
    subst hw
    have hwx : ∀ x ∈ xs, (Lit.int .i64 x).wf = true := fun x hx => by
      obtain ⟨i, hi, rfl⟩ := List.getElem_of_mem hx
      exact (rows3 hrr i hi).2
    have hdl : (Lib.compact (xs.take n) ++ List.replicate (n - m) (0 : Int)).length = n := by rw [List.length_append, hm2, List.length_replicate]; omega
    have hys' : ys = (Lib.compact (xs.take n) ++ List.replicate (n - m) 0) ++ xs.drop n := hys
    obtain ⟨k1, k2⟩ := sort_after (ys := ys) (n := n) (m := q) (os := #[]) (d := (Lib.compact (xs.take n) ++ List.replicate (n - m) 0).toArray) hh hs1 hle hb hc1 hH (by simpa using hdl) (by rw [hys', List.length_append, hdl, List.length_drop]; omega)
      (fun i hi => by
        rw [hys', getElem!_pos _ i (by simpa [hdl] using hi), List.getD_eq_getElem?_getD, List.getElem?_append_left (by omega), List.getElem?_eq_getElem (by omega)]
        simp)
      (fun i hi => by
        rw [hys', List.getD_eq_getElem?_getD, List.getD_eq_getElem?_getD, List.getElem?_append_right (by omega), List.getElem?_drop, hdl, show n + (i - n) = i by omega])
      (fun x hx => by
        rw [hys'] at hx
        rcases List.mem_append.1 hx with h | h
        · rcases List.mem_append.1 h with h | h
          · exact hwx x (List.mem_of_mem_take (compactL_mem h))
          · rw [List.eq_of_mem_replicate h]; decide
        · exact hwx x (List.mem_of_mem_drop h))
    rw [grow_empty] at k1 k2
    obtain ⟨cs2, fr2, g1, g2⟩ := k2.shape _ _ _ _ hb
    refine ⟨_, _, _, c, he, hk', ?_, k1, k2⟩
    generalize putRow (Value.int .i64) (Sort.ahead w q) b base (Lib.compact (xs.take n) ++ List.replicate (n - m) 0).toArray = w2 at g1 ⊢
    have h5 : base + (0 + cap) * sizeT tC 3 ≤ cs2.size := by rw [g2]; exact hsz
    have := R.sl (C := tC) (c := c) (w := w2) (id := 0) (start := 0) (len := m) (cap := cap) (cs := cs2) (e := e0) (fr := fr2) hs' hn (Nat.le_trans hmn hlc) hm g1 h5
    simp only [e5] at this
    exact this

theorem F31_ok : CFOK tC 31 F31 := by
  refine ⟨fun {Z} c w h args vs K z hk hh hl hr => .inl ⟨Try.f31, by kernel_rfl, by kernel_rfl, by kernel_rfl, ?_⟩⟩
  obtain ⟨a, h1, hk⟩ := bind_eq hk
  obtain ⟨r, h2, hk⟩ := bind_eq hk
  have e1 := unAlt_ok h1
  obtain ⟨n, xs, ⟨⟩⟩ := a
  have e2 : (⟨[.sl 0 0 n], [some (.arr 3 xs)]⟩ : St tC.E) = ⟨args, h⟩ := e1
  injection e2 with e3 e4
  subst e3 e4
  have h2' : f31 (n, xs, ()) = some r := h2
  unfold f31 at h2'
  obtain ⟨hle, h2'⟩ := cond_some h2'
  simp only [Bool.and_eq_true, decide_eq_true_eq] at hle
  obtain ⟨hle, hle2, hle3⟩ := hle
  cases h2'
  have hv2 : vs = #[vs.getD 0 undef] := by
    apply Array.ext
    · simpa using hl.symm
    · intro i h1 h2
      have : i = 0 := by simp at h2; omega
      subst this
      simp [Array.getD, h1]
  have r0 := hr 0 (by simp)
  simp only [List.getElem_cons_zero] at r0
  rw [hv2]
  exact compact_run hle hle2 rfl hle3 rfl hk hh r0

end Go.AE
