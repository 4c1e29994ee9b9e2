/-
  A walk over a map's entries, whatever they are: which have come, which are left; 'range', 'next' and 'entry' in a fence.
-/
import Derived.Test.YtadnppefidjhfaaGreatSys
import Derived.Maps.RangeRun
import Derived.Sort.MapsRangeIn
import Derived.RangeFuncGives
import Derived.KernelRfl
namespace Go.AE
open Go.Proofs Go.RowKit Go.ChangeMaps

/-- A walk over the map in block b by the iterator in block r: 'ss' have come. -/
structure Walk (w : World) (b r : Nat) (es : Array MapEntry) (n : Nat) (ss : List MapEntry) : Prop where
  map : w.heap[b]? = some (.map es n)
  ne : r ≠ b
  it : ∃ since seen c0, w.heap[r]? = some (.mapIter (some b) since seen c0) ∧ (∀ x ∈ es.toList, x.born < since) ∧ since ≤ c0 ∧ since ≤ n ∧ es.toList.Perm (ss ++ (leftOf es seen).toList)
  nodup : (es.toList.map (·.born)).Nodup

/-- How many are left, for the loop's measure. -/
def walkLeft (w : World) (b r : Nat) : Nat := match w.heap[b]?, w.heap[r]? with
  | some (.map es _), some (.mapIter _ _ seen _) => (leftOf es seen).size
  | _, _ => 0

theorem Walk.left_eq {w : World} {b r n : Nat} {es : Array MapEntry} {ss : List MapEntry} (h : Walk w b r es n ss) : ss.length + walkLeft w b r = es.size := by
  obtain ⟨since, seen, c0, hr, _, _, _, hp⟩ := h.it
  have := hp.length_eq
  unfold walkLeft
  rw [h.map, hr]
  simp at this ⊢
  omega

theorem Walk.lt {w : World} {b r n : Nat} {es : Array MapEntry} {ss : List MapEntry} (h : Walk w b r es n ss) : ss.length ≤ es.size := by
  have := h.left_eq
  omega

theorem Walk.walks {w w' : World} {b r n : Nat} {es : Array MapEntry} {ss : List MapEntry} (h : Walk w b r es n ss) (hk : KeepsWalks w w') : Walk w' b r es n ss := by
  obtain ⟨since, seen, c0, hr, rest⟩ := h.it
  exact ⟨hk.same b _ h.map rfl, h.ne, ⟨since, seen, c0, hk.same r _ hr rfl, rest⟩, h.nodup⟩

theorem Walk.iter_walk {w : World} {b r n : Nat} {es : Array MapEntry} {ss : List MapEntry} (h : Walk w b r es n ss) : ∃ o : Obj, w.heap[r]? = some o ∧ o.isWalk = true := by
  obtain ⟨since, seen, c0, hr, _⟩ := h.it
  exact ⟨_, hr, rfl⟩

theorem left_step {es : Array MapEntry} {seen : Array Nat} {e : MapEntry} (he : e ∈ (leftOf es seen).toList) (hn : (es.toList.map (·.born)).Nodup) : (leftOf es seen).toList.Perm (e :: (leftOf es (seen.push e.born)).toList) := by
  unfold leftOf at he ⊢
  rw [Array.toList_filter] at he ⊢
  rw [Array.toList_filter]
  generalize es.toList = l at he hn
  induction l with
  | nil => simp at he
  | cons x l ih =>
    simp only [List.map_cons, List.nodup_cons] at hn
    by_cases hx : x.born = e.born
    · -- the one that comes
      have hxe : x = e := by
        rcases List.mem_cons.1 (List.mem_filter.1 he).1 with h | h
        · exact h.symm
        · exact (hn.1 (List.mem_map.2 ⟨e, h, hx.symm⟩)).elim
      subst hxe
      have hs := (List.mem_filter.1 he).2
      have rest : l.filter (fun e => !seen.contains e.born) = l.filter (fun e => !(seen.push x.born).contains e.born) := by
        refine List.filter_congr fun y hy => ?_
        have hne : y.born ≠ x.born := fun h => hn.1 (List.mem_map.2 ⟨y, hy, h⟩)
        simp [hne]
      have hs2 : (!(seen.push x.born).contains x.born) = false := by simp
      simp only [List.filter_cons, hs, hs2, if_true, Bool.false_eq_true, if_false, rest]
      exact List.Perm.refl _
    · have he' : e ∈ l.filter (fun e => !seen.contains e.born) := by
        have h := List.mem_filter.1 he
        refine List.mem_filter.2 ⟨?_, h.2⟩
        rcases List.mem_cons.1 h.1 with h | h
        · exact (hx (by rw [h])).elim
        · exact h
      have := ih he' hn.2
      have hpush : (seen.push e.born).contains x.born = seen.contains x.born := by
        rw [Bool.eq_iff_iff]
        simp [hx]
      cases hsx : seen.contains x.born with
      | true =>
        simp only [List.filter_cons, hpush, hsx, Bool.not_true, Bool.false_eq_true, if_false]
        exact this
      | false =>
        simp only [List.filter_cons, hpush, hsx, Bool.not_false, if_true]
        exact (this.cons x).trans (List.Perm.swap e x _)

section
variable {F : Fence} {n : Nat} {P : Program} (w : World) {ops : Array Oper} {rest : List Oper} {o : Oper} {a : Act} {Q : Exit → Act → World → Prop}

/-- 'range m'. -/
theorem wpListIn_range_walk (hg : o.guard = none) (m : Operand) (t : TypeId) (hop : o.op = Op.range t m) (k e : TypeId) (ht : P.underlying t = some (.map k e)) (b nn : Nat) (es : Array MapEntry)
    (hm : a.eval m = .map (some b)) (hb : w.heap[b]? = some (.map es nn)) (hbo : ∀ x ∈ es.toList, x.born < nn) (hnd : (es.toList.map (·.born)).Nodup)
    (hK : ∀ w', Walk w' b w.heap.size es nn [] → w.grownBy w' none → w'.heap.size = w.heap.size + 1 → wpListIn F n P ops Q rest (a.put o.dst (.pointer (some ⟨w.heap.size, 0, none⟩))) w') :
    wpListIn F n P ops Q (o :: rest) a w := by
  have hlt : b < w.heap.size := (Array.getElem?_eq_some_iff.1 hb).1
  refine wpListIn_plain hg fun K' hK' => ?_
  have hrun := run_range_map w t k e b es nn ht hb
  unfold Oper.wpIn
  refine ⟨by simp [Oper.about, hop], ?_⟩
  rw [Oper.semAt_plain F _ _ (by rw [hop]; intro c hc'; cases hc')]
  simp [execOp, hop, hm, hrun, Result.andThen]
  refine hK' _ _ (hK _ ⟨((MapKept.heap_alloc w _).2 b hlt).trans hb, by omega, ⟨nn, #[], nn, (MapKept.heap_alloc w _).1, hbo, Nat.le_refl _, Nat.le_refl _, ?_⟩, hnd⟩ (World.grownBy_alloc w _ none) (by simp))
  have : leftOf es #[] = es := by
    unfold leftOf
    exact Array.filter_eq_self.2 fun x _ => by simp
  rw [this]
  exact List.Perm.refl _

/-- The step. -/
theorem wpListIn_next_walk (hg : o.guard = none) (it : Operand) (hop : o.op = Op.next it false) (b r nn : Nat) (es : Array MapEntry) (ss : List MapEntry)
    (hit : a.eval it = .pointer (some ⟨r, 0, none⟩)) (h : Walk w b r es nn ss)
    (hDone : es.toList.Perm ss → wpListIn F n P ops Q rest (a.put o.dst (.tuple #[.bool false])) w)
    (hMore : ∀ (m : MapEntry) (w' : World), m ∈ es.toList → Walk w' b r es nn (ss ++ [m]) → w.grownBy w' (some r) → w'.heap.size = w.heap.size → (Instr.entry (.pointer (some ⟨r, 0, none⟩))).run P w' = .ok (.tuple #[m.key, m.val]) w' →
      wpListIn F n P ops Q rest (a.put o.dst (.tuple #[.bool true, m.key, m.val])) w') :
    wpListIn F n P ops Q (o :: rest) a w := by
  obtain ⟨since, seen, c0, hr, hold, hsc, hsn, hp⟩ := h.it
  refine wpListIn_plain hg fun K' hK' => ?_
  unfold Oper.wpIn
  refine ⟨by simp [Oper.about, hop], ?_⟩
  rw [Oper.semAt_plain F _ _ (by rw [hop]; intro c hc'; cases hc')]
  rcases run_next_at (P := P) w o.type r b since c0 seen es nn hr h.map hold hsc with ⟨h0, hrun⟩ | ⟨m, hm, w1, hal, hrun⟩
  · simp [execOp, hop, hit, hrun, Result.andThen]
    refine hK' _ _ (hDone ?_)
    have : (leftOf es seen).toList = [] := by
      have : (leftOf es seen) = #[] := Array.eq_empty_of_size_eq_zero h0
      rw [this]
    rw [this, List.append_nil] at hp
    exact hp
  · simp [execOp, hop, hit, hrun, Result.andThen]
    have hheap : w1.heap = w.heap := by rcases hal with rfl | rfl <;> rfl
    have hr1 : (setBlock w1 r (.mapIter (some b) since (seen.push m.born) nn)).heap[r]? = some (.mapIter (some b) since (seen.push m.born) nn) := by
      have hlt : r < w.heap.size := (Array.getElem?_eq_some_iff.1 hr).1
      simp [setBlock, hheap, hlt]
    have hother : ∀ k, k ≠ r → (setBlock w1 r (.mapIter (some b) since (seen.push m.born) nn)).heap[k]? = w.heap[k]? := fun k hk => by
      simp [setBlock, hheap, Ne.symm hk]
    have hmem : m ∈ es.toList := by
      have := hm
      unfold leftOf at this
      rw [Array.toList_filter] at this
      exact (List.mem_filter.1 this).1
    have hb1 : (setBlock w1 r (.mapIter (some b) since (seen.push m.born) nn)).heap[b]? = some (.map es nn) := (hother b (fun e => h.ne e.symm)).trans h.map
    refine hK' _ _ (hMore m _ hmem ⟨hb1, h.ne, ⟨since, seen.push m.born, nn, hr1, hold, hsn, hsn, ?_⟩, h.nodup⟩ ⟨?_, ?_, ?_, ?_, ?_⟩ ?_ (run_entry_at _ r b since seen es nn m hr1 hb1 hmem h.nodup))
    · rw [List.append_assoc]
      exact hp.trans ((left_step hm h.nodup).append_left ss)
    · rcases hal with rfl | rfl <;> rfl
    · rcases hal with rfl | rfl <;> rfl
    · rcases hal with rfl | rfl <;> rfl
    · simp [setBlock, hheap]
    · intro k _ hk
      exact hother k (fun e => hk (by rw [e]))
    · simp [setBlock, hheap]
end
end Go.AE
