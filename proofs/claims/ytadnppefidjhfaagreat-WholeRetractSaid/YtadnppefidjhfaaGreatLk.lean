/-
  slices.DeleteFunc at a tally's entries: what is left, then what counts nothing.
-/
import Derived.Test.YtadnppefidjhfaaGreatLd
import Derived.Test.YtadnppefidjhfaaGreatVh
namespace Go.AE
open Go.RowKit
set_option maxRecDepth 100000

theorem wr64 {n : Int} (h1 : -9223372036854775808 ≤ n) (h2 : n ≤ 9223372036854775807) : IntKind.i64.wrap n = n := by
  simp [IntKind.wrap, IntKind.bits, IntKind.signed]; omega
theorem idxO_n {α : Type} (l : List α) (i : Nat) : idxO l (i : Int) = l[i]? := by
  unfold idxO; simp

/-- The first that counts nothing. -/
theorem l69_0_spec (l : List En) (hl : l.length ≤ 1000000) : ∀ (t i : Nat), l.length - i = t → i ≤ l.length →
    ((∀ x ∈ l.drop i, nzE x = true) ∧ l69_0 (l, (l.length : Int), (i : Int), ()) = some (.inr ())) ∨
    ∃ k : Nat, ∃ hk : k < l.length, i ≤ k ∧ (∀ m (hm : m < l.length), i ≤ m → m < k → nzE l[m] = true) ∧ nzE l[k] = false ∧ l69_0 (l, (l.length : Int), (i : Int), ()) = some (.inl ((k : Int), ()))
  | t, i, ht, hi => by
    unfold l69_0
    rw [iterO_eq]
    by_cases e : i = l.length
    · have c1 : ¬ ((i : Int) < (l.length : Int)) := by omega
      have hs : r69_0 (l, (l.length : Int), (i : Int), ()) = some (.inr (.inr ())) := by
        unfold r69_0
        simp only [c1, decide_false, cond_false]
      rw [hs]
      refine .inl ⟨fun x hx => ?_, rfl⟩
      rw [List.drop_eq_nil_of_le (by omega)] at hx
      cases hx
    · have hlt : i < l.length := by omega
      have c1 : ((i : Int) < (l.length : Int)) := by omega
      have hc : l[i]? = some l[i] := List.getElem?_eq_getElem hlt
      have w1 : IntKind.i64.wrap ((i : Int) + 1) = ((i + 1 : Nat) : Int) := by rw [wr64 (by omega) (by omega)]; rfl
      match t, ht with
      | 0, ht => omega
      | t + 1, ht =>
        cases hz : f65 l[i].X l[i].Y l[i].A l[i].B with
        | true =>
          have hs : r69_0 (l, (l.length : Int), (i : Int), ()) = some (.inr (.inl ((i : Int), ()))) := by
            unfold r69_0
            simp only [c1, decide_true, cond_true, idxO_n, hc, Option.bind_some, hz]
          rw [hs]
          exact .inr ⟨i, hlt, Nat.le_refl _, fun m hm h1 h2 => by omega, by unfold nzE; rw [hz]; rfl, rfl⟩
        | false =>
          have hn : nzE l[i] = true := by unfold nzE; rw [hz]; rfl
          have hs : r69_0 (l, (l.length : Int), (i : Int), ()) = some (.inl (l, (l.length : Int), ((i + 1 : Nat) : Int), ())) := by
            unfold r69_0
            simp only [c1, decide_true, cond_true, idxO_n, hc, Option.bind_some, hz, cond_false, w1]
          rw [hs]
          rcases l69_0_spec l hl t (i + 1) (by omega) (by omega) with ⟨h1, h2⟩ | ⟨k, hk, h1, h2, h3, h4⟩
          · refine .inl ⟨fun x hx => ?_, h2⟩
            rw [List.drop_eq_getElem_cons hlt] at hx
            rcases List.mem_cons.1 hx with h | h
            · rw [h]; exact hn
            · exact h1 x h
          · refine .inr ⟨k, hk, by omega, fun m hm a b => ?_, h3, h4⟩
            by_cases e : m = i
            · subst e; exact hn
            · exact h2 m hm (by omega) b

/-- What the loop has laid: what is left of the first j; behind them the list as it was. -/
structure DelInv (l : List En) (i j : Nat) (s : List En) : Prop where
  len : s.length = l.length
  ij : i ≤ j
  head : s.take i = (l.take j).filter nzE
  tail : ∀ k, j ≤ k → s[k]? = l[k]?

theorem DelInv.le {l : List En} {i j : Nat} {s : List En} (h : DelInv l i j s) (hj : j ≤ l.length) : ((l.take j).filter nzE).length = i := by
  rw [← h.head, List.length_take, h.len]
  have := h.ij
  omega

theorem l64_0_spec (l : List En) (hl : l.length ≤ 1000000) : ∀ (t j i : Nat) (s : List En), l.length - j = t → j ≤ l.length → i < j → DelInv l i j s →
    ∃ (i' : Nat) (s' : List En), l64_0 (l.length, (i : Int), (j : Int), s, ()) = some (l.length, (i' : Int), s', ()) ∧ i' ≤ l.length ∧ DelInv l i' l.length s'
  | t, j, i, s, ht, hj, hij, inv => by
    unfold l64_0
    rw [iterO_eq]
    by_cases e : j = l.length
    · have c1 : ¬ ((j : Int) < (l.length : Int)) := by omega
      have hs : r64_0 (l.length, (i : Int), (j : Int), s, ()) = some (.inr (l.length, (i : Int), s, ())) := by
        unfold r64_0
        simp only [c1, decide_false, cond_false]
      rw [hs]
      subst e
      exact ⟨i, s, rfl, by omega, inv⟩
    · have hlt : j < l.length := by omega
      have c1 : ((j : Int) < (l.length : Int)) := by omega
      have c0 : (0 : Int) ≤ (j : Int) := by omega
      have d1 : ((i : Int) < (l.length : Int)) := by omega
      have d0 : (0 : Int) ≤ (i : Int) := by omega
      have hc : s[0 + (j : Int).toNat]? = some l[j] := by rw [Int.toNat_natCast, Nat.zero_add, inv.tail j (Nat.le_refl _)]; exact List.getElem?_eq_getElem hlt
      have his : i < s.length := by rw [inv.len]; omega
      have hd : s[0 + (i : Int).toNat]? = some s[i] := by rw [Int.toNat_natCast, Nat.zero_add]; exact List.getElem?_eq_getElem his
      have w1 : IntKind.i64.wrap ((j : Int) + 1) = ((j + 1 : Nat) : Int) := by rw [wr64 (by omega) (by omega)]; rfl
      have w2 : IntKind.i64.wrap ((i : Int) + 1) = ((i + 1 : Nat) : Int) := by rw [wr64 (by omega) (by omega)]; rfl
      have htk : l.take (j + 1) = l.take j ++ [l[j]] := by rw [List.take_add_one, List.getElem?_eq_getElem hlt]; rfl
      match t, ht with
      | 0, ht => omega
      | t + 1, ht =>
        cases hz : f65 l[j].X l[j].Y l[j].A l[j].B with
        | true =>
          have hn : nzE l[j] = false := by unfold nzE; rw [hz]; rfl
          have hs : r64_0 (l.length, (i : Int), (j : Int), s, ()) = some (.inl (l.length, (i : Int), ((j + 1 : Nat) : Int), s, ())) := by
            unfold r64_0
            simp only [c1, c0, decide_true, cond_true, Bool.and_true, hc, Option.bind_some, hz, Bool.not_true, cond_false, j64_19, w1]
          rw [hs]
          refine l64_0_spec l hl t (j + 1) i s (by omega) (by omega) (by omega) ⟨inv.len, by omega, ?_, fun k hk => inv.tail k (by omega)⟩
          rw [inv.head, htk, List.filter_append]
          simp [hn]
        | false =>
          have hn : nzE l[j] = true := by unfold nzE; rw [hz]; rfl
          have hs : r64_0 (l.length, (i : Int), (j : Int), s, ()) = some (.inl (l.length, ((i + 1 : Nat) : Int), ((j + 1 : Nat) : Int), s.set i l[j], ())) := by
            unfold r64_0
            simp only [c1, c0, d1, d0, decide_true, cond_true, Bool.and_true, hc, hd, Option.bind_some, hz, Bool.not_false, j64_19, w1, w2]
            rw [Int.toNat_natCast, Nat.zero_add]
          rw [hs]
          refine l64_0_spec l hl t (j + 1) (i + 1) (s.set i l[j]) (by omega) (by omega) (by omega) ⟨by rw [List.length_set]; exact inv.len, by omega, ?_, fun k hk => ?_⟩
          · rw [htk, List.filter_append, ← inv.head, List.take_add_one, List.getElem?_set_self his, List.take_set_of_le (Nat.le_refl _)]
            simp [hn]
          · rw [List.getElem?_set_ne (by omega)]
            exact inv.tail k (by omega)

/-- slices.DeleteFunc. -/
theorem f64_spec (l : List En) (hl : l.length ≤ 1000000) : f64 (l.length, l, ()) = some ((l.filter nzE).length, l.filter nzE ++ List.replicate (l.length - (l.filter nzE).length) (En.mk 0 0 0 0), ()) := by
  have hsl : List.take l.length (List.drop 0 l) = l := by rw [List.drop_zero, List.take_length]
  rcases l69_0_spec l hl l.length 0 (by omega) (by omega) with ⟨h1, h2⟩ | ⟨k, hk, h1, h2, h3, h4⟩
  · have hf : l.filter nzE = l := List.filter_eq_self.2 (by simpa using h1)
    have h2' : l69_0 (l, (l.length : Int), 0, ()) = some (.inr ()) := h2
    have e : ((-1 : Int) == -1) = true := rfl
    unfold f64 f69
    simp only [Nat.zero_add, Nat.le_refl, decide_true, cond_true, hsl, h2', Option.bind_some, Sum.elim_inr, e, hf, Nat.sub_self, List.replicate_zero, List.append_nil]
  · have h4' : l69_0 (l, (l.length : Int), 0, ()) = some (.inl ((k : Int), ())) := h4
    have e : ((k : Int) == -1) = false := by rw [beq_eq_false_iff_ne]; omega
    have w1 : IntKind.i64.wrap ((k : Int) + 1) = ((k + 1 : Nat) : Int) := by rw [wr64 (by omega) (by omega)]; rfl
    have hall : ∀ x ∈ l.take k, nzE x = true := fun x hx => by
      obtain ⟨m, hm, rfl⟩ := List.getElem_of_mem hx
      rw [List.length_take] at hm
      rw [List.getElem_take]
      exact h2 m (by omega) (by omega) (by omega)
    have inv : DelInv l k (k + 1) l := ⟨rfl, by omega, by
      rw [List.take_add_one, List.getElem?_eq_getElem hk, List.filter_append, List.filter_eq_self.2 hall]
      simp [h3], fun _ _ => rfl⟩
    obtain ⟨i', s', g1, g2, g3⟩ := l64_0_spec l hl _ (k + 1) k l rfl (by omega) (by omega) inv
    have hfl := g3.le (Nat.le_refl _)
    rw [List.take_length] at hfl
    have hhd := g3.head
    rw [List.take_length] at hhd
    have c1 : (0 : Int) ≤ (i' : Int) := by omega
    have c2 : (i' : Int) ≤ (l.length : Int) := by omega
    have c3 : i' + (l.length - i') ≤ s'.length := by rw [g3.len]; omega
    have c4 : (l.length : Int) ≤ (l.length : Int) := Int.le_refl _
    have hdr : List.drop (i' + (l.length - i')) s' = [] := List.drop_eq_nil_of_le (by rw [g3.len]; omega)
    unfold f64 f69
    simp only [Nat.zero_add, Nat.le_refl, decide_true, cond_true, hsl, h4', Option.bind_some, Sum.elim_inl, e, cond_false, w1, g1, c1, c2, c4, Bool.and_true, Nat.sub_zero, Int.toNat_natCast, c3, hdr, List.append_nil, hhd, hfl]
end Go.AE

/-
  (tally).list: its contract: the entries in order of their cells.
-/
namespace Go.AE
open Go.Proofs Go.RowKit
set_option maxRecDepth 100000

/-! ### A row of entries that a call owns -/

theorem flat_get : ∀ (ss : List En) (i j : Nat), i < ss.length → j < 4 → (ss.flatMap enC)[i * 4 + j]? = some (enC (ss.getD i default))[j]!
  | [], i, j, h, _ => absurd h (Nat.not_lt_zero _)
  | x :: ss, 0, j, _, hj => by
    rcases lt4 hj with rfl | rfl | rfl | rfl <;> rfl
  | x :: ss, i + 1, j, h, hj => by
    have := flat_get ss i j (by simpa using h) hj
    rw [List.flatMap_cons, List.getElem?_append_right (by simp [enC]; omega)]
    rw [show (i + 1) * 4 + j - (enC x).length = i * 4 + j by simp [enC]; omega, this]
    rfl

/-- In w a row of entries stands, made since w0; what stood in w0 stands. -/
structure RowAt (w0 w : World) (xs : List En) (n : Nat) (v : Value) (c : Ctx) : Prop where
  hr : HR tC c w [some (.arr 68 xs)]
  r : R tC c w (.sl 0 0 n) v
  own : ∀ loc, c.σ 0 = some loc → w0.heap.size ≤ loc.blk
  old : ∀ k, k < w0.heap.size → w.heap[k]? = w0.heap[k]?
  os : w.os = w0.os
  tape : w.tape = w0.tape
  output : w.output = w0.output
  size : w0.heap.size ≤ w.heap.size

theorem own_row {c : Ctx} {xs : List En} {k : Nat} (h : Own c [some (Ob.arr (E := tC.E) 68 xs)] k) : ∃ loc, c.σ 0 = some loc ∧ loc.blk = k := by
  obtain ⟨id, o, loc, h1, h2, h3⟩ := h
  cases id with
  | succ id => simp at h1
  | zero => exact ⟨loc, h2, h3⟩

theorem RowAt.step {w0 w w' : World} {xs ys : List En} {n m : Nat} {v v' : Value} {c c' : Ctx} (h : RowAt w0 w xs n v c) (l : Le c [some (Ob.arr (E := tC.E) 68 xs)] w c' [some (Ob.arr (E := tC.E) 68 ys)] w') (hr : HR tC c' w' [some (.arr 68 ys)]) (r : R tC c' w' (.sl 0 0 m) v') : RowAt w0 w' ys m v' c' where
  hr := hr
  r := r
  own loc hl := by
    rcases Nat.lt_or_ge loc.blk w.heap.size with h1 | h1
    · obtain ⟨loc', e1, e2⟩ := own_row (l.own _ h1 ⟨0, _, loc, rfl, hl, rfl⟩)
      rw [← e2]
      exact h.own _ e1
    · exact Nat.le_trans h.size h1
  old k hk := (l.frame k (Nat.lt_of_lt_of_le hk h.size) (fun ho => by
    obtain ⟨loc, e1, e2⟩ := own_row ho
    have := h.own _ e1
    omega)).trans (h.old k hk)
  os := l.os.trans h.os
  tape := l.tape.trans h.tape
  output := l.output.trans h.output
  size := Nat.le_trans h.size l.size

theorem RowAt.new {w0 w1 w : World} {ss : List En} {v : Value} (h1 : w0.heap.size ≤ w1.heap.size) (h2 : ∀ k, k < w0.heap.size → w1.heap[k]? = w0.heap[k]?) (h3 : w1.os = w0.os ∧ w1.tape = w0.tape ∧ w1.output = w0.output)
    (hrow : w.ownsRow w1.heap.size 68 4 v ss.length (ss.flatMap enC)) (hb : Below w1.heap.size w1 w) (hw : ∀ x ∈ ss, wfE x) : ∃ c, RowAt w0 w ss ss.length v c := by
  have hold : ∀ k, k < w0.heap.size → w.heap[k]? = w0.heap[k]? := fun k hk => (hb.block k (by omega)).trans (h2 k hk)
  have hos : w.os = w0.os := hb.os.trans h3.1
  have htp : w.tape = w0.tape := hb.tape.trans h3.2.1
  have hou : w.output = w0.output := hb.output.trans h3.2.2
  have hsz : w0.heap.size ≤ w.heap.size := Nat.le_trans h1 hb.size
  rcases hrow.2 with ⟨rfl, h0⟩ | ⟨g, cap, cur, rfl, hg, hgb, hcap, hcm, hcs, htake⟩
  · have e : ss = [] := List.eq_nil_of_length_eq_zero h0
    subst e
    refine ⟨⟨1, fun _ => none, fun _ => False, fun _ => False⟩, ⟨⟨fun g l hg => (by cases hg), rfl, fun _ _ => rfl, fun k hk => hk.elim, fun k hk => hk, fun id o ho => ?_, fun id o loc ho hl => (by cases hl), fun i j oi oj li lj _ _ h => (by cases h)⟩, .sl0 Nat.zero_lt_one, fun loc hl => (by cases hl), hold, hos, htp, hou, hsz⟩⟩
    cases id with
    | succ id => simp at ho
    | zero =>
      simp only [List.getElem?_cons_zero, Option.some.injEq] at ho
      subst ho
      exact .nowhere rfl
  · have hcell : ∀ i, i < ss.length → ∀ j, j < 4 → w.cell? ⟨g, 0 + i * 4 + j, none⟩ = some (enC (ss.getD i default))[j]! := fun i hi j hj => by
      have e1 : w.cell? ⟨g, 0 + i * 4 + j, none⟩ = cur[i * 4 + j]? := by
        unfold World.cell?
        simp only [hgb, Nat.zero_add]
        rfl
      have e2 : cur[i * 4 + j]? = (cur.toList.take (ss.length * 4))[i * 4 + j]? := by
        rw [List.getElem?_take_of_lt (by omega), Array.getElem?_toList]
      rw [e1, e2, htake, flat_get ss i j hi hj]
    refine ⟨⟨1, fun i => if i = 0 then some ⟨g, 0, 4⟩ else none, fun _ => False, fun _ => False⟩, ⟨⟨fun g l hg => (by cases hg), rfl, fun id hid => ?_, fun k hk => hk.elim, fun k hk => hk, fun id o ho => ?_, fun id o loc ho hl => ?_, fun i j oi oj li lj a b _ _ _ => ?_⟩, ?_, fun loc hl => ?_, hold, hos, htp, hou, hsz⟩⟩
    · have : id ≠ 0 := by
        have : 1 ≤ id := hid
        omega
      simp [this]
    · cases id with
      | succ id => simp at ho
      | zero =>
        simp only [List.getElem?_cons_zero, Option.some.injEq] at ho
        subst ho
        exact arr61 (b := g) (base := 0) rfl hcell hw
    · cases id with
      | succ id => simp at ho
      | zero =>
        simp only [List.getElem?_cons_zero, Option.some.injEq] at ho
        subst ho
        simp only [if_true, Option.some.injEq] at hl
        subst hl
        exact ⟨⟨_, _, _, hgb, .inl rfl⟩, fun h => h⟩
    · cases i with
      | succ i => simp at a
      | zero => cases j with
        | succ j => simp at b
        | zero => rfl
    · have := R.sl (C := tC) (c := ⟨1, fun i => if i = 0 then some ⟨g, 0, 4⟩ else none, fun _ => False, fun _ => False⟩) (w := w) (id := 0) (start := 0) (len := ss.length) (cap := cap) (loc := ⟨g, 0, 4⟩) rfl Nat.zero_lt_one hcap hcm hgb (by simp [hcs])
      simpa using this
    · simp only [if_true, Option.some.injEq] at hl
      subst hl
      exact Nat.le_trans h1 hg
end Go.AE

/-
  (tally).list: its contract: the entries in order of their cells.
-/
namespace Go.AE
open Go.Proofs Go.RowKit Go.Shelf
set_option maxRecDepth 100000

def dE (v : Value) : En := match v with
  | .agg vs => match vs.toList with
    | [.int _ a, .int _ b, .int _ c, .int _ d] => ⟨a, b, c, d⟩
    | _ => default
  | _ => default
theorem dE_enE (x : En) : dE (enE x) = x := rfl

theorem aggE {c : Ctx} {w : World} {x : En} {v : Value} (h : R tC c w (.agg [.int .i64 x.X, .int .i64 x.Y, .int .i64 x.A, .int .i64 x.B]) v) : v = enE x ∧ wfE x := by
  cases h with
  | agg hl hr =>
    rename_i vs
    have h0 := hr 0 (by simp)
    have h1 := hr 1 (by simp)
    have h2 := hr 2 (by simp)
    have h3 := hr 3 (by simp)
    simp only [List.getElem_cons_zero, List.getElem_cons_succ] at h0 h1 h2 h3
    have hs : vs.size = 4 := by simpa using hl.symm
    have e : vs = #[vs.getD 0 undef, vs.getD 1 undef, vs.getD 2 undef, vs.getD 3 undef] := by
      apply Array.ext
      · simpa using hs
      · intro i h1 h2
        have h3 : i < 4 := by omega
        rcases lt4 h3 with rfl | rfl | rfl | rfl <;> simp [Array.getD, h1]
    generalize vs.getD 0 undef = a at *
    generalize vs.getD 1 undef = b at *
    generalize vs.getD 2 undef = c at *
    generalize vs.getD 3 undef = d at *
    subst e
    cases h0 with
    | int g0 =>
    cases h1 with
    | int g1 =>
    cases h2 with
    | int g2 =>
    cases h3 with
    | int g3 => exact ⟨rfl, g0, g1, g2, g3⟩

theorem mk61 (x : En) : (tC.T 68).map (fun t => mkV t.d (tC.enc 68 (x : En))) = some (.agg [.int .i64 x.X, .int .i64 x.Y, .int .i64 x.A, .int .i64 x.B]) := by kernel_rfl

/-- The entries of the map, told as the model's. -/
theorem map_vals {c : Ctx} {w : World} {l : List (Pt × En)} (h : ObR tC c w 0 (.map 66 68 l)) : ∃ (b : Nat) (es : Array MapEntry), c.σ 0 = some ⟨b, 0, 0⟩ ∧ w.heap[b]? = some (.map es l.length) ∧ es.size = l.length ∧ (∀ m ∈ es.toList, m.born < l.length) ∧ (es.toList.map (·.born)).Nodup ∧
    es.toList.map (·.val) = l.map (fun p => enE p.2) ∧ ∀ p ∈ l, wfE p.2 := by
  cases h with
  | map hs hk he es hb hl hborn hkey hval hkd =>
    rename_i b tk te
    have hval' : ∀ (i : Nat) (h : i < l.length) (m : MapEntry), es[i]? = some m → R tC c w (mkV te.d (tC.enc 68 ((l[i]'h).2 : En))) m.val := hval
    have hl' : es.size = l.length := hl
    clear hval hl
    have hv : ∀ (i : Nat) (h : i < l.length) (m : MapEntry), es[i]? = some m → m.val = enE l[i].2 ∧ wfE l[i].2 := fun i h m hm => by
      have h1 := hval' i h m hm
      have h2 := mk61 l[i].2
      rw [he] at h2
      simp only [Option.map_some, Option.some.injEq] at h2
      rw [h2] at h1
      exact aggE h1
    refine ⟨b, es, hs, hb, hl', fun m hm => ?_, ?_, ?_, fun p hp => ?_⟩
    · obtain ⟨i, hi, rfl⟩ := List.getElem_of_mem hm
      have := hborn i _ (by rw [← Array.getElem?_toList]; exact List.getElem?_eq_getElem hi)
      rw [this]
      simp at hi
      omega
    · rw [List.nodup_iff_pairwise_ne, List.pairwise_iff_getElem]
      intro i j hi hj hij
      simp only [List.length_map, Array.length_toList] at hi hj
      simp only [List.getElem_map, Array.getElem_toList]
      rw [hborn i _ (Array.getElem?_eq_getElem hi), hborn j _ (Array.getElem?_eq_getElem hj)]
      omega
    · apply List.ext_getElem
      · simpa using hl'
      · intro i h1 h2
        simp only [List.length_map, Array.length_toList] at h1 h2
        simp only [List.getElem_map, Array.getElem_toList]
        exact (hv i h2 _ (Array.getElem?_eq_getElem h1)).1
    · obtain ⟨i, hi, rfl⟩ := List.getElem_of_mem hp
      have hi' : i < es.size := by omega
      exact (hv i hi es[i] (Array.getElem?_eq_getElem hi')).2

theorem gave_perm {es : Array MapEntry} {xs ys : List En} (h : Gave es xs) (he : es.toList.map (·.val) = ys.map enE) : xs.Perm ys := by
  obtain ⟨ss, h1, h2⟩ := h
  have h3 : (ys.map enE).Perm (xs.map enE) := by rw [← he, ← h2]; exact h1.map _
  have h4 := h3.map dE
  rw [List.map_map, List.map_map] at h4
  have e : (dE ∘ enE) = id := by funext x; exact dE_enE x
  rw [e, List.map_id, List.map_id] at h4
  exact h4.symm

/-- What DeleteFunc and SortFunc do to the row. -/
def delE (xs : List En) : List En := xs.filter nzE ++ List.replicate (xs.length - (xs.filter nzE).length) (En.mk 0 0 0 0)
theorem del_row {w0 w : World} {xs : List En} {v : Value} {c : Ctx} (h : RowAt w0 w xs xs.length v c) (hl : xs.length ≤ 1000000) :
    Calls Tryz.prog 64 #[v, .func (.func 65) #[] #[]] w fun e w' => ∃ v' c', e = .returned v' ∧ RowAt w0 w' (delE xs) (xs.filter nzE).length v' c' := by
  have hF : F64.F (Z := AV tC.E × List (Option (Ob tC.E))) [.sl 0 0 xs.length, .fn 65 []] [some (.arr 68 xs)] (fun r h => some (r, h)) = some (.sl 0 0 (xs.filter nzE).length, [some (.arr 68 (delE xs))]) := by
    have e : F64.F (Z := AV tC.E × List (Option (Ob tC.E))) [.sl 0 0 xs.length, .fn 65 []] [some (.arr 68 xs)] (fun r h => some (r, h)) = (f64 (xs.length, xs, ())).bind fun r => some (.sl 0 0 r.1, [some (.arr 68 r.2.1)]) := rfl
    rw [e, f64_spec xs hl]
    rfl
  have hrun := F64_ok.run c w _ _ #[v, .func (.func 65) #[] #[]] _ _ hF h.hr rfl (fun j hj => by
    simp only [List.length_cons, List.length_nil] at hj
    have hj2 : j = 0 ∨ j = 1 := by omega
    rcases hj2 with rfl | rfl
    · exact h.r
    · exact .fn rfl (fun j hj => absurd hj (Nat.not_lt_zero _)))
  refine (hrun.calls (fn := Tryz.f64) (by kernel_rfl) (by kernel_rfl) (by kernel_rfl)).mono ?_
  rintro e w' ⟨v', r, h', c', rfl, hk, hr, hh, hle⟩
  cases hk
  exact ⟨v', c', rfl, h.step hle hh hr⟩

theorem sort_row {w0 w : World} {xs : List En} {n : Nat} {v : Value} {c : Ctx} (h : RowAt w0 w xs n v c) (hn : n ≤ xs.length) (hl : n ≤ 1000000) (ha : apartE (xs.take n) = true) :
    Calls Tryz.prog 66 #[v, .func (.func 67) #[] #[]] w fun e w' => ∃ u c', e = .returned u ∧ RowAt w0 w' (sortE (xs.take n) ++ xs.drop n) n v c' := by
  have hF : F66.F (Z := AV tC.E × List (Option (Ob tC.E))) [.sl 0 0 n, .fn 67 []] [some (.arr 68 xs)] (fun r h => some (r, h)) = some (.tup [], [some (.arr 68 (sortE (xs.take n) ++ xs.drop n))]) := by
    have e : F66.F (Z := AV tC.E × List (Option (Ob tC.E))) [.sl 0 0 n, .fn 67 []] [some (.arr 68 xs)] (fun r h => some (r, h)) = (f66 (n, xs, ())).bind fun r => some (.tup [], [some (.arr 68 r.1)]) := rfl
    rw [e]
    unfold f66
    simp only [hn, hl, ha, decide_true, Bool.and_true, cond_true, Option.bind_some]
  have hrun := F66_ok.run c w _ _ #[v, .func (.func 67) #[] #[]] _ _ hF h.hr rfl (fun j hj => by
    simp only [List.length_cons, List.length_nil] at hj
    have hj2 : j = 0 ∨ j = 1 := by omega
    rcases hj2 with rfl | rfl
    · exact h.r
    · exact .fn rfl (fun j hj => absurd hj (Nat.not_lt_zero _)))
  refine (hrun.calls (fn := Tryz.f66) (by kernel_rfl) (by kernel_rfl) (by kernel_rfl)).mono ?_
  rintro e w' ⟨v', r, h', c', rfl, hk, hr, hh, hle⟩
  cases hk
  refine ⟨v', c', rfl, h.step hle hh (h.r.keep ⟨hle.n, hle.σ, hle.I, hle.H, fun k hk => hle.frame k ?_ (h.hr.notOwn hk), hle.shape⟩)⟩
  exact h.hr.bnd k hk

theorem col_row {c : Ctx} {w : World} {l : List (Pt × En)} (hh : HR tC c w [some (.map 66 68 l)]) (hl : l.length ≤ 1000000) {b : Nat} (hb : c.σ 0 = some ⟨b, 0, 0⟩) :
    Calls Tryz.prog 62 #[.func (.func 83) #[] #[.pointer (some ⟨w.heap.size, 0, none⟩)]] (w.alloc (.cells #[.map (some b)] 77)) fun e w' => ∃ v xs c', e = .returned v ∧ xs.Perm (l.map (·.2)) ∧ RowAt w w' xs xs.length v c' := by
  obtain ⟨b', es, h1, h2, h3, h4, h5, h6, h7⟩ := map_vals (hh.ob 0 _ rfl)
  rw [hb] at h1
  cases h1
  have hbs : b < w.heap.size := (Array.getElem?_eq_some_iff.1 h2).1
  have he : es.toList.map (·.val) = (l.map (·.2)).map enE := by rw [h6, List.map_map]; rfl
  have hg := vals_gives Fence.wide (10 - 1 - 1) trivial rfl (by omega) w.heap.size b l.length es (w.alloc (.cells #[.map (some b)] 77)) (by simp) (fun m hm => by
      have : m.val ∈ es.toList.map (·.val) := List.mem_map.2 ⟨m, hm, rfl⟩
      rw [h6] at this
      obtain ⟨p, _, e⟩ := List.mem_map.1 this
      exact ⟨p.2, e.symm⟩) (by rw [World.cell?_alloc_new]; rfl) ((Below.heap_alloc _ _ b hbs).trans h2) h4 h5
  have hc := callsIn_wide.1 (collect_in Fence.wide 10 trivial trivial rfl (by omega) 83 _ trivial (enters_of Tryz.func83 (by kernel_rfl) rfl) (Gave es) es.size (by unfold maxLen; omega) (by omega) (w.alloc (.cells #[.map (some b)] 77)) hg)
  refine hc.mono ?_
  rintro e w' ⟨v, xs, rfl, hS, hrow, -, hbl⟩
  have hp := gave_perm hS he
  obtain ⟨c', hc'⟩ := RowAt.new (w0 := w) (by simp) (fun k hk => Below.heap_alloc _ _ k hk) ⟨rfl, rfl, rfl⟩ hrow hbl (fun x hx => by
    obtain ⟨p, hp1, rfl⟩ := List.mem_map.1 (hp.mem_iff.1 hx)
    exact h7 p hp1)
  exact ⟨v, xs, c', rfl, hp, hc'⟩
end Go.AE

/-
  (tally).list: its contract, joined.
-/
namespace Go.AE
open Go.Proofs Go.RowKit Go.Shelf
set_option maxRecDepth 100000

/-- The row behind the map, told in the caller's terms. -/
theorem list_after {c : Ctx} {w w' : World} {l : List (Pt × En)} {ys : List En} {n : Nat} {v : Value} {c4 : Ctx} (hh : HR tC c w [some (.map 66 68 l)]) (h : RowAt w w' ys n v c4) :
    ∃ c', R tC c' w' (.sl 1 0 n) v ∧ HR tC c' w' [some (.map 66 68 l), some (.arr 68 ys)] ∧ Le c [some (Ob.map (E := tC.E) 66 68 l)] w c' [some (Ob.map (E := tC.E) 66 68 l), some (Ob.arr (E := tC.E) 68 ys)] w' := by
  obtain ⟨b, es, h1, h2, h3, h4, h5, h6, h7⟩ := map_vals (hh.ob 0 _ rfl)
  have hbs : b < w.heap.size := (Array.getElem?_eq_some_iff.1 h2).1
  have hcn : c.n = 1 := hh.len.symm
  have hc4 : c4.n = 1 := h.hr.len.symm
  have kp : Keeps c w (⟨2, fun i => if i = 0 then c.σ 0 else if i = 1 then c4.σ 0 else none, c.I, c.H⟩ : Ctx) w' := ⟨by show c.n ≤ 2; omega, fun id loc hid hs => by
      have e : id = 0 := by omega
      subst e
      exact hs, fun _ h => h, fun _ h => h, fun k hk => h.old k (hh.bnd k hk), fun k cs e fr hk => ⟨cs, fr, by rw [h.old k (Array.getElem?_eq_some_iff.1 hk).1]; exact hk, rfl⟩⟩
  refine ⟨⟨2, fun i => if i = 0 then c.σ 0 else if i = 1 then c4.σ 0 else none, c.I, c.H⟩, ?_, ⟨fun g l hg => (by cases hg), rfl, fun id hid => ?_, fun k hk => Nat.lt_of_lt_of_le (hh.bnd k hk) h.size, hh.hI, fun id o ho => ?_, fun id o loc ho hl => ?_, fun i j oi oj li lj a1 a2 b1 b2 e => ?_⟩,
    ⟨by show c.n ≤ 2; omega, kp.σ, fun _ h => h, fun _ h => h, fun _ _ h => .inl h, fun _ _ h => .inl h, fun k hk ho => ?_, h.size, h.os, h.tape, h.output, fun k hk _ => h.old k hk, kp.shape⟩⟩
  · have hr := h.r
    generalize hx : (AV.sl 0 0 n : AV tC.E) = x at hr
    cases hr with
    | sl0 hn => cases hx; exact .sl0 (by show 1 < 2; omega)
    | sl hs hn hl hm hb hsz => cases hx; exact .sl (id := 1) (by simpa using hs) (by show 1 < 2; omega) hl hm hb hsz
    | _ => cases hx
  · have : 2 ≤ id := hid
    have e0 : id ≠ 0 := by omega
    have e1 : id ≠ 1 := by omega
    simp [e0, e1]
  · match id, ho with
    | 0, ho =>
      simp only [List.getElem?_cons_zero, Option.some.injEq] at ho
      subst ho
      exact ObR_keep kp (hh.ob 0 _ rfl) (by omega) (fun h0 => by simpa using h0) (fun loc hl => h.old _ (by rw [h1] at hl; cases hl; exact hbs))
    | 1, ho =>
      simp only [List.getElem?_cons_succ, List.getElem?_cons_zero, Option.some.injEq] at ho
      subst ho
      by_cases h0 : c4.σ 0 = none
      · have hob := h.hr.ob 0 _ rfl
        cases hob with
        | nowhere _ => exact .nowhere (by simpa using h0)
        | arr hs f hc hr => rw [h0] at hs; cases hs
      · obtain ⟨g, base, e1, e2, e3⟩ := arr61_inv (h.hr.ob 0 _ rfl) h0
        exact arr61 (b := g) (base := base) (by simpa using e1) e2 e3
    | id + 2, ho => simp at ho
  · match id, ho, hl with
    | 0, ho, hl =>
      simp only [List.getElem?_cons_zero, Option.some.injEq] at ho
      subst ho
      have hl' : c.σ 0 = some loc := by simpa using hl
      have := hh.soft 0 _ _ rfl hl'
      exact ⟨this.1.same (h.old _ this.1.lt), this.2⟩
    | 1, ho, hl =>
      simp only [List.getElem?_cons_succ, List.getElem?_cons_zero, Option.some.injEq] at ho
      subst ho
      have hl' : c4.σ 0 = some loc := by simpa using hl
      have := h.hr.soft 0 _ _ rfl hl'
      have hge := h.own _ hl'
      exact ⟨this.1, fun hI => by have := hh.bnd _ hI; omega⟩
    | id + 2, ho, hl => simp at ho
  · have lt0 : ∀ {loc : Loc}, c.σ 0 = some loc → loc.blk < w.heap.size := fun hl => by
      rw [h1] at hl
      cases hl
      exact hbs
    match i, j, a1, a2, b1, b2 with
    | 0, 0, _, _, _, _ => rfl
    | 1, 1, _, _, _, _ => rfl
    | 0, 1, _, _, b1, b2 =>
      have x1 := lt0 (show c.σ 0 = some li by simpa using b1)
      have x2 := h.own lj (by simpa using b2)
      omega
    | 1, 0, _, _, b1, b2 =>
      have x1 := lt0 (show c.σ 0 = some lj by simpa using b2)
      have x2 := h.own li (by simpa using b1)
      omega
    | i + 2, _, a1, _, _, _ => simp at a1
    | 0, j + 2, _, a2, _, _ => simp at a2
    | 1, j + 2, _, a2, _, _ => simp at a2
  · obtain ⟨id, o, loc, o1, o2, o3⟩ := ho
    match id, o1, o2 with
    | 0, o1, o2 => exact ⟨0, _, loc, rfl, by simpa using o2, o3⟩
    | 1, o1, o2 =>
      have := h.own loc (by simpa using o2)
      omega
    | id + 2, o1, o2 => simp at o1

set_option maxHeartbeats 1000000 in
theorem list_run {Z : Type} {c : Ctx} {w : World} {l : List (Pt × En)} {v0 : Value} {K : AV tC.E → List (Option (Ob tC.E)) → Option Z} {z : Z} (hok : okTl l = true)
    (hk' : K (.sl 1 0 (listE l).length) [some (.map 66 68 l), some (.arr 68 (listE l ++ List.replicate (l.length - (listE l).length) (En.mk 0 0 0 0)))] = some z)
    (hh : HR tC c w [some (.map 66 68 l)]) (r0 : R tC c w (.mp 0) v0) :
    Calls Tryz.prog 36 #[v0] w fun e w' => ∃ v r h' c', e = .returned v ∧ K r h' = some z ∧ R tC c' w' r v ∧ HR tC c' w' h' ∧ Le c [some (Ob.map (E := tC.E) 66 68 l)] w c' h' w' := by
  simp only [okTl, Bool.and_eq_true, decide_eq_true_eq] at hok
  obtain ⟨hl, ha⟩ := hok
  obtain ⟨b, es, h1, -⟩ := map_vals (hh.ob 0 _ rfl)
  cases r0 with
  | mp hs hn =>
    rw [h1] at hs
    cases hs
    have k59 := callsIn_wide.1 (values_in Fence.wide 10 trivial rfl (some b) w)
    have k58 := col_row hh hl h1
    have hlen : ∀ xs : List En, xs.Perm (l.map (·.2)) → xs.length = l.length := fun xs hp => by simpa using hp.length_eq
    have hfl : ∀ xs : List En, (xs.filter nzE).length ≤ (delE xs).length ∧ (delE xs).take (xs.filter nzE).length = xs.filter nzE ∧ (delE xs).drop (xs.filter nzE).length = List.replicate (xs.length - (xs.filter nzE).length) (En.mk 0 0 0 0) := fun xs => by
      unfold delE
      refine ⟨by rw [List.length_append]; omega, List.take_left, List.drop_left⟩
    have ha' : ∀ xs : List En, xs.Perm (l.map (·.2)) → apartE (xs.filter nzE) = true := fun xs hp => by
      unfold apartE at ha ⊢
      simp only [decide_eq_true_eq] at ha ⊢
      exact (hp.symm.pairwise ha (fun {a b} h h' => h ⟨h'.1.symm, h'.2.symm⟩)).sublist List.filter_sublist
    have hsame : ∀ xs : List En, xs.Perm (l.map (·.2)) → sortE (xs.filter nzE) = listE l := fun xs hp => by
      have hd : (sortE (xs.filter nzE)).Pairwise fun a b => ¬ sameC a b := by
        have := ha' xs hp
        unfold apartE at this
        simp only [decide_eq_true_eq] at this
        exact (sortE_perm _).symm.pairwise this (fun {a b} h h' => h ⟨h'.1.symm, h'.2.symm⟩)
      exact sorted_one ((sortE_perm _).trans ((hp.filter nzE).trans (sortE_perm _).symm)) (sortE_sorted _) (sortE_sorted _) hd
    have hfin : ∀ (w' : World) (xs : List En) (v : Value) (c4 : Ctx), xs.Perm (l.map (·.2)) → RowAt w w' (sortE ((delE xs).take (xs.filter nzE).length) ++ (delE xs).drop (xs.filter nzE).length) (xs.filter nzE).length v c4 →
        ∃ r h' c', K r h' = some z ∧ R tC c' w' r v ∧ HR tC c' w' h' ∧ Le c [some (Ob.map (E := tC.E) 66 68 l)] w c' h' w' := fun w' xs v c4 hp h => by
      obtain ⟨f1, f2, f3⟩ := hfl xs
      rw [f2, f3, hsame xs hp, hlen xs hp] at h
      have e : (xs.filter nzE).length = (listE l).length := by rw [← hsame xs hp, sortE_len]
      rw [e] at h
      obtain ⟨c', q1, q2, q3⟩ := list_after hh h
      exact ⟨_, _, c', hk', q1, q2, q3⟩
    have hle : ∀ xs : List En, (xs.filter nzE).length ≤ xs.length := fun xs => List.length_filter_le _ _
    clear hk' hh
    go_enter Tryz.func36, Tryz.ntmps36
    go_wp2_with (first
      | (go_at_call 63; refine k59.mono ?_; rintro e w' ⟨rfl, rfl⟩)
      | (go_at_call 62; refine k58.mono ?_; rintro e w2 ⟨v, xs, c2, rfl, hp, hr2⟩)
      | (go_at_call 64; refine (del_row hr2 (by rw [hlen xs hp]; exact hl)).mono ?_; rintro e w3 ⟨v3, c3, rfl, hr3⟩)
      | (go_at_call 66; refine (sort_row hr3 (hfl xs).1 (by have h7 := hle xs; rw [hlen xs hp] at h7; omega) (by rw [(hfl xs).2.1]; exact ha' xs hp)).mono ?_; rintro e w4 ⟨u, c4, rfl, hr4⟩))
    go_ret
    obtain ⟨r, h', c', q⟩ := hfin _ xs v3 c4 hp hr4
    exact ⟨v3, r, h', c', rfl, q⟩

theorem F36_ok : CFOK tC 36 F36 := by
  refine ⟨fun {Z} c w h args vs K z hk hh hl hr => .inl ⟨Tryz.f36, by kernel_rfl, by kernel_rfl, by kernel_rfl, ?_⟩⟩
  obtain ⟨a, h1, hk⟩ := bind_eq hk
  obtain ⟨r, h2, hk⟩ := bind_eq hk
  have e1 := unAlt_ok h1
  obtain ⟨l, ⟨⟩⟩ := a
  have e2 : (⟨[.mp 0], [some (.map 66 68 l)]⟩ : St tC.E) = ⟨args, h⟩ := e1
  injection e2 with e3 e4
  subst e3 e4
  have h2' : f36 (l, ()) = some r := h2
  unfold f36 at h2'
  obtain ⟨hle, h2'⟩ := cond_some h2'
  cases h2'
  have hl2 : vs.size = 1 := by simpa using hl.symm
  have hv2 : vs = #[vs.getD 0 undef] := by
    apply Array.ext
    · simpa using hl2
    · intro i h1 h2
      have : i = 0 := by simp at h2; omega
      subst this
      simp [Array.getD, h1]
  have r0 := hr 0 (by simp)
  simp only [List.getElem_cons_zero] at r0
  rw [hv2]
  exact list_run hle hk hh r0
end Go.AE
