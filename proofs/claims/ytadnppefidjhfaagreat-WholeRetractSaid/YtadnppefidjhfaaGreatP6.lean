/-
  What is measured, and how far the first wall is; the list of met cells has no cell twice.
-/
import Derived.Test.YtadnppefidjhfaaGreatP3
import Derived.Test.YtadnppefidjhfaaGreatFb
namespace Go.AE
open Go.RowKit
set_option maxRecDepth 100000
variable {p : Pl} {px py x y d : Int}

/-! ### No cell twice -/

theorem rowL_nodup (P : Pt → Prop) (y : Int) : ∀ (k : Nat) (x : Int), (rowL P y x k).Nodup
  | 0, x => by unfold rowL; exact List.nodup_nil
  | k + 1, x => by
    unfold rowL
    rw [List.nodup_append]
    refine ⟨?_, rowL_nodup P y k (x + 1), fun a ha b hb e => ?_⟩
    · split <;> simp
    · subst e
      have h2 := (rowL_mem (P := P) (y := y) (c := a) k (x + 1)).1 hb
      split at ha
      · rw [List.mem_singleton.1 ha] at h2
        have := h2.2.1
        simp only at this
        omega
      · cases ha
theorem gridL_nodup (P : Pt → Prop) (x0 : Int) (w : Nat) : ∀ (k : Nat) (y : Int), (gridL P x0 w y k).Nodup
  | 0, y => by unfold gridL; exact List.nodup_nil
  | k + 1, y => by
    unfold gridL
    rw [List.nodup_append]
    refine ⟨rowL_nodup P y w x0, gridL_nodup P x0 w k (y + 1), fun a ha b hb e => ?_⟩
    subst e
    have h1 := (rowL_mem (P := P) (y := y) (c := a) w x0).1 ha
    have h2 := (gridL_mem (P := P) (x0 := x0) (w := w) (c := a) k (y + 1)).1 hb
    have := h1.1
    have := h2.1.1
    omega
theorem trc_nodup (px py x y d lo hi : Int) : (trc px py x y d lo hi).Nodup := gridL_nodup _ _ _ _ _

/-- plan.Traced, its result owned. -/
theorem f33_spec {lo hi : Int} (h : Ray px py x y d) (hlo : 0 ≤ lo) (hlh : lo ≤ hi) (hhi : hi ≤ 2048) : ∃ (n : Nat) (ob : List Pt), f33 (px, py, x, y, d, lo, hi, ()) = some (n, 0, ob, ()) ∧ n ≤ ob.length ∧ ob.take n = trc px py x y d lo hi := by
  obtain ⟨n, ob, q1, q2, q3⟩ := f60_spec h hlo hlh hhi
  have s1 : f58 px py = true := (f58_spec ⟨px, py⟩).2 h.p
  have s2 : f59 x y d = true := (f59_spec x y d).2 h.v
  have c1 : ¬ lo < 0 := by omega
  have c2 : ¬ hi < lo := by omega
  have c3 : ¬ hi > 2048 := by omega
  refine ⟨n, ob, ?_, q2, q3⟩
  unfold f33
  simp only [s1, s2, Bool.not_true, cond_false, c1, c2, c3, decide_false, q1, Option.bind_some]

/-! ### Whether a list has a cell -/

theorem l61_0_spec (L : List Pt) (hl : L.length ≤ 1000000) (c : Pt) : ∀ (t i : Nat), L.length - i = t → i ≤ L.length → (c ∈ L.drop i → ∃ k : Nat, l61_0 (L, (L.length : Int), (i : Int), c.X, c.Y, ()) = some (.inl ((k : Int), ()))) ∧ (c ∉ L.drop i → l61_0 (L, (L.length : Int), (i : Int), c.X, c.Y, ()) = some (.inr ()))
  | t, i, ht, hi => by
    unfold l61_0
    rw [iterO_eq]
    by_cases e : i = L.length
    · have c1 : ¬ ((i : Int) < (L.length : Int)) := by omega
      have hd : L.drop i = [] := List.drop_eq_nil_of_le (by omega)
      rw [hd]
      unfold r61_0
      simp only [c1, decide_false, cond_false]
      exact ⟨fun h => (by cases h), fun _ => (by first | trivial | rfl)⟩
    · have hlt : i < L.length := by omega
      have c1 : ((i : Int) < (L.length : Int)) := by omega
      have hdrop : L.drop i = L[i] :: L.drop (i + 1) := List.drop_eq_getElem_cons hlt
      have hc : L[i]? = some L[i] := List.getElem?_eq_getElem hlt
      have w1 : IntKind.i64.wrap ((i : Int) + 1) = ((i + 1 : Nat) : Int) := by rw [w64 (by omega) (by omega)]; rfl
      match t, ht with
      | 0, ht => omega
      | t + 1, ht =>
        have ih := l61_0_spec L hl c t (i + 1) (by omega) (by omega)
        by_cases hx : c = L[i]
        · have hstep : r61_0 (L, (L.length : Int), (i : Int), c.X, c.Y, ()) = some (.inr (.inl ((i : Int), ()))) := by
            unfold r61_0
            simp only [c1, decide_true, cond_true, idxO_nat, hc, Option.bind_some, ← hx, beq_self_eq_true]
          rw [hstep]
          exact ⟨fun _ => ⟨i, rfl⟩, fun h => (h (by rw [hdrop, hx]; exact List.mem_cons_self)).elim⟩
        · have hne : (bif c.X == L[i].X then (bif c.Y == L[i].Y then true else false) else false) = false := by
            cases e1 : (c.X == L[i].X) with
            | false => rfl
            | true => cases e2 : (c.Y == L[i].Y) with
              | false => rfl
              | true => exact (hx (by
                  have a1 := beq_iff_eq.1 e1
                  have a2 := beq_iff_eq.1 e2
                  generalize L[i] = q at a1 a2
                  cases c
                  cases q
                  simp only at a1 a2
                  rw [a1, a2])).elim
          have hstep : r61_0 (L, (L.length : Int), (i : Int), c.X, c.Y, ()) = some (.inl (L, (L.length : Int), ((i + 1 : Nat) : Int), c.X, c.Y, ())) := by
            unfold r61_0
            simp only [c1, decide_true, cond_true, idxO_nat, hc, Option.bind_some, hne, cond_false, w1]
          rw [hstep]
          refine ⟨fun h => ih.1 ?_, fun h => ih.2 ?_⟩
          · rw [hdrop] at h
            rcases List.mem_cons.1 h with h | h
            · exact (hx h).elim
            · exact h
          · intro h'
            exact h (by rw [hdrop]; exact List.mem_cons_of_mem _ h')

/-- slices.Contains. -/
theorem f34_spec (L : List Pt) (hl : L.length ≤ 1000000) (c : Pt) : f34 (L, c.X, c.Y, ()) = some (decide (c ∈ L), ()) := by
  have h := l61_0_spec L hl c L.length 0 (by omega) (by omega)
  rw [List.drop_zero] at h
  unfold f34 f61
  by_cases hc : c ∈ L
  · obtain ⟨k, hk⟩ := h.1 hc
    have hk' : l61_0 (L, (L.length : Int), 0, c.X, c.Y, ()) = some (.inl ((k : Int), ())) := hk
    simp only [hk', Option.bind_some, Sum.elim_inl, hc, decide_true]
    have : (k : Int) ≥ 0 := by omega
    simp only [this, decide_true]
  · have hk : l61_0 (L, (L.length : Int), 0, c.X, c.Y, ()) = some (.inr ()) := h.2 hc
    simp only [hk, Option.bind_some, Sum.elim_inr, hc, decide_false]
    rfl
end Go.AE

/-
  evidence.Of for one beam with a reading: the cells that it meets, each once, in order.
-/
namespace Go.AE
open Go.RowKit
set_option maxRecDepth 100000

/-- Whether two cells are one. -/
noncomputable def K51 : Pt → Pt → Bool := keyB tC 66
theorem key51 (a b : Pt) : K51 a b = (bif a.X == b.X then (bif a.Y == b.Y then true else false) else false) := by kernel_rfl
theorem f35_eq (x y a b : Int) (t : List (Pt × En)) : f35 x y a b t = mput K51 t ⟨x, y⟩ ⟨x, y, IntKind.i64.wrap (((mget K51 t ⟨x, y⟩).getD ⟨0, 0, 0, 0⟩).A + a), IntKind.i64.wrap (((mget K51 t ⟨x, y⟩).getD ⟨0, 0, 0, 0⟩).B + b)⟩ := rfl
theorem key51_ne {a b : Pt} (h : a ≠ b) : K51 a b = false := by
  rw [key51]
  cases e1 : (a.X == b.X) with
  | false => rfl
  | true => cases e2 : (a.Y == b.Y) with
    | false => rfl
    | true => exact (h (by
        have a1 := beq_iff_eq.1 e1
        have a2 := beq_iff_eq.1 e2
        cases a
        cases b
        simp only at a1 a2
        rw [a1, a2])).elim

theorem mput_new {κ ν : Type} {eq : κ → κ → Bool} {k : κ} {v : ν} : ∀ {t : List (κ × ν)}, (∀ p ∈ t, eq k p.1 = false) → mget eq t k = none ∧ mput eq t k v = t ++ [(k, v)]
  | [], _ => ⟨rfl, rfl⟩
  | p :: t, h => by
    have h1 := h p List.mem_cons_self
    have ih := mput_new (v := v) (t := t) (fun q hq => h q (List.mem_cons_of_mem _ hq))
    unfold mget mput
    rw [h1, cond_false, cond_false, ih.1, ih.2]
    exact ⟨rfl, rfl⟩

/-- What a cell of a beam counts: a hit at the end, else a pass. -/
def enOf (E : List Pt) (c : Pt) : En := if c ∈ E then ⟨c.X, c.Y, 1, 0⟩ else ⟨c.X, c.Y, 0, 1⟩
def tlOf (E L : List Pt) : List (Pt × En) := L.map fun c => (c, enOf E c)

theorem f35_new {E L : List Pt} {c : Pt} (hc : c ∉ L) : (bif decide (c ∈ E) then f35 c.X c.Y 1 0 (tlOf E L) else f35 c.X c.Y 0 1 (tlOf E L)) = tlOf E (L ++ [c]) := by
  have h : ∀ v : En, mget K51 (tlOf E L) c = none ∧ mput K51 (tlOf E L) c v = tlOf E L ++ [(c, v)] := fun v => mput_new (fun q hq => by
    obtain ⟨e, he, rfl⟩ := List.mem_map.1 hq
    exact key51_ne (fun h => hc (by rw [h]; exact he)))
  have e : (Pt.mk c.X c.Y) = c := rfl
  have w1 : IntKind.i64.wrap (0 + 1) = 1 := by decide
  have w0 : IntKind.i64.wrap (0 + 0) = 0 := by decide
  have e1 : ∀ a b, f35 c.X c.Y a b (tlOf E L) = tlOf E L ++ [(c, ⟨c.X, c.Y, IntKind.i64.wrap (0 + a), IntKind.i64.wrap (0 + b)⟩)] := fun a b => by
    rw [f35_eq, e, (h default).1, (h _).2]
    rfl
  rw [e1, e1]
  simp only [w1, w0]
  unfold tlOf enOf
  rw [List.map_append]
  by_cases hE : c ∈ E
  · simp only [hE, decide_true, cond_true, List.map_cons, List.map_nil, if_true]
  · simp only [hE, decide_false, cond_false, List.map_cons, List.map_nil, if_false]

theorem l19_6_spec {n m : Nat} {oe om E L : List Pt} (h1 : n ≤ oe.length) (h2 : oe.take n = E) (h3 : m ≤ om.length) (h4 : om.take m = L) (hE : E.length ≤ 1000000) (hL : L.Nodup) (hm : m ≤ 1000000) (bs : List Bm) (a2 a3 a7 a8 a9 a11 a12 : Int) : ∀ (t i : Nat), m - i = t → i ≤ m →
    l19_6 (n, bs, a2, a3, m, (m : Int), (i : Int), a7, a8, a9, tlOf E (L.take i), a11, a12, oe, om, ()) = some (bs, a2, a3, a7, a8, a9, tlOf E L, a11, a12, ())
  | t, i, ht, hi => by
    have hLm : L.length = m := by rw [← h4, List.length_take]; omega
    unfold l19_6
    rw [iterO_eq]
    by_cases e : i = m
    · have c1 : ¬ ((i : Int) < (m : Int)) := by omega
      have hd : L.take i = L := List.take_of_length_le (by omega)
      rw [hd]
      unfold r19_6
      simp only [c1, decide_false, cond_false]
    · have hlt : i < m := by omega
      have c1 : ((i : Int) < (m : Int)) := by omega
      have c0 : (0 : Int) ≤ (i : Int) := by omega
      have hlt2 : i < L.length := by omega
      have hget : om[0 + (i : Int).toNat]? = some L[i] := by
        rw [Int.toNat_natCast, Nat.zero_add, ← List.getElem?_eq_getElem hlt2, ← h4, List.getElem?_take_of_lt hlt]
      have w1 : IntKind.i64.wrap ((i : Int) + 1) = ((i + 1 : Nat) : Int) := by rw [w64 (by omega) (by omega)]; rfl
      have hno : L[i] ∉ L.take i := by
        intro hx
        obtain ⟨j, hj, he⟩ := List.getElem_of_mem hx
        rw [List.length_take] at hj
        rw [List.getElem_take] at he
        exact (List.pairwise_iff_getElem.1 hL j i (by omega) hlt2 (by omega)) he
      have htk : L.take (i + 1) = L.take i ++ [L[i]] := by rw [List.take_add_one, List.getElem?_eq_getElem hlt2]; rfl
      have hf := f35_new (E := E) hno
      have hz : 0 + n ≤ oe.length := by omega
      have hc := f34_spec E hE L[i]
      match t, ht with
      | 0, ht => omega
      | t + 1, ht =>
        have ih := l19_6_spec h1 h2 h3 h4 hE hL hm bs a2 a3 a7 a8 a9 a11 a12 t (i + 1) (by omega) (by omega)
        have hstep : r19_6 (n, bs, a2, a3, m, (m : Int), (i : Int), a7, a8, a9, tlOf E (L.take i), a11, a12, oe, om, ()) = some (.inl (n, bs, a2, a3, m, (m : Int), ((i + 1 : Nat) : Int), a7, a8, a9, tlOf E (L.take (i + 1)), a11, a12, oe, om, ())) := by
          rw [htk, ← hf]
          unfold r19_6
          simp only [c1, c0, decide_true, cond_true, Bool.and_true, hget, Option.bind_some, hz, List.drop_zero, h2, hc, j19_64, w1]
          cases decide (L[i] ∈ E) <;> rfl
        rw [hstep]
        exact ih

/-- The scan of one beam is valid. -/
theorem f31_one {b : Bm} (hm : 0 ≤ b.M ∧ b.M ≤ 255) (hr : -1 ≤ b.R ∧ b.R ≤ 1024) : f31 ([b], ()) = some (true, ()) := by
  have hb : f55 b.M b.R = false := by
    unfold f55
    have c1 : ¬ b.M < 0 := by omega
    have c2 : ¬ b.M ≥ 256 := by omega
    have c3 : ¬ b.R < -1 := by omega
    have c4 : ¬ b.R > 1024 := by omega
    simp only [c1, c2, c3, c4, decide_false, cond_false]
  have w1 : IntKind.i64.wrap (0 + 1) = 1 := by decide
  have s1 : r70_0 ([b], 1, 0, ()) = some (.inl ([b], 1, 1, ())) := by
    unfold r70_0
    have c : (0 : Int) < 1 := by omega
    have e : idxO [b] (0 : Int) = some b := rfl
    simp only [c, decide_true, cond_true, e, Option.bind_some, hb, cond_false, w1]
  have s2 : r70_0 ([b], 1, 1, ()) = some (.inr (.inr ())) := by
    unfold r70_0
    have c : ¬ (1 : Int) < 1 := by omega
    simp only [c, decide_false, cond_false]
  have s3 : l70_0 ([b], 1, 0, ()) = some (.inr ()) := by
    unfold l70_0
    rw [iterO_eq, s1]
    show iterO r70_0 ([b], 1, 1, ()) = _
    rw [iterO_eq, s2]
  unfold f31 f44 f70
  have e1 : (([b].length : Nat) : Int) = 1 := rfl
  have c : (1 : Int) ≤ 32 := by omega
  have c2 : ¬ ((-1 : Int) ≥ 0) := by omega
  simp only [e1, c, decide_true, cond_true, s3, Option.bind_some, Sum.elim_inr, c2, decide_false, Bool.not_false]

theorem enOf_X (E : List Pt) (c : Pt) : (enOf E c).X = c.X ∧ (enOf E c).Y = c.Y := by
  unfold enOf
  split <;> exact ⟨rfl, rfl⟩

theorem okTl_of {E L : List Pt} (hl : L.length ≤ 1000000) (hL : L.Nodup) : okTl (tlOf E L) = true := by
  unfold okTl tlOf
  simp only [Bool.and_eq_true, decide_eq_true_eq, List.length_map]
  refine ⟨hl, ?_⟩
  unfold apartE
  simp only [decide_eq_true_eq, List.map_map]
  rw [List.pairwise_map]
  refine List.Pairwise.imp (fun {a b} h => ?_) hL
  simp only [Function.comp]
  rw [(enOf_X E a).1, (enOf_X E a).2, (enOf_X E b).1, (enOf_X E b).2]
  rintro ⟨e1, e2⟩
  exact h (by cases a; cases b; simp only at e1 e2; rw [e1, e2])

theorem listE_of (E L : List Pt) : listE (tlOf E L) = sortE (L.map (enOf E)) := by
  have e : (tlOf E L).map (·.2) = L.map (enOf E) := by unfold tlOf; rw [List.map_map]; rfl
  unfold listE
  rw [e, List.filter_eq_self.2 (fun x hx => ?_)]
  obtain ⟨c, _, rfl⟩ := List.mem_map.1 hx
  unfold nzE enOf f65
  by_cases h : c ∈ E <;> simp [h]

theorem f30_ok {n m : Int} (h0 : 0 ≤ m ∧ m ≤ 1099511627776) (h : -m ≤ n ∧ n ≤ m) : f30 n m = true := by
  unfold f30
  have w1 : IntKind.i64.wrap (0 - m) = -m := by rw [w64 (by omega) (by omega)]; omega
  have c1 : n ≥ -m := by omega
  simp only [w1, c1, decide_true, cond_true, h.2]

/-- evidence.Of for one beam with a reading. -/
theorem f19_one {px py hd x y d : Int} {b : Bm} (hp : (-262144 ≤ px ∧ px ≤ 262144) ∧ -262144 ≤ py ∧ py ≤ 262144) (hh : 0 ≤ hd ∧ hd ≤ 255) (hm : 0 ≤ b.M ∧ b.M ≤ 255) (hr : 0 ≤ b.R ∧ b.R ≤ 1024) (sb : f32 (hd, b.M, ()) = some (x, y, d, ())) (hv : VV x y d) :
    f19 (px, py, hd, [b], ()) = some ((trc px py x y d 0 b.R).length, 0, sortE ((trc px py x y d 0 b.R).map (enOf (trc px py x y d b.R b.R))), ()) := by
  have hray : Ray px py x y d := ⟨by unfold nearP; simp only; omega, hv⟩
  obtain ⟨n, oe, e1, e2, e3⟩ := f33_spec hray (lo := b.R) (hi := b.R) (by omega) (by omega) (by omega)
  obtain ⟨m, om, m1, m2, m3⟩ := f33_spec hray (lo := 0) (hi := b.R) (by omega) (by omega) (by omega)
  have hEl := trc_len hray (lo := b.R) (hi := b.R) (by omega) (by omega) (by omega)
  have hLl := trc_len hray (lo := 0) (hi := b.R) (by omega) (by omega) (by omega)
  have hnd := trc_nodup px py x y d 0 b.R
  have hmL : (trc px py x y d 0 b.R).length = m := by rw [← m3, List.length_take]; omega
  generalize trc px py x y d b.R b.R = E at *
  generalize trc px py x y d 0 b.R = L at *
  have hok := okTl_of (E := E) (L := L) (by omega) hnd
  have s6 := l19_6_spec e2 e3 m2 m3 (by omega) hnd (by omega) [b] 1 0 px py hd px py m 0 (by omega) (by omega)
  have s6' : l19_6 (n, [b], 1, 0, m, (m : Int), 0, px, py, hd, [], px, py, oe, om, ()) = some ([b], 1, 0, px, py, hd, tlOf E L, px, py, ()) := s6
  have w1 : IntKind.i64.wrap (0 + 1) = 1 := by decide
  have t1 : r19_0 ([b], 1, 0, px, py, hd, [], px, py, ()) = some (.inl ([b], 1, 1, px, py, hd, tlOf E L, px, py, ())) := by
    unfold r19_0
    have c : (0 : Int) < 1 := by omega
    have e : idxO [b] (0 : Int) = some b := rfl
    have c2 : ¬ b.R < 0 := by omega
    simp only [c, decide_true, cond_true, e, Option.bind_some, sb, c2, decide_false, cond_false, e1, j19_43, m1, s6', j19_67, w1]
  have t2 : r19_0 ([b], 1, 1, px, py, hd, tlOf E L, px, py, ()) = some (.inr (tlOf E L, ())) := by
    unfold r19_0
    have c : ¬ (1 : Int) < 1 := by omega
    simp only [c, decide_false, cond_false]
  have t3 : l19_0 ([b], 1, 0, px, py, hd, [], px, py, ()) = some (tlOf E L, ()) := by
    unfold l19_0
    rw [iterO_eq, t1]
    show iterO r19_0 ([b], 1, 1, px, py, hd, tlOf E L, px, py, ()) = _
    rw [iterO_eq, t2]
  have e1' : (([b].length : Nat) : Int) = 1 := rfl
  have hl2 : (tlOf E L).length = L.length := by unfold tlOf; rw [List.length_map]
  have c1 : ¬ hd < 0 := by omega
  have c2 : ¬ hd ≥ 256 := by omega
  unfold f19
  simp only [f30_ok (n := px) (m := 262144) (by omega) hp.1, f30_ok (n := py) (m := 262144) (by omega) hp.2, Bool.not_true, cond_false, c1, c2, decide_false, f31_one hm (by omega), Option.bind_some, e1', t3]
  have hlen : (sortE (L.map (enOf E))).length = L.length := by unfold sortE; rw [List.length_mergeSort, List.length_map]
  unfold f36
  simp only [hok, cond_true, Option.bind_some, listE_of, hl2, hlen, Nat.sub_self, List.replicate_zero, List.append_nil]
end Go.AE

/-
  evidence.At and evidence.Valid at a list in strict order.
-/
namespace Go.AE
open Go.RowKit
set_option maxRecDepth 100000

def ordP (a c : Pt) : Int := if a.Y < c.Y then -1 else if c.Y < a.Y then 1 else if a.X < c.X then -1 else if c.X < a.X then 1 else 0
def ord1 (a b : Int) : Int := if a < b then -1 else if b < a then 1 else 0

theorem f39_spec (a b : Int) : f39 a b = ord1 a b := by
  unfold f39 f68 ord1
  simp only [bne_self_eq_false, cond_false]
  by_cases h1 : a < b
  · simp only [h1, decide_true, cond_true, if_true]
  · by_cases h2 : b < a
    · have : a > b := h2
      simp only [h1, decide_false, cond_false, if_false, this, decide_true, cond_true, if_true]
    · have : ¬ a > b := h2
      simp only [h1, decide_false, cond_false, if_false, this]

theorem f38_two (a b : Int) : f38 ([a, b], ()) = some (if a ≠ 0 then a else b, ()) := by
  have w1 : IntKind.i64.wrap (0 + 1) = 1 := by decide
  have w2 : IntKind.i64.wrap (1 + 1) = 2 := by decide
  have e0 : idxO [a, b] (0 : Int) = some a := rfl
  have e1 : idxO [a, b] (1 : Int) = some b := rfl
  have c0 : (0 : Int) < 2 := by omega
  have c1 : (1 : Int) < 2 := by omega
  have c2 : ¬ (2 : Int) < 2 := by omega
  have el : (([a, b].length : Nat) : Int) = 2 := rfl
  have key : ∃ y, l38_0 (0, [a, b], 2, 0, ()) = some y ∧ Sum.elim (fun y13 : Int × Unit => some (y13.1, ())) (fun y14 : Int × Unit => some (y14.1, ())) y = some (if a ≠ 0 then a else b, ()) := by
    unfold l38_0
    by_cases ha : a = 0
    · subst ha
      have s0 : r38_0 (0, [0, b], 2, 0, ()) = some (.inl (0, [0, b], 2, 1, ())) := by
        unfold r38_0
        simp only [c0, decide_true, cond_true, e0, Option.bind_some, bne_self_eq_false, cond_false, w1]
      rw [iterO_eq, s0]
      show ∃ y, iterO r38_0 (0, [0, b], 2, 1, ()) = some y ∧ _
      by_cases hb : b = 0
      · subst hb
        have s1 : r38_0 (0, [0, 0], 2, 1, ()) = some (.inl (0, [0, 0], 2, 2, ())) := by
          unfold r38_0
          simp only [c1, decide_true, cond_true, e1, Option.bind_some, bne_self_eq_false, cond_false, w2]
        have s2 : r38_0 (0, [0, 0], 2, 2, ()) = some (.inr (.inr (0, ()))) := by
          unfold r38_0
          simp only [c2, decide_false, cond_false]
        rw [iterO_eq, s1]
        show ∃ y, iterO r38_0 (0, [0, 0], 2, 2, ()) = some y ∧ _
        rw [iterO_eq, s2]
        exact ⟨_, rfl, by simp⟩
      · have hb' : (b != 0) = true := by simpa using hb
        have s1 : r38_0 (0, [0, b], 2, 1, ()) = some (.inr (.inl (b, ()))) := by
          unfold r38_0
          simp only [c1, decide_true, cond_true, e1, Option.bind_some, hb']
        rw [iterO_eq, s1]
        exact ⟨_, rfl, by simp⟩
    · have ha' : (a != 0) = true := by simpa using ha
      have s0 : r38_0 (0, [a, b], 2, 0, ()) = some (.inr (.inl (a, ()))) := by
        unfold r38_0
        simp only [c0, decide_true, cond_true, e0, Option.bind_some, ha']
      rw [iterO_eq, s0]
      exact ⟨_, rfl, by simp [ha]⟩
  obtain ⟨y, k1, k2⟩ := key
  unfold f38
  simp only [el, k1, Option.bind_some]
  exact k2

theorem f49_spec (a c : Pt) : f49 (a.X, a.Y, c.X, c.Y, ()) = some (ordP a c, ()) := by
  unfold f49
  simp only [f39_spec, f38_two, Option.bind_some]
  unfold ordP ord1
  by_cases h1 : a.Y < c.Y
  · simp [h1]
  · by_cases h2 : c.Y < a.Y <;> simp [h1, h2]

theorem ordP_neg {a c : Pt} : ordP a c < 0 ↔ a.Y < c.Y ∨ a.Y = c.Y ∧ a.X < c.X := by
  unfold ordP
  repeat' split
  all_goals omega
theorem ordP_zero (a : Pt) : ordP a a = 0 := by unfold ordP; simp

/-- Strictly in order. -/
def ltE (a b : En) : Prop := a.Y < b.Y ∨ a.Y = b.Y ∧ a.X < b.X
def goodE (e : En) : Prop := (-1000000000000 ≤ e.A ∧ e.A ≤ 1000000000000) ∧ (-1000000000000 ≤ e.B ∧ e.B ≤ 1000000000000) ∧ (e.A ≠ 0 ∨ e.B ≠ 0) ∧ (-16384 ≤ e.X ∧ e.X ≤ 16384) ∧ -16384 ≤ e.Y ∧ e.Y ≤ 16384

theorem f48_spec {e : En} (h : goodE e) : f48 e.X e.Y e.A e.B = true := by
  obtain ⟨h1, h2, h3, h4, h5⟩ := h
  unfold f48 f43
  rw [f30_ok (by omega) (by omega), f30_ok (by omega) (by omega), f30_ok (by omega) h4, f30_ok (by omega) h5]
  by_cases ha : e.A = 0
  · have hb : (e.B != 0) = true := by
      have : e.B ≠ 0 := by omega
      simpa using this
    have ha' : (e.A != 0) = false := by simp [ha]
    simp only [ha', hb, cond_true, cond_false]
  · have ha' : (e.A != 0) = true := by simpa using ha
    simp only [ha', cond_true]

section
variable {M : List En}

theorem l28_0_spec (hl : M.length ≤ 1000000) (hs : M.Pairwise ltE) (hg : ∀ e ∈ M, goodE e) : ∀ (t i : Nat), M.length - i = t → i ≤ M.length → l28_0 (M, M, (M.length : Int), (i : Int), ()) = some (.inr (M, ()))
  | t, i, ht, hi => by
    unfold l28_0
    rw [iterO_eq]
    by_cases e : i = M.length
    · have c1 : ¬ ((i : Int) < (M.length : Int)) := by omega
      unfold r28_0
      simp only [c1, decide_false, cond_false]
    · have hlt : i < M.length := by omega
      have c1 : ((i : Int) < (M.length : Int)) := by omega
      have hc : M[i]? = some M[i] := List.getElem?_eq_getElem hlt
      have w1 : IntKind.i64.wrap ((i : Int) + 1) = ((i + 1 : Nat) : Int) := by rw [w64 (by omega) (by omega)]; rfl
      have hgd := f48_spec (hg M[i] (List.getElem_mem hlt))
      match t, ht with
      | 0, ht => omega
      | t + 1, ht =>
        have ih := l28_0_spec hl hs hg t (i + 1) (by omega) (by omega)
        have hstep : r28_0 (M, M, (M.length : Int), (i : Int), ()) = some (.inl (M, M, (M.length : Int), ((i + 1 : Nat) : Int), ())) := by
          unfold r28_0
          by_cases h0 : 0 < i
          · have c2 : (i : Int) > 0 := by omega
            have w2 : IntKind.i64.wrap ((i : Int) - 1) = ((i - 1 : Nat) : Int) := by rw [w64 (by omega) (by omega)]; omega
            have hp : M[i - 1]? = some M[i - 1] := List.getElem?_eq_getElem (by omega)
            have ho : ltE M[i - 1] M[i] := List.pairwise_iff_getElem.1 hs (i - 1) i (by omega) hlt (by omega)
            have hf := f49_spec ⟨M[i - 1].X, M[i - 1].Y⟩ ⟨M[i].X, M[i].Y⟩
            have hn : ¬ ordP ⟨M[i - 1].X, M[i - 1].Y⟩ ⟨M[i].X, M[i].Y⟩ ≥ 0 := by
              have := (ordP_neg (a := ⟨M[i - 1].X, M[i - 1].Y⟩) (c := ⟨M[i].X, M[i].Y⟩)).2 ho
              omega
            simp only at hf
            simp only [c1, decide_true, cond_true, idxO_nat, hc, Option.bind_some, hgd, Bool.not_true, cond_false, c2, w2, hp, hf, hn, decide_false, j28_19, w1]
          · have c2 : ¬ (i : Int) > 0 := by omega
            simp only [c1, decide_true, cond_true, idxO_nat, hc, Option.bind_some, hgd, Bool.not_true, cond_false, c2, decide_false, j28_19, w1]
        rw [hstep]
        exact ih

theorem f28_spec (hl : M.length ≤ 1000000) (hs : M.Pairwise ltE) (hg : ∀ e ∈ M, goodE e) : f28 (M, ()) = some (true, ()) := by
  have h := l28_0_spec hl hs hg M.length 0 (by omega) (by omega)
  have h' : l28_0 (M, M, (M.length : Int), 0, ()) = some (.inr (M, ())) := h
  have c : (M.length : Int) ≤ 1048576 := by omega
  unfold f28
  simp only [h', Option.bind_some, Sum.elim_inr, c, decide_true]

theorem half {lo hi : Nat} (h1 : hi ≤ 1000000) (h2 : lo < hi) : IntKind.i64.wrap ((IntKind.u64.wrap (IntKind.i64.wrap ((lo : Int) + (hi : Int)))).fdiv 2) = (((lo + hi) / 2 : Nat) : Int) := by
  have e1 : IntKind.i64.wrap ((lo : Int) + (hi : Int)) = (lo : Int) + (hi : Int) := w64 (by omega) (by omega)
  have e2 : IntKind.u64.wrap ((lo : Int) + (hi : Int)) = (lo : Int) + (hi : Int) := u64w (by omega) (by omega)
  rw [e1, e2, Int.fdiv_eq_ediv_of_nonneg _ (by omega), w64 (by omega) (by omega)]
  omega

end
end Go.AE
