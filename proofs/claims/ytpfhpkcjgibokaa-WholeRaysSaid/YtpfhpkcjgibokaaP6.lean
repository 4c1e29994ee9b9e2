/-
  What is measured, and how far the first wall is; the list of met cells has no cell twice.
-/
import Derived.Test.YtpfhpkcjgibokaaP3
import Derived.Test.YtpfhpkcjgibokaaFc
namespace Go.AE
open Go.RowKit
set_option maxRecDepth 100000
variable {p : Pl} {px py x y d : Int}

/-- What is measured is a reading, and plausible. -/
theorem measure_more (hp : p.Ok) (hin : inRp p ⟨px, py⟩) {hd mark rng err : Int} (sb : f11 (hd, mark, ()) = some (x, y, d, ())) (hv : VV x y d) (hh : 0 ≤ hd ∧ hd ≤ 255) (hm : 0 ≤ mark ∧ mark ≤ 255) (hr : 1 ≤ rng ∧ rng ≤ 32) :
    ∃ z, f9 (p.W, p.H, p.C, px, py, hd, mark, rng, err, ()) = some (z, 0, ()) ∧ (-1 ≤ z ∧ z ≤ 1024) ∧ f10 (p.W, p.H, p.C, px, py, hd, mark, z, rng, ()) = some (true, ()) ∧
      ((z = -1 ∧ ∀ c, p.val c = 2 → ¬ Met px py x y d 0 (1024 - rng) c) ∨ ∃ (q : Rat) (w : Pt) (m e : Int), fst p px py x y d 1024 = some (q, w) ∧ (m : Rat) ≤ q ∧ q < ((m + 1 : Int) : Rat) ∧ 0 ≤ z ∧ e = min (max err (1 - rng)) rng ∧ z = max 0 (m + e)) := by
  have st : f19 (p.W, p.H, p.C, px, py, hd, ()) = some (true, ()) := by rw [f19_spec hp, decide_eq_true ⟨hin, hh⟩]
  have e1 : f20 rng 1 32 = true := by unfold f20; simp; omega
  have e2 : f20 mark 0 255 = true := by unfold f20; simp; omega
  have L : ∀ most, 0 ≤ most → most ≤ 1100 → f21 (p.W, p.H, p.C, px, py, hd, mark, most, ()) = some ((encB (fst p px py x y d most)).2.1, (encB (fst p px py x y d most)).2.2.1, (encB (fst p px py x y d most)).1, ()) := fun most h0 h1 => f21_spec hp hin sb hv h0 h1
  have l1 := L 1024 (by omega) (by omega)
  have w0 : IntKind.i64.wrap (1024 - rng) = 1024 - rng := w64 (by omega) (by omega)
  have l0 := L (1024 - rng) (by omega) (by omega)
  -- no echo is plausible where no wall is nearer
  have echo : (∀ c, p.val c = 2 → ¬ Met px py x y d 0 (1024 - rng) c) → f10 (p.W, p.H, p.C, px, py, hd, mark, -1, rng, ()) = some (true, ()) := fun hno => by
    have hn := (fst_none (most := 1024 - rng) (by omega)).2 hno
    rw [hn] at l0
    have e3 : f22 mark (-1) = true := by unfold f22; rw [e2]; rfl
    unfold f10
    simp only [st, Option.bind_some, Bool.not_true, cond_false, e3, e1, beq_self_eq_true, cond_true, w0, l0, encB, Bool.not_false]
  have mono : ∀ c, Met px py x y d 0 (1024 - rng) c → Met px py x y d 0 1024 c := fun c hc => by
    rw [met_iff] at hc ⊢
    exact ⟨hc.1, Rat.le_trans hc.2 (rat_le.2 (by omega))⟩
  cases hf : fst p px py x y d 1024 with
  | none =>
    rw [hf] at l1
    have hno := (fst_none (most := 1024) (by omega)).1 hf
    refine ⟨-1, ?_, by omega, echo fun c hc hmt => hno c hc (mono c hmt), .inl ⟨rfl, fun c hc hmt => hno c hc (mono c hmt)⟩⟩
    unfold f9
    simp only [st, Option.bind_some, Bool.not_true, cond_false, e1, e2, l1, encB, Bool.not_false, cond_true]
  | some qw =>
    obtain ⟨q, w⟩ := qw
    rw [hf] at l1
    obtain ⟨⟨k1, k2, k3⟩, k4⟩ := fst_some (most := 1024) (by omega) hf
    obtain ⟨⟨n1, n2, n3⟩, n4⟩ := dist_num k1
    rw [← k3] at n1 n2 n3 n4
    have hq0 : (q.den : Int) ≠ 0 := by omega
    have hqb : ((q.den : Int) == 0) = false := by simpa using hq0
    -- the whole part
    obtain ⟨m, hmq⟩ : ∃ m, q.num / (q.den : Int) = m := ⟨_, rfl⟩
    have ht : q.num.tdiv (q.den : Int) = m := by rw [Int.tdiv_eq_ediv_of_nonneg n1, hmq]
    have hdm := Int.mul_ediv_add_emod q.num (q.den : Int)
    have hm0 := Int.emod_nonneg q.num hq0
    have hm1 := Int.emod_lt_of_pos q.num (show 0 < (q.den : Int) by omega)
    rw [hmq] at hdm
    have m0 : 0 ≤ m := by rw [← hmq]; exact Int.ediv_nonneg n1 (by omega)
    have m1 : m ≤ 1024 := by rw [← hmq]; exact Int.ediv_le_of_le_mul (by omega) n4
    have mle : (m : Rat) ≤ q := by
      rw [← le_num]
      rw [Int.mul_comm]
      omega
    have qlt : q < ((m + 1 : Int) : Rat) := by
      rw [← num_lt, Int.add_mul, Int.one_mul, Int.mul_comm m]
      omega
    have w1 : IntKind.i64.wrap (1 - rng) = 1 - rng := w64 (by omega) (by omega)
    obtain ⟨e, he⟩ : ∃ e, (bif decide (rng < bif decide (1 - rng > err) then 1 - rng else err) then rng else bif decide (1 - rng > err) then 1 - rng else err) = e := ⟨_, rfl⟩
    have eb : 1 - rng ≤ e ∧ e ≤ rng := by
      rw [← he]
      by_cases c1 : 1 - rng > err
      · have c2 : ¬ rng < 1 - rng := by omega
        simp only [c1, decide_true, cond_true, c2, decide_false, cond_false]
        omega
      · by_cases c2 : rng < err
        · simp only [c1, decide_false, cond_false, c2, decide_true, cond_true]
          omega
        · simp only [c1, decide_false, cond_false, c2]
          omega
    have w2 : IntKind.i64.wrap m = m := w64 (by omega) (by omega)
    have w3 : IntKind.i64.wrap (m + e) = m + e := w64 (by omega) (by omega)
    obtain ⟨z, hz⟩ : ∃ z, (bif decide (0 > m + e) then 0 else m + e) = z := ⟨_, rfl⟩
    have zb : (m + e < 0 ∧ z = 0) ∨ (0 ≤ m + e ∧ z = m + e) := by
      by_cases c : 0 > m + e
      · have hz' : z = 0 := by rw [← hz]; simp only [c, decide_true, cond_true]
        exact .inl ⟨by omega, hz'⟩
      · have hz' : z = m + e := by rw [← hz]; simp only [c, decide_false, cond_false]
        exact .inr ⟨by omega, hz'⟩
    by_cases hz1 : z > 1024
    · have hno2 : ∀ c, p.val c = 2 → ¬ Met px py x y d 0 (1024 - rng) c := fun c hc hmt => by
        have h1 := k4 c hc (mono c hmt)
        have h2 := (met_iff.1 hmt).2
        have h3 : (m : Rat) ≤ ((1024 - rng : Int) : Rat) := Rat.le_trans mle (Rat.le_trans h1 h2)
        have := rat_le.1 h3
        omega
      refine ⟨-1, ?_, by omega, echo hno2, .inl ⟨rfl, hno2⟩⟩
      unfold f9
      simp only [st, Option.bind_some, Bool.not_true, cond_false, e1, e2, l1, encB, hqb, ht, w1, he, w2, w3, hz, hz1, decide_true, cond_true, j9_34]
    · have eb2 : e = min (max err (1 - rng)) rng := by
        rw [← he]
        by_cases c1 : 1 - rng > err
        · have c2 : ¬ rng < 1 - rng := by omega
          simp only [c1, decide_true, cond_true, c2, decide_false, cond_false]
          omega
        · by_cases c2 : rng < err
          · simp only [c1, decide_false, cond_false, c2, decide_true, cond_true]
            omega
          · simp only [c1, decide_false, cond_false, c2]
            omega
      refine ⟨z, ?_, by omega, ?_, .inr ⟨q, w, m, e, rfl, mle, qlt, by omega, eb2, by omega⟩⟩
      · unfold f9
        simp only [st, Option.bind_some, Bool.not_true, cond_false, e1, e2, l1, encB, hqb, ht, w1, he, w2, w3, hz, hz1, decide_false, j9_34]
      · have w4 : IntKind.i64.wrap (z + rng) = z + rng := w64 (by omega) (by omega)
        have w5 : IntKind.i64.wrap (z - rng) = z - rng := w64 (by omega) (by omega)
        have l2 := L (z + rng) (by omega) (by omega)
        have hmz : Met px py x y d 0 (z + rng) w := by
          rw [met_iff]
          refine ⟨(met_iff.1 k1).1, ?_⟩
          rw [← k3]
          exact Rat.le_trans (Rat.le_of_lt qlt) (rat_le.2 (by omega))
        cases hf2 : fst p px py x y d (z + rng) with
        | none => exact ((fst_none (most := z + rng) (by omega)).1 hf2 w k2 hmz).elim
        | some qw2 =>
          obtain ⟨q2, w2'⟩ := qw2
          obtain ⟨⟨j1, j2, j3⟩, j4⟩ := fst_some (most := z + rng) (by omega) hf2
          obtain ⟨⟨i1, i2, i3⟩, i4⟩ := dist_num j1
          rw [← j3] at i1 i2 i3 i4
          have hge : q ≤ q2 := by
            by_cases hle : q2 ≤ ((1024 : Int) : Rat)
            · rw [j3]
              refine k4 w2' j2 (met_iff.2 ⟨(met_iff.1 j1).1, ?_⟩)
              rw [← j3]
              exact hle
            · have h1 : q ≤ ((1024 : Int) : Rat) := by rw [k3]; exact (met_iff.1 k1).2
              exact Rat.le_trans h1 (Rat.le_of_lt (Rat.not_le.1 hle))
          have hz2 : ((z - rng : Int) : Rat) ≤ q2 := Rat.le_trans (Rat.le_trans (rat_le.2 (show z - rng ≤ m by omega)) mle) hge
          have hnum : (z - rng) * (q2.den : Int) ≤ q2.num := le_num.2 hz2
          have mb := mulb (a := z - rng) (b := (q2.den : Int)) (A := 2048) (B := 67108864) (by omega) (by omega) (by omega) (by omega)
          have w6 : IntKind.i64.wrap ((z - rng) * (q2.den : Int)) = (z - rng) * (q2.den : Int) := w64 (by omega) (by omega)
          rw [hf2] at l2
          have e3 : f22 mark z = true := by unfold f22; rw [e2]; unfold f20; simp; omega
          have e4 : (z == -1) = false := by rw [beq_eq_false_iff_ne]; omega
          have e5 : q2.num ≥ (z - rng) * (q2.den : Int) := hnum
          unfold f10
          simp only [st, Option.bind_some, Bool.not_true, cond_false, e3, e1, e4, w4, w5, l2, encB, cond_true, w6, e5, decide_true]

/-! ### No cell twice -/

theorem rowL_nodup (P : Pt → Prop) (y : Int) : ∀ (k : Nat) (x : Int), (rowL P y x k).Nodup
  | 0, x => by unfold rowL; exact List.nodup_nil
  | k + 1, x => by
    unfold rowL
    rw [List.nodup_append]
    refine ⟨?_, rowL_nodup P y k (x + 1), fun a ha b hb e => ?_⟩
    · split <;> simp
    · subst e
      have h2 := (rowL_mem (P := P) (y := y) (c := a) k (x + 1)).1 hb
      split at ha
      · rw [List.mem_singleton.1 ha] at h2
        have := h2.2.1
        simp only at this
        omega
      · cases ha
theorem gridL_nodup (P : Pt → Prop) (x0 : Int) (w : Nat) : ∀ (k : Nat) (y : Int), (gridL P x0 w y k).Nodup
  | 0, y => by unfold gridL; exact List.nodup_nil
  | k + 1, y => by
    unfold gridL
    rw [List.nodup_append]
    refine ⟨rowL_nodup P y w x0, gridL_nodup P x0 w k (y + 1), fun a ha b hb e => ?_⟩
    subst e
    have h1 := (rowL_mem (P := P) (y := y) (c := a) w x0).1 ha
    have h2 := (gridL_mem (P := P) (x0 := x0) (w := w) (c := a) k (y + 1)).1 hb
    have := h1.1
    have := h2.1.1
    omega
theorem trc_nodup (px py x y d lo hi : Int) : (trc px py x y d lo hi).Nodup := gridL_nodup _ _ _ _ _

/-- plan.Traced, its result owned. -/
theorem f912_spec {lo hi : Int} (h : Ray px py x y d) (hlo : 0 ≤ lo) (hlh : lo ≤ hi) (hhi : hi ≤ 2048) : ∃ (n : Nat) (ob : List Pt), f912 (px, py, x, y, d, lo, hi, ()) = some (n, 0, ob, ()) ∧ n ≤ ob.length ∧ ob.take n = trc px py x y d lo hi := by
  obtain ⟨n, ob, q1, q2, q3⟩ := f27_spec h hlo hlh hhi
  have s1 : f25 px py = true := (f25_spec ⟨px, py⟩).2 h.p
  have s2 : f26 x y d = true := (f26_spec x y d).2 h.v
  have c1 : ¬ lo < 0 := by omega
  have c2 : ¬ hi < lo := by omega
  have c3 : ¬ hi > 2048 := by omega
  refine ⟨n, ob, ?_, q2, q3⟩
  unfold f912
  simp only [s1, s2, Bool.not_true, cond_false, c1, c2, c3, decide_false, q1, Option.bind_some]

/-! ### Whether a list has a cell -/

theorem l57_0_spec (L : List Pt) (hl : L.length ≤ 1000000) (c : Pt) : ∀ (t i : Nat), L.length - i = t → i ≤ L.length → (c ∈ L.drop i → ∃ k : Nat, l57_0 (L, (L.length : Int), (i : Int), c.X, c.Y, ()) = some (.inl ((k : Int), ()))) ∧ (c ∉ L.drop i → l57_0 (L, (L.length : Int), (i : Int), c.X, c.Y, ()) = some (.inr ()))
  | t, i, ht, hi => by
    unfold l57_0
    rw [iterO_eq]
    by_cases e : i = L.length
    · have c1 : ¬ ((i : Int) < (L.length : Int)) := by omega
      have hd : L.drop i = [] := List.drop_eq_nil_of_le (by omega)
      rw [hd]
      unfold r57_0
      simp only [c1, decide_false, cond_false]
      exact ⟨fun h => (by cases h), fun _ => (by first | trivial | rfl)⟩
    · have hlt : i < L.length := by omega
      have c1 : ((i : Int) < (L.length : Int)) := by omega
      have hdrop : L.drop i = L[i] :: L.drop (i + 1) := List.drop_eq_getElem_cons hlt
      have hc : L[i]? = some L[i] := List.getElem?_eq_getElem hlt
      have w1 : IntKind.i64.wrap ((i : Int) + 1) = ((i + 1 : Nat) : Int) := by rw [w64 (by omega) (by omega)]; rfl
      match t, ht with
      | 0, ht => omega
      | t + 1, ht =>
        have ih := l57_0_spec L hl c t (i + 1) (by omega) (by omega)
        by_cases hx : c = L[i]
        · have hstep : r57_0 (L, (L.length : Int), (i : Int), c.X, c.Y, ()) = some (.inr (.inl ((i : Int), ()))) := by
            unfold r57_0
            simp only [c1, decide_true, cond_true, idxO_nat, hc, Option.bind_some, ← hx, beq_self_eq_true]
          rw [hstep]
          exact ⟨fun _ => ⟨i, rfl⟩, fun h => (h (by rw [hdrop, hx]; exact List.mem_cons_self)).elim⟩
        · have hne : (bif c.X == L[i].X then (bif c.Y == L[i].Y then true else false) else false) = false := by
            cases e1 : (c.X == L[i].X) with
            | false => rfl
            | true => cases e2 : (c.Y == L[i].Y) with
              | false => rfl
              | true => exact (hx (by
                  have a1 := beq_iff_eq.1 e1
                  have a2 := beq_iff_eq.1 e2
                  generalize L[i] = q at a1 a2
                  cases c
                  cases q
                  simp only at a1 a2
                  rw [a1, a2])).elim
          have hstep : r57_0 (L, (L.length : Int), (i : Int), c.X, c.Y, ()) = some (.inl (L, (L.length : Int), ((i + 1 : Nat) : Int), c.X, c.Y, ())) := by
            unfold r57_0
            simp only [c1, decide_true, cond_true, idxO_nat, hc, Option.bind_some, hne, cond_false, w1]
          rw [hstep]
          refine ⟨fun h => ih.1 ?_, fun h => ih.2 ?_⟩
          · rw [hdrop] at h
            rcases List.mem_cons.1 h with h | h
            · exact (hx h).elim
            · exact h
          · intro h'
            exact h (by rw [hdrop]; exact List.mem_cons_of_mem _ h')

/-- slices.Contains. -/
theorem f35_spec (L : List Pt) (hl : L.length ≤ 1000000) (c : Pt) : f35 (L, c.X, c.Y, ()) = some (decide (c ∈ L), ()) := by
  have h := l57_0_spec L hl c L.length 0 (by omega) (by omega)
  rw [List.drop_zero] at h
  unfold f35 f57
  by_cases hc : c ∈ L
  · obtain ⟨k, hk⟩ := h.1 hc
    have hk' : l57_0 (L, (L.length : Int), 0, c.X, c.Y, ()) = some (.inl ((k : Int), ())) := hk
    simp only [hk', Option.bind_some, Sum.elim_inl, hc, decide_true]
    have : (k : Int) ≥ 0 := by omega
    simp only [this, decide_true]
  · have hk : l57_0 (L, (L.length : Int), 0, c.X, c.Y, ()) = some (.inr ()) := h.2 hc
    simp only [hk, Option.bind_some, Sum.elim_inr, hc, decide_false]
    rfl
end Go.AE

/-
  evidence.Of for one beam with a reading: the cells that it meets, each once, in order.
-/
namespace Go.AE
open Go.RowKit
set_option maxRecDepth 100000

/-- Whether two cells are one. -/
noncomputable def K51 : Pt → Pt → Bool := keyB tC 51
theorem key51 (a b : Pt) : K51 a b = (bif a.X == b.X then (bif a.Y == b.Y then true else false) else false) := by kernel_rfl
theorem f36_eq (x y a b : Int) (t : List (Pt × En)) : f36 x y a b t = mput K51 t ⟨x, y⟩ ⟨x, y, IntKind.i64.wrap (((mget K51 t ⟨x, y⟩).getD ⟨0, 0, 0, 0⟩).A + a), IntKind.i64.wrap (((mget K51 t ⟨x, y⟩).getD ⟨0, 0, 0, 0⟩).B + b)⟩ := rfl
theorem key51_ne {a b : Pt} (h : a ≠ b) : K51 a b = false := by
  rw [key51]
  cases e1 : (a.X == b.X) with
  | false => rfl
  | true => cases e2 : (a.Y == b.Y) with
    | false => rfl
    | true => exact (h (by
        have a1 := beq_iff_eq.1 e1
        have a2 := beq_iff_eq.1 e2
        cases a
        cases b
        simp only at a1 a2
        rw [a1, a2])).elim

theorem mput_new {κ ν : Type} {eq : κ → κ → Bool} {k : κ} {v : ν} : ∀ {t : List (κ × ν)}, (∀ p ∈ t, eq k p.1 = false) → mget eq t k = none ∧ mput eq t k v = t ++ [(k, v)]
  | [], _ => ⟨rfl, rfl⟩
  | p :: t, h => by
    have h1 := h p List.mem_cons_self
    have ih := mput_new (v := v) (t := t) (fun q hq => h q (List.mem_cons_of_mem _ hq))
    unfold mget mput
    rw [h1, cond_false, cond_false, ih.1, ih.2]
    exact ⟨rfl, rfl⟩

/-- What a cell of a beam counts: a hit at the end, else a pass. -/
def enOf (E : List Pt) (c : Pt) : En := if c ∈ E then ⟨c.X, c.Y, 1, 0⟩ else ⟨c.X, c.Y, 0, 1⟩
def tlOf (E L : List Pt) : List (Pt × En) := L.map fun c => (c, enOf E c)

theorem f36_new {E L : List Pt} {c : Pt} (hc : c ∉ L) : (bif decide (c ∈ E) then f36 c.X c.Y 1 0 (tlOf E L) else f36 c.X c.Y 0 1 (tlOf E L)) = tlOf E (L ++ [c]) := by
  have h : ∀ v : En, mget K51 (tlOf E L) c = none ∧ mput K51 (tlOf E L) c v = tlOf E L ++ [(c, v)] := fun v => mput_new (fun q hq => by
    obtain ⟨e, he, rfl⟩ := List.mem_map.1 hq
    exact key51_ne (fun h => hc (by rw [h]; exact he)))
  have e : (Pt.mk c.X c.Y) = c := rfl
  have w1 : IntKind.i64.wrap (0 + 1) = 1 := by decide
  have w0 : IntKind.i64.wrap (0 + 0) = 0 := by decide
  have e1 : ∀ a b, f36 c.X c.Y a b (tlOf E L) = tlOf E L ++ [(c, ⟨c.X, c.Y, IntKind.i64.wrap (0 + a), IntKind.i64.wrap (0 + b)⟩)] := fun a b => by
    rw [f36_eq, e, (h default).1, (h _).2]
    rfl
  rw [e1, e1]
  simp only [w1, w0]
  unfold tlOf enOf
  rw [List.map_append]
  by_cases hE : c ∈ E
  · simp only [hE, decide_true, cond_true, List.map_cons, List.map_nil, if_true]
  · simp only [hE, decide_false, cond_false, List.map_cons, List.map_nil, if_false]

theorem l15_6_spec {n m : Nat} {oe om E L : List Pt} (h1 : n ≤ oe.length) (h2 : oe.take n = E) (h3 : m ≤ om.length) (h4 : om.take m = L) (hE : E.length ≤ 1000000) (hL : L.Nodup) (hm : m ≤ 1000000) (bs : List Bm) (a2 a3 a7 a8 a9 a11 a12 : Int) : ∀ (t i : Nat), m - i = t → i ≤ m →
    l15_6 (n, bs, a2, a3, m, (m : Int), (i : Int), a7, a8, a9, tlOf E (L.take i), a11, a12, oe, om, ()) = some (bs, a2, a3, a7, a8, a9, tlOf E L, a11, a12, ())
  | t, i, ht, hi => by
    have hLm : L.length = m := by rw [← h4, List.length_take]; omega
    unfold l15_6
    rw [iterO_eq]
    by_cases e : i = m
    · have c1 : ¬ ((i : Int) < (m : Int)) := by omega
      have hd : L.take i = L := List.take_of_length_le (by omega)
      rw [hd]
      unfold r15_6
      simp only [c1, decide_false, cond_false]
    · have hlt : i < m := by omega
      have c1 : ((i : Int) < (m : Int)) := by omega
      have c0 : (0 : Int) ≤ (i : Int) := by omega
      have hlt2 : i < L.length := by omega
      have hget : om[0 + (i : Int).toNat]? = some L[i] := by
        rw [Int.toNat_natCast, Nat.zero_add, ← List.getElem?_eq_getElem hlt2, ← h4, List.getElem?_take_of_lt hlt]
      have w1 : IntKind.i64.wrap ((i : Int) + 1) = ((i + 1 : Nat) : Int) := by rw [w64 (by omega) (by omega)]; rfl
      have hno : L[i] ∉ L.take i := by
        intro hx
        obtain ⟨j, hj, he⟩ := List.getElem_of_mem hx
        rw [List.length_take] at hj
        rw [List.getElem_take] at he
        exact (List.pairwise_iff_getElem.1 hL j i (by omega) hlt2 (by omega)) he
      have htk : L.take (i + 1) = L.take i ++ [L[i]] := by rw [List.take_add_one, List.getElem?_eq_getElem hlt2]; rfl
      have hf := f36_new (E := E) hno
      have hz : 0 + n ≤ oe.length := by omega
      have hc := f35_spec E hE L[i]
      match t, ht with
      | 0, ht => omega
      | t + 1, ht =>
        have ih := l15_6_spec h1 h2 h3 h4 hE hL hm bs a2 a3 a7 a8 a9 a11 a12 t (i + 1) (by omega) (by omega)
        have hstep : r15_6 (n, bs, a2, a3, m, (m : Int), (i : Int), a7, a8, a9, tlOf E (L.take i), a11, a12, oe, om, ()) = some (.inl (n, bs, a2, a3, m, (m : Int), ((i + 1 : Nat) : Int), a7, a8, a9, tlOf E (L.take (i + 1)), a11, a12, oe, om, ())) := by
          rw [htk, ← hf]
          unfold r15_6
          simp only [c1, c0, decide_true, cond_true, Bool.and_true, hget, Option.bind_some, hz, List.drop_zero, h2, hc, j15_64, w1]
          cases decide (L[i] ∈ E) <;> rfl
        rw [hstep]
        exact ih

/-- The scan of one beam is valid. -/
theorem f34_one {b : Bm} (hm : 0 ≤ b.M ∧ b.M ≤ 255) (hr : -1 ≤ b.R ∧ b.R ≤ 1024) : f34 ([b], ()) = some (true, ()) := by
  have hb : f55 b.M b.R = false := by
    unfold f55
    have c1 : ¬ b.M < 0 := by omega
    have c2 : ¬ b.M ≥ 256 := by omega
    have c3 : ¬ b.R < -1 := by omega
    have c4 : ¬ b.R > 1024 := by omega
    simp only [c1, c2, c3, c4, decide_false, cond_false]
  have w1 : IntKind.i64.wrap (0 + 1) = 1 := by decide
  have s1 : r72_0 ([b], 1, 0, ()) = some (.inl ([b], 1, 1, ())) := by
    unfold r72_0
    have c : (0 : Int) < 1 := by omega
    have e : idxO [b] (0 : Int) = some b := rfl
    simp only [c, decide_true, cond_true, e, Option.bind_some, hb, cond_false, w1]
  have s2 : r72_0 ([b], 1, 1, ()) = some (.inr (.inr ())) := by
    unfold r72_0
    have c : ¬ (1 : Int) < 1 := by omega
    simp only [c, decide_false, cond_false]
  have s3 : l72_0 ([b], 1, 0, ()) = some (.inr ()) := by
    unfold l72_0
    rw [iterO_eq, s1]
    show iterO r72_0 ([b], 1, 1, ()) = _
    rw [iterO_eq, s2]
  unfold f34 f56 f72
  have e1 : (([b].length : Nat) : Int) = 1 := rfl
  have c : (1 : Int) ≤ 32 := by omega
  have c2 : ¬ ((-1 : Int) ≥ 0) := by omega
  simp only [e1, c, decide_true, cond_true, s3, Option.bind_some, Sum.elim_inr, c2, decide_false, Bool.not_false]

theorem enOf_X (E : List Pt) (c : Pt) : (enOf E c).X = c.X ∧ (enOf E c).Y = c.Y := by
  unfold enOf
  split <;> exact ⟨rfl, rfl⟩

theorem okTl_of {E L : List Pt} (hl : L.length ≤ 1000000) (hL : L.Nodup) : okTl (tlOf E L) = true := by
  unfold okTl tlOf
  simp only [Bool.and_eq_true, decide_eq_true_eq, List.length_map]
  refine ⟨hl, List.all_eq_true.2 fun q hq => ?_, ?_⟩
  · obtain ⟨c, _, rfl⟩ := List.mem_map.1 hq
    unfold nzE enOf f61
    by_cases h : c ∈ E <;> simp [h]
  · unfold apartE
    simp only [decide_eq_true_eq, List.map_map]
    rw [List.pairwise_map]
    refine List.Pairwise.imp (fun {a b} h => ?_) hL
    simp only [Function.comp]
    rw [(enOf_X E a).1, (enOf_X E a).2, (enOf_X E b).1, (enOf_X E b).2]
    rintro ⟨e1, e2⟩
    exact h (by cases a; cases b; simp only at e1 e2; rw [e1, e2])

theorem f33_ok {n m : Int} (h0 : 0 ≤ m ∧ m ≤ 1099511627776) (h : -m ≤ n ∧ n ≤ m) : f33 n m = true := by
  unfold f33
  have w1 : IntKind.i64.wrap (0 - m) = -m := by rw [w64 (by omega) (by omega)]; omega
  have c1 : n ≥ -m := by omega
  simp only [w1, c1, decide_true, cond_true, h.2]

/-- evidence.Of for one beam with a reading. -/
theorem f15_one {px py hd x y d : Int} {b : Bm} (hp : (-262144 ≤ px ∧ px ≤ 262144) ∧ -262144 ≤ py ∧ py ≤ 262144) (hh : 0 ≤ hd ∧ hd ≤ 255) (hm : 0 ≤ b.M ∧ b.M ≤ 255) (hr : 0 ≤ b.R ∧ b.R ≤ 1024) (sb : f11 (hd, b.M, ()) = some (x, y, d, ())) (hv : VV x y d) :
    f15 (px, py, hd, [b], ()) = some ((trc px py x y d 0 b.R).length, 0, sortE ((trc px py x y d 0 b.R).map (enOf (trc px py x y d b.R b.R))), ()) := by
  have hray : Ray px py x y d := ⟨by unfold nearP; simp only; omega, hv⟩
  obtain ⟨n, oe, e1, e2, e3⟩ := f912_spec hray (lo := b.R) (hi := b.R) (by omega) (by omega) (by omega)
  obtain ⟨m, om, m1, m2, m3⟩ := f912_spec hray (lo := 0) (hi := b.R) (by omega) (by omega) (by omega)
  have hEl := trc_len hray (lo := b.R) (hi := b.R) (by omega) (by omega) (by omega)
  have hLl := trc_len hray (lo := 0) (hi := b.R) (by omega) (by omega) (by omega)
  have hnd := trc_nodup px py x y d 0 b.R
  have hmL : (trc px py x y d 0 b.R).length = m := by rw [← m3, List.length_take]; omega
  generalize trc px py x y d b.R b.R = E at *
  generalize trc px py x y d 0 b.R = L at *
  have hok := okTl_of (E := E) (L := L) (by omega) hnd
  have s6 := l15_6_spec e2 e3 m2 m3 (by omega) hnd (by omega) [b] 1 0 px py hd px py m 0 (by omega) (by omega)
  have s6' : l15_6 (n, [b], 1, 0, m, (m : Int), 0, px, py, hd, [], px, py, oe, om, ()) = some ([b], 1, 0, px, py, hd, tlOf E L, px, py, ()) := s6
  have w1 : IntKind.i64.wrap (0 + 1) = 1 := by decide
  have t1 : r15_0 ([b], 1, 0, px, py, hd, [], px, py, ()) = some (.inl ([b], 1, 1, px, py, hd, tlOf E L, px, py, ())) := by
    unfold r15_0
    have c : (0 : Int) < 1 := by omega
    have e : idxO [b] (0 : Int) = some b := rfl
    have c2 : ¬ b.R < 0 := by omega
    simp only [c, decide_true, cond_true, e, Option.bind_some, sb, c2, decide_false, cond_false, e1, j15_43, m1, s6', j15_67, w1]
  have t2 : r15_0 ([b], 1, 1, px, py, hd, tlOf E L, px, py, ()) = some (.inr (tlOf E L, ())) := by
    unfold r15_0
    have c : ¬ (1 : Int) < 1 := by omega
    simp only [c, decide_false, cond_false]
  have t3 : l15_0 ([b], 1, 0, px, py, hd, [], px, py, ()) = some (tlOf E L, ()) := by
    unfold l15_0
    rw [iterO_eq, t1]
    show iterO r15_0 ([b], 1, 1, px, py, hd, tlOf E L, px, py, ()) = _
    rw [iterO_eq, t2]
  have e1' : (([b].length : Nat) : Int) = 1 := rfl
  have hl : (tlOf E L).map (·.2) = L.map (enOf E) := by unfold tlOf; rw [List.map_map]; rfl
  have hl2 : (tlOf E L).length = L.length := by unfold tlOf; rw [List.length_map]
  have c1 : ¬ hd < 0 := by omega
  have c2 : ¬ hd ≥ 256 := by omega
  unfold f15
  simp only [f33_ok (n := px) (m := 262144) (by omega) hp.1, f33_ok (n := py) (m := 262144) (by omega) hp.2, Bool.not_true, cond_false, c1, c2, decide_false, f34_one hm (by omega), Option.bind_some, e1', t3]
  unfold f37
  rw [hok, cond_true, Option.bind_some, hl, hl2]
end Go.AE

/-
  evidence.At and evidence.Valid at a list in strict order.
-/
namespace Go.AE
open Go.RowKit
set_option maxRecDepth 100000

def ordP (a c : Pt) : Int := if a.Y < c.Y then -1 else if c.Y < a.Y then 1 else if a.X < c.X then -1 else if c.X < a.X then 1 else 0
def ord1 (a b : Int) : Int := if a < b then -1 else if b < a then 1 else 0

theorem f65_spec (a b : Int) : f65 a b = ord1 a b := by
  unfold f65 f78 ord1
  simp only [bne_self_eq_false, cond_false]
  by_cases h1 : a < b
  · simp only [h1, decide_true, cond_true, if_true]
  · by_cases h2 : b < a
    · have : a > b := h2
      simp only [h1, decide_false, cond_false, if_false, this, decide_true, cond_true, if_true]
    · have : ¬ a > b := h2
      simp only [h1, decide_false, cond_false, if_false, this]

theorem f64_two (a b : Int) : f64 ([a, b], ()) = some (if a ≠ 0 then a else b, ()) := by
  have w1 : IntKind.i64.wrap (0 + 1) = 1 := by decide
  have w2 : IntKind.i64.wrap (1 + 1) = 2 := by decide
  have e0 : idxO [a, b] (0 : Int) = some a := rfl
  have e1 : idxO [a, b] (1 : Int) = some b := rfl
  have c0 : (0 : Int) < 2 := by omega
  have c1 : (1 : Int) < 2 := by omega
  have c2 : ¬ (2 : Int) < 2 := by omega
  have el : (([a, b].length : Nat) : Int) = 2 := rfl
  have key : ∃ y, l64_0 (0, [a, b], 2, 0, ()) = some y ∧ Sum.elim (fun y13 : Int × Unit => some (y13.1, ())) (fun y14 : Int × Unit => some (y14.1, ())) y = some (if a ≠ 0 then a else b, ()) := by
    unfold l64_0
    by_cases ha : a = 0
    · subst ha
      have s0 : r64_0 (0, [0, b], 2, 0, ()) = some (.inl (0, [0, b], 2, 1, ())) := by
        unfold r64_0
        simp only [c0, decide_true, cond_true, e0, Option.bind_some, bne_self_eq_false, cond_false, w1]
      rw [iterO_eq, s0]
      show ∃ y, iterO r64_0 (0, [0, b], 2, 1, ()) = some y ∧ _
      by_cases hb : b = 0
      · subst hb
        have s1 : r64_0 (0, [0, 0], 2, 1, ()) = some (.inl (0, [0, 0], 2, 2, ())) := by
          unfold r64_0
          simp only [c1, decide_true, cond_true, e1, Option.bind_some, bne_self_eq_false, cond_false, w2]
        have s2 : r64_0 (0, [0, 0], 2, 2, ()) = some (.inr (.inr (0, ()))) := by
          unfold r64_0
          simp only [c2, decide_false, cond_false]
        rw [iterO_eq, s1]
        show ∃ y, iterO r64_0 (0, [0, 0], 2, 2, ()) = some y ∧ _
        rw [iterO_eq, s2]
        exact ⟨_, rfl, by simp⟩
      · have hb' : (b != 0) = true := by simpa using hb
        have s1 : r64_0 (0, [0, b], 2, 1, ()) = some (.inr (.inl (b, ()))) := by
          unfold r64_0
          simp only [c1, decide_true, cond_true, e1, Option.bind_some, hb']
        rw [iterO_eq, s1]
        exact ⟨_, rfl, by simp⟩
    · have ha' : (a != 0) = true := by simpa using ha
      have s0 : r64_0 (0, [a, b], 2, 0, ()) = some (.inr (.inl (a, ()))) := by
        unfold r64_0
        simp only [c0, decide_true, cond_true, e0, Option.bind_some, ha']
      rw [iterO_eq, s0]
      exact ⟨_, rfl, by simp [ha]⟩
  obtain ⟨y, k1, k2⟩ := key
  unfold f64
  simp only [el, k1, Option.bind_some]
  exact k2

theorem f40_spec (a c : Pt) : f40 (a.X, a.Y, c.X, c.Y, ()) = some (ordP a c, ()) := by
  unfold f40
  simp only [f65_spec, f64_two, Option.bind_some]
  unfold ordP ord1
  by_cases h1 : a.Y < c.Y
  · simp [h1]
  · by_cases h2 : c.Y < a.Y <;> simp [h1, h2]

theorem ordP_neg {a c : Pt} : ordP a c < 0 ↔ a.Y < c.Y ∨ a.Y = c.Y ∧ a.X < c.X := by
  unfold ordP
  repeat' split
  all_goals omega
theorem ordP_zero (a : Pt) : ordP a a = 0 := by unfold ordP; simp

/-- Strictly in order. -/
def ltE (a b : En) : Prop := a.Y < b.Y ∨ a.Y = b.Y ∧ a.X < b.X
def goodE (e : En) : Prop := (-1000 ≤ e.A ∧ e.A ≤ 1000) ∧ (-1000 ≤ e.B ∧ e.B ≤ 1000) ∧ (e.A ≠ 0 ∨ e.B ≠ 0) ∧ (-16384 ≤ e.X ∧ e.X ≤ 16384) ∧ -16384 ≤ e.Y ∧ e.Y ≤ 16384

theorem f66_spec {e : En} (h : goodE e) : f66 e.X e.Y e.A e.B = true := by
  obtain ⟨h1, h2, h3, h4, h5⟩ := h
  unfold f66 f79
  rw [f33_ok (by omega) (by omega), f33_ok (by omega) (by omega), f33_ok (by omega) h4, f33_ok (by omega) h5]
  by_cases ha : e.A = 0
  · have hb : (e.B != 0) = true := by
      have : e.B ≠ 0 := by omega
      simpa using this
    have ha' : (e.A != 0) = false := by simp [ha]
    simp only [ha', hb, cond_true, cond_false]
  · have ha' : (e.A != 0) = true := by simpa using ha
    simp only [ha', cond_true]

section
variable {M : List En}

theorem l41_0_spec (hl : M.length ≤ 1000000) (hs : M.Pairwise ltE) (hg : ∀ e ∈ M, goodE e) : ∀ (t i : Nat), M.length - i = t → i ≤ M.length → l41_0 (M, M, (M.length : Int), (i : Int), ()) = some (.inr (M, ()))
  | t, i, ht, hi => by
    unfold l41_0
    rw [iterO_eq]
    by_cases e : i = M.length
    · have c1 : ¬ ((i : Int) < (M.length : Int)) := by omega
      unfold r41_0
      simp only [c1, decide_false, cond_false]
    · have hlt : i < M.length := by omega
      have c1 : ((i : Int) < (M.length : Int)) := by omega
      have hc : M[i]? = some M[i] := List.getElem?_eq_getElem hlt
      have w1 : IntKind.i64.wrap ((i : Int) + 1) = ((i + 1 : Nat) : Int) := by rw [w64 (by omega) (by omega)]; rfl
      have hgd := f66_spec (hg M[i] (List.getElem_mem hlt))
      match t, ht with
      | 0, ht => omega
      | t + 1, ht =>
        have ih := l41_0_spec hl hs hg t (i + 1) (by omega) (by omega)
        have hstep : r41_0 (M, M, (M.length : Int), (i : Int), ()) = some (.inl (M, M, (M.length : Int), ((i + 1 : Nat) : Int), ())) := by
          unfold r41_0
          by_cases h0 : 0 < i
          · have c2 : (i : Int) > 0 := by omega
            have w2 : IntKind.i64.wrap ((i : Int) - 1) = ((i - 1 : Nat) : Int) := by rw [w64 (by omega) (by omega)]; omega
            have hp : M[i - 1]? = some M[i - 1] := List.getElem?_eq_getElem (by omega)
            have ho : ltE M[i - 1] M[i] := List.pairwise_iff_getElem.1 hs (i - 1) i (by omega) hlt (by omega)
            have hf := f40_spec ⟨M[i - 1].X, M[i - 1].Y⟩ ⟨M[i].X, M[i].Y⟩
            have hn : ¬ ordP ⟨M[i - 1].X, M[i - 1].Y⟩ ⟨M[i].X, M[i].Y⟩ ≥ 0 := by
              have := (ordP_neg (a := ⟨M[i - 1].X, M[i - 1].Y⟩) (c := ⟨M[i].X, M[i].Y⟩)).2 ho
              omega
            simp only at hf
            simp only [c1, decide_true, cond_true, idxO_nat, hc, Option.bind_some, hgd, Bool.not_true, cond_false, c2, w2, hp, hf, hn, decide_false, j41_19, w1]
          · have c2 : ¬ (i : Int) > 0 := by omega
            simp only [c1, decide_true, cond_true, idxO_nat, hc, Option.bind_some, hgd, Bool.not_true, cond_false, c2, decide_false, j41_19, w1]
        rw [hstep]
        exact ih

theorem f41_spec (hl : M.length ≤ 1000000) (hs : M.Pairwise ltE) (hg : ∀ e ∈ M, goodE e) : f41 (M, ()) = some (true, ()) := by
  have h := l41_0_spec hl hs hg M.length 0 (by omega) (by omega)
  have h' : l41_0 (M, M, (M.length : Int), 0, ()) = some (.inr (M, ())) := h
  have c : (M.length : Int) ≤ 1048576 := by omega
  unfold f41
  simp only [h', Option.bind_some, Sum.elim_inr, c, decide_true]

theorem half {lo hi : Nat} (h1 : hi ≤ 1000000) (h2 : lo < hi) : IntKind.i64.wrap ((IntKind.u64.wrap (IntKind.i64.wrap ((lo : Int) + (hi : Int)))).fdiv 2) = (((lo + hi) / 2 : Nat) : Int) := by
  have e1 : IntKind.i64.wrap ((lo : Int) + (hi : Int)) = (lo : Int) + (hi : Int) := w64 (by omega) (by omega)
  have e2 : IntKind.u64.wrap ((lo : Int) + (hi : Int)) = (lo : Int) + (hi : Int) := u64w (by omega) (by omega)
  rw [e1, e2, Int.fdiv_eq_ediv_of_nonneg _ (by omega), w64 (by omega) (by omega)]
  omega

theorem l38_0_spec (hl : M.length ≤ 1000000) (hs : M.Pairwise ltE) {k : Nat} (hk : k < M.length) : ∀ (t lo hi : Nat), hi - lo = t → lo ≤ k → k ≤ hi → hi ≤ M.length → l38_0 (M, (M.length : Int), (lo : Int), (hi : Int), M[k].X, M[k].Y, ()) = some (M, (M.length : Int), (k : Int), M[k].X, M[k].Y, ()) := by
  intro t
  induction t using Nat.strongRecOn with
  | _ t ih =>
    intro lo hi ht h1 h2 h3
    unfold l38_0
    rw [iterO_eq]
    by_cases e : lo < hi
    · have c1 : ((lo : Int) < (hi : Int)) := by omega
      have hh := half (lo := lo) (hi := hi) (by omega) e
      have hmlt : (lo + hi) / 2 < M.length := by omega
      have hm1 : lo ≤ (lo + hi) / 2 := by omega
      have hm2 : (lo + hi) / 2 < hi := by omega
      generalize (lo + hi) / 2 = m at hh hmlt hm1 hm2
      have hc : M[m]? = some M[m] := List.getElem?_eq_getElem hmlt
      have w1 : IntKind.i64.wrap ((m : Int) + 1) = ((m + 1 : Nat) : Int) := by rw [w64 (by omega) (by omega)]; rfl
      have hf := f40_spec ⟨M[m].X, M[m].Y⟩ ⟨M[k].X, M[k].Y⟩
      have hf2 : f39 (M[m].X, M[m].Y, M[m].A, M[m].B, M[k].X, M[k].Y, ()) = some (ordP ⟨M[m].X, M[m].Y⟩ ⟨M[k].X, M[k].Y⟩, ()) := by
        unfold f39
        simp only at hf
        simp only [hf, Option.bind_some]
      by_cases hmk : m < k
      · have ho : ltE M[m] M[k] := List.pairwise_iff_getElem.1 hs m k hmlt hk hmk
        have hn : ordP ⟨M[m].X, M[m].Y⟩ ⟨M[k].X, M[k].Y⟩ < 0 := (ordP_neg (a := ⟨M[m].X, M[m].Y⟩) (c := ⟨M[k].X, M[k].Y⟩)).2 ho
        have hstep : r38_0 (M, (M.length : Int), (lo : Int), (hi : Int), M[k].X, M[k].Y, ()) = some (.inl (M, (M.length : Int), ((m + 1 : Nat) : Int), (hi : Int), M[k].X, M[k].Y, ())) := by
          unfold r38_0
          simp only [c1, decide_true, cond_true, hh, idxO_nat, hc, Option.bind_some, hf2, hn, w1]
        rw [hstep]
        exact ih (hi - (m + 1)) (by omega) (m + 1) hi rfl (by omega) h2 h3
      · have hn : ¬ ordP ⟨M[m].X, M[m].Y⟩ ⟨M[k].X, M[k].Y⟩ < 0 := by
          intro hn
          have h4 := (ordP_neg (a := ⟨M[m].X, M[m].Y⟩) (c := ⟨M[k].X, M[k].Y⟩)).1 hn
          simp only at h4
          by_cases e : m = k
          · subst e
            omega
          · have ho : ltE M[k] M[m] := List.pairwise_iff_getElem.1 hs k m hk hmlt (by omega)
            unfold ltE at ho
            omega
        have hstep : r38_0 (M, (M.length : Int), (lo : Int), (hi : Int), M[k].X, M[k].Y, ()) = some (.inl (M, (M.length : Int), (lo : Int), (m : Int), M[k].X, M[k].Y, ())) := by
          unfold r38_0
          simp only [c1, decide_true, cond_true, hh, idxO_nat, hc, Option.bind_some, hf2, hn, decide_false, cond_false]
        rw [hstep]
        exact ih (m - lo) (by omega) lo m rfl h1 (by omega) (by omega)
    · have c1 : ¬ ((lo : Int) < (hi : Int)) := by omega
      have e2 : lo = k := by omega
      subst e2
      unfold r38_0
      simp only [c1, decide_false, cond_false]

/-- evidence.At at a cell of the list. -/
theorem f16_spec (hl : M.length ≤ 1000000) (hs : M.Pairwise ltE) (hg : ∀ e ∈ M, goodE e) {k : Nat} (hk : k < M.length) : f16 (M, M[k].X, M[k].Y, ()) = some (M[k].X, M[k].Y, M[k].A, M[k].B, ()) := by
  have h := l38_0_spec hl hs hk M.length 0 M.length (by omega) (by omega) (by omega) (by omega)
  have h' : l38_0 (M, (M.length : Int), 0, (M.length : Int), M[k].X, M[k].Y, ()) = some (M, (M.length : Int), (k : Int), M[k].X, M[k].Y, ()) := h
  have hc : M[k]? = some M[k] := List.getElem?_eq_getElem hk
  have c1 : (k : Int) < (M.length : Int) := by omega
  have hf := f40_spec ⟨M[k].X, M[k].Y⟩ ⟨M[k].X, M[k].Y⟩
  have hf2 : f39 (M[k].X, M[k].Y, M[k].A, M[k].B, M[k].X, M[k].Y, ()) = some (0, ()) := by
    unfold f39
    simp only at hf
    simp only [hf, Option.bind_some, ordP_zero]
  have hF : f38 (M, M[k].X, M[k].Y, ()) = some ((k : Int), true, ()) := by
    unfold f38
    simp only [h', Option.bind_some, c1, decide_true, cond_true, idxO_nat, hc, hf2]
    rfl
  unfold f16
  simp only [hF, Option.bind_some, Bool.not_true, cond_false, f41_spec hl hs hg, idxO_nat, hc]
end
end Go.AE
