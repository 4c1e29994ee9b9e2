/-
  The chapter Repair, RepairOrder: changes of different cells may be made in any order.
-/
import Derived.Test.YtilmnpkjlaamlaaR7
import Derived.Test.YtilmnpkjlaamlaaFOrd
namespace Go.AE
open Go.Proofs Go.RowKit
set_option maxRecDepth 100000

def cellA (a : Ac) : Pt := ⟨a.X, a.Y⟩

/-- Changes of different cells. -/
structure Once (O : List Ac) : Prop where
  sets : ∀ a ∈ O, a.K.tmod 3 ≠ 2
  diff : O.Pairwise (fun a b => cellA a ≠ cellA b)

theorem upd_comm {p : Pl} {c d : Pt} (h : c ≠ d) (v w : Bool) : (p.upd c v).upd d w = (p.upd d w).upd c v := by
  by_cases hc : p.inP c
  · by_cases hd : p.inP d
    · have h1 : (p.put c (if v = true then 1 else 2)).inP d := hd
      have h2 : (p.put d (if w = true then 1 else 2)).inP c := hc
      unfold Pl.upd
      rw [if_pos hc, if_pos hd, if_pos h1, if_pos h2]
      have hne : p.ix c ≠ p.ix d := fun e => h (Pl.ix_inj hc hd e)
      have e1 : ∀ k x, (p.put c k).ix x = p.ix x := fun _ _ => rfl
      have e2 : ∀ k x, (p.put d k).ix x = p.ix x := fun _ _ => rfl
      unfold Pl.put at *
      simp only [e1, e2]
      rw [List.set_comm _ _ hne]
    · have h1 : ¬ (p.put c (if v = true then 1 else 2)).inP d := hd
      unfold Pl.upd
      rw [if_pos hc, if_neg hd, if_neg h1, if_pos hc]
  · by_cases hd : p.inP d
    · have h1 : ¬ (p.put d (if w = true then 1 else 2)).inP c := hc
      unfold Pl.upd
      rw [if_neg hc, if_pos hd, if_neg h1]
    · unfold Pl.upd
      rw [if_neg hc, if_neg hd, if_neg hc]

theorem actP_comm {p : Pl} {a b : Ac} (ha : a.K.tmod 3 ≠ 2) (hb : b.K.tmod 3 ≠ 2) (h : cellA a ≠ cellA b) : actP (actP p a) b = actP (actP p b) a := by
  unfold actP
  rw [if_neg ha, if_neg hb, if_neg hb, if_neg ha]
  exact upd_comm h _ _

theorem fold_comm {a : Ac} (ha : a.K.tmod 3 ≠ 2) : ∀ {O : List Ac} {p : Pl}, (∀ b ∈ O, b.K.tmod 3 ≠ 2) → (∀ b ∈ O, cellA a ≠ cellA b) → O.foldl actP (actP p a) = actP (O.foldl actP p) a
  | [], _, _, _ => rfl
  | b :: O, p, h1, h2 => by
    rw [List.foldl_cons, List.foldl_cons, actP_comm ha (h1 b (List.mem_cons_self ..)) (h2 b (List.mem_cons_self ..))]
    exact fold_comm ha (fun x hx => h1 x (List.mem_cons_of_mem _ hx)) (fun x hx => h2 x (List.mem_cons_of_mem _ hx))

theorem fold_rev : ∀ {O : List Ac} {p : Pl}, Once O → O.foldl actP p = O.reverse.foldl actP p
  | [], _, _ => rfl
  | a :: O, p, h => by
    have hd := List.pairwise_cons.1 h.diff
    have hO : Once O := ⟨fun b hb => h.sets b (List.mem_cons_of_mem _ hb), hd.2⟩
    rw [List.foldl_cons, List.reverse_cons, List.foldl_append, ← fold_rev hO, fold_comm (h.sets a (List.mem_cons_self ..)) hO.sets hd.1]
    rfl

theorem actP_WH (p : Pl) (a : Ac) : (actP p a).W = p.W ∧ (actP p a).H = p.H := by
  unfold actP Pl.upd
  split
  · exact ⟨rfl, rfl⟩
  · split <;> exact ⟨rfl, rfl⟩

section
variable {L : List Ac} {sx sy r1 r2 r4 r5 s1 s2 s4 s5 : Int} {r3 r6 s3 s6 : Nat} {rC rl sC sl : List Int}

theorem l5_6_spec {i : Nat} {a : Ac} (ha : L[i]? = some a) {n : Nat} {ob : List Ac} (hob : n ≤ ob.length) (hn : n ≤ 20) : ∀ (t k : Nat) (ag : Bool), n - k = t → k ≤ n →
    ∃ ag', l5_6 (L, n, (i : Int), ag, (k : Int), sx, sy, r1, r2, r3, r4, r5, r6, s1, s2, s3, s4, s5, s6, ob, rC, rl, sC, sl, ()) = some (L, n, (i : Int), ag', sx, sy, r1, r2, r3, r4, r5, r6, s1, s2, s3, s4, s5, s6, ob, rC, rl, sC, sl, ()) ∧
      (ag' = false → ag = false ∧ ∀ b ∈ (ob.take n).drop k, cellA b ≠ cellA a) := by
  intro t
  induction t with
  | zero =>
    intro k ag ht hk
    have : k = n := by omega
    subst this
    have c1 : ¬ (k : Int) < (k : Int) := by omega
    have hnil : (ob.take k).drop k = [] := List.drop_eq_nil_of_le (by rw [take_len0 hob]; omega)
    refine ⟨ag, ?_, fun h => ⟨h, fun b hb => by rw [hnil] at hb; cases hb⟩⟩
    have hr : r5_6 (L, k, (i : Int), ag, (k : Int), sx, sy, r1, r2, r3, r4, r5, r6, s1, s2, s3, s4, s5, s6, ob, rC, rl, sC, sl, ()) = some (.inr (L, k, (i : Int), ag, sx, sy, r1, r2, r3, r4, r5, r6, s1, s2, s3, s4, s5, s6, ob, rC, rl, sC, sl, ())) := by
      unfold r5_6
      simp only [c1, decide_false, cond_false]
    unfold l5_6
    rw [iterO_eq, hr]
  | succ t ih =>
    intro k ag ht hk
    have hkn : k < n := by omega
    have c1 : (k : Int) < (n : Int) := by omega
    have c2 : (0 : Int) ≤ (k : Int) := by omega
    have hlt : k < ob.length := by omega
    have e1 : ob[k]? = some ob[k] := List.getElem?_eq_getElem hlt
    have w0 : IntKind.i64.wrap ((k : Int) + 1) = ((k + 1 : Nat) : Int) := by rw [w64 (by omega) (by omega)]; rfl
    have hd : (ob.take n).drop k = ob[k] :: (ob.take n).drop (k + 1) := by
      rw [drop_cons (by rw [take_len0 hob]; exact hkn)]
      simp
    have hr : r5_6 (L, n, (i : Int), ag, (k : Int), sx, sy, r1, r2, r3, r4, r5, r6, s1, s2, s3, s4, s5, s6, ob, rC, rl, sC, sl, ()) = some (.inl (L, n, (i : Int), ag || decide (cellA ob[k] = cellA a), ((k + 1 : Nat) : Int), sx, sy, r1, r2, r3, r4, r5, r6, s1, s2, s3, s4, s5, s6, ob, rC, rl, sC, sl, ())) := by
      have pe := pt_eqb (cellA ob[k]) (cellA a)
      simp only [cellA] at pe
      cases ag with
      | true =>
        unfold r5_6
        simp only [c1, decide_true, cond_true, j5_49, Option.bind_some, w0, Bool.true_or]
      | false =>
        unfold r5_6
        simp only [c1, c2, decide_true, cond_true, cond_false, Bool.and_self, Int.toNat_natCast, Nat.zero_add, e1, Option.bind_some, idxO_nat, ha, pe, j5_49, w0, Bool.false_or, cellA]
    obtain ⟨ag', q1, q2⟩ := ih (k + 1) (ag || decide (cellA ob[k] = cellA a)) (by omega) (by omega)
    refine ⟨ag', ?_, fun h => ?_⟩
    · unfold l5_6 at q1 ⊢
      rw [iterO_eq, hr]
      exact q1
    · obtain ⟨u1, u2⟩ := q2 h
      simp only [Bool.or_eq_false_iff, decide_eq_false_iff_not] at u1
      refine ⟨u1.1, fun b hb => ?_⟩
      rw [hd] at hb
      rcases List.mem_cons.1 hb with rfl | hb
      · exact u1.2
      · exact u2 b hb

theorem l5_0_spec (hL : L.length ≤ 20) : ∀ (t i n : Nat) (ob : List Ac), L.length - i = t → i ≤ L.length → n ≤ i → n ≤ ob.length → Once (ob.take n) →
    ∃ n' ob', l5_0 (L, n, (i : Int), sx, sy, r1, r2, r3, r4, r5, r6, s1, s2, s3, s4, s5, s6, ob, rC, rl, sC, sl, ()) = some (n', sx, sy, r1, r2, r3, r4, r5, r6, s1, s2, s3, s4, s5, s6, ob', rC, rl, sC, sl, ()) ∧ n' ≤ ob'.length ∧ n' ≤ 20 ∧ Once (ob'.take n') := by
  intro t
  induction t with
  | zero =>
    intro i n ob ht hi hn hob ho
    have : i = L.length := by omega
    subst this
    have c1 : ¬ (L.length : Int) < (L.length : Int) := by omega
    refine ⟨n, ob, ?_, hob, by omega, ho⟩
    have hr : r5_0 (L, n, (L.length : Int), sx, sy, r1, r2, r3, r4, r5, r6, s1, s2, s3, s4, s5, s6, ob, rC, rl, sC, sl, ()) = some (.inr (n, sx, sy, r1, r2, r3, r4, r5, r6, s1, s2, s3, s4, s5, s6, ob, rC, rl, sC, sl, ())) := by
      unfold r5_0
      simp only [c1, decide_false, cond_false]
    unfold l5_0
    rw [iterO_eq, hr]
  | succ t ih =>
    intro i n ob ht hi hn hob ho
    have hin : i < L.length := by omega
    have c1 : (i : Int) < (L.length : Int) := by omega
    have w0 : IntKind.i64.wrap ((i : Int) + 1) = ((i + 1 : Nat) : Int) := by rw [w64 (by omega) (by omega)]; rfl
    have e1 : L[i]? = some L[i] := List.getElem?_eq_getElem hin
    generalize L[i] = a at *
    obtain ⟨ag, q1, q2⟩ := l5_6_spec (sx := sx) (sy := sy) (r1 := r1) (r2 := r2) (r3 := r3) (r4 := r4) (r5 := r5) (r6 := r6) (s1 := s1) (s2 := s2) (s3 := s3) (s4 := s4) (s5 := s5) (s6 := s6) (rC := rC) (rl := rl) (sC := sC) (sl := sl) e1 hob (by omega) n 0 (a.K.tmod 3 == 2) (by omega) (by omega)
    have q1' : l5_6 (L, n, (i : Int), a.K.tmod 3 == 2, 0, sx, sy, r1, r2, r3, r4, r5, r6, s1, s2, s3, s4, s5, s6, ob, rC, rl, sC, sl, ()) = _ := q1
    have z3 : (n ≤ ob.length) = True := by simp [hob]
    have rr : roomy (n + 1) 24 = true := roomy_ok (by omega)
    cases ag with
    | true =>
      obtain ⟨n', ob', u1, u2, u3, u4⟩ := ih (i + 1) n ob (by omega) (by omega) (by omega) hob ho
      refine ⟨n', ob', ?_, u2, u3, u4⟩
      have hr : r5_0 (L, n, (i : Int), sx, sy, r1, r2, r3, r4, r5, r6, s1, s2, s3, s4, s5, s6, ob, rC, rl, sC, sl, ()) = some (.inl (L, n, ((i + 1 : Nat) : Int), sx, sy, r1, r2, r3, r4, r5, r6, s1, s2, s3, s4, s5, s6, ob, rC, rl, sC, sl, ())) := by
        unfold r5_0
        simp only [c1, decide_true, cond_true, cond_false, idxO_nat, e1, Option.bind_some, q1', Bool.not_true, j5_37, w0]
      unfold l5_0 at u1 ⊢
      rw [iterO_eq, hr]
      exact u1
    | false =>
      obtain ⟨g1, g2⟩ := q2 rfl
      rw [List.drop_zero] at g2
      have hlen : (ob.take n ++ [a]).length = n + 1 := by rw [List.length_append, take_len0 hob]; rfl
      obtain ⟨n', ob', u1, u2, u3, u4⟩ := ih (i + 1) (n + 1) (ob.take n ++ [a]) (by omega) (by omega) (by omega) (by omega) (by
        rw [List.take_of_length_le (by omega)]
        refine ⟨fun b hb => ?_, ?_⟩
        · rcases List.mem_append.1 hb with hb | hb
          · exact ho.sets b hb
          · rw [List.mem_singleton.1 hb]; simpa using g1
        · rw [List.pairwise_append]
          exact ⟨ho.diff, List.pairwise_singleton _ _, fun x hx y hy => by rw [List.mem_singleton.1 hy]; exact g2 x hx⟩)
      refine ⟨n', ob', ?_, u2, u3, u4⟩
      have hr : r5_0 (L, n, (i : Int), sx, sy, r1, r2, r3, r4, r5, r6, s1, s2, s3, s4, s5, s6, ob, rC, rl, sC, sl, ()) = some (.inl (L, n + 1, ((i + 1 : Nat) : Int), sx, sy, r1, r2, r3, r4, r5, r6, s1, s2, s3, s4, s5, s6, ob.take n ++ [a], rC, rl, sC, sl, ())) := by
        unfold r5_0
        simp only [c1, decide_true, cond_true, idxO_nat, e1, Option.bind_some, q1', Bool.not_false, Nat.zero_add, List.drop_zero, z3, rr, j5_37, w0]
      unfold l5_0 at u1 ⊢
      rw [iterO_eq, hr]
      exact u1

theorem l5_12_spec {g : Pt} {n : Nat} {ob : List Ac} (hob : n ≤ ob.length) (hn : n ≤ 20) (hs : ∀ a ∈ ob.take n, a.K.tmod 3 ≠ 2) : ∀ (t i : Nat) (p q : Pl) (l m : List Int), n - i = t → i ≤ n → p.W = q.W → p.H = q.H → Rp p g l → Rp q g m →
    ∃ l' m', Rp (((ob.take n).drop i).foldl actP p) g l' ∧ Rp (((ob.take n).reverse.drop i).foldl actP q) g m' ∧ l5_12 (n, (i : Int), sx, sy, p.W, p.H, p.C.length, g.X, g.Y, p.C.length, q.W, q.H, q.C.length, g.X, g.Y, q.C.length, ob, p.C, l, q.C, m, ()) =
      some (.inr (n, sx, sy, (((ob.take n).drop i).foldl actP p).W, (((ob.take n).drop i).foldl actP p).H, (((ob.take n).drop i).foldl actP p).C.length, g.X, g.Y, (((ob.take n).drop i).foldl actP p).C.length,
        (((ob.take n).reverse.drop i).foldl actP q).W, (((ob.take n).reverse.drop i).foldl actP q).H, (((ob.take n).reverse.drop i).foldl actP q).C.length, g.X, g.Y, (((ob.take n).reverse.drop i).foldl actP q).C.length, ob, (((ob.take n).drop i).foldl actP p).C, l', (((ob.take n).reverse.drop i).foldl actP q).C, m', ())) := by
  have hlen := take_len0 hob
  intro t
  induction t with
  | zero =>
    intro i p q l m ht hi _ _ hp hq
    have : i = n := by omega
    subst this
    have c1 : ¬ (i : Int) < (i : Int) := by omega
    have e1 : (ob.take i).drop i = [] := List.drop_eq_nil_of_le (by omega)
    have e2 : (ob.take i).reverse.drop i = [] := List.drop_eq_nil_of_le (by rw [List.length_reverse]; omega)
    rw [e1, e2]
    refine ⟨l, m, hp, hq, ?_⟩
    have hr : r5_12 (i, (i : Int), sx, sy, p.W, p.H, p.C.length, g.X, g.Y, p.C.length, q.W, q.H, q.C.length, g.X, g.Y, q.C.length, ob, p.C, l, q.C, m, ()) = some (.inr (.inr (i, sx, sy, p.W, p.H, p.C.length, g.X, g.Y, p.C.length, q.W, q.H, q.C.length, g.X, g.Y, q.C.length, ob, p.C, l, q.C, m, ()))) := by
      unfold r5_12
      simp only [c1, decide_false, cond_false]
    unfold l5_12
    rw [iterO_eq, hr]
    rfl
  | succ t ih =>
    intro i p q l m ht hi hW hH hp hq
    have hin : i < n := by omega
    have c1 : (i : Int) < (n : Int) := by omega
    have c2 : (0 : Int) ≤ (i : Int) := by omega
    have w0 : IntKind.i64.wrap ((i : Int) + 1) = ((i + 1 : Nat) : Int) := by rw [w64 (by omega) (by omega)]; rfl
    have w1 : IntKind.i64.wrap (IntKind.i64.wrap ((n : Int) - 1) - (i : Int)) = ((n - 1 - i : Nat) : Int) := by
      rw [w64 (n := (n : Int) - 1) (by omega) (by omega), w64 (by omega) (by omega)]; omega
    have d1 : (0 : Int) ≤ ((n - 1 - i : Nat) : Int) := by omega
    have d2 : ((n - 1 - i : Nat) : Int) < (n : Int) := by omega
    have hi1 : i < ob.length := by omega
    have hi2 : n - 1 - i < ob.length := by omega
    have e1 : ob[i]? = some ob[i] := List.getElem?_eq_getElem hi1
    have e2 : ob[n - 1 - i]? = some ob[n - 1 - i] := List.getElem?_eq_getElem hi2
    have f1 : (ob.take n).drop i = ob[i] :: (ob.take n).drop (i + 1) := by
      rw [drop_cons (by omega)]
      simp
    have f2 : (ob.take n).reverse.drop i = ob[n - 1 - i] :: (ob.take n).reverse.drop (i + 1) := by
      rw [drop_cons (by rw [List.length_reverse]; omega)]
      simp [hlen]
    have ma : ob[i] ∈ ob.take n := List.mem_of_getElem? (i := i) (by rw [List.getElem?_take, if_pos hin, e1])
    have mb : ob[n - 1 - i] ∈ ob.take n := List.mem_of_getElem? (i := n - 1 - i) (by rw [List.getElem?_take, if_pos (by omega), e2])
    rw [f1, f2]
    have ka := hs _ ma
    have kb := hs _ mb
    generalize ob[i] = a at *
    generalize ob[n - 1 - i] = b at *
    have hlp := hp.len
    have hlq := hq.len
    have z1 : (p.C.length ≤ p.C.length) = True := by simp
    have z2 : (p.C.length ≤ l.length) = True := by simp [hlp]
    have tl : List.take p.C.length l = l := List.take_of_length_le (by omega)
    have tc : List.take p.C.length p.C = p.C := by simp
    have y1 : (q.C.length ≤ q.C.length) = True := by simp
    have y2 : (q.C.length ≤ m.length) = True := by simp [hlq]
    have yl : List.take q.C.length m = m := List.take_of_length_le (by omega)
    have yc : List.take q.C.length q.C = q.C := by simp
    obtain ⟨l1, p1, p2⟩ := f22_spec hp a
    obtain ⟨m1, q1, q2⟩ := f22_spec hq b
    have ga : actG p g a = g := by unfold actG; rw [if_neg ka]
    have gb : actG q g b = g := by unfold actG; rw [if_neg kb]
    rw [ga] at p1 p2
    rw [gb] at q1 q2
    obtain ⟨l', m', s1, s2, s3⟩ := ih (i + 1) (actP p a) (actP q b) l1 m1 (by omega) (by omega) (by rw [(actP_WH p a).1, (actP_WH q b).1, hW]) (by rw [(actP_WH p a).2, (actP_WH q b).2, hH]) p2 q2
    refine ⟨l', m', s1, s2, ?_⟩
    have pe := pt_eqb (cellA a) (cellA b)
    simp only [cellA] at pe
    have hr : r5_12 (n, (i : Int), sx, sy, p.W, p.H, p.C.length, g.X, g.Y, p.C.length, q.W, q.H, q.C.length, g.X, g.Y, q.C.length, ob, p.C, l, q.C, m, ()) =
        some (.inl (n, ((i + 1 : Nat) : Int), sx, sy, (actP p a).W, (actP p a).H, (actP p a).C.length, g.X, g.Y, (actP p a).C.length, (actP q b).W, (actP q b).H, (actP q b).C.length, g.X, g.Y, (actP q b).C.length, ob, (actP p a).C, l1, (actP q b).C, m1, ())) := by
      by_cases hE : actE p a = actE q b
      · have hb : (actE p a != actE q b) = false := by simpa using hE
        unfold r5_12
        simp only [c1, c2, decide_true, Bool.and_self, cond_true, Int.toNat_natCast, Nat.zero_add, e1, Option.bind_some, List.drop_zero, z1, z2, tl, tc, p1, w1, d1, d2, e2, y1, y2, yl, yc, q1, hb, cond_false, j5_67, w0]
      · have hb : (actE p a != actE q b) = true := by simpa using hE
        have hne : ¬ (⟨a.X, a.Y⟩ : Pt) = ⟨b.X, b.Y⟩ := by
          intro e
          apply hE
          have hi2 : p.inP ⟨a.X, a.Y⟩ ↔ q.inP ⟨b.X, b.Y⟩ := by
            rw [e]
            unfold Pl.inP
            rw [hW, hH]
          unfold actE
          by_cases hq2 : q.inP ⟨b.X, b.Y⟩
          · rw [if_pos hq2, if_pos (hi2.2 hq2)]
          · rw [if_neg hq2, if_neg (fun hx => hq2 (hi2.1 hx))]
        unfold r5_12
        simp only [c1, c2, decide_true, Bool.and_self, cond_true, Int.toNat_natCast, Nat.zero_add, e1, Option.bind_some, List.drop_zero, z1, z2, tl, tc, p1, w1, d1, d2, e2, y1, y2, yl, yc, q1, hb, pe, hne, decide_false, cond_false, j5_67, w0]
    unfold l5_12 at s3 ⊢
    rw [iterO_eq, hr]
    exact s3

theorem l5_18_spec {p : Pl} {g : Pt} {l : List Int} (h : Rp p g l) {n : Nat} {ob : List Ac} (hob : n ≤ ob.length) (hn : n ≤ 20) : ∀ (t i : Nat), n - i = t → i ≤ n →
    l5_18 (n, (i : Int), sx, sy, p.W, p.H, p.C.length, g.X, g.Y, p.C.length, p.W, p.H, p.C.length, g.X, g.Y, p.C.length, ob, p.C, l, p.C, l, ()) =
      some (.inr (sx, sy, p.W, p.H, p.C.length, g.X, g.Y, p.C.length, p.W, p.H, p.C.length, g.X, g.Y, p.C.length, p.C, l, p.C, l, ())) := by
  intro t
  induction t with
  | zero =>
    intro i ht hi
    have : i = n := by omega
    subst this
    have c1 : ¬ (i : Int) < (i : Int) := by omega
    have hr : r5_18 (i, (i : Int), sx, sy, p.W, p.H, p.C.length, g.X, g.Y, p.C.length, p.W, p.H, p.C.length, g.X, g.Y, p.C.length, ob, p.C, l, p.C, l, ()) = some (.inr (.inr (sx, sy, p.W, p.H, p.C.length, g.X, g.Y, p.C.length, p.W, p.H, p.C.length, g.X, g.Y, p.C.length, p.C, l, p.C, l, ()))) := by
      unfold r5_18
      simp only [c1, decide_false, cond_false]
    unfold l5_18
    rw [iterO_eq, hr]
  | succ t ih =>
    intro i ht hi
    have hin : i < n := by omega
    have c1 : (i : Int) < (n : Int) := by omega
    have c2 : (0 : Int) ≤ (i : Int) := by omega
    have w0 : IntKind.i64.wrap ((i : Int) + 1) = ((i + 1 : Nat) : Int) := by rw [w64 (by omega) (by omega)]; rfl
    have e1 : ob[i]? = some ob[i] := List.getElem?_eq_getElem (by omega)
    generalize ob[i] = a at *
    have hlp := h.len
    have z1 : (p.C.length ≤ p.C.length) = True := by simp
    have z2 : (p.C.length ≤ l.length) = True := by simp [hlp]
    have tl : List.take p.C.length l = l := List.take_of_length_le (by omega)
    have tc : List.take p.C.length p.C = p.C := by simp
    have hc := f14_spec h ⟨a.X, a.Y⟩
    simp only at hc
    have hr : r5_18 (n, (i : Int), sx, sy, p.W, p.H, p.C.length, g.X, g.Y, p.C.length, p.W, p.H, p.C.length, g.X, g.Y, p.C.length, ob, p.C, l, p.C, l, ()) = some (.inl (n, ((i + 1 : Nat) : Int), sx, sy, p.W, p.H, p.C.length, g.X, g.Y, p.C.length, p.W, p.H, p.C.length, g.X, g.Y, p.C.length, ob, p.C, l, p.C, l, ())) := by
      unfold r5_18
      simp only [c1, c2, decide_true, Bool.and_self, cond_true, Int.toNat_natCast, Nat.zero_add, e1, Option.bind_some, List.drop_zero, z1, z2, tl, tc, hc, bne_self_eq_false, cond_false, w0]
    have := ih (i + 1) (by omega) (by omega)
    unfold l5_18 at this ⊢
    rw [iterO_eq, hr]
    exact this
end

theorem repairOrder_plain (x : Int × Int × List Int × Int × Int × List Ac × Unit) : f5 x = some (true, ()) := by
  obtain ⟨w, h, C, a, b, L, ⟨⟩⟩ := x
  unfold f5
  simp only [f9_spec, Option.bind_some, Bool.not_true, cond_false, f20_spec]
  by_cases hs : C.length ≤ 100 ∧ L.length ≤ 20
  · simp only [hs, and_self, decide_true, Bool.not_true, cond_false]
    rcases f10_spec (p := ⟨w, h, C⟩) (by simp only; omega) ⟨a, b⟩ with ⟨v, e⟩ | ⟨v, _, e⟩ | ⟨v, _, l, rp, e⟩
    · simp only at e
      simp only [e, Option.bind_some, Sum.elim_inl]
    · simp only at e
      simp only [e, Option.bind_some, Sum.elim_inl, Sum.elim_inr]
    · simp only at e
      obtain ⟨n, ob, u1, u2, u3, u4⟩ := l5_0_spec (sx := a) (sy := b) (r1 := w) (r2 := h) (r3 := C.length) (r4 := a) (r5 := b) (r6 := C.length) (s1 := w) (s2 := h) (s3 := C.length) (s4 := a) (s5 := b) (s6 := C.length) (rC := C) (rl := l) (sC := C) (sl := l) hs.2 L.length 0 0 [] (by omega) (by omega) (by omega) (by simp) ⟨by simp, by simp⟩
      have u1' : l5_0 (L, 0, 0, a, b, w, h, C.length, a, b, C.length, w, h, C.length, a, b, C.length, [], C, l, C, l, ()) = _ := u1
      obtain ⟨l1, m1, k1, k2, k3⟩ := l5_12_spec (sx := a) (sy := b) (g := ⟨a, b⟩) u2 u3 u4.sets n 0 ⟨w, h, C⟩ ⟨w, h, C⟩ l l (by omega) (by omega) rfl rfl rp rp
      rw [List.drop_zero, List.drop_zero] at k3
      rw [List.drop_zero] at k1 k2
      rw [← fold_rev u4] at k2 k3
      have := k2.unique k1
      subst this
      generalize (ob.take n).foldl actP ⟨w, h, C⟩ = p at *
      have k3' : l5_12 (n, 0, a, b, w, h, C.length, a, b, C.length, w, h, C.length, a, b, C.length, ob, C, l, C, l, ()) = some (.inr (n, a, b, p.W, p.H, p.C.length, a, b, p.C.length, p.W, p.H, p.C.length, a, b, p.C.length, ob, p.C, m1, p.C, m1, ())) := k3
      have hcmp := l5_18_spec (sx := a) (sy := b) k1 u2 u3 n 0 (by omega) (by omega)
      have hcmp' : l5_18 (n, 0, a, b, p.W, p.H, p.C.length, a, b, p.C.length, p.W, p.H, p.C.length, a, b, p.C.length, ob, p.C, m1, p.C, m1, ()) = some (.inr (a, b, p.W, p.H, p.C.length, a, b, p.C.length, p.W, p.H, p.C.length, a, b, p.C.length, p.C, m1, p.C, m1, ())) := hcmp
      have hl := k1.len
      have z1 : (p.C.length ≤ p.C.length) = True := by simp
      have z2 : (p.C.length ≤ m1.length) = True := by simp [hl]
      have tl : List.take p.C.length m1 = m1 := List.take_of_length_le (by omega)
      have tc : List.take p.C.length p.C = p.C := by simp
      obtain ⟨nn, kk, ee, o2, g1, g2, g3⟩ := f25_any (p := p) k1.ok.few ⟨a, b⟩ ⟨a, b⟩
      have h15 := f15_spec (p := p) (goal := ⟨a, b⟩) ⟨a, b⟩ m1
      have h19 := f19_spec k1.ok ⟨a, b⟩ m1
      simp only at g1 h15 h19
      have z3 : (nn ≤ o2.length) = True := by simp [g2]
      have h17 := f17_spec (a := o2.take nn) (b := o2.take nn) (by rw [take_len0 g2]; omega)
      simp only [e, Option.bind_some, Sum.elim_inr, u1', k3', hcmp', Nat.zero_add, List.drop_zero, z1, z2, tl, tc, decide_true, cond_true, h15, g1, h19, f18_self, z3, h17, beq_self_eq_true]
  · simp only [hs, decide_false, Bool.not_false, cond_true]

end Go.AE
