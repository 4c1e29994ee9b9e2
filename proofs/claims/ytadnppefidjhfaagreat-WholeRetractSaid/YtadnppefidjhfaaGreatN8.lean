/-
  WholeRetract: the plain law.
-/
import Derived.Test.YtadnppefidjhfaaGreatN5
import Derived.Test.YtadnppefidjhfaaGreatFc
namespace Go.AE
open Go.RowKit
set_option maxRecDepth 100000

/-- '==' of two placements. -/
def tst (a b : Pm) : Bool := bif a.V == b.V then bif a.G == b.G then bif a.X == b.X then bif a.Y == b.Y then bif a.H == b.H then true else false else false else false else false else false
theorem tst_iff (a b : Pm) : tst a b = decide (a = b) := by
  unfold tst
  cases a with
  | mk v g x y h => cases b with
    | mk v' g' x' y' h' =>
      by_cases e1 : v = v'
      · by_cases e2 : g = g'
        · by_cases e3 : x = x'
          · by_cases e4 : y = y'
            · by_cases e5 : h = h' <;> simp [e1, e2, e3, e4, e5]
            · simp [e1, e2, e3, e4]
          · simp [e1, e2, e3]
        · simp [e1, e2]
      · simp [e1]

theorem l3_0_spec (l : List Nt) (hl : l.length ≤ 10) (hS : ∀ n ∈ l, n.S.length ≤ 3) (id : Int) (p : Pm) : ∀ (s i : Nat) (sc : List (Int × List Bm)) (pl : List (Int × Pm)), l.length - i = s → i ≤ l.length → Atl sc pl →
    ∃ sc' pl', l3_0 (l, id, (i : Int), p.V, p.G, p.X, p.Y, p.H, sc, pl, ()) = some (id, p.V, p.G, p.X, p.Y, p.H, sc', pl', ()) ∧ Atl sc' pl'
  | s, i, sc, pl, hs, hi, h => by
    unfold l3_0
    rw [iterO_eq]
    by_cases e : i = l.length
    · have c1 : ¬ ((i : Int) < (l.length : Int)) := by omega
      have hr : r3_0 (l, id, (i : Int), p.V, p.G, p.X, p.Y, p.H, sc, pl, ()) = some (.inr (id, p.V, p.G, p.X, p.Y, p.H, sc, pl, ())) := by
        unfold r3_0
        simp only [c1, decide_false, cond_false]
      rw [hr]
      exact ⟨sc, pl, rfl, h⟩
    · have hlt : i < l.length := by omega
      have c1 : ((i : Int) < (l.length : Int)) := by omega
      have hc : l[i]? = some l[i] := List.getElem?_eq_getElem hlt
      have w1 : IntKind.i64.wrap ((i : Int) + 1) = ((i + 1 : Nat) : Int) := by rw [w64 (by omega) (by omega)]; rfl
      obtain ⟨er, sc1, pl1, h1, h2⟩ := f7_spec h (hS _ (List.getElem_mem hlt))
      have hr : r3_0 (l, id, (i : Int), p.V, p.G, p.X, p.Y, p.H, sc, pl, ()) = some (.inl (l, id, ((i + 1 : Nat) : Int), p.V, p.G, p.X, p.Y, p.H, sc1, pl1, ())) := by
        unfold r3_0
        simp only [c1, decide_true, cond_true, idxO_nat, hc, Option.bind_some, h1, w1]
      rw [hr]
      match s, hs with
      | 0, hs => omega
      | s + 1, hs => exact l3_0_spec l hl hS id p s (i + 1) sc1 pl1 (by omega) (by omega) h2

theorem j70_spec (had : Bool) (p last now : Pm) (h : now = p ∨ had = true ∧ now = last) : j3_70 (had, p.V, p.G, p.X, p.Y, p.H, last.V, last.G, last.X, last.Y, last.H, now.V, now.G, now.X, now.Y, now.H, ()) = some (true, ()) := by
  have e1 : j3_70 (had, p.V, p.G, p.X, p.Y, p.H, last.V, last.G, last.X, last.Y, last.H, now.V, now.G, now.X, now.Y, now.H, ()) = bif tst now p then some (true, ()) else bif had then some (tst now last, ()) else some (false, ()) := rfl
  rw [e1, tst_iff, tst_iff]
  by_cases e : now = p
  · simp only [e, decide_true, cond_true]
  · rcases h with h | ⟨h, h'⟩
    · exact (e h).elim
    · subst h'
      simp only [e, decide_false, cond_false, h, cond_true, decide_true]

/-- Behind the version's test. -/
theorem j64_spec {sc : List (Int × List Bm)} {pl : List (Int × Pm)} (had : Bool) (p last now : Pm) (h : now = p ∨ had = true ∧ now = last) {n3 : Nat} {ob3 : List En} (h3 : n3 ≤ ob3.length) {n : Nat} {ob : List En} (h10 : f10 (sc, pl, ()) = some (n, sc, pl, ob, ())) (hn : n ≤ ob.length) (hl : (ob.take n).length ≤ 2000000)
    (hg : now = p → p.G = true → ob.take n = ob3.take n3) :
    j3_64 (had, n3, p.V, p.G, p.X, p.Y, p.H, last.V, last.G, last.X, last.Y, last.H, ob3, now.V, now.G, now.X, now.Y, now.H, sc, pl, ()) = some (true, ()) := by
  have s70 := j70_spec had p last now h
  have e1 : j3_64 (had, n3, p.V, p.G, p.X, p.Y, p.H, last.V, last.G, last.X, last.Y, last.H, ob3, now.V, now.G, now.X, now.Y, now.H, sc, pl, ()) =
      bif tst now p then
        bif p.G then
          (f10 (sc, pl, ())).bind fun y129 =>
            bif decide ((0 : Nat) + y129.1 ≤ y129.2.2.2.1.length) then
              bif decide ((0 : Nat) + n3 ≤ ob3.length) then
                (f13 (List.take y129.1 (List.drop 0 y129.2.2.2.1), List.take n3 (List.drop 0 ob3), ())).bind fun y128 =>
                  bif !y128.1 then some (false, ()) else
                    (j3_70 (had, p.V, p.G, p.X, p.Y, p.H, last.V, last.G, last.X, last.Y, last.H, now.V, now.G, now.X, now.Y, now.H, ())).bind fun y127 => some (y127.1, ())
              else none
            else none
        else (j3_70 (had, p.V, p.G, p.X, p.Y, p.H, last.V, last.G, last.X, last.Y, last.H, now.V, now.G, now.X, now.Y, now.H, ())).bind fun y130 => some (y130.1, ())
      else (j3_70 (had, p.V, p.G, p.X, p.Y, p.H, last.V, last.G, last.X, last.Y, last.H, now.V, now.G, now.X, now.Y, now.H, ())).bind fun y131 => some (y131.1, ()) := rfl
  rw [e1, tst_iff]
  by_cases e : now = p
  · cases hG : p.G with
    | true =>
      have hq := hg e hG
      have c1 : 0 + n ≤ ob.length := by omega
      have c2 : 0 + n3 ≤ ob3.length := by omega
      have h13 := f13_refl hl
      rw [hG] at s70
      simp only [e, decide_true, cond_true, h10, Option.bind_some, c1, c2, List.drop_zero]
      rw [← hq, h13]
      rw [e] at s70
      simp only [Option.bind_some, Bool.not_true, cond_false, s70]
    | false =>
      rw [hG] at s70
      rw [e] at s70
      simp only [e, decide_true, cond_true, cond_false, s70, Option.bind_some]
  · simp only [e, decide_false, cond_false, s70, Option.bind_some]
end Go.AE

/-
  WholeRetract: the plain law, joined.
-/
namespace Go.AE
open Go.RowKit
set_option maxRecDepth 100000

theorem part_same {sc : List (Int × List Bm)} {pl : List (Int × Pm)} {i j : Int} {p : Pm} (h : i ≠ j) : part sc (mput K3 pl j p) i = part sc pl i := by
  unfold part
  rw [gget_put, if_neg h]

/-- The maps before and after: one part is changed. -/
theorem sums {sc : List (Int × List Bm)} {pl pl' : List (Int × Pm)} {j : Int} (hj : 0 ≤ j ∧ j < 64) (h : ∀ i, i ≠ j → part sc pl' i = part sc pl i) (c : Pt) :
    sumA sc pl' (idsL sc pl' 64) c = sumA sc pl (idsL sc pl 64) c - valA (part sc pl j) c + valA (part sc pl' j) c ∧ sumB sc pl' (idsL sc pl' 64) c = sumB sc pl (idsL sc pl 64) c - valB (part sc pl j) c + valB (part sc pl' j) c := by
  rw [sumA_all, sumA_all, sumB_all, sumB_all]
  have e1 := sum_change (f := fun i => valA (part sc pl' i) c) (g := fun i => valA (part sc pl i) c) (j := j) allI allI_nodup (fun i _ hi => by simp only [h i hi])
  have e2 := sum_change (f := fun i => valB (part sc pl' i) c) (g := fun i => valB (part sc pl i) c) (j := j) allI allI_nodup (fun i _ hi => by simp only [h i hi])
  rw [if_pos (allI_mem hj)] at e1 e2
  unfold sumA sumB
  exact ⟨by omega, by omega⟩

theorem wholeRetract_f3 (h4 : f4 () = some (true, ())) (l : List Nt) (id : Int) (p : Pm) : f3 (l, id, p.V, p.G, p.X, p.Y, p.H, ()) = some (true, ()) := by
  unfold f3
  simp only [h4, Option.bind_some, Bool.not_true, cond_false]
  obtain ⟨b, hb1, hb2⟩ := f5_spec l
  cases b with
  | false => simp only [hb1, Option.bind_some, Bool.not_false, cond_true]
  | true =>
    obtain ⟨hl, hS⟩ := hb2 rfl
    have hA0 : Atl [] [] := ⟨fun i S h => (by cases h), fun i S h => (by cases h)⟩
    obtain ⟨sc, pl, s1, hA⟩ := l3_0_spec l hl hS id p _ 0 [] [] rfl (by omega) hA0
    have s1' : l3_0 (l, id, 0, p.V, p.G, p.X, p.Y, p.H, f6.fst, f6.snd, ()) = some (id, p.V, p.G, p.X, p.Y, p.H, sc, pl, ()) := s1
    obtain ⟨j, hj1, hj2⟩ := f8_spec id
    obtain ⟨n1, ob1, a1, a2, a3, a4⟩ := f9_spec hA j
    obtain ⟨n2, ob2, b1, b2, b3, b4⟩ := f10_spec hA
    obtain ⟨er, pl', c1, c2, c3⟩ := f12_spec hA j p
    have hf11 : ∃ V G X Y H had, f11 j sc pl = (V, G, X, Y, H, had, sc, pl) ∧ (∀ q, mget K3 pl j = some q → V = q.V ∧ G = q.G ∧ X = q.X ∧ Y = q.Y ∧ H = q.H ∧ had = true) ∧ (mget K3 pl j = none → had = false) := by
      cases hg : mget K3 pl j with
      | none => exact ⟨0, false, 0, 0, 0, false, f11_none sc hg, fun q h => (by cases h), fun _ => rfl⟩
      | some q => exact ⟨q.V, q.G, q.X, q.Y, q.H, true, f11_get sc hg, fun q' h => (by cases h; exact ⟨rfl, rfl, rfl, rfl, rfl, rfl⟩), fun h => (by cases h)⟩
    obtain ⟨V, G, X, Y, H, had, d1, d2, d3⟩ := hf11
    simp only [hb1, Option.bind_some, Bool.not_true, cond_false, s1', hj1, a1, b1, d1, c1]
    rcases c3 with ⟨hne, rfl⟩ | ⟨rfl, hpl⟩
    · -- it is refused: nothing changes
      have e1 : (er != 0) = true := by simpa using hne
      have z2 : 0 + n2 ≤ ob2.length := by omega
      have h13 := f13_refl (l := ob2.take n2) (by have := b3.len; omega)
      simp only [e1, cond_true, b1, Option.bind_some, z2, decide_true, List.drop_zero, h13]
    · have e1 : ((0 : Int) != 0) = false := by decide
      -- what is there now
      have hnow : ∃ now, mget K3 pl' j = some now ∧ (∀ i, i ≠ j → part sc pl' i = part sc pl i) ∧ (now = p ∨ had = true ∧ (now.V = V ∧ now.G = G ∧ now.X = X ∧ now.Y = Y ∧ now.H = H)) ∧ (had = true → p.V < V → pl' = pl) := by
        rcases hpl with ⟨rfl, hq⟩ | ⟨rfl, q, hq⟩
        · refine ⟨p, by rw [gget_put, if_pos rfl], fun i hi => part_same hi, .inl rfl, fun hh hlt => ?_⟩
          cases hg : mget K3 pl j with
          | none => rw [d3 hg] at hh; cases hh
          | some q =>
            have := hq q hg
            rw [(d2 q hg).1] at hlt
            exact (this hlt).elim
        · obtain ⟨x1, x2, x3, x4, x5, x6⟩ := d2 q hq
          exact ⟨q, hq, fun i _ => rfl, .inr ⟨x6, x1.symm, x2.symm, x3.symm, x4.symm, x5.symm⟩, fun _ _ => rfl⟩
      obtain ⟨now, g1, g2, g3, g4⟩ := hnow
      obtain ⟨n4, ob4, p1, p2, p3, p4⟩ := f9_spec c2 j
      obtain ⟨n6, ob6, q1, q2, q3, q4⟩ := f10_spec c2
      have z1 : 0 + n1 ≤ ob1.length := by omega
      have z2 : 0 + n2 ≤ ob2.length := by omega
      have z4 : 0 + n4 ≤ ob4.length := by omega
      have z6 : 0 + n6 ≤ ob6.length := by omega
      rw [← a3] at a4
      obtain ⟨n3, ob3, u1, u2, u3, u4⟩ := f24_spec b3 a4 (by omega) (by omega) (k := -1) (.inr rfl)
      have h14 : f14 (List.take n2 ob2, List.take n1 ob1, ()) = some (n3, 0, ob3, ()) := by
        unfold f14
        simp only [u1, Option.bind_some]
      rw [← p3] at p4
      obtain ⟨n5, ob5, v1, v2, v3, v4⟩ := f24_spec u3 p4 (by omega) (by omega) (k := 1) (.inl rfl)
      have h15 : f15 (List.take n3 ob3, List.take n4 ob4, ()) = some (n5, 0, ob5, ()) := by
        unfold f15
        simp only [v1, Option.bind_some]
      have z3 : 0 + n3 ≤ ob3.length := by omega
      have z5 : 0 + n5 ≤ ob5.length := by omega
      have hsum := fun c => sums (sc := sc) (pl := pl) (pl' := pl') hj2 g2 c
      have e56 : ob5.take n5 = ob6.take n6 := v3.n.ext q3.n (fun c => by
        have k1 := v4 c
        have k2 := u4 c
        have k3 := b4 c
        have k4 := q4 c
        have k5 := hsum c
        rw [a3] at k2
        rw [p3] at k1
        exact ⟨by omega, by omega⟩)
      have h13 := f13_refl (l := ob6.take n6) (by have := q3.len; omega)
      have d4 := f11_get sc g1
      -- gone: the map without it
      have hgone : now = p → p.G = true → ob6.take n6 = ob3.take n3 := fun hx hG => q3.n.ext u3.n (fun c => by
        have hp : part sc pl' j = [] := by
          unfold part
          rw [g1]
          cases mget K3 sc j with
          | none => rfl
          | some S => simp only [hx, hG, cond_true]
        have k2 := u4 c
        have k3 := b4 c
        have k4 := q4 c
        have k5 := hsum c
        rw [hp] at k5
        rw [a3] at k2
        have z : valA [] c = 0 := rfl
        have z' : valB [] c = 0 := rfl
        rw [z, z'] at k5
        exact ⟨by omega, by omega⟩)
      have hfin := j64_spec (sc := sc) (pl := pl') had p ⟨V, G, X, Y, H⟩ now (by
        rcases g3 with h | ⟨h1, h2, h3, h4, h5, h6⟩
        · exact .inl h
        · refine .inr ⟨h1, ?_⟩
          cases now
          simp only at h2 h3 h4 h5 h6
          rw [h2, h3, h4, h5, h6]) u2 q1 q2 (by have := q3.len; omega) hgone
      simp only at hfin
      simp only [e1, cond_false, z1, z2, decide_true, cond_true, List.drop_zero, h14, Option.bind_some, p1, z3, z4, h15, d4, Bool.not_true, q1, z5, z6]
      rw [e56, h13]
      simp only [Option.bind_some, Bool.not_true, cond_false]
      cases had with
      | false => simp only [cond_false, hfin, Option.bind_some]
      | true =>
        simp only [cond_true]
        by_cases hlt : p.V < V
        · have hpp := g4 rfl hlt
          subst hpp
          obtain ⟨x1, x2, x3, x4, x5, x6⟩ := d2 now g1
          rw [b1] at q1
          cases q1
          have t1 : (now.V == V) = true := by rw [x1]; simp
          have t2 : (now.G == G) = true := by rw [x2]; simp
          have t3 : (now.X == X) = true := by rw [x3]; simp
          have t4 : (now.Y == Y) = true := by rw [x4]; simp
          have t5 : (now.H == H) = true := by rw [x5]; simp
          simp only [hlt, decide_true, cond_true, t1, t2, t3, t4, t5, Bool.not_true, cond_false, h13, Option.bind_some, hfin]
        · simp only [hlt, decide_false, cond_false, hfin, Option.bind_some]
end Go.AE

/-
  The fixed calls: what an atlas holds after one scan and one placement; its tiles.
-/
namespace Go.AE
open Go.Proofs Go.RowKit
set_option maxRecDepth 100000

/-! ### The heading 0 -/

theorem f74_dd {d : Int} (hd : 1 ≤ d) (hd2 : d ≤ 1048576) : f74 (d, 0, d, ()) = some (1, 0, 1, ()) := by
  have s1 := l74_6_spec d 0 d d 0 0 0 0 0 (d.natAbs : Int) d (by omega) (by omega)
  have s2 := l74_6_spec d 0 d d 0 1 0 0 0 0 d (by omega) (by omega)
  have g1 : (Int.gcd d (d.natAbs : Int) : Int) = d := by
    have : Int.gcd d (d.natAbs : Int) = d.natAbs := by simp [Int.gcd]
    rw [this]; omega
  have g2 : (Int.gcd d 0 : Int) = d := by
    have : Int.gcd d 0 = d.natAbs := by simp
    rw [this]; omega
  rw [g1] at s1
  rw [g2] at s2
  have a1 := abs_c (n := d) (by omega) (by omega)
  have a2 := abs_c (n := 0) (by omega) (by omega)
  have a2' : (bif decide (IntKind.i64.wrap (0 - 0) > 0) then IntKind.i64.wrap (0 - 0) else 0) = (0 : Int) := a2
  have i0 : idxO [d, 0] (0 : Int) = some d := rfl
  have i1 : idxO [d, 0] (1 : Int) = some 0 := rfl
  have hl : l74_0 (d, 0, d, d, d, 0, 0, 0, 0, 0, ()) = some (d, 0, d, d, 0, 0, 0, ()) := by
    unfold l74_0
    have r0 : r74_0 (d, 0, d, d, d, 0, 0, 0, 0, 0, ()) = some (.inl (d, 0, d, d, d, 0, 1, 0, 0, 0, ())) := by
      unfold r74_0 l74_6
      simp only [i0, Option.bind_some, a1, s1]
      rfl
    have r1 : r74_0 (d, 0, d, d, d, 0, 1, 0, 0, 0, ()) = some (.inl (d, 0, d, d, d, 0, 2, 0, 0, 0, ())) := by
      unfold r74_0 l74_6
      simp only [i1, Option.bind_some, a2', s2]
      rfl
    have r2 : r74_0 (d, 0, d, d, d, 0, 2, 0, 0, 0, ()) = some (.inr (d, 0, d, d, 0, 0, 0, ())) := by
      unfold r74_0
      rfl
    rw [iterO_eq, r0]
    show iterO r74_0 _ = _
    rw [iterO_eq, r1]
    show iterO r74_0 _ = _
    rw [iterO_eq, r2]
  have q : (d == 0) = false := by rw [beq_eq_false_iff_ne]; omega
  have t1 : d.tdiv d = 1 := Int.tdiv_self (by omega)
  have t2 : (0 : Int).tdiv d = 0 := Int.zero_tdiv _
  have w1 : IntKind.i64.wrap 1 = 1 := by decide
  have w0 : IntKind.i64.wrap 0 = 0 := by decide
  unfold f74
  simp only [hl, Option.bind_some, q, cond_false, t1, t2, w1, w0]

theorem f57_zero : f57 (0, ()) = some (1, 0, 1, ()) := by
  have e : f75 0 = 0 := by rw [f75_spec]; rfl
  have s1 := f74_dd (d := 4096) (by omega) (by omega)
  have s2 : l57_0 (0, 0, 0, 0, 0, 1, 0, 1, ()) = some (0, 0, 0, 1, 0, 1, ()) := by
    unfold l57_0
    rw [iterO_eq]
    rfl
  have w1 : IntKind.i64.wrap (4096 - IntKind.i64.wrap ((0 : Int).tmod 64 * (0 : Int).tmod 64)) = 4096 := by decide
  have w2 : IntKind.i64.wrap (128 * (0 : Int).tmod 64) = 0 := by decide
  have w3 : IntKind.i64.wrap (4096 + IntKind.i64.wrap ((0 : Int).tmod 64 * (0 : Int).tmod 64)) = 4096 := by decide
  have w4 : IntKind.i64.wrap ((0 : Int).tdiv 64) = 0 := by decide
  unfold f57
  simp only [e, w1, w2, w3, w4, s1, Option.bind_some, s2]

theorem vv101 : VV 1 0 1 := ⟨by omega, by omega, by omega, by omega, by omega, by omega, by omega⟩

theorem f32_zero : f32 (0, 0, ()) = some (1, 0, 1, ()) := by
  have t1 : f73 1 0 1 = true := (f113_sg 1 0 1).2 vv101
  have s1 := f74_dd (d := 1) (by omega) (by omega)
  have w1 : IntKind.i64.wrap (1 - IntKind.i64.wrap (0 * 0)) = 1 := by decide
  have w2 : IntKind.i64.wrap (IntKind.i64.wrap (1 * 0) + IntKind.i64.wrap (0 * 1)) = 0 := by decide
  have w3 : IntKind.i64.wrap (1 * 1) = 1 := by decide
  have s2 : f56 (1, 0, 1, 1, 0, 1, ()) = some (1, 0, 1, 0, ()) := by
    unfold f56
    have c : ¬ ((1 : Int) > 67108864) := by omega
    simp only [t1, Bool.not_true, cond_false, w1, w2, w3, s1, Option.bind_some, c, decide_false]
  unfold f32
  simp only [f57_zero, Option.bind_some, s2]

/-! ### The cells -/

theorem met_c {lo hi : Int} (h0 : 0 ≤ lo) (hlh : lo ≤ hi) (hhi : hi ≤ 2048) (c : Pt) : Met 32 32 1 0 1 lo hi c ↔ c.Y = 0 ∧ c.X * 64 ≤ 32 + hi ∧ 32 + lo ≤ c.X * 64 + 64 := by
  constructor
  · intro h
    obtain ⟨t, ⟨_, _, ⟨x1, x2⟩, y1, y2⟩, l1, l2⟩ := h.point hlh
    have e0 : ((0 : Int) : Rat) = 0 := rfl
    have e1 : ((1 : Int) : Rat) = 1 := rfl
    rw [e1, Rat.mul_one] at x1 x2 l1 l2
    rw [e0, Rat.mul_zero, Rat.add_zero] at y1 y2
    have y1' : c.Y * 64 ≤ 32 := rat_le.1 y1
    have y2' : 32 ≤ c.Y * 64 + 64 := rat_le.1 y2
    have x1' : ((c.X * 64 : Int) : Rat) ≤ ((32 + hi : Int) : Rat) := by
      refine Rat.le_trans x1 ?_
      rw [Rat.intCast_add]
      exact Rat.add_le_add_left.2 l2
    have x2' : ((32 + lo : Int) : Rat) ≤ ((c.X * 64 + 64 : Int) : Rat) := by
      refine Rat.le_trans ?_ x2
      rw [Rat.intCast_add]
      exact Rat.add_le_add_left.2 l1
    have x1'' := rat_le.1 x1'
    have x2'' := rat_le.1 x2'
    omega
  · rintro ⟨h1, h2, h3⟩
    obtain ⟨m, m1, m2, m3, m4⟩ : ∃ m : Int, lo ≤ m ∧ m ≤ hi ∧ c.X * 64 ≤ 32 + m ∧ 32 + m ≤ c.X * 64 + 64 := by
      by_cases h : c.X * 64 - 32 ≤ lo
      · exact ⟨lo, by omega, hlh, by omega, by omega⟩
      · exact ⟨c.X * 64 - 32, by omega, by omega, by omega, by omega⟩
    have hok : okR 32 32 1 0 1 (c.X * 64) (c.Y * 64) (c.X * 64 + 64) (c.Y * 64 + 64) := by
      unfold okR nr
      refine ⟨by omega, vv101, ?_⟩
      refine ⟨?_, ?_, ?_, ?_, by omega, by omega⟩ <;> unfold nr <;> omega
    have hin : inR 32 32 1 0 (c.X * 64) (c.Y * 64) (c.X * 64 + 64) (c.Y * 64 + 64) (m : Rat) := by
      have e0 : ((0 : Int) : Rat) = 0 := rfl
      have e1 : ((1 : Int) : Rat) = 1 := rfl
      refine ⟨?_, ?_, ⟨?_, ?_⟩, ?_, ?_⟩
      · exact rat_le.2 (by omega : (0 : Int) ≤ m)
      · exact rat_le.2 (by omega : m ≤ (8388608 : Int))
      · rw [e1, Rat.mul_one, ← Rat.intCast_add]; exact rat_le.2 m3
      · rw [e1, Rat.mul_one, ← Rat.intCast_add]; exact rat_le.2 m4
      · rw [e0, Rat.mul_zero, Rat.add_zero]; exact rat_le.2 (by omega)
      · rw [e0, Rat.mul_zero, Rat.add_zero]; exact rat_le.2 (by omega)
    cases hk : thruC 32 32 1 0 1 c with
    | none => exact (thru_none hk hok (m : Rat) hin).elim
    | some q =>
      obtain ⟨l, u⟩ := q
      obtain ⟨_, _, g3⟩ := thru_some hk
      obtain ⟨k1, k2⟩ := (g3 _).1 hin
      have e1 : ((1 : Int) : Rat) = 1 := rfl
      refine ⟨l, u, hk, ?_, ?_⟩
      · rw [e1, Rat.mul_one]; exact Rat.le_trans (rat_le.2 m1) k2
      · rw [e1, Rat.mul_one]; exact Rat.le_trans k1 (rat_le.2 m2)

theorem trcL (c : Pt) : c ∈ trc 32 32 1 0 1 0 96 ↔ c.Y = 0 ∧ 0 ≤ c.X ∧ c.X ≤ 2 := by
  rw [trc_mem (by omega), met_c (by omega) (by omega) (by omega)]
  omega
theorem trcE (c : Pt) : c ∈ trc 32 32 1 0 1 96 96 ↔ c.Y = 0 ∧ 1 ≤ c.X ∧ c.X ≤ 2 := by
  rw [trc_mem (by omega), met_c (by omega) (by omega) (by omega)]
  omega

/-! ### The evidence -/

theorem Nrm.same {l m : List En} (h : Nrm l) (k : Nrm m) (hm : ∀ e, e ∈ l ↔ e ∈ m) : l = m := by
  have nd : ∀ {l : List En}, Nrm l → l.Nodup := fun {l} h => List.Pairwise.imp (R := ltE) (fun {a b} hab (e : a = b) => ltE_cel hab (by rw [e])) h.s
  exact List.Perm.eq_of_pairwise (le := ltE) (fun a b _ _ h1 h2 => by unfold ltE at h1 h2; omega) h.s k.s ((List.perm_ext_iff_of_nodup (nd h) (nd k)).2 hm)

theorem awk_nrm : Nrm awk := by
  refine ⟨?_, ?_⟩
  · unfold awk ltE
    simp
  · intro e he
    unfold awk at he
    simp only [List.mem_cons, List.not_mem_nil, or_false] at he
    rcases he with rfl | rfl | rfl <;> rfl

noncomputable def sc1 : List (Int × List Bm) := mput K3 [] 3 [⟨0, 96⟩]
noncomputable def pl1 : List (Int × Pm) := mput K3 [] 3 ⟨1, false, 32, 32, 0⟩

theorem atl1 : Atl sc1 pl1 := by
  have hA0 : Atl [] [] := ⟨fun i S h => (by cases h), fun i S h => (by cases h)⟩
  refine (hA0.put (i := 3) (by omega) (S := [⟨0, 96⟩]) (by simp) (fun b hb => ?_)).place (i := 3) (by omega) (p := ⟨1, false, 32, 32, 0⟩) ?_
  · rw [List.mem_singleton.1 hb]
    unfold okB
    simp only
    omega
  · unfold okPm
    rfl

theorem sc1_get (i : Int) : mget K3 sc1 i = if i = 3 then some [⟨0, 96⟩] else none := by
  unfold sc1
  rw [gget_put]
  rfl
theorem pl1_get (i : Int) : mget K3 pl1 i = if i = 3 then some ⟨1, false, 32, 32, 0⟩ else none := by
  unfold pl1
  rw [gget_put]
  rfl

theorem part_other {i : Int} (h : i ≠ 3) : part sc1 pl1 i = [] := by
  unfold part
  rw [sc1_get, if_neg h]

theorem part_awk : part sc1 pl1 3 = awk := by
  obtain ⟨_, _, _, _, _, hg⟩ := f9_spec atl1 3
  refine hg.n.same awk_nrm fun e => ?_
  have hp : part sc1 pl1 3 = sortE ((trc 32 32 1 0 1 0 96).map (enOf (trc 32 32 1 0 1 96 96))) := by
    unfold part
    rw [sc1_get, pl1_get, if_pos rfl, if_pos rfl]
    show ofL 32 32 0 [⟨0, 96⟩] = _
    unfold ofL
    have := f19_one (px := 32) (py := 32) (hd := 0) (x := 1) (y := 0) (d := 1) (b := ⟨0, 96⟩) (by omega) (by omega) (by simp only; omega) (by simp only; omega) f32_zero vv101
    rw [this]
    simp only
    exact List.take_of_length_le (by rw [sortE_len, List.length_map]; exact Nat.le_refl _)
  rw [hp, (sortE_perm _).mem_iff, List.mem_map]
  unfold awk
  simp only [List.mem_cons, List.not_mem_nil, or_false]
  constructor
  · rintro ⟨⟨cx, cy⟩, hc, rfl⟩
    rw [trcL] at hc
    simp only at hc
    unfold enOf
    have : cx = 0 ∨ cx = 1 ∨ cx = 2 := by omega
    obtain ⟨rfl, _⟩ := hc
    rcases this with rfl | rfl | rfl
    · rw [if_neg (by rw [trcE]; decide)]; exact .inl rfl
    · rw [if_pos (by rw [trcE]; decide)]; exact .inr (.inl rfl)
    · rw [if_pos (by rw [trcE]; decide)]; exact .inr (.inr rfl)
  · rintro (rfl | rfl | rfl)
    · exact ⟨⟨0, 0⟩, by rw [trcL]; decide, by unfold enOf; rw [if_neg (by rw [trcE]; decide)]⟩
    · exact ⟨⟨1, 0⟩, by rw [trcL]; decide, by unfold enOf; rw [if_pos (by rw [trcE]; decide)]⟩
    · exact ⟨⟨2, 0⟩, by rw [trcL]; decide, by unfold enOf; rw [if_pos (by rw [trcE]; decide)]⟩

theorem map_awk : ∃ ob : List En, f10 (sc1, pl1, ()) = some (3, sc1, pl1, ob, ()) ∧ 3 ≤ ob.length ∧ ob.take 3 = awk ∧ f28 (awk, ()) = some (true, ()) := by
  obtain ⟨n, ob, h1, h2, h3, h4⟩ := f10_spec atl1
  have one : ∀ (f : List En → Int), f [] = 0 → (allI.map fun i => f (part sc1 pl1 i)).sum = f awk := fun f hf => by
    have := sum_change (f := fun i => f (part sc1 pl1 i)) (g := fun _ => 0) (j := 3) allI allI_nodup (fun i _ hi => by simp only [part_other hi, hf])
    rw [if_pos (allI_mem (by omega)), part_awk] at this
    rw [this]
    have z : (allI.map fun _ => (0 : Int)).sum = 0 := by decide
    rw [z]
    omega
  have e : ob.take n = awk := h3.n.ext awk_nrm fun c => by
    obtain ⟨k1, k2⟩ := h4 c
    rw [k1, k2, sumA_all, sumB_all]
    exact ⟨one (fun l => valA l c) rfl, one (fun l => valB l c) rfl⟩
  have hn : n = 3 := by
    have := congrArg List.length e
    rw [List.length_take] at this
    have h3 : awk.length = 3 := rfl
    omega
  subst hn
  rw [e] at h3
  exact ⟨ob, h1, h2, e, h3.valid (by omega) (by omega)⟩

/-! ### The calls -/

theorem f25_one : f25 ([⟨0, 96⟩], ()) = some (true, ()) := by
  have w1 : IntKind.i64.wrap (0 + 1) = 1 := by decide
  have s1 : r970_0 ([⟨0, 96⟩], 1, 0, ()) = some (.inl ([⟨0, 96⟩], 1, 1, ())) := by
    unfold r970_0
    have e : idxO [(⟨0, 96⟩ : Bm)] (0 : Int) = some ⟨0, 96⟩ := rfl
    have c : (0 : Int) < 1 := by omega
    have e45 : f45 0 96 = false := rfl
    simp only [c, decide_true, cond_true, e, Option.bind_some, e45, cond_false, w1]
  have s2 : r970_0 ([⟨0, 96⟩], 1, 1, ()) = some (.inr (.inr ())) := by
    unfold r970_0
    have c : ¬ (1 : Int) < 1 := by omega
    simp only [c, decide_false, cond_false]
  have s3 : l970_0 ([⟨0, 96⟩], 1, 0, ()) = some (.inr ()) := by
    unfold l970_0
    rw [iterO_eq, s1]
    show iterO r970_0 ([⟨0, 96⟩], 1, 1, ()) = _
    rw [iterO_eq, s2]
  unfold f25 f944 f970
  have e1 : (([(⟨0, 96⟩ : Bm)].length : Nat) : Int) = 1 := rfl
  have c : (1 : Int) ≤ 32 := by omega
  have c2 : ¬ ((-1 : Int) ≥ 0) := by omega
  simp only [e1, c, decide_true, cond_true, s3, Option.bind_some, Sum.elim_inr, c2, decide_false, Bool.not_false]

theorem f16_one : f16 (3, [⟨0, 96⟩], [], [], ()) = some (0, sc1, [], ()) := by
  have h22 : f22 3 = true := rfl
  have hm : ∀ i : Int, mget (keyB tC (3 : TypeId)) ([] : List (Int × List Bm)) i = none := fun _ => rfl
  unfold f16
  simp only [f25_one, Option.bind_some, Bool.not_true, cond_false, h22, hm, Option.isSome_none, Bool.not_false, cond_true, f27_spec (S := [⟨0, 96⟩]) (by simp), j16_25]
  rfl

theorem f12_one : f12 (3, 1, false, 32, 32, 0, sc1, [], ()) = some (0, sc1, pl1, ()) := by
  have h21 : f21 1 false 32 32 0 = true := rfl
  have h22 : f22 3 = true := rfl
  have hm : ∀ i : Int, mget (keyB tC (3 : TypeId)) ([] : List (Int × Pm)) i = none := fun _ => rfl
  unfold f12
  simp only [h21, h22, Bool.not_true, cond_false, hm, Option.isSome_none, Bool.not_false, cond_true, j12_25, Option.bind_some]
  rfl

theorem f29_awk : f29 (awk, ()) = some (1, [⟨0, 0, [0, 0, 2, 0, 2, 0, 0, 2, 0]⟩], ()) := by
  unfold f29 atL
  simp only [decide_true, cond_true]

theorem f17_awk (h : f28 (awk, ()) = some (true, ())) : ∃ l, f17 (awk, ()) = some (1, 0, l, ()) := by
  unfold f17
  simp only [h, Option.bind_some, Bool.not_true, cond_false, f29_awk]
  exact ⟨_, rfl⟩

theorem f4_awake : f4 () = some (true, ()) := by
  obtain ⟨ob, h1, h2, h3, h4⟩ := map_awk
  obtain ⟨l, h5⟩ := f17_awk h4
  have e1 : f6.fst = [] := rfl
  have e2 : f6.snd = [] := rfl
  have z : 0 + 3 ≤ ob.length := by omega
  unfold f4
  simp only [e1, e2, f16_one, Option.bind_some, f12_one, h1, z, decide_true, cond_true, List.drop_zero, h3, h5]
  rfl

theorem wholeRetract_plain (l : List Nt) (id : Int) (p : Pm) : f3 (l, id, p.V, p.G, p.X, p.Y, p.H, ()) = some (true, ()) := wholeRetract_f3 f4_awake l id p
end Go.AE
