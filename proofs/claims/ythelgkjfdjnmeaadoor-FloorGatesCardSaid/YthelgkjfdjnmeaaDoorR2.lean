/-
  floor.Maze.
-/
import Derived.Test.YthelgkjfdjnmeaaDoorR1
import Derived.Test.YthelgkjfdjnmeaaDoorFg
import Derived.Laws.Bits64b
namespace Go.AE
open Go.Proofs Go.RowKit
set_option maxRecDepth 100000

/-! ### bytes.Repeat of one byte -/

theorem mask_small {n : Nat} (h : n < 4294967296) : bits .and .u64 (n : Int) 4294967295 = (n : Int) := by
  have h1 := bits_and_u64_nat n 4294967295 (by omega) (by omega)
  have e : n &&& 4294967295 = n := by
    have := Nat.and_two_pow_sub_one_eq_mod n 32
    rw [show (4294967295 : Nat) = 2 ^ 32 - 1 from rfl, this]
    exact Nat.mod_eq_of_lt (by omega)
  rw [e] at h1
  exact h1
theorem fdiv_small {n : Int} (h0 : 0 ≤ n) (h : n < 4294967296) : n.fdiv 4294967296 = 0 := by
  rw [Int.fdiv_eq_ediv_of_nonneg _ (by omega)]
  exact Int.ediv_eq_zero_of_lt h0 h

theorem f63_one {n : Nat} (h : n ≤ 8192) : f63 1 (n : Int) = (0, (n : Int)) := by
  have m1 : bits .and .u64 (1 : Int) 4294967295 = 1 := mask_small (n := 1) (by omega)
  have m2 : bits .and .u64 (n : Int) 4294967295 = (n : Int) := mask_small (by omega)
  have m0 : bits .and .u64 (0 : Int) 4294967295 = 0 := mask_small (n := 0) (by omega)
  have d1 : (1 : Int).fdiv 4294967296 = 0 := fdiv_small (by omega) (by omega)
  have d0 : (0 : Int).fdiv 4294967296 = 0 := fdiv_small (by omega) (by omega)
  have dn : (n : Int).fdiv 4294967296 = 0 := fdiv_small (by omega) (by omega)
  have w0 : IntKind.u64.wrap 0 = 0 := by decide
  have wn : IntKind.u64.wrap (n : Int) = n := u64w (by omega) (by omega)
  unfold f63 f67
  simp only [m1, m2, d1, dn, Int.one_mul, Int.zero_mul, Int.mul_zero, wn, w0, Int.add_zero, d0, m0]

theorem f47_spec {n : Nat} (b : Int) (h1 : 1 ≤ n) (h2 : n ≤ 8192) : f47 ([b], (n : Int), ()) = some (n, List.replicate n b, ()) := by
  have w1 : IntKind.u64.wrap (([b].length : Nat) : Int) = 1 := u64w (n := 1) (by omega) (by omega)
  have wn : IntKind.u64.wrap (n : Int) = n := u64w (by omega) (by omega)
  have wi : IntKind.i64.wrap (n : Int) = n := w64 (by omega) (by omega)
  have c1 : ((n : Int) == 0) = false := by simp; omega
  have c2 : ¬ ((n : Int) < 0) := by omega
  have c3 : ¬ ((n : Int) > 9223372036854775807) := by omega
  have c4 : ¬ ((n : Int) > 8192) := by omega
  have c5 : ((([b].length : Nat) : Int) == 0) = false := rfl
  have hj : j47_49 ([b], (n : Int), (n : Int), ()) = some (n, List.replicate n b, ()) := by
    have d1 : (1 : Int) ≤ (n : Int) := by omega
    have d2 : (n : Int) ≤ 8192 := by omega
    unfold j47_49
    simp only [List.length_singleton, d1, d2, decide_true, Bool.and_self, cond_true, Int.toNat_natCast, List.headD_cons]
  have c6 : ¬ ((0 : Int) > 0) := by omega
  unfold f47
  simp only [w1, wn, f63_one h2, wi, c1, c2, c3, c4, c5, c6, decide_false, cond_false, hj, Option.bind_some]

theorem f46_spec (n : Int) : f46 n = decide (n % 2 = 1 ∧ 3 ≤ n ∧ n ≤ 63) := by
  unfold f46
  by_cases h0 : 0 ≤ n
  · have e : n.tmod 2 = n % 2 := Int.tmod_eq_emod_of_nonneg h0
    rw [e]
    by_cases h1 : n % 2 = 1 <;> by_cases h2 : 3 ≤ n <;> by_cases h3 : n ≤ 63 <;> simp [h1, h2, h3]
  · have h2 : ¬ (n ≥ 3) := by omega
    cases (n.tmod 2 == 1) <;> simp [h2]

/-! ### at, below -/

theorem f48_spec {p : Pl} (hp : p.Ok) {c : Pt} (hc : p.inP c) (W H : Int) : f48 (c.X, c.Y, p.W, p.C, W, H, p.C.length, ()) = some (p.ix c, p.C, W, H, p.C.length, ()) := by
  have h1 := Pl.ix_lt hp hc
  have c1 : (0 : Int) ≤ ((p.ix c : Nat) : Int) := by omega
  have c2 : ((p.ix c : Nat) : Int) < (p.C.length : Int) := by omega
  unfold f48
  simp only [ix_w hp hc, c1, c2, decide_true, Bool.and_self, cond_true, Int.toNat_natCast, Nat.zero_add]

theorem wrap_u64_nonneg (x : Int) : 0 ≤ IntKind.u64.wrap x ∧ IntKind.u64.wrap x ≤ 18446744073709551615 := by
  rw [IntKind.wrap_u64]; omega

theorem f49_spec {m : Nat} (h1 : 1 ≤ m) (h2 : m ≤ 4) (r : Int) : ∃ (k : Nat) (r' : Int), k < m ∧ f49 ((m : Int), r, ()) = some ((k : Int), r', ()) := by
  have wm : IntKind.u64.wrap (m : Int) = m := u64w (by omega) (by omega)
  have c1 : ((m : Int) == 0) = false := by simp; omega
  obtain ⟨A, hA⟩ : ∃ A, IntKind.u64.wrap (IntKind.u64.wrap (r * 6364136223846793005) + 1442695040888963407) = A := ⟨_, rfl⟩
  have hA0 := wrap_u64_nonneg (IntKind.u64.wrap (r * 6364136223846793005) + 1442695040888963407)
  rw [hA] at hA0
  have e1 : A.fdiv 8589934592 = A / 8589934592 := Int.fdiv_eq_ediv_of_nonneg _ (by omega)
  have e2 : (A / 8589934592).tmod (m : Int) = A / 8589934592 % (m : Int) := Int.tmod_eq_emod_of_nonneg (by omega)
  have b1 : 0 ≤ A / 8589934592 % (m : Int) := Int.emod_nonneg _ (by omega)
  have b2 : A / 8589934592 % (m : Int) < (m : Int) := Int.emod_lt_of_pos _ (by omega)
  have w1 : IntKind.i64.wrap (A / 8589934592 % (m : Int)) = A / 8589934592 % (m : Int) := w64 (by omega) (by omega)
  refine ⟨(A / 8589934592 % (m : Int)).toNat, A, by omega, ?_⟩
  unfold f49
  simp only [wm, c1, cond_false, hA, e1, e2, w1]
  rw [show (((A / 8589934592 % (m : Int)).toNat : Nat) : Int) = A / 8589934592 % (m : Int) from by omega]

/-! ### The ways -/

def wayB (p : Pl) (u d : Pt) : Bool := decide (0 < (Pl.add2 u d).X) && (decide (0 < (Pl.add2 u d).Y) && (decide ((Pl.add2 u d).X < p.W) && (decide ((Pl.add2 u d).Y < p.H) && (p.C.getD (p.ix (Pl.add2 u d)) 0 == 2))))

theorem wayB_iff {p : Pl} (hp : p.Ok) (ht : p.two) {u d : Pt} (hd : d ∈ Pl.four) (hf : p.free u) (ho : Pl.odd2 u) : wayB p u d = true ↔ Pl.Way p u d := by
  unfold wayB
  simp only [Bool.and_eq_true, decide_eq_true_eq, beq_iff_eq]
  constructor
  · rintro ⟨h1, h2, h3, h4, h5⟩
    exact ⟨hd, hf, ho, ⟨h1, h3, h2, h4⟩, fun hx => by have := hx.2; omega⟩
  · rintro ⟨_, _, _, ⟨h1, h3, h2, h4⟩, h5⟩
    refine ⟨h1, h2, h3, h4, ?_⟩
    have hin : p.inP (Pl.add2 u d) := by unfold Pl.inP; omega
    have hlt := Pl.ix_lt hp hin
    have hg := cell_get hp hin
    have := ht _ (List.mem_of_getElem? hg)
    rcases this with e | e
    · exact (h5 ⟨hin, e⟩).elim
    · exact e

section
variable {p : Pl} {n : Nat} {a b W H r : Int} {P : List Pt} {u : Pt}

theorem r31_6_spec (hp : p.Ok) (hu : p.inP u) {j : Nat} {d : Pt} (hj : Pl.four[j]? = some d) (hj4 : j < 4) (hd : d ∈ Pl.four) {m : Nat} {ob : List Pt} (hm : m ≤ ob.length) (hm2 : m ≤ 10) :
    r31_6 (p.H, n, m, (j : Int), p.W, a, b, W, H, p.C.length, r, P, u.X, u.Y, ob, p.C, ()) =
      some (.inl (p.H, n, (if wayB p u d then m + 1 else m), ((j + 1 : Nat) : Int), p.W, a, b, W, H, p.C.length, r, P, u.X, u.Y, (if wayB p u d then ob.take m ++ [d] else ob), p.C, ())) := by
  have c1 : (j : Int) < 4 := by omega
  have c2 : (0 : Int) ≤ (j : Int) := by omega
  have hw1 := hp.w1
  have hw2 := hp.w2
  have hh2 := hp.h2
  have hd4 := Pl.four_or hd
  have hu2 := hu
  unfold Pl.inP at hu2
  have w1 : IntKind.i64.wrap (2 * d.X) = 2 * d.X := w64 (by omega) (by omega)
  have w2 : IntKind.i64.wrap (2 * d.Y) = 2 * d.Y := w64 (by omega) (by omega)
  have w3 : IntKind.i64.wrap (u.X + 2 * d.X) = (Pl.add2 u d).X := w64 (by omega) (by omega)
  have w4 : IntKind.i64.wrap (u.Y + 2 * d.Y) = (Pl.add2 u d).Y := w64 (by omega) (by omega)
  have w5 : IntKind.i64.wrap ((j : Int) + 1) = ((j + 1 : Nat) : Int) := by rw [w64 (by omega) (by omega)]; rfl
  have hix : idxO [Pt.mk 1 0, Pt.mk 0 1, Pt.mk (-1) 0, Pt.mk 0 (-1)] (j : Int) = some d := by rw [idxO_nat]; exact hj
  have ro : roomy (m + 1) 16 = true := roomy_ok (by omega)
  unfold r31_6
  simp only [c1, c2, decide_true, Bool.and_self, cond_true, hix, Option.bind_some, w1, w2, w3, w4, w5]
  unfold wayB
  by_cases e1 : 0 < (Pl.add2 u d).X
  · by_cases e2 : 0 < (Pl.add2 u d).Y
    · by_cases e3 : (Pl.add2 u d).X < p.W
      · by_cases e4 : (Pl.add2 u d).Y < p.H
        · have hin : p.inP (Pl.add2 u d) := by unfold Pl.inP; omega
          have f48' := f48_spec hp hin W H
          simp only [gt_iff_lt, e1, e2, e3, e4, decide_true, cond_true, Nat.zero_add, Nat.le_refl, List.drop_zero, List.take_length, f48', Option.bind_some, cell_get hp hin, Bool.true_and]
          by_cases e5 : p.C.getD (p.ix (Pl.add2 u d)) 0 = 2
          · have e6 : (p.C.getD (p.ix (Pl.add2 u d)) 0 == 2) = true := by simpa using e5
            simp only [e6, cond_true, hm, decide_true, ro, if_true]
          · have e6 : (p.C.getD (p.ix (Pl.add2 u d)) 0 == 2) = false := by simpa using e5
            simp only [e6, cond_false, Bool.false_eq_true, if_false]
        · simp only [gt_iff_lt, e1, e2, e3, e4, decide_true, decide_false, cond_true, cond_false, Bool.false_and, Bool.and_false, Bool.false_eq_true, if_false]
      · simp only [gt_iff_lt, e1, e2, e3, decide_true, decide_false, cond_true, cond_false, Bool.false_and, Bool.and_false, Bool.false_eq_true, if_false]
    · simp only [gt_iff_lt, e1, e2, decide_true, decide_false, cond_true, cond_false, Bool.false_and, Bool.and_false, Bool.false_eq_true, if_false]
  · simp only [gt_iff_lt, e1, decide_false, cond_false, Bool.false_and, Bool.false_eq_true, if_false]

theorem l31_6_spec (hp : p.Ok) (hu : p.inP u) : ∀ (t j m : Nat) (ob : List Pt) (L : List Pt), 4 - j = t → j ≤ 4 → m ≤ ob.length → m ≤ j → ob.take m = L →
    ∃ (m' : Nat) (ob' : List Pt), l31_6 (p.H, n, m, (j : Int), p.W, a, b, W, H, p.C.length, r, P, u.X, u.Y, ob, p.C, ()) = some (p.H, n, m', p.W, a, b, W, H, p.C.length, r, P, u.X, u.Y, ob', p.C, ()) ∧ m' ≤ ob'.length ∧ m' ≤ 4 ∧
      ob'.take m' = L ++ (Pl.four.drop j).filter (wayB p u)
  | t, j, m, ob, L, ht, hj, hm, hmj, hL => by
    unfold l31_6
    rw [iterO_eq]
    by_cases e : j = 4
    · subst e
      have hd : r31_6 (p.H, n, m, ((4 : Nat) : Int), p.W, a, b, W, H, p.C.length, r, P, u.X, u.Y, ob, p.C, ()) = some (.inr (p.H, n, m, p.W, a, b, W, H, p.C.length, r, P, u.X, u.Y, ob, p.C, ())) := by
        unfold r31_6
        rfl
      rw [hd]
      exact ⟨m, ob, rfl, hm, hmj, by rw [hL, show List.filter (wayB p u) (List.drop 4 Pl.four) = [] from rfl, List.append_nil]⟩
    · obtain ⟨d, h1, h2, h3⟩ := four_get (j := j) (by omega)
      rw [r31_6_spec hp hu h1 (by omega) h2 hm (by omega), h3, List.filter_cons]
      match t, ht with
      | 0, ht => omega
      | t + 1, ht =>
        by_cases hw : wayB p u d = true
        · simp only [hw, if_true]
          have hl : (ob.take m).length = m := by rw [List.length_take]; omega
          obtain ⟨m', ob', q1, q2, q3, q4⟩ := l31_6_spec hp hu t (j + 1) (m + 1) (ob.take m ++ [d]) (L ++ [d]) (by omega) (by omega) (by simp [hl]) (by omega) (by rw [← hL, List.take_of_length_le (by simp [hl])])
          exact ⟨m', ob', q1, q2, q3, by rw [q4, List.append_assoc]; rfl⟩
        · have hw' : wayB p u d = false := by simpa using hw
          simp only [hw', Bool.false_eq_true, if_false]
          exact l31_6_spec hp hu t (j + 1) m ob L (by omega) (by omega) hm (by omega) hL
end

/-! ### The walk -/

def walls (p : Pl) : Nat := lsum (fun x => if x = 2 then 1 else 0) p.C

theorem walls_put {p : Pl} (hp : p.Ok) (ht : p.two) {c : Pt} (hc : p.inP c) (hn : ¬ p.free c) : walls (p.put c 1) + 1 = walls p := by
  have h1 := lsum_set (fun x => if x = 2 then 1 else 0) p.C (p.ix c) 1 (Pl.ix_lt hp hc)
  have hg := cell_get hp hc
  have h2 : p.C.getD (p.ix c) 0 = 2 := by
    rcases ht _ (List.mem_of_getElem? hg) with e | e
    · exact (hn ⟨hc, e⟩).elim
    · exact e
  have h3 : p.C.getD (p.ix c) (-1) = 2 := by
    rw [List.getD_eq_getElem?_getD, hg, h2]; rfl
  rw [h3] at h1
  unfold walls Pl.put
  simp only [if_true] at h1 ⊢
  simp at h1
  omega

theorem take_last {α : Type} {l : List α} {n : Nat} {u : α} (h : l[n]? = some u) : ∀ x, x ∈ l.take (n + 1) ↔ x = u ∨ x ∈ l.take n := fun x => by
  have hn := (List.getElem?_eq_some_iff.1 h).1
  rw [List.take_add_one, h]
  simp only [Option.toList_some, List.mem_append, List.mem_singleton]
  exact Or.comm

theorem l31_0_spec (a b W H : Int) : ∀ (t : Nat) (p : Pl) (r : Int) (P : List Pt) (n : Nat), 2 * walls p + n = t → t ≤ 20000 → n ≤ P.length → Pl.MI p (P.take n) →
    ∃ q : Pl, Pl.MI q [] ∧ q.W = p.W ∧ q.H = p.H ∧ q.C.length = p.C.length ∧ l31_0 (p.H, n, p.W, a, b, W, H, p.C.length, r, P, p.C, ()) = some (a, b, W, H, p.C.length, q.C, ()) := by
  intro t
  induction t using Nat.strongRecOn with
  | _ t ih =>
    intro p r P n ht ht2 hn hI
    unfold l31_0
    rw [iterO_eq]
    cases n with
    | zero =>
      have hd : r31_0 (p.H, 0, p.W, a, b, W, H, p.C.length, r, P, p.C, ()) = some (.inr (a, b, W, H, p.C.length, p.C, ())) := by
        unfold r31_0
        rfl
      rw [hd]
      exact ⟨p, hI, rfl, rfl, rfl, rfl⟩
    | succ n =>
      have hp := hI.ok
      obtain ⟨u, hu⟩ : ∃ u, P[n]? = some u := ⟨_, List.getElem?_eq_getElem (by omega)⟩
      have hmem := take_last hu
      obtain ⟨hfu, hou⟩ := hI.stk u ((hmem u).2 (.inl rfl))
      have hin := hfu.1
      have c1 : (((n + 1 : Nat) : Nat) : Int) > 0 := by omega
      have w1 : IntKind.i64.wrap (((n + 1 : Nat) : Int) - 1) = (n : Int) := by rw [w64 (by omega) (by omega)]; omega
      have c2 : (0 : Int) ≤ (n : Int) := by omega
      have c3 : (n : Int) < ((n + 1 : Nat) : Int) := by omega
      have c4 : (n : Int) ≤ ((n + 1 : Nat) : Int) := by omega
      obtain ⟨m, ob, q1, q2, q3, q4⟩ := l31_6_spec (n := n + 1) (a := a) (b := b) (W := W) (H := H) (r := r) (P := P) hp hin 4 0 0 [] [] rfl (by omega) (by simp) (by omega) rfl
      have q1' : l31_6 (p.H, n + 1, 0, 0, p.W, a, b, W, H, p.C.length, r, P, u.X, u.Y, [], p.C, ()) = _ := q1
      simp only [List.nil_append, List.drop_zero] at q4
      by_cases hm : m = 0
      · subst hm
        have hnw : ∀ d, ¬ Pl.Way p u d := fun d hw => by
          have h1 := (wayB_iff hp hI.two hw.hd hfu hou).2 hw
          have : d ∈ Pl.four.filter (wayB p u) := List.mem_filter.2 ⟨hw.hd, h1⟩
          rw [← q4] at this
          simp at this
        have hI2 := hI.pop hmem hnw
        have hd : r31_0 (p.H, n + 1, p.W, a, b, W, H, p.C.length, r, P, p.C, ()) = some (.inl (p.H, n, p.W, a, b, W, H, p.C.length, r, P, p.C, ())) := by
          unfold r31_0
          simp only [c1, c2, c3, c4, w1, decide_true, Bool.and_self, cond_true, Int.toNat_natCast, Nat.zero_add, hu, Option.bind_some, q1', Int.natCast_zero, beq_self_eq_true, Int.le_refl, Nat.sub_zero]
        rw [hd]
        exact ih (2 * walls p + n) (by omega) p r P n rfl (by omega) (by omega) hI2
      · obtain ⟨k, r', k1, k2⟩ := f49_spec (m := m) (by omega) q3 r
        obtain ⟨d, hd⟩ : ∃ d, ob[k]? = some d := ⟨_, List.getElem?_eq_getElem (by omega)⟩
        have hdm : d ∈ Pl.four.filter (wayB p u) := by
          rw [← q4]
          exact List.mem_of_getElem? (i := k) (by rw [List.getElem?_take_of_lt k1]; exact hd)
        obtain ⟨hdf, hdw⟩ := List.mem_filter.1 hdm
        have hway := (wayB_iff hp hI.two hdf hfu hou).1 hdw
        have hd4 := Pl.four_or hdf
        have hw2 := hp.w2
        have hh2 := hp.h2
        have how := hI.ow
        have hku := hI.kind u hfu
        have eg : (Pl.add u d).X = u.X + d.X ∧ (Pl.add u d).Y = u.Y + d.Y := ⟨rfl, rfl⟩
        have ev : (Pl.add2 u d).X = u.X + 2 * d.X ∧ (Pl.add2 u d).Y = u.Y + 2 * d.Y := ⟨rfl, rfl⟩
        have iv := hway.iv
        have ing : p.inP (Pl.add u d) := by unfold Pl.inP; omega
        have inv : p.inP (Pl.add2 u d) := by unfold Pl.inP; omega
        have nv := hway.nv
        have ng : ¬ p.free (Pl.add u d) := fun hf => nv (by
          have hadd : Pl.add (Pl.add u d) d = Pl.add2 u d := Pl.pt_eq (by simp only [Pl.add, Pl.add2]; omega) (by simp only [Pl.add, Pl.add2]; omega)
          have o1 := hou.1
          have o2 := hou.2
          have := hI.gate _ d hf hdf (by rw [hadd]; unfold Pl.odd2; omega)
          rwa [hadd] at this)
        have w2 : IntKind.i64.wrap (2 * d.X) = 2 * d.X := w64 (by omega) (by omega)
        have w3 : IntKind.i64.wrap (2 * d.Y) = 2 * d.Y := w64 (by omega) (by omega)
        have w4 : IntKind.i64.wrap (u.X + 2 * d.X) = (Pl.add2 u d).X := w64 (by omega) (by omega)
        have w5 : IntKind.i64.wrap (u.Y + 2 * d.Y) = (Pl.add2 u d).Y := w64 (by omega) (by omega)
        have w6 : IntKind.i64.wrap (u.X + d.X) = (Pl.add u d).X := w64 (by omega) (by omega)
        have w7 : IntKind.i64.wrap (u.Y + d.Y) = (Pl.add u d).Y := w64 (by omega) (by omega)
        have ok1 : (p.put (Pl.add u d) 1).Ok := Pl.put_ok hp (by omega)
        have s1 := f48_spec hp ing W H
        have s2 : f48 ((Pl.add2 u d).X, (Pl.add2 u d).Y, p.W, (p.put (Pl.add u d) 1).C, W, H, (p.put (Pl.add u d) 1).C.length, ()) = some (p.ix (Pl.add2 u d), (p.put (Pl.add u d) 1).C, W, H, (p.put (Pl.add u d) 1).C.length, ()) := f48_spec (p := p.put (Pl.add u d) 1) ok1 (c := Pl.add2 u d) inv W H
        have len1 : (p.put (Pl.add u d) 1).C.length = p.C.length := by unfold Pl.put; simp
        have g2 : (p.put (Pl.add u d) 1).C[p.ix (Pl.add2 u d)]? = some ((p.put (Pl.add u d) 1).C.getD (p.ix (Pl.add2 u d)) 0) := cell_get (p := p.put (Pl.add u d) 1) ok1 (c := Pl.add2 u d) inv
        rw [len1] at s2
        have hC1 : p.C.set (p.ix (Pl.add u d)) 1 = (p.put (Pl.add u d) 1).C := rfl
        have hC2 : (p.put (Pl.add u d) 1).C.set (p.ix (Pl.add2 u d)) 1 = ((p.put (Pl.add u d) 1).put (Pl.add2 u d) 1).C := rfl
        have cm : ((m : Int) == 0) = false := by simp; omega
        have ck : (0 : Int) ≤ (k : Int) := by omega
        have ck2 : (k : Int) < (m : Int) := by omega
        have hlt : n + 1 ≤ P.length := hn
        have ro : roomy (n + 1 + 1) 16 = true := roomy_ok (by omega)
        have hstep : r31_0 (p.H, n + 1, p.W, a, b, W, H, p.C.length, r, P, p.C, ()) = some (.inl (p.H, n + 1 + 1, p.W, a, b, W, H, p.C.length, r', P.take (n + 1) ++ [Pl.add2 u d], ((p.put (Pl.add u d) 1).put (Pl.add2 u d) 1).C, ())) := by
          unfold r31_0
          simp only [c1, c2, c3, w1, decide_true, Bool.and_self, cond_true, Int.toNat_natCast, Nat.zero_add, hu, Option.bind_some, q1', cm, cond_false, k2, ck, ck2, hd, w2, w3, w4, w5, w6, w7, Nat.le_refl, List.drop_zero, List.take_length, s1, cell_get hp ing, hC1, len1]
          have t1 : List.take p.C.length (p.put (Pl.add u d) 1).C = (p.put (Pl.add u d) 1).C := List.take_of_length_le (by omega)
          simp only [t1, s2, Option.bind_some, g2, hlt, decide_true, cond_true, ro, hC2]
        rw [hstep]
        have hl : (P.take (n + 1)).length = n + 1 := by rw [List.length_take]; omega
        have htk : (P.take (n + 1) ++ [Pl.add2 u d]).take (n + 1 + 1) = P.take (n + 1) ++ [Pl.add2 u d] := List.take_of_length_le (by simp; omega)
        have hI2 := hI.step (S' := P.take (n + 1) ++ [Pl.add2 u d]) hway (fun x => by simp)
        have hnv1 : ¬ (p.put (Pl.add u d) 1).free (Pl.add2 u d) := fun hf => by
          rw [Pl.put_free hp ing] at hf
          rw [if_neg (fun e => by have e1 := congrArg Pt.X e; have e2 := congrArg Pt.Y e; omega)] at hf
          exact nv hf
        have k3 := walls_put hp hI.two ing ng
        have k4 := walls_put ok1 (Pl.put_two hI.two (.inl rfl)) (c := Pl.add2 u d) inv hnv1
        obtain ⟨q, g1, g2', g3, g4, g5⟩ := ih (2 * walls ((p.put (Pl.add u d) 1).put (Pl.add2 u d) 1) + (n + 1 + 1)) (by omega) ((p.put (Pl.add u d) 1).put (Pl.add2 u d) 1) r' (P.take (n + 1) ++ [Pl.add2 u d]) (n + 1 + 1) rfl (by omega) (by simp; omega) (by rw [htk]; exact hI2)
        have len2 : ((p.put (Pl.add u d) 1).put (Pl.add2 u d) 1).C.length = p.C.length := by unfold Pl.put; simp
        rw [len2] at g4 g5
        exact ⟨q, g1, g2', g3, g4, g5⟩
end Go.AE
