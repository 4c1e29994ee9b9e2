/-
  Particles: the law.
-/
import Derived.Test.YtnoammkjjbbajaaGreatP7
namespace Go.AE
open Go.Proofs Go.RowKit
set_option maxRecDepth 100000

/-! ### awake -/

/-- The two particles of the waking test. -/
def duo : List Pa := [⟨0, 0, 0, 1⟩, ⟨7, 0, 0, 3⟩]
theorem duo_ok : okF duo := by
  refine ⟨by simp [duo], fun a ha => ?_⟩
  simp only [duo, List.mem_cons, List.not_mem_nil, or_false] at ha
  rcases ha with rfl | rfl <;> decide

theorem d9a (c : Nat) (z1 z2 : Int) (ob : List Pa) : l12_9 (duo, 4, 0, 4, c, 0, 1, 0, z1, z2, ob, ()) = some (duo, 4, 0, 4, c, 0, 1, z1, z2, ob, ()) := by
  have h : r12_9 (duo, 4, 0, 4, c, 0, 1, 0, z1, z2, ob, ()) = some (.inr (duo, 4, 0, 4, c, 0, 1, z1, z2, ob, ())) := rfl
  unfold l12_9
  rw [iterO_eq, h]
theorem d9b (c : Nat) (z1 z2 : Int) (ob : List Pa) : l12_9 (duo, 4, 0, 4, c, 0, 1, 1, z1, z2, ob, ()) = some (duo, 4, 0, 4, c, 1, 4, z1, z2, ob, ()) := by
  have h : r12_9 (duo, 4, 0, 4, c, 0, 1, 1, z1, z2, ob, ()) = some (.inl (duo, 4, 0, 4, c, 1, 4, 1, z1, z2, ob, ())) := rfl
  have h2 : r12_9 (duo, 4, 0, 4, c, 1, 4, 1, z1, z2, ob, ()) = some (.inr (duo, 4, 0, 4, c, 1, 4, z1, z2, ob, ())) := rfl
  unfold l12_9
  rw [iterO_eq, h]
  show iterO r12_9 _ = _
  rw [iterO_eq, h2]
theorem d9c (c : Nat) (z1 z2 : Int) (ob : List Pa) : l12_9 (duo, 4, 0, 4, c, 1, 4, 2, z1, z2, ob, ()) = some (duo, 4, 0, 4, c, 1, 4, z1, z2, ob, ()) := by
  have h2 : r12_9 (duo, 4, 0, 4, c, 1, 4, 2, z1, z2, ob, ()) = some (.inr (duo, 4, 0, 4, c, 1, 4, z1, z2, ob, ())) := rfl
  unfold l12_9
  rw [iterO_eq, h2]
theorem d9d (c : Nat) (z1 z2 : Int) (ob : List Pa) : l12_9 (duo, 4, 0, 4, c, 1, 4, 3, z1, z2, ob, ()) = some (duo, 4, 0, 4, c, 1, 4, z1, z2, ob, ()) := by
  have h2 : r12_9 (duo, 4, 0, 4, c, 1, 4, 3, z1, z2, ob, ()) = some (.inr (duo, 4, 0, 4, c, 1, 4, z1, z2, ob, ())) := rfl
  unfold l12_9
  rw [iterO_eq, h2]

/-- Its four. -/
def four : List Pa := [⟨0, 0, 0, 1⟩, ⟨7, 0, 0, 1⟩, ⟨7, 0, 0, 1⟩, ⟨7, 0, 0, 1⟩]
theorem four_ok : okF four := by
  refine ⟨by simp [four], fun a ha => ?_⟩
  simp only [four, List.mem_cons, List.not_mem_nil, or_false] at ha
  rcases ha with rfl | rfl | rfl | rfl <;> decide

theorem d3 : l12_3 (duo, 4, 0, 4, 0, 0, 1, 4, 0, [], ()) = some (4, four, ()) := by
  have ro : ∀ k : Nat, k ≤ 4 → roomy k 32 = true := fun k hk => roomy_ok (by omega)
  have w : ∀ k : Int, 0 ≤ k → k ≤ 10 → IntKind.i64.wrap k = k := fun k h1 h2 => w64 (by omega) (by omega)
  have i0 : idxO duo 0 = some ⟨0, 0, 0, 1⟩ := rfl
  have i1 : idxO duo 1 = some ⟨7, 0, 0, 3⟩ := rfl
  have h0 : r12_3 (duo, 4, 0, 4, 0, 0, 1, 4, 0, [], ()) = some (.inl (duo, 4, 0, 4, 1, 0, 1, 4, 1, [⟨0, 0, 0, 1⟩], ())) := by
    unfold r12_3
    simp [d9a, i0, ro, w]
  have h1 : r12_3 (duo, 4, 0, 4, 1, 0, 1, 4, 1, [⟨0, 0, 0, 1⟩], ()) = some (.inl (duo, 4, 0, 4, 2, 1, 4, 4, 2, [⟨0, 0, 0, 1⟩, ⟨7, 0, 0, 1⟩], ())) := by
    unfold r12_3
    simp [d9b, i1, ro, w]
  have h2 : r12_3 (duo, 4, 0, 4, 2, 1, 4, 4, 2, [⟨0, 0, 0, 1⟩, ⟨7, 0, 0, 1⟩], ()) = some (.inl (duo, 4, 0, 4, 3, 1, 4, 4, 3, [⟨0, 0, 0, 1⟩, ⟨7, 0, 0, 1⟩, ⟨7, 0, 0, 1⟩], ())) := by
    unfold r12_3
    simp [d9c, i1, ro, w]
  have h3 : r12_3 (duo, 4, 0, 4, 3, 1, 4, 4, 3, [⟨0, 0, 0, 1⟩, ⟨7, 0, 0, 1⟩, ⟨7, 0, 0, 1⟩], ()) = some (.inl (duo, 4, 0, 4, 4, 1, 4, 4, 4, four, ())) := by
    unfold r12_3
    simp [d9d, i1, ro, w, four]
  have h4 : r12_3 (duo, 4, 0, 4, 4, 1, 4, 4, 4, four, ()) = some (.inr (4, four, ())) := rfl
  unfold l12_3
  rw [iterO_eq, h0]
  show iterO r12_3 _ = _
  rw [iterO_eq, h1]
  show iterO r12_3 _ = _
  rw [iterO_eq, h2]
  show iterO r12_3 _ = _
  rw [iterO_eq, h3]
  show iterO r12_3 _ = _
  rw [iterO_eq, h4]

theorem f4_spec : f4 () = some (true, ()) := by
  have t1 : tot duo = 4 := rfl
  have t2 : tot four = 4 := rfl
  have i0 : idxO duo 0 = some ⟨0, 0, 0, 1⟩ := rfl
  have h12 : f12 (duo, 4, 0, ()) = some (4, 0, four, ()) := by
    unfold f12
    simp [f11_spec duo_ok, t1, f16_ok duo_ok, i0, d3]
  have h12' : f12 ([⟨0, 0, 0, 1⟩, ⟨7, 0, 0, 3⟩], 4, 0, ()) = _ := h12
  have h3 : four[(3 : Nat)]? = some ⟨7, 0, 0, 1⟩ := rfl
  have h4 : four.length = 4 := rfl
  have h5 : List.take 4 (List.drop 0 four) = four := rfl
  unfold f4
  rw [h12']
  simp only [Option.bind_some, h3, h4, h5, f11_spec four_ok, t2]
  rfl

/-! ### brief -/

theorem f5_spec (a0 a1 : Int) (C : List Int) (a3 a4 a5 a6 a7 a8 a9 : Int) (acts : List Ax) : ∃ b : Bool, f5 (a0, a1, C, a3, a4, a5, a6, a7, a8, a9, acts, ()) = some (b, ()) ∧ (b = true → C.length ≤ 64 ∧ acts.length ≤ 10 ∧ ∀ a ∈ acts, a.M.length ≤ 4 ∧ a.E.length ≤ 40) := by
  by_cases c1 : (C.length : Int) > 64
  · exact ⟨false, by unfold f5; simp only [c1, decide_true, cond_true], fun h => by cases h⟩
  · by_cases c2 : (acts.length : Int) > 10
    · exact ⟨false, by unfold f5; simp only [c1, c2, decide_true, decide_false, cond_true, cond_false], fun h => by cases h⟩
    · have key := ixg (r := r5_0) (fun i => (acts, (i : Int), ())) (fun a => decide ((a.M.length : Int) > 4) || decide ((a.E.length : Int) > 40)) (fun _ => (false, ())) () (l := acts) (fun i b hbi => by
        have hlt := (List.getElem?_eq_some_iff.1 hbi).1
        have d1 : (i : Int) < (acts.length : Int) := by omega
        have w1 : IntKind.i64.wrap ((i : Int) + 1) = ((i + 1 : Nat) : Int) := by rw [w64 (by omega) (by omega)]; rfl
        unfold r5_0
        simp only [d1, decide_true, cond_true, idxO_nat, hbi, Option.bind_some, w1]
        cases decide ((b.M.length : Int) > 4) <;> cases decide ((b.E.length : Int) > 40) <;> rfl) (by
        have d1 : ¬ (acts.length : Int) < (acts.length : Int) := by omega
        unfold r5_0
        simp only [d1, decide_false, cond_false]) acts.length 0 rfl (by omega)
      rw [List.drop_zero] at key
      rcases key with ⟨h1, k, h3⟩ | ⟨h1, h3⟩
      · have h3' : iterO r5_0 (acts, 0, ()) = _ := h3
        refine ⟨false, ?_, fun h => by cases h⟩
        unfold f5 l5_0
        simp only [c1, c2, decide_false, cond_false, h3', Option.bind_some, Sum.elim_inl]
      · have h3' : iterO r5_0 (acts, 0, ()) = _ := h3
        refine ⟨true, ?_, fun _ => ⟨by omega, by omega, fun a ha => ?_⟩⟩
        · unfold f5 l5_0
          simp only [c1, c2, decide_false, cond_false, h3', Option.bind_some, Sum.elim_inr]
        · have := List.any_eq_false.1 h1 a ha
          simp only [Bool.or_eq_true, decide_eq_true_eq] at this
          omega

theorem f6_rng (n : Int) : 1 ≤ f6 n 1 32 ∧ f6 n 1 32 ≤ 32 := by
  unfold f6
  by_cases c : (32 : Int) < n
  · simp only [c, decide_true, cond_true]
    decide
  · simp only [c, decide_false, cond_false]
    by_cases c2 : n > 1
    · simp only [c2, decide_true, cond_true]; omega
    · simp only [c2, decide_false, cond_false]; omega

/-! ### How many are taken of the first -/

/-- The same pose. -/
def sameP (q : Po) (b : Pa) : Bool := bif b.X == q.X then bif b.Y == q.Y then bif b.H == q.H then true else false else false else false
theorem sameP_ok {q : Po} {b : Pa} (h1 : b.X = q.X) (h2 : b.Y = q.Y) (h3 : b.H = q.H) : sameP q b = true := by
  unfold sameP
  simp [h1, h2, h3]

theorem l3_6_spec (x0 : List Pa) (x1 : List Ev) (x2 : List Po) (i : Nat) {q : Po} (hq : x2[i]? = some q) (x4 x5 : Nat) (x6 x7 : Int) (x11 x12 : Int) (x13 : List Int) (x14 x15 x16 x17 x18 x19 x20 x21 x22 x23 x24 : Int) (x25 x26 ag : List Pa) (m : Nat) (hm : m ≤ 1000) (hag : m ≤ ag.length) : ∀ (t j k : Nat), m - j = t → j ≤ m → k ≤ j →
    ∃ k' : Nat, l3_6 (x0, x1, x2, (i : Int), x4, x5, x6, x7, m, (k : Int), (j : Int), x11, x12, x13, x14, x15, x16, x17, x18, x19, x20, x21, x22, x23, x24, x25, x26, ag, ()) =
      some (x0, x1, x2, (i : Int), x4, x5, x6, x7, (k' : Int), x11, x12, x13, x14, x15, x16, x17, x18, x19, x20, x21, x22, x23, x24, x25, x26, ()) ∧ ∀ d : Nat, d ≤ m → (∀ c, j ≤ c → c < d → ∃ b, ag[c]? = some b ∧ sameP q b = true) → k + (d - j) ≤ k'
  | t, j, k, ht, hj, hk => by
    unfold l3_6
    rw [iterO_eq]
    by_cases e : j = m
    · have c1 : ¬ (j : Int) < (m : Int) := by omega
      have hd : r3_6 (x0, x1, x2, (i : Int), x4, x5, x6, x7, m, (k : Int), (j : Int), x11, x12, x13, x14, x15, x16, x17, x18, x19, x20, x21, x22, x23, x24, x25, x26, ag, ()) = some (.inr (x0, x1, x2, (i : Int), x4, x5, x6, x7, (k : Int), x11, x12, x13, x14, x15, x16, x17, x18, x19, x20, x21, x22, x23, x24, x25, x26, ())) := by
        unfold r3_6
        simp only [c1, decide_false, cond_false]
      rw [hd]
      exact ⟨k, rfl, fun d hd _ => by omega⟩
    · have hlt : j < m := by omega
      have c1 : (j : Int) < (m : Int) := by omega
      have c2 : (0 : Int) ≤ (j : Int) := by omega
      obtain ⟨b, hb⟩ : ∃ b, ag[j]? = some b := ⟨_, List.getElem?_eq_getElem (by omega)⟩
      have w1 : IntKind.i64.wrap ((j : Int) + 1) = ((j + 1 : Nat) : Int) := by rw [w64 (by omega) (by omega)]; rfl
      have w2 : IntKind.i64.wrap ((k : Int) + 1) = ((k + 1 : Nat) : Int) := by rw [w64 (by omega) (by omega)]; rfl
      match t, ht with
      | 0, ht => omega
      | t + 1, ht =>
        by_cases hs : sameP q b = true
        · have hs' : (bif b.X == q.X then bif b.Y == q.Y then bif b.H == q.H then true else false else false else false) = true := hs
          have hd : r3_6 (x0, x1, x2, (i : Int), x4, x5, x6, x7, m, (k : Int), (j : Int), x11, x12, x13, x14, x15, x16, x17, x18, x19, x20, x21, x22, x23, x24, x25, x26, ag, ()) =
              some (.inl (x0, x1, x2, (i : Int), x4, x5, x6, x7, m, ((k + 1 : Nat) : Int), ((j + 1 : Nat) : Int), x11, x12, x13, x14, x15, x16, x17, x18, x19, x20, x21, x22, x23, x24, x25, x26, ag, ())) := by
            unfold r3_6
            simp only [c1, c2, decide_true, cond_true, Bool.and_self, Nat.zero_add, Int.toNat_natCast, hb, idxO_nat, hq, Option.bind_some, hs', w2, j3_94, w1]
          rw [hd]
          obtain ⟨k', q1, q2⟩ := l3_6_spec x0 x1 x2 i hq x4 x5 x6 x7 x11 x12 x13 x14 x15 x16 x17 x18 x19 x20 x21 x22 x23 x24 x25 x26 ag m hm hag t (j + 1) (k + 1) (by omega) (by omega) (by omega)
          refine ⟨k', q1, fun d hd hc => ?_⟩
          have := q2 d hd fun c h1 h2 => hc c (by omega) h2
          omega
        · have hs' : (bif b.X == q.X then bif b.Y == q.Y then bif b.H == q.H then true else false else false else false) = false := by simpa [sameP] using hs
          have hd : r3_6 (x0, x1, x2, (i : Int), x4, x5, x6, x7, m, (k : Int), (j : Int), x11, x12, x13, x14, x15, x16, x17, x18, x19, x20, x21, x22, x23, x24, x25, x26, ag, ()) =
              some (.inl (x0, x1, x2, (i : Int), x4, x5, x6, x7, m, (k : Int), ((j + 1 : Nat) : Int), x11, x12, x13, x14, x15, x16, x17, x18, x19, x20, x21, x22, x23, x24, x25, x26, ag, ())) := by
            unfold r3_6
            simp only [c1, c2, decide_true, cond_true, Bool.and_self, Nat.zero_add, Int.toNat_natCast, hb, idxO_nat, hq, Option.bind_some, hs', cond_false, j3_94, w1]
          rw [hd]
          obtain ⟨k', q1, q2⟩ := l3_6_spec x0 x1 x2 i hq x4 x5 x6 x7 x11 x12 x13 x14 x15 x16 x17 x18 x19 x20 x21 x22 x23 x24 x25 x26 ag m hm hag t (j + 1) k (by omega) (by omega) (by omega)
          refine ⟨k', q1, fun d hd hc => ?_⟩
          by_cases hdj : d ≤ j
          · have := q2 j (by omega) fun c h1 h2 => by omega
            omega
          · obtain ⟨b', hb', hsb⟩ := hc j (Nat.le_refl _) (by omega)
            rw [hb] at hb'
            cases hb'
            exact (hs hsb).elim

/-- The share of the first. -/
theorem share {u T n w : Int} (hT : 1 ≤ T) (hu : u < T) (hw : 0 ≤ w) (hn : 0 ≤ n) {j : Nat} (hj : (j : Int) < (n * w).tdiv T) : u + (j : Int) * T < n * w := by
  rw [Int.tdiv_eq_ediv_of_nonneg (Int.mul_nonneg hn hw)] at hj
  have h1 : ((j : Int) + 1) * T ≤ n * w := (Int.le_ediv_iff_mul_le (by omega)).1 (by omega)
  rw [Int.add_mul, Int.one_mul] at h1
  omega
theorem share_le {T n w : Int} (hT : 1 ≤ T) (hw : 0 ≤ w) (hwT : w ≤ T) (hn : 0 ≤ n) : 0 ≤ (n * w).tdiv T ∧ (n * w).tdiv T ≤ n := by
  have h0 := Int.mul_nonneg hn hw
  rw [Int.tdiv_eq_ediv_of_nonneg h0]
  refine ⟨Int.ediv_nonneg h0 (by omega), Int.ediv_le_of_le_mul (by omega) (Int.mul_le_mul_of_nonneg_left hwT hn)⟩
theorem tmod_rng {u T : Int} (hT : 1 ≤ T) (hu : 0 ≤ u) : 0 ≤ u.tmod T ∧ u.tmod T < T := ⟨Int.tmod_nonneg T hu, Int.tmod_lt_of_pos u (by omega)⟩

end Go.AE
