/-
  Plain laws of the chapter Journal, part 2: what the functions of wire compute.
-/
import Derived.Test.YtcphmffpkjngiaaW1
namespace Go.AE
open Go.Proofs Go.RowKit
set_option maxRecDepth 100000

theorem roomy_ok {n : Nat} (h : n ≤ 1000000) : roomy n 1 = true := by
  unfold roomy; simp; omega

theorem idxO_nat {α : Type} (l : List α) (i : Nat) : idxO l (i : Int) = l[i]? := by
  unfold idxO; simp

theorem take_len {α : Type} (l : List α) : List.take l.length (List.drop 0 l) = l := by simp

theorem f58_spec {l : List Int} (h : l.length ≤ 1000000) : f58 (l, ()) = some (l.length, l, ()) := by
  unfold f58 j58_4
  simp [roomy_ok h]

theorem pow7 (i : Nat) : (2 : Int) ^ (7 * i) = 128 ^ i := by rw [Int.pow_mul]; rfl

theorem val15 {i : Nat} {c n : Int} (hi : i ≤ 9) (h1 : 0 ≤ c) (h2 : c < 256) (h9 : i = 9 → c ≤ 1) (h3 : 0 ≤ n) (h4 : n < 128 ^ i) :
    c % 128 * 128 ^ i + n ≤ 18446744073709551615 ∧ 0 ≤ c % 128 * 128 ^ i := by
  have hp : (0 : Int) < 128 ^ i := Int.pow_pos (by omega)
  have h5 : 0 ≤ c % 128 * 128 ^ i := Int.mul_nonneg (by omega) (by omega)
  refine ⟨?_, h5⟩
  by_cases h : i = 9
  · subst h; rw [pow9] at *; have := h9 rfl; omega
  · have hi8 : i ≤ 8 := by omega
    have : (128 : Int) ^ i ≤ 128 ^ 8 := by exact_mod_cast (Nat.pow_le_pow_right (by omega) hi8 : 128 ^ i ≤ 128 ^ 8)
    have e8 : (128 : Int) ^ 8 = 72057594037927936 := by decide
    have h6 : c % 128 * 128 ^ i ≤ 127 * 128 ^ i := Int.mul_le_mul_of_nonneg_right (by omega) (by omega)
    omega

theorem min7 {i : Nat} (hi : i ≤ 9) : min (IntKind.i64.wrap (7 * (i : Int))).toNat 64 = 7 * i := by
  rw [i64w (by omega) (by omega)]; omega

theorem val15a {i : Nat} {c n : Int} (hi : i ≤ 9) (h1 : 0 ≤ c) (h2 : c < 256) (h9 : i = 9 → c ≤ 1) (h3 : 0 ≤ n) (h4 : n < 128 ^ i) :
    bits .or .u64 n (IntKind.u64.wrap (IntKind.u64.wrap (bits .andNot .u8 c 128) * 2 ^ min (IntKind.i64.wrap (7 * (i : Int))).toNat 64)) = n + c % 128 * 128 ^ i := by
  obtain ⟨a, b⟩ := val15 hi h1 h2 h9 h3 h4
  rw [andNot128 h1 h2, min7 hi, pow7, u64w (n := c % 128) (by omega) (by omega), u64w b (by omega), ← pow7, or64 h3 (by rw [pow7]; exact h4) (by omega) (by rw [pow7]; exact a)]

theorem val17 {i : Nat} {c n : Int} (hi : i ≤ 9) (h1 : 0 ≤ c) (h2 : c < 256) (h9 : i = 9 → c ≤ 1) (h3 : 0 ≤ n) (h4 : n < 128 ^ i) :
    IntKind.u64.wrap (n + IntKind.u64.wrap (IntKind.u64.wrap (c.tmod 128) * 2 ^ min (IntKind.u64.wrap (IntKind.i64.wrap (7 * (i : Int)))).toNat 64)) = n + c % 128 * 128 ^ i := by
  obtain ⟨a, b⟩ := val15 hi h1 h2 h9 h3 h4
  have e : IntKind.u64.wrap (IntKind.i64.wrap (7 * (i : Int))) = IntKind.i64.wrap (7 * (i : Int)) := by rw [i64w (by omega) (by omega), u64w (by omega) (by omega)]
  rw [e, min7 hi, pow7, Int.tmod_eq_emod_of_nonneg h1, u64w (n := c % 128) (by omega) (by omega), u64w b (by omega), u64w (by omega) (by omega)]

/-- What a reader gives back. -/
def rdR (r : Int × List Int × Int) : Option (Int × Nat × Int × List Int × Unit) := some (r.1, r.2.1.length, r.2.2, r.2.1, ())

theorem j71_34_spec {b : List Int} {n : Int} {i : Nat} (hl : b.length ≤ 1000000) (hi : i < b.length) : j71_34 (b, n, (i : Int), ()) = rdR (n, b.drop (i + 1), 0) := by
  unfold j71_34
  have e1 : IntKind.i64.wrap ((i : Int) + 1) = ((i + 1 : Nat) : Int) := by rw [i64w (by omega) (by omega)]; rfl
  simp only [e1]
  have h1 : (0 : Int) ≤ ((i + 1 : Nat) : Int) := by omega
  have h2 : ((i + 1 : Nat) : Int) ≤ (b.length : Int) := by omega
  simp only [h1, h2, Int.le_refl, decide_true, Bool.and_self, cond_true, Int.toNat_natCast, List.take_length]
  rw [f58_spec (by simp; omega)]
  rfl

theorem j72_34_spec {b : List Int} {n : Int} {i : Nat} (hl : b.length ≤ 1000000) (hi : i < b.length) : j72_34 (b, n, (i : Int), ()) = rdR (n, b.drop (i + 1), 0) := by
  unfold j72_34
  have e1 : IntKind.i64.wrap ((i : Int) + 1) = ((i + 1 : Nat) : Int) := by rw [i64w (by omega) (by omega)]; rfl
  simp only [e1]
  have h1 : (0 : Int) ≤ ((i + 1 : Nat) : Int) := by omega
  have h2 : ((i + 1 : Nat) : Int) ≤ (b.length : Int) := by omega
  simp only [h1, h2, Int.le_refl, decide_true, Bool.and_self, cond_true, Int.toNat_natCast, List.take_length, Nat.zero_add, List.nil_append]
  rw [roomy_ok (by simp; omega)]
  rfl

theorem l71_spec {b : List Int} (hb : Byt b) (hl : b.length ≤ 1000000) : ∀ (k i : Nat) (n : Int), b.length - i = k → i ≤ b.length → i ≤ 9 → 0 ≤ n → n < 128 ^ i →
    ∃ y, l71_0 (b, n, b, (b.length : Int), (i : Int), ()) = some y ∧ (Sum.elim (fun y103 => some (y103.fst, y103.snd.fst, y103.snd.snd.fst, y103.snd.snd.snd.fst, ())) (fun _x => some ((0 : Int), (0 : Nat), (4 : Int), [], ())) y : Option (Int × Nat × Int × List Int × Unit)) = rdR (rd i n (b.drop i)) := by
  intro k
  induction k with
  | zero =>
    intro i n hk hi _ _ _
    have e : i = b.length := by omega
    subst e
    unfold l71_0
    rw [iterO_eq]
    have hr : r71_0 (b, n, b, (b.length : Int), (b.length : Int), ()) = some (.inr (.inr ())) := by
      unfold r71_0; simp
    rw [hr]
    exact ⟨_, rfl, by simp [rd, rdR]⟩
  | succ k ih =>
    intro i n hk hi hi9 hn0 hn
    have hlt : i < b.length := by omega
    obtain ⟨c, hc⟩ : ∃ c, b[i]? = some c := ⟨b[i], List.getElem?_eq_getElem hlt⟩
    have hd : b.drop i = c :: b.drop (i + 1) := by
      rw [List.drop_eq_getElem_cons hlt]
      rw [List.getElem?_eq_getElem hlt] at hc
      cases hc; rfl
    have hcb := hb c (List.mem_of_getElem? hc)
    have hlt' : (i : Int) < (b.length : Int) := by omega
    unfold l71_0
    rw [iterO_eq, hd]
    by_cases h9 : i = 9 ∧ 1 < c
    · have hr : r71_0 (b, n, b, (b.length : Int), (i : Int), ()) = some (.inr (.inl (0, 0, 2, [], ()))) := by
        unfold r71_0
        have e1 : ((i : Int) == 9) = true := by simp; omega
        have e2 : c > 1 := h9.2
        simp only [hlt', decide_true, cond_true, idxO_nat, hc, Option.bind_some, e1, e2]
      rw [hr]
      exact ⟨_, rfl, by simp [rd, rdR, h9]⟩
    · have h9' : i = 9 → c ≤ 1 := fun h => by
        have := fun h2 => h9 ⟨h, h2⟩
        omega
      have hv := val15a hi9 hcb.1 hcb.2 h9' hn0 hn
      have hneg : ¬ IntKind.i64.wrap (7 * (i : Int)) < 0 := by rw [i64w (by omega) (by omega)]; omega
      obtain ⟨hv1, hv2⟩ := val15 hi9 hcb.1 hcb.2 h9' hn0 hn
      -- the round comes to the piece behind the range
      have hr0 : r71_0 (b, n, b, (b.length : Int), (i : Int), ()) = (j71_22 (b, n, (i : Int), c, b, (b.length : Int), (i : Int), ())).bind fun y93 =>
          Sum.elim
            (fun y91 =>
              (j71_37 (y91.fst, y91.snd.fst, y91.snd.snd.fst, y91.snd.snd.snd.fst, y91.snd.snd.snd.snd.fst, ())).bind fun y90 =>
                some (Sum.inl (y90.fst, y90.snd.fst, y90.snd.snd.fst, y90.snd.snd.snd.fst, y90.snd.snd.snd.snd.fst, ())))
            (fun y92 => some (Sum.inr (Sum.inl (y92.fst, y92.snd.fst, y92.snd.snd.fst, y92.snd.snd.snd.fst, ())))) y93 := by
        unfold r71_0
        simp only [hlt', decide_true, cond_true, idxO_nat, hc, Option.bind_some]
        by_cases h : i = 9
        · have h1 := h9' h
          have h2 : ¬ c > 1 := by omega
          subst h
          simp [h2]
        · have h3 : ((i : Int) == 9) = false := by simp; omega
          simp only [h3, cond_false]
      by_cases hge : c < 128
      · have hge' : ¬ c ≥ 128 := by omega
        have hmod : c % 128 = c := by omega
        by_cases h0 : c = 0 ∧ 0 < i
        · have hj : j71_22 (b, n, (i : Int), c, b, (b.length : Int), (i : Int), ()) = some (.inr (0, 0, 3, [], ())) := by
            unfold j71_22
            have hi0 : (i : Int) > 0 := by omega
            have e0 : (c == 0) = true := by simp [h0.1]
            simp only [hneg, hge', e0, hi0, decide_false, decide_true, cond_false, cond_true]
          rw [hr0, hj]
          exact ⟨_, rfl, by simp only [rd, if_neg h9, if_pos hge, if_pos h0]; rfl⟩
        · have hj : j71_22 (b, n, (i : Int), c, b, (b.length : Int), (i : Int), ()) = some (.inr (n + c * 128 ^ i, (b.drop (i + 1)).length, 0, b.drop (i + 1), ())) := by
            unfold j71_22
            simp only [hv, hmod, hneg, hge', decide_false, cond_false]
            by_cases hc0 : c = 0
            · have hi0 : ¬ (i : Int) > 0 := by
                intro h; exact h0 ⟨hc0, by omega⟩
              have e0 : (c == 0) = true := by simp [hc0]
              simp only [e0, hi0, decide_false, cond_true, cond_false, j71_34_spec hl hlt, rdR, Option.bind_some]
            · have hc0' : (c == 0) = false := by simp [hc0]
              simp [hc0', j71_34_spec hl hlt, rdR]
          rw [hr0, hj]
          exact ⟨_, rfl, by simp only [rd, if_neg h9, if_pos hge, if_neg h0]; rfl⟩
      · have hge' : c ≥ 128 := by omega
        have hi8 : i + 1 ≤ 9 := by
          rcases Nat.lt_or_ge i 9 with h | h
          · omega
          · have := h9' (by omega); omega
        have hj : j71_22 (b, n, (i : Int), c, b, (b.length : Int), (i : Int), ()) = some (.inl (b, n + c % 128 * 128 ^ i, b, (b.length : Int), (i : Int), ())) := by
          unfold j71_22
          simp [hv, hneg, hge']
        have hw : IntKind.i64.wrap ((i : Int) + 1) = ((i + 1 : Nat) : Int) := by rw [i64w (by omega) (by omega)]; rfl
        have hr : r71_0 (b, n, b, (b.length : Int), (i : Int), ()) = some (.inl (b, n + c % 128 * 128 ^ i, b, (b.length : Int), ((i + 1 : Nat) : Int), ())) := by
          rw [hr0, hj]
          simp [j71_37, hw]
        rw [hr]
        have hnew : n + c % 128 * 128 ^ i < 128 ^ (i + 1) := by
          have h6 : c % 128 * 128 ^ i ≤ 127 * 128 ^ i := Int.mul_le_mul_of_nonneg_right (by omega) (by have : (0 : Int) < 128 ^ i := Int.pow_pos (by omega); omega)
          rw [Int.pow_succ]; omega
        obtain ⟨y, hy, hy2⟩ := ih (i + 1) (n + c % 128 * 128 ^ i) (by omega) (by omega) hi8 (by omega) hnew
        refine ⟨y, hy, ?_⟩
        rw [hy2]
        simp only [rd, if_neg h9, if_neg hge]

def rdQ (r : Int × List Int × Int) : Option (Int × List Int × Int × Unit) := some (r.1, r.2.1, r.2.2, ())

theorem f71_spec {b : List Int} (hb : Byt b) (hl : b.length ≤ 1000000) : f71 (b, ()) = rdQ (rd 0 0 b) := by
  obtain ⟨y, h1, h2⟩ := l71_spec hb hl b.length 0 0 rfl (by omega) (by omega) (by omega) (by decide)
  unfold f71
  have h1' : l71_0 (b, 0, b, (b.length : Int), 0, ()) = some y := h1
  simp only [h1', Option.bind_some]
  rw [List.drop_zero] at h2
  generalize rd 0 0 b = q at *
  have h2 : (Sum.elim (fun y103 => some (y103.fst, y103.snd.fst, y103.snd.snd.fst, y103.snd.snd.snd.fst, ())) (fun _x => some ((0 : Int), (0 : Nat), (4 : Int), [], ())) y : Option (Int × Nat × Int × List Int × Unit)) = rdR q := h2
  cases y with
  | inl y =>
    obtain ⟨v, n, e, l, ⟨⟩⟩ := y
    simp only [Sum.elim_inl, rdR, Option.some.injEq, Prod.mk.injEq, and_true] at h2
    obtain ⟨rfl, rfl, rfl, rfl⟩ := h2
    simp only [Sum.elim_inl, Nat.zero_add, Nat.le_refl, decide_true, cond_true, take_len]
    rfl
  | inr y =>
    simp only [Sum.elim_inr, rdR, Option.some.injEq, Prod.mk.injEq, and_true] at h2
    obtain ⟨h3, h4, h5, h6⟩ := h2
    simp only [Sum.elim_inr, rdQ]
    rw [← h3, ← h5, ← h6]

theorem l72_spec {b : List Int} (hb : Byt b) (hl : b.length ≤ 1000000) : ∀ (k i : Nat) (n : Int), b.length - i = k → i ≤ b.length → i ≤ 9 → 0 ≤ n → n < 128 ^ i →
    ∃ y, l72_0 (b, n, (i : Int), ()) = some y ∧ (Sum.elim (fun y103 => some (y103.fst, y103.snd.fst, y103.snd.snd.fst, y103.snd.snd.snd.fst, ())) (fun _x => some ((0 : Int), (0 : Nat), (4 : Int), [], ())) y : Option (Int × Nat × Int × List Int × Unit)) = rdR (rd i n (b.drop i)) := by
  intro k
  induction k with
  | zero =>
    intro i n hk hi _ _ _
    have e : i = b.length := by omega
    subst e
    unfold l72_0
    rw [iterO_eq]
    have hr : r72_0 (b, n, (b.length : Int), ()) = some (.inr (.inr ())) := by
      unfold r72_0; simp
    rw [hr]
    exact ⟨_, rfl, by simp [rd, rdR]⟩
  | succ k ih =>
    intro i n hk hi hi9 hn0 hn
    have hlt : i < b.length := by omega
    obtain ⟨c, hc⟩ : ∃ c, b[i]? = some c := ⟨b[i], List.getElem?_eq_getElem hlt⟩
    have hd : b.drop i = c :: b.drop (i + 1) := by
      rw [List.drop_eq_getElem_cons hlt]
      rw [List.getElem?_eq_getElem hlt] at hc
      cases hc; rfl
    have hcb := hb c (List.mem_of_getElem? hc)
    have hlt' : (i : Int) < (b.length : Int) := by omega
    unfold l72_0
    rw [iterO_eq, hd]
    by_cases h9 : i = 9 ∧ 1 < c
    · have hr : r72_0 (b, n, (i : Int), ()) = some (.inr (.inl (0, 0, 2, [], ()))) := by
        unfold r72_0
        have e1 : ((i : Int) == 9) = true := by simp; omega
        have e2 : c > 1 := h9.2
        simp only [hlt', decide_true, cond_true, idxO_nat, hc, Option.bind_some, e1, e2]
      rw [hr]
      exact ⟨_, rfl, by simp [rd, rdR, h9]⟩
    · have h9' : i = 9 → c ≤ 1 := fun h => by
        have := fun h2 => h9 ⟨h, h2⟩
        omega
      have hv := val17 hi9 hcb.1 hcb.2 h9' hn0 hn
      have hneg : ¬ IntKind.u64.wrap (IntKind.i64.wrap (7 * (i : Int))) < 0 := by rw [i64w (by omega) (by omega), u64w (by omega) (by omega)]; omega
      obtain ⟨hv1, hv2⟩ := val15 hi9 hcb.1 hcb.2 h9' hn0 hn
      have hr0 : r72_0 (b, n, (i : Int), ()) = (j72_22 (b, n, (i : Int), ())).bind fun y77 =>
          Sum.elim (fun y74 => some (Sum.inr (Sum.inl (y74.fst, y74.snd.fst, y74.snd.snd.fst, y74.snd.snd.snd.fst, ()))))
            (fun y76 =>
              (j72_13 (y76.fst, y76.snd.fst, y76.snd.snd.fst, ())).bind fun y75 => some (Sum.inl (y75.fst, y75.snd.fst, y75.snd.snd.fst, ()))) y77 := by
        unfold r72_0
        simp only [hlt', decide_true, cond_true, idxO_nat, hc, Option.bind_some]
        by_cases h : i = 9
        · have h1 := h9' h
          have h2 : ¬ c > 1 := by omega
          have e1 : ((i : Int) == 9) = true := by simp; omega
          simp only [e1, h2, decide_false, cond_true, cond_false]
        · have h3 : ((i : Int) == 9) = false := by simp; omega
          simp only [h3, cond_false]
      by_cases hge : c < 128
      · have hmod : c % 128 = c := by omega
        by_cases h0 : c = 0 ∧ 0 < i
        · have hj : j72_22 (b, n, (i : Int), ()) = some (.inl (0, 0, 3, [], ())) := by
            unfold j72_22
            have hi0 : (i : Int) > 0 := by omega
            have e0 : (c == 0) = true := by simp [h0.1]
            simp only [idxO_nat, hc, Option.bind_some, hneg, hge, e0, hi0, decide_false, decide_true, cond_false, cond_true]
          rw [hr0, hj]
          exact ⟨_, rfl, by simp only [rd, if_neg h9, if_pos hge, if_pos h0]; rfl⟩
        · have hj : j72_22 (b, n, (i : Int), ()) = some (.inl (n + c * 128 ^ i, (b.drop (i + 1)).length, 0, b.drop (i + 1), ())) := by
            unfold j72_22
            simp only [idxO_nat, hc, Option.bind_some, hv, hmod, hneg, hge, decide_false, decide_true, cond_false, cond_true]
            by_cases hc0 : c = 0
            · have hi0 : ¬ (i : Int) > 0 := by
                intro h; exact h0 ⟨hc0, by omega⟩
              have e0 : (c == 0) = true := by simp [hc0]
              simp only [e0, hi0, decide_false, cond_true, cond_false, j72_34_spec hl hlt, rdR, Option.bind_some]
            · have e0 : (c == 0) = false := by simp [hc0]
              simp only [e0, cond_false, j72_34_spec hl hlt, rdR, Option.bind_some]
          rw [hr0, hj]
          exact ⟨_, rfl, by simp only [rd, if_neg h9, if_pos hge, if_neg h0]; rfl⟩
      · have hge' : c ≥ 128 := by omega
        have hi8 : i + 1 ≤ 9 := by
          rcases Nat.lt_or_ge i 9 with h | h
          · omega
          · have := h9' (by omega); omega
        have hj : j72_22 (b, n, (i : Int), ()) = some (.inr (b, n + c % 128 * 128 ^ i, (i : Int), ())) := by
          unfold j72_22
          simp only [idxO_nat, hc, Option.bind_some, hv, hneg, hge, decide_false, cond_false]
        have hw : IntKind.i64.wrap ((i : Int) + 1) = ((i + 1 : Nat) : Int) := by rw [i64w (by omega) (by omega)]; rfl
        have hr : r72_0 (b, n, (i : Int), ()) = some (.inl (b, n + c % 128 * 128 ^ i, ((i + 1 : Nat) : Int), ())) := by
          rw [hr0, hj]
          simp [j72_13, hw]
        rw [hr]
        have hnew : n + c % 128 * 128 ^ i < 128 ^ (i + 1) := by
          have h6 : c % 128 * 128 ^ i ≤ 127 * 128 ^ i := Int.mul_le_mul_of_nonneg_right (by omega) (by have : (0 : Int) < 128 ^ i := Int.pow_pos (by omega); omega)
          rw [Int.pow_succ]; omega
        obtain ⟨y, hy, hy2⟩ := ih (i + 1) (n + c % 128 * 128 ^ i) (by omega) (by omega) hi8 (by omega) hnew
        refine ⟨y, hy, ?_⟩
        rw [hy2]
        simp only [rd, if_neg h9, if_neg hge]

theorem f72_spec {b : List Int} (hb : Byt b) (hl : b.length ≤ 1000000) : f72 (b, ()) = rdQ (rd 0 0 b) := by
  obtain ⟨y, h1, h2⟩ := l72_spec hb hl b.length 0 0 rfl (by omega) (by omega) (by omega) (by decide)
  unfold f72
  have h1' : l72_0 (b, 0, 0, ()) = some y := h1
  simp only [h1', Option.bind_some]
  rw [List.drop_zero] at h2
  generalize rd 0 0 b = q at *
  have h2 : (Sum.elim (fun y103 => some (y103.fst, y103.snd.fst, y103.snd.snd.fst, y103.snd.snd.snd.fst, ())) (fun _x => some ((0 : Int), (0 : Nat), (4 : Int), [], ())) y : Option (Int × Nat × Int × List Int × Unit)) = rdR q := h2
  cases y with
  | inl y =>
    obtain ⟨v, n, e, l, ⟨⟩⟩ := y
    simp only [Sum.elim_inl, rdR, Option.some.injEq, Prod.mk.injEq, and_true] at h2
    obtain ⟨rfl, rfl, rfl, rfl⟩ := h2
    simp only [Sum.elim_inl, Nat.zero_add, Nat.le_refl, decide_true, cond_true, take_len]
    rfl
  | inr y =>
    simp only [Sum.elim_inr, rdR, Option.some.injEq, Prod.mk.injEq, and_true] at h2
    obtain ⟨h3, h4, h5, h6⟩ := h2
    simp only [Sum.elim_inr, rdQ]
    rw [← h3, ← h5, ← h6]

/-! ### Forms -/

theorem uintF_len : ∀ (k : Nat) (n : Int), (uintF k n).length ≤ k + 1
  | 0, _ => Nat.le_refl _
  | k + 1, n => by
    simp only [uintF]
    split
    · simp
    · have := uintF_len k (n / 128)
      simp only [List.length_cons]; omega

theorem l67_spec : ∀ (k : Nat) (n : Int) (xs : List Int), 0 ≤ n → n < 128 ^ (k + 1) → n ≤ 18446744073709551615 → xs.length + k ≤ 1000 →
    ∃ m ys, l67_0 (n, xs.length, xs, ()) = some (m, ys.length, ys, ()) ∧ 0 ≤ m ∧ m < 128 ∧ ys ++ [m] = xs ++ uintF k n := by
  intro k
  induction k with
  | zero =>
    intro n xs h1 h2 _ _
    simp at h2
    unfold l67_0
    rw [iterO_eq]
    have hr : r67_0 (n, xs.length, xs, ()) = some (.inr (n, xs.length, xs, ())) := by
      unfold r67_0
      have : ¬ n ≥ 128 := by omega
      simp only [this, decide_false, cond_false]
    rw [hr]
    exact ⟨n, xs, rfl, h1, h2, rfl⟩
  | succ k ih =>
    intro n xs h1 h2 h3 h4
    unfold l67_0
    rw [iterO_eq]
    by_cases hn : n < 128
    · have hr : r67_0 (n, xs.length, xs, ()) = some (.inr (n, xs.length, xs, ())) := by
        unfold r67_0
        have : ¬ n ≥ 128 := by omega
        simp only [this, decide_false, cond_false]
      rw [hr]
      exact ⟨n, xs, rfl, h1, hn, by rw [uintF_small hn]⟩
    · have hr : r67_0 (n, xs.length, xs, ()) = some (.inl (n / 128, (xs ++ [n % 128 + 128]).length, xs ++ [n % 128 + 128], ())) := by
        unfold r67_0
        have e1 : n ≥ 128 := by omega
        have e2 : bits .or .u8 (IntKind.u8.wrap n) 128 = n % 128 + 128 := by
          rw [u8w, or128 (by omega) (by omega)]; omega
        have e3 : n.fdiv 128 = n / 128 := Int.fdiv_eq_ediv_of_nonneg _ (by omega)
        have e4 : roomy (xs.length + 1) 1 = true := roomy_ok (by omega)
        simp only [e1, e2, e3, e4, decide_true, cond_true, Nat.zero_add, Nat.le_refl, take_len, List.length_append, List.length_singleton]
      rw [hr]
      have h2' : n / 128 < 128 ^ (k + 1) := by rw [Int.pow_succ] at h2; omega
      obtain ⟨m, ys, a1, a2, a3, a4⟩ := ih (n / 128) (xs ++ [n % 128 + 128]) (by omega) h2' (by omega) (by simp only [List.length_append, List.length_singleton]; omega)
      refine ⟨m, ys, a1, a2, a3, ?_⟩
      rw [a4]
      simp [uintF, hn]

theorem f67_spec {n : Int} (h1 : 0 ≤ n) (h2 : n ≤ 18446744073709551615) : f67 (n, ()) = some ((uint n).length, uint n, ()) := by
  obtain ⟨m, ys, a1, a2, a3, a4⟩ := l67_spec 9 n [] h1 (Int.lt_of_lt_of_le (Int.lt_add_one_of_le h2) (by decide)) h2 (by simp)
  simp only [List.nil_append] at a4
  unfold f67
  have a1' : l67_0 (n, 0, [], ()) = some (m, ys.length, ys, ()) := a1
  have hlen := uintF_len 9 n
  have hu : uint n = ys ++ [m] := a4.symm
  rw [← a4] at hlen
  simp only [List.length_append, List.length_singleton] at hlen
  have e4 : roomy (ys.length + 1) 1 = true := roomy_ok (by omega)
  have e5 : IntKind.u8.wrap m = m := by rw [u8w]; omega
  simp only [a1', Option.bind_some, Nat.zero_add, Nat.le_refl, decide_true, cond_true, e4, e5, take_len, hu, List.length_append, List.length_singleton]

theorem n46_spec : ∀ (k : Nat) (n : Int), 0 ≤ n → n < 128 ^ (k + 1) → n ≤ 18446744073709551615 → k ≤ 20 → ∀ j, k < j → n46 j (n, ()) = some ((uintF k n).length, uintF k n, ()) := by
  intro k
  induction k with
  | zero =>
    intro n h1 h2 _ _ j hj
    simp at h2
    obtain ⟨j, rfl⟩ : ∃ i, j = i + 1 := ⟨j - 1, by omega⟩
    show b46 (n46 j) (n, ()) = _
    unfold b46
    have e5 : IntKind.u8.wrap n = n := by rw [u8w]; omega
    simp only [h2, decide_true, cond_true, e5]
    rfl
  | succ k ih =>
    intro n h1 h2 h3 h4 j hj
    obtain ⟨j, rfl⟩ : ∃ i, j = i + 1 := ⟨j - 1, by omega⟩
    show b46 (n46 j) (n, ()) = _
    unfold b46
    by_cases hn : n < 128
    · have e5 : IntKind.u8.wrap n = n := by rw [u8w]; omega
      simp only [hn, decide_true, cond_true, e5]
      rw [uintF_small hn]
      rfl
    · have h2' : n / 128 < 128 ^ (k + 1) := by rw [Int.pow_succ] at h2; omega
      have e1 : n.tdiv 128 = n / 128 := Int.tdiv_eq_ediv_of_nonneg h1
      have e2 : IntKind.u64.wrap (n / 128) = n / 128 := u64w (by omega) (by omega)
      have e3 : IntKind.u8.wrap (IntKind.u64.wrap (n.tmod 128 + 128)) = n % 128 + 128 := by
        rw [Int.tmod_eq_emod_of_nonneg h1, u64w (by omega) (by omega), u8w]; omega
      have hlen := uintF_len k (n / 128)
      have e4 : roomy (1 + (uintF k (n / 128)).length) 1 = true := roomy_ok (by omega)
      have hr := ih (n / 128) (by omega) h2' (by omega) (by omega) j (by omega)
      have hr' : n46 j (IntKind.u64.wrap (n.tdiv 128), ()) = some ((uintF k (n / 128)).length, uintF k (n / 128), ()) := by rw [e1, e2]; exact hr
      simp only [hn, decide_false, cond_false, hr', e3, uintF, if_false, List.length_cons]
      generalize uintF k (n / 128) = u at *
      show (cond (decide (0 + u.length ≤ u.length)) (cond (roomy (1 + (List.take u.length (List.drop 0 u)).length) 1) (some (1 + (List.take u.length (List.drop 0 u)).length, (n % 128 + 128) :: List.take u.length (List.drop 0 u), ())) none) none : Option (Nat × List Int × Unit)) = _
      simp only [Nat.zero_add, Nat.le_refl, decide_true, cond_true, take_len, e4]
      rw [Nat.add_comm]

theorem f46_spec {n : Int} (h1 : 0 ≤ n) (h2 : n ≤ 18446744073709551615) : f46 (n, ()) = some ((uint n).length, uint n, ()) :=
  n46_spec 9 n h1 (Int.lt_of_lt_of_le (Int.lt_add_one_of_le h2) (by decide)) h2 (by omega) 11 (by omega)

/-! ### Checksums -/

theorem l83_6_spec (l : List Int) (a b : Int) : ∀ (k : Nat) (s : Int), 0 ≤ s → s < 4294967296 → k ≤ 8 → l83_6 (s, l, a, b, ((8 - k : Nat) : Int), ()) = some (stps k s, l, a, b, ()) := by
  intro k
  induction k with
  | zero =>
    intro s _ _ _
    unfold l83_6
    rw [iterO_eq]
    rfl
  | succ k ih =>
    intro s h1 h2 h3
    unfold l83_6
    rw [iterO_eq]
    have hr : r83_6 (s, l, a, b, ((8 - (k + 1) : Nat) : Int), ()) = some (.inl (stp s, l, a, b, ((8 - k : Nat) : Int), ())) := by
      unfold r83_6
      have e1 : ((8 - (k + 1) : Nat) : Int) < 8 := by omega
      have e2 : IntKind.i64.wrap (((8 - (k + 1) : Nat) : Int) + 1) = ((8 - k : Nat) : Int) := by rw [i64w (by omega) (by omega)]; omega
      have e3 : s.fdiv 2 = s / 2 := Int.fdiv_eq_ediv_of_nonneg _ (by omega)
      have e4 : bits .and .u32 3988292384 (IntKind.u32.wrap (0 - bits .and .u32 s 1)) = if s % 2 = 1 then 3988292384 else 0 := by
        rw [and1 h1 h2]
        by_cases h : s % 2 = 1
        · rw [if_pos h, h]; decide
        · have : s % 2 = 0 := by omega
          rw [if_neg h, this]; decide
      simp only [e1, e2, e3, e4, decide_true, cond_true, stp]
    rw [hr]
    exact ih (stp s) (stp_lt s).1 (stp_lt s).2 (by omega)

theorem l83_spec {b : List Int} (hb : Byt b) (hl : b.length ≤ 1000000) : ∀ (k i : Nat) (s : Int), b.length - i = k → i ≤ b.length → 0 ≤ s → s < 4294967296 → l83_0 (s, b, (b.length : Int), (i : Int), ()) = some (crcL s (b.drop i), ()) := by
  intro k
  induction k with
  | zero =>
    intro i s hk hi _ _
    have e : i = b.length := by omega
    subst e
    unfold l83_0
    rw [iterO_eq]
    have hr : r83_0 (s, b, (b.length : Int), (b.length : Int), ()) = some (.inr (s, ())) := by
      unfold r83_0; simp
    rw [hr]
    simp [crcL]
  | succ k ih =>
    intro i s hk hi h1 h2
    have hlt : i < b.length := by omega
    obtain ⟨c, hc⟩ : ∃ c, b[i]? = some c := ⟨b[i], List.getElem?_eq_getElem hlt⟩
    have hd : b.drop i = c :: b.drop (i + 1) := by
      rw [List.drop_eq_getElem_cons hlt]
      rw [List.getElem?_eq_getElem hlt] at hc
      cases hc; rfl
    have hcb := hb c (List.mem_of_getElem? hc)
    have hlt' : (i : Int) < (b.length : Int) := by omega
    unfold l83_0
    rw [iterO_eq, hd]
    have hr : r83_0 (s, b, (b.length : Int), (i : Int), ()) = some (.inl (crcB s c, b, (b.length : Int), ((i + 1 : Nat) : Int), ())) := by
      unfold r83_0
      have e1 : IntKind.u32.wrap c = c := u32w (by omega) (by omega)
      have e2 : IntKind.i64.wrap ((i : Int) + 1) = ((i + 1 : Nat) : Int) := by rw [i64w (by omega) (by omega)]; rfl
      have e3 := l83_6_spec b (b.length : Int) (i : Int) 8 (bits .xor .u32 s c) (xor32_lt _ _).1 (xor32_lt _ _).2 (by omega)
      have e3' : l83_6 (bits .xor .u32 s c, b, (b.length : Int), (i : Int), 0, ()) = some (stps 8 (bits .xor .u32 s c), b, (b.length : Int), (i : Int), ()) := e3
      simp only [hlt', decide_true, cond_true, idxO_nat, hc, Option.bind_some, e1, e2, e3', crcB]
    rw [hr]
    exact ih (i + 1) (crcB s c) (by omega) (by omega) (crcB_lt s c).1 (crcB_lt s c).2

/-- The checksum. -/
def crc (b : List Int) : Int := 4294967295 - crcL 4294967295 b

theorem crc_lt (b : List Int) : 0 ≤ crc b ∧ crc b < 4294967296 := by
  have := crcL_lt b (s := 4294967295) (by omega) (by omega)
  unfold crc; omega

theorem f83_spec {b : List Int} (hb : Byt b) (hl : b.length ≤ 1000000) : f83 (b, ()) = some (crc b, ()) := by
  have h := l83_spec hb hl b.length 0 4294967295 rfl (by omega) (by omega) (by omega)
  have h' : l83_0 (4294967295, b, (b.length : Int), 0, ()) = some (crcL 4294967295 (b.drop 0), ()) := h
  have hc := crcL_lt b (s := 4294967295) (by omega) (by omega)
  unfold f83
  simp only [h', Option.bind_some, List.drop_zero]
  rw [xor32_ff hc.1 hc.2]
  rfl

theorem l78_6_spec (l : List Int) (b : Int) : ∀ (k : Nat) (s : Int), 0 ≤ s → s < 4294967296 → k ≤ 8 → l78_6 (l, s, b, ((8 - k : Nat) : Int), ()) = some (l, stps k s, b, ()) := by
  intro k
  induction k with
  | zero =>
    intro s _ _ _
    unfold l78_6
    rw [iterO_eq]
    rfl
  | succ k ih =>
    intro s h1 h2 h3
    unfold l78_6
    rw [iterO_eq]
    have hr : r78_6 (l, s, b, ((8 - (k + 1) : Nat) : Int), ()) = some (.inl (l, stp s, b, ((8 - k : Nat) : Int), ())) := by
      unfold r78_6 j78_25
      have e1 : ((8 - (k + 1) : Nat) : Int) < 8 := by omega
      have e2 : IntKind.i64.wrap (((8 - (k + 1) : Nat) : Int) + 1) = ((8 - k : Nat) : Int) := by rw [i64w (by omega) (by omega)]; omega
      have e3 : IntKind.u32.wrap (s.tdiv 2) = s / 2 := by rw [Int.tdiv_eq_ediv_of_nonneg h1, u32w (by omega) (by omega)]
      have e4 : s.tmod 2 = s % 2 := Int.tmod_eq_emod_of_nonneg h1
      simp only [e1, e2, e3, e4, decide_true, cond_true, Option.bind_some, stp]
      by_cases h : s % 2 = 1
      · have e : (s % 2 == 1) = true := by simp [h]
        rw [e, if_pos h]
        rfl
      · have e : (s % 2 == 1) = false := by simp [h]
        rw [e, if_neg h, xor32_0 (x := s / 2) (by omega) (by omega)]
        rfl
    rw [hr]
    exact ih (stp s) (stp_lt s).1 (stp_lt s).2 (by omega)

theorem l78_spec {b : List Int} (hb : Byt b) (hl : b.length ≤ 1000000) : ∀ (k i : Nat) (s : Int), b.length - i = k → i ≤ b.length → 0 ≤ s → s < 4294967296 → l78_0 (b, s, (i : Int), ()) = some (crcL s (b.drop i), ()) := by
  intro k
  induction k with
  | zero =>
    intro i s hk hi _ _
    have e : i = b.length := by omega
    subst e
    unfold l78_0
    rw [iterO_eq]
    have hr : r78_0 (b, s, (b.length : Int), ()) = some (.inr (s, ())) := by
      unfold r78_0; simp
    rw [hr]
    simp [crcL]
  | succ k ih =>
    intro i s hk hi h1 h2
    have hlt : i < b.length := by omega
    obtain ⟨c, hc⟩ : ∃ c, b[i]? = some c := ⟨b[i], List.getElem?_eq_getElem hlt⟩
    have hd : b.drop i = c :: b.drop (i + 1) := by
      rw [List.drop_eq_getElem_cons hlt]
      rw [List.getElem?_eq_getElem hlt] at hc
      cases hc; rfl
    have hcb := hb c (List.mem_of_getElem? hc)
    have hlt' : (i : Int) < (b.length : Int) := by omega
    unfold l78_0
    rw [iterO_eq, hd]
    have hr : r78_0 (b, s, (i : Int), ()) = some (.inl (b, crcB s c, ((i + 1 : Nat) : Int), ())) := by
      unfold r78_0
      have e1 : IntKind.u32.wrap c = c := u32w (by omega) (by omega)
      have e2 : IntKind.i64.wrap ((i : Int) + 1) = ((i + 1 : Nat) : Int) := by rw [i64w (by omega) (by omega)]; rfl
      have e3 := l78_6_spec b (i : Int) 8 (bits .xor .u32 s c) (xor32_lt _ _).1 (xor32_lt _ _).2 (by omega)
      have e3' : l78_6 (b, bits .xor .u32 s c, (i : Int), 0, ()) = some (b, stps 8 (bits .xor .u32 s c), (i : Int), ()) := e3
      simp only [hlt', decide_true, cond_true, idxO_nat, hc, Option.bind_some, e1, e2, e3', crcB]
    rw [hr]
    exact ih (i + 1) (crcB s c) (by omega) (by omega) (crcB_lt s c).1 (crcB_lt s c).2

theorem f78_spec {b : List Int} (hb : Byt b) (hl : b.length ≤ 1000000) : f78 (b, ()) = some (crc b, ()) := by
  have h := l78_spec hb hl b.length 0 4294967295 rfl (by omega) (by omega) (by omega)
  have h' : l78_0 (b, 4294967295, 0, ()) = some (crcL 4294967295 (b.drop 0), ()) := h
  have hc := crcL_lt b (s := 4294967295) (by omega) (by omega)
  unfold f78
  simp only [h', Option.bind_some, List.drop_zero]
  rw [u32w (by omega) (by omega)]
  rfl

end Go.AE
