/-
  Plain laws of the chapter Journal, part 14: Flips.
-/
import Derived.Test.YtcphmffpkjngiaaJ9
namespace Go.AE
open Go.Proofs Go.RowKit
set_option maxRecDepth 100000

theorem xor8_other {x y : Int} (hx : 0 ≤ x) (hx2 : x < 256) (hy : 0 ≤ y) (hy2 : y < 256) (h0 : y ≠ 0) : (0 ≤ bits .xor .u8 x y ∧ bits .xor .u8 x y < 256) ∧ bits .xor .u8 x y ≠ x := by
  have e : bits .xor .u8 x y = ((x.toNat ^^^ y.toNat : Nat) : Int) := by
    show IntKind.u8.wrap ((BitVec.ofInt 8 x ^^^ BitVec.ofInt 8 y).toNat : Int) = _
    rw [BitVec.toNat_xor, ofInt_nat _ hx, ofInt_nat _ hy]
    have e1 : x.toNat % 2 ^ 8 = x.toNat := Nat.mod_eq_of_lt (by omega)
    have e2 : y.toNat % 2 ^ 8 = y.toNat := Nat.mod_eq_of_lt (by omega)
    rw [e1, e2]
    have : x.toNat ^^^ y.toNat < 2 ^ 8 := Nat.xor_lt_two_pow (by omega) (by omega)
    rw [u8w]
    omega
  have hlt : x.toNat ^^^ y.toNat < 2 ^ 8 := Nat.xor_lt_two_pow (by omega) (by omega)
  rw [e]
  refine ⟨by omega, fun h => ?_⟩
  have h : x.toNat ^^^ y.toNat = x.toNat := by omega
  have h2 : x.toNat ^^^ (x.toNat ^^^ y.toNat) = 0 := by rw [h, Nat.xor_self]
  rw [← Nat.xor_assoc, Nat.xor_self, Nat.zero_xor] at h2
  omega

theorem uint_one {n : Int} (h : n < 128) : (uint n).length = 1 := by
  unfold uint
  rw [uintF_small h]
  rfl
theorem uint_two {n : Int} (h : ¬ n < 128) (h2 : n < 16384) : (uint n).length = 2 := by
  unfold uint
  simp only [uintF, if_neg h, if_pos (show n / 128 < 128 by omega)]
  rfl
theorem fr_form (e : Ev) : (fr e).length = 1 + (uint ((enc e).length : Int)).length + (enc e).length + 4 := by
  unfold fr
  rw [frame_form]
  simp only [List.length_cons, List.length_append, tail4_len]
  omega

/-! ### A frame of which one byte is changed -/

theorem changed_rest {k : Int} {d : List Int} (h1 : 0 ≤ k) (h2 : k < 256) (hd : Byt d) (hl : d.length ≤ 4096) {K : Nat} {c : Int} (hc1 : 0 ≤ c) (hc2 : c < 256)
    (hK : K = 0 ∨ 1 + (uint (d.length : Int)).length ≤ K) (hK2 : K < (frame k d).length) (hne : (frame k d)[K]'hK2 ≠ c) (rest : List Int) : (unf ((frame k d).set K c ++ rest)).2.2.2 = 5 := by
  have hB : Byt (k :: bytesF d) := Byt.cons h1 h2 (bytesF_byt hd (by omega))
  have hlen : (k :: bytesF d).length = 1 + (uint (d.length : Int)).length + d.length := by simp only [bytesF, List.length_cons, List.length_append]; omega
  have hE : (frame k d).length = (k :: bytesF d).length + 4 := by simp [frame, summed, tail4_len]
  have hform : ∃ k' r', (frame k d).set K c = k' :: (uint (d.length : Int) ++ r') ∧ (d.length : Int) + 4 ≤ (r'.length : Int) := by
    rw [frame_form]
    rcases hK with rfl | hK
    · exact ⟨c, _, rfl, by simp only [List.length_append, tail4_len]; omega⟩
    · refine ⟨k, (d ++ tail4 (crc (k :: bytesF d))).set (K - 1 - (uint (d.length : Int)).length) c, ?_, by simp only [List.length_set, List.length_append, tail4_len]; omega⟩
      obtain ⟨j, rfl⟩ : ∃ j, K = j + 1 := ⟨K - 1, by omega⟩
      rw [List.set_cons_succ, List.set_append_right _ _ (by omega)]
      simp
  obtain ⟨k', r', e1, e2⟩ := hform
  have e2' : (d.length : Int) + 4 ≤ ((r' ++ rest).length : Int) := by rw [List.length_append]; omega
  have key := unf_form (k := k') (n := (d.length : Int)) (r := r' ++ rest) (by omega) (by omega) e2'
  have e0 : k' :: (uint (d.length : Int) ++ (r' ++ rest)) = (frame k d).set K c ++ rest := by
    rw [e1, List.cons_append, List.append_assoc]
  rw [e0] at key
  apply key
  have e3 : 1 + (uint (d.length : Int)).length + (d.length : Int).toNat = (k :: bytesF d).length := by rw [hlen]; simp
  rw [e3]
  have e4 : ((frame k d).set K c ++ rest).take ((k :: bytesF d).length + 4) = (frame k d).set K c := List.take_left' (by rw [List.length_set, hE])
  have e4' : ((frame k d).set K c ++ rest).take (k :: bytesF d).length = ((frame k d).set K c).take (k :: bytesF d).length := List.take_append_of_le_length (by rw [List.length_set, hE]; omega)
  rw [e4, e4']
  have hfs : frame k d = (k :: bytesF d) ++ tail4 (crc (k :: bytesF d)) := rfl
  by_cases hlt : K < (k :: bytesF d).length
  · have e5 : ((frame k d).set K c) = ((k :: bytesF d).set K c) ++ tail4 (crc (k :: bytesF d)) := by rw [hfs, List.set_append_left _ _ hlt]
    rw [e5]
    have e6 : List.take (k :: bytesF d).length ((k :: bytesF d).set K c ++ tail4 (crc (k :: bytesF d))) = (k :: bytesF d).set K c := by rw [List.take_left' (by simp only [List.length_set])]
    rw [e6]
    unfold summed
    intro hh
    have hh := List.append_cancel_left hh
    have hh := tail4_inj (crc_lt _) (crc_lt _) hh
    have hv : (k :: bytesF d)[K]'hlt ≠ c := by
      have : (frame k d)[K]'hK2 = (k :: bytesF d)[K]'hlt := by
        simp only [hfs, List.getElem_append_left hlt]
      rw [← this]; exact hne
    refine crcL_other K (k :: bytesF d) (s := 4294967295) hB (by omega) (by omega) hc1 hc2 hlt (by rw [List.getD_eq_getElem?_getD, List.getElem?_eq_getElem hlt]; exact hv) ?_
    have g1 := crc_lt (k :: bytesF d)
    unfold crc at hh
    omega
  · have e5 : List.take (k :: bytesF d).length ((frame k d).set K c) = k :: bytesF d := by
      rw [hfs, List.set_append_right _ _ (by omega), List.take_left' rfl]
    rw [e5]
    intro hh
    have hh : frame k d = (frame k d).set K c := hh
    apply hne
    have := List.getElem_set_self (l := frame k d) (i := K) (a := c) (by rw [List.length_set]; exact hK2)
    rw [← this]
    congr 1

/-- Whole frames are read; then the rest. -/
theorem opn_run : ∀ (M : List Ev) {L : List Ev} (n : Nat) (X : List Int), Good (L ++ M) → opn (M.length + n) L (frs M ++ X) = opn n (L ++ M) X
  | [], L, n, X, _ => by simp [frs]
  | e :: M, L, n, X, h => by
    have e1 : (e :: M).length + n = (M.length + n) + 1 := by simp only [List.length_cons]; omega
    have e2 : frs (e :: M) ++ X = fr e ++ (frs M ++ X) := by simp only [frs, List.append_assoc]
    rw [e1, e2, opn_step h, opn_run M n X (by simpa using h)]
    simp

theorem opn_stop (n : Nat) (L : List Ev) {X : List Int} (h : (unf X).2.2.2 ≠ 0) : opn n L X = (L, X) := by
  cases n with
  | zero => rfl
  | succ n => rw [opn, if_neg (fun hc => h hc.1)]

/-- A byte is changed in the frame behind those of M, and not in its length. -/
theorem opened_changed {M : List Ev} {e : Ev} {M3 : List Ev} (h : Good (M ++ e :: M3)) {K : Nat} {c : Int} (hc1 : 0 ≤ c) (hc2 : c < 256) (hK : K = 0 ∨ 1 + (uint ((enc e).length : Int)).length ≤ K) (hK2 : K < (fr e).length) (hne : (fr e)[K]'hK2 ≠ c) :
    opened ((bytesJ (M ++ e :: M3)).set (4 + (frs M).length + K) c) = (M, (fr e).set K c ++ frs M3) := by
  have e1 : ((bytesJ (M ++ e :: M3)).set (4 + (frs M).length + K) c).drop 4 = frs M ++ ((fr e).set K c ++ frs M3) := by
    have : bytesJ (M ++ e :: M3) = magic ++ (frs M ++ (fr e ++ frs M3)) := by
      unfold bytesJ
      rw [frs_append]
      rfl
    rw [this, List.set_append_right _ _ (by show 4 ≤ _; omega), List.set_append_right _ _ (by show _ ≤ _ - 4; omega), List.set_append_left _ _ (by show _ - 4 - _ < _; omega)]
    have : 4 + (frs M).length + K - magic.length - (frs M).length = K := by show _ - 4 - _ = _; omega
    rw [this]
    rfl
  have hl : M.length ≤ (frs M).length := frs_len M
  unfold opened
  have e2 : ((bytesJ (M ++ e :: M3)).set (4 + (frs M).length + K) c).length + 1 = M.length + (((bytesJ (M ++ e :: M3)).set (4 + (frs M).length + K) c).length + 1 - M.length) := by
    rw [List.length_set, bytesJ_len, frs_append, List.length_append]
    omega
  have hu : (unf ((fr e).set K c ++ frs M3)).2.2.2 = 5 := changed_rest (by omega) (by omega) (enc_byt e) (by have := enc_len e; omega) hc1 hc2 hK hK2 hne _
  rw [e1, e2, opn_run M (L := []) _ _ h.left, opn_stop _ _ (by rw [hu]; decide)]
  rfl

/-! ### Before -/

theorem l37_spec {L : List Ev} (hL : Good L) (k : Nat) (hk : k < 4 + (frs L).length) : ∀ (M2 M1 : List Ev), L = M1 ++ M2 → 4 + (frs M1).length ≤ k →
    ∃ M e M3, L = M ++ e :: M3 ∧ 4 + (frs M).length ≤ k ∧ k < 4 + (frs M).length + (fr e).length ∧
      l37_0 (L, (k : Int), ((4 + (frs M1).length : Nat) : Int), (M1.length : Int), ()) = some (.inl ((M.length : Int), decide (4 + (frs M).length < k ∧ k ≤ 4 + (frs M).length + (uint ((enc e).length : Int)).length), ())) := by
  have hfew := hL.few
  have hlen := hL.len
  rw [bytesJ_len] at hlen
  intro M2
  induction M2 with
  | nil =>
    intro M1 h1 h2
    rw [h1, List.append_nil] at hk
    omega
  | cons e M3 ih =>
    intro M1 h1 h2
    have hlt : M1.length < L.length := by rw [h1, List.length_append]; simp
    have c1 : (M1.length : Int) < (L.length : Int) := by omega
    have hget : L[M1.length]? = some e := by rw [h1]; simp
    have hff := fr_form e
    have hfl := fr_len e
    have hfs : (frs M1).length + (fr e).length ≤ (frs L).length := by rw [h1, frs_append]; simp only [frs, List.length_append]; omega
    have hel := enc_len e
    have w0 : IntKind.i64.wrap ((M1.length : Int) + 1) = ((M1.length + 1 : Nat) : Int) := by rw [i64w (by omega) (by omega)]; rfl
    generalize hS : 4 + (frs M1).length = S at *
    have step : ∀ m : Nat, (uint ((enc e).length : Int)).length = m → j37_28 (L, (k : Int), (S : Int), (M1.length : Int), enc e, (m : Int), ()) =
        some (if k < S + (fr e).length then .inl ((M1.length : Int), decide (S < k ∧ k ≤ S + m), ()) else .inr (L, (k : Int), ((S + (fr e).length : Nat) : Int), (M1.length : Int), ())) := by
      intro m hm
      have hm2 : m ≤ 10 := by rw [← hm]; exact uint_len _
      have w1 : IntKind.i64.wrap ((S : Int) + 1) = (S : Int) + 1 := i64w (by omega) (by omega)
      have w2 : IntKind.i64.wrap ((S : Int) + 1 + (m : Int)) = (S : Int) + 1 + (m : Int) := i64w (by omega) (by omega)
      have w3 : IntKind.i64.wrap ((S : Int) + 1 + (m : Int) + ((enc e).length : Int)) = (S : Int) + 1 + (m : Int) + ((enc e).length : Int) := i64w (by omega) (by omega)
      have w4 : IntKind.i64.wrap ((S : Int) + 1 + (m : Int) + ((enc e).length : Int) + 4) = ((S + (fr e).length : Nat) : Int) := by rw [i64w (by omega) (by omega)]; omega
      have w5 : IntKind.i64.wrap ((S : Int) + (m : Int)) = (S : Int) + (m : Int) := i64w (by omega) (by omega)
      unfold j37_28
      simp only [w1, w2, w3, w4, w5]
      by_cases hc : k < S + (fr e).length
      · have c2 : (k : Int) < ((S + (fr e).length : Nat) : Int) := by omega
        rw [if_pos hc]
        simp only [c2, decide_true, cond_true]
        by_cases hd : S < k
        · have c3 : (k : Int) > (S : Int) := by omega
          simp only [c3, decide_true, cond_true]
          congr 4
          apply decide_eq_decide.2
          omega
        · have c3 : ¬ (k : Int) > (S : Int) := by omega
          simp only [c3, decide_false, cond_false]
          congr 3
          simp only [hd, false_and, decide_false]
      · have c2 : ¬ (k : Int) < ((S + (fr e).length : Nat) : Int) := by omega
        rw [if_neg hc]
        simp only [c2, decide_false, cond_false]
    have hr : r37_0 (L, (k : Int), (S : Int), (M1.length : Int), ()) = some (if k < S + (fr e).length then .inr (.inl ((M1.length : Int), decide (S < k ∧ k ≤ S + (uint ((enc e).length : Int)).length), ())) else .inl (L, (k : Int), ((S + (fr e).length : Nat) : Int), ((M1.length + 1 : Nat) : Int), ())) := by
      unfold r37_0 f36
      simp only [c1, decide_true, cond_true, idxO_nat, hget, Option.bind_some, f13_spec]
      by_cases hu : ((enc e).length : Int) > 127
      · have h2 := uint_two (n := ((enc e).length : Int)) (by omega) (by omega)
        have st := step 2 h2
        have st' : j37_28 (L, (k : Int), (S : Int), (M1.length : Int), enc e, 2, ()) = _ := st
        rw [h2]
        simp only [hu, decide_true, cond_true, st', Option.bind_some]
        by_cases hc : k < S + (fr e).length
        · simp only [if_pos hc, Sum.elim_inl]
        · simp only [if_neg hc, Sum.elim_inr, j37_13, Option.bind_some, w0]
      · have h2 := uint_one (n := ((enc e).length : Int)) (by omega)
        have st := step 1 h2
        have st' : j37_28 (L, (k : Int), (S : Int), (M1.length : Int), enc e, 1, ()) = _ := st
        rw [h2]
        simp only [hu, decide_false, cond_false, st', Option.bind_some]
        by_cases hc : k < S + (fr e).length
        · simp only [if_pos hc, Sum.elim_inl]
        · simp only [if_neg hc, Sum.elim_inr, j37_13, Option.bind_some, w0]
    by_cases hc : k < S + (fr e).length
    · rw [if_pos hc] at hr
      refine ⟨M1, e, M3, h1, by omega, by omega, ?_⟩
      unfold l37_0
      rw [iterO_eq, hr, hS]
    · rw [if_neg hc] at hr
      have e3 : (frs (M1 ++ [e])).length = (frs M1).length + (fr e).length := by rw [frs_append, List.length_append]; simp [frs]
      obtain ⟨M, e', M3', p1, p2, p3, p4⟩ := ih (M1 ++ [e]) (by rw [h1]; simp) (by omega)
      refine ⟨M, e', M3', p1, p2, p3, ?_⟩
      have e4 : ((4 + (frs (M1 ++ [e])).length : Nat) : Int) = ((S + (fr e).length : Nat) : Int) := by omega
      have e5 : (((M1 ++ [e]).length : Nat) : Int) = ((M1.length + 1 : Nat) : Int) := by rw [List.length_append]; rfl
      rw [e4, e5] at p4
      unfold l37_0 at p4 ⊢
      rw [iterO_eq, hr]
      exact p4

theorem f37_spec {L : List Ev} (hL : Good L) (k : Nat) (h4 : 4 ≤ k) (hk : k < 4 + (frs L).length) : ∃ M e M3, L = M ++ e :: M3 ∧ 4 + (frs M).length ≤ k ∧ k < 4 + (frs M).length + (fr e).length ∧
    f37 (L, (k : Int), ()) = some ((M.length : Int), decide (4 + (frs M).length < k ∧ k ≤ 4 + (frs M).length + (uint ((enc e).length : Int)).length), ()) := by
  obtain ⟨M, e, M3, p1, p2, p3, p4⟩ := l37_spec hL k hk L [] rfl (by simpa [frs] using h4)
  refine ⟨M, e, M3, p1, p2, p3, ?_⟩
  have p4' : l37_0 (L, (k : Int), 4, 0, ()) = _ := p4
  unfold f37
  simp only [p4', Option.bind_some, Sum.elim_inl]

/-! ### Flips -/

theorem l7_spec {x : List Ev} (hx : x.length ≤ 1000000) (a c : Int) : ∀ (k i : Nat) (l : List Ev), x.length - i = k → i ≤ x.length → Good l →
    l7_0 (x, a, c, (i : Int), l.length, l, ()) = some (x, a, c, ((x.drop i).foldl nxt l).length, (x.drop i).foldl nxt l, ()) := by
  intro k
  induction k with
  | zero =>
    intro i l hk hi h
    have : i = x.length := by omega
    subst this
    have c1 : ¬ (x.length : Int) < (x.length : Int) := by omega
    unfold l7_0
    rw [iterO_eq]
    have : r7_0 (x, a, c, (x.length : Int), l.length, l, ()) = some (.inr (x, a, c, l.length, l, ())) := by
      unfold r7_0
      simp only [c1, decide_false, cond_false]
    rw [this]
    simp
  | succ k ih =>
    intro i l hk hi h
    have hlt : i < x.length := by omega
    have c1 : (i : Int) < (x.length : Int) := by omega
    have w0 : IntKind.i64.wrap ((i : Int) + 1) = ((i + 1 : Nat) : Int) := by rw [i64w (by omega) (by omega)]; rfl
    have hget := List.getElem?_eq_getElem hlt
    have hd : x.drop i = x[i] :: x.drop (i + 1) := List.drop_eq_getElem_cons hlt
    rw [hd]
    generalize x[i] = e at *
    have h23 := f23_spec h e
    have hr : r7_0 (x, a, c, (i : Int), l.length, l, ()) = some (.inl (x, a, c, ((i + 1 : Nat) : Int), (nxt l e).length, nxt l e, ())) := by
      unfold r7_0
      simp only [c1, decide_true, cond_true, idxO_nat, hget, Option.bind_some, Nat.zero_add, Nat.le_refl, takeL, h23]
      unfold nxt
      by_cases ha : app l e = 0
      · simp only [if_pos ha, Sum.elim_inr, w0]
      · simp only [if_neg ha, Sum.elim_inl, w0]
    have := ih (i + 1) (nxt l e) (by omega) (by omega) (h.nxt e)
    unfold l7_0 at this ⊢
    rw [iterO_eq, hr]
    exact this

theorem journalFlips_plain (R : List Ev) {m by' : Int} (h0 : 0 ≤ m) (h1 : m < 65536) (hb0 : 0 ≤ by') (hb1 : by' < 256) : f7 (R, m, by', ()) = some (true, ()) := by
  obtain ⟨w, hw, hw2⟩ := f18_spec' R
  unfold f7
  simp only [f11_spec, Option.bind_some, Bool.not_true, cond_false, hw]
  cases w with
  | false => simp only [Bool.not_false, cond_true]
  | true =>
    obtain ⟨q1, q2⟩ := hw2 rfl
    by_cases hz : by' = 0
    · have qz : (by' == 0) = true := by simpa using hz
      simp only [Bool.not_true, cond_false, qz, cond_true]
    · have qz : (by' == 0) = false := by simpa using hz
      have hlp := l7_spec (show R.length ≤ 1000000 by omega) m by' R.length 0 [] rfl (by omega) good_nil
      rw [List.drop_zero] at hlp
      have hlp' : l7_0 (R, m, by', 0, f20.fst, f20.snd, ()) = some (R, m, by', (run R).length, run R, ()) := hlp
      have hg := good_run R
      have hlen := hg.len
      have hm := bytesJ_min (run R)
      have rr : roomy (bytesJ (run R)).length 1 = true := roomy_ok (by omega)
      simp only [Bool.not_true, cond_false, qz, hlp', Option.bind_some, f34_spec (show R.length ≤ 1000000 by omega) q2, Nat.zero_add, Nat.le_refl, decide_true, cond_true, takeL, f25_spec (run R) (show (bytesJ (run R)).length ≤ 1000000 by omega), rr, f35_spec hg, List.nil_append, f14]
      generalize run R = L at *
      have hfew := hg.few
      have hbl := bytesJ_len L
      by_cases h5 : ((bytesJ L).length : Int) < 5
      · have q4 : (((bytesJ L).length : Int) == 4) = true := by rw [beq_iff_eq]; omega
        have hfl := frs_len L
        have hL : L.length = 0 := by omega
        have q5 : ((L.length : Int) == 0) = true := by rw [beq_iff_eq]; omega
        simp only [h5, decide_true, cond_true, q4, f36, q5]
      · have w1 : IntKind.i64.wrap (((bytesJ L).length : Int) - 4) = ((bytesJ L).length : Int) - 4 := i64w (by omega) (by omega)
        have w2 : IntKind.i64.wrap m = m := i64w (by omega) (by omega)
        have c2 : (((bytesJ L).length : Int) - 4 == 0) = false := by rw [beq_eq_false_iff_ne]; omega
        have tm : m.tmod (((bytesJ L).length : Int) - 4) = m % (((bytesJ L).length : Int) - 4) := Int.tmod_eq_emod_of_nonneg h0
        have e1 := Int.emod_nonneg m (show ((bytesJ L).length : Int) - 4 ≠ 0 by omega)
        have e2 := Int.emod_lt_of_pos m (show 0 < ((bytesJ L).length : Int) - 4 by omega)
        simp only [h5, decide_false, cond_false, w1, c2, w2, tm]
        generalize m % (((bytesJ L).length : Int) - 4) = k at *
        obtain ⟨n, hn⟩ : ∃ n : Nat, (n : Int) = 4 + k := ⟨(4 + k).toNat, by omega⟩
        have w3 : IntKind.i64.wrap (4 + k) = (n : Int) := by rw [i64w (by omega) (by omega)]; exact hn.symm
        obtain ⟨M, e, M3, p1, p2, p3, p4⟩ := f37_spec hg n (by omega) (by omega)
        simp only [w3, p4, Option.bind_some]
        by_cases hd : 4 + (frs M).length < n ∧ n ≤ 4 + (frs M).length + (uint ((enc e).length : Int)).length
        · simp only [hd, and_self, decide_true, cond_true]
        · have c3 : (0 : Int) ≤ (n : Int) := by omega
          have c4 : (n : Int) < ((bytesJ L).length : Int) := by omega
          have hlt : n < (bytesJ L).length := by omega
          have hget := List.getElem?_eq_getElem hlt
          obtain ⟨K, rfl⟩ : ∃ K, n = 4 + (frs M).length + K := ⟨n - (4 + (frs M).length), by omega⟩
          have hgv : (bytesJ L)[4 + (frs M).length + K] = (fr e)[K]'(by omega) := by
            have : (bytesJ L)[4 + (frs M).length + K]? = some ((fr e)[K]'(by omega)) := by
              have hb : bytesJ L = magic ++ (frs M ++ (fr e ++ frs M3)) := by
                rw [p1]
                unfold bytesJ
                rw [frs_append]
                rfl
              rw [hb, List.getElem?_append_right (by show 4 ≤ _; omega), List.getElem?_append_right (by show _ ≤ _ - 4; omega)]
              have : 4 + (frs M).length + K - magic.length - (frs M).length = K := by show _ - 4 - _ = _; omega
              rw [this, List.getElem?_append_left (by omega), List.getElem?_eq_getElem]
            rw [hget] at this
            exact Option.some.inj this
          have hvb := bytesJ_byt (l := L) _ (List.getElem_mem hlt)
          obtain ⟨x1, x2⟩ := xor8_other hvb.1 hvb.2 hb0 hb1 hz
          have hK : K = 0 ∨ 1 + (uint ((enc e).length : Int)).length ≤ K := by omega
          have hgd : Good (M ++ e :: M3) := p1 ▸ hg
          have ho := opened_changed hgd x1.1 x1.2 hK (by omega) (by rw [← hgv]; exact Ne.symm x2)
          rw [← p1] at ho
          generalize hv : bits .xor .u8 ((bytesJ L)[4 + (frs M).length + K]) by' = v at *
          have hbt : Byt ((bytesJ L).set (4 + (frs M).length + K) v) := bytesJ_byt.set x1.1 x1.2
          have hsl : ((bytesJ L).set (4 + (frs M).length + K) v).length = (bytesJ L).length := List.length_set
          have hct : ((bytesJ L).set (4 + (frs M).length + K) v).take 4 = magic := by
            rw [List.take_set, List.set_eq_of_length_le (by rw [List.length_take]; omega)]
            rfl
          have hM : Good M := hgd.left
          have hMf := hM.few
          have hl1 : M.length ≤ L.length := by rw [p1, List.length_append]; omega
          have hf38 := f38_spec hbt (by rw [hsl]; omega)
          rw [if_neg (by rw [hsl]; omega), if_pos hct, ho] at hf38
          have ht0 : List.take (bytesJ L).length ((bytesJ L).set (4 + (frs M).length + K) v) = (bytesJ L).set (4 + (frs M).length + K) v := List.take_of_length_le (by rw [hsl]; exact Nat.le_refl _)
          have c9 : (0 : Int) ≤ (M.length : Int) := by omega
          have c10 : (M.length : Int) ≤ (L.length : Int) := by omega
          have ht2 : L.take M.length = M := by rw [p1, List.take_left' rfl]
          have h31 := f31_spec (a := M) (b := M) (by omega) hM.scan
          rw [decide_eq_true rfl] at h31
          simp only [hd, decide_false, cond_false, c3, c4, decide_true, Bool.and_self, cond_true, Int.toNat_natCast, hget, Option.bind_some, hv, hsl, Nat.le_refl, List.drop_zero, ht0, hf38, Sum.elim_inr, List.take_length,
            f28_spec (bytesJ M) (show M.length ≤ 1000000 by omega) hM.scan, c9, c10, Int.le_refl, Nat.sub_zero, hl1, ht2, h31]

end Go.AE
