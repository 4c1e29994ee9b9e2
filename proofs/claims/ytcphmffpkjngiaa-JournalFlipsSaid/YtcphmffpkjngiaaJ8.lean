/-
  Plain laws of the chapter Journal, part 12: Opens, Again, Cuts.
-/
import Derived.Test.YtcphmffpkjngiaaJ7
namespace Go.AE
open Go.Proofs Go.RowKit
set_option maxRecDepth 100000

theorem l8_spec (b : List Int) (n : Nat) (left : Int) (a n2 wl : Nat) (A : List Int) (L wL : List Ev) : ∀ (k i : Nat) (own : List Int), n - i = k → i ≤ n → own.length = n → n ≤ 100000 →
    l8_0 (b, n, left, (i : Int), own, a, n2, wl, A, L, wL, ()) = some (b, left, a, n2, wl, A, L, wL, ()) := by
  intro k
  induction k with
  | zero =>
    intro i own hk hi ho hn
    have c1 : ¬ (i : Int) < (n : Int) := by omega
    have hr : r8_0 (b, n, left, (i : Int), own, a, n2, wl, A, L, wL, ()) = some (.inr (b, left, a, n2, wl, A, L, wL, ())) := by
      unfold r8_0
      simp only [c1, decide_false, cond_false]
    unfold l8_0
    rw [iterO_eq, hr]
  | succ k ih =>
    intro i own hk hi ho hn
    have c1 : (i : Int) < (n : Int) := by omega
    have c0 : (0 : Int) ≤ (i : Int) := by omega
    have hlt : i < own.length := by omega
    have w0 : IntKind.i64.wrap ((i : Int) + 1) = ((i + 1 : Nat) : Int) := by rw [i64w (by omega) (by omega)]; rfl
    have hget := List.getElem?_eq_getElem hlt
    have hr : r8_0 (b, n, left, (i : Int), own, a, n2, wl, A, L, wL, ()) = some (.inl (b, n, left, ((i + 1 : Nat) : Int), own.set i (IntKind.u8.wrap (own[i] + 1)), a, n2, wl, A, L, wL, ())) := by
      unfold r8_0
      simp only [c1, c0, decide_true, cond_true, Bool.and_self, Nat.zero_add, Int.toNat_natCast, hget, Option.bind_some, w0]
    have := ih (i + 1) (own.set i (IntKind.u8.wrap (own[i] + 1))) (by omega) (by omega) (by rw [List.length_set]; exact ho) hn
    unfold l8_0 at this ⊢
    rw [iterO_eq, hr]
    exact this

theorem journalOpens_plain {b : List Int} (hb : Byt b) : f8 (b, ()) = some (true, ()) := by
  unfold f8
  simp only [f11_spec, Option.bind_some, Bool.not_true, cond_false]
  by_cases hl : (b.length : Int) > 3000
  · simp only [hl, decide_true, cond_true]
  · have rr : roomy b.length 1 = true := roomy_ok (by omega)
    simp only [hl, decide_false, cond_false, Nat.zero_add, rr, cond_true, List.nil_append, Nat.le_refl, decide_true, takeL, f38_spec hb (show b.length ≤ 100000 by omega), f39_spec hb (show b.length ≤ 100000 by omega), Option.bind_some]
    by_cases h4 : b.length < 4
    · simp only [if_pos h4, Sum.elim_inl, f14, decide_true, Bool.not_true, cond_false]
    · by_cases hm : b.take 4 = magic
      · have hg := opened_good b
        have hby := opened_bytes hb hm
        generalize opened b = o at *
        obtain ⟨L, r⟩ := o
        simp only at hg hby
        have hlen := hg.len
        have hbl : b.length = (bytesJ L).length + r.length := by rw [← hby, List.length_append]
        have l8 := l8_spec b b.length (r.length : Int) (bytesJ L).length L.length L.length (bytesJ L) L L b.length 0 b (by omega) (by omega) rfl (by omega)
        have l8' : l8_0 (b, b.length, (r.length : Int), 0, b, (bytesJ L).length, L.length, L.length, bytesJ L, L, L, ()) = _ := l8
        have w : IntKind.i64.wrap (((bytesJ L).length : Int) + (r.length : Int)) = (b.length : Int) := by rw [i64w (by omega) (by omega)]; omega
        have c1 : ((bytesJ L).length : Int) ≤ (b.length : Int) := by omega
        have ht : b.take (bytesJ L).length = bytesJ L := by conv => lhs; rw [← hby]
                                                            rw [List.take_left' rfl]
        simp only [if_neg h4, if_pos hm, Sum.elim_inr, bne_self_eq_false, cond_false, f14, decide_true, Bool.not_true, l8', Option.bind_some, Nat.le_refl, cond_true, List.take_length,
          f25_spec L (show (bytesJ L).length ≤ 1000000 by omega), f24_same hg, Sum.elim_inl, w, beq_self_eq_true, c1, Int.le_refl, Bool.and_self, Int.toNat_natCast, ht, List.drop_zero]
      · simp only [if_neg h4, if_neg hm, Sum.elim_inl, Sum.elim_inr, f14, decide_true, Bool.not_true, cond_false]

/-! ### Whole journals are read back -/

theorem Good.app {L : List Ev} {e : Ev} {M : List Ev} (h : Good (L ++ e :: M)) : AE.app L e = 0 := by
  have he := (h.ok e (by simp)).1
  obtain ⟨h1, h2, h3, h4⟩ := evOK_iff.1 he
  refine app_zero.2 ⟨⟨h1, h2⟩, ⟨?_, h4⟩, ?_⟩
  · rcases List.eq_nil_or_concat L with rfl | ⟨a, x, rfl⟩
    · exact (h.ok e (by simp)).2
    · rw [List.concat_eq_append] at h ⊢
      rw [lastT_snoc]
      exact (List.pairwise_append.1 h.inc).2.2 x (by simp) e (by simp)
  · have := h.len
    simp only [bytesJ_len, frs_append, frs, List.length_append] at this ⊢
    omega
theorem Good.left {L M : List Ev} (h : Good (L ++ M)) : Good L := by
  refine ⟨fun e he => h.ok e (by simp [he]), ?_, (List.pairwise_append.1 h.inc).1⟩
  have := h.len
  simp only [bytesJ_len, frs_append, List.length_append] at this ⊢
  omega

theorem opn_step {L : List Ev} {e : Ev} {M : List Ev} (h : Good (L ++ e :: M)) (n : Nat) (r : List Int) : opn (n + 1) L (fr e ++ r) = opn n (L ++ [e]) r := by
  have he := (h.ok e (by simp)).1
  have hu : unf (fr e ++ r) = (1, enc e, r, 0) := unf_frame (by have := enc_len e; omega)
  have hd : dec (enc e) = (e, 0) := by rw [enc_yes he]; exact dec_enc he
  rw [opn, hu]
  simp only
  rw [hd]
  simp only
  rw [if_pos ⟨trivial, trivial, trivial, h.app⟩]

/-- Frames that are cut somewhere. -/
theorem opn_cut : ∀ (M : List Ev) {L : List Ev} {n : Nat} (N : Nat), Good (L ++ M) → ((frs M).take N).length < n →
    ∃ M1 M2 r, M = M1 ++ M2 ∧ opn n L ((frs M).take N) = (L ++ M1, r) ∧ (M2 = [] → r = []) ∧ ∀ e M3, M2 = e :: M3 → r.length < (fr e).length
  | [], L, n, N, h, hn => by
    obtain ⟨n, rfl⟩ : ∃ m, n = m + 1 := ⟨n - 1, by omega⟩
    refine ⟨[], [], [], rfl, ?_, fun _ => rfl, fun e M3 h => (by cases h)⟩
    have : (frs []).take N = [] := by simp [frs]
    rw [this, opn, if_neg (by simp [unf]), List.append_nil]
  | e :: M, L, n, N, h, hn => by
    obtain ⟨n, rfl⟩ : ∃ m, n = m + 1 := ⟨n - 1, by omega⟩
    by_cases hN : (fr e).length ≤ N
    · have e1 : (frs (e :: M)).take N = fr e ++ (frs M).take (N - (fr e).length) := by
        simp only [frs]
        rw [List.take_append, List.take_of_length_le hN]
      have hp := fr_pos e
      rw [e1, List.length_append] at hn
      obtain ⟨M1, M2, r, p1, p2, p3, p4⟩ := opn_cut M (L := L ++ [e]) (n := n) (N - (fr e).length) (by simpa using h) (by omega)
      refine ⟨e :: M1, M2, r, by rw [p1]; rfl, ?_, p3, p4⟩
      rw [e1, opn_step h, p2]
      simp
    · refine ⟨[], e :: M, (fr e).take N, rfl, ?_, fun h => (by cases h), fun e' M3 h => ?_⟩
      · have e1 : (frs (e :: M)).take N = (fr e).take N := by
          simp only [frs]
          rw [List.take_append_of_le_length (by omega)]
        have hu : unf ((fr e).take N) = (0, [], [], 4) := unf_torn (by have := enc_len e; omega) (by unfold fr at hN; omega)
        rw [e1, opn, hu, if_neg (by simp), List.append_nil]
      · cases h
        simp only [List.length_take]
        omega

theorem bytesJ_byt {l : List Ev} : Byt (bytesJ l) := by
  have hf : ∀ l, Byt (frs l) := fun l => by
    induction l with
    | nil => exact fun x hx => (by cases hx)
    | cons e l ih => exact (frame_byt (by omega) (by omega) (enc_byt e) (by have := enc_len e; omega)).append ih
  have hm : Byt magic := fun x hx => by
    have : x = 87 ∨ x = 70 ∨ x = 74 ∨ x = 49 := by simpa [magic] using hx
    omega
  exact hm.append (hf l)

theorem opened_cut {L : List Ev} (h : Good L) (n : Nat) :
    ∃ M1 M2 r, L = M1 ++ M2 ∧ opened ((bytesJ L).take n) = (M1, r) ∧ (M2 = [] → r = []) ∧ ∀ e M3, M2 = e :: M3 → r.length < (fr e).length := by
  have e1 : ((bytesJ L).take n).drop 4 = (frs L).take (n - 4) := by
    rw [List.drop_take]
    rfl
  have e2 : ((frs L).take (n - 4)).length < ((bytesJ L).take n).length + 1 := by
    rw [← e1, List.length_drop]
    omega
  unfold opened
  rw [e1]
  obtain ⟨M1, M2, r, p1, p2, p3⟩ := opn_cut L (L := []) (n := ((bytesJ L).take n).length + 1) (n - 4) h e2
  exact ⟨M1, M2, r, p1, p2, p3⟩

theorem opened_self {L : List Ev} (h : Good L) : opened (bytesJ L) = (L, []) := by
  obtain ⟨M1, M2, r, p1, p2, p3, p4⟩ := opened_cut h (bytesJ L).length
  rw [List.take_length] at p2
  have hb := opened_bytes (b := bytesJ L) bytesJ_byt rfl
  rw [p2, p1] at hb
  have hb' := congrArg List.length hb
  simp only [List.length_append, bytesJ_len, frs_append] at hb'
  cases M2 with
  | nil =>
    rw [p2, p3 rfl, p1, List.append_nil]
  | cons e M3 =>
    have := p4 e M3 rfl
    simp only [frs, List.length_append] at hb'
    omega

theorem bytesJ_min (L : List Ev) : 4 ≤ (bytesJ L).length := by rw [bytesJ_len]; omega

theorem journalAgain_plain (x : List Ev × Int × Int × Int × Bool × List Bm × Unit) : f9 x = some (true, ()) := by
  obtain ⟨R, t, u, f, B, S, ⟨⟩⟩ := x
  obtain ⟨w, hw, hw2⟩ := f18_spec' R
  unfold f9
  simp only [f11_spec, Option.bind_some, Bool.not_true, cond_false, hw]
  cases w with
  | false => simp only [Bool.not_false, cond_true]
  | true =>
    obtain ⟨q1, q2⟩ := hw2 rfl
    simp only [Bool.not_true, cond_false]
    by_cases hS : (S.length : Int) > 500
    · simp only [hS, decide_true, cond_true]
    · simp only [hS, decide_false, cond_false, f34_spec (show R.length ≤ 1000000 by omega) q2, Option.bind_some]
      have hg := good_run R
      generalize run R = L at *
      have hlen := hg.len
      have hfew := hg.few
      have hm := bytesJ_min L
      have ht : (bytesJ L).take 4 = magic := rfl
      have h31 := f31_spec (a := L) (b := L) (by omega) hg.scan
      rw [decide_eq_true rfl] at h31
      simp only [Nat.zero_add, Nat.le_refl, decide_true, cond_true, takeL, f25_spec L (show (bytesJ L).length ≤ 1000000 by omega), Option.bind_some,
        f38_spec bytesJ_byt (show (bytesJ L).length ≤ 100000 by omega), if_neg (show ¬ (bytesJ L).length < 4 by omega), if_pos ht, opened_self hg, Sum.elim_inr, List.length_nil, Int.natCast_zero, bne_self_eq_false, cond_false,
        f28_spec (bytesJ L) (show L.length ≤ 1000000 by omega) hg.scan, h31, Bool.not_true]
      have h22 := f22_spec hg ⟨t, u, f, B, S⟩ (show S.length ≤ 1000000 by omega)
      simp only at h22
      simp only [h22, Option.bind_some]
      by_cases ha : app L ⟨t, u, f, B, S⟩ = 0
      · have hg2 := hg.snoc ha
        have hlen2 := hg2.len
        have hfew2 := hg2.few
        simp only [if_pos ha, Sum.elim_inr, beq_self_eq_true, cond_true, Nat.le_refl, decide_true, takeL, f25_spec _ (show (bytesJ (L ++ [⟨t, u, f, B, S⟩])).length ≤ 1000000 by omega), Option.bind_some, f14,
          f27_spec _ (show (L ++ [(⟨t, u, f, B, S⟩ : Ev)]).length ≤ 1000000 by omega)]
      · simp only [if_neg ha, Sum.elim_inl, beq_self_eq_true, cond_true, Nat.le_refl, decide_true, takeL, f25_spec _ (show (bytesJ L).length ≤ 1000000 by omega), Option.bind_some, f14,
          f27_spec _ (show L.length ≤ 1000000 by omega)]

theorem run_len (l : List Ev) : (run l).length ≤ l.length := by
  have := fold_len l []
  rw [List.length_nil, Nat.zero_add] at this
  exact this

theorem journalCuts_plain (R : List Ev) {m : Int} (h0 : 0 ≤ m) (h1 : m < 65536) : f10 (R, m, ()) = some (true, ()) := by
  obtain ⟨w, hw, hw2⟩ := f18_spec' R
  unfold f10
  simp only [f11_spec, Option.bind_some, Bool.not_true, cond_false, hw]
  cases w with
  | false => simp only [Bool.not_false, cond_true]
  | true =>
    obtain ⟨q1, q2⟩ := hw2 rfl
    simp only [Bool.not_true, cond_false, f34_spec (show R.length ≤ 1000000 by omega) q2, Option.bind_some]
    have hg := good_run R
    have hrl := run_len R
    generalize run R = L at *
    have hlen := hg.len
    have hfew := hg.few
    have hm := bytesJ_min L
    have c1 : ¬ ((bytesJ L).length : Int) < 4 := by omega
    have w1 : IntKind.i64.wrap (((bytesJ L).length : Int) - 3) = ((bytesJ L).length : Int) - 3 := i64w (by omega) (by omega)
    have w2 : IntKind.i64.wrap m = m := i64w (by omega) (by omega)
    have c2 : (((bytesJ L).length : Int) - 3 == 0) = false := by rw [beq_eq_false_iff_ne]; omega
    have tm : m.tmod (((bytesJ L).length : Int) - 3) = m % (((bytesJ L).length : Int) - 3) := Int.tmod_eq_emod_of_nonneg h0
    have e1 := Int.emod_nonneg m (show ((bytesJ L).length : Int) - 3 ≠ 0 by omega)
    have e2 := Int.emod_lt_of_pos m (show 0 < ((bytesJ L).length : Int) - 3 by omega)
    simp only [Nat.zero_add, Nat.le_refl, decide_true, cond_true, takeL, f25_spec L (show (bytesJ L).length ≤ 1000000 by omega), Option.bind_some, c1, decide_false, cond_false, w1, c2, w2, tm]
    generalize m % (((bytesJ L).length : Int) - 3) = k at *
    obtain ⟨n, hn⟩ : ∃ n : Nat, (n : Int) = 4 + k := ⟨(4 + k).toNat, by omega⟩
    have w3 : IntKind.i64.wrap (4 + k) = (n : Int) := by rw [i64w (by omega) (by omega)]; exact hn.symm
    have c3 : (0 : Int) ≤ (n : Int) := by omega
    have c4 : (n : Int) ≤ ((bytesJ L).length : Int) := by omega
    obtain ⟨M1, M2, r, p1, p2, p3, p4⟩ := opened_cut hg n
    have hbt : Byt ((bytesJ L).take n) := Byt.take bytesJ_byt n
    have hcl : ((bytesJ L).take n).length = n := by simp only [List.length_take]; omega
    have hct : ((bytesJ L).take n).take 4 = magic := by rw [List.take_take]; rw [Nat.min_eq_left (by omega)]; rfl
    have hob := opened_bytes hbt hct
    rw [p2] at hob
    simp only at hob
    have hM : Good M1 := (show Good (M1 ++ M2) from p1 ▸ hg).left
    have hbl : (bytesJ M1).length + r.length = n := by rw [← hcl, ← hob, List.length_append]
    have w4 : IntKind.i64.wrap (((bytesJ M1).length : Int) + (r.length : Int)) = (n : Int) := by rw [i64w (by omega) (by omega)]; omega
    have ht1 : (bytesJ L).take (bytesJ M1).length = bytesJ M1 := by
      have : (bytesJ L).take (bytesJ M1).length = ((bytesJ L).take n).take (bytesJ M1).length := by rw [List.take_take, Nat.min_eq_left (by omega)]
      rw [this, ← hob, List.take_left' rfl]
    have hl1 : M1.length ≤ L.length := by rw [p1, List.length_append]; omega
    have c5 : ¬ ((r.length : Int) < 0) := by omega
    have c6 : ¬ ((M1.length : Int) > (R.length : Int)) := by omega
    have c7 : ((bytesJ M1).length : Int) ≤ ((bytesJ L).length : Int) := by omega
    have c8 : ¬ ((M1.length : Int) > (L.length : Int)) := by omega
    have c9 : (0 : Int) ≤ (M1.length : Int) := by omega
    have c10 : (M1.length : Int) ≤ (L.length : Int) := by omega
    have ht2 : L.take M1.length = M1 := by rw [p1, List.take_left' rfl]
    have h31 := f31_spec (a := M1) (b := M1) (by omega) hM.scan
    rw [decide_eq_true rfl] at h31
    have hbm := bytesJ_min M1
    simp only [w3, c3, c4, decide_true, Bool.and_self, cond_true, Int.le_refl, Int.toNat_natCast, List.drop_zero, Option.bind_some,
      f38_spec hbt (show ((bytesJ L).take n).length ≤ 100000 by omega), if_neg (show ¬ ((bytesJ L).take n).length < 4 by omega), if_pos hct, p2, Sum.elim_inr, c5, decide_false, cond_false,
      Nat.le_refl, List.take_length, f26, c6, f25_spec M1 (show (bytesJ M1).length ≤ 1000000 by omega), w4, bne_self_eq_false, c7, f14, ht1, Bool.not_true,
      f38_spec bytesJ_byt (show (bytesJ L).length ≤ 100000 by omega), if_neg (show ¬ (bytesJ L).length < 4 by omega), if_pos (show (bytesJ L).take 4 = magic from rfl), opened_self hg,
      f28_spec (bytesJ L) (show L.length ≤ 1000000 by omega) hg.scan, c8, f28_spec (bytesJ M1) (show M1.length ≤ 1000000 by omega) hM.scan, c9, c10, ht2, h31]
    cases M2 with
    | nil =>
      have : M1.length = L.length := by rw [p1, List.append_nil]
      simp only [this, beq_self_eq_true, cond_true, p3 rfl, List.length_nil, Int.natCast_zero]
    | cons e M3 =>
      have hl2 : M1.length < L.length := by rw [p1, List.length_append]; simp
      have q : ((M1.length : Int) == (L.length : Int)) = false := by rw [beq_eq_false_iff_ne]; omega
      have hget : L[M1.length]? = some e := by rw [p1]; simp
      have ha : app M1 e = 0 := (show Good (M1 ++ e :: M3) from p1 ▸ hg).app
      have hs := hg.scan e (by rw [p1]; simp)
      have hg2 := hM.snoc ha
      have hlen2 := hg2.len
      have hr := p4 e M3 rfl
      have hb2 : (bytesJ (M1 ++ [e])).length = (bytesJ M1).length + (fr e).length := by rw [bytesJ_snoc, List.length_append]
      have c11 : ((bytesJ (M1 ++ [e])).length : Int) > (n : Int) := by omega
      simp only [q, cond_false, idxO_nat, hget, Option.bind_some, f22_spec hM e hs, if_pos ha, Sum.elim_inr, beq_self_eq_true, cond_true, Nat.le_refl, decide_true, List.take_length,
        f25_spec (M1 ++ [e]) (show (bytesJ (M1 ++ [e])).length ≤ 1000000 by omega), c11]

end Go.AE
