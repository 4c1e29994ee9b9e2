/-
  Plain laws of the chapter Journal, part 11: a journal that is built; bytes that are opened.
-/
import Derived.Test.YtcphmffpkjngiaaJ6
namespace Go.AE
open Go.Proofs Go.RowKit
set_option maxRecDepth 100000

def run (l : List Ev) : List Ev := l.foldl nxt []
theorem Good.fold : ∀ (x : List Ev) {l : List Ev}, Good l → Good (x.foldl AE.nxt l)
  | [], _, h => h
  | e :: x, _, h => Good.fold x (h.nxt e)
theorem good_run (l : List Ev) : Good (run l) := Good.fold l good_nil
theorem fold_len : ∀ (x l : List Ev), (x.foldl nxt l).length ≤ l.length + x.length
  | [], l => by simp
  | e :: x, l => by
    have h1 := fold_len x (nxt l e)
    have h2 : (nxt l e).length ≤ l.length + 1 := by unfold nxt; split <;> simp
    simp only [List.foldl_cons, List.length_cons]
    omega

/-! ### Few events -/

theorem l18_spec (l : List Ev) : ∀ (k i : Nat) (n : Int), 200 - i = k → i ≤ 200 → i ≤ l.length → 0 ≤ n → n ≤ 1000 * (i : Int) →
    ∃ n', l18_0 (l, n, (i : Int), ()) = some (l, n', ()) ∧ n ≤ n' ∧ ∀ j (h : j < l.length), i ≤ j → j < 200 → n' ≤ 500 → l[j].S.length ≤ 500 := by
  intro k
  induction k with
  | zero =>
    intro i n hk hi hl h0 h1
    have c2 : ¬ (i : Int) < 200 := by omega
    refine ⟨n, ?_, Int.le_refl _, fun j hj h2 h3 _ => by omega⟩
    have hr : r18_0 (l, n, (i : Int), ()) = some (.inr (l, n, ())) := by
      unfold r18_0
      simp only [c2, decide_false, cond_false]
      cases decide ((i : Int) < (l.length : Int)) <;> rfl
    unfold l18_0
    rw [iterO_eq, hr]
  | succ k ih =>
    intro i n hk hi hl h0 h1
    have c2 : (i : Int) < 200 := by omega
    by_cases hlt : i < l.length
    · have c1 : (i : Int) < (l.length : Int) := by omega
      have w0 : IntKind.i64.wrap ((i : Int) + 1) = ((i + 1 : Nat) : Int) := by rw [i64w (by omega) (by omega)]; rfl
      have hget := List.getElem?_eq_getElem hlt
      have hm : 0 ≤ (bif decide ((1000 : Int) < (l[i].S.length : Int)) then 1000 else (l[i].S.length : Int)) ∧ (bif decide ((1000 : Int) < (l[i].S.length : Int)) then 1000 else (l[i].S.length : Int)) ≤ 1000 ∧ ((bif decide ((1000 : Int) < (l[i].S.length : Int)) then 1000 else (l[i].S.length : Int)) ≤ 500 → l[i].S.length ≤ 500) := by
        by_cases h : (1000 : Int) < (l[i].S.length : Int)
        · simp only [h, decide_true, cond_true]; omega
        · simp only [h, decide_false, cond_false]; omega
      have hr : r18_0 (l, n, (i : Int), ()) = some (.inl (l, n + (bif decide ((1000 : Int) < (l[i].S.length : Int)) then 1000 else (l[i].S.length : Int)), ((i + 1 : Nat) : Int), ())) := by
        have w1 : IntKind.i64.wrap (n + (bif decide ((1000 : Int) < (l[i].S.length : Int)) then 1000 else (l[i].S.length : Int))) = n + (bif decide ((1000 : Int) < (l[i].S.length : Int)) then 1000 else (l[i].S.length : Int)) := i64w (by omega) (by omega)
        unfold r18_0
        simp only [c1, c2, decide_true, cond_true, idxO_nat, hget, Option.bind_some, w0, w1]
      generalize hmv : (bif decide ((1000 : Int) < (l[i].S.length : Int)) then (1000 : Int) else (l[i].S.length : Int)) = m at *
      obtain ⟨n', q1, q2, q3⟩ := ih (i + 1) (n + m) (by omega) (by omega) (by omega) (by omega) (by omega)
      refine ⟨n', ?_, by omega, fun j hj h2 h3 h4 => ?_⟩
      · unfold l18_0 at q1 ⊢
        rw [iterO_eq, hr]
        exact q1
      · by_cases hji : j = i
        · subst hji
          exact hm.2.2 (by omega)
        · exact q3 j hj (by omega) h3 h4
    · have c1 : ¬ (i : Int) < (l.length : Int) := by omega
      refine ⟨n, ?_, Int.le_refl _, fun j hj h2 h3 _ => by omega⟩
      have hr : r18_0 (l, n, (i : Int), ()) = some (.inr (l, n, ())) := by
        unfold r18_0
        simp only [c1, decide_false, cond_false]
      unfold l18_0
      rw [iterO_eq, hr]

theorem f18_spec' (l : List Ev) : ∃ b, f18 (l, ()) = some (b, ()) ∧ (b = true → l.length ≤ 60 ∧ ∀ e ∈ l, e.S.length ≤ 1000000) := by
  obtain ⟨n, q1, _, q3⟩ := l18_spec l 200 0 0 rfl (by omega) (by omega) (by omega) (by omega)
  have q1' : l18_0 (l, 0, 0, ()) = some (l, n, ()) := q1
  unfold f18
  simp only [q1', Option.bind_some]
  by_cases h : (l.length : Int) ≤ 60
  · refine ⟨decide (n ≤ 500), by simp only [h, decide_true, cond_true], fun hb => ⟨by omega, fun e he => ?_⟩⟩
    obtain ⟨j, hj, rfl⟩ := List.getElem_of_mem he
    have := q3 j hj (by omega) (by omega) (of_decide_eq_true hb)
    omega
  · exact ⟨false, by simp only [h, decide_false, cond_false], fun hb => by cases hb⟩

/-! ### build -/

theorem l34_spec {x : List Ev} (hx : x.length ≤ 1000000) (hs : ∀ e ∈ x, e.S.length ≤ 1000000) : ∀ (k i : Nat) (l : List Ev), x.length - i = k → i ≤ x.length → Good l →
    l34_0 (x, (i : Int), (bytesJ l).length, l.length, bytesJ l, l, ()) = some ((bytesJ ((x.drop i).foldl nxt l)).length, ((x.drop i).foldl nxt l).length, bytesJ ((x.drop i).foldl nxt l), (x.drop i).foldl nxt l, ()) := by
  intro k
  induction k with
  | zero =>
    intro i l hk hi h
    have : i = x.length := by omega
    subst this
    have c1 : ¬ (x.length : Int) < (x.length : Int) := by omega
    unfold l34_0
    rw [iterO_eq]
    have : r34_0 (x, (x.length : Int), (bytesJ l).length, l.length, bytesJ l, l, ()) = some (.inr ((bytesJ l).length, l.length, bytesJ l, l, ())) := by
      unfold r34_0
      simp only [c1, decide_false, cond_false]
    rw [this]
    simp
  | succ k ih =>
    intro i l hk hi h
    have hlt : i < x.length := by omega
    have c1 : (i : Int) < (x.length : Int) := by omega
    have w0 : IntKind.i64.wrap ((i : Int) + 1) = ((i + 1 : Nat) : Int) := by rw [i64w (by omega) (by omega)]; rfl
    have hget := List.getElem?_eq_getElem hlt
    have hd : x.drop i = x[i] :: x.drop (i + 1) := List.drop_eq_getElem_cons hlt
    have hsi := hs _ (List.getElem_mem hlt)
    rw [hd]
    generalize x[i] = e at *
    have h22 := f22_spec h e hsi
    have hr : r34_0 (x, (i : Int), (bytesJ l).length, l.length, bytesJ l, l, ()) = some (.inl (x, ((i + 1 : Nat) : Int), (bytesJ (nxt l e)).length, (nxt l e).length, bytesJ (nxt l e), nxt l e, ())) := by
      unfold r34_0
      simp only [c1, decide_true, cond_true, idxO_nat, hget, Option.bind_some, Nat.zero_add, Nat.le_refl, takeL, h22]
      unfold nxt
      by_cases ha : app l e = 0
      · rw [if_pos ha, if_pos ha]
        simp only [Sum.elim_inr, j34_13, Option.bind_some, w0]
      · rw [if_neg ha, if_neg ha]
        simp only [Sum.elim_inl, j34_13, Option.bind_some, w0]
    have := ih (i + 1) (nxt l e) (by omega) (by omega) (h.nxt e)
    unfold l34_0 at this ⊢
    rw [iterO_eq, hr]
    exact this

theorem f34_spec {x : List Ev} (hx : x.length ≤ 1000000) (hs : ∀ e ∈ x, e.S.length ≤ 1000000) : f34 (x, ()) = some ((bytesJ (run x)).length, (run x).length, bytesJ (run x), run x, ()) := by
  have h := l34_spec hx hs x.length 0 [] rfl (by omega) good_nil
  rw [List.drop_zero] at h
  have n1 : f19 = (4, 0, [87, 70, 74, 49], []) := rfl
  have h' : l34_0 (x, 0, 4, 0, [87, 70, 74, 49], [], ()) = some ((bytesJ (run x)).length, (run x).length, bytesJ (run x), run x, ()) := h
  unfold f34
  simp only [n1, h', Option.bind_some]

/-! ### Open -/

/-- Bytes read on as far as they go. -/
def opn : Nat → List Ev → List Int → List Ev × List Int
  | 0, l, b => (l, b)
  | n + 1, l, b => if (unf b).2.2.2 = 0 ∧ (unf b).1 = 1 ∧ (dec (unf b).2.1).2 = 0 ∧ app l (dec (unf b).2.1).1 = 0 then opn n (l ++ [(dec (unf b).2.1).1]) (unf b).2.2.1 else (l, b)

theorem unf_less {b : List Int} (hb : Byt b) (h : (unf b).2.2.2 = 0) : Byt (unf b).2.1 ∧ Byt (unf b).2.2.1 ∧ (unf b).2.2.1.length < b.length ∧ (unf b).2.1.length ≤ 4096 := by
  obtain ⟨h1, h2, h3, h4, h5⟩ := unf_back hb h
  refine ⟨h4, fun x hx => hb x (by rw [← h1]; exact List.mem_append_right _ hx), ?_, h2⟩
  have := congrArg List.length h1
  rw [List.length_append] at this
  have h6 : 0 < (frame (unf b).1 (unf b).2.1).length := by rw [frame_form]; simp
  omega

theorem opn_good : ∀ (n : Nat) {l : List Ev} {b : List Int}, Good l → Good (opn n l b).1
  | 0, _, _, h => h
  | n + 1, l, b, h => by
    unfold opn
    split
    · rename_i hc
      exact opn_good n (h.snoc hc.2.2.2)
    · exact h

/-- What has been read and what is left are the bytes. -/
theorem opn_bytes : ∀ (n : Nat) {l : List Ev} {b : List Int}, Good l → Byt b → bytesJ (opn n l b).1 ++ (opn n l b).2 = bytesJ l ++ b ∧ (opn n l b).2.length ≤ b.length
  | 0, _, _, _, _ => ⟨rfl, Nat.le_refl _⟩
  | n + 1, l, b, h, hb => by
    unfold opn
    split
    · rename_i hc
      obtain ⟨u1, u2, u3, u4⟩ := unf_less hb hc.1
      obtain ⟨i1, i2⟩ := opn_bytes n (h.snoc hc.2.2.2) u2
      refine ⟨?_, by omega⟩
      rw [i1, bytesJ_snoc]
      obtain ⟨d1, d2⟩ := dec_back u1 hc.2.2.1
      have h5 := (unf_back hb hc.1).1
      rw [hc.2.1] at h5
      conv => rhs; rw [← h5]
      unfold fr
      rw [enc_yes d1, d2, List.append_assoc]
    · exact ⟨rfl, Nat.le_refl _⟩

theorem l38_spec : ∀ (n : Nat) (b : List Int) (l : List Ev), b.length < n → b.length ≤ 100000 → Byt b → Good l →
    l38_0 (b, (bytesJ l).length, l.length, bytesJ l, l, ()) = some ((opn n l b).2, (bytesJ (opn n l b).1).length, (opn n l b).1.length, bytesJ (opn n l b).1, (opn n l b).1, ()) := by
  intro n
  induction n with
  | zero => intro b l h; omega
  | succ n ih =>
    intro b l hn hl hb h
    have h60 := f60_spec hb (by omega)
    unfold opn l38_0
    rw [iterO_eq]
    by_cases hu : (unf b).2.2.2 = 0
    · obtain ⟨u1, u2, u3, u4⟩ := unf_less hb hu
      have q1 : ((unf b).2.2.2 != 0) = false := by simp [hu]
      by_cases hk : (unf b).1 = 1
      · have q2 : ((unf b).1 != 1) = false := by simp [hk]
        have h15 := f15_spec u1 (by omega)
        by_cases hd : (dec (unf b).2.1).2 = 0
        · have q3 : ((dec (unf b).2.1).2 != 0) = false := by simp [hd]
          have h22 := f22_spec h (dec (unf b).2.1).1 (dec_scan u1)
          by_cases ha : app l (dec (unf b).2.1).1 = 0
          · rw [if_pos ha] at h22
            have hr : r38_0 (b, (bytesJ l).length, l.length, bytesJ l, l, ()) = some (.inl ((unf b).2.2.1, (bytesJ (l ++ [(dec (unf b).2.1).1])).length, (l ++ [(dec (unf b).2.1).1]).length, bytesJ (l ++ [(dec (unf b).2.1).1]), l ++ [(dec (unf b).2.1).1], ())) := by
              unfold r38_0
              simp only [h60, Option.bind_some, q1, q2, cond_false, h15, evR, q3, Nat.zero_add, Nat.le_refl, decide_true, cond_true, takeL, h22, Sum.elim_inr, bne_self_eq_false]
            rw [hr, if_pos ⟨hu, hk, hd, ha⟩]
            have := ih (unf b).2.2.1 (l ++ [(dec (unf b).2.1).1]) (by omega) (by omega) u2 (h.snoc ha)
            unfold l38_0 at this
            exact this
          · rw [if_neg ha] at h22
            have q4 : (app l (dec (unf b).2.1).1 != 0) = true := by simpa using ha
            have hr : r38_0 (b, (bytesJ l).length, l.length, bytesJ l, l, ()) = some (.inr (b, (bytesJ l).length, l.length, bytesJ l, l, ())) := by
              unfold r38_0
              simp only [h60, Option.bind_some, q1, q2, cond_false, h15, evR, q3, Nat.zero_add, Nat.le_refl, decide_true, cond_true, takeL, h22, Sum.elim_inl, q4]
            rw [hr, if_neg (fun hc => ha hc.2.2.2)]
        · have q3 : ((dec (unf b).2.1).2 != 0) = true := by simpa using hd
          have hr : r38_0 (b, (bytesJ l).length, l.length, bytesJ l, l, ()) = some (.inr (b, (bytesJ l).length, l.length, bytesJ l, l, ())) := by
            unfold r38_0
            simp only [h60, Option.bind_some, q1, q2, cond_false, h15, evR, q3, cond_true]
          rw [hr, if_neg (fun hc => hd hc.2.2.1)]
      · have q2 : ((unf b).1 != 1) = true := by simpa using hk
        have hr : r38_0 (b, (bytesJ l).length, l.length, bytesJ l, l, ()) = some (.inr (b, (bytesJ l).length, l.length, bytesJ l, l, ())) := by
          unfold r38_0
          simp only [h60, Option.bind_some, q1, q2, cond_false, cond_true]
        rw [hr, if_neg (fun hc => hk hc.2.1)]
    · have q1 : ((unf b).2.2.2 != 0) = true := by simpa using hu
      have hr : r38_0 (b, (bytesJ l).length, l.length, bytesJ l, l, ()) = some (.inr (b, (bytesJ l).length, l.length, bytesJ l, l, ())) := by
        unfold r38_0
        simp only [h60, Option.bind_some, q1, cond_true]
      rw [hr, if_neg (fun hc => hu hc.1)]

theorem l39_spec : ∀ (n : Nat) (b : List Int) (l : List Ev), b.length < n → b.length ≤ 100000 → Byt b → Good l →
    l39_0 (b, l.length, l, ()) = some (((opn n l b).2.length : Int), 0, (opn n l b).1.length, (opn n l b).1, ()) := by
  intro n
  induction n with
  | zero => intro b l h; omega
  | succ n ih =>
    intro b l hn hl hb h
    have h61 := f61_spec hb (by omega)
    unfold opn l39_0
    rw [iterO_eq]
    by_cases hu : (unf b).2.2.2 = 0
    · obtain ⟨u1, u2, u3, u4⟩ := unf_less hb hu
      have q1 : ((unf b).2.2.2 != 0) = false := by simp [hu]
      by_cases hk : (unf b).1 = 1
      · have q2 : ((unf b).1 != 1) = false := by simp [hk]
        have h17 := f17_spec' u1 (by omega)
        by_cases hd : (dec (unf b).2.1).2 = 0
        · have q3 : ((dec (unf b).2.1).2 != 0) = false := by simp [hd]
          have h23 := f23_spec h (dec (unf b).2.1).1
          by_cases ha : app l (dec (unf b).2.1).1 = 0
          · rw [if_pos ha] at h23
            have hr : r39_0 (b, l.length, l, ()) = some (.inl ((unf b).2.2.1, (l ++ [(dec (unf b).2.1).1]).length, l ++ [(dec (unf b).2.1).1], ())) := by
              unfold r39_0
              simp only [h61, Option.bind_some, q1, q2, cond_false, h17, evR, q3, Nat.zero_add, Nat.le_refl, decide_true, cond_true, takeL, h23, Sum.elim_inr, bne_self_eq_false]
            rw [hr, if_pos ⟨hu, hk, hd, ha⟩]
            have := ih (unf b).2.2.1 (l ++ [(dec (unf b).2.1).1]) (by omega) (by omega) u2 (h.snoc ha)
            unfold l39_0 at this
            exact this
          · rw [if_neg ha] at h23
            have q4 : (app l (dec (unf b).2.1).1 != 0) = true := by simpa using ha
            have hr : r39_0 (b, l.length, l, ()) = some (.inr ((b.length : Int), 0, l.length, l, ())) := by
              unfold r39_0
              simp only [h61, Option.bind_some, q1, q2, cond_false, h17, evR, q3, Nat.zero_add, Nat.le_refl, decide_true, cond_true, takeL, h23, Sum.elim_inl, q4]
            rw [hr, if_neg (fun hc => ha hc.2.2.2)]
        · have q3 : ((dec (unf b).2.1).2 != 0) = true := by simpa using hd
          have hr : r39_0 (b, l.length, l, ()) = some (.inr ((b.length : Int), 0, l.length, l, ())) := by
            unfold r39_0
            simp only [h61, Option.bind_some, q1, q2, cond_false, h17, evR, q3, cond_true]
          rw [hr, if_neg (fun hc => hd hc.2.2.1)]
      · have q2 : ((unf b).1 != 1) = true := by simpa using hk
        have hr : r39_0 (b, l.length, l, ()) = some (.inr ((b.length : Int), 0, l.length, l, ())) := by
          unfold r39_0
          simp only [h61, Option.bind_some, q1, q2, cond_false, cond_true]
        rw [hr, if_neg (fun hc => hk hc.2.1)]
    · have q1 : ((unf b).2.2.2 != 0) = true := by simpa using hu
      have hr : r39_0 (b, l.length, l, ()) = some (.inr ((b.length : Int), 0, l.length, l, ())) := by
        unfold r39_0
        simp only [h61, Option.bind_some, q1, cond_true]
      rw [hr, if_neg (fun hc => hu hc.1)]

/-- What Open leads to. -/
def opened (b : List Int) : List Ev × List Int := opn (b.length + 1) [] (b.drop 4)

/-- Open. -/
theorem f38_spec {b : List Int} (hb : Byt b) (hl : b.length ≤ 100000) : f38 (b, ()) = some (if b.length < 4 then .inl () else if b.take 4 = magic then
    .inr (.inr (((opened b).2.length : Int), (bytesJ (opened b).1).length, (opened b).1.length, bytesJ (opened b).1, (opened b).1, ())) else .inr (.inl ())) := by
  unfold f38
  by_cases h4 : b.length < 4
  · have c : (b.length : Int) < 4 := by omega
    rw [if_pos h4]
    simp only [c, decide_true, cond_true]
  · have c : ¬ (b.length : Int) < 4 := by omega
    have c2 : (4 : Int) ≤ (b.length : Int) := by omega
    rw [if_neg h4]
    simp only [c, c2, decide_false, decide_true, cond_false, Int.le_refl, Bool.and_self, cond_true, List.drop_zero, Int.toNat_natCast, List.take_length]
    by_cases hm : b.take 4 = magic
    · have hm' : b.take 4 = [87, 70, 74, 49] := hm
      rw [if_pos hm]
      have n1 : f19 = (4, 0, [87, 70, 74, 49], []) := rfl
      have hlp := l38_spec (b.length + 1) (b.drop 4) [] (by simp only [List.length_drop]; omega) (by simp only [List.length_drop]; omega) (hb.drop 4) good_nil
      have hlp' : l38_0 (b.drop 4, 4, 0, [87, 70, 74, 49], [], ()) = _ := hlp
      simp only [hm', decide_true, Bool.not_true, cond_false, n1, hlp', Option.bind_some]
      rfl
    · have hm' : ¬ b.take 4 = [87, 70, 74, 49] := hm
      rw [if_neg hm]
      simp only [hm', decide_false, Bool.not_false, cond_true]

/-- The reference's Open. -/
theorem f39_spec {b : List Int} (hb : Byt b) (hl : b.length ≤ 100000) : f39 (b, ()) = some (if b.length < 4 then .inl () else if b.take 4 = magic then
    .inr (.inr (((opened b).2.length : Int), 0, (opened b).1.length, (opened b).1, ())) else .inr (.inl ())) := by
  unfold f39
  by_cases h4 : b.length < 4
  · have c : (b.length : Int) < 4 := by omega
    rw [if_pos h4]
    simp only [c, decide_true, cond_true]
  · have c : ¬ (b.length : Int) < 4 := by omega
    have c2 : (4 : Int) ≤ (b.length : Int) := by omega
    rw [if_neg h4]
    simp only [c, c2, decide_false, decide_true, cond_false, Int.le_refl, Bool.and_self, cond_true, List.drop_zero, Int.toNat_natCast, List.take_length]
    by_cases hm : b.take 4 = magic
    · have hm' : b.take 4 = [87, 70, 74, 49] := hm
      rw [if_pos hm]
      have n1 : f20 = (0, []) := rfl
      have hlp := l39_spec (b.length + 1) (b.drop 4) [] (by simp only [List.length_drop]; omega) (by simp only [List.length_drop]; omega) (hb.drop 4) good_nil
      have hlp' : l39_0 (b.drop 4, 0, [], ()) = _ := hlp
      simp only [hm', decide_true, Bool.not_true, cond_false, n1, hlp', Option.bind_some]
      rfl
    · have hm' : ¬ b.take 4 = [87, 70, 74, 49] := hm
      rw [if_neg hm]
      simp only [hm', decide_false, Bool.not_false, cond_true]

theorem opened_good (b : List Int) : Good (opened b).1 := opn_good _ good_nil
theorem opened_bytes {b : List Int} (hb : Byt b) (hm : b.take 4 = magic) : bytesJ (opened b).1 ++ (opened b).2 = b := by
  have h := (opn_bytes (b.length + 1) (l := []) (b := b.drop 4) good_nil (hb.drop 4)).1
  unfold opened
  rw [h]
  have : bytesJ [] = b.take 4 := by rw [hm]; rfl
  rw [this, List.take_append_drop]

/-- same, where both are of the same events. -/
theorem f24_same {l : List Ev} (h : Good l) : f24 (bytesJ l, l, l, l.length, ()) = some (.inl (true, l.length, l, ())) := by
  have hfew := h.few
  have hlen := h.len
  have h31 := f31_spec (a := l) (b := l) (by omega) h.scan
  rw [decide_eq_true rfl] at h31
  unfold f24
  simp only [Nat.zero_add, Nat.le_refl, decide_true, cond_true, takeL, f26, f36, beq_self_eq_true, f27_spec (bytesJ l) (show l.length ≤ 1000000 by omega), f55_spec (show l.length ≤ 1000000 by omega), Option.bind_some,
    f28_spec (bytesJ l) (show l.length ≤ 1000000 by omega) h.scan, f57, h31, f25_spec l (show (bytesJ l).length ≤ 1000000 by omega), f35_spec h, f14]

end Go.AE
