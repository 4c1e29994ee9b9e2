/-
  Plain laws of the chapter Journal, part 9: the journal: its events, its bytes; Append.
-/
import Derived.Test.YtcphmffpkjngiaaJ4
import Derived.Test.YtcphmffpkjngiaaFb
namespace Go.AE
open Go.Proofs Go.RowKit
set_option maxRecDepth 100000

def magic : List Int := [87, 70, 74, 49]
def fr (e : Ev) : List Int := frame 1 (enc e)
def frs : List Ev → List Int
  | [] => []
  | e :: l => fr e ++ frs l
def bytesJ (l : List Ev) : List Int := magic ++ frs l
def lastT (l : List Ev) : Int := match l.getLast? with
  | some e => e.T
  | none => 0

theorem frs_append : ∀ (a b : List Ev), frs (a ++ b) = frs a ++ frs b
  | [], b => rfl
  | e :: a, b => by simp only [List.cons_append, frs, frs_append a b, List.append_assoc]
theorem bytesJ_snoc (l : List Ev) (e : Ev) : bytesJ (l ++ [e]) = bytesJ l ++ fr e := by
  unfold bytesJ
  rw [frs_append]
  simp only [frs, List.append_nil, List.append_assoc]
theorem fr_len (e : Ev) : (fr e).length ≤ 701 := by
  have h1 := frame_len 1 (enc e)
  have h2 := enc_len e
  unfold fr
  omega
theorem fr_pos (e : Ev) : 0 < (fr e).length := by
  unfold fr
  rw [frame_form]
  simp
theorem frs_len : ∀ l : List Ev, l.length ≤ (frs l).length
  | [] => Nat.le_refl _
  | e :: l => by
    have h1 := frs_len l
    have h2 := fr_pos e
    simp only [frs, List.length_append, List.length_cons]
    omega
theorem bytesJ_len (l : List Ev) : (bytesJ l).length = 4 + (frs l).length := by
  unfold bytesJ magic
  simp only [List.length_append, List.length_cons, List.length_nil]

structure Good (l : List Ev) : Prop where
  ok : ∀ e ∈ l, evOK e = true ∧ 0 < e.T
  len : (bytesJ l).length ≤ 65536
  inc : l.Pairwise fun a b => a.T < b.T

theorem Good.few {l : List Ev} (h : Good l) : l.length ≤ 65536 := by
  have h1 := frs_len l
  have h2 := h.len
  rw [bytesJ_len] at h2
  omega
theorem good_nil : Good [] := ⟨fun e he => (by cases he), by decide, .nil⟩
theorem Good.scan {l : List Ev} (h : Good l) : ∀ e ∈ l, e.S.length ≤ 1000000 := fun e he => by
  have := (scanOK_iff.1 (evOK_iff.1 (h.ok e he).1).2.1).1
  omega
theorem lastT_snoc (l : List Ev) (e : Ev) : lastT (l ++ [e]) = e.T := by unfold lastT; simp
theorem Good.last {l : List Ev} (h : Good l) : ∀ e ∈ l, e.T ≤ lastT l := by
  rcases List.eq_nil_or_concat l with rfl | ⟨a, x, rfl⟩
  · intro e he; cases he
  · intro e he
    rw [List.concat_eq_append] at h he ⊢
    rw [lastT_snoc]
    rcases List.mem_append.1 he with h1 | h1
    · exact Int.le_of_lt ((List.pairwise_append.1 h.inc).2.2 e h1 x (List.mem_singleton.2 rfl))
    · rw [List.mem_singleton.1 h1]
      exact Int.le_refl _
theorem Good.last0 {l : List Ev} (h : Good l) : 0 ≤ lastT l := by
  rcases List.eq_nil_or_concat l with rfl | ⟨a, x, rfl⟩
  · decide
  · rw [List.concat_eq_append] at h ⊢
    rw [lastT_snoc]
    have := (h.ok x (by simp)).2
    omega

/-- The result of an Append. -/
def app (l : List Ev) (e : Ev) : Int :=
  if ¬ (cmdOK e.U e.F = true ∧ scanOK e.S = true) then 1
  else if e.T ≤ lastT l ∨ 1099511627776 < e.T then 2
  else if 65536 < (bytesJ l).length + (fr e).length then 6 else 0
def nxt (l : List Ev) (e : Ev) : List Ev := if app l e = 0 then l ++ [e] else l

theorem app_zero {l : List Ev} {e : Ev} : app l e = 0 ↔ (cmdOK e.U e.F = true ∧ scanOK e.S = true) ∧ (lastT l < e.T ∧ e.T ≤ 1099511627776) ∧ (bytesJ l).length + (fr e).length ≤ 65536 := by
  unfold app
  by_cases h1 : cmdOK e.U e.F = true ∧ scanOK e.S = true
  · rw [if_neg (by simpa using h1)]
    by_cases h2 : e.T ≤ lastT l ∨ 1099511627776 < e.T
    · rw [if_pos h2]
      constructor
      · intro h; omega
      · rintro ⟨_, h3, _⟩; omega
    · rw [if_neg h2]
      by_cases h3 : 65536 < (bytesJ l).length + (fr e).length
      · rw [if_pos h3]
        constructor
        · intro h; omega
        · rintro ⟨_, _, h4⟩; omega
      · rw [if_neg h3]
        constructor
        · intro _; exact ⟨h1, by omega, by omega⟩
        · intro _; rfl
  · rw [if_pos h1]
    constructor
    · intro h; omega
    · rintro ⟨h, _⟩; exact (h1 h).elim
theorem app_ok {l : List Ev} (h : Good l) {e : Ev} (ha : app l e = 0) : evOK e = true ∧ 0 < e.T := by
  obtain ⟨⟨h1, h2⟩, ⟨h3, h4⟩, _⟩ := app_zero.1 ha
  have := h.last0
  exact ⟨evOK_iff.2 ⟨h1, h2, by omega, h4⟩, by omega⟩
theorem Good.snoc {l : List Ev} (h : Good l) {e : Ev} (ha : app l e = 0) : Good (l ++ [e]) := by
  obtain ⟨_, ⟨h3, _⟩, h5⟩ := app_zero.1 ha
  refine ⟨fun x hx => ?_, ?_, ?_⟩
  · rcases List.mem_append.1 hx with h1 | h1
    · exact h.ok x h1
    · rw [List.mem_singleton.1 h1]; exact app_ok h ha
  · rw [bytesJ_snoc, List.length_append]; exact h5
  · refine List.pairwise_append.2 ⟨h.inc, List.pairwise_singleton _ _, fun a ha' b hb => ?_⟩
    rw [List.mem_singleton.1 hb]
    have := h.last a ha'
    omega
theorem Good.nxt {l : List Ev} (h : Good l) (e : Ev) : Good (nxt l e) := by
  unfold Go.AE.nxt
  split
  · rename_i ha; exact h.snoc ha
  · exact h

/-! ### The program's journal -/

theorem takeL {α : Type} (l : List α) : List.take l.length (List.drop 0 l) = l := by simp

theorem getLast_idx {l : List Ev} : l[l.length - 1]? = l.getLast? := by
  rw [List.getLast?_eq_getElem?]

theorem f27_spec (A : List Int) {l : List Ev} (hl : l.length ≤ 1000000) : f27 (A, l, ()) = some (lastT l, ()) := by
  unfold f27 lastT
  by_cases h : l = []
  · subst h; rfl
  · have hp := List.length_pos_iff.2 h
    have q : ((l.length : Int) == 0) = false := by rw [beq_eq_false_iff_ne]; omega
    have w : IntKind.i64.wrap ((l.length : Int) - 1) = ((l.length - 1 : Nat) : Int) := by rw [i64w (by omega) (by omega)]; omega
    simp only [q, cond_false, w, idxO_nat, getLast_idx]
    cases hg : l.getLast? with
    | none => exact (h (List.getLast?_eq_none_iff.1 hg)).elim
    | some e => rfl
theorem f55_spec {l : List Ev} (hl : l.length ≤ 1000000) : f55 (l, ()) = some (lastT l, ()) := by
  unfold f55 lastT f36
  by_cases h : l = []
  · subst h; rfl
  · have hp := List.length_pos_iff.2 h
    have q : ((l.length : Int) == 0) = false := by rw [beq_eq_false_iff_ne]; omega
    have w : IntKind.i64.wrap ((l.length : Int) - 1) = ((l.length - 1 : Nat) : Int) := by rw [i64w (by omega) (by omega)]; omega
    simp only [q, cond_false, w, idxO_nat, getLast_idx]
    cases hg : l.getLast? with
    | none => exact (h (List.getLast?_eq_none_iff.1 hg)).elim
    | some e => rfl
theorem room16 {n : Nat} (h : n ≤ 1000000) : roomy n 16 = true := by unfold roomy; simp; omega
theorem room56 {n : Nat} (h : n ≤ 1000001) : roomy n 56 = true := by unfold roomy; simp; omega
theorem f54_spec {e : Ev} (h : e.S.length ≤ 1000000) : f54 (e.T, e.U, e.F, e.B, e.S, ()) = some (e.T, e.U, e.F, e.B, e.S, ()) := by
  unfold f54 f75 j75_4
  simp only [Nat.zero_add, room16 h, cond_true, Option.bind_some, Nat.le_refl, decide_true, takeL]

theorem frame_e {e : Ev} : f53 (1, enc e, ()) = some ((fr e).length, 0, fr e, ()) := by
  have h := enc_len e
  rw [f53_spec (k := 1) (b := enc e) (by omega) (by omega) (enc_byt e) (by omega), if_neg (by omega)]
  rfl
theorem frame_r {e : Ev} : f56 (1, enc e, ()) = some ((fr e).length, 0, fr e, ()) := by
  have h := enc_len e
  rw [f56_spec (k := 1) (b := enc e) (by omega) (by omega) (enc_byt e) (by omega), if_neg (by omega)]
  rfl

/-- Append. -/
theorem f22_spec {l : List Ev} (h : Good l) (e : Ev) (hS : e.S.length ≤ 1000000) : f22 (e.T, e.U, e.F, e.B, e.S, bytesJ l, l, (bytesJ l).length, l.length, ()) =
    some (if app l e = 0 then .inr (0, (bytesJ (l ++ [e])).length, (l ++ [e]).length, bytesJ (l ++ [e]), l ++ [e], ()) else .inl (app l e, bytesJ l, l, (bytesJ l).length, l.length, ())) := by
  have hfew := h.few
  have hl0 := h.last0
  have hlen := h.len
  unfold f22
  simp only [f40_spec, f41_spec hS, Option.bind_some, Nat.zero_add, Nat.le_refl, decide_true, cond_true, takeL, f27_spec _ (show l.length ≤ 1000000 by omega)]
  cases h1 : cmdOK e.U e.F with
  | false =>
    have : app l e = 1 := by unfold app; rw [if_pos (by simp [h1])]
    rw [if_neg (by omega), this]
    simp only [Bool.not_false, cond_true]
  | true =>
    cases h2 : scanOK e.S with
    | false =>
      have : app l e = 1 := by unfold app; rw [if_pos (by simp [h2])]
      rw [if_neg (by omega), this]
      simp only [Bool.not_true, cond_false, Bool.not_false, cond_true]
    | true =>
      by_cases h3 : e.T ≤ lastT l
      · have : app l e = 2 := by unfold app; rw [if_neg (by simp [h1, h2]), if_pos (.inl h3)]
        rw [if_neg (by omega), this]
        simp only [Bool.not_true, cond_false, h3, decide_true, cond_true]
      · by_cases h4 : e.T > 1099511627776
        · have : app l e = 2 := by unfold app; rw [if_neg (by simp [h1, h2]), if_pos (.inr h4)]
          rw [if_neg (by omega), this]
          simp only [Bool.not_true, cond_false, h3, h4, decide_true, decide_false, cond_true]
        · have hok : evOK e = true := evOK_iff.2 ⟨h1, h2, by omega, by omega⟩
          have e42 := f42_spec hok
          rw [← enc_yes hok] at e42
          have hfl := fr_len e
          have w : IntKind.i64.wrap (((bytesJ l).length : Int) + ((fr e).length : Int)) = (((bytesJ l).length + (fr e).length : Nat) : Int) := by rw [i64w (by omega) (by omega)]; omega
          by_cases h5 : 65536 < (bytesJ l).length + (fr e).length
          · have : app l e = 6 := by unfold app; rw [if_neg (by simp [h1, h2]), if_neg (by omega), if_pos h5]
            have c : (((bytesJ l).length + (fr e).length : Nat) : Int) > 65536 := by omega
            rw [if_neg (by omega), this]
            simp only [Bool.not_true, cond_false, h3, h4, decide_false, e42, Option.bind_some, Nat.le_refl, decide_true, cond_true, takeL, frame_e, bne_self_eq_false, w, c]
          · have : app l e = 0 := by unfold app; rw [if_neg (by simp [h1, h2]), if_neg (by omega), if_neg h5]
            have c : ¬ (((bytesJ l).length + (fr e).length : Nat) : Int) > 65536 := by omega
            have r1 : roomy ((bytesJ l).length + (fr e).length) 1 = true := roomy_ok (by omega)
            have r2 : roomy (l.length + 1) 56 = true := room56 (by omega)
            rw [if_pos this, bytesJ_snoc]
            simp only [Bool.not_true, cond_false, h3, h4, decide_false, e42, Option.bind_some, Nat.le_refl, decide_true, cond_true, takeL, frame_e, bne_self_eq_false, w, c, r1, r2, f54_spec hS, List.length_append, List.length_singleton]

theorem f25_spec {A : List Int} (l : List Ev) (h : A.length ≤ 1000000) : f25 (A, l, ()) = some (A, ()) := by
  unfold f25
  simp only [f58_spec h, Option.bind_some, Nat.zero_add, Nat.le_refl, decide_true, cond_true, takeL]

theorem l28_spec {l : List Ev} (hl : l.length ≤ 1000000) (hs : ∀ e ∈ l, e.S.length ≤ 1000000) : ∀ (k i : Nat) (acc : List Ev), l.length - i = k → i ≤ l.length → acc.length = i →
    l28_0 (acc.length, l, (l.length : Int), (i : Int), acc, ()) = some ((acc ++ l.drop i).length, acc ++ l.drop i, ()) := by
  intro k
  induction k with
  | zero =>
    intro i acc hk hi _
    have : i = l.length := by omega
    subst this
    have c1 : ¬ (l.length : Int) < (l.length : Int) := by omega
    unfold l28_0
    rw [iterO_eq]
    have : r28_0 (acc.length, l, (l.length : Int), (l.length : Int), acc, ()) = some (.inr (acc.length, acc, ())) := by
      unfold r28_0
      simp only [c1, decide_false, cond_false]
    rw [this]
    simp
  | succ k ih =>
    intro i acc hk hi ha
    have hlt : i < l.length := by omega
    have c1 : (i : Int) < (l.length : Int) := by omega
    have w0 : IntKind.i64.wrap ((i : Int) + 1) = ((i + 1 : Nat) : Int) := by rw [i64w (by omega) (by omega)]; rfl
    have hget := List.getElem?_eq_getElem hlt
    have hd : l.drop i = l[i] :: l.drop (i + 1) := List.drop_eq_getElem_cons hlt
    have hsi := hs _ (List.getElem_mem hlt)
    generalize l[i] = e at *
    have rr : roomy (acc.length + 1) 56 = true := room56 (by omega)
    have hr : r28_0 (acc.length, l, (l.length : Int), (i : Int), acc, ()) = some (.inl ((acc ++ [e]).length, l, (l.length : Int), ((i + 1 : Nat) : Int), acc ++ [e], ())) := by
      unfold r28_0
      simp only [c1, decide_true, cond_true, idxO_nat, hget, Option.bind_some, f54_spec hsi, Nat.zero_add, Nat.le_refl, rr, takeL, w0, List.length_append, List.length_singleton]
    have := ih (i + 1) (acc ++ [e]) (by omega) (by omega) (by simp [ha])
    unfold l28_0 at this ⊢
    rw [iterO_eq, hr]
    simp only
    rw [this, hd]
    simp only [List.append_assoc, List.cons_append, List.nil_append]

/-- Events. -/
theorem f28_spec (A : List Int) {l : List Ev} (hl : l.length ≤ 1000000) (hs : ∀ e ∈ l, e.S.length ≤ 1000000) : f28 (A, l, ()) = some (l, ()) := by
  have h := l28_spec hl hs l.length 0 [] rfl (by omega) rfl
  have h' : l28_0 (0, l, (l.length : Int), 0, [], ()) = _ := h
  unfold f28
  simp only [h', Option.bind_some, List.nil_append, List.drop_zero, Nat.zero_add, Nat.le_refl, decide_true, cond_true, List.take_length]

theorem l35_spec {l : List Ev} : ∀ (k i : Nat) (acc : List Int), l.length - i = k → i ≤ l.length → l.length ≤ 1000000 → acc.length + (frs (l.drop i)).length ≤ 1000000 →
    l35_0 (l, acc.length, (i : Int), acc, ()) = some ((acc ++ frs (l.drop i)).length, acc ++ frs (l.drop i), ()) := by
  intro k
  induction k with
  | zero =>
    intro i acc hk hi _ _
    have : i = l.length := by omega
    subst this
    have c1 : ¬ (l.length : Int) < (l.length : Int) := by omega
    unfold l35_0
    rw [iterO_eq]
    have : r35_0 (l, acc.length, (l.length : Int), acc, ()) = some (.inr (acc.length, acc, ())) := by
      unfold r35_0
      simp only [c1, decide_false, cond_false]
    rw [this]
    simp [frs]
  | succ k ih =>
    intro i acc hk hi hl hroom
    have hlt : i < l.length := by omega
    have c1 : (i : Int) < (l.length : Int) := by omega
    have w0 : IntKind.i64.wrap ((i : Int) + 1) = ((i + 1 : Nat) : Int) := by rw [i64w (by omega) (by omega)]; rfl
    have hget := List.getElem?_eq_getElem hlt
    have hd : l.drop i = l[i] :: l.drop (i + 1) := List.drop_eq_getElem_cons hlt
    rw [hd] at hroom ⊢
    simp only [frs, List.length_append] at hroom
    generalize l[i] = e at *
    have rr : roomy (acc.length + (fr e).length) 1 = true := roomy_ok (by omega)
    have hr : r35_0 (l, acc.length, (i : Int), acc, ()) = some (.inl (l, (acc ++ fr e).length, ((i + 1 : Nat) : Int), acc ++ fr e, ())) := by
      unfold r35_0
      simp only [c1, decide_true, cond_true, idxO_nat, hget, Option.bind_some, f13_spec, frame_r, Nat.zero_add, Nat.le_refl, takeL, rr, w0, List.length_append]
    have := ih (i + 1) (acc ++ fr e) (by omega) (by omega) hl (by simp only [List.length_append]; omega)
    unfold l35_0 at this ⊢
    rw [iterO_eq, hr]
    simp only
    rw [this]
    simp only [frs, List.append_assoc]

/-- The reference's Bytes. -/
theorem f35_spec {l : List Ev} (h : Good l) : f35 (l, ()) = some (bytesJ l, ()) := by
  have h1 := h.few
  have h2 := h.len
  rw [bytesJ_len] at h2
  have hl := l35_spec (l := l) l.length 0 magic rfl (by omega) (by omega) (by rw [List.drop_zero]; show 4 + _ ≤ _; omega)
  rw [List.drop_zero] at hl
  have hl' : l35_0 (l, 4, 0, [87, 70, 74, 49], ()) = some ((bytesJ l).length, bytesJ l, ()) := hl
  unfold f35
  simp only [hl', Option.bind_some, Nat.zero_add, Nat.le_refl, decide_true, cond_true, takeL]

/-- The reference's Append. -/
theorem f23_spec {l : List Ev} (h : Good l) (e : Ev) : f23 (e.T, e.U, e.F, e.B, e.S, l, l.length, ()) =
    some (if app l e = 0 then .inr (0, l, (l ++ [e]).length, l ++ [e], ()) else .inl (app l e, l, l.length, ())) := by
  have hfew := h.few
  have hl0 := h.last0
  have hlen := h.len
  unfold f23
  simp only [f43_spec, f44_spec, Option.bind_some, Nat.zero_add, Nat.le_refl, decide_true, cond_true, takeL, f55_spec (show l.length ≤ 1000000 by omega)]
  cases h1 : cmdOK e.U e.F with
  | false =>
    have : app l e = 1 := by unfold app; rw [if_pos (by simp [h1])]
    rw [if_neg (by omega), this]
    simp only [Bool.not_false, cond_true]
  | true =>
    cases h2 : scanOK e.S with
    | false =>
      have : app l e = 1 := by unfold app; rw [if_pos (by simp [h2])]
      rw [if_neg (by omega), this]
      simp only [Bool.not_true, cond_false, Bool.not_false, cond_true]
    | true =>
      by_cases h3 : e.T ≤ lastT l
      · have : app l e = 2 := by unfold app; rw [if_neg (by simp [h1, h2]), if_pos (.inl h3)]
        rw [if_neg (by omega), this]
        simp only [Bool.not_true, cond_false, h3, decide_true, cond_true]
      · by_cases h4 : e.T > 1099511627776
        · have : app l e = 2 := by unfold app; rw [if_neg (by simp [h1, h2]), if_pos (.inr h4)]
          rw [if_neg (by omega), this]
          simp only [Bool.not_true, cond_false, h3, h4, decide_true, decide_false, cond_true]
        · have hfl := fr_len e
          have w : IntKind.i64.wrap (((bytesJ l).length : Int) + ((fr e).length : Int)) = (((bytesJ l).length + (fr e).length : Nat) : Int) := by rw [i64w (by omega) (by omega)]; omega
          by_cases h5 : 65536 < (bytesJ l).length + (fr e).length
          · have : app l e = 6 := by unfold app; rw [if_neg (by simp [h1, h2]), if_neg (by omega), if_pos h5]
            have c : (((bytesJ l).length + (fr e).length : Nat) : Int) > 65536 := by omega
            rw [if_neg (by omega), this]
            simp only [Bool.not_true, cond_false, h3, h4, decide_false, f13_spec, Option.bind_some, decide_true, cond_true, frame_r, f35_spec h, w, c]
          · have : app l e = 0 := by unfold app; rw [if_neg (by simp [h1, h2]), if_neg (by omega), if_neg h5]
            have c : ¬ (((bytesJ l).length + (fr e).length : Nat) : Int) > 65536 := by omega
            have r1 : roomy l.length 56 = true := room56 (by omega)
            have r2 : roomy (l.length + 1) 56 = true := room56 (by omega)
            rw [if_pos this]
            simp only [Bool.not_true, cond_false, h3, h4, decide_false, f13_spec, Option.bind_some, Nat.le_refl, decide_true, cond_true, takeL, frame_r, f35_spec h, w, c, r1, r2, List.length_append, List.length_singleton, List.nil_append]

/-! ### The fixed results; Encodes, Decodes -/

def e0 : Ev := ⟨5, -3, 20, false, [⟨64, 100⟩]⟩
theorem e0_ok : evOK e0 = true := by decide
theorem e0_enc : enc e0 = [10, 5, 40, 0, 1, 64, 101] := by decide

theorem f11_spec : f11 () = some (true, ()) := by
  have hb : Byt [10, 5, 40, 0, 1, 64, 101] := by rw [← e0_enc]; exact enc_byt e0
  have hd : dec [10, 5, 40, 0, 1, 64, 101] = (e0, 0) := by rw [← e0_enc, enc_yes e0_ok]; exact dec_enc e0_ok
  have h15 := f15_spec hb (by decide)
  rw [hd] at h15
  have h15' : f15 ([10, 5, 40, 0, 1, 64, 101], ()) = some (5, -3, 20, false, [⟨64, 100⟩], 0, ()) := h15
  have h12 := f12_spec e0 (by decide)
  rw [e0_enc] at h12
  have h12' : f12 (5, -3, 20, false, [⟨64, 100⟩], ()) = some ([10, 5, 40, 0, 1, 64, 101], ()) := h12
  have h16 := f16_spec (a := e0) (b := e0) (by decide)
  rw [decide_eq_true rfl] at h16
  have h16' : f16 (5, -3, 20, false, [⟨64, 100⟩], 5, -3, 20, false, [⟨64, 100⟩], ()) = some (true, ()) := h16
  have h22 := f22_spec good_nil e0 (by decide)
  have ha : app [] e0 = 0 := by decide
  rw [if_pos ha] at h22
  have h22' : f22 (5, -3, 20, false, [⟨64, 100⟩], [87, 70, 74, 49], [], 4, 0, ()) = _ := h22
  have n1 : f19 = (4, 0, [87, 70, 74, 49], []) := rfl
  have t1 : List.take 4 (List.drop 0 [(87 : Int), 70, 74, 49]) = [87, 70, 74, 49] := rfl
  have t2 : List.take 0 (List.drop 0 ([] : List Ev)) = [] := rfl
  have d1 : decide (0 + 4 ≤ [(87 : Int), 70, 74, 49].length) = true := rfl
  have d2 : decide (0 + 0 ≤ ([] : List Ev).length) = true := rfl
  unfold f11 f14
  simp only [h15', h12', Option.bind_some, decide_true, cond_true, beq_self_eq_true, h16', n1, t1, t2, d1, d2, h22', Sum.elim_inr]


end Go.AE
