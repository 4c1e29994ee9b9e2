/-
  Plain laws of the chapter Journal, part 5: events, their data.
-/
import Derived.Test.YtcphmffpkjngiaaW4
namespace Go.AE
open Go.Proofs Go.RowKit
set_option maxRecDepth 100000

def bmOK (b : Bm) : Bool := decide (0 ≤ b.M) && (decide (b.M < 256) && (decide (-1 ≤ b.R) && decide (b.R ≤ 1024)))
def cmdOK (u f : Int) : Bool := decide (-32 ≤ u) && (decide (u ≤ 32) && (decide (0 ≤ f) && decide (f ≤ 32)))
def scanOK (s : List Bm) : Bool := decide (s.length ≤ 32) && s.all bmOK
def evOK (e : Ev) : Bool := cmdOK e.U e.F && (scanOK e.S && (decide (0 ≤ e.T) && decide (e.T ≤ 1099511627776)))

theorem bmOK_iff {b : Bm} : bmOK b = true ↔ (0 ≤ b.M ∧ b.M < 256) ∧ -1 ≤ b.R ∧ b.R ≤ 1024 := by
  unfold bmOK; simp only [Bool.and_eq_true, decide_eq_true_eq]; omega
theorem cmdOK_iff {u f : Int} : cmdOK u f = true ↔ (-32 ≤ u ∧ u ≤ 32) ∧ 0 ≤ f ∧ f ≤ 32 := by
  unfold cmdOK; simp only [Bool.and_eq_true, decide_eq_true_eq]; omega
theorem scanOK_iff {s : List Bm} : scanOK s = true ↔ s.length ≤ 32 ∧ ∀ b ∈ s, bmOK b = true := by
  unfold scanOK; simp only [Bool.and_eq_true, decide_eq_true_eq, List.all_eq_true]
theorem evOK_iff {e : Ev} : evOK e = true ↔ cmdOK e.U e.F = true ∧ scanOK e.S = true ∧ 0 ≤ e.T ∧ e.T ≤ 1099511627776 := by
  unfold evOK; simp only [Bool.and_eq_true, decide_eq_true_eq]

def encB : List Bm → List Int
  | [] => []
  | b :: s => uint b.M ++ (uint (b.R + 1) ++ encB s)
def headE (e : Ev) : List Int := uint (zig e.T) ++ uint (zig e.U) ++ uint (zig e.F) ++ [if e.B then 1 else 0] ++ uint (e.S.length : Int)
def encE (e : Ev) : List Int := headE e ++ encB e.S
def enc (e : Ev) : List Int := if evOK e then encE e else []

theorem encB_len : ∀ s : List Bm, (encB s).length ≤ 20 * s.length
  | [] => by simp [encB]
  | b :: s => by
    have h1 := encB_len s
    have h2 := uint_len b.M
    have h3 := uint_len (b.R + 1)
    simp only [encB, List.length_append, List.length_cons]
    omega
theorem headE_len (e : Ev) : (headE e).length ≤ 41 := by
  have h1 := uint_len (zig e.T)
  have h2 := uint_len (zig e.U)
  have h3 := uint_len (zig e.F)
  have h4 := uint_len (e.S.length : Int)
  simp only [headE, List.length_append, List.length_singleton]
  omega
theorem encE_len {e : Ev} (h : scanOK e.S = true) : (encE e).length ≤ 681 := by
  have h1 := encB_len e.S
  have h2 := headE_len e
  have h3 := (scanOK_iff.1 h).1
  unfold encE
  rw [List.length_append]
  omega
theorem enc_len (e : Ev) : (enc e).length ≤ 681 := by
  unfold enc
  split
  · rename_i h
    exact encE_len (evOK_iff.1 h).2.1
  · simp

/-! ### What is valid -/

theorem f40_spec (u f : Int) : f40 u f = cmdOK u f := by
  unfold f40 f62 f63 cmdOK
  have w : IntKind.i64.wrap (0 - 32) = -32 := by decide
  rw [w]
  by_cases h1 : -32 ≤ u <;> by_cases h2 : u ≤ 32 <;> by_cases h3 : 0 ≤ f <;> by_cases h4 : f ≤ 32 <;> simp [h1, h2, h3, h4]
theorem f43_spec (u f : Int) : f43 u f = cmdOK u f := by
  unfold f43 f68 cmdOK
  have w : IntKind.i64.wrap (0 - 32) = -32 := by decide
  rw [w]
  by_cases h1 : -32 ≤ u <;> by_cases h2 : u ≤ 32 <;> by_cases h3 : 0 ≤ f <;> by_cases h4 : f ≤ 32 <;> simp [h1, h2, h3, h4]
theorem f65_spec (b : Bm) : f65 b.M b.R = !bmOK b := by
  unfold f65 bmOK
  by_cases h1 : b.M < 0
  · have : ¬ 0 ≤ b.M := by omega
    simp [h1, this]
  · have h1' : 0 ≤ b.M := by omega
    by_cases h2 : b.M ≥ 256
    · have : ¬ b.M < 256 := by omega
      simp [h1, h2, this]
    · have h2' : b.M < 256 := by omega
      by_cases h3 : b.R < -1
      · have : ¬ -1 ≤ b.R := by omega
        simp [h1, h1', h2, h2', h3, this]
      · have h3' : -1 ≤ b.R := by omega
        by_cases h4 : b.R > 1024
        · have : ¬ b.R ≤ 1024 := by omega
          simp [h1, h1', h2, h2', h3, h3', h4, this]
        · have : b.R ≤ 1024 := by omega
          simp [h1, h1', h2, h2', h3, h3', h4, this]
theorem f69_spec (b : Bm) : f69 b.M b.R = bmOK b := by
  unfold f69 bmOK
  by_cases h1 : 0 ≤ b.M <;> by_cases h2 : b.M < 256 <;> by_cases h3 : -1 ≤ b.R <;> by_cases h4 : b.R ≤ 1024 <;> simp [h1, h2, h3, h4]

theorem l82_spec {s : List Bm} (hs : s.length ≤ 1000000) : ∀ (k i : Nat), s.length - i = k → i ≤ s.length →
    ∃ y, l82_0 (s, (s.length : Int), (i : Int), ()) = some y ∧ (Sum.elim (fun y10 => some (y10.fst, ())) (fun _x => some ((-1 : Int), ())) y : Option (Int × Unit)).isSome = true ∧
      ∀ v, (Sum.elim (fun y10 => some (y10.fst, ())) (fun _x => some ((-1 : Int), ())) y : Option (Int × Unit)) = some (v, ()) → (v < 0 ↔ (s.drop i).all bmOK = true) := by
  intro k
  induction k with
  | zero =>
    intro i hk hi
    have : i = s.length := by omega
    subst this
    have c1 : ¬ (s.length : Int) < (s.length : Int) := by omega
    refine ⟨.inr (), ?_, rfl, fun v hv => ?_⟩
    · unfold l82_0
      rw [iterO_eq]
      have : r82_0 (s, (s.length : Int), (s.length : Int), ()) = some (.inr (.inr ())) := by
        unfold r82_0
        simp only [c1, decide_false, cond_false]
      rw [this]
    · simp only [Sum.elim_inr, Option.some.injEq, Prod.mk.injEq, and_true] at hv
      subst hv
      simp
  | succ k ih =>
    intro i hk hi
    have hlt : i < s.length := by omega
    have c1 : (i : Int) < (s.length : Int) := by omega
    have w0 : IntKind.i64.wrap ((i : Int) + 1) = ((i + 1 : Nat) : Int) := by rw [i64w (by omega) (by omega)]; rfl
    have hget := List.getElem?_eq_getElem hlt
    have hd : s.drop i = s[i] :: s.drop (i + 1) := List.drop_eq_getElem_cons hlt
    by_cases hb : bmOK s[i] = true
    · obtain ⟨y, y1, y2, y3⟩ := ih (i + 1) (by omega) (by omega)
      refine ⟨y, ?_, y2, fun v hv => ?_⟩
      · unfold l82_0 at y1 ⊢
        rw [iterO_eq]
        have : r82_0 (s, (s.length : Int), (i : Int), ()) = some (.inl (s, (s.length : Int), ((i + 1 : Nat) : Int), ())) := by
          unfold r82_0
          simp only [c1, decide_true, cond_true, idxO_nat, hget, Option.bind_some, f65_spec, hb, Bool.not_true, cond_false, w0]
        rw [this]
        exact y1
      · rw [y3 v hv, hd, List.all_cons, hb, Bool.true_and]
    · have hb' : bmOK s[i] = false := by simpa using hb
      refine ⟨.inl ((i : Int), ()), ?_, rfl, fun v hv => ?_⟩
      · unfold l82_0
        rw [iterO_eq]
        have : r82_0 (s, (s.length : Int), (i : Int), ()) = some (.inr (.inl ((i : Int), ()))) := by
          unfold r82_0
          simp only [c1, decide_true, cond_true, idxO_nat, hget, Option.bind_some, f65_spec, hb', Bool.not_false]
        rw [this]
      · simp only [Sum.elim_inl, Option.some.injEq, Prod.mk.injEq, and_true] at hv
        subst hv
        rw [hd, List.all_cons, hb', Bool.false_and]
        simp

theorem f41_spec {s : List Bm} (_hs : s.length ≤ 1000000) : f41 (s, ()) = some (scanOK s, ()) := by
  unfold f41 scanOK
  by_cases h : s.length ≤ 32
  · have h' : (s.length : Int) ≤ 32 := by omega
    obtain ⟨y, y1, y2, y3⟩ := l82_spec (s := s) (by omega) s.length 0 rfl (by omega)
    have y1' : l82_0 (s, (s.length : Int), 0, ()) = some y := y1
    unfold f64 f82
    simp only [h', decide_true, cond_true, y1', Option.bind_some, h, Bool.true_and]
    obtain ⟨⟨v, ⟨⟩⟩, hv⟩ := Option.isSome_iff_exists.1 y2
    have h3 := y3 v hv
    rw [List.drop_zero] at h3
    rw [hv]
    simp only [Option.bind_some]
    by_cases hv0 : v < 0
    · have : ¬ v ≥ 0 := by omega
      simp [this, h3.1 hv0]
    · have h4 : v ≥ 0 := by omega
      have : s.all bmOK = false := by
        cases ha : s.all bmOK with
        | false => rfl
        | true => exact (hv0 (h3.2 ha)).elim
      simp [h4, this]
  · have h' : ¬ (s.length : Int) ≤ 32 := by omega
    simp only [h', decide_false, cond_false, h, Bool.false_and]

theorem l44_spec {s : List Bm} (hs : s.length ≤ 1000000) : ∀ (k i : Nat), s.length - i = k → i ≤ s.length →
    ∃ y, l44_0 (s, (i : Int), ()) = some y ∧ (Sum.elim (fun y9 => some (y9.fst, ())) (fun _x => some (true, ())) y : Option (Bool × Unit)) = some ((s.drop i).all bmOK, ()) := by
  intro k
  induction k with
  | zero =>
    intro i hk hi
    have : i = s.length := by omega
    subst this
    have c1 : ¬ (s.length : Int) < (s.length : Int) := by omega
    refine ⟨.inr (), ?_, by simp⟩
    unfold l44_0
    rw [iterO_eq]
    have : r44_0 (s, (s.length : Int), ()) = some (.inr (.inr ())) := by
      unfold r44_0
      simp only [c1, decide_false, cond_false]
    rw [this]
  | succ k ih =>
    intro i hk hi
    have hlt : i < s.length := by omega
    have c1 : (i : Int) < (s.length : Int) := by omega
    have w0 : IntKind.i64.wrap ((i : Int) + 1) = ((i + 1 : Nat) : Int) := by rw [i64w (by omega) (by omega)]; rfl
    have hget := List.getElem?_eq_getElem hlt
    have hd : s.drop i = s[i] :: s.drop (i + 1) := List.drop_eq_getElem_cons hlt
    by_cases hb : bmOK s[i] = true
    · obtain ⟨y, y1, y2⟩ := ih (i + 1) (by omega) (by omega)
      refine ⟨y, ?_, by rw [y2, hd, List.all_cons, hb, Bool.true_and]⟩
      unfold l44_0 at y1 ⊢
      rw [iterO_eq]
      have : r44_0 (s, (i : Int), ()) = some (.inl (s, ((i + 1 : Nat) : Int), ())) := by
        unfold r44_0
        simp only [c1, decide_true, cond_true, idxO_nat, hget, Option.bind_some, f69_spec, hb, Bool.not_true, cond_false, w0]
      rw [this]
      exact y1
    · have hb' : bmOK s[i] = false := by simpa using hb
      refine ⟨.inl (false, ()), ?_, by rw [hd, List.all_cons, hb', Bool.false_and]; rfl⟩
      unfold l44_0
      rw [iterO_eq]
      have : r44_0 (s, (i : Int), ()) = some (.inr (.inl (false, ()))) := by
        unfold r44_0
        simp only [c1, decide_true, cond_true, idxO_nat, hget, Option.bind_some, f69_spec, hb', Bool.not_false]
      rw [this]

theorem f44_spec {s : List Bm} : f44 (s, ()) = some (scanOK s, ()) := by
  unfold f44 scanOK
  by_cases h : s.length ≤ 32
  · have h' : ¬ (s.length : Int) > 32 := by omega
    obtain ⟨y, y1, y2⟩ := l44_spec (s := s) (by omega) s.length 0 rfl (by omega)
    have y1' : l44_0 (s, 0, ()) = some y := y1
    rw [List.drop_zero] at y2
    simp only [h', decide_false, cond_false, y1', Option.bind_some, h, decide_true, Bool.true_and]
    exact y2
  · have h' : (s.length : Int) > 32 := by omega
    simp only [h', decide_true, cond_true, h, decide_false, Bool.false_and]

/-! ### Encoding -/

theorem len1 (l : List Int) (v : Int) : l.length + 1 = (l ++ [v]).length := by simp

theorem room_of {l : List Int} (h : l.length ≤ 1000000) : roomy l.length 1 = true := roomy_ok h

theorem l42_spec {s : List Bm} (hs : s.length ≤ 32) (hb : ∀ b ∈ s, bmOK b = true) : ∀ (k i : Nat) (acc : List Int), s.length - i = k → i ≤ s.length → acc.length + 20 * k ≤ 10000 →
    l42_0 (acc.length, s, (s.length : Int), (i : Int), acc, ()) = some ((acc ++ encB (s.drop i)).length, acc ++ encB (s.drop i), ()) := by
  intro k
  induction k with
  | zero =>
    intro i acc hk hi _
    have : i = s.length := by omega
    subst this
    have c1 : ¬ (s.length : Int) < (s.length : Int) := by omega
    unfold l42_0
    rw [iterO_eq]
    have : r42_0 (acc.length, s, (s.length : Int), (s.length : Int), acc, ()) = some (.inr (acc.length, acc, ())) := by
      unfold r42_0
      simp only [c1, decide_false, cond_false]
    rw [this]
    simp [encB]
  | succ k ih =>
    intro i acc hk hi hroom
    have hlt : i < s.length := by omega
    have c1 : (i : Int) < (s.length : Int) := by omega
    have w0 : IntKind.i64.wrap ((i : Int) + 1) = ((i + 1 : Nat) : Int) := by rw [i64w (by omega) (by omega)]; rfl
    have hget := List.getElem?_eq_getElem hlt
    have hd : s.drop i = s[i] :: s.drop (i + 1) := List.drop_eq_getElem_cons hlt
    obtain ⟨⟨b1, b2⟩, b3, b4⟩ := bmOK_iff.1 (hb _ (List.getElem_mem hlt))
    generalize s[i] = b at *
    have w1 : IntKind.u64.wrap b.M = b.M := u64w (by omega) (by omega)
    have w2 : IntKind.u64.wrap (IntKind.i64.wrap (b.R + 1)) = b.R + 1 := by rw [i64w (by omega) (by omega), u64w (by omega) (by omega)]
    have h1 := uint_len b.M
    have h2 := uint_len (b.R + 1)
    have r1 : roomy (acc ++ uint b.M).length 1 = true := room_of (by rw [List.length_append]; omega)
    have r2 : roomy (acc ++ uint b.M ++ uint (b.R + 1)).length 1 = true := room_of (by rw [List.length_append, List.length_append]; omega)
    have hr : r42_0 (acc.length, s, (s.length : Int), (i : Int), acc, ()) = some (.inl ((acc ++ uint b.M ++ uint (b.R + 1)).length, s, (s.length : Int), ((i + 1 : Nat) : Int), acc ++ uint b.M ++ uint (b.R + 1), ())) := by
      unfold r42_0
      simp only [c1, decide_true, cond_true, idxO_nat, hget, Option.bind_some, w0, w1, w2, f67_spec (n := b.M) (by omega) (by omega), f67_spec (n := b.R + 1) (by omega) (by omega), Nat.zero_add, Nat.le_refl, take_len, ← List.length_append, r1, r2]
    have := ih (i + 1) (acc ++ uint b.M ++ uint (b.R + 1)) (by omega) (by omega) (by rw [List.length_append, List.length_append]; omega)
    unfold l42_0 at this ⊢
    rw [iterO_eq, hr]
    simp only
    rw [this, hd]
    simp only [encB, List.append_assoc]

theorem f42_spec {e : Ev} (h : evOK e = true) : f42 (e.T, e.U, e.F, e.B, e.S, ()) = some ((encE e).length, encE e, ()) := by
  obtain ⟨hc, hs, t1, t2⟩ := evOK_iff.1 h
  obtain ⟨⟨u1, u2⟩, f1, f2⟩ := cmdOK_iff.1 hc
  obtain ⟨s1, s2⟩ := scanOK_iff.1 hs
  have h1 := uint_len (zig e.T)
  have h2 := uint_len (zig e.U)
  have h3 := uint_len (zig e.F)
  have h4 := uint_len (e.S.length : Int)
  have r1 : roomy (uint (zig e.T) ++ uint (zig e.U)).length 1 = true := room_of (by rw [List.length_append]; omega)
  have r2 : roomy (uint (zig e.T) ++ uint (zig e.U) ++ uint (zig e.F)).length 1 = true := room_of (by rw [List.length_append, List.length_append]; omega)
  have key : ∀ v : Int, j42_22 ((uint (zig e.T) ++ uint (zig e.U) ++ uint (zig e.F)).length, v, e.T, e.U, e.F, e.B, e.S, uint (zig e.T) ++ uint (zig e.U) ++ uint (zig e.F), ()) =
      some ((uint (zig e.T) ++ uint (zig e.U) ++ uint (zig e.F) ++ [v] ++ uint (e.S.length : Int) ++ encB e.S).length, uint (zig e.T) ++ uint (zig e.U) ++ uint (zig e.F) ++ [v] ++ uint (e.S.length : Int) ++ encB e.S, ()) := by
    intro v
    have hA : (uint (zig e.T) ++ uint (zig e.U) ++ uint (zig e.F)).length ≤ 30 := by simp only [List.length_append]; omega
    generalize uint (zig e.T) ++ uint (zig e.U) ++ uint (zig e.F) = A at *
    have w1 : IntKind.u64.wrap (e.S.length : Int) = (e.S.length : Int) := u64w (by omega) (by omega)
    have r3 : roomy (A ++ [v]).length 1 = true := room_of (by rw [List.length_append, List.length_singleton]; omega)
    have r4 : roomy (A ++ [v] ++ uint (e.S.length : Int)).length 1 = true := room_of (by simp only [List.length_append, List.length_singleton]; omega)
    have hl := l42_spec s1 s2 e.S.length 0 (A ++ [v] ++ uint (e.S.length : Int)) rfl (by omega) (by simp only [List.length_append, List.length_singleton]; omega)
    rw [List.drop_zero] at hl
    have hl' : l42_0 ((A ++ [v] ++ uint (e.S.length : Int)).length, e.S, (e.S.length : Int), 0, A ++ [v] ++ uint (e.S.length : Int), ()) = _ := hl
    unfold j42_22
    simp only [len1 A v, w1, f67_spec (n := (e.S.length : Int)) (by omega) (by omega), Option.bind_some, Nat.zero_add, Nat.le_refl, decide_true, cond_true, take_len, ← List.length_append, r3, r4, hl']
  unfold f42
  simp only [f66_spec (n := e.T) (by omega) (by omega), f66_spec (n := e.U) (by omega) (by omega), f66_spec (n := e.F) (by omega) (by omega), Option.bind_some, Nat.zero_add, Nat.le_refl, decide_true, cond_true, take_len, ← List.length_append, r1, r2, key]
  unfold encE headE
  cases e.B <;> simp only [cond_true, cond_false, if_true, Bool.false_eq_true, if_false]

theorem enc_no {e : Ev} (h : ¬ evOK e = true) : enc e = [] := by unfold enc; rw [if_neg h]
theorem enc_yes {e : Ev} (h : evOK e = true) : enc e = encE e := by unfold enc; rw [if_pos h]

/-- Encode. -/
theorem f12_spec (e : Ev) (hS : e.S.length ≤ 1000000) : f12 (e.T, e.U, e.F, e.B, e.S, ()) = some (enc e, ()) := by
  unfold f12
  simp only [f40_spec, f41_spec hS, Option.bind_some]
  cases h1 : cmdOK e.U e.F with
  | false => rw [enc_no (fun h => by rw [evOK_iff, h1] at h; exact Bool.false_ne_true h.1)]; simp
  | true =>
    cases h2 : scanOK e.S with
    | false => rw [enc_no (fun h => by rw [evOK_iff, h2] at h; exact Bool.false_ne_true h.2.1)]; simp
    | true =>
      by_cases h3 : e.T < 0
      · rw [enc_no (fun h => by have := (evOK_iff.1 h).2.2.1; omega)]; simp [h3]
      · by_cases h4 : e.T > 1099511627776
        · rw [enc_no (fun h => by have := (evOK_iff.1 h).2.2.2; omega)]; simp [h3, h4]
        · have hok : evOK e = true := evOK_iff.2 ⟨h1, h2, by omega, by omega⟩
          rw [enc_yes hok]
          simp only [Bool.not_true, cond_false, h3, h4, decide_false, f42_spec hok, Option.bind_some, Nat.zero_add, Nat.le_refl, decide_true, cond_true, take_len]

/-! ### The reference's -/

theorem bind46 {n : Int} (h1 : 0 ≤ n) (h2 : n ≤ 18446744073709551615) {β : Type} (k : Nat × List Int × Unit → Option β) : (f46 (n, ())).bind k = k ((uint n).length, uint n, ()) := by
  rw [f46_spec h1 h2]
  rfl

theorem l13_spec {s : List Bm} {a b c : Int} {B : Bool} (hs : s.length ≤ 32) (hb : ∀ b ∈ s, bmOK b = true) : ∀ (k i : Nat) (acc : List Int), s.length - i = k → i ≤ s.length → acc.length + 20 * k ≤ 10000 →
    l13_0 (acc.length, (i : Int), a, b, c, B, s, acc, ()) = some ((acc ++ encB (s.drop i)).length, acc ++ encB (s.drop i), ()) := by
  intro k
  induction k with
  | zero =>
    intro i acc hk hi _
    have : i = s.length := by omega
    subst this
    have c1 : ¬ (s.length : Int) < (s.length : Int) := by omega
    unfold l13_0
    rw [iterO_eq]
    have : r13_0 (acc.length, (s.length : Int), a, b, c, B, s, acc, ()) = some (.inr (acc.length, acc, ())) := by
      unfold r13_0
      simp only [c1, decide_false, cond_false]
    rw [this]
    simp [encB]
  | succ k ih =>
    intro i acc hk hi hroom
    have hlt : i < s.length := by omega
    have c1 : (i : Int) < (s.length : Int) := by omega
    have w0 : IntKind.i64.wrap ((i : Int) + 1) = ((i + 1 : Nat) : Int) := by rw [i64w (by omega) (by omega)]; rfl
    have hget := List.getElem?_eq_getElem hlt
    have hd : s.drop i = s[i] :: s.drop (i + 1) := List.drop_eq_getElem_cons hlt
    obtain ⟨⟨b1, b2⟩, b3, b4⟩ := bmOK_iff.1 (hb _ (List.getElem_mem hlt))
    generalize s[i] = b at *
    have w1 : IntKind.u64.wrap b.M = b.M := u64w (by omega) (by omega)
    have w2 : IntKind.u64.wrap (IntKind.i64.wrap (b.R + 1)) = b.R + 1 := by rw [i64w (by omega) (by omega), u64w (by omega) (by omega)]
    have h1 := uint_len b.M
    have h2 := uint_len (b.R + 1)
    have r1 : roomy (acc ++ uint b.M).length 1 = true := room_of (by rw [List.length_append]; omega)
    have r2 : roomy (acc ++ uint b.M ++ uint (b.R + 1)).length 1 = true := room_of (by rw [List.length_append, List.length_append]; omega)
    have hr : ∀ x y z : Int, r13_0 (acc.length, (i : Int), x, y, z, B, s, acc, ()) = some (.inl ((acc ++ uint b.M ++ uint (b.R + 1)).length, ((i + 1 : Nat) : Int), x, y, z, B, s, acc ++ uint b.M ++ uint (b.R + 1), ())) := by
      intro x y z
      unfold r13_0
      simp only [c1, decide_true, cond_true, idxO_nat, hget, Option.bind_some, w0, w1, w2]
      refine (bind46 (by omega) (by omega) _).trans ?_
      simp only [Nat.zero_add, Nat.le_refl, decide_true, cond_true, take_len, ← List.length_append, r1]
      refine (bind46 (by omega) (by omega) _).trans ?_
      simp only [Nat.le_refl, decide_true, cond_true, take_len, r2]
    have := ih (i + 1) (acc ++ uint b.M ++ uint (b.R + 1)) (by omega) (by omega) (by rw [List.length_append, List.length_append]; omega)
    unfold l13_0 at this ⊢
    rw [iterO_eq, hr]
    simp only
    rw [this, hd]
    simp only [encB, List.append_assoc]

/-- The reference's Encode. -/
theorem f13_spec (e : Ev) : f13 (e.T, e.U, e.F, e.B, e.S, ()) = some (enc e, ()) := by
  unfold f13
  simp only [f43_spec, f44_spec, Option.bind_some]
  cases h1 : cmdOK e.U e.F with
  | false => rw [enc_no (fun h => by rw [evOK_iff, h1] at h; exact Bool.false_ne_true h.1)]; simp
  | true =>
    cases h2 : scanOK e.S with
    | false => rw [enc_no (fun h => by rw [evOK_iff, h2] at h; exact Bool.false_ne_true h.2.1)]; simp
    | true =>
      by_cases h3 : e.T < 0
      · rw [enc_no (fun h => by have := (evOK_iff.1 h).2.2.1; omega)]; simp [h3]
      · by_cases h4 : e.T > 1099511627776
        · rw [enc_no (fun h => by have := (evOK_iff.1 h).2.2.2; omega)]; simp [h3, h4]
        · have hok : evOK e = true := evOK_iff.2 ⟨h1, h2, by omega, by omega⟩
          rw [enc_yes hok]
          obtain ⟨⟨u1, u2⟩, f1, f2⟩ := cmdOK_iff.1 h1
          obtain ⟨s1, s2⟩ := scanOK_iff.1 h2
          have q1 := uint_len (zig e.T)
          have q2 := uint_len (zig e.U)
          have q3 := uint_len (zig e.F)
          have q4 := uint_len (e.S.length : Int)
          have r1 : roomy (uint (zig e.T) ++ uint (zig e.U)).length 1 = true := room_of (by rw [List.length_append]; omega)
          have r2 : roomy (uint (zig e.T) ++ uint (zig e.U) ++ uint (zig e.F)).length 1 = true := room_of (by rw [List.length_append, List.length_append]; omega)
          have key : ∀ (v : Int) (B : Bool), j13_25 ((uint (zig e.T) ++ uint (zig e.U) ++ uint (zig e.F) ++ [v]).length, e.T, e.U, e.F, B, e.S, uint (zig e.T) ++ uint (zig e.U) ++ uint (zig e.F) ++ [v], ()) =
              some ((uint (zig e.T) ++ uint (zig e.U) ++ uint (zig e.F) ++ [v] ++ uint (e.S.length : Int) ++ encB e.S).length, uint (zig e.T) ++ uint (zig e.U) ++ uint (zig e.F) ++ [v] ++ uint (e.S.length : Int) ++ encB e.S, ()) := by
            intro v B
            have hA : (uint (zig e.T) ++ uint (zig e.U) ++ uint (zig e.F) ++ [v]).length ≤ 31 := by simp only [List.length_append, List.length_singleton]; omega
            generalize uint (zig e.T) ++ uint (zig e.U) ++ uint (zig e.F) ++ [v] = A at *
            have w1 : IntKind.u64.wrap (e.S.length : Int) = (e.S.length : Int) := u64w (by omega) (by omega)
            have r4 : roomy (A ++ uint (e.S.length : Int)).length 1 = true := room_of (by simp only [List.length_append]; omega)
            have hl := l13_spec (a := e.T) (b := e.U) (c := e.F) (B := B) s1 s2 e.S.length 0 (A ++ uint (e.S.length : Int)) rfl (by omega) (by simp only [List.length_append]; omega)
            rw [List.drop_zero] at hl
            have hl' : l13_0 ((A ++ uint (e.S.length : Int)).length, 0, e.T, e.U, e.F, B, e.S, A ++ uint (e.S.length : Int), ()) = _ := hl
            unfold j13_25
            simp only [w1]
            refine (bind46 (by omega) (by omega) _).trans ?_
            simp only [Option.bind_some, Nat.zero_add, Nat.le_refl, decide_true, cond_true, take_len, ← List.length_append, r4, hl']
          have r3 : ∀ v : Int, roomy (uint (zig e.T) ++ uint (zig e.U) ++ uint (zig e.F) ++ [v]).length 1 = true := fun v => room_of (by simp only [List.length_append, List.length_singleton]; omega)
          unfold encE headE
          cases e.B with
          | true => simp only [Bool.not_true, cond_false, h3, h4, decide_false, f45_spec (n := e.T) (by omega) (by omega), f45_spec (n := e.U) (by omega) (by omega), f45_spec (n := e.F) (by omega) (by omega), Option.bind_some, Nat.zero_add, Nat.le_refl, decide_true, cond_true, take_len, ← List.length_append, len1 (uint (zig e.T) ++ uint (zig e.U) ++ uint (zig e.F)) 1, r1, r2, r3, key, if_true]
          | false => simp only [Bool.not_true, cond_false, h3, h4, decide_false, f45_spec (n := e.T) (by omega) (by omega), f45_spec (n := e.U) (by omega) (by omega), f45_spec (n := e.F) (by omega) (by omega), Option.bind_some, Nat.zero_add, Nat.le_refl, decide_true, cond_true, take_len, ← List.length_append, len1 (uint (zig e.T) ++ uint (zig e.U) ++ uint (zig e.F)) 0, r1, r2, r3, key, if_false, Bool.false_eq_true]

end Go.AE
