/-
  The chapter Floor, part 11: a plan that is turned; Turned of floor and of the reference; FloorTurns, FloorFour.
-/
import Derived.Test.YthelgkjfdjnmeaaDoorM
namespace Go.AE
open Go.Proofs Go.RowKit
set_option maxRecDepth 100000

namespace Pl
variable {p : Pl} {c : Pt} {i k : Nat}

/-- Where a cell gets to by a quarter turn. -/
def rot (p : Pl) (c : Pt) : Pt := ⟨p.H - 1 - c.Y, c.X⟩
def turn (p : Pl) : Pl := ⟨p.H, p.W, (List.range p.C.length).map fun (i : Nat) => p.C.getD (p.ix ⟨(i : Int) / p.H, p.H - 1 - (i : Int) % p.H⟩) 0⟩
def turns : Nat → Pl → Pl
  | 0, p => p
  | n + 1, p => turns n p.turn

theorem turn_len : p.turn.C.length = p.C.length := by simp [turn]
theorem turn_in : p.turn.inP (p.rot c) ↔ p.inP c := by
  unfold inP turn rot
  simp only
  omega
theorem getD_le {l : List Int} (h : ∀ x ∈ l, x ≤ 2) (n : Nat) : l.getD n 0 ≤ 2 := by
  by_cases hn : n < l.length
  · rw [List.getD_eq_getElem?_getD, List.getElem?_eq_getElem hn]
    exact h _ (List.getElem_mem hn)
  · rw [List.getD_eq_getElem?_getD, List.getElem?_eq_none (by omega)]
    decide
theorem turn_ok (hp : p.Ok) : p.turn.Ok := by
  refine ⟨hp.h1, hp.h2, hp.w1, hp.w2, ?_, ?_, fun x hx => ?_⟩
  · rw [turn_len, hp.len]
    exact Int.mul_comm _ _
  · rw [turn_len]; exact hp.few
  · obtain ⟨n, _, rfl⟩ := List.mem_map.1 hx
    exact getD_le hp.cells _
theorem turn_cell (hp : p.Ok) (hc : p.inP c) : p.turn.C.getD (p.turn.ix (p.rot c)) 0 = p.C.getD (p.ix c) 0 := by
  have hT := turn_ok hp
  have hin := turn_in.2 hc
  have hlt := ix_lt hT hin
  have hcell := cell_ix hT hin
  have hlt' : p.turn.ix (p.rot c) < p.C.length := by rw [← turn_len]; exact hlt
  generalize p.turn.ix (p.rot c) = m at *
  have e1 : (m : Int) % p.H = p.H - 1 - c.Y := congrArg Pt.X hcell
  have e2 : (m : Int) / p.H = c.X := congrArg Pt.Y hcell
  have e3 : (⟨(m : Int) / p.H, p.H - 1 - (m : Int) % p.H⟩ : Pt) = c := by
    rw [e1, e2]
    cases c
    simp only [Pt.mk.injEq, true_and]
    omega
  rw [List.getD_eq_getElem?_getD]
  have hget : p.turn.C[m]? = some (p.C.getD (p.ix ⟨(m : Int) / p.H, p.H - 1 - (m : Int) % p.H⟩) 0) := by
    show ((List.range p.C.length).map _)[m]? = _
    rw [List.getElem?_map, List.getElem?_range hlt']
    rfl
  rw [hget, e3]
  rfl
theorem turn_val (hp : p.Ok) : p.turn.val (p.rot c) = p.val c := by
  unfold val
  by_cases hc : p.inP c
  · rw [if_pos hc, if_pos (turn_in.2 hc), turn_cell hp hc]
  · rw [if_neg hc, if_neg (fun h => hc (turn_in.1 h))]

/-- Plans of one form with the same cells are one. -/
theorem ext_val {q : Pl} (hp : p.Ok) (hq : q.Ok) (hw : p.W = q.W) (hh : p.H = q.H) (h : ∀ c, p.inP c → p.val c = q.val c) : p = q := by
  have hlen : p.C.length = q.C.length := by
    have h1 := hp.len
    have h2 := hq.len
    rw [hw, hh, ← h2] at h1
    omega
  have hC : p.C = q.C := by
    apply List.ext_getElem hlen
    intro i h1 h2
    have hin := cellOf_in hp h1
    have hin2 : q.inP (p.cellOf i) := by unfold inP at hin ⊢; rw [← hw, ← hh]; exact hin
    have e := h _ hin
    unfold val at e
    rw [if_pos hin, if_pos hin2] at e
    have e1 : p.ix (p.cellOf i) = i := ix_cellOf hp
    have e2 : q.ix (p.cellOf i) = i := by
      have : q.ix (p.cellOf i) = p.ix (p.cellOf i) := by unfold ix; rw [hw]
      rw [this, e1]
    rw [e1, e2, List.getD_eq_getElem?_getD, List.getD_eq_getElem?_getD, List.getElem?_eq_getElem h1, List.getElem?_eq_getElem h2] at e
    exact e
  cases p; cases q
  simp_all

theorem turns_ok : ∀ (n : Nat) {p : Pl}, p.Ok → (turns n p).Ok
  | 0, _, h => h
  | n + 1, _, h => turns_ok n (turn_ok h)
theorem turns_add : ∀ (n m : Nat) (p : Pl), turns n (turns m p) = turns (m + n) p
  | n, 0, p => by rw [Nat.zero_add]; rfl
  | n, m + 1, p => by
    rw [Nat.add_right_comm]
    exact turns_add n m p.turn
theorem turns_succ (n : Nat) (p : Pl) : turns (n + 1) p = (turns n p).turn := (turns_add 1 n p).symm

/-- Four quarter turns change nothing. -/
theorem turns_four (hp : p.Ok) : turns 4 p = p := by
  have h1 := turn_ok hp
  have h2 := turn_ok h1
  have h3 := turn_ok h2
  refine ext_val (turns_ok 4 hp) hp rfl rfl fun c _ => ?_
  have e1 := turn_val hp (c := c)
  have e2 := turn_val h1 (c := p.rot c)
  have e3 := turn_val h2 (c := p.turn.rot (p.rot c))
  have e4 := turn_val h3 (c := p.turn.turn.rot (p.turn.rot (p.rot c)))
  have e : p.turn.turn.turn.rot (p.turn.turn.rot (p.turn.rot (p.rot c))) = c := by
    unfold rot turn
    cases c
    simp only [Pt.mk.injEq]
    omega
  rw [e] at e4
  exact e4.trans (e3.trans (e2.trans e1))
theorem turns_mod (hp : p.Ok) : ∀ n : Nat, turns n p = turns (n % 4) p := by
  intro n
  induction n using Nat.strongRecOn with
  | _ n ih =>
    by_cases h : n < 4
    · rw [Nat.mod_eq_of_lt h]
    · have e : n = 4 + (n - 4) := by omega
      have := turns_add (n - 4) 4 p
      rw [turns_four hp] at this
      rw [e, ← this, ih (n - 4) (by omega)]
      congr 1
      omega

/-! ### The loop that fills the turned plan -/

def tix (p : Pl) (i : Nat) : Nat := p.turn.ix (p.rot (p.cellOf i))
theorem rot_inj {c d : Pt} (h : p.rot c = p.rot d) : c = d := by
  unfold rot at h
  cases c; cases d
  simp only [Pt.mk.injEq] at h ⊢
  omega
theorem tix_lt (hp : p.Ok) (h : i < p.C.length) : p.tix i < p.C.length := by
  rw [← turn_len]
  exact ix_lt (turn_ok hp) (turn_in.2 (cellOf_in hp h))
theorem tix_inj (hp : p.Ok) (h : i < p.C.length) (hk : k < p.C.length) (e : p.tix i = p.tix k) : i = k := by
  have := rot_inj (ix_inj (turn_in.2 (cellOf_in hp h)) (turn_in.2 (cellOf_in hp hk)) e)
  have h2 := congrArg p.ix this
  rwa [ix_cellOf hp, ix_cellOf hp] at h2
theorem tix_val (hp : p.Ok) (h : i < p.C.length) : ((p.tix i : Nat) : Int) = (p.cellOf i).X * p.H + (p.H - 1 - (p.cellOf i).Y) := ix_val (turn_in.2 (cellOf_in hp h))

structure Fill (p : Pl) (k : Nat) (D : List Int) : Prop where
  len : D.length = p.C.length
  got : ∀ i, i < k → D[p.tix i]? = p.C[i]?

theorem Fill.step (hp : p.Ok) {D : List Int} (h : Fill p k D) (hk : k < p.C.length) {v : Int} (hv : p.C[k]? = some v) : Fill p (k + 1) (D.set (p.tix k) v) := by
  refine ⟨by rw [List.length_set]; exact h.len, fun i hi => ?_⟩
  by_cases e : i = k
  · subst e
    rw [List.getElem?_set_self (by rw [h.len]; exact tix_lt hp hk), hv]
  · rw [List.getElem?_set_ne (fun q => e (tix_inj hp hk (by omega) q).symm)]
    exact h.got i (by omega)
theorem Fill.done (hp : p.Ok) {D : List Int} (h : Fill p p.C.length D) : D = p.turn.C := by
  have hT := turn_ok hp
  apply List.ext_getElem (by rw [h.len, turn_len])
  intro m h1 h2
  have hin := cellOf_in hT h2
  -- the cell that gets there
  have hc : p.inP ⟨(p.turn.cellOf m).Y, p.H - 1 - (p.turn.cellOf m).X⟩ := by
    unfold inP at hin ⊢
    simp only [turn] at hin ⊢
    omega
  have hr : p.rot ⟨(p.turn.cellOf m).Y, p.H - 1 - (p.turn.cellOf m).X⟩ = p.turn.cellOf m := by
    unfold rot
    generalize p.turn.cellOf m = q
    cases q
    simp only [Pt.mk.injEq, and_true]
    omega
  generalize (⟨(p.turn.cellOf m).Y, p.H - 1 - (p.turn.cellOf m).X⟩ : Pt) = c at hc hr
  have hlt := ix_lt hp hc
  have e1 := h.got _ hlt
  have e2 : p.tix (p.ix c) = m := by
    unfold tix
    rw [cell_ix hp hc, hr, ix_cellOf hT]
  have e3 := turn_cell hp hc
  rw [hr, ix_cellOf hT, List.getD_eq_getElem?_getD, List.getElem?_eq_getElem h2, List.getD_eq_getElem?_getD] at e3
  rw [e2, List.getElem?_eq_getElem h1] at e1
  rw [← e1] at e3
  exact e3.symm
end Pl

theorem tix_w {p : Pl} (hp : p.Ok) {i : Nat} (h : i < p.C.length) {c : Pt} (hc : p.cellOf i = c) : IntKind.i64.wrap (IntKind.i64.wrap (IntKind.i64.wrap (IntKind.i64.wrap (c.X * p.H) + p.H) - 1) - c.Y) = ((p.tix i : Nat) : Int) := by
  have hv := Pl.tix_val hp h
  have hin := Pl.cellOf_in hp h
  rw [hc] at hv hin
  unfold Pl.inP at hin
  have h2 := hp.w2
  have h3 := hp.h1
  have h4 := hp.h2
  have hm := mulb (a := c.X) (b := p.H) (A := 64) (B := 64) (by omega) (by omega) (by omega) (by omega)
  rw [w64 (n := c.X * p.H) (by omega) (by omega), w64 (n := c.X * p.H + p.H) (by omega) (by omega), w64 (n := c.X * p.H + p.H - 1) (by omega) (by omega), w64 (by omega) (by omega)]
  omega

section
variable {p : Pl} (hp : p.Ok)
include hp

theorem l26_6_spec (a b u v : Int) : ∀ (t k : Nat) (D : List Int), p.C.length - k = t → k ≤ p.C.length → Pl.Fill p k D →
    l26_6 (a, b, p.C.length, (p.C.length : Int), (k : Int), u, v, p.W, p.H, p.C.length, p.H, p.W, p.C.length, p.C, D, ()) = some (a, b, u, v, p.W, p.H, p.C.length, p.H, p.W, p.C.length, p.C, p.turn.C, ()) := by
  have hfew := hp.few
  have hw1 := hp.w1
  intro t
  induction t with
  | zero =>
    intro k D ht hk h
    have : k = p.C.length := by omega
    subst this
    have c1 : ¬ (p.C.length : Int) < (p.C.length : Int) := by omega
    have hr : r26_6 (a, b, p.C.length, (p.C.length : Int), (p.C.length : Int), u, v, p.W, p.H, p.C.length, p.H, p.W, p.C.length, p.C, D, ()) = some (.inr (a, b, u, v, p.W, p.H, p.C.length, p.H, p.W, p.C.length, p.C, D, ())) := by
      unfold r26_6
      simp only [c1, decide_false, cond_false]
    unfold l26_6
    rw [iterO_eq, hr, h.done hp]
  | succ t ih =>
    intro k D ht hk h
    have hlt : k < p.C.length := by omega
    have c1 : (k : Int) < (p.C.length : Int) := by omega
    have c2 : (0 : Int) ≤ (k : Int) := by omega
    have w0 : IntKind.i64.wrap ((k : Int) + 1) = ((k + 1 : Nat) : Int) := by rw [w64 (by omega) (by omega)]; rfl
    obtain ⟨v0, hv⟩ : ∃ v, p.C[k]? = some v := ⟨_, List.getElem?_eq_getElem hlt⟩
    have q : (p.W == 0) = false := by rw [beq_eq_false_iff_ne]; omega
    have ex : (k : Int).tmod p.W = (p.cellOf k).X := by unfold Pl.cellOf; rw [Int.tmod_eq_emod_of_nonneg (by omega)]
    have ey : (k : Int).tdiv p.W = (p.cellOf k).Y := by unfold Pl.cellOf; rw [Int.tdiv_eq_ediv_of_nonneg (by omega)]
    have hin := Pl.cellOf_in hp hlt
    have hh2 := hp.h2
    unfold Pl.inP at hin
    have wy : IntKind.i64.wrap (p.cellOf k).Y = (p.cellOf k).Y := w64 (by omega) (by omega)
    have ht := tix_w hp hlt rfl
    have htl := Pl.tix_lt hp hlt
    have c3 : (0 : Int) ≤ ((p.tix k : Nat) : Int) := by omega
    have c4 : ((p.tix k : Nat) : Int) < (p.C.length : Int) := by omega
    obtain ⟨d0, hd⟩ : ∃ v, D[p.tix k]? = some v := ⟨_, List.getElem?_eq_getElem (by rw [h.len]; exact htl)⟩
    have hr : r26_6 (a, b, p.C.length, (p.C.length : Int), (k : Int), u, v, p.W, p.H, p.C.length, p.H, p.W, p.C.length, p.C, D, ()) = some (.inl (a, b, p.C.length, (p.C.length : Int), ((k + 1 : Nat) : Int), u, v, p.W, p.H, p.C.length, p.H, p.W, p.C.length, p.C, D.set (p.tix k) v0, ())) := by
      unfold r26_6
      simp only [c1, c2, decide_true, cond_true, Bool.and_self, Nat.zero_add, Int.toNat_natCast, hv, Option.bind_some, q, cond_false, ex, ey, wy, ht, c3, c4, hd, w0]
    unfold l26_6
    rw [iterO_eq, hr]
    exact ih (k + 1) _ (by omega) (by omega) (h.step hp hlt hv)
end

theorem l26_0_spec (n : Int) : ∀ (t : Nat) (k : Int) (u v : Int) (p : Pl), (n - k).toNat = t → 0 ≤ k → k ≤ n → n ≤ 1000 → p.Ok →
    ∃ u' v', l26_0 (n, k, u, v, p.W, p.H, p.C.length, p.C, ()) = some (u', v', (Pl.turns t p).W, (Pl.turns t p).H, (Pl.turns t p).C.length, (Pl.turns t p).C, ()) := by
  intro t
  induction t with
  | zero =>
    intro k u v p ht h0 hk hn hp
    have : k = n := by omega
    subst this
    have hr : r26_0 (k, k, u, v, p.W, p.H, p.C.length, p.C, ()) = some (.inr (u, v, p.W, p.H, p.C.length, p.C, ())) := by
      have c1 : ¬ k < k := by omega
      unfold r26_0
      simp only [c1, decide_false, cond_false]
    refine ⟨u, v, ?_⟩
    unfold l26_0
    rw [iterO_eq, hr]
    rfl
  | succ t ih =>
    intro k u v p ht h0 hk hn hp
    have hfew := hp.few
    have c1 : k < n := by omega
    have c2 : (p.C.length : Int) * 1 ≤ 140737488355328 := by omega
    have c3 : (p.C.length : Int) ≤ 140737488355328 := by omega
    have w0 : IntKind.i64.wrap (k + 1) = k + 1 := w64 (by omega) (by omega)
    have hl : l26_6 (n, k, p.C.length, (p.C.length : Int), 0, u, v, p.W, p.H, p.C.length, p.H, p.W, p.C.length, p.C, List.replicate p.C.length 0, ()) = _ := l26_6_spec hp n k u v p.C.length 0 (List.replicate p.C.length 0) rfl (by omega) ⟨by simp, fun i hi => absurd hi (Nat.not_lt_zero i)⟩
    have hr : r26_0 (n, k, u, v, p.W, p.H, p.C.length, p.C, ()) = some (.inl (n, k + 1, u, v, p.turn.W, p.turn.H, p.turn.C.length, p.turn.C, ())) := by
      unfold r26_0
      simp only [c1, c2, c3, Int.le_refl, decide_true, cond_true, Bool.and_self, Int.toNat_natCast, hl, Option.bind_some, w0, Pl.turn_len]
      rfl
    obtain ⟨u', v', h⟩ := ih (k + 1) u v p.turn (by omega) (by omega) (by omega) hn (Pl.turn_ok hp)
    refine ⟨u', v', ?_⟩
    unfold l26_0 at h ⊢
    rw [iterO_eq, hr]
    exact h

theorem and3 (q : Int) : bits .and .i64 q 3 = q % 4 := by
  show IntKind.i64.wrap ((BitVec.ofInt 64 q &&& BitVec.ofInt 64 3).toNat : Int) = _
  have e : (BitVec.ofInt 64 q &&& BitVec.ofInt 64 3).toNat = (q % 18446744073709551616).toNat % 4 := by
    rw [BitVec.toNat_and, BitVec.toNat_ofInt, BitVec.toNat_ofInt]
    exact Nat.and_two_pow_sub_one_eq_mod _ 2
  rw [e, w64 (by omega) (by omega)]
  omega

/-- floor.Turned. -/
theorem f26_spec (p : Pl) (hl : p.C.length ≤ 400) (q : Int) : f26 (p.W, p.H, p.C, q, ()) = some (if p.vld then ((Pl.turns (q % 4).toNat p).W, (Pl.turns (q % 4).toNat p).H, (Pl.turns (q % 4).toNat p).C, 0, ()) else (0, 0, [], 1, ())) := by
  unfold f26
  simp only [f43_spec (p := p) (by omega), Option.bind_some]
  cases hv : p.vld with
  | false => simp
  | true =>
    have hp := Pl.vld_ok hv hl
    have rr : roomy p.C.length 1 = true := roomy_ok (by omega)
    obtain ⟨u, v, hloop⟩ := l26_0_spec (q % 4) (q % 4).toNat 0 0 0 p (by omega) (by omega) (by omega) (by omega) hp
    simp only [Bool.not_true, cond_false, f45, j45_4, rr, cond_true, Option.bind_some, and3, Nat.zero_add, hloop, Nat.le_refl, decide_true, List.drop_zero, List.take_length, if_true]

/-! ### The reference's -/

theorem f28_mod (q : Int) {m : Int} (h0 : 0 < m) (h1 : m ≤ 1000) : f28 (q, m, ()) = some (q % m, ()) := by
  have q0 : (m == 0) = false := by rw [beq_eq_false_iff_ne]; omega
  have e := Int.tmod_add_mul_tdiv q m
  have t1 := Int.tmod_lt_of_pos q h0
  have t2 : -m < q.tmod m := by
    have := Int.tmod_lt_of_pos (-q) h0
    rw [Int.neg_tmod] at this
    omega
  have k : q % m = q.tmod m % m := by
    conv => lhs; rw [← e]
    rw [Int.add_mul_emod_self_left]
  unfold f28
  simp only [q0, cond_false]
  by_cases c : q.tmod m < 0
  · have w : IntKind.i64.wrap (q.tmod m + m) = q % m := by
      rw [w64 (by omega) (by omega), k, ← Int.add_emod_right, Int.emod_eq_of_lt (by omega) (by omega)]
    simp only [c, decide_true, cond_true, j28_13, Option.bind_some, w]
  · have w : q.tmod m = q % m := by rw [k, Int.emod_eq_of_lt (by omega) t1]
    simp only [c, decide_false, cond_false, j28_13, Option.bind_some]
    rw [w]

theorem f28_4 (q : Int) : f28 (q, 4, ()) = some (q % 4, ()) := f28_mod q (by omega) (by omega)
theorem f28_100 (q : Int) : f28 (q, 100, ()) = some (q % 100, ()) := f28_mod q (by omega) (by omega)

section
variable {p : Pl} (hp : p.Ok)
include hp

theorem l27_12_spec (a b u v : Int) {y : Nat} (hy : (y : Int) < p.H) : ∀ (t x : Nat) (D : List Int), p.W.toNat - x = t → (x : Int) ≤ p.W → Pl.Fill p (y * p.W.toNat + x) D →
    ∃ D', l27_12 (a, b, (y : Int), (x : Int), u, v, p.W, p.H, p.C.length, p.H, p.W, p.C.length, p.C, D, ()) = some (a, b, (y : Int), u, v, p.W, p.H, p.C.length, p.H, p.W, p.C.length, p.C, D', ()) ∧ Pl.Fill p ((y + 1) * p.W.toNat) D' := by
  have hfew := hp.few
  have hw1 := hp.w1
  have hw2 := hp.w2
  have hh2 := hp.h2
  intro t
  induction t with
  | zero =>
    intro x D ht hk h
    have : x = p.W.toNat := by omega
    subst this
    have c1 : ¬ ((p.W.toNat : Nat) : Int) < p.W := by omega
    refine ⟨D, ?_, by rw [Nat.add_mul, Nat.one_mul]; exact h⟩
    have hr : r27_12 (a, b, (y : Int), ((p.W.toNat : Nat) : Int), u, v, p.W, p.H, p.C.length, p.H, p.W, p.C.length, p.C, D, ()) = some (.inr (a, b, (y : Int), u, v, p.W, p.H, p.C.length, p.H, p.W, p.C.length, p.C, D, ())) := by
      unfold r27_12
      simp only [c1, decide_false, cond_false]
    unfold l27_12
    rw [iterO_eq, hr]
  | succ t ih =>
    intro x D ht hk h
    have c1 : (x : Int) < p.W := by omega
    have hin : p.inP ⟨(x : Int), (y : Int)⟩ := by unfold Pl.inP; simp only; omega
    have hix : p.ix ⟨(x : Int), (y : Int)⟩ = y * p.W.toNat + x := by
      have h1 := Pl.ix_val hin
      have h2 : (y : Int) * p.W = ((y * p.W.toNat : Nat) : Int) := by rw [Int.natCast_mul, Int.toNat_of_nonneg (by omega)]
      simp only [h2] at h1
      omega
    have hlt := Pl.ix_lt hp hin
    have hw := ix_w hp hin
    have hcell := Pl.cell_ix hp hin
    have ht' := tix_w hp hlt hcell
    simp only at hw ht'
    rw [hix] at hlt hw ht'
    have htl := Pl.tix_lt hp hlt
    obtain ⟨v0, hv⟩ : ∃ v, p.C[y * p.W.toNat + x]? = some v := ⟨_, List.getElem?_eq_getElem hlt⟩
    obtain ⟨d0, hd⟩ : ∃ v, D[p.tix (y * p.W.toNat + x)]? = some v := ⟨_, List.getElem?_eq_getElem (by rw [h.len]; exact htl)⟩
    have hs := h.step hp hlt hv
    generalize hk0 : y * p.W.toNat + x = k at *
    have c2 : (0 : Int) ≤ (k : Int) := by omega
    have c2' : (k : Int) < (p.C.length : Int) := by omega
    have c3 : (0 : Int) ≤ ((p.tix k : Nat) : Int) := by omega
    have c4 : ((p.tix k : Nat) : Int) < (p.C.length : Int) := by omega
    have w0 : IntKind.i64.wrap ((x : Int) + 1) = ((x + 1 : Nat) : Int) := by rw [w64 (by omega) (by omega)]; rfl
    have hr : r27_12 (a, b, (y : Int), (x : Int), u, v, p.W, p.H, p.C.length, p.H, p.W, p.C.length, p.C, D, ()) = some (.inl (a, b, (y : Int), ((x + 1 : Nat) : Int), u, v, p.W, p.H, p.C.length, p.H, p.W, p.C.length, p.C, D.set (p.tix k) v0, ())) := by
      unfold r27_12
      simp only [c1, c2, c2', decide_true, cond_true, Bool.and_self, Nat.zero_add, hw, Int.toNat_natCast, hv, Option.bind_some, ht', c3, c4, hd, w0]
    obtain ⟨D', q1, q2⟩ := ih (x + 1) _ (by omega) (by omega) (by rw [← Nat.add_assoc, hk0]; exact hs)
    refine ⟨D', ?_, q2⟩
    unfold l27_12 at q1 ⊢
    rw [iterO_eq, hr]
    exact q1

theorem l27_6_spec (a b u v : Int) : ∀ (t y : Nat) (D : List Int), p.H.toNat - y = t → (y : Int) ≤ p.H → Pl.Fill p (y * p.W.toNat) D →
    l27_6 (a, b, (y : Int), u, v, p.W, p.H, p.C.length, p.H, p.W, p.C.length, p.C, D, ()) = some (a, b, u, v, p.W, p.H, p.C.length, p.H, p.W, p.C.length, p.C, p.turn.C, ()) := by
  have hw1 := hp.w1
  have hh1 := hp.h1
  have hh2 := hp.h2
  intro t
  induction t with
  | zero =>
    intro y D ht hk h
    have : y = p.H.toNat := by omega
    subst this
    have c1 : ¬ ((p.H.toNat : Nat) : Int) < p.H := by omega
    have hn : p.H.toNat * p.W.toNat = p.C.length := by
      have h1 := hp.len
      have h2 : p.W * p.H = ((p.H.toNat * p.W.toNat : Nat) : Int) := by rw [Int.natCast_mul, Int.toNat_of_nonneg (by omega), Int.toNat_of_nonneg (by omega), Int.mul_comm]
      omega
    rw [hn] at h
    have hr : r27_6 (a, b, ((p.H.toNat : Nat) : Int), u, v, p.W, p.H, p.C.length, p.H, p.W, p.C.length, p.C, D, ()) = some (.inr (a, b, u, v, p.W, p.H, p.C.length, p.H, p.W, p.C.length, p.C, D, ())) := by
      unfold r27_6
      simp only [c1, decide_false, cond_false]
    unfold l27_6
    rw [iterO_eq, hr, h.done hp]
  | succ t ih =>
    intro y D ht hk h
    have c1 : (y : Int) < p.H := by omega
    have w0 : IntKind.i64.wrap ((y : Int) + 1) = ((y + 1 : Nat) : Int) := by rw [w64 (by omega) (by omega)]; rfl
    obtain ⟨D', q1, q2⟩ := l27_12_spec hp a b u v c1 p.W.toNat 0 D rfl (by omega) h
    have q1' : l27_12 (a, b, (y : Int), 0, u, v, p.W, p.H, p.C.length, p.H, p.W, p.C.length, p.C, D, ()) = _ := q1
    have hr : r27_6 (a, b, (y : Int), u, v, p.W, p.H, p.C.length, p.H, p.W, p.C.length, p.C, D, ()) = some (.inl (a, b, ((y + 1 : Nat) : Int), u, v, p.W, p.H, p.C.length, p.H, p.W, p.C.length, p.C, D', ())) := by
      unfold r27_6
      simp only [c1, decide_true, cond_true, q1', Option.bind_some, w0]
    have := ih (y + 1) D' (by omega) (by omega) q2
    unfold l27_6 at this ⊢
    rw [iterO_eq, hr]
    exact this
end

theorem l27_0_spec (q : Int) : ∀ (t : Nat) (k : Int) (u v : Int) (p : Pl), (q % 4 - k).toNat = t → 0 ≤ k → k ≤ q % 4 → p.Ok →
    ∃ u' v', l27_0 (q, k, u, v, p.W, p.H, p.C.length, p.C, ()) = some (u', v', (Pl.turns t p).W, (Pl.turns t p).H, (Pl.turns t p).C.length, (Pl.turns t p).C, ()) := by
  intro t
  induction t with
  | zero =>
    intro k u v p ht h0 hk hp
    have : k = q % 4 := by omega
    subst this
    have hr : r27_0 (q, q % 4, u, v, p.W, p.H, p.C.length, p.C, ()) = some (.inr (u, v, p.W, p.H, p.C.length, p.C, ())) := by
      have c1 : ¬ q % 4 < q % 4 := by omega
      unfold r27_0
      simp only [f28_4, Option.bind_some, c1, decide_false, cond_false]
    refine ⟨u, v, ?_⟩
    unfold l27_0
    rw [iterO_eq, hr]
    rfl
  | succ t ih =>
    intro k u v p ht h0 hk hp
    have hfew := hp.few
    have c1 : k < q % 4 := by omega
    have c2 : (p.C.length : Int) * 1 ≤ 140737488355328 := by omega
    have c3 : (p.C.length : Int) ≤ 140737488355328 := by omega
    have w0 : IntKind.i64.wrap (k + 1) = k + 1 := w64 (by omega) (by omega)
    have hh1 := hp.h1
    have hl : l27_6 (q, k, 0, u, v, p.W, p.H, p.C.length, p.H, p.W, p.C.length, p.C, List.replicate p.C.length 0, ()) = _ := l27_6_spec hp q k u v p.H.toNat 0 (List.replicate p.C.length 0) rfl (by omega) ⟨by simp, fun i hi => by omega⟩
    have hr : r27_0 (q, k, u, v, p.W, p.H, p.C.length, p.C, ()) = some (.inl (q, k + 1, u, v, p.turn.W, p.turn.H, p.turn.C.length, p.turn.C, ())) := by
      unfold r27_0
      simp only [f28_4, Option.bind_some, c1, c2, c3, Int.le_refl, decide_true, cond_true, Bool.and_self, Int.toNat_natCast, hl, w0, Pl.turn_len]
      rfl
    obtain ⟨u', v', h⟩ := ih (k + 1) u v p.turn (by omega) (by omega) (by omega) (Pl.turn_ok hp)
    refine ⟨u', v', ?_⟩
    unfold l27_0 at h ⊢
    rw [iterO_eq, hr]
    exact h

/-- The reference's Turned. -/
theorem f27_spec (p : Pl) (hl : p.C.length ≤ 400) (q : Int) : f27 (p.W, p.H, p.C, q, ()) = some (if p.vld then ((Pl.turns (q % 4).toNat p).W, (Pl.turns (q % 4).toNat p).H, (Pl.turns (q % 4).toNat p).C, 0, ()) else (0, 0, [], 1, ())) := by
  unfold f27
  simp only [f29_spec (p := p) (by omega), Option.bind_some]
  cases hv : p.vld with
  | false => simp
  | true =>
    have hp := Pl.vld_ok hv hl
    have rr : roomy (0 + p.C.length) 1 = true := roomy_ok (by omega)
    obtain ⟨u, v, hloop⟩ := l27_0_spec q (q % 4).toNat 0 0 0 p (by omega) (by omega) (by omega) hp
    simp only [Nat.zero_add] at rr
    simp only [Bool.not_true, cond_false, rr, cond_true, Option.bind_some, Nat.zero_add, List.nil_append, hloop, Nat.le_refl, decide_true, List.drop_zero, List.take_length, if_true]

theorem floorTurns_plain (x : Int × Int × List Int × Int × Unit) : f7 x = some (true, ()) := by
  obtain ⟨w, h, C, q, ⟨⟩⟩ := x
  unfold f7
  simp only [f12_spec, Option.bind_some, Bool.not_true, cond_false, f13_few]
  by_cases hl : C.length ≤ 400
  · have h26 := f26_spec ⟨w, h, C⟩ hl q
    have h27 := f27_spec ⟨w, h, C⟩ hl q
    simp only at h26 h27
    simp only [hl, decide_true, Bool.not_true, cond_false, h26, h27, Option.bind_some, beq_self_eq_true, cond_true, f19_self]
  · simp only [hl, decide_false, Bool.not_false, cond_true]

theorem floorFour_plain (x : Int × Int × List Int × Int × Int × Unit) : f8 x = some (true, ()) := by
  obtain ⟨w, h, C, a, b, ⟨⟩⟩ := x
  unfold f8
  simp only [f12_spec, Option.bind_some, Bool.not_true, cond_false, f13_few]
  by_cases hl : C.length ≤ 400
  · simp only [hl, decide_true, Bool.not_true, cond_false, f28_100, Option.bind_some]
    have a0 : 0 ≤ a % 100 := Int.emod_nonneg _ (by omega)
    have a1 : a % 100 < 100 := Int.emod_lt_of_pos _ (by omega)
    have b0 : 0 ≤ b % 100 := Int.emod_nonneg _ (by omega)
    have b1 : b % 100 < 100 := Int.emod_lt_of_pos _ (by omega)
    generalize a % 100 = a at *
    generalize b % 100 = b at *
    have w1 : IntKind.i64.wrap (a + b) = a + b := w64 (by omega) (by omega)
    have m1 : a.tmod 4 = a % 4 := Int.tmod_eq_emod_of_nonneg a0
    have w2 : IntKind.i64.wrap (4 - a % 4) = 4 - a % 4 := w64 (by omega) (by omega)
    have h26 := fun q => f26_spec ⟨w, h, C⟩ hl q
    simp only at h26
    cases hv : (⟨w, h, C⟩ : Pl).vld with
    | false =>
      have h29 := f29_spec (p := ⟨w, h, C⟩) (show C.length ≤ 1000000 by omega)
      simp only [hv] at h29
      have q1 : ((1 : Int) != 0) = true := rfl
      simp only [h26, hv, Bool.false_eq_true, if_false, Option.bind_some, q1, beq_self_eq_true, cond_true, h29, Bool.not_false]
    | true =>
      have hp := Pl.vld_ok hv hl
      have ew : w = (⟨w, h, C⟩ : Pl).W := rfl
      have eh : h = (⟨w, h, C⟩ : Pl).H := rfl
      have ec : C = (⟨w, h, C⟩ : Pl).C := rfl
      generalize hq : (⟨w, h, C⟩ : Pl) = p at *
      subst ew eh ec
      have hT := Pl.turns_ok (a % 4).toNat hp
      have h26' := fun q => f26_spec (Pl.turns (a % 4).toNat p) hT.few q
      have e1 : Pl.turns (b % 4).toNat (Pl.turns (a % 4).toNat p) = Pl.turns ((a + b) % 4).toNat p := by
        rw [Pl.turns_add, Pl.turns_mod hp]
        congr 1
        omega
      have e2 : Pl.turns ((4 - a % 4) % 4).toNat (Pl.turns (a % 4).toNat p) = p := by
        rw [Pl.turns_add, Pl.turns_mod hp]
        have : ((a % 4).toNat + ((4 - a % 4) % 4).toNat) % 4 = 0 := by omega
        rw [this]
        rfl
      simp only [h26, hv, if_true, Option.bind_some, bne_self_eq_false, cond_false, h26', hT.vld, w1, m1, w2, e1, e2, beq_self_eq_true, cond_true, f19_self]
  · simp only [hl, decide_false, Bool.not_false, cond_true]

end Go.AE
