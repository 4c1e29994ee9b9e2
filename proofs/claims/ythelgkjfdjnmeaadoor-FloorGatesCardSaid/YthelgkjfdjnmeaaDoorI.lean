/-
  The chapter Floor, part 6: floor.Rooms; the sample.
-/
import Derived.Test.YthelgkjfdjnmeaaDoorH
import Derived.Test.YthelgkjfdjnmeaaDoorE
namespace Go.AE
open Go.Proofs Go.RowKit
set_option maxRecDepth 100000

theorem take_set_rep {l : List Int} {k : Nat} (hk : k < l.length) (h : l.take k = List.replicate k (-1)) : (l.set k (-1)).take (k + 1) = List.replicate (k + 1) (-1) := by
  rw [List.take_add_one, List.take_set_of_le (Nat.le_refl k), h, List.getElem?_set_self hk]
  rw [List.replicate_succ']
  rfl

theorem l16_0_spec (a b : Int) (C : List Int) (n : Nat) (hn : n ≤ 1000000) : ∀ (t k : Nat) (l : List Int), n - k = t → k ≤ n → l.length = n → l.take k = List.replicate k (-1) →
    l16_0 (n, (n : Int), (k : Int), a, b, C, l, ()) = some (n, a, b, C, List.replicate n (-1), ()) := by
  intro t
  induction t with
  | zero =>
    intro k l ht hk hl h
    have : k = n := by omega
    subst this
    have c1 : ¬ (k : Int) < (k : Int) := by omega
    have e : l = List.replicate k (-1) := by rw [← h, List.take_of_length_le (by omega)]
    have hr : r16_0 (k, (k : Int), (k : Int), a, b, C, l, ()) = some (.inr (k, a, b, C, l, ())) := by
      unfold r16_0
      simp only [c1, decide_false, cond_false]
    unfold l16_0
    rw [iterO_eq, hr, e]
  | succ t ih =>
    intro k l ht hk hl h
    have c1 : (k : Int) < (n : Int) := by omega
    have c2 : (0 : Int) ≤ (k : Int) := by omega
    have e1 : l[k]? = some l[k] := List.getElem?_eq_getElem (by omega)
    have w0 : IntKind.i64.wrap ((k : Int) + 1) = ((k + 1 : Nat) : Int) := by rw [w64 (by omega) (by omega)]; rfl
    have hr : r16_0 (n, (n : Int), (k : Int), a, b, C, l, ()) = some (.inl (n, (n : Int), ((k + 1 : Nat) : Int), a, b, C, l.set k (-1), ())) := by
      unfold r16_0
      simp only [c1, c2, decide_true, Bool.and_self, cond_true, Nat.zero_add, Int.toNat_natCast, e1, Option.bind_some, w0]
    have := ih (k + 1) (l.set k (-1)) (by omega) (by omega) (by rw [List.length_set]; exact hl) (take_set_rep (by omega) h)
    unfold l16_0 at this ⊢
    rw [iterO_eq, hr]
    exact this

theorem cell_free {p : Pl} (hp : p.Ok) {i : Nat} (hi : i < p.C.length) : p.free (p.cellOf i) ↔ p.C[i]? = some 1 := by
  unfold Pl.free
  rw [Pl.ix_cellOf hp, List.getD_eq_getElem?_getD, List.getElem?_eq_getElem hi]
  simp [Pl.cellOf_in hp hi]

theorem g_cell {p : Pl} (hp : p.Ok) {l : List Int} (hl : l.length = p.C.length) {i : Nat} (hi : i < p.C.length) : l[i]? = some (p.g l (p.cellOf i)) := by
  have := g_get hp hl (Pl.cellOf_in hp hi)
  rw [Pl.ix_cellOf hp] at this
  exact this

theorem rk_le {p : Pl} : ∀ i, p.rk i ≤ i := by
  intro i
  unfold Pl.rk
  have := List.length_filter_le (fun j => @decide (p.lead j) (Classical.propDecidable _)) (List.range i)
  rw [List.length_range] at this
  exact this

theorem l16_6_spec {p : Pl} (hp : p.Ok) : ∀ (t i : Nat) (l : List Int), p.C.length - i = t → i ≤ p.C.length → Pl.OI p l i →
    ∃ l', l16_6 (p.C.length, (p.rk i : Int), p.C, (p.C.length : Int), (i : Int), p.W, p.H, p.C, l, ()) = some (p.C.length, l', ()) ∧ Pl.IsRooms p l' := by
  have hfew := hp.few
  intro t
  induction t with
  | zero =>
    intro i l ht hi h
    have : i = p.C.length := by omega
    subst this
    have c1 : ¬ (p.C.length : Int) < (p.C.length : Int) := by omega
    refine ⟨l, ?_, h.done hp⟩
    have hr : r16_6 (p.C.length, (p.rk p.C.length : Int), p.C, (p.C.length : Int), (p.C.length : Int), p.W, p.H, p.C, l, ()) = some (.inr (p.C.length, l, ())) := by
      unfold r16_6
      simp only [c1, decide_false, cond_false]
    unfold l16_6
    rw [iterO_eq, hr]
  | succ t ih =>
    intro i l ht hi h
    have hin : i < p.C.length := by omega
    have c1 : (i : Int) < (p.C.length : Int) := by omega
    have c2 : (0 : Int) ≤ (i : Int) := by omega
    have w0 : IntKind.i64.wrap ((i : Int) + 1) = ((i + 1 : Nat) : Int) := by rw [w64 (by omega) (by omega)]; rfl
    obtain ⟨v, hv⟩ : ∃ v, p.C[i]? = some v := ⟨_, List.getElem?_eq_getElem hin⟩
    have g1 := g_cell hp h.len hin
    have hfr := cell_free hp hin
    have go : ∀ (l1 : List Int), Pl.OI p l1 (i + 1) → r16_6 (p.C.length, (p.rk i : Int), p.C, (p.C.length : Int), (i : Int), p.W, p.H, p.C, l, ()) = some (.inl (p.C.length, (p.rk (i + 1) : Int), p.C, (p.C.length : Int), ((i + 1 : Nat) : Int), p.W, p.H, p.C, l1, ())) →
        ∃ l', l16_6 (p.C.length, (p.rk i : Int), p.C, (p.C.length : Int), (i : Int), p.W, p.H, p.C, l, ()) = some (p.C.length, l', ()) ∧ Pl.IsRooms p l' := by
      intro l1 h1 hr
      obtain ⟨l', q1, q2⟩ := ih (i + 1) l1 (by omega) (by omega) h1
      refine ⟨l', ?_, q2⟩
      unfold l16_6 at q1 ⊢
      rw [iterO_eq, hr]
      exact q1
    by_cases hf : p.free (p.cellOf i)
    · have hv1 : v = 1 := by rw [hfr, hv] at hf; exact Option.some.inj hf
      have hvb : (v != 1) = false := by simp [hv1]
      by_cases h0 : p.g l (p.cellOf i) ≥ 0
      · obtain ⟨k1, k2⟩ := h.skip (h.seen h0)
        refine go l k1 ?_
        rw [k2]
        unfold r16_6
        simp only [c1, c2, decide_true, cond_true, idxO_nat, hv, Option.bind_some, hvb, cond_false, Bool.and_self, Nat.zero_add, Int.toNat_natCast, g1, h0, j16_91, w0]
      · have hl := h.new hf (by omega)
        have hfi := Pl.FI.init hp h hl (p.rk i : Int) (by omega)
        rw [Pl.ix_cellOf hp] at hfi
        have hrk := rk_le (p := p) i
        have hsum := lsum_le1 (fun x => if x < 0 then 1 else 0) (fun x => by split <;> omega) (l.set i (p.rk i : Int))
        rw [List.length_set, h.len] at hsum
        obtain ⟨l1, c', s1, s2⟩ := l16_12_spec (C' := p.C) (Lc := (p.C.length : Int)) (i := (i : Int)) hp _ (l.set i (p.rk i : Int)) 1 [(i : Int)] [p.cellOf i] (p.cellOf i) rfl (by simp) (by simp [ixI, Pl.ix_cellOf hp]) hfi (by unfold Pl.fmu; simp; omega)
        obtain ⟨k1, k2⟩ := h.flood hl s2
        refine go l1 k1 ?_
        rw [k2]
        have w1 : IntKind.i64.wrap ((p.rk i : Int) + 1) = ((p.rk i + 1 : Nat) : Int) := by rw [w64 (by omega) (by omega)]; rfl
        unfold r16_6
        simp only [c1, c2, decide_true, cond_true, idxO_nat, hv, Option.bind_some, hvb, cond_false, Bool.and_self, Nat.zero_add, Int.toNat_natCast, g1, h0, decide_false, s1, j16_91, w0, w1]
    · have hv1 : v ≠ 1 := fun e => hf (hfr.2 (by rw [hv, e]))
      have hvb : (v != 1) = true := by simpa using hv1
      obtain ⟨k1, k2⟩ := h.skip (h.unfree hf)
      refine go l k1 ?_
      rw [k2]
      unfold r16_6
      simp only [c1, decide_true, cond_true, idxO_nat, hv, Option.bind_some, hvb, j16_91, w0]

theorem OI_zero {p : Pl} : Pl.OI p (List.replicate p.C.length (-1)) 0 := by
  have hg : ∀ c, p.g (List.replicate p.C.length (-1)) c = -1 := fun c => by
    unfold Pl.g
    rw [List.getD_eq_getElem?_getD, List.getElem?_replicate]
    split <;> rfl
  exact ⟨by rw [List.length_replicate], fun c _ _ => hg c, fun k hk => absurd hk (Nat.not_lt_zero k), fun c _ _ => hg c⟩

/-- floor.Rooms. -/
theorem f16_spec {p : Pl} (hl : p.C.length ≤ 4096) : (p.bld = true ∧ p.Ok ∧ ∃ l, f16 (p.W, p.H, p.C, ()) = some (p.C.length, 0, l, ()) ∧ Pl.IsRooms p l) ∨ (p.bld = false ∧ f16 (p.W, p.H, p.C, ()) = some (0, if p.vld then 3 else 1, [], ())) := by
  have h20 := f20_spec (p := p) (by omega)
  by_cases hb : p.bld = true
  · have hv : p.vld = true ∧ p.known = true := by unfold Pl.bld at hb; simpa using hb
    have hp := Pl.vld_ok hv.1 hl
    refine .inl ⟨hb, hp, ?_⟩
    have hi := l16_0_spec p.W p.H p.C p.C.length (by omega) p.C.length 0 (List.replicate p.C.length 0) rfl (by omega) (by simp) (by simp)
    obtain ⟨l, s1, s2⟩ := l16_6_spec hp p.C.length 0 _ rfl (by omega) OI_zero
    refine ⟨l, ?_, s2⟩
    have hi' : l16_0 (p.C.length, (p.C.length : Int), 0, p.W, p.H, p.C, List.replicate p.C.length 0, ()) = _ := hi
    have s1' : l16_6 (p.C.length, 0, p.C, (p.C.length : Int), 0, p.W, p.H, p.C, List.replicate p.C.length (-1), ()) = some (p.C.length, l, ()) := s1
    have c1 : (p.C.length : Int) * 8 ≤ 140737488355328 := by omega
    have c2 : (p.C.length : Int) ≤ 140737488355328 := by omega
    rw [hv.1, hv.2] at h20
    simp only [if_true] at h20
    unfold f16
    simp only [h20, Option.bind_some, bne_self_eq_false, cond_false, Int.le_refl, c1, c2, decide_true, Bool.and_self, cond_true, Int.toNat_natCast, hi', s1']
  · have hb' : p.bld = false := by simpa using hb
    refine .inr ⟨hb', ?_⟩
    have e : (if p.vld = true then if p.known = true then (0 : Int) else 3 else 1) = (if p.vld = true then 3 else 1) := by
      unfold Pl.bld at hb'
      cases h1 : p.vld <;> cases h2 : p.known <;> simp [h1, h2] at hb' ⊢
    rw [e] at h20
    have q : ((if p.vld = true then (3 : Int) else 1) != 0) = true := by cases p.vld <;> rfl
    unfold f16
    simp only [h20, Option.bind_some, q, cond_true]
end Go.AE
