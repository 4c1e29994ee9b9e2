/-
  FloorMazes.
-/
import Derived.Test.YthelgkjfdjnmeaaDoorR3
namespace Go.AE
open Go.Proofs Go.RowKit
set_option maxRecDepth 100000

section
variable {p : Pl} {h seed W H : Int}

def cO (p : Pl) (n : Nat) : Nat := Pl.cnt (fun i => decide (Pl.odd2 (p.cellOf i))) n
def cG (p : Pl) (n : Nat) : Nat := Pl.cnt (fun i => decide (Pl.gat (p.cellOf i) ∧ p.free (p.cellOf i))) n
theorem cnt_le (P : Nat → Bool) : ∀ n, Pl.cnt P n ≤ n
  | 0 => Nat.le_refl _
  | n + 1 => by
    have := cnt_le P n
    rw [Pl.cnt_succ]
    split <;> omega

theorem val_one {p : Pl} (c : Pt) (hc : p.inP c) : (p.C.getD (p.ix c) 0 == 1) = decide (p.free c) := by
  by_cases h : p.free c
  · rw [decide_eq_true h]
    simpa using h.2
  · rw [decide_eq_false h]
    simp only [beq_eq_false_iff_ne, ne_eq]
    exact fun e => h ⟨hc, e⟩

theorem r10_6_spec (hI : Pl.MI p []) {c : Pt} (hc : p.inP c) {ch ga : Nat} (h1 : ch ≤ 5000) (h2 : ga ≤ 5000) :
    r10_6 (p.W, h, seed, (ch : Int), (ga : Int), c.Y, c.X, W, H, p.C, ()) =
      some (.inl (p.W, h, seed, ((ch + (if decide (Pl.odd2 c) = true then 1 else 0) : Nat) : Int), ((ga + (if decide (Pl.gat c ∧ p.free c) = true then 1 else 0) : Nat) : Int), c.Y, c.X + 1, W, H, p.C, ())) := by
  have hp := hI.ok
  have hw2 := hp.w2
  have hh2 := hp.h2
  have hin := hc
  unfold Pl.inP at hin
  have c1 : c.X < p.W := hin.2.1
  have w1 : IntKind.i64.wrap (c.X + 1) = c.X + 1 := w64 (by omega) (by omega)
  have w2 : IntKind.i64.wrap ((ch : Int) + 1) = ((ch + 1 : Nat) : Int) := by rw [w64 (by omega) (by omega)]; rfl
  have w3 : IntKind.i64.wrap ((ga : Int) + 1) = ((ga + 1 : Nat) : Int) := by rw [w64 (by omega) (by omega)]; rfl
  have e1 : c.X.tmod 2 = c.X % 2 := Int.tmod_eq_emod_of_nonneg (by omega)
  have e2 : c.Y.tmod 2 = c.Y % 2 := Int.tmod_eq_emod_of_nonneg (by omega)
  unfold r10_6
  simp only [c1, decide_true, cond_true, ix_w hp hc, idxO_nat, cell_get hp hc, Option.bind_some, e1, e2, val_one c hc, j10_43, w1, w2, w3]
  by_cases x1 : c.X % 2 = 1
  · have x0 : ¬ c.X % 2 = 0 := by omega
    by_cases y1 : c.Y % 2 = 1
    · have hf : p.free c := hI.chamber hc ⟨x1, y1⟩
      have ho : Pl.odd2 c := ⟨x1, y1⟩
      have hg : ¬ Pl.gat c := by unfold Pl.gat; omega
      simp only [x1, y1, hf, ho, hg, beq_self_eq_true, cond_true, decide_true, Bool.not_true, cond_false, if_true, false_and, decide_false, Bool.false_eq_true, if_false, Nat.add_zero]
    · have y0 : c.Y % 2 = 0 := by omega
      have ho : ¬ Pl.odd2 c := fun ho => y1 ho.2
      have hg : Pl.gat c := by unfold Pl.gat; omega
      have b1 : ((0 : Int) == 1) = false := by decide
      have b2 : ((1 : Int) == 0) = false := by decide
      by_cases hf : p.free c
      · simp only [x1, y0, hf, ho, hg, b1, b2, beq_self_eq_true, cond_true, decide_true, cond_false, if_true, and_self, decide_false, Bool.false_eq_true, if_false, Nat.add_zero]
      · simp only [x1, y0, hf, ho, b1, b2, beq_self_eq_true, cond_true, cond_false, and_false, decide_false, Bool.false_eq_true, if_false, Nat.add_zero]
  · have x0 : c.X % 2 = 0 := by omega
    have b1 : ((0 : Int) == 1) = false := by decide
    have b2 : ((1 : Int) == 0) = false := by decide
    have ho : ¬ Pl.odd2 c := fun ho => x1 ho.1
    by_cases y1 : c.Y % 2 = 1
    · have hg : Pl.gat c := by unfold Pl.gat; omega
      by_cases hf : p.free c
      · simp only [x0, y1, hf, ho, hg, b1, b2, beq_self_eq_true, cond_true, decide_true, cond_false, if_true, and_self, decide_false, Bool.false_eq_true, if_false, Nat.add_zero]
      · simp only [x0, y1, hf, ho, b1, b2, beq_self_eq_true, cond_true, cond_false, and_false, decide_false, Bool.false_eq_true, if_false, Nat.add_zero]
    · have y0 : c.Y % 2 = 0 := by omega
      have hf : ¬ p.free c := fun hf => by have := (hI.kind c hf).1; omega
      simp only [x0, y0, hf, ho, b1, beq_self_eq_true, cond_true, cond_false, and_false, decide_false, Bool.false_eq_true, if_false, Nat.add_zero]

theorem l10_6_spec (hI : Pl.MI p []) {y : Nat} (hy : (y : Int) < p.H) :
    l10_6 (p.W, h, seed, (cO p (y * p.W.toNat) : Int), (cG p (y * p.W.toNat) : Int), (y : Int), 0, W, H, p.C, ()) = some (.inr (p.W, h, seed, (cO p ((y + 1) * p.W.toNat) : Int), (cG p ((y + 1) * p.W.toNat) : Int), (y : Int), W, H, p.C, ())) := by
  have hp := hI.ok
  have hw1 := hp.w1
  obtain ⟨w, hw⟩ : ∃ w : Nat, p.W = w := ⟨p.W.toNat, by omega⟩
  have hww : p.W.toNat = w := by omega
  have hin : ∀ k : Nat, k < w → p.inP ⟨k, y⟩ := fun k hk => by unfold Pl.inP; simp only; omega
  have hix : ∀ k : Nat, k < w → p.ix ⟨k, y⟩ = y * w + k := fun k hk => by
    have h1 := Pl.ix_val (hin k hk)
    simp only [hw] at h1
    have h2 : (y : Int) * (w : Int) = ((y * w : Nat) : Int) := (Int.natCast_mul y w).symm
    omega
  have hcell : ∀ k : Nat, k < w → p.cellOf (y * w + k) = ⟨k, y⟩ := fun k hk => by rw [← hix k hk]; exact Pl.cell_ix hp (hin k hk)
  have hlt : ∀ k : Nat, k < w → y * w + k < p.C.length := fun k hk => by rw [← hix k hk]; exact Pl.ix_lt hp (hin k hk)
  have hfew := hp.few
  have hs := scan (f := r10_6) (fun k => (p.W, h, seed, (cO p (y * w + k.toNat) : Int), (cG p (y * w + k.toNat) : Int), (y : Int), k, W, H, p.C, ())) (fun _ => False) (p.W, h, seed, (cO p ((y + 1) * w) : Int), (cG p ((y + 1) * w) : Int), (y : Int), W, H, p.C, ()) ((w : Int) - 1) w 0 (by omega) (by omega)
    (fun _ _ _ hb => hb.elim)
    (fun k k1 k2 _ => by
      obtain ⟨i, rfl⟩ : ∃ i : Nat, k = i := ⟨k.toNat, by omega⟩
      have hi : i < w := by omega
      have l1 := hlt i hi
      have b1 := cnt_le (fun i => decide (Pl.odd2 (p.cellOf i))) (y * w + i)
      have b2 := cnt_le (fun i => decide (Pl.gat (p.cellOf i) ∧ p.free (p.cellOf i))) (y * w + i)
      have key := r10_6_spec (h := h) (seed := seed) (W := W) (H := H) hI (hin i hi) (ch := cO p (y * w + i)) (ga := cG p (y * w + i)) (by unfold cO; omega) (by unfold cG; omega)
      have e1 : cO p (y * w + (i + 1)) = cO p (y * w + i) + (if decide (Pl.odd2 ⟨i, y⟩) = true then 1 else 0) := by
        unfold cO
        rw [← Nat.add_assoc, Pl.cnt_succ, hcell i hi]
      have e2 : cG p (y * w + (i + 1)) = cG p (y * w + i) + (if decide (Pl.gat ⟨i, y⟩ ∧ p.free ⟨i, y⟩) = true then 1 else 0) := by
        unfold cG
        rw [← Nat.add_assoc, Pl.cnt_succ, hcell i hi]
      have e3 : ((i : Int) + 1).toNat = i + 1 := by omega
      simp only [Int.toNat_natCast, e3, e1, e2]
      exact key)
    (by
      have c1 : ¬ ((w : Int) - 1 + 1) < p.W := by omega
      have e3 : ((w : Int) - 1 + 1).toNat = w := by omega
      have e4 : y * w + w = (y + 1) * w := by rw [Nat.add_mul, Nat.one_mul]
      unfold r10_6
      simp only [c1, decide_false, cond_false, e3, e4])
  rw [if_neg (by rintro ⟨_, _, _, hb⟩; exact hb)] at hs
  rw [hww]
  exact hs

theorem l10_0_spec (hI : Pl.MI p []) :
    l10_0 (p.W, p.H, seed, 0, 0, 0, W, H, p.C, ()) = some (.inr (p.W, p.H, seed, (p.cN : Int), (p.gN : Int), W, H, p.C, ())) := by
  have hp := hI.ok
  have hw1 := hp.w1
  have hh1 := hp.h1
  have hh2 := hp.h2
  obtain ⟨v, hv⟩ : ∃ v : Nat, p.H = v := ⟨p.H.toNat, by omega⟩
  obtain ⟨w, hw⟩ : ∃ w : Nat, p.W = w := ⟨p.W.toNat, by omega⟩
  have hww : p.W.toNat = w := by omega
  have hlen : v * w = p.C.length := by
    have := hp.len
    rw [hw, hv, Int.mul_comm] at this
    have h2 : (v : Int) * (w : Int) = ((v * w : Nat) : Int) := (Int.natCast_mul v w).symm
    omega
  have eO : cO p p.C.length = p.cN := by
    unfold cO Pl.cN
    refine Pl.cnt_congr _ fun i hi => ?_
    rw [Bool.eq_iff_iff, decide_eq_true_iff, decide_eq_true_iff]
    exact ⟨fun ho => ⟨ho, hI.chamber (Pl.cellOf_in hp hi) ho⟩, fun hh => hh.1⟩
  have eG : cG p p.C.length = p.gN := rfl
  have hs := scan (f := r10_0) (fun k => (p.W, p.H, seed, (cO p (k.toNat * w) : Int), (cG p (k.toNat * w) : Int), k, W, H, p.C, ())) (fun _ => False) (p.W, p.H, seed, (p.cN : Int), (p.gN : Int), W, H, p.C, ()) ((v : Int) - 1) v 0 (by omega) (by omega)
    (fun _ _ _ hb => hb.elim)
    (fun k k1 k2 _ => by
      obtain ⟨i, rfl⟩ : ∃ i : Nat, k = i := ⟨k.toNat, by omega⟩
      have c1 : (i : Int) < p.H := by omega
      have key := l10_6_spec (h := p.H) (seed := seed) (W := W) (H := H) hI c1
      rw [hww] at key
      have e3 : ((i : Int) + 1).toNat = i + 1 := by omega
      have w1 : IntKind.i64.wrap ((i : Int) + 1) = (i : Int) + 1 := w64 (by omega) (by omega)
      unfold r10_0
      simp only [c1, decide_true, cond_true, Int.toNat_natCast, key, Option.bind_some, Sum.elim_inr, w1, e3])
    (by
      have c1 : ¬ ((v : Int) - 1 + 1) < p.H := by omega
      have e3 : ((v : Int) - 1 + 1).toNat = v := by omega
      unfold r10_0
      simp only [c1, decide_false, cond_false, e3, hlen, eO, eG])
  rw [if_neg (by rintro ⟨_, _, _, hb⟩; exact hb)] at hs
  have z : ((0 : Int).toNat * w) = 0 := by simp
  simp only [z] at hs
  exact hs

theorem l10_15_spec {w ch ga : Int} (hI : Pl.MI p []) {l : List Int} (hl : Pl.IsRooms p l) :
    l10_15 (w, h, seed, ch, ga, p.C.length, 0, W, H, p.C, l, ()) = some (.inr (w, h, seed, ch, ga, W, H, p.C, ())) := by
  have hp := hI.ok
  have hfew := hp.few
  have hs := scan (f := r10_15) (fun k => (w, h, seed, ch, ga, p.C.length, k, W, H, p.C, l, ())) (fun _ => False) (w, h, seed, ch, ga, W, H, p.C, ()) ((p.C.length : Int) - 1) p.C.length 0 (by omega) (by omega)
    (fun _ _ _ hb => hb.elim)
    (fun k k1 k2 _ => by
      obtain ⟨i, rfl⟩ : ∃ i : Nat, k = i := ⟨k.toNat, by omega⟩
      have hi : i < p.C.length := by omega
      have c1 : (i : Int) < (p.C.length : Int) := by omega
      have c2 : (0 : Int) ≤ (i : Int) := by omega
      have w1 : IntKind.i64.wrap ((i : Int) + 1) = (i : Int) + 1 := w64 (by omega) (by omega)
      have g1 := MI_rooms hI hl hi
      have hin := Pl.cellOf_in hp hi
      have g2 : p.C[i]? = some (p.C.getD (p.ix (p.cellOf i)) 0) := by
        have := cell_get hp hin
        rwa [Pl.ix_cellOf hp] at this ⊢
      have g3 := val_one (p.cellOf i) hin
      by_cases hf : p.free (p.cellOf i)
      · rw [if_pos hf] at g1
        rw [decide_eq_true hf] at g3
        unfold r10_15
        simp only [c1, c2, decide_true, Bool.and_self, cond_true, Int.toNat_natCast, Nat.zero_add, g1, Option.bind_some, idxO_nat, g2, g3, w1]
        rfl
      · rw [if_neg hf] at g1
        rw [decide_eq_false hf] at g3
        unfold r10_15
        simp only [c1, c2, decide_true, Bool.and_self, cond_true, Int.toNat_natCast, Nat.zero_add, g1, Option.bind_some, idxO_nat, g2, g3, w1]
        rfl)
    (by
      have c1 : ¬ ((p.C.length : Int) - 1 + 1) < (p.C.length : Int) := by omega
      unfold r10_15
      simp only [c1, decide_false, cond_false])
  rw [if_neg (by rintro ⟨_, _, _, hb⟩; exact hb)] at hs
  exact hs
end

theorem f19_self (a b : Int) (l : List Int) : f19 a b l a b l = true := by simp [f19]

open Classical in
theorem floorMazes_plain (x : Int × Int × Int × Unit) : f10 x = some (true, ()) := by
  obtain ⟨w, h, seed, ⟨⟩⟩ := x
  obtain ⟨s1, s2⟩ := f31_spec w h seed
  unfold f10
  simp only [f12_spec, Option.bind_some, Bool.not_true, cond_false]
  by_cases hr : w % 2 = 1 ∧ 3 ≤ w ∧ w ≤ 63 ∧ h % 2 = 1 ∧ 3 ≤ h ∧ h ≤ 63
  · obtain ⟨q, q1, q2, q3, q4⟩ := s2 hr
    have c1 : ¬ w < 3 := by omega
    have c2 : ¬ w > 63 := by omega
    have c3 : ¬ h < 3 := by omega
    have c4 : ¬ h > 63 := by omega
    have e1 : w.tmod 2 = w % 2 := Int.tmod_eq_emod_of_nonneg (by omega)
    have e2 : h.tmod 2 = h % 2 := Int.tmod_eq_emod_of_nonneg (by omega)
    have b1 : (w.tmod 2 == 0) = false := by rw [e1, hr.1]; rfl
    have b2 : (h.tmod 2 == 0) = false := by rw [e2, hr.2.2.2.1]; rfl
    have hfew := q1.ok.few
    have t1 := f32_spec (p := q) (by omega)
    have t2 := f23_spec q hfew
    rw [MI_bld q1, q2, q3] at t1
    rw [decide_eq_true (MI_solid q1), q2, q3] at t2
    have t3 := l10_0_spec (seed := seed) (W := w) (H := h) q1
    rw [q2, q3] at t3
    obtain ⟨_, _, l, t4, t5⟩ | ⟨t4, _⟩ := f16_spec (p := q) hfew
    · rw [q2, q3] at t4
      have t6 := l10_15_spec (w := w) (h := h) (seed := seed) (W := w) (H := h) (ch := (q.cN : Int)) (ga := (q.gN : Int)) q1 t5
      have hnum := q1.num
      have hle := cnt_le (fun i => decide (Pl.odd2 (q.cellOf i) ∧ q.free (q.cellOf i))) q.C.length
      have hcn : q.cN ≤ 4096 := by unfold Pl.cN; omega
      have w1 : IntKind.i64.wrap ((q.cN : Int) - 1) = (q.gN : Int) := by rw [w64 (by omega) (by omega)]; omega
      simp only [q4, Option.bind_some, c1, c2, c3, c4, decide_false, cond_false, b1, b2, bne_self_eq_false, t1, Bool.not_true, t2, t3, Sum.elim_inr, t4, t6, w1, beq_self_eq_true, cond_true, f19_self]
    · rw [MI_bld q1] at t4
      cases t4
  · have s1 := s1 hr
    simp only [s1, Option.bind_some, beq_self_eq_true, cond_true, List.length_nil, Int.natCast_zero]
    by_cases c1 : w < 3
    · simp only [c1, decide_true, cond_true]
    · by_cases c2 : w > 63
      · simp only [c1, c2, decide_true, decide_false, cond_true, cond_false]
      · by_cases c3 : h < 3
        · simp only [c1, c2, c3, decide_true, decide_false, cond_true, cond_false]
        · by_cases c4 : h > 63
          · simp only [c1, c2, c3, c4, decide_true, decide_false, cond_true, cond_false]
          · have e1 : w.tmod 2 = w % 2 := Int.tmod_eq_emod_of_nonneg (by omega)
            have e2 : h.tmod 2 = h % 2 := Int.tmod_eq_emod_of_nonneg (by omega)
            by_cases b1 : w % 2 = 0
            · have b1' : (w.tmod 2 == 0) = true := by rw [e1, b1]; rfl
              simp only [c1, c2, c3, c4, b1', decide_false, cond_true, cond_false]
            · have b1' : (w.tmod 2 == 0) = false := by rw [e1]; simpa using b1
              have b2' : (h.tmod 2 == 0) = true := by rw [e2]; simp; omega
              simp only [c1, c2, c3, c4, b1', b2', decide_false, cond_true, cond_false]
end Go.AE
