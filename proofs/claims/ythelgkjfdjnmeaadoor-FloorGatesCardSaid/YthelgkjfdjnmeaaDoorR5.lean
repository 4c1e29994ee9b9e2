/-
  FloorGates.
-/
import Derived.Test.YthelgkjfdjnmeaaDoorR3
namespace Go.AE
open Go.Proofs Go.RowKit
set_option maxRecDepth 100000

theorem f28_mod (q : Int) {m : Int} (h0 : 0 < m) (h1 : m ≤ 1000) : f28 (q, m, ()) = some (q % m, ()) := by
  have q0 : (m == 0) = false := by rw [beq_eq_false_iff_ne]; omega
  have e := Int.tmod_add_mul_tdiv q m
  have t1 := Int.tmod_lt_of_pos q h0
  have t2 : -m < q.tmod m := by
    have := Int.tmod_lt_of_pos (-q) h0
    rw [Int.neg_tmod] at this
    omega
  have k : q % m = q.tmod m % m := by
    conv => lhs; rw [← e]
    rw [Int.add_mul_emod_self_left]
  unfold f28
  simp only [q0, cond_false]
  by_cases c : q.tmod m < 0
  · have w : IntKind.i64.wrap (q.tmod m + m) = q % m := by
      rw [w64 (by omega) (by omega), k, ← Int.add_emod_right, Int.emod_eq_of_lt (by omega) (by omega)]
    simp only [c, decide_true, cond_true, j28_13, Option.bind_some, w]
  · have w : q.tmod m = q % m := by rw [k, Int.emod_eq_of_lt (by omega) t1]
    simp only [c, decide_false, cond_false, j28_13, Option.bind_some]
    rw [w]


section
variable {p : Pl}

open Classical in
/-- What is asked of a gate. -/
theorem j11_58_spec (hI : Pl.MI p []) {y x : Int} {c d : Pt} (hc : p.free c) (hg : Pl.gat c) (hd : d ∈ Pl.four) (ho : Pl.odd2 (Pl.add c d)) :
    j11_58 (p.W, p.H, y, x, p.W, p.H, p.C, p.W, p.H, p.C.length, (Pl.add c d).X, (Pl.add c d).Y, (Pl.add c (Pl.neg d)).X, (Pl.add c (Pl.neg d)).Y, p.C.set (p.ix c) 2, ()) = some (.inr (p.W, p.H, y, x, p.W, p.H, p.C, ())) := by
  have hp := hI.ok
  have hd4 := Pl.four_or hd
  have a1 : (Pl.add c d).X = c.X + d.X ∧ (Pl.add c d).Y = c.Y + d.Y := ⟨rfl, rfl⟩
  have a2 : (Pl.add c (Pl.neg d)).X = c.X - d.X ∧ (Pl.add c (Pl.neg d)).Y = c.Y - d.Y := ⟨rfl, rfl⟩
  have o1 := ho.1
  have o2 := ho.2
  have ho2 : Pl.odd2 (Pl.add c (Pl.neg d)) := by unfold Pl.odd2; omega
  have fa := hI.gate c d hc hd ho
  have fb := hI.gate c (Pl.neg d) hc (Pl.neg_four hd) ho2
  have s1 := f24_spec p hp.few (Pl.add c d) (Pl.add c (Pl.neg d))
  have ok2 : (p.put c 2).Ok := Pl.put_ok hp (by omega)
  have s2 := f24_spec (p.put c 2) ok2.few (Pl.add c d) (Pl.add c (Pl.neg d))
  rw [decide_eq_true ⟨MI_bld hI, (hI.conn _ fa).symm.trans (hI.conn _ fb)⟩] at s1
  rw [decide_eq_false (fun h => hI.sep c d hc hg hd ho h.2)] at s2
  have s2' : f24 (p.W, p.H, p.C.set (p.ix c) 2, (Pl.add c d).X, (Pl.add c d).Y, (Pl.add c (Pl.neg d)).X, (Pl.add c (Pl.neg d)).Y, ()) = some (false, ()) := s2
  have t1 : List.take p.C.length (p.C.set (p.ix c) 2) = p.C.set (p.ix c) 2 := List.take_of_length_le (by simp)
  unfold j11_58
  simp only [s1, Option.bind_some, Bool.not_true, cond_false, Nat.zero_add, List.length_set, Nat.le_refl, decide_true, cond_true, List.drop_zero, t1, s2']

theorem r11_6_spec (hI : Pl.MI p []) {c : Pt} (hc : p.inP c) (h1 : 1 ≤ c.X) (h2 : c.X ≤ p.W - 2) :
    r11_6 (p.W, p.H, c.Y, c.X, p.W, p.H, p.C, ()) = some (.inl (p.W, p.H, c.Y, c.X + 1, p.W, p.H, p.C, ())) := by
  have hp := hI.ok
  have hw2 := hp.w2
  have hh2 := hp.h2
  have hfew := hp.few
  have hin := hc
  unfold Pl.inP at hin
  have w0 : IntKind.i64.wrap (p.W - 1) = p.W - 1 := w64 (by omega) (by omega)
  have w1 : IntKind.i64.wrap (c.X + 1) = c.X + 1 := w64 (by omega) (by omega)
  have w2 : IntKind.i64.wrap (c.X - 1) = c.X - 1 := w64 (by omega) (by omega)
  have w3 : IntKind.i64.wrap (c.Y + 1) = c.Y + 1 := w64 (by omega) (by omega)
  have w4 : IntKind.i64.wrap (c.Y - 1) = c.Y - 1 := w64 (by omega) (by omega)
  have w5 : IntKind.i64.wrap (c.X + c.Y) = c.X + c.Y := w64 (by omega) (by omega)
  have c1 : c.X < p.W - 1 := by omega
  have e1 : (c.X + c.Y).tmod 2 = (c.X + c.Y) % 2 := Int.tmod_eq_emod_of_nonneg (by omega)
  have e2 : c.Y.tmod 2 = c.Y % 2 := Int.tmod_eq_emod_of_nonneg (by omega)
  have hix := Pl.ix_lt hp hc
  have i0 : (0 : Int) ≤ ((p.ix c : Nat) : Int) := by omega
  have i1 : ((p.ix c : Nat) : Int) < (p.C.length : Int) := by omega
  have ro : roomy p.C.length 1 = true := roomy_ok (by omega)
  unfold r11_6
  simp only [w0, c1, decide_true, cond_true, w5, e1, j11_37, Option.bind_some, w1, ix_w hp hc, idxO_nat, cell_get hp hc]
  by_cases hg : Pl.gat c
  · have g0 : ((c.X + c.Y) % 2 == 0) = false := by unfold Pl.gat at hg; rw [hg]; rfl
    simp only [g0, cond_false]
    by_cases hf : p.free c
    · have f0 : (p.C.getD (p.ix c) 0 != 1) = false := by rw [hf.2]; rfl
      simp only [f0, cond_false, Nat.zero_add, ro, cond_true, i0, i1, decide_true, Bool.and_self, Int.toNat_natCast, List.nil_append, cell_get hp hc, Option.bind_some, e2, w2, w3, w4]
      by_cases y0 : c.Y % 2 = 0
      · have b0 : (c.Y % 2 == 0) = true := by rw [y0]; rfl
        have ho : Pl.odd2 (Pl.add c ⟨0, -1⟩) := by unfold Pl.odd2 Pl.gat at *; simp only [Pl.add]; omega
        have key := j11_58_spec (y := c.Y) (x := c.X) hI hf hg (d := ⟨0, -1⟩) (by decide) ho
        have k1 : (Pl.add c ⟨0, -1⟩).X = c.X := by simp only [Pl.add]; omega
        have k2 : (Pl.add c ⟨0, -1⟩).Y = c.Y - 1 := by simp only [Pl.add]; omega
        have k3 : (Pl.add c (Pl.neg ⟨0, -1⟩)).X = c.X := by simp only [Pl.add, Pl.neg]; omega
        have k4 : (Pl.add c (Pl.neg ⟨0, -1⟩)).Y = c.Y + 1 := by simp only [Pl.add, Pl.neg]; omega
        rw [k1, k2, k3, k4] at key
        simp only [b0, cond_true, key, Option.bind_some, Sum.elim_inr, w1]
      · have b0 : (c.Y % 2 == 0) = false := by simpa using y0
        have ho : Pl.odd2 (Pl.add c ⟨-1, 0⟩) := by unfold Pl.odd2 Pl.gat at *; simp only [Pl.add]; omega
        have key := j11_58_spec (y := c.Y) (x := c.X) hI hf hg (d := ⟨-1, 0⟩) (by decide) ho
        have k1 : (Pl.add c ⟨-1, 0⟩).X = c.X - 1 := by simp only [Pl.add]; omega
        have k2 : (Pl.add c ⟨-1, 0⟩).Y = c.Y := by simp only [Pl.add]; omega
        have k3 : (Pl.add c (Pl.neg ⟨-1, 0⟩)).X = c.X + 1 := by simp only [Pl.add, Pl.neg]; omega
        have k4 : (Pl.add c (Pl.neg ⟨-1, 0⟩)).Y = c.Y := by simp only [Pl.add, Pl.neg]; omega
        rw [k1, k2, k3, k4] at key
        simp only [b0, cond_false, key, Option.bind_some, Sum.elim_inr, w1]
    · have f0 : (p.C.getD (p.ix c) 0 != 1) = true := by
        simp only [bne_iff_ne, ne_eq]
        exact fun e => hf ⟨hc, e⟩
      simp only [f0, cond_true]
  · have g0 : ((c.X + c.Y) % 2 == 0) = true := by unfold Pl.gat at hg; simp only [beq_iff_eq]; omega
    simp only [g0, cond_true]

theorem l11_6_spec (hI : Pl.MI p []) {y : Int} (hy : 0 ≤ y ∧ y < p.H) : l11_6 (p.W, p.H, y, 1, p.W, p.H, p.C, ()) = some (.inr (p.W, p.H, y, p.W, p.H, p.C, ())) := by
  have how := hI.ow
  have hw2 := hI.ok.w2
  have w0 : IntKind.i64.wrap (p.W - 1) = p.W - 1 := w64 (by omega) (by omega)
  have hs := scan (f := r11_6) (fun k => (p.W, p.H, y, k, p.W, p.H, p.C, ())) (fun _ => False) (p.W, p.H, y, p.W, p.H, p.C, ()) (p.W - 2) _ 1 rfl (by omega)
    (fun _ _ _ hb => hb.elim)
    (fun k k1 k2 _ => r11_6_spec hI (c := ⟨k, y⟩) (by unfold Pl.inP; simp only; omega) k1 k2)
    (by
      have c1 : ¬ (p.W - 2 + 1) < p.W - 1 := by omega
      unfold r11_6
      simp only [w0, c1, decide_false, cond_false])
  rw [if_neg (by rintro ⟨_, _, _, hb⟩; exact hb)] at hs
  exact hs

theorem l11_0_spec (hI : Pl.MI p []) : l11_0 (p.W, p.H, 1, p.W, p.H, p.C, ()) = some (.inr ()) := by
  have how := hI.ow
  have hh2 := hI.ok.h2
  have w0 : IntKind.i64.wrap (p.H - 1) = p.H - 1 := w64 (by omega) (by omega)
  have hs := scan (f := r11_0) (fun k => (p.W, p.H, k, p.W, p.H, p.C, ())) (fun _ => False) () (p.H - 2) _ 1 rfl (by omega)
    (fun _ _ _ hb => hb.elim)
    (fun k k1 k2 _ => by
      have c1 : k < p.H - 1 := by omega
      have w1 : IntKind.i64.wrap (k + 1) = k + 1 := w64 (by omega) (by omega)
      unfold r11_0
      simp only [w0, c1, decide_true, cond_true, l11_6_spec hI (y := k) (by omega), Option.bind_some, Sum.elim_inr, w1])
    (by
      have c1 : ¬ (p.H - 2 + 1) < p.H - 1 := by omega
      unfold r11_0
      simp only [w0, c1, decide_false, cond_false])
  rw [if_neg (by rintro ⟨_, _, _, hb⟩; exact hb)] at hs
  exact hs
end

theorem floorGates_plain (x : Int × Int × Int × Unit) : f11 x = some (true, ()) := by
  obtain ⟨w, h, seed, ⟨⟩⟩ := x
  have a1 := Int.emod_nonneg w (show (5 : Int) ≠ 0 by omega)
  have a2 := Int.emod_lt_of_pos w (show (0 : Int) < 5 by omega)
  have b1 := Int.emod_nonneg h (show (5 : Int) ≠ 0 by omega)
  have b2 := Int.emod_lt_of_pos h (show (0 : Int) < 5 by omega)
  have w1 : IntKind.i64.wrap (2 * (w % 5)) = 2 * (w % 5) := w64 (by omega) (by omega)
  have w2 : IntKind.i64.wrap (3 + 2 * (w % 5)) = 3 + 2 * (w % 5) := w64 (by omega) (by omega)
  have w3 : IntKind.i64.wrap (2 * (h % 5)) = 2 * (h % 5) := w64 (by omega) (by omega)
  have w4 : IntKind.i64.wrap (3 + 2 * (h % 5)) = 3 + 2 * (h % 5) := w64 (by omega) (by omega)
  obtain ⟨q, q1, q2, q3, q4⟩ := (f31_spec (3 + 2 * (w % 5)) (3 + 2 * (h % 5)) seed).2 (by omega)
  have hlen := q1.ok.len
  have hfew := q1.ok.few
  have t3 := l11_0_spec q1
  rw [q2, q3] at t3 hlen
  have w5 : IntKind.i64.wrap ((3 + 2 * (w % 5)) * (3 + 2 * (h % 5))) = (q.C.length : Int) := by rw [← hlen, w64 (by omega) (by omega)]
  unfold f11
  simp only [f12_spec, Option.bind_some, Bool.not_true, cond_false, f28_mod w (m := 5) (by omega) (by omega), f28_mod h (m := 5) (by omega) (by omega), w1, w2, w3, w4, q4, bne_self_eq_false, w5, t3, Sum.elim_inr]
end Go.AE
