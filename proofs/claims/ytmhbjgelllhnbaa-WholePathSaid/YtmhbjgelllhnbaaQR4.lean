/-
  The chapter Repair, part 4: costs that no longer hold.
-/
import Derived.Test.YtmhbjgelllhnbaaQR3
namespace Go.AE
open Go.Proofs Go.RowKit
set_option maxRecDepth 100000

theorem lsum_all (f : Int → Nat) (m : Nat) : ∀ l : List Int, (∀ x ∈ l, f x ≤ m) → lsum f l ≤ m * l.length
  | [], _ => by simp [lsum]
  | x :: l, h => by
    have h1 := lsum_all f m l (fun y hy => h y (List.mem_cons_of_mem _ hy))
    have h2 := h x (List.mem_cons_self ..)
    simp only [lsum, List.map_cons, List.sum_cons, List.length_cons] at h1 ⊢
    rw [Nat.mul_add]
    omega

theorem mem_g {p : Pl} (hp : p.Ok) {l : List Int} (hl : l.length = p.C.length) {x : Int} (hx : x ∈ l) : ∃ c, p.inP c ∧ p.g l c = x := by
  obtain ⟨i, hi, rfl⟩ := List.getElem_of_mem hx
  refine ⟨p.cellOf i, Pl.cellOf_in hp (by omega), ?_⟩
  unfold Pl.g
  rw [Pl.ix_cellOf hp]
  simp [hi]

theorem rmu_le {p : Pl} (hp : p.Ok) {l : List Int} (hl : l.length = p.C.length) (h : ∀ c, p.inP c → p.g l c ≤ 39600) (Q : List Pt) : Pl.rmu l Q ≤ 40000000 + Q.length := by
  have h1 := lsum_all (fun x => if 0 ≤ x then x.toNat else 50000) 50000 l (fun x hx => by
    obtain ⟨c, h1, h2⟩ := mem_g hp hl hx
    have := h c h1
    split <;> omega)
  have h2 := hp.few
  unfold Pl.rmu
  have : 50000 * l.length ≤ 50000 * 400 := Nat.mul_le_mul_left _ (by omega)
  omega

theorem j40_16_spec {p : Pl} (hp : p.Ok) {l : List Int} (hl : l.length = p.C.length) {v : Pt} (hv : p.inP v) {gx gy : Int} {off n m : Nat} {ob bd : List Pt} (hob : off + n ≤ ob.length) (hbd : m ≤ bd.length) (hn : n ≤ 100000) (hm : m ≤ 100000) :
    ∃ A, Pl.Ar p v A ∧ j40_16 (off, n, m, p.C, l, p.W, p.H, p.C.length, gx, gy, p.C.length, ob, bd, v.X, v.Y, ()) =
      some (n + A.length, m + A.length, p.C, l.set (p.ix v) (-1), p.W, p.H, p.C.length, gx, gy, p.C.length, (ob.drop off).take n ++ A, bd.take m ++ A, ()) := by
  obtain ⟨k, ar, a1, a2, a3⟩ := f39_spec hp hv
  refine ⟨ar.take k, a3, ?_⟩
  have hk := a3.few
  have z1 : (p.C.length ≤ p.C.length) = True := by simp
  have z2 : (p.C.length ≤ l.length) = True := by simp [hl]
  have z3 : (k ≤ ar.length) = True := by simp [a2]
  have z4 : (off + n ≤ ob.length) = True := by simp [hob]
  have z5 : (m ≤ bd.length) = True := by simp [hbd]
  have tl : List.take p.C.length l = l := List.take_of_length_le (by omega)
  have tc : List.take p.C.length p.C = p.C := by simp
  have hix := f37_spec hp hv l gx gy
  obtain ⟨b1, b2⟩ := ix_in hp rfl hv
  have g1 : l[p.ix v]? = some (p.g l v) := g_get hp hl hv
  have r1 : roomy (n + (ar.take k).length) 16 = true := roomy_ok (by omega)
  have r2 : roomy (m + (ar.take k).length) 16 = true := roomy_ok (by omega)
  unfold j40_16
  simp only [Nat.zero_add, List.drop_zero, z1, z2, z3, z4, z5, tl, tc, hix, b1, b2, g1, decide_true, Bool.and_self, cond_true, Int.toNat_natCast, Option.bind_some, a1, r1, r2]

theorem l40_0_spec {p : Pl} (hp : p.Ok) {goal : Pt} {l0 : List Int} (h0 : ∀ x, p.inP x → p.g l0 x ≤ 39600) : ∀ (t : Nat) (l : List Int) (off n : Nat) (ob : List Pt) (m : Nat) (bd : List Pt), Pl.kmu l ((ob.drop off).take n) = t → off + n ≤ ob.length → m ≤ bd.length →
    Pl.RK p goal l0 l ((ob.drop off).take n) (bd.take m) → t ≤ 20000 → m + 9 * cnt l ≤ 10000 →
    ∃ l' m' bd', l40_0 (off, n, m, p.C, l, p.W, p.H, p.C.length, goal.X, goal.Y, p.C.length, ob, bd, ()) = some (m', p.C, l', p.W, p.H, p.C.length, goal.X, goal.Y, p.C.length, bd', ()) ∧ m' ≤ bd'.length ∧ m' ≤ 10000 ∧ Pl.RK p goal l0 l' [] (bd'.take m') := by
  intro t
  induction t using Nat.strongRecOn with
  | _ t ih =>
    intro l off n ob m bd ht hob hbd h hmu hm
    unfold l40_0
    by_cases hn0 : n = 0
    · subst hn0
      have hr : r40_0 (off, 0, m, p.C, l, p.W, p.H, p.C.length, goal.X, goal.Y, p.C.length, ob, bd, ()) = some (.inr (m, p.C, l, p.W, p.H, p.C.length, goal.X, goal.Y, p.C.length, bd, ())) := rfl
      rw [iterO_eq, hr]
      refine ⟨l, m, bd, rfl, hbd, by omega, ?_⟩
      rw [List.take_zero] at h
      exact h
    · have hlt : off < ob.length := by omega
      have e1 : ob[off]? = some ob[off] := List.getElem?_eq_getElem hlt
      have e2 : (ob.drop off).take n = ob[off] :: (ob.drop (off + 1)).take (n - 1) := by
        obtain ⟨k, rfl⟩ : ∃ k, n = k + 1 := ⟨n - 1, by omega⟩
        rw [List.drop_eq_getElem_cons hlt, List.take_succ_cons]
        simp
      have hln : ((ob.drop (off + 1)).take (n - 1)).length = n - 1 := by rw [List.length_take, List.length_drop]; omega
      rw [e2] at h ht
      generalize ob[off] = v at *
      have hv := h.qin v (List.mem_cons_self ..)
      have hnb : n ≤ 20000 := by
        have := ht
        simp only [Pl.kmu, List.length_cons, hln] at this
        omega
      have c1 : (n : Int) > 0 := by omega
      have c3 : (1 : Int) ≤ (n : Int) := by omega
      have z1 : (0 + p.C.length ≤ p.C.length) = True := by simp
      have z2 : (0 + p.C.length ≤ l.length) = True := by simp [h.len]
      have tl : List.take p.C.length (List.drop 0 l) = l := by rw [List.drop_zero, List.take_of_length_le (by rw [h.len]; omega)]
      have tc : List.take p.C.length (List.drop 0 p.C) = p.C := by simp
      have hix := f37_spec hp hv l goal.X goal.Y
      obtain ⟨b1, b2⟩ := ix_in hp rfl hv
      have g1 : l[0 + p.ix v]? = some (p.g l v) := by rw [Nat.zero_add]; exact g_get hp h.len hv
      have g2 : p.C[0 + p.ix v]? = some (p.C.getD (p.ix v) 0) := by rw [Nat.zero_add]; exact cell_get hp hv
      have skip : (v = goal ∨ p.g l v < 0 ∨ ∃ u w, p.stp u v = some w ∧ 0 ≤ p.g l u ∧ p.g l u + w = p.g l v) →
          r40_0 (off, n, m, p.C, l, p.W, p.H, p.C.length, goal.X, goal.Y, p.C.length, ob, bd, ()) = some (.inl (off + 1, n - 1, m, p.C, l, p.W, p.H, p.C.length, goal.X, goal.Y, p.C.length, ob, bd, ())) →
          ∃ l' m' bd', iterO r40_0 (off, n, m, p.C, l, p.W, p.H, p.C.length, goal.X, goal.Y, p.C.length, ob, bd, ()) = some (m', p.C, l', p.W, p.H, p.C.length, goal.X, goal.Y, p.C.length, bd', ()) ∧ m' ≤ bd'.length ∧ m' ≤ 10000 ∧ Pl.RK p goal l0 l' [] (bd'.take m') := by
        intro hs hr
        obtain ⟨k1, k2⟩ := h.skip hs
        rw [iterO_eq, hr]
        exact ih _ (by omega) l (off + 1) (n - 1) ob m bd rfl (by omega) hbd k1 (by omega) hm
      by_cases hg : v = goal
      · refine skip (.inl hg) ?_
        have hf : p.C.getD (p.ix v) 0 = 1 := by rw [hg]; exact h.gf.2
        rw [hf] at g2
        subst hg
        unfold r40_0
        simp only [c1, c3, Int.le_refl, decide_true, Bool.and_self, cond_true, Nat.add_zero, e1, Option.bind_some, pt_eqb, z1, z2, tl, tc, hix, b1, b2, Int.toNat_natCast, g2, beq_self_eq_true]
      · by_cases q : p.g l v < 0
        · refine skip (.inr (.inl q)) ?_
          unfold r40_0
          simp only [c1, c3, Int.le_refl, decide_true, decide_false, Bool.and_self, cond_true, cond_false, Nat.add_zero, e1, Option.bind_some, pt_eqb, hg, z1, z2, tl, tc, hix, b1, b2, Int.toNat_natCast, g1, q]
        · have ht : ∀ x, p.inP x → -1 ≤ p.g l x ∧ p.g l x ≤ 39600 := fun x hx => ⟨h.rng x hx, by
            rcases h.sub x hx with e | e
            · omega
            · rw [e]; exact h0 x hx⟩
          obtain ⟨tt, t1, t2⟩ := f52_spec hp hv h.len ht goal.X goal.Y
          by_cases hh : ∃ u w, p.stp u v = some w ∧ 0 ≤ p.g l u ∧ p.g l u + w = p.g l v
          · refine skip (.inr (.inr hh)) ?_
            rw [t2.2 hh] at t1
            unfold r40_0
            simp only [c1, c3, Int.le_refl, decide_true, decide_false, Bool.and_self, cond_true, cond_false, Nat.add_zero, e1, Option.bind_some, pt_eqb, hg, z1, z2, tl, tc, hix, b1, b2, Int.toNat_natCast, g1, q, t1]
          · have tf : tt = false := by
              cases tt with
              | false => rfl
              | true => exact (hh (t2.1 rfl)).elim
            rw [tf] at t1
            obtain ⟨A, hA, hj⟩ := j40_16_spec hp h.len hv (gx := goal.X) (gy := goal.Y) (off := off + 1) (n := n - 1) (m := m) (ob := ob) (bd := bd) (by omega) hbd (by omega) (by omega)
            obtain ⟨k1, k2⟩ := h.reset hp hA hg (by omega)
            have hAl := hA.few
            have hcnt := Pl.cnt_off hp h.len hv (by omega)
            have hr : r40_0 (off, n, m, p.C, l, p.W, p.H, p.C.length, goal.X, goal.Y, p.C.length, ob, bd, ()) = some (.inl (0, n - 1 + A.length, m + A.length, p.C, l.set (p.ix v) (-1), p.W, p.H, p.C.length, goal.X, goal.Y, p.C.length, (ob.drop (off + 1)).take (n - 1) ++ A, bd.take m ++ A, ())) := by
              unfold r40_0
              simp only [c1, c3, Int.le_refl, decide_true, decide_false, Bool.and_self, cond_true, cond_false, Nat.add_zero, e1, Option.bind_some, pt_eqb, hg, z1, z2, tl, tc, hix, b1, b2, Int.toNat_natCast, g1, q, t1, hj]
            rw [iterO_eq, hr]
            have q1 : (((ob.drop (off + 1)).take (n - 1) ++ A).drop 0).take (n - 1 + A.length) = (ob.drop (off + 1)).take (n - 1) ++ A := by
              rw [List.drop_zero, List.take_of_length_le (by rw [List.length_append, hln]; omega)]
            have q2 : (bd.take m ++ A).take (m + A.length) = bd.take m ++ A := List.take_of_length_le (by rw [List.length_append, take_len0 hbd]; omega)
            exact ih (Pl.kmu (l.set (p.ix v) (-1)) ((ob.drop (off + 1)).take (n - 1) ++ A)) (by omega) (l.set (p.ix v) (-1)) 0 (n - 1 + A.length) _ (m + A.length) _ (by rw [q1]) (by rw [List.length_append, hln]; omega) (by rw [List.length_append, take_len0 hbd]; omega) (by rw [q1, q2]; exact k1) (by omega) (by omega)

/-- raise. -/
theorem f40_spec {p : Pl} (hp : p.Ok) {goal : Pt} {l : List Int} {n : Nat} {ob : List Pt} (hob : n ≤ ob.length) (hn : n ≤ 9) (h : Pl.RK p goal l l (ob.take n) []) (h0 : ∀ x, p.inP x → p.g l x ≤ 39600) :
    ∃ l', f40 (n, p.C, l, p.W, p.H, p.C.length, goal.X, goal.Y, p.C.length, ob, ()) = some (p.W, p.H, p.C.length, goal.X, goal.Y, p.C.length, p.C, l', ()) ∧ Pl.IsDist p goal l' := by
  have hc := cnt_le l
  have hf := hp.few
  have hlen := h.len
  obtain ⟨l1, m, bd, h1, h2, h3, h4⟩ := l40_0_spec hp (goal := goal) h0 _ l 0 n ob 0 [] rfl (by omega) (by simp) (by rw [List.drop_zero, List.take_zero]; exact h) (by
    rw [List.drop_zero]; unfold Pl.kmu; rw [take_len0 hob]; omega) (by omega)
  have hj := h4.done hp goal
  have htop : ∀ x, p.inP x → p.g l1 x ≤ 39600 := fun x hx => by have := hj.top2 hp hx; omega
  have hrm := rmu_le hp h4.len htop ((bd.take m).take m)
  obtain ⟨l2, k1, k2⟩ := f38_spec hp (goal := goal) (c := goal) (gx := goal.X) (gy := goal.Y) (l := l1) (n := m) (ob := bd.take m) (by rw [take_len0 h2]; omega) (by rw [List.take_take, Nat.min_self]; exact hj) (by
    rw [List.take_take, Nat.min_self] at hrm ⊢; rw [take_len0 h2] at hrm; omega)
  refine ⟨l2, ?_, k2⟩
  have z1 : (p.C.length ≤ p.C.length) = True := by simp
  have z2 : (p.C.length ≤ l1.length) = True := by simp [h4.len]
  have z3 : (m ≤ bd.length) = True := by simp [h2]
  have tl : List.take p.C.length l1 = l1 := List.take_of_length_le (by rw [h4.len]; omega)
  have tc : List.take p.C.length p.C = p.C := by simp
  unfold f40
  simp only [h1, Option.bind_some, Nat.zero_add, List.drop_zero, z1, z2, z3, tl, tc, decide_true, cond_true, k1]

end Go.AE
