/-
  Plain laws of the chapter Path: what is left of a path; what a cell that opens does.
-/
import Derived.Test.YtfeoolgkbljggaaP7
import Derived.Test.YtfeoolgkbljggaaL1
namespace Go.AE
open Go.Proofs Go.RowKit
set_option maxRecDepth 100000

theorem l5_spec {p : Pl} (hp : p.Ok) {goal : Pt} (hg : p.free goal) {l : List Int} (h : Pl.IsDist p goal l) {n : Nat} {ob : List Pt} (hob : n ≤ ob.length) (hn : n ≤ 40000)
    (H : ∀ (i : Nat) (x : Pt), (ob.take n)[i]? = some x → p.free x ∧ 0 ≤ p.g l x ∧ (ob.take n).drop i = p.path l x goal) : ∀ (t i : Nat), n - i = t → i ≤ n →
    l5_0 (n, (i : Int), p.W, p.H, p.C, goal.X, goal.Y, ob, ()) = some (.inr (n, ob, ())) := by
  intro t
  induction t with
  | zero =>
    intro i ht hi
    have : i = n := by omega
    subst this
    have c1 : ¬ (i : Int) < (i : Int) := by omega
    have : r5_0 (i, (i : Int), p.W, p.H, p.C, goal.X, goal.Y, ob, ()) = some (.inr (.inr (i, ob, ()))) := by
      unfold r5_0
      simp only [c1, decide_false, cond_false]
    unfold l5_0
    rw [iterO_eq, this]
  | succ t ih =>
    intro i ht hi
    have hin : i < n := by omega
    have h1 : i < ob.length := by omega
    have e1 : ob[i]? = some ob[i] := List.getElem?_eq_getElem h1
    obtain ⟨q1, q2, q3⟩ := H i ob[i] (by rw [List.getElem?_take, if_pos hin, e1])
    obtain ⟨m, ob', s1, s2, s3, s4⟩ := f21_spec hp h q1 hg q2
    have c1 : (i : Int) < (n : Int) := by omega
    have c2 : (0 : Int) ≤ (i : Int) := by omega
    have c3 : (i : Int) ≤ (n : Int) := by omega
    have w : IntKind.i64.wrap ((i : Int) + 1) = ((i + 1 : Nat) : Int) := by rw [w64 (by omega) (by omega)]; rfl
    have z1 : (0 + m ≤ ob'.length) = True := by simp; omega
    have z2 : (0 + i + (n - i) ≤ ob.length) = True := by simp; omega
    have e2 : List.take (n - i) (List.drop (0 + i) ob) = ob'.take m := by
      rw [s4, ← q3, Nat.zero_add, List.drop_take]
    have e1' : ob[0 + i]? = some ob[i] := by rw [Nat.zero_add]; exact e1
    have hm : (ob'.take m).length ≤ 1000000 := by rw [take_len0 s2]; omega
    have : r5_0 (n, (i : Int), p.W, p.H, p.C, goal.X, goal.Y, ob, ()) = some (.inl (n, ((i + 1 : Nat) : Int), p.W, p.H, p.C, goal.X, goal.Y, ob, ())) := by
      unfold r5_0
      simp only [c1, c2, c3, Int.le_refl, decide_true, Bool.and_self, cond_true, Int.toNat_natCast, e1', Option.bind_some, s1, bne_self_eq_false, cond_false, e2, z1, z2, w, List.drop_zero, f23_spec hm, Bool.not_true]
    unfold l5_0
    rw [iterO_eq, this]
    exact ih (i + 1) (by omega) (by omega)

theorem pathSuffix_plain (x : Int × Int × List Int × Int × Int × Int × Int × Unit) : f5 x = some (true, ()) := by
  obtain ⟨w, h, l, a, b, c, d, ⟨⟩⟩ := x
  unfold f5
  simp only [f14_spec, Option.bind_some, Bool.not_true, cond_false, f15_spec]
  by_cases hl : l.length ≤ 400
  · obtain ⟨r1, h1, a1⟩ := f21_ans (p := ⟨w, h, l⟩) hl ⟨a, b⟩ ⟨c, d⟩
    simp only at h1
    simp only [hl, decide_true, Bool.not_true, cond_false, h1, Option.bind_some]
    cases a1 with
    | bad v => rfl
    | none p q => rfl
    | far p s t k m => rfl
    | @path k n ob p s t hk m q1 q2 q3 =>
      have hf := (Pl.path_facts p t hk _ ⟨a, b⟩ s.1 m (Int.self_le_toNat _)).1
      rw [← q3] at hf
      have hloop := l5_spec p t hk q1 (by omega) hf n 0 rfl (by omega)
      have hloop' : l5_0 (n, 0, w, h, l, c, d, ob, ()) = some (.inr (n, ob, ())) := hloop
      have hlen := congrArg List.length q3
      rw [take_len0 q1] at hlen
      have hn0 : (n : Int) > 0 := by rw [hlen]; unfold Pl.path; rw [List.length_cons]; omega
      simp only [bne_self_eq_false, cond_false, hloop', Option.bind_some, Sum.elim_inr, hn0, decide_true]
  · simp only [hl, decide_false, Bool.not_false, cond_true]

/-! ### A cell that opens -/

def Pl.open_ (p : Pl) (c : Pt) : Pl := ⟨p.W, p.H, p.C.set (p.ix c) 1⟩
theorem open_ok {p : Pl} (hp : p.Ok) (c : Pt) : (p.open_ c).Ok :=
  ⟨hp.w1, hp.w2, hp.h1, hp.h2, by unfold Pl.open_; rw [List.length_set]; exact hp.len, by unfold Pl.open_; rw [List.length_set]; exact hp.few, fun x hx => by
    rcases List.mem_or_eq_of_mem_set hx with h | h
    · exact hp.cells x h
    · omega⟩
theorem open_free {p : Pl} (hp : p.Ok) {c a : Pt} (hc : p.inP c) (h : p.free a) : (p.open_ c).free a := by
  refine ⟨h.1, ?_⟩
  have h2 := h.2
  have hlt := Pl.ix_lt hp hc
  have e : (p.open_ c).ix a = p.ix a := rfl
  unfold Pl.open_ at *
  rw [e]
  simp only [List.getD_eq_getElem?_getD] at *
  by_cases q : p.ix c = p.ix a
  · rw [← q, List.getElem?_set_self hlt]; rfl
  · rw [List.getElem?_set_ne q]; exact h2
theorem open_st {p : Pl} (hp : p.Ok) {c a d : Pt} (hc : p.inP c) {w : Int} (h : p.st a d = some w) : (p.open_ c).st a d = some w := by
  have hf := Pl.st_free h
  unfold Pl.st at *
  rw [if_pos hf] at h
  rw [if_pos ⟨open_free hp hc hf.1, open_free hp hc hf.2⟩]
  split at h
  · rename_i h0; rw [if_pos h0]; exact h
  · rename_i h0
    rw [if_neg h0]
    split at h
    · rename_i h1
      rw [if_pos ⟨open_free hp hc h1.1, open_free hp hc h1.2⟩]; exact h
    · cases h
theorem open_R {p : Pl} (hp : p.Ok) {c a b : Pt} (hc : p.inP c) {n : Int} (h : Pl.R p a b n) : Pl.R (p.open_ c) a b n := by
  induction h with
  | nil => exact .nil
  | cons h1 _ ih =>
    refine .cons ?_ ih
    unfold Pl.stp at *
    split at h1
    · rename_i hd; rw [if_pos hd]; exact open_st hp hc h1
    · cases h1

theorem l6_spec {L1 L2 : List Int} {a b : Int} {C : List Int} {gx gy : Int} (hl : L1.length = L2.length) (hn : L1.length ≤ 1000)
    (H : ∀ (i : Nat) (h1 : i < L1.length) (h2 : i < L2.length), L1[i] = -1 ∨ (L2[i] ≠ -1 ∧ L2[i] ≤ L1[i])) : ∀ (t i : Nat), L2.length - i = t → i ≤ L2.length →
    l6_0 (L1.length, L2.length, (i : Int), a, b, C, gx, gy, L1, L2, ()) = some (.inr (L2.length, a, b, C, gx, gy, L2, ())) := by
  intro t
  induction t with
  | zero =>
    intro i ht hi
    have : i = L2.length := by omega
    subst this
    have c1 : ¬ (L2.length : Int) < (L2.length : Int) := by omega
    have : r6_0 (L1.length, L2.length, (L2.length : Int), a, b, C, gx, gy, L1, L2, ()) = some (.inr (.inr (L2.length, a, b, C, gx, gy, L2, ()))) := by
      unfold r6_0
      simp only [c1, decide_false, cond_false]
    unfold l6_0
    rw [iterO_eq, this]
  | succ t ih =>
    intro i ht hi
    have h2 : i < L2.length := by omega
    have h1 : i < L1.length := by omega
    have c1 : (i : Int) < (L2.length : Int) := by omega
    have c2 : (0 : Int) ≤ (i : Int) := by omega
    have c3 : (i : Int) < (L1.length : Int) := by omega
    have w : IntKind.i64.wrap ((i : Int) + 1) = ((i + 1 : Nat) : Int) := by rw [w64 (by omega) (by omega)]; rfl
    have : r6_0 (L1.length, L2.length, (i : Int), a, b, C, gx, gy, L1, L2, ()) = some (.inl (L1.length, L2.length, ((i + 1 : Nat) : Int), a, b, C, gx, gy, L1, L2, ())) := by
      unfold r6_0
      simp only [c1, c2, c3, decide_true, Bool.and_self, cond_true, Int.toNat_natCast, Nat.zero_add, List.getElem?_eq_getElem h1, List.getElem?_eq_getElem h2, Option.bind_some, j6_46, w]
      rcases H i h1 h2 with q | ⟨q1, q2⟩
      · have : (L1[i] != -1) = false := by simp [q]
        simp only [this, cond_false]
      · have k2 : (L2[i] == -1) = false := by simpa using q1
        have k3 : ¬ L2[i] > L1[i] := by omega
        simp only [k2, k3, decide_false, cond_false]
        cases (L1[i] != -1) <;> rfl
    unfold l6_0
    rw [iterO_eq, this]
    exact ih (i + 1) (by omega) (by omega)

theorem pathOpens_plain (x : Int × Int × List Int × Int × Int × Int × Int × Unit) : f6 x = some (true, ()) := by
  obtain ⟨w, h, l, a, b, c, d, ⟨⟩⟩ := x
  unfold f6
  simp only [f14_spec, Option.bind_some, Bool.not_true, cond_false, f15_spec]
  by_cases hl : l.length ≤ 400
  · simp only [hl, decide_true, Bool.not_true, cond_false]
    have z00 : ((0 : Nat) : Int) == 0 := rfl
    cases hv : (⟨w, h, l⟩ : Pl).vld with
    | false =>
      have e1 : f17 (w, h, l, a, b, ()) = some (0, 1, [], ()) := f17_bad (p := ⟨w, h, l⟩) (by simp only; omega) hv a b
      have e2 : f24 (w, h, l, ()) = some (false, ()) := by have := f24_spec (p := ⟨w, h, l⟩) (by simp only; omega); rw [hv] at this; exact this
      simp only [e1, e2, Option.bind_some, Bool.not_false, cond_true, z00]
    | true =>
      have hp := Pl.vld_ok hv hl
      have e2 : f24 (w, h, l, ()) = some (true, ()) := by have := f24_spec (p := ⟨w, h, l⟩) (by simp only; omega); rw [hv] at this; exact this
      have e3 := f25_spec hp ⟨a, b⟩
      have e4 := f26_spec (p := ⟨w, h, l⟩) ⟨c, d⟩
      simp only at e3 e4
      by_cases hg : (⟨w, h, l⟩ : Pl).free ⟨a, b⟩
      · obtain ⟨m, e1, hm⟩ := f17_spec hp hg
        simp only at e1
        have e5 : ((⟨w, h, l⟩ : Pl).val ⟨a, b⟩ != 1) = false := by rw [val_free.2 hg]; rfl
        by_cases hc : (⟨w, h, l⟩ : Pl).inP ⟨c, d⟩
        · obtain ⟨m2, s1, hm2⟩ := f17_spec (open_ok hp ⟨c, d⟩) (open_free hp hc hg)
          have hix := ix_w hp hc
          simp only at hix
          obtain ⟨b1, b2⟩ := ix_in hp rfl hc
          have s1' : f17 (w, h, l.set ((⟨w, h, l⟩ : Pl).ix ⟨c, d⟩) 1, a, b, ()) = some (m2.length, 0, m2, ()) := s1
          have hlt := Pl.ix_lt hp hc
          simp only at b2 hlt
          have hlm : m.length = l.length := hm.len
          have hlm2 : m2.length = l.length := by have := hm2.len; unfold Pl.open_ at this; rw [List.length_set] at this; exact this
          have hsz := size_w hp
          simp only at hsz
          have tt : List.take l.length (List.drop 0 (l.set ((⟨w, h, l⟩ : Pl).ix ⟨c, d⟩) 1)) = l.set ((⟨w, h, l⟩ : Pl).ix ⟨c, d⟩) 1 := by rw [List.drop_zero, List.take_of_length_le (by simp)]
          have zz : (l.length ≤ (l.set ((⟨w, h, l⟩ : Pl).ix ⟨c, d⟩) 1).length) = True := by simp
          have ne1 : ((m.length : Int) != (m2.length : Int)) = false := by simp [hlm, hlm2]
          have ne2 : ((m2.length : Int) != (l.length : Int)) = false := by simp [hlm2]
          have H : ∀ (i : Nat) (h1 : i < m.length) (h2 : i < m2.length), m[i] = -1 ∨ (m2[i] ≠ -1 ∧ m2[i] ≤ m[i]) := by
            intro i h1 h2
            have hi : i < l.length := by omega
            have hci := Pl.cellOf_in hp (i := i) hi
            have g1 : (⟨w, h, l⟩ : Pl).g m ((⟨w, h, l⟩ : Pl).cellOf i) = m[i] := by unfold Pl.g; rw [Pl.ix_cellOf hp, List.getD_eq_getElem?_getD, List.getElem?_eq_getElem h1]; rfl
            have g2 : ((⟨w, h, l⟩ : Pl).open_ ⟨c, d⟩).g m2 ((⟨w, h, l⟩ : Pl).cellOf i) = m2[i] := by
              have : ((⟨w, h, l⟩ : Pl).open_ ⟨c, d⟩).ix ((⟨w, h, l⟩ : Pl).cellOf i) = i := Pl.ix_cellOf (open_ok hp ⟨c, d⟩)
              unfold Pl.g; rw [this, List.getD_eq_getElem?_getD, List.getElem?_eq_getElem h2]; rfl
            have hr := hm.rng _ hci
            rw [g1] at hr
            by_cases q : m[i] = -1
            · exact .inl q
            · right
              have r1 := (Pl.path_facts hp hg hm _ _ hci (by rw [g1]; omega) (Int.self_le_toNat _)).2.2.2
              have := hm2.least (open_R hp hc r1) rfl
              rw [g1, g2] at this
              omega
          have hloop := l6_spec (a := w) (b := h) (C := l) (gx := a) (gy := b) (by rw [hlm, hlm2]) (by omega) H _ 0 rfl (by omega)
          have hloop' : l6_0 (m.length, m2.length, 0, w, h, l, a, b, m, m2, ()) = some (.inr (m2.length, w, h, l, a, b, m2, ())) := hloop
          have hgx := ix_w hp hg.1
          simp only at hgx
          obtain ⟨b3, b4⟩ := ix_in hp (l := m2) hlm2 hg.1
          have hz : m2[(⟨w, h, l⟩ : Pl).ix ⟨a, b⟩]? = some 0 := by
            have := g_get (open_ok hp ⟨c, d⟩) hm2.len (c := ⟨a, b⟩) hg.1
            rw [hm2.zero] at this
            exact this
          simp only [e1, e2, e3, e4, e5, Option.bind_some, bne_self_eq_false, cond_false, Bool.not_true, hc, decide_true, f16_spec w h (l := l) (by omega), hix, b1, b2, Bool.and_self, cond_true, Int.toNat_natCast, Nat.zero_add, List.getElem?_eq_getElem hlt, tt, zz, s1', ne1, ne2, hsz, hloop', Sum.elim_inr, hgx, b3, b4, hz, beq_self_eq_true]
        · simp only [e1, e2, e3, e4, e5, Option.bind_some, Bool.not_true, cond_false, hc, decide_false, Bool.not_false, cond_true, beq_self_eq_true]
          cases ((m.length : Int) == 0) <;> rfl
      · have e1 : f17 (w, h, l, a, b, ()) = some (0, 7, [], ()) := f17_none hp hg
        have e5 : ((⟨w, h, l⟩ : Pl).val ⟨a, b⟩ != 1) = true := by
          have : (⟨w, h, l⟩ : Pl).val ⟨a, b⟩ ≠ 1 := fun q => hg (val_free.1 q)
          simpa using this
        simp only [e1, e2, e3, e5, Option.bind_some, Bool.not_true, cond_false, cond_true, z00]
  · simp only [hl, decide_false, Bool.not_false, cond_true]

end Go.AE
