/-
  The chapter Repair, part 3: the loops that mend.
-/
import Derived.Test.YtmhbjgelllhnbaaQR2
namespace Go.AE
open Go.Proofs Go.RowKit
set_option maxRecDepth 100000

theorem len_set1 {l : List Int} {i : Nat} {v : Int} : (l.set i v).length = l.length := List.length_set

theorem r38_6_spec {p : Pl} (hp : p.Ok) {l : List Int} (hl : l.length = p.C.length) {c d : Pt} (hc : p.inP c) (hd : p.inP d) (hn : Pl.adj c d) (h0 : 0 ≤ p.g l c) (h1 : p.g l c ≤ 39600) (h2 : -1 ≤ p.g l d ∧ p.g l d ≤ 39600) {gx gy : Int} {ob ar : List Pt} {off n m k : Nat} (hob : off + n ≤ ob.length) (hnn : n ≤ 50000000) (hk : k < m) (hm : m ≤ 9) (hk2 : ar[k]? = some d) :
    ∃ off' n' ob', r38_6 (off, n, p.g l c, m, (m : Int), (k : Int), p.C, l, p.W, p.H, p.C.length, gx, gy, p.C.length, ob, c.X, c.Y, ar, ()) =
        some (.inl (off', n', p.g l c, m, (m : Int), ((k + 1 : Nat) : Int), p.C, (Pl.rj1 p c (l, (ob.drop off).take n) d).1, p.W, p.H, p.C.length, gx, gy, p.C.length, ob', c.X, c.Y, ar, ())) ∧ off' + n' ≤ ob'.length ∧ (ob'.drop off').take n' = (Pl.rj1 p c (l, (ob.drop off).take n) d).2 := by
  have c1 : (k : Int) < (m : Int) := by omega
  have c2 : (0 : Int) ≤ (k : Int) := by omega
  have e1 : ar[k]? = some d := hk2
  have w0 : IntKind.i64.wrap ((k : Int) + 1) = ((k + 1 : Nat) : Int) := by rw [w64 (by omega) (by omega)]; rfl
  have hst := f51_spec hp hc hd hn
  have z1 : (p.C.length ≤ p.C.length) = True := by simp
  have z2 : (p.C.length ≤ l.length) = True := by simp [hl]
  have tl : List.take p.C.length (List.drop 0 l) = l := by rw [List.drop_zero, List.take_of_length_le (by omega)]
  have tc : List.take p.C.length (List.drop 0 p.C) = p.C := by simp
  have hix := f37_spec hp hd l gx gy
  obtain ⟨b1, b2⟩ := ix_in hp rfl hd
  have g1 : l[p.ix d]? = some (p.g l d) := g_get hp hl hd
  have hln : ((ob.drop off).take n).length = n := by rw [List.length_take, List.length_drop]; omega
  have skip : (∀ off' n' ob' l', off' = off → n' = n → ob' = ob → l' = l → r38_6 (off, n, p.g l c, m, (m : Int), (k : Int), p.C, l, p.W, p.H, p.C.length, gx, gy, p.C.length, ob, c.X, c.Y, ar, ()) = some (.inl (off', n', p.g l c, m, (m : Int), ((k + 1 : Nat) : Int), p.C, l', p.W, p.H, p.C.length, gx, gy, p.C.length, ob', c.X, c.Y, ar, ()))) →
      Pl.rj1 p c (l, (ob.drop off).take n) d = (l, (ob.drop off).take n) → ∃ off' n' ob', r38_6 (off, n, p.g l c, m, (m : Int), (k : Int), p.C, l, p.W, p.H, p.C.length, gx, gy, p.C.length, ob, c.X, c.Y, ar, ()) =
        some (.inl (off', n', p.g l c, m, (m : Int), ((k + 1 : Nat) : Int), p.C, (Pl.rj1 p c (l, (ob.drop off).take n) d).1, p.W, p.H, p.C.length, gx, gy, p.C.length, ob', c.X, c.Y, ar, ())) ∧ off' + n' ≤ ob'.length ∧ (ob'.drop off').take n' = (Pl.rj1 p c (l, (ob.drop off).take n) d).2 := by
    intro h e
    rw [e]
    exact ⟨off, n, ob, h _ _ _ _ rfl rfl rfl rfl, hob, rfl⟩
  cases hs : p.stp c d with
  | none =>
    rw [hs] at hst
    refine skip ?_ (by simp only [Pl.rj1, hs])
    intro _ _ _ _ e1' e2' e3' e4'
    subst e1' e2' e3' e4'
    unfold r38_6
    simp only [Nat.zero_add, c1, c2, decide_true, Bool.and_self, cond_true, Int.toNat_natCast, e1, Option.bind_some, z1, z2, tl, tc, hst, hix, b1, b2, g1, Option.isSome_none, cond_false, j38_40, w0]
  | some w =>
    rw [hs] at hst
    have hw := Pl.stp_pos hs
    have w3 : IntKind.i64.wrap (p.g l c + w) = p.g l c + w := w64 (by omega) (by omega)
    have r1 : roomy (n + 1) 16 = true := roomy_ok (by omega)
    have zq : (off + n ≤ ob.length) = True := by simp [hob]
    have hlen : ((ob.drop off).take n ++ [d]).length = n + 1 := by rw [List.length_append, hln]; rfl
    by_cases q1 : p.g l d < 0
    · have e : Pl.rj1 p c (l, (ob.drop off).take n) d = (l.set (p.ix d) (p.g l c + w), (ob.drop off).take n ++ [d]) := by simp only [Pl.rj1, hs, q1, true_or, if_true]
      rw [e]
      refine ⟨0, n + 1, (ob.drop off).take n ++ [d], ?_, by omega, by rw [List.drop_zero, List.take_of_length_le (by omega)]⟩
      unfold r38_6
      simp only [Nat.zero_add, c1, c2, decide_true, Bool.and_self, cond_true, Int.toNat_natCast, e1, Option.bind_some, z1, z2, tl, tc, hst, hix, b1, b2, g1, Option.isSome_some, Option.getD_some, q1, w3, j38_37, j38_40, zq, r1, w0]
    · by_cases q2 : p.g l c + w < p.g l d
      · have e : Pl.rj1 p c (l, (ob.drop off).take n) d = (l.set (p.ix d) (p.g l c + w), (ob.drop off).take n ++ [d]) := by simp only [Pl.rj1, hs, q2, or_true, if_true]
        rw [e]
        refine ⟨0, n + 1, (ob.drop off).take n ++ [d], ?_, by omega, by rw [List.drop_zero, List.take_of_length_le (by omega)]⟩
        unfold r38_6
        simp only [Nat.zero_add, c1, c2, decide_true, decide_false, Bool.and_self, cond_true, cond_false, Int.toNat_natCast, e1, Option.bind_some, z1, z2, tl, tc, hst, hix, b1, b2, g1, Option.isSome_some, Option.getD_some, q1, q2, w3, j38_37, j38_40, zq, r1, w0]
      · refine skip ?_ (by simp only [Pl.rj1, hs, q1, q2, or_self, if_false])
        intro _ _ _ _ e1' e2' e3' e4'
        subst e1' e2' e3' e4'
        unfold r38_6
        simp only [Nat.zero_add, c1, c2, decide_true, decide_false, Bool.and_self, cond_true, cond_false, Int.toNat_natCast, e1, Option.bind_some, z1, z2, tl, tc, hst, hix, b1, b2, g1, Option.isSome_some, Option.getD_some, q1, q2, w3, j38_40, w0]

theorem l38_6_spec {p : Pl} (hp : p.Ok) {goal c : Pt} (hc : p.inP c) {gx gy : Int} {ar : List Pt} {m : Nat} (ha : m ≤ ar.length) (hm : m ≤ 9) (hA : ∀ b ∈ ar.take m, p.inP b ∧ Pl.adj c b) {N : Int} : ∀ (t k : Nat) (l : List Int) (off n : Nat) (ob : List Pt), m - k = t → k ≤ m → off + n ≤ ob.length → Pl.RJ p goal l ((ob.drop off).take n) c ((ar.take m).drop k) → 0 ≤ p.g l c → p.g l c = N → Pl.rmu l ((ob.drop off).take n) ≤ 45000000 →
    ∃ l' off' n' ob', l38_6 (off, n, N, m, (m : Int), (k : Int), p.C, l, p.W, p.H, p.C.length, gx, gy, p.C.length, ob, c.X, c.Y, ar, ()) = some (off', n', p.C, l', p.W, p.H, p.C.length, gx, gy, p.C.length, ob', ()) ∧ off' + n' ≤ ob'.length ∧
      Pl.RJ p goal l' ((ob'.drop off').take n') c [] ∧ Pl.rmu l' ((ob'.drop off').take n') ≤ Pl.rmu l ((ob.drop off).take n) := by
  intro t
  induction t with
  | zero =>
    intro k l off n ob ht hk hob h h0 hN hmu
    have : k = m := by omega
    subst this
    have e0 : (ar.take k).drop k = [] := List.drop_eq_nil_of_le (by rw [take_len0 ha]; omega)
    rw [e0] at h
    refine ⟨l, off, n, ob, ?_, hob, h, Nat.le_refl _⟩
    have c1 : ¬ ((k : Nat) : Int) < (k : Int) := by omega
    have : r38_6 (off, n, N, k, (k : Int), (k : Int), p.C, l, p.W, p.H, p.C.length, gx, gy, p.C.length, ob, c.X, c.Y, ar, ()) = some (.inr (off, n, p.C, l, p.W, p.H, p.C.length, gx, gy, p.C.length, ob, ())) := by
      unfold r38_6
      simp only [c1, decide_false, cond_false]
    unfold l38_6
    rw [iterO_eq, this]
  | succ t ih =>
    intro k l off n ob ht hk hob h h0 hN hmu
    have hkm : k < m := by omega
    have hka : k < ar.length := by omega
    have hd : (ar.take m).drop k = ar[k] :: (ar.take m).drop (k + 1) := by
      rw [drop_cons (by rw [take_len0 ha]; exact hkm)]
      simp
    have hb : ar[k] ∈ ar.take m := List.mem_of_getElem? (i := k) (by rw [List.getElem?_take, if_pos hkm, List.getElem?_eq_getElem hka])
    obtain ⟨k1, k2⟩ := hA _ hb
    rw [hd] at h
    have hln : ((ob.drop off).take n).length = n := by rw [List.length_take, List.length_drop]; omega
    have hn : n ≤ 50000000 := by have := hmu; unfold Pl.rmu at this; omega
    have t1 := h.top2 hp hc
    have t2 := h.top2 hp k1
    have t3 := h.rng _ k1
    obtain ⟨off', n', ob', s1, s2, s3⟩ := r38_6_spec hp h.len hc k1 k2 h0 (by omega) ⟨t3, by omega⟩ (gx := gx) (gy := gy) hob hn hkm hm (List.getElem?_eq_getElem hka)
    obtain ⟨q1, q2, q3⟩ := h.step hp (h.free hc h0) h0
    rw [← s3] at q1 q3
    obtain ⟨l', off2, n2, ob2, f1, f2, f3, f4⟩ := ih (k + 1) _ off' n' ob' (by omega) (by omega) s2 q1 (by rw [q2]; exact h0) (by rw [q2]; exact hN) (by omega)
    refine ⟨l', off2, n2, ob2, ?_, f2, f3, by omega⟩
    rw [hN] at s1
    unfold l38_6 at f1 ⊢
    rw [iterO_eq, s1]
    exact f1

theorem l38_0_spec {p : Pl} (hp : p.Ok) {goal : Pt} {gx gy : Int} : ∀ (t : Nat) (l : List Int) (off n : Nat) (ob : List Pt) (c : Pt), Pl.rmu l ((ob.drop off).take n) = t → off + n ≤ ob.length → Pl.RJ p goal l ((ob.drop off).take n) c [] → t ≤ 45000000 →
    ∃ l', l38_0 (off, n, p.C, l, p.W, p.H, p.C.length, gx, gy, p.C.length, ob, ()) = some (p.C, l', p.W, p.H, p.C.length, gx, gy, p.C.length, ()) ∧ Pl.IsDist p goal l' := by
  intro t
  induction t using Nat.strongRecOn with
  | _ t ih =>
    intro l off n ob c ht hob h hmu
    unfold l38_0
    rw [iterO_eq]
    by_cases h0 : n = 0
    · subst h0
      have hr : r38_0 (off, 0, p.C, l, p.W, p.H, p.C.length, gx, gy, p.C.length, ob, ()) = some (.inr (p.C, l, p.W, p.H, p.C.length, gx, gy, p.C.length, ())) := rfl
      rw [hr]
      refine ⟨l, rfl, ?_⟩
      rw [List.take_zero] at h
      exact h.done
    · have hlt : off < ob.length := by omega
      have e1 : ob[off]? = some ob[off] := List.getElem?_eq_getElem hlt
      have e2 : (ob.drop off).take n = ob[off] :: (ob.drop (off + 1)).take (n - 1) := by
        obtain ⟨m, rfl⟩ : ∃ m, n = m + 1 := ⟨n - 1, by omega⟩
        rw [List.drop_eq_getElem_cons hlt, List.take_succ_cons]
        simp
      rw [e2] at h ht
      generalize ob[off] = v at *
      have hv := h.qin v (List.mem_cons_self ..)
      have c1 : (n : Int) > 0 := by omega
      have c3 : (1 : Int) ≤ (n : Int) := by omega
      have z1 : (0 + p.C.length ≤ p.C.length) = True := by simp
      have z2 : (0 + p.C.length ≤ l.length) = True := by simp [h.len]
      have tl : List.take p.C.length (List.drop 0 l) = l := by rw [List.drop_zero, List.take_of_length_le (by rw [h.len]; omega)]
      have tc : List.take p.C.length (List.drop 0 p.C) = p.C := by simp
      have hix := f37_spec hp hv l gx gy
      obtain ⟨b1, b2⟩ := ix_in hp rfl hv
      have g1 : l[0 + p.ix v]? = some (p.g l v) := by rw [Nat.zero_add]; exact g_get hp h.len hv
      by_cases q : p.g l v < 0
      · obtain ⟨k1, k2⟩ := h.pop0 q
        have hr : r38_0 (off, n, p.C, l, p.W, p.H, p.C.length, gx, gy, p.C.length, ob, ()) = some (.inl (off + 1, n - 1, p.C, l, p.W, p.H, p.C.length, gx, gy, p.C.length, ob, ())) := by
          unfold r38_0
          simp only [c1, c3, Int.le_refl, decide_true, Bool.and_self, cond_true, Nat.add_zero, e1, Option.bind_some, z1, z2, tl, tc, hix, b1, b2, Int.toNat_natCast, g1, q]
        rw [hr]
        exact ih _ (by omega) l (off + 1) (n - 1) ob c rfl (by omega) k1 (by omega)
      · obtain ⟨m, ar, a1, a2, a3⟩ := f39_spec hp hv
        have hm := a3.few
        rw [take_len0 a2] at hm
        obtain ⟨k1, k2, k3⟩ := h.pop a3 (by omega)
        obtain ⟨l', off', n', ob', f1, f2, f3, f4⟩ := l38_6_spec hp (goal := goal) hv (gx := gx) (gy := gy) a2 hm (fun b hb => (a3.mem b).1 hb) (N := p.g l v) m 0 l (off + 1) (n - 1) ob rfl (by omega) (by omega) (by rw [List.drop_zero]; exact k1) (by omega) rfl (by omega)
        have f1' : l38_6 (off + 1, n - 1, p.g l v, m, (m : Int), 0, p.C, l, p.W, p.H, p.C.length, gx, gy, p.C.length, ob, v.X, v.Y, ar, ()) = some (off', n', p.C, l', p.W, p.H, p.C.length, gx, gy, p.C.length, ob', ()) := f1
        have hr : r38_0 (off, n, p.C, l, p.W, p.H, p.C.length, gx, gy, p.C.length, ob, ()) = some (.inl (off', n', p.C, l', p.W, p.H, p.C.length, gx, gy, p.C.length, ob', ())) := by
          unfold r38_0
          simp only [c1, c3, Int.le_refl, decide_true, decide_false, Bool.and_self, cond_true, cond_false, Nat.add_zero, e1, Option.bind_some, z1, z2, tl, tc, hix, b1, b2, Int.toNat_natCast, g1, q, a1, f1']
        rw [hr]
        exact ih _ (by omega) l' off' n' ob' v rfl f2 f3 (by omega)

/-- spread. -/
theorem f38_spec {p : Pl} (hp : p.Ok) {goal c : Pt} {gx gy : Int} {l : List Int} {n : Nat} {ob : List Pt} (hob : n ≤ ob.length) (h : Pl.RJ p goal l (ob.take n) c []) (hmu : Pl.rmu l (ob.take n) ≤ 45000000) :
    ∃ l', f38 (n, p.C, l, p.W, p.H, p.C.length, gx, gy, p.C.length, ob, ()) = some (p.C, l', p.W, p.H, p.C.length, gx, gy, p.C.length, ()) ∧ Pl.IsDist p goal l' := by
  obtain ⟨l', h1, h2⟩ := l38_0_spec hp (goal := goal) (gx := gx) (gy := gy) _ l 0 n ob c rfl (by omega) (by rw [List.drop_zero]; exact h) (by rw [List.drop_zero]; exact hmu)
  refine ⟨l', ?_, h2⟩
  unfold f38
  simp only [h1, Option.bind_some]

end Go.AE
