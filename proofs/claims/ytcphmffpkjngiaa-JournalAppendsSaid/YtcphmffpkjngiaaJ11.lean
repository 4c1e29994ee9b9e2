/-
  Plain laws of the chapter Journal, part 15: Appends.
-/
import Derived.Test.YtcphmffpkjngiaaJ7
import Derived.Test.YtcphmffpkjngiaaFd
namespace Go.AE
open Go.Proofs Go.RowKit
set_option maxRecDepth 100000

/-- The caller's own marks are written. -/
theorem l5b_spec (R : List Ev) (i : Int) (n nl wn : Nat) (t u f : Int) (B : Bool) (m : Nat) (hm : m ≤ 1000000) (A : List Int) (L W : List Ev) : ∀ (k q : Nat) (s : List Bm), m - q = k → q ≤ m → s.length = m →
    l5_6 (R, i, (q : Int), n, nl, wn, t, u, f, B, m, A, L, W, s, ()) = some (R, i, n, nl, wn, A, L, W, ()) := by
  intro k
  induction k with
  | zero =>
    intro q s hk hq hs
    have c1 : ¬ (q : Int) < (m : Int) := by omega
    have hr : r5_6 (R, i, (q : Int), n, nl, wn, t, u, f, B, m, A, L, W, s, ()) = some (.inr (R, i, n, nl, wn, A, L, W, ())) := by
      unfold r5_6
      simp only [c1, decide_false, cond_false]
    unfold l5_6
    rw [iterO_eq, hr]
  | succ k ih =>
    intro q s hk hq hs
    have c1 : (q : Int) < (m : Int) := by omega
    have c0 : (0 : Int) ≤ (q : Int) := by omega
    have hlt : q < s.length := by omega
    have w0 : IntKind.i64.wrap ((q : Int) + 1) = ((q + 1 : Nat) : Int) := by rw [i64w (by omega) (by omega)]; rfl
    have hget := List.getElem?_eq_getElem hlt
    have hr : r5_6 (R, i, (q : Int), n, nl, wn, t, u, f, B, m, A, L, W, s, ()) = some (.inl (R, i, ((q + 1 : Nat) : Int), n, nl, wn, t, u, f, B, m, A, L, W, s.set q (Bm.mk 7 s[q].R), ())) := by
      unfold r5_6
      simp only [c1, c0, decide_true, cond_true, Bool.and_self, Nat.zero_add, Int.toNat_natCast, hget, Option.bind_some, w0]
    have := ih (q + 1) (s.set q (Bm.mk 7 s[q].R)) (by omega) (by omega) (by rw [List.length_set]; exact hs)
    unfold l5_6 at this ⊢
    rw [iterO_eq, hr]
    exact this

theorem l5_spec {x : List Ev} (hx : x.length ≤ 1000000) (hs : ∀ e ∈ x, e.S.length ≤ 1000000) : ∀ (k i : Nat) (l : List Ev), x.length - i = k → i ≤ x.length → Good l →
    l5_0 (x, (i : Int), (bytesJ l).length, l.length, l.length, bytesJ l, l, l, ()) = some (.inr ((bytesJ ((x.drop i).foldl nxt l)).length, ((x.drop i).foldl nxt l).length, ((x.drop i).foldl nxt l).length, bytesJ ((x.drop i).foldl nxt l), (x.drop i).foldl nxt l, (x.drop i).foldl nxt l, ())) := by
  intro k
  induction k with
  | zero =>
    intro i l hk hi h
    have : i = x.length := by omega
    subst this
    have c1 : ¬ (x.length : Int) < (x.length : Int) := by omega
    unfold l5_0
    rw [iterO_eq]
    have : r5_0 (x, (x.length : Int), (bytesJ l).length, l.length, l.length, bytesJ l, l, l, ()) = some (.inr (.inr ((bytesJ l).length, l.length, l.length, bytesJ l, l, l, ()))) := by
      unfold r5_0
      simp only [c1, decide_false, cond_false]
    rw [this]
    simp
  | succ k ih =>
    intro i l hk hi h
    have hlt : i < x.length := by omega
    have c1 : (i : Int) < (x.length : Int) := by omega
    have w0 : IntKind.i64.wrap ((i : Int) + 1) = ((i + 1 : Nat) : Int) := by rw [i64w (by omega) (by omega)]; rfl
    have hget := List.getElem?_eq_getElem hlt
    have hd : x.drop i = x[i] :: x.drop (i + 1) := List.drop_eq_getElem_cons hlt
    have hsi := hs _ (List.getElem_mem hlt)
    rw [hd]
    generalize x[i] = e at *
    have h22 := f22_spec h e hsi
    have h23 := f23_spec h e
    have h21 : f21 (e.T, e.U, e.F, e.B, e.S, ()) = some (e.T, e.U, e.F, e.B, e.S.length, e.S, ()) := by
      unfold f21
      simp only [Nat.zero_add, room16 hsi, cond_true, List.nil_append]
    have h6 : ∀ (n nl wn : Nat) (A : List Int) (L W : List Ev), l5_6 (x, (i : Int), 0, n, nl, wn, e.T, e.U, e.F, e.B, e.S.length, A, L, W, e.S, ()) = some (x, (i : Int), n, nl, wn, A, L, W, ()) :=
      fun n nl wn A L W => l5b_spec x i n nl wn e.T e.U e.F e.B e.S.length hsi A L W e.S.length 0 e.S (by omega) (by omega) rfl
    have hr : r5_0 (x, (i : Int), (bytesJ l).length, l.length, l.length, bytesJ l, l, l, ()) = some (.inl (x, ((i + 1 : Nat) : Int), (bytesJ (nxt l e)).length, (nxt l e).length, (nxt l e).length, bytesJ (nxt l e), nxt l e, nxt l e, ())) := by
      unfold r5_0
      simp only [c1, decide_true, cond_true, idxO_nat, hget, Option.bind_some, h21, Nat.zero_add, Nat.le_refl, takeL, h22, h23]
      unfold nxt
      by_cases ha : app l e = 0
      · simp only [if_pos ha, Sum.elim_inr, bne_self_eq_false, cond_false, h6, Option.bind_some, w0]
      · simp only [if_neg ha, Sum.elim_inl, bne_self_eq_false, cond_false, h6, Option.bind_some, w0]
    have := ih (i + 1) (nxt l e) (by omega) (by omega) (h.nxt e)
    unfold l5_0 at this ⊢
    rw [iterO_eq, hr]
    exact this

theorem journalAppends_plain (R : List Ev) : f5 (R, ()) = some (true, ()) := by
  obtain ⟨w, hw, hw2⟩ := f18_spec' R
  unfold f5
  simp only [f11_spec, Option.bind_some, Bool.not_true, cond_false, hw]
  cases w with
  | false => simp only [Bool.not_false, cond_true]
  | true =>
    obtain ⟨q1, q2⟩ := hw2 rfl
    have hlp := l5_spec (show R.length ≤ 1000000 by omega) q2 R.length 0 [] rfl (by omega) good_nil
    rw [List.drop_zero] at hlp
    have hlp' : l5_0 (R, 0, f19.fst, f19.snd.fst, f20.fst, f19.snd.snd.fst, f19.snd.snd.snd, f20.snd, ()) = some (.inr ((bytesJ (run R)).length, (run R).length, (run R).length, bytesJ (run R), run R, run R, ())) := hlp
    simp only [Bool.not_true, cond_false, hlp', Option.bind_some, Sum.elim_inr, Nat.zero_add, Nat.le_refl, decide_true, cond_true, takeL, f24_same (good_run R), Sum.elim_inl]
    rfl

end Go.AE
