/-
  Plain laws of the chapter Path, part 3: both ways to the costs give the only list of costs.
-/
import Derived.Test.YtilmnpkjlaamlaaP2
namespace Go.AE
open Go.Proofs Go.RowKit
set_option maxRecDepth 100000

theorem g_get {p : Pl} (hp : p.Ok) {l : List Int} (hl : l.length = p.C.length) {c : Pt} (hc : p.inP c) : l[p.ix c]? = some (p.g l c) := by
  have := Pl.ix_lt hp hc
  unfold Pl.g
  rw [List.getD_eq_getElem?_getD, List.getElem?_eq_getElem (by omega)]; rfl

theorem ix_in {p : Pl} (hp : p.Ok) {l : List Int} (hl : l.length = p.C.length) {c : Pt} (hc : p.inP c) : (0 : Int) ≤ ((p.ix c : Nat) : Int) ∧ ((p.ix c : Nat) : Int) < (l.length : Int) := by
  have := Pl.ix_lt hp hc
  omega

theorem dirs_get {k : Nat} (hk : k < 8) : ∃ d, Pl.dirs[k]? = some d ∧ d ∈ Pl.dirs ∧ Pl.dirs.drop k = d :: Pl.dirs.drop (k + 1) := by
  have h : k < Pl.dirs.length := hk
  exact ⟨Pl.dirs[k], List.getElem?_eq_getElem h, List.getElem_mem h, List.drop_eq_getElem_cons h⟩

/-! ### Improving -/

theorem r45_12_spec {p : Pl} (hp : p.Ok) {out : List Int} (hl : out.length = p.C.length) {c : Pt} (hc : p.free c) (h0 : 0 ≤ p.g out c) (h1 : p.g out c ≤ 39501) {ob : List Pt} {off n k : Nat} (hob : off + n ≤ ob.length) (hn : n ≤ 50000000) (hk : k < 8) {d : Pt} (hd : Pl.dirs[k]? = some d) (hdm : d ∈ Pl.dirs) :
    ∃ off' n' ob', r45_12 (out.length, 8, off, n, (k : Int), p.W, p.H, p.C, out, Pl.dirs, ob, c.X, c.Y, ()) =
        some (.inl (out.length, 8, off', n', ((k + 1 : Nat) : Int), p.W, p.H, p.C, (Pl.rlx1 p c (out, (ob.drop off).take n) d).1, Pl.dirs, ob', c.X, c.Y, ())) ∧ off' + n' ≤ ob'.length ∧ (ob'.drop off').take n' = (Pl.rlx1 p c (out, (ob.drop off).take n) d).2 := by
  obtain ⟨⟨x1, x2⟩, y1, y2⟩ := inP_near hp hc.1
  obtain ⟨⟨d1, d2⟩, ⟨d3, d4⟩, _⟩ := dirs_small hdm
  have c1 : (k : Int) < 8 := by omega
  have c2 : (0 : Int) ≤ (k : Int) := by omega
  have c3 : (k : Int) < ((8 : Nat) : Int) := by omega
  have w0 : IntKind.i64.wrap ((k : Int) + 1) = ((k + 1 : Nat) : Int) := by rw [w64 (by omega) (by omega)]; rfl
  have w1 : IntKind.i64.wrap (c.X + d.X) = c.X + d.X := w64 (by omega) (by omega)
  have w2 : IntKind.i64.wrap (c.Y + d.Y) = c.Y + d.Y := w64 (by omega) (by omega)
  have hf : f56 (p.W, p.H, p.C, c.X, c.Y, c.X + d.X, c.Y + d.Y, ()) = some (num (p.st c d), ()) := by
    rw [← stp_add hdm]; exact f56_spec hp c (Pl.add c d)
  have hln : ((ob.drop off).take n).length = n := by rw [List.length_take, List.length_drop]; omega
  unfold r45_12
  simp only [c1, c2, c3, decide_true, Bool.and_self, cond_true, Nat.zero_add, Int.toNat_natCast, hd, Option.bind_some, w1, w2, hf]
  cases hs : p.st c d with
  | none =>
    have e : Pl.rlx1 p c (out, (ob.drop off).take n) d = (out, (ob.drop off).take n) := by simp only [Pl.rlx1, hs]
    rw [e]
    have hnn : num none = -1 := rfl
    have n1 : (-1 : Int) < 0 := by omega
    refine ⟨off, n, ob, ?_, hob, rfl⟩
    simp only [hnn, n1, decide_true, cond_true, j45_55, Option.bind_some, w0]
  | some w =>
    have hw := Pl.st_pos hs
    have hfr := Pl.st_free hs
    have hnum : num (some w) = w := rfl
    have n1 : ¬ w < 0 := by omega
    have i1 := ix_w hp hc.1
    have i2 : IntKind.i64.wrap (IntKind.i64.wrap ((c.Y + d.Y) * p.W) + (c.X + d.X)) = ((p.ix (Pl.add c d) : Nat) : Int) := ix_w hp (c := Pl.add c d) hfr.2.1
    have g1 := g_get hp hl hc.1
    have g2 := g_get hp hl hfr.2.1
    obtain ⟨b1, b2⟩ := ix_in hp hl hc.1
    obtain ⟨b3, b4⟩ := ix_in hp hl hfr.2.1
    have w3 : IntKind.i64.wrap (w + p.g out c) = w + p.g out c := w64 (by omega) (by omega)
    have r1 : roomy (n + 1) 16 = true := roomy_ok (by omega)
    simp only [hnum, n1, i1, i2, g1, g2, b1, b2, b3, b4, decide_true, decide_false, Bool.and_self, cond_true, cond_false, Int.toNat_natCast, Option.bind_some, w3]
    by_cases q1 : p.g out (Pl.add c d) < 0
    · have e : Pl.rlx1 p c (out, (ob.drop off).take n) d = (out.set (p.ix (Pl.add c d)) (w + p.g out c), (ob.drop off).take n ++ [Pl.add c d]) := by simp only [Pl.rlx1, hs, q1, true_or, if_true]
      rw [e]
      refine ⟨0, n + 1, (ob.drop off).take n ++ [⟨c.X + d.X, c.Y + d.Y⟩], ?_, by simp only [List.length_append, hln, List.length_singleton]; omega, ?_⟩
      · simp only [q1, decide_true, cond_true, j45_79, j45_55, hob, r1, Option.bind_some, w0]
      · rw [List.drop_zero, List.take_of_length_le (by simp only [List.length_append, hln, List.length_singleton]; omega)]
        rfl
    · by_cases q2 : w + p.g out c < p.g out (Pl.add c d)
      · have e : Pl.rlx1 p c (out, (ob.drop off).take n) d = (out.set (p.ix (Pl.add c d)) (w + p.g out c), (ob.drop off).take n ++ [Pl.add c d]) := by simp only [Pl.rlx1, hs, q2, or_true, if_true]
        rw [e]
        refine ⟨0, n + 1, (ob.drop off).take n ++ [⟨c.X + d.X, c.Y + d.Y⟩], ?_, by simp only [List.length_append, hln, List.length_singleton]; omega, ?_⟩
        · simp only [q1, q2, decide_true, decide_false, cond_true, cond_false, j45_79, j45_55, hob, r1, Option.bind_some, w0]
        · rw [List.drop_zero, List.take_of_length_le (by simp only [List.length_append, hln, List.length_singleton]; omega)]
          rfl
      · have e : Pl.rlx1 p c (out, (ob.drop off).take n) d = (out, (ob.drop off).take n) := by simp only [Pl.rlx1, hs, q1, q2, or_self, if_false]
        rw [e]
        refine ⟨off, n, ob, ?_, hob, rfl⟩
        simp only [q1, q2, decide_false, cond_false, j45_55, Option.bind_some, w0]

theorem l45_12_spec {p : Pl} (hp : p.Ok) {goal c : Pt} (hc : p.free c) : ∀ (t k : Nat) (out : List Int) (off n : Nat) (ob : List Pt), 8 - k = t → k ≤ 8 → off + n ≤ ob.length → Pl.RI p goal out ((ob.drop off).take n) c (Pl.dirs.drop k) → 0 ≤ p.g out c → Pl.rmu out ((ob.drop off).take n) ≤ 45000000 →
    ∃ out' off' n' ob', l45_12 (p.C.length, 8, off, n, (k : Int), p.W, p.H, p.C, out, Pl.dirs, ob, c.X, c.Y, ()) = some (p.C.length, 8, off', n', p.W, p.H, p.C, out', Pl.dirs, ob', ()) ∧ off' + n' ≤ ob'.length ∧
      Pl.RI p goal out' ((ob'.drop off').take n') c [] ∧ Pl.rmu out' ((ob'.drop off').take n') ≤ Pl.rmu out ((ob.drop off).take n) := by
  intro t
  induction t with
  | zero =>
    intro k out off n ob ht hk hob h h0 hmu
    have : k = 8 := by omega
    subst this
    refine ⟨out, off, n, ob, ?_, hob, h, Nat.le_refl _⟩
    unfold l45_12
    rw [iterO_eq]
    have : r45_12 (p.C.length, 8, off, n, ((8 : Nat) : Int), p.W, p.H, p.C, out, Pl.dirs, ob, c.X, c.Y, ()) = some (.inr (p.C.length, 8, off, n, p.W, p.H, p.C, out, Pl.dirs, ob, ())) := rfl
    rw [this]
  | succ t ih =>
    intro k out off n ob ht hk hob h h0 hmu
    have hk8 : k < 8 := by omega
    obtain ⟨d, e1, e2, e3⟩ := dirs_get hk8
    rw [e3] at h
    have hln : ((ob.drop off).take n).length = n := by rw [List.length_take, List.length_drop]; omega
    have hn : n ≤ 50000000 := by have := hmu; unfold Pl.rmu at this; omega
    obtain ⟨off', n', ob', s1, s2, s3⟩ := r45_12_spec hp h.len hc h0 (h.top2 hp hc.1) hob hn hk8 e1 e2
    obtain ⟨k1, k2, k3, _⟩ := h.step hp e2 hc h0
    rw [← s3] at k1 k3
    obtain ⟨out', off2, n2, ob2, f1, f2, f3, f4⟩ := ih (k + 1) _ off' n' ob' (by omega) (by omega) s2 k1 (by rw [k2]; exact h0) (by omega)
    refine ⟨out', off2, n2, ob2, ?_, f2, f3, by omega⟩
    unfold l45_12
    rw [iterO_eq]
    rw [h.len] at s1
    rw [s1]
    exact f1

theorem l45_6_spec {p : Pl} (hp : p.Ok) {goal : Pt} : ∀ (t : Nat) (out : List Int) (off n : Nat) (ob : List Pt) (c : Pt), Pl.rmu out ((ob.drop off).take n) = t → off + n ≤ ob.length → Pl.RI p goal out ((ob.drop off).take n) c [] → t ≤ 45000000 →
    ∃ out', l45_6 (p.C.length, 8, off, n, p.W, p.H, p.C, out, Pl.dirs, ob, ()) = some (p.C.length, out', ()) ∧ Pl.IsDist p goal out' := by
  intro t
  induction t using Nat.strongRecOn with
  | _ t ih =>
    intro out off n ob c ht hob h hmu
    unfold l45_6
    rw [iterO_eq]
    by_cases h0 : n = 0
    · subst h0
      have hr : r45_6 (p.C.length, 8, off, 0, p.W, p.H, p.C, out, Pl.dirs, ob, ()) = some (.inr (p.C.length, out, ())) := rfl
      rw [hr]
      refine ⟨out, rfl, ?_⟩
      rw [List.take_zero] at h
      exact h.done
    · have hlt : off < ob.length := by omega
      have e1 : ob[off]? = some ob[off] := List.getElem?_eq_getElem hlt
      have e2 : (ob.drop off).take n = ob[off] :: (ob.drop (off + 1)).take (n - 1) := by
        obtain ⟨m, rfl⟩ : ∃ m, n = m + 1 := ⟨n - 1, by omega⟩
        rw [List.drop_eq_getElem_cons hlt, List.take_succ_cons]
        simp
      rw [e2] at h ht
      generalize ob[off] = v at *
      obtain ⟨p1, p2, p3, p4⟩ := h.pop
      obtain ⟨out', off', n', ob', f1, f2, f3, f4⟩ := l45_12_spec hp p2 8 0 out (off + 1) (n - 1) ob rfl (by omega) (by omega) (by rw [List.drop_zero]; exact p1) p3 (by omega)
      have c1 : (n : Int) > 0 := by omega
      have c3 : (1 : Int) ≤ (n : Int) := by omega
      have f1' : l45_12 (p.C.length, 8, off + 1, n - 1, 0, p.W, p.H, p.C, out, Pl.dirs, ob, v.X, v.Y, ()) = some (p.C.length, 8, off', n', p.W, p.H, p.C, out', Pl.dirs, ob', ()) := f1
      have hr : r45_6 (p.C.length, 8, off, n, p.W, p.H, p.C, out, Pl.dirs, ob, ()) = some (.inl (p.C.length, 8, off', n', p.W, p.H, p.C, out', Pl.dirs, ob', ())) := by
        unfold r45_6
        simp only [c1, c3, Int.le_refl, decide_true, Bool.and_self, cond_true, Nat.add_zero, e1, Option.bind_some, Int.toNat_natCast, f1']
      rw [hr]
      exact ih _ (by omega) out' off' n' ob' v rfl f2 f3 (by omega)

theorem l45_0_spec (a b : Int) (C : List Int) (x y : Int) (n : Nat) (hn : n ≤ 1000000) : ∀ (t k : Nat) (l : List Int), n - k = t → k ≤ n → l.length = n → l.take k = List.replicate k (-1) →
    l45_0 (n, (k : Int), a, b, C, x, y, l, ()) = some (n, a, b, C, x, y, List.replicate n (-1), ()) := by
  intro t
  induction t with
  | zero =>
    intro k l ht hk hl htk
    have : k = n := by omega
    subst this
    unfold l45_0
    rw [iterO_eq]
    have hr : r45_0 (k, (k : Int), a, b, C, x, y, l, ()) = some (.inr (k, a, b, C, x, y, l, ())) := by unfold r45_0; simp
    rw [hr]
    rw [← hl, List.take_length, hl] at htk
    rw [htk]
  | succ t ih =>
    intro k l ht hk hl htk
    have hkn : k < n := by omega
    have c1 : (k : Int) < (n : Int) := by omega
    have c2 : (0 : Int) ≤ (k : Int) := by omega
    have w0 : IntKind.i64.wrap ((k : Int) + 1) = ((k + 1 : Nat) : Int) := by rw [w64 (by omega) (by omega)]; rfl
    have hlt : k < l.length := by omega
    unfold l45_0
    rw [iterO_eq]
    have hr : r45_0 (n, (k : Int), a, b, C, x, y, l, ()) = some (.inl (n, ((k + 1 : Nat) : Int), a, b, C, x, y, l.set k (-1), ())) := by
      unfold r45_0
      simp only [c1, c2, decide_true, Bool.and_self, cond_true, Nat.zero_add, Int.toNat_natCast, List.getElem?_eq_getElem hlt, Option.bind_some, w0]
    rw [hr]
    refine ih (k + 1) _ (by omega) (by omega) (by rw [List.length_set]; exact hl) ?_
    rw [List.take_add_one, List.getElem?_set_self hlt, List.take_set_of_le (Nat.le_refl _), htk]
    simp [List.replicate_succ']

theorem size_w {p : Pl} (hp : p.Ok) : IntKind.i64.wrap (p.W * p.H) = (p.C.length : Int) := by
  rw [← hp.len, w64 (by have := hp.few; omega) (by have := hp.few; omega)]

theorem f45_spec {p : Pl} (hp : p.Ok) {goal : Pt} (hg : p.free goal) : ∃ l, f45 (p.W, p.H, p.C, goal.X, goal.Y, ()) = some (l.length, 0, l, ()) ∧ Pl.IsDist p goal l := by
  have hfew := hp.few
  have hsz := size_w hp
  have c1 : (0 : Int) ≤ (p.C.length : Int) := by omega
  have c2 : (p.C.length : Int) * 8 ≤ 140737488355328 := by omega
  have c3 : (p.C.length : Int) ≤ 140737488355328 := by omega
  have h0 := l45_0_spec p.W p.H p.C goal.X goal.Y p.C.length (by omega) p.C.length 0 (List.replicate p.C.length 0) (by omega) (by omega) (by simp) (by simp)
  have h0' : l45_0 (p.C.length, 0, p.W, p.H, p.C, goal.X, goal.Y, List.replicate p.C.length 0, ()) = some (p.C.length, p.W, p.H, p.C, goal.X, goal.Y, List.replicate p.C.length (-1), ()) := h0
  have hlen : p.none_.length = p.C.length := by simp [Pl.none_]
  obtain ⟨b1, b2⟩ := ix_in hp hlen hg.1
  have g1 := g_get hp hlen hg.1
  have hri := Pl.RI.init hp hg
  have hmu : Pl.rmu (p.none_.set (p.ix goal) 0) [goal] ≤ 45000000 := by
    have h1 : ∀ l : List Int, (∀ x ∈ l, x ≤ 0) → lsum (fun x => if 0 ≤ x then x.toNat else 50000) l ≤ 50000 * l.length := by
      intro l
      induction l with
      | nil => intro _; simp [lsum]
      | cons x l ih =>
        intro hx
        have h2 := ih (fun y hy => hx y (List.mem_cons_of_mem _ hy))
        have h3 := hx x (List.mem_cons_self ..)
        have h4 : (if 0 ≤ x then x.toNat else 50000) ≤ 50000 := by split <;> omega
        simp only [lsum, List.map_cons, List.sum_cons, List.length_cons, Nat.mul_add] at *
        omega
    have h2 := h1 (p.none_.set (p.ix goal) 0) (fun x hx => by
      rcases List.mem_or_eq_of_mem_set hx with h | h
      · have := List.eq_of_mem_replicate h; omega
      · omega)
    rw [List.length_set, hlen] at h2
    simp only [Pl.rmu, List.length_singleton]
    omega
  obtain ⟨l, f1, f2⟩ := l45_6_spec hp (goal := goal) _ (p.none_.set (p.ix goal) 0) 0 1 [goal] goal rfl (by simp) hri hmu
  refine ⟨l, ?_, f2⟩
  have hl := f2.len
  have i1 := ix_w hp hg.1
  have hfd : f55 = (8, Pl.dirs) := rfl
  rw [hlen] at b2
  unfold f45
  simp only [f11_spec (p := p) (by omega), hp.vld, Option.bind_some, Bool.not_true, cond_false, f54_spec hp, hg, decide_true, hsz, c1, c2, c3, Int.le_refl, Bool.and_self, cond_true, Int.toNat_natCast, h0', i1, b1, b2, Nat.zero_add]
  have g1' : (List.replicate p.C.length (-1 : Int))[p.ix goal]? = some (p.g p.none_ goal) := g1
  have f1' : l45_6 (p.C.length, 8, 0, 1, p.W, p.H, p.C, (List.replicate p.C.length (-1)).set (p.ix goal) 0, Pl.dirs, [⟨goal.X, goal.Y⟩], ()) = some (p.C.length, l, ()) := f1
  simp only [g1', hfd, Option.bind_some, f1', hl]

theorem f45_none {p : Pl} (hp : p.Ok) {goal : Pt} (hg : ¬ p.free goal) : f45 (p.W, p.H, p.C, goal.X, goal.Y, ()) = some (0, 7, [], ()) := by
  have hfew := hp.few
  unfold f45
  simp only [f11_spec (p := p) (by omega), hp.vld, Option.bind_some, Bool.not_true, cond_false, f54_spec hp, hg, decide_false, Bool.not_false, cond_true]
theorem f45_bad {p : Pl} (hl : p.C.length ≤ 1000000) (hv : p.vld = false) (x y : Int) : f45 (p.W, p.H, p.C, x, y, ()) = some (0, 1, [], ()) := by
  unfold f45
  simp only [f11_spec hl, hv, Option.bind_some, Bool.not_false, cond_true]

end Go.AE
