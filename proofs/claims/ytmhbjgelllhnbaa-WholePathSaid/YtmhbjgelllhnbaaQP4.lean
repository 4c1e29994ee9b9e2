/-
  Plain laws of the chapter Path, part 4: the costs that are made final in their order.
-/
import Derived.Test.YtmhbjgelllhnbaaQP3
namespace Go.AE
open Go.Proofs Go.RowKit
set_option maxRecDepth 100000

theorem dirs_lit : [Pt.mk (1 : Int) (0 : Int), Pt.mk (1 : Int) (1 : Int), Pt.mk (0 : Int) (1 : Int), Pt.mk (-1 : Int) (1 : Int), Pt.mk (-1 : Int) (0 : Int), Pt.mk (-1 : Int) (-1 : Int), Pt.mk (0 : Int) (-1 : Int), Pt.mk (1 : Int) (-1 : Int)] = Pl.dirs := rfl

theorem take_len0 {α : Type} {l : List α} {n : Nat} (h : n ≤ l.length) : (l.take n).length = n := by rw [List.length_take]; omega

theorem l25_6_spec {p : Pl} (hp : p.Ok) {goal c : Pt} {out : List Int} {N : Int} (hc : p.free c) (hN : p.g out c = N) : ∀ (t k : Nat) (ob : List Vs) (n : Nat), 8 - k = t → k ≤ 8 → n ≤ ob.length → n + t ≤ 80000 → HP (ob.take n) n → Pl.DI p goal out (ob.take n) N c (Pl.dirs.drop k) →
    ∃ n' ob', l25_6 (p.C.length, (k : Int), p.W, p.H, p.C, out, n, c.X, c.Y, N, ob, ()) = some (p.C.length, p.W, p.H, p.C, out, n', ob', ()) ∧ n' ≤ ob'.length ∧ n' ≤ n + t ∧ HP (ob'.take n') n' ∧ Pl.DI p goal out (ob'.take n') N c [] := by
  intro t
  induction t with
  | zero =>
    intro k ob n ht hk hob hn hh D
    have : k = 8 := by omega
    subst this
    refine ⟨n, ob, ?_, hob, by omega, hh, D⟩
    unfold l25_6
    rw [iterO_eq]
    have : r25_6 (p.C.length, ((8 : Nat) : Int), p.W, p.H, p.C, out, n, c.X, c.Y, N, ob, ()) = some (.inr (p.C.length, p.W, p.H, p.C, out, n, ob, ())) := rfl
    rw [this]
  | succ t ih =>
    intro k ob n ht hk hob hn hh D
    have hk8 : k < 8 := by omega
    obtain ⟨d, e1, e2, e3⟩ := dirs_get hk8
    rw [e3] at D
    obtain ⟨⟨x1, x2⟩, y1, y2⟩ := inP_near hp hc.1
    obtain ⟨⟨d1, d2⟩, ⟨d3, d4⟩, _⟩ := dirs_small e2
    have c1 : (k : Int) < 8 := by omega
    have c2 : (0 : Int) ≤ (k : Int) := by omega
    have w0 : IntKind.i64.wrap ((k : Int) + 1) = ((k + 1 : Nat) : Int) := by rw [w64 (by omega) (by omega)]; rfl
    have hf := f27_spec hp (c := c) (d := d) (by unfold near; omega) (by unfold near; omega) e2
    have hcost := D.bound hp
    have hm0 := D.m0
    have go : ∀ (ob' : List Vs) (n' : Nat), r25_6 (p.C.length, (k : Int), p.W, p.H, p.C, out, n, c.X, c.Y, N, ob, ()) = some (.inl (p.C.length, ((k + 1 : Nat) : Int), p.W, p.H, p.C, out, n', c.X, c.Y, N, ob', ())) → n' ≤ ob'.length → n' ≤ n + 1 → HP (ob'.take n') n' → Pl.DI p goal out (ob'.take n') N c (Pl.dirs.drop (k + 1)) →
        ∃ n2 ob2, l25_6 (p.C.length, (k : Int), p.W, p.H, p.C, out, n, c.X, c.Y, N, ob, ()) = some (p.C.length, p.W, p.H, p.C, out, n2, ob2, ()) ∧ n2 ≤ ob2.length ∧ n2 ≤ n + (t + 1) ∧ HP (ob2.take n2) n2 ∧ Pl.DI p goal out (ob2.take n2) N c [] := by
      intro ob' n' hr h1 h2 h3 h4
      obtain ⟨n2, ob2, q1, q2, q3, q4, q5⟩ := ih (k + 1) ob' n' (by omega) (by omega) h1 (by omega) h3 h4
      refine ⟨n2, ob2, ?_, q2, by omega, q4, q5⟩
      unfold l25_6
      rw [iterO_eq, hr]
      exact q1
    cases hs : p.st c d with
    | none =>
      rw [hs] at hf
      refine go ob n ?_ hob (by omega) hh (D.pass hN (fun w hw => by rw [hs] at hw; cases hw))
      unfold r25_6
      simp only [c1, c2, decide_true, Bool.and_self, cond_true, dirs_lit, idxO_nat, e1, Option.bind_some, hf, cond_false, j25_43, w0]
    | some w =>
      rw [hs] at hf
      have hw := Pl.st_pos hs
      have hfr := Pl.st_free hs
      have i2 : IntKind.i64.wrap (IntKind.i64.wrap ((c.Y + d.Y) * p.W) + (c.X + d.X)) = ((p.ix (Pl.add c d) : Nat) : Int) := ix_w hp (c := Pl.add c d) hfr.2.1
      have g2 := g_get hp D.len hfr.2.1
      obtain ⟨b3, b4⟩ := ix_in hp D.len hfr.2.1
      rw [D.len] at b4
      by_cases q1 : p.g out (Pl.add c d) < 0
      · have w3 : IntKind.i64.wrap (N + w) = N + w := w64 (by omega) (by omega)
        have hl : (ob.take n).length = n := take_len0 hob
        obtain ⟨h', f1, f2, f3, f4⟩ := f46_spec (h := ob.take n) (v := ⟨c.X + d.X, c.Y + d.Y, N + w⟩) (by omega) (by rw [hl]; exact hh)
        rw [hl] at f1 f2
        simp only at f1
        refine go h' h'.length ?_ (Nat.le_refl _) (by omega) (by rw [List.take_length]; exact f3) (by rw [List.take_length]; exact D.push e2 hs hN q1 f4)
        unfold r25_6
        simp only [c1, c2, decide_true, Bool.and_self, cond_true, dirs_lit, idxO_nat, e1, Option.bind_some, hf, i2, b3, b4, Nat.zero_add, Int.toNat_natCast, g2, q1, hob, List.drop_zero, w3, f1, j25_43, w0]
      · refine go ob n ?_ hob (by omega) hh (D.pass hN (fun w' hw' => by omega))
        unfold r25_6
        simp only [c1, c2, decide_true, decide_false, Bool.and_self, cond_true, cond_false, dirs_lit, idxO_nat, e1, Option.bind_some, hf, i2, b3, b4, Nat.zero_add, Int.toNat_natCast, g2, q1, j25_43, w0]

theorem l25_0_spec {p : Pl} (hp : p.Ok) {goal : Pt} : ∀ (t : Nat) (out : List Int) (ob : List Vs) (n : Nat) (m : Int) (c : Pt), Pl.dmu out (ob.take n) = t → n ≤ ob.length → HP (ob.take n) n → Pl.DI p goal out (ob.take n) m c [] → t ≤ 70000 →
    ∃ out', l25_0 (p.C.length, p.W, p.H, p.C, out, n, ob, ()) = some (p.C.length, out', ()) ∧ Pl.IsDist p goal out' := by
  intro t
  induction t using Nat.strongRecOn with
  | _ t ih =>
    intro out ob n m c ht hob hh D hb
    have hl : (ob.take n).length = n := take_len0 hob
    unfold l25_0
    rw [iterO_eq]
    by_cases h0 : n = 0
    · subst h0
      have hr : r25_0 (p.C.length, p.W, p.H, p.C, out, 0, ob, ()) = some (.inr (p.C.length, out, ())) := rfl
      rw [hr]
      rw [List.take_zero] at D
      exact ⟨out, rfl, D.done⟩
    · have hnb : n ≤ 70000 := by unfold Pl.dmu at ht; omega
      obtain ⟨v, o, k, f1, f2, f3, f4, f5, f6⟩ := f45_spec (h := ob.take n) (by omega) (by omega) (by rw [hl]; exact hh)
      rw [hl] at f1 f2 f3
      obtain ⟨v1, v2, v3, v4⟩ := D.hge v ((f5 v).2 (.inl rfl))
      have hkl : (o.take k).length = k := take_len0 (by omega)
      rw [hkl] at f4
      have c1 : (n : Int) > 0 := by omega
      have i1 : IntKind.i64.wrap (IntKind.i64.wrap (v.Y * p.W) + v.X) = ((p.ix (Pl.vc v) : Nat) : Int) := ix_w hp (c := Pl.vc v) v1.1
      have g1 := g_get hp D.len v1.1
      obtain ⟨b1, b2⟩ := ix_in hp D.len v1.1
      rw [D.len] at b2
      have hdl : (ob.take n).length = n := hl
      by_cases q : 0 ≤ p.g out (Pl.vc v)
      · have q' : p.g out (Pl.vc v) ≥ 0 := q
        have hr : r25_0 (p.C.length, p.W, p.H, p.C, out, n, ob, ()) = some (.inl (p.C.length, p.W, p.H, p.C, out, k, o, ())) := by
          unfold r25_0
          simp only [c1, decide_true, cond_true, Nat.zero_add, hob, List.drop_zero, f1, Option.bind_some, i1, b1, b2, Bool.and_self, Int.toNat_natCast, g1, q']
        rw [hr]
        exact ih _ (by unfold Pl.dmu at ht ⊢; omega) out o k m c rfl (by omega) f4 (D.skip f5 q) (by unfold Pl.dmu at ht ⊢; omega)
      · have q' : ¬ p.g out (Pl.vc v) ≥ 0 := q
        obtain ⟨D2, D3, D4⟩ := D.new hp f5 f6 (by omega)
        have hlen2 : (out.set (p.ix (Pl.vc v)) v.N).length = p.C.length := by rw [List.length_set]; exact D.len
        obtain ⟨n', ob', s1, s2, s3, s4, s5⟩ := l25_6_spec hp (goal := goal) (c := Pl.vc v) (out := out.set (p.ix (Pl.vc v)) v.N) (N := v.N) v1 D3 8 0 o k rfl (by omega) (by omega) (by omega) f4 (by rw [List.drop_zero]; exact D2)
        have s1' : l25_6 (p.C.length, 0, p.W, p.H, p.C, out.set (p.ix (Pl.vc v)) v.N, k, v.X, v.Y, v.N, o, ()) = some (p.C.length, p.W, p.H, p.C, out.set (p.ix (Pl.vc v)) v.N, n', ob', ()) := s1
        have hr : r25_0 (p.C.length, p.W, p.H, p.C, out, n, ob, ()) = some (.inl (p.C.length, p.W, p.H, p.C, out.set (p.ix (Pl.vc v)) v.N, n', ob', ())) := by
          unfold r25_0
          simp only [c1, decide_true, decide_false, cond_true, cond_false, Nat.zero_add, hob, List.drop_zero, f1, Option.bind_some, i1, b1, b2, Bool.and_self, Int.toNat_natCast, g1, q', s1']
        rw [hr]
        have hn' : (ob'.take n').length = n' := take_len0 s2
        have hcl := cnt_le (out.set (p.ix (Pl.vc v)) v.N)
        have hmu : Pl.dmu (out.set (p.ix (Pl.vc v)) v.N) (ob'.take n') < t := by
          unfold Pl.dmu at ht ⊢
          rw [List.length_set] at *
          rw [D4] at hcl ⊢
          omega
        exact ih _ hmu _ ob' n' v.N (Pl.vc v) rfl s2 s4 s5 (by omega)

theorem f25_spec {p : Pl} (hp : p.Ok) {goal : Pt} (hg : p.free goal) : ∃ l, f25 (p.W, p.H, p.C, goal.X, goal.Y, ()) = some (l.length, l, ()) ∧ Pl.IsDist p goal l := by
  have hfew := hp.few
  have hlt := Pl.ix_lt hp hg.1
  have D := Pl.DI.init hg
  have hlen : p.none_.length = p.C.length := by simp [Pl.none_]
  obtain ⟨l, f1, f2⟩ := l25_0_spec hp (goal := goal) _ p.none_ [⟨goal.X, goal.Y, 0⟩] 1 0 goal rfl (by simp) (fun j a b h0 hj => by omega) D (by unfold Pl.dmu; rw [hlen]; simp; omega)
  refine ⟨l, ?_, f2⟩
  have f1' : l25_0 (p.C.length, p.W, p.H, p.C, List.replicate p.C.length (-1), 1, [⟨goal.X, goal.Y, 0⟩], ()) = some (p.C.length, l, ()) := f1
  unfold f25
  simp only [size_w hp, f44_spec (n := p.C.length) (by omega) (by omega), Option.bind_some, f1', f2.len]

theorem f13_spec {p : Pl} (hp : p.Ok) {goal : Pt} (hg : p.free goal) : ∃ l, f13 (p.W, p.H, p.C, goal.X, goal.Y, ()) = some (l.length, 0, l, ()) ∧ Pl.IsDist p goal l := by
  obtain ⟨l, f1, f2⟩ := f25_spec hp hg
  have hfew := hp.few
  refine ⟨l, ?_, f2⟩
  unfold f13
  simp only [f22_spec (p := p) (by omega), hp.vld, Option.bind_some, Bool.not_true, cond_false, f24_spec hp, hg, decide_true, f1]
theorem f24_none {p : Pl} (hp : p.Ok) {goal : Pt} (hg : ¬ p.free goal) : f13 (p.W, p.H, p.C, goal.X, goal.Y, ()) = some (0, 7, [], ()) := by
  have hfew := hp.few
  unfold f13
  simp only [f22_spec (p := p) (by omega), hp.vld, Option.bind_some, Bool.not_true, cond_false, f24_spec hp, hg, decide_false, Bool.not_false, cond_true]
theorem f24_bad {p : Pl} (hl : p.C.length ≤ 1000000) (hv : p.vld = false) (x y : Int) : f13 (p.W, p.H, p.C, x, y, ()) = some (0, 1, [], ()) := by
  unfold f13
  simp only [f22_spec hl, hv, Option.bind_some, Bool.not_false, cond_true]

end Go.AE
