/-
  Plain laws of the chapter Path: both directions; lengths; no walk is shorter.
-/
import Derived.Test.YtfeoolgkbljggaaP9
import Derived.Test.YtfeoolgkbljggaaL1
namespace Go.AE
open Go.Proofs Go.RowKit
set_option maxRecDepth 100000

theorem pathSymmetric_plain (x : Int × Int × List Int × Int × Int × Int × Int × Unit) : f7 x = some (true, ()) := by
  obtain ⟨w, h, l, a, b, c, d, ⟨⟩⟩ := x
  unfold f7
  simp only [f14_spec, Option.bind_some, Bool.not_true, cond_false, f15_spec]
  by_cases hl : l.length ≤ 400
  · obtain ⟨r1, h1, a1⟩ := f21_ans (p := ⟨w, h, l⟩) hl ⟨a, b⟩ ⟨c, d⟩
    obtain ⟨r2, h2, a2⟩ := f21_ans (p := ⟨w, h, l⟩) hl ⟨c, d⟩ ⟨a, b⟩
    simp only at h1 h2
    simp only [hl, decide_true, Bool.not_true, cond_false, h1, h2, Option.bind_some]
    have hv : ∃ t, f27 (w, h, l, a, b, c, d, ()) = some (t, ()) ∧ f27 (w, h, l, c, d, a, b, ()) = some (t, ()) := by
      cases hv : (⟨w, h, l⟩ : Pl).vld with
      | false => exact ⟨false, f27_bad (p := ⟨w, h, l⟩) (by simp only; omega) hv _ _ _ _, f27_bad (p := ⟨w, h, l⟩) (by simp only; omega) hv _ _ _ _⟩
      | true =>
        have hp := Pl.vld_ok hv hl
        obtain ⟨t, e1, e2⟩ := f27_spec hp ⟨a, b⟩ ⟨c, d⟩
        obtain ⟨u, e3, e4⟩ := f27_spec hp ⟨c, d⟩ ⟨a, b⟩
        have : u = t := by
          rw [Bool.eq_iff_iff, e2, e4]
          exact ⟨fun ⟨k1, k2, k3⟩ => ⟨k2, k1, vis_symm k3⟩, fun ⟨k1, k2, k3⟩ => ⟨k2, k1, vis_symm k3⟩⟩
        subst this
        exact ⟨u, e1, e3⟩
    obtain ⟨t, v1, v2⟩ := hv
    cases a1 with
    | bad v =>
      cases a2 with
      | bad _ => simp only [beq_self_eq_true, cond_true, v1, v2, Option.bind_some]
      | none p _ => rw [p.vld] at v; cases v
      | far p => rw [p.vld] at v; cases v
      | path p => rw [p.vld] at v; cases v
    | none p q =>
      cases a2 with
      | bad v => rw [p.vld] at v; cases v
      | none _ _ => simp only [beq_self_eq_true, cond_true, v1, v2, Option.bind_some]
      | far _ s t => exact (q ⟨t, s⟩).elim
      | path _ s t => exact (q ⟨t, s⟩).elim
    | far p s t k m =>
      cases a2 with
      | bad v => rw [p.vld] at v; cases v
      | none _ q => exact (q ⟨t, s⟩).elim
      | far _ _ _ _ _ => simp only [beq_self_eq_true, cond_true, v1, v2, Option.bind_some]
      | path _ _ _ k' m' => have := (Pl.dist_symm p s t k k').1.2 m'; omega
    | path p s t k m =>
      cases a2 with
      | bad v => rw [p.vld] at v; cases v
      | none _ q => exact (q ⟨t, s⟩).elim
      | far _ _ _ k' m' => have := (Pl.dist_symm p s t k k').1.1 m; omega
      | path _ _ _ k' m' =>
        have := (Pl.dist_symm p s t k k').2 m
        simp only [beq_self_eq_true, this, cond_true, v1, v2, Option.bind_some]
  · simp only [hl, decide_false, Bool.not_false, cond_true]

theorem pathLengths_plain (x : Int × Int × List Int × List Pt × Unit) : f12 x = some (true, ()) := by
  obtain ⟨w, h, l, m, ⟨⟩⟩ := x
  unfold f12
  simp only [f14_spec, Option.bind_some, Bool.not_true, cond_false, f15_spec]
  by_cases hl : l.length ≤ 400
  · by_cases hm : (m.length : Int) > 200
    · simp only [hl, hm, decide_true, Bool.not_true, cond_false, cond_true]
    · have r1 : roomy (0 + m.length) 16 = true := roomy_ok (by omega)
      have z1 : (0 + (0 + m.length) ≤ ([] ++ m).length) = True := by simp
      have tt : List.take (0 + m.length) (List.drop 0 ([] ++ m)) = m := by simp
      have same : ∃ e n, f35 (w, h, l, m, ()) = some (n, e, ()) ∧ f36 (w, h, l, m, ()) = some (n, e, ()) := by
        cases hv : (⟨w, h, l⟩ : Pl).vld with
        | false => exact ⟨_, _, f35_bad (p := ⟨w, h, l⟩) (by simp only; omega) hv m, f36_bad (p := ⟨w, h, l⟩) (by simp only; omega) hv m⟩
        | true => exact ⟨_, _, f35_spec (Pl.vld_ok hv hl) (l := m) (by omega), f36_spec (Pl.vld_ok hv hl) (l := m) (by omega)⟩
      obtain ⟨e, n, e1, e2⟩ := same
      simp only [hl, hm, decide_true, decide_false, Bool.not_true, cond_false, r1, cond_true, z1, tt, e1, e2, Option.bind_some, beq_self_eq_true, f23_spec (a := m) (b := m) (by omega)]
  · simp only [hl, decide_false, Bool.not_false, cond_true]

/-! ### No walk is shorter -/

theorem st_vals {p : Pl} {c d : Pt} {w : Int} (h : p.st c d = some w) : w = 70 ∨ w = 99 := by
  unfold Pl.st at h
  split at h
  · split at h
    · cases h; exact .inl rfl
    · split at h
      · cases h; exact .inr rfl
      · cases h
  · cases h

theorem len2_snoc {p : Pl} {c : Pt} {w : Int} : ∀ (Q : List Pt) (a b : Pt) (n : Int), p.len2 a Q = some n → (a :: Q).getLast? = some b → p.stp b c = some w → p.len2 a (Q ++ [c]) = some (n + w) := by
  intro Q
  induction Q with
  | nil =>
    intro a b n h1 h2 h3
    have : a = b := by simpa using h2
    subst this
    have : n = 0 := by unfold Pl.len2 at h1; injection h1 with h1; exact h1.symm
    subst this
    simp only [List.nil_append, Pl.len2, h3, Option.bind_some, Option.map_some]
    congr 1; omega
  | cons x Q ih =>
    intro a b n h1 h2 h3
    unfold Pl.len2 at h1
    cases hs : p.stp a x with
    | none => rw [hs] at h1; cases h1
    | some v =>
      rw [hs] at h1
      cases hq : p.len2 x Q with
      | none => rw [hq] at h1; cases h1
      | some m =>
        rw [hq] at h1
        have hn : v + m = n := by simpa using h1
        have := ih x b m hq (by rw [List.getLast?_cons_cons] at h2; exact h2) h3
        simp only [List.cons_append, Pl.len2, hs, Option.bind_some, this, Option.map_some]
        congr 1; omega

/-- What a walk so far says. -/
structure WI (p : Pl) (s c : Pt) (P : List Pt) (n : Int) : Prop where
  shape : ∃ Q, P = s :: Q ∧ p.len2 s Q = some n
  last : P.getLast? = some c
  free : ∀ x ∈ P, p.free x
  reach : Pl.R p s c n

theorem WI.step {p : Pl} {s c d : Pt} {P : List Pt} {n w : Int} (h : WI p s c P n) (hs : p.stp c d = some w) : WI p s d (P ++ [d]) (n + w) := by
  obtain ⟨Q, rfl, hq⟩ := h.shape
  refine ⟨⟨Q ++ [d], rfl, len2_snoc Q s c n hq h.last hs⟩, by rw [List.getLast?_append]; rfl, fun x hx => ?_, h.reach.snoc hs⟩
  rcases List.mem_append.1 hx with hx | hx
  · exact h.free x hx
  · rw [List.mem_singleton.1 hx]; exact (stp_free hs).2

theorem l13_spec {p : Pl} (hp : p.Ok) {s : Pt} {M : List Int} (hM : ∀ m ∈ M, 0 ≤ m) (hl : M.length ≤ 200) : ∀ (t k n : Nat) (ob : List Pt) (c : Pt) (v : Int), M.length - k = t → k ≤ M.length → n ≤ ob.length → n ≤ k + 1 → 0 ≤ v → v ≤ 99 * k → WI p s c (ob.take n) v →
    ∃ n' ob' c' v', l13_0 (M, n, v, 8, (k : Int), p.W, p.H, p.C, s.X, s.Y, ob, c.X, c.Y, Pl.dirs, ()) = some (.inr (n', v', p.W, p.H, p.C, s.X, s.Y, ob', c'.X, c'.Y, ())) ∧ n' ≤ ob'.length ∧ n' ≤ 201 ∧ WI p s c' (ob'.take n') v' := by
  intro t
  induction t with
  | zero =>
    intro k n ob c v ht hk hob hn v0 v1 h
    have : k = M.length := by omega
    subst this
    refine ⟨n, ob, c, v, ?_, hob, by omega, h⟩
    have c1 : ¬ ((M.length : Nat) : Int) < (M.length : Int) := by omega
    have : r13_0 (M, n, v, 8, (M.length : Int), p.W, p.H, p.C, s.X, s.Y, ob, c.X, c.Y, Pl.dirs, ()) = some (.inr (.inr (n, v, p.W, p.H, p.C, s.X, s.Y, ob, c.X, c.Y, ()))) := by
      unfold r13_0
      simp only [c1, decide_false, cond_false]
    unfold l13_0
    rw [iterO_eq, this]
  | succ t ih =>
    intro k n ob c v ht hk hob hn v0 v1 h
    have hkm : k < M.length := by omega
    have c1 : (k : Int) < (M.length : Int) := by omega
    have hm0 := hM M[k] (List.getElem_mem hkm)
    have t0 := Int.tmod_nonneg 8 hm0
    have t1 := Int.tmod_lt_of_pos M[k] (b := 8) (by omega)
    obtain ⟨d, e1, e2, e3⟩ := dirs_get (k := (M[k].tmod 8).toNat) (by omega)
    have e1' : Pl.dirs[0 + (M[k].tmod 8).toNat]? = some d := by rw [Nat.zero_add]; exact e1
    have c2 : M[k].tmod 8 < ((8 : Nat) : Int) := t1
    have hcf : p.free c := h.free c (List.mem_of_getLast? h.last)
    obtain ⟨⟨x1, x2⟩, y1, y2⟩ := inP_near hp hcf.1
    obtain ⟨⟨d1, d2⟩, ⟨d3, d4⟩, _⟩ := dirs_small e2
    have w1 : IntKind.i64.wrap (c.X + d.X) = c.X + d.X := w64 (by omega) (by omega)
    have w2 : IntKind.i64.wrap (c.Y + d.Y) = c.Y + d.Y := w64 (by omega) (by omega)
    have wk : IntKind.i64.wrap ((k : Int) + 1) = ((k + 1 : Nat) : Int) := by rw [w64 (by omega) (by omega)]; rfl
    have hf := f32_spec hp c (Pl.add c d)
    rw [stp_add e2] at hf
    have hf' : f32 (p.W, p.H, p.C, c.X, c.Y, c.X + d.X, c.Y + d.Y, ()) = some ((p.st c d).getD 0, (p.st c d).isSome, ()) := hf
    cases hs : p.st c d with
    | none =>
      rw [hs] at hf'
      obtain ⟨n', ob', c', v', r1, r2⟩ := ih (k + 1) n ob c v (by omega) (by omega) hob (by omega) v0 (by omega) h
      refine ⟨n', ob', c', v', ?_, r2⟩
      have : r13_0 (M, n, v, 8, (k : Int), p.W, p.H, p.C, s.X, s.Y, ob, c.X, c.Y, Pl.dirs, ()) = some (.inl (M, n, v, 8, ((k + 1 : Nat) : Int), p.W, p.H, p.C, s.X, s.Y, ob, c.X, c.Y, Pl.dirs, ())) := by
        unfold r13_0
        simp only [c1, decide_true, cond_true, idxO_nat, List.getElem?_eq_getElem hkm, Option.bind_some, t0, c2, Bool.and_self, e1', w1, w2, hf', Option.isSome_none, cond_false, j13_37, wk]
      unfold l13_0
      rw [iterO_eq, this]
      exact r1
    | some w =>
      rw [hs] at hf'
      have hstp : p.stp c (Pl.add c d) = some w := by rw [stp_add e2]; exact hs
      have hw := Pl.st_pos hs
      have hvals := st_vals hs
      have wv : IntKind.i64.wrap (v + w) = v + w := w64 (by omega) (by omega)
      have rr : roomy (n + 1) 16 = true := roomy_ok (by omega)
      have zz : (0 + n ≤ ob.length) = True := by simp; omega
      have hlen : (ob.take n ++ [Pl.add c d]).length = n + 1 := by rw [List.length_append, take_len0 hob]; rfl
      obtain ⟨n', ob', c', v', r1, r2⟩ := ih (k + 1) (n + 1) (ob.take n ++ [Pl.add c d]) (Pl.add c d) (v + w) (by omega) (by omega) (by omega) (by omega) (by omega) (by omega) (by
        rw [List.take_of_length_le (by omega)]; exact h.step hstp)
      refine ⟨n', ob', c', v', ?_, r2⟩
      have : r13_0 (M, n, v, 8, (k : Int), p.W, p.H, p.C, s.X, s.Y, ob, c.X, c.Y, Pl.dirs, ()) = some (.inl (M, n + 1, v + w, 8, ((k + 1 : Nat) : Int), p.W, p.H, p.C, s.X, s.Y, ob.take n ++ [Pl.add c d], (Pl.add c d).X, (Pl.add c d).Y, Pl.dirs, ())) := by
        unfold r13_0
        simp only [c1, decide_true, cond_true, idxO_nat, List.getElem?_eq_getElem hkm, Option.bind_some, t0, c2, Bool.and_self, e1', w1, w2, hf', Option.isSome_some, Option.getD_some, j13_37, j13_58, wk, zz, rr, wv, List.drop_zero]
        rcases hvals with rfl | rfl <;> rfl
      unfold l13_0
      rw [iterO_eq, this]
      exact r1

theorem pathShortest_plain (x : Int × Int × List Int × Int × Int × List Int × Unit) (hw : ∀ m ∈ x.2.2.2.2.2.1, 0 ≤ m) : f13 x = some (true, ()) := by
  obtain ⟨w, h, l, a, b, M, ⟨⟩⟩ := x
  simp only at hw
  unfold f13
  simp only [f14_spec, Option.bind_some, Bool.not_true, cond_false, f15_spec]
  by_cases hl : l.length ≤ 400
  · by_cases hm : (M.length : Int) > 200
    · simp only [hl, hm, decide_true, Bool.not_true, cond_false, cond_true]
    · simp only [hl, hm, decide_true, decide_false, Bool.not_true, cond_false]
      cases hv : (⟨w, h, l⟩ : Pl).vld with
      | false =>
        have e1 : f35 (w, h, l, [⟨a, b⟩], ()) = some (0, 1, ()) := f35_bad (p := ⟨w, h, l⟩) (by simp only; omega) hv _
        have e2 : f24 (w, h, l, ()) = some (false, ()) := by have := f24_spec (p := ⟨w, h, l⟩) (by simp only; omega); rw [hv] at this; exact this
        have e3 : ((1 : Int) != 0) = true := rfl
        simp only [e1, e2, e3, Option.bind_some, cond_true, Bool.not_false]
      | true =>
        have hp := Pl.vld_ok hv hl
        have e1 := f35_spec hp (l := [⟨a, b⟩]) (by simp)
        simp only at e1
        have e2 : f24 (w, h, l, ()) = some (true, ()) := by have := f24_spec (p := ⟨w, h, l⟩) (by simp only; omega); rw [hv] at this; exact this
        have e3 := f25_spec hp ⟨a, b⟩
        simp only at e3
        by_cases hg : (⟨w, h, l⟩ : Pl).free ⟨a, b⟩
        · have el : (⟨w, h, l⟩ : Pl).leng [⟨a, b⟩] = (0, 0) := by
            have : ∀ x ∈ [(⟨a, b⟩ : Pt)], (⟨w, h, l⟩ : Pl).free x := fun x hx => by rw [List.mem_singleton.1 hx]; exact hg
            simp only [Pl.leng, if_pos this, Pl.len2]
          rw [el] at e1
          have hfd : f31 = (8, Pl.dirs) := rfl
          obtain ⟨n, ob, c, v, r1, r2, r3, r4⟩ := l13_spec hp (s := ⟨a, b⟩) hw (by omega) _ 0 1 [⟨a, b⟩] ⟨a, b⟩ 0 rfl (by omega) (by simp) (by omega) (by omega) (by omega) ⟨⟨[], rfl, rfl⟩, rfl, fun x hx => by rw [List.mem_singleton.1 hx]; exact hg, .nil⟩
          have r1' : l13_0 (M, 1, 0, 8, 0, w, h, l, a, b, [⟨a, b⟩], a, b, Pl.dirs, ()) = some (.inr (n, v, w, h, l, a, b, ob, c.X, c.Y, ())) := r1
          have hcf := r4.free c (List.mem_of_getLast? r4.last)
          obtain ⟨m, u1, u2⟩ := f39_spec hp hcf
          have hle := u2.least r4.reach rfl
          obtain ⟨n2, ob2, s1, s2, s3, s4⟩ := f21_spec hp u2 hg hcf hle.1
          simp only at s1
          obtain ⟨q1, q2, q3, _⟩ := Pl.path_facts hp hcf u2 _ ⟨a, b⟩ hg.1 hle.1 (Int.self_le_toNat _)
          have hlen := congrArg List.length s4
          rw [take_len0 s2] at hlen
          have hlen' : n2 = ((⟨w, h, l⟩ : Pl).walk m c 39600 ⟨a, b⟩).length + 1 := by rw [hlen]; rfl
          have g1 : ¬ (⟨w, h, l⟩ : Pl).g m ⟨a, b⟩ > v := by omega
          have g2 : ((n2 : Int) == 0) = false := by rw [beq_eq_false_iff_ne]; omega
          have g3 : (0 : Int) < (n2 : Int) := by omega
          have g4 : ob2[0]? = some ⟨a, b⟩ := by
            have := congrArg (fun z => z[0]?) s4
            rw [List.getElem?_take, if_pos (by omega)] at this
            exact this
          have w1 : IntKind.i64.wrap ((n2 : Int) - 1) = ((n2 - 1 : Nat) : Int) := by rw [w64 (by omega) (by omega)]; omega
          have g5 : (0 : Int) ≤ ((n2 - 1 : Nat) : Int) := by omega
          have g6 : ((n2 - 1 : Nat) : Int) < (n2 : Int) := by omega
          have g7 : ob2[0 + (n2 - 1)]? = some c := by
            rw [Nat.zero_add]
            have := q3
            rw [← s4, List.getLast?_eq_getElem?, take_len0 s2, List.getElem?_take, if_pos (by omega)] at this
            exact this
          have z1 : (0 + n ≤ ob.length) = True := by simp; omega
          have z2 : (0 + n2 ≤ ob2.length) = True := by simp; omega
          obtain ⟨Q, k1, k2⟩ := r4.shape
          have l1 : (⟨w, h, l⟩ : Pl).leng (ob.take n) = (v, 0) := by
            have hall := r4.free
            rw [k1] at hall ⊢
            simp only [Pl.leng, if_pos hall, k2]
          have l2 : (⟨w, h, l⟩ : Pl).leng (ob2.take n2) = ((⟨w, h, l⟩ : Pl).g m ⟨a, b⟩, 0) := by
            rw [s4]
            have hall : ∀ x ∈ (⟨w, h, l⟩ : Pl).path m ⟨a, b⟩ c, (⟨w, h, l⟩ : Pl).free x := fun x hx => by
              obtain ⟨i, hi⟩ := List.getElem?_of_mem hx
              exact (q1 i x hi).1
            unfold Pl.path at hall ⊢
            simp only [Pl.leng, if_pos hall, q2]
          have v1 := f35_spec hp (l := ob.take n) (by rw [take_len0 r2]; omega)
          have v2 := f35_spec hp (l := ob2.take n2) (by rw [take_len0 s2]; omega)
          rw [l1] at v1
          rw [l2] at v2
          simp only at v1 v2
          simp only [e1, bne_self_eq_false, cond_false, hfd, r1', Option.bind_some, Sum.elim_inr, s1, g1, g2, g3, g4, decide_true, decide_false, Bool.and_self, cond_true, w1, g5, g6, Int.toNat_natCast, g7, beq_self_eq_true, Bool.not_true, z1, z2, List.drop_zero, v1, v2]
        · have el : (⟨w, h, l⟩ : Pl).leng [⟨a, b⟩] = (0, 7) := by
            have : ¬ ∀ x ∈ [(⟨a, b⟩ : Pt)], (⟨w, h, l⟩ : Pl).free x := fun hh => hg (hh _ (List.mem_singleton.2 rfl))
            simp only [Pl.leng, if_neg this]
          rw [el] at e1
          have e5 : ((⟨w, h, l⟩ : Pl).val ⟨a, b⟩ != 1) = true := by
            have : (⟨w, h, l⟩ : Pl).val ⟨a, b⟩ ≠ 1 := fun q => hg (val_free.1 q)
            simpa using this
          have e4 : ((7 : Int) != 0) = true := rfl
          simp only [e1, e2, e3, e4, e5, Option.bind_some, cond_true, Bool.not_true, cond_false]
  · simp only [hl, decide_false, Bool.not_false, cond_true]

end Go.AE
