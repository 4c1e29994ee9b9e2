/-
  WholePath, part 8: the law, all together.
-/
import Derived.Test.YtmhbjgelllhnbaaT7
namespace Go.AE
open Go.Proofs Go.RowKit
set_option maxRecDepth 100000

theorem f5_spec (a : Int) : ∃ r, f5 (a, 40, ()) = some (r, ()) ∧ 0 ≤ r ∧ r < 40 := by
  have hb : -40 < a.tmod 40 ∧ a.tmod 40 < 40 := by
    rcases Int.le_total 0 a with h | h
    · rw [Int.tmod_eq_emod_of_nonneg h]; omega
    · have e : a.tmod 40 = -((-a).tmod 40) := by rw [Int.neg_tmod, Int.neg_neg]
      rw [e, Int.tmod_eq_emod_of_nonneg (by omega)]
      omega
  have q : ((40 : Int) == 0) = false := rfl
  unfold f5 j5_13
  by_cases h : a.tmod 40 < 0
  · refine ⟨a.tmod 40 + 40, ?_, by omega, by omega⟩
    have w : IntKind.i64.wrap (a.tmod 40 + 40) = a.tmod 40 + 40 := w64 (by omega) (by omega)
    simp only [q, cond_false, h, decide_true, cond_true, w, Option.bind_some]
  · refine ⟨a.tmod 40, ?_, by omega, by omega⟩
    simp only [q, cond_false, h, decide_false, Option.bind_some]

theorem val_one {p : Pl} {c : Pt} : (p.val c == 1) = decide (p.free c) := by
  rw [Bool.eq_iff_iff, beq_iff_eq, decide_eq_true_iff]
  exact val_free

theorem j3_19_spec {p : Pl} (hp : p.Ok) {S : List Int} (hS : f23 (p.W, p.H, p.C, ()) = some (p.C.length, S, ())) (hl : S.length = p.C.length) (hs : ∀ c, p.inP c → p.g S c = p.sq c) {r : Int} (hr : 0 ≤ r) (s t : Pt) :
    j3_19 (r, 0, p.W, p.H, p.C, s.X, s.Y, t.X, t.Y, p.W, p.H, p.C.length, (p.lev S (r + 1)).C, ()) = some (true, ()) := by
  have hfew := hp.few
  have hq : (p.lev S (r + 1)).C.length = p.C.length := by show (S.map (cellS (r + 1))).length = _; rw [List.length_map, hl]
  have hQ := Pl.lev_ok hp hl (r + 1)
  have hnn : ∀ x ∈ S, 0 ≤ x := fun x hx => by
    obtain ⟨i, hi, rfl⟩ := List.getElem_of_mem hx
    have hin := Pl.cellOf_in hp (i := i) (by omega)
    have h1 := g_get hp hl hin
    rw [Pl.ix_cellOf hp, List.getElem?_eq_getElem hi] at h1
    rw [Option.some.inj h1, hs _ hin]
    exact (Pl.sq_low hp hin).1
  have pfree : ∀ c, (p.lev S (r + 1)).free c → p.free c ∧ 0 < p.g S c := fun c hc => by
    have h1 := (Pl.lev_free hp hl).1 hc
    refine ⟨(Pl.sq_pos hp h1.1).1 ?_, by omega⟩
    rw [← hs c h1.1]
    omega
  obtain ⟨⟨n, cost, e, ob, ⟨⟩⟩, hf, hA⟩ := f25_ans (p := p.lev S (r + 1)) (by omega) s t
  have hf' : f9 (p.W, p.H, (p.lev S (r + 1)).C, s.X, s.Y, t.X, t.Y, ()) = some (n, cost, e, ob, ()) := hf
  have h61 := j3_61_spec hp hl hf' hA
  have z1 : p.C.length ≤ (p.lev S (r + 1)).C.length := by omega
  have t1 : List.take p.C.length (p.lev S (r + 1)).C = (p.lev S (r + 1)).C := List.take_of_length_le (by omega)
  have v1 : f11 (p.W, p.H, (p.lev S (r + 1)).C, s.X, s.Y, ()) = some ((p.lev S (r + 1)).val s, ()) := f11_spec hQ s
  have v2 : f11 (p.W, p.H, (p.lev S (r + 1)).C, t.X, t.Y, ()) = some ((p.lev S (r + 1)).val t, ()) := f11_spec hQ t
  unfold j3_19
  by_cases hb : (p.lev S (r + 1)).free s ∧ (p.lev S (r + 1)).free t
  · obtain ⟨w, e10, g1, g2⟩ := f10_spec hp hS hl hnn (pfree s hb.1).1 (pfree t hb.2).1 (pfree s hb.1).2
    have hiff := g2 r hr
    -- an answer without error exactly where they are joined
    have he : e = 0 ↔ (p.lev S (r + 1)).Conn s t := by
      generalize hx : ((n, cost, e, ob, ()) : Nat × Int × Int × List Pt × Unit) = x at hA
      cases hA with
      | bad h => rw [hQ.vld] at h; cases h
      | none h1 h2 => exact (h2 hb).elim
      | far h1 h2 h3 h4 h5 =>
        cases hx
        refine ⟨fun h => by omega, fun h => ?_⟩
        have := Pl.conn_dist h4 h.symm
        omega
      | @path l n ob h1 h2 h3 h4 h5 h6 h7 h8 =>
        cases hx
        exact ⟨fun _ => Pl.dist_conn h4 h3 39600 h2.1 h5 (by have := h4.top hQ h2.1; omega), fun _ => rfl⟩
    simp only [bne_self_eq_false, cond_false, f7_spec (p := p) (by omega), hp.vld, Option.bind_some, Bool.not_true, f8_good hp hS, Nat.zero_add, z1, decide_true, cond_true, List.drop_zero, t1, hf', g1, v1, v2, val_one, hb.1, hb.2, h61]
    by_cases h10 : e10 = 0
    · have q10 : (e10 == 0) = true := by simpa using h10
      by_cases hw : w > r
      · have h0 : e = 0 := he.2 (hiff.1 ⟨h10, hw⟩)
        have q : (!((e == 0) == decide (w > r))) = false := by simp [h0, hw]
        simp only [q10, cond_true, q, cond_false]
      · have h0 : e ≠ 0 := fun h => hw (hiff.2 (he.1 h)).2
        have q : (!((e == 0) == decide (w > r))) = false := by simp [h0, hw]
        simp only [q10, cond_true, q, cond_false]
    · have q10 : (e10 == 0) = false := by simpa using h10
      have h0 : e ≠ 0 := fun h => h10 (hiff.2 (he.1 h)).1
      have q : (!((e == 0) == false)) = false := by simp [h0]
      simp only [q10, cond_false, q]
  · have he : e = 7 := by
      generalize hx : ((n, cost, e, ob, ()) : Nat × Int × Int × List Pt × Unit) = x at hA
      cases hA with
      | bad h => rw [hQ.vld] at h; cases h
      | none h1 h2 => cases hx; rfl
      | far h1 h2 h3 h4 h5 => exact (hb ⟨h2, h3⟩).elim
      | path h1 h2 h3 h4 h5 h6 h7 h8 => exact (hb ⟨h2, h3⟩).elim
    subst he
    obtain ⟨w, e10, g1⟩ : ∃ w e10, f10 (p.W, p.H, p.C, s.X, s.Y, t.X, t.Y, ()) = some (w, e10, ()) := by
      by_cases h : p.free s ∧ p.free t
      · have hpos : 0 < p.g S s := by
          rw [hs s h.1.1]
          exact (Pl.sq_pos hp h.1.1).2 h.1
        obtain ⟨w, e10, g1, _⟩ := f10_spec hp hS hl hnn h.1 h.2 hpos
        exact ⟨w, e10, g1⟩
      · exact ⟨_, _, f10_none hp h⟩
    simp only [bne_self_eq_false, cond_false, f7_spec (p := p) (by omega), hp.vld, Option.bind_some, Bool.not_true, f8_good hp hS, Nat.zero_add, z1, decide_true, cond_true, List.drop_zero, t1, hf', g1, v1, v2, val_one, h61]
    by_cases h1 : (p.lev S (r + 1)).free s
    · have h2 : ¬ (p.lev S (r + 1)).free t := fun h => hb ⟨h1, h⟩
      simp only [h1, h2, decide_true, decide_false, cond_true, cond_false]
    · simp only [h1, decide_false, cond_false]

theorem wholePath_plain (x : Int × Int × List Int × Int × Int × Int × Int × Int × Unit) : f3 x = some (true, ()) := by
  obtain ⟨W, H, C, sx, sy, tx, ty, r2, ⟨⟩⟩ := x
  unfold f3
  simp only [f4_spec, Option.bind_some, Bool.not_true, cond_false]
  by_cases hc : (C.length : Int) > 100
  · simp only [hc, decide_true, cond_true]
  · obtain ⟨r, h5, h0, h1⟩ := f5_spec r2
    have hfew : (⟨W, H, C⟩ : Pl).C.length ≤ 400 := by show C.length ≤ 400; omega
    cases hv : (⟨W, H, C⟩ : Pl).vld with
    | false =>
      have h6 := f6_bad (p := ⟨W, H, C⟩) (by omega) hv r
      have h7 := f7_spec (p := ⟨W, H, C⟩) (by omega)
      rw [hv] at h7
      simp only at h6 h7
      have q : ((1 : Int) != 0) = true := rfl
      simp only [hc, decide_false, cond_false, h5, Option.bind_some, h6, Sum.elim_inl, j3_19, q, cond_true, beq_self_eq_true, h7, Bool.not_false]
    | true =>
      have hp := Pl.vld_ok hv hfew
      obtain ⟨S, s1, s2, s3⟩ := f23_spec hp
      have h6 := f6_good hp s1 s2 h0 (show r ≤ 8192 by omega)
      have h19 := j3_19_spec hp s1 s2 s3 h0 ⟨sx, sy⟩ ⟨tx, ty⟩
      simp only at h6 h19
      simp only [hc, decide_false, cond_false, h5, Option.bind_some, h6, Sum.elim_inr, h19]

end Go.AE
