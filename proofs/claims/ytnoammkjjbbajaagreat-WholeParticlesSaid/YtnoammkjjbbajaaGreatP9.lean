/-
  Particles: the run of the law.
-/
import Derived.Test.YtnoammkjjbbajaaGreatP8
namespace Go.AE
open Go.Proofs Go.RowKit
set_option maxRecDepth 100000

theorem wP_ok {p : Pl} {R : Int} {S : List Bm} (hS : S.length ≤ 4) {a : Pa} (h : okP a) : okP (wP p R S a) := by
  obtain ⟨h1, h2, h3⟩ := wP_bd (p := p) (R := R) hS a
  exact ⟨h.1, h1, by omega⟩

section
variable {p : Pl} {R : Int}

/-- One event. -/
theorem r3_0_spec (hp : p.Ok) (hR : 1 ≤ R ∧ R ≤ 32) {evs : List Ev} {ps : List Po} (hel : evs.length ≤ 10) (l : List Pa) (b1 b2 b3 b4 b5 b6 b7 : Int) {i : Nat} (hi : i < evs.length) {ev : Ev} (he : evs[i]? = some ev) {a q : Po} (hq : ps[i]? = some q) (hst : StepOK p R a ev q) {n : Nat} {fl : List Pa} (hn : n ≤ fl.length) {rest : List Pa} (hfl : fl.take n = ⟨a.X, a.Y, a.H, 1⟩ :: rest) (hrl : rest.length = l.length) (hl5 : l.length ≤ 5) (hpo : posed a.X a.Y a.H) :
    r3_0 (l, evs, ps, n, (i : Int), p.W, p.H, p.C, b1, b2, b3, b4, b5, b6, b7, 0, 0, 0, R, fl, ()) = some (.inr (.inl (true, ()))) ∨
      ∃ (n' : Nat) (fl' : List Pa) (rest' : List Pa), r3_0 (l, evs, ps, n, (i : Int), p.W, p.H, p.C, b1, b2, b3, b4, b5, b6, b7, 0, 0, 0, R, fl, ()) = some (.inl (l, evs, ps, n', ((i + 1 : Nat) : Int), p.W, p.H, p.C, b1, b2, b3, b4, b5, b6, b7, 0, 0, 0, R, fl', ())) ∧ n' ≤ fl'.length ∧ fl'.take n' = ⟨q.X, q.Y, q.H, 1⟩ :: rest' ∧ rest'.length = l.length ∧ posed q.X q.Y q.H := by
  have c1 : (i : Int) < (evs.length : Int) := by omega
  have w1 : IntKind.i64.wrap ((i : Int) + 1) = ((i + 1 : Nat) : Int) := by rw [w64 (by omega) (by omega)]; rfl
  by_cases hB : ev.B = true
  · left
    unfold r3_0
    simp only [c1, decide_true, cond_true, idxO_nat, he, Option.bind_some, hB]
  · have hB' : ev.B = false := by simpa using hB
    have hmv : f21 (a.X, a.Y, a.H, ev.U, ev.F, 0, 0, 0, 0, ()) = some (q.X, q.Y, q.H, 0, ()) := hst.mv.resolve_left hB
    have hfn : (fl.take n).length = n := by rw [List.length_take]; omega
    have hnl : n = 1 + l.length := by rw [← hfn, hfl]; simp [hrl]; omega
    have hoa : okP ⟨a.X, a.Y, a.H, 1⟩ := ⟨hpo, by simp only; omega, by simp only; omega⟩
    rcases f8_spec (R := R) hst.cmd hR (l := fl.take n) (by omega) (IntKind.u64.wrap (i : Int)) with ⟨hok, s', s8⟩ | ⟨hno, s8⟩
    rotate_left
    · left
      have hl0 : (l.length : Int) > 0 := by
        rcases Nat.eq_zero_or_pos l.length with h | h
        · refine (hno ⟨by omega, fun x hx => ?_⟩).elim
          rw [hfl] at hx
          have : rest = [] := List.length_eq_zero_iff.1 (by omega)
          rw [this] at hx
          rw [List.mem_singleton.1 hx]
          exact hoa
        · omega
      have q1 : ((1 : Int) != 0) = true := rfl
      unfold r3_0
      simp only [c1, decide_true, cond_true, idxO_nat, he, Option.bind_some, hB', cond_false, Nat.zero_add, hn, List.drop_zero, s8, q1, beq_self_eq_true, hl0]
    · right
      rw [hfn] at s8
      have hmvp : mvP ev.U ev.F ⟨a.X, a.Y, a.H, 1⟩ = ⟨q.X, q.Y, q.H, 1⟩ := by
        unfold mvP
        simp only [hmv, if_true]
      have hM : (fl.take n).map (mvP ev.U ev.F) = ⟨q.X, q.Y, q.H, 1⟩ :: rest.map (mvP ev.U ev.F) := by rw [hfl, List.map_cons, hmvp]
      have hMl : ((fl.take n).map (mvP ev.U ev.F)).length = n := by rw [List.length_map, hfn]
      have hMok : okF ((fl.take n).map (mvP ev.U ev.F)) := by
        refine ⟨by omega, fun x hx => ?_⟩
        obtain ⟨y, hy, rfl⟩ := List.mem_map.1 hx
        exact (mvP_ok (hok.2 y hy)).1
      generalize hMM : (fl.take n).map (mvP ev.U ev.F) = M at hM hMl hMok s8
      have htM : M.take n = M := List.take_of_length_le (by omega)
      have hS : okS ev.S := ⟨by have := hst.sl; omega, fun b hb => ⟨(hst.s b hb).1, (hst.s b hb).2.1⟩⟩
      have s9 := f9_spec hp hR hS hMok
      have hpq : posed q.X q.Y q.H := (hMok.2 ⟨q.X, q.Y, q.H, 1⟩ (by rw [hM]; exact List.mem_cons_self ..)).1
      obtain ⟨x0, hx0⟩ : ∃ x0, x0 = wP p R ev.S ⟨q.X, q.Y, q.H, 1⟩ := ⟨_, rfl⟩
      have hx0p : x0.X = q.X ∧ x0.Y = q.Y ∧ x0.H = q.H := by rw [hx0]; exact ⟨rfl, rfl, rfl⟩
      have hx0w : x0.W = (1 + (ev.S.length : Int)) * (1 + (ev.S.length : Int)) := by rw [hx0]; exact wP_full hp hst.cl hst.s
      have hbd := wP_bd (p := p) (R := R) hst.sl
      have hW0 : (M.map (wP p R ev.S))[0]? = some x0 := by rw [hM, hx0]; rfl
      have hWl : (M.map (wP p R ev.S)).length = n := by rw [List.length_map, hMl]
      have hWok : okF (M.map (wP p R ev.S)) := by
        refine ⟨by omega, fun x hx => ?_⟩
        obtain ⟨y, hy, rfl⟩ := List.mem_map.1 hx
        exact wP_ok hst.sl (hMok.2 y hy)
      have hWb : ∀ x ∈ M.map (wP p R ev.S), x.W ≤ x0.W := fun x hx => by
        obtain ⟨y, hy, rfl⟩ := List.mem_map.1 hx
        rw [hx0w]
        exact (hbd y).2.1
      rw [hMl] at s9
      generalize hWW : M.map (wP p R ev.S) = Wl at hW0 hWl hWok hWb s9
      have htW : Wl.take n = Wl := List.take_of_length_le (by omega)
      obtain ⟨c, s10, hcm, hcb⟩ := f10_spec hWok hW0
      have hcw : c.W = x0.W := by
        have h1 := hWb c hcm
        have h2 := hcb x0 (List.mem_of_getElem? hW0)
        omega
      have hsl := hst.sl
      have hx25 : 1 ≤ x0.W ∧ x0.W ≤ 25 := by
        have h1 : 1 * 1 ≤ (1 + (ev.S.length : Int)) * (1 + (ev.S.length : Int)) := Int.mul_le_mul (by omega) (by omega) (by omega) (by omega)
        have := (hbd ⟨q.X, q.Y, q.H, 1⟩).2.2
        omega
      have hT1 : x0.W ≤ tot Wl := by
        obtain ⟨y, ys, hy⟩ : ∃ y ys, Wl = y :: ys := by
          cases Wl with
          | nil => cases hW0
          | cons y ys => exact ⟨y, ys, rfl⟩
        rw [hy] at hW0 hWok ⊢
        cases hW0
        rw [tot_cons]
        have := (tot_bd fun b hb => hWok.2 b (List.mem_cons_of_mem _ hb)).1
        omega
      have hTT := (tot_bd hWok.2).2
      generalize hTe : tot Wl = T at hT1 hTT
      have hu := tmod_rng (u := (i : Int)) (T := T) (by omega) (by omega)
      have w2 : IntKind.i64.wrap (1 + (i : Int)) = ((1 + i : Nat) : Int) := by rw [w64 (by omega) (by omega)]; rfl
      obtain ⟨ob, s12, g1, g2⟩ := f12_spec (n := ((1 + i : Nat) : Int)) (u := (i : Int).tmod T) hWok hTe (by omega) (by omega) hu hW0
      rw [Int.toNat_natCast] at s12 g1 g2
      obtain ⟨k', s36, g3⟩ := l3_6_spec l evs ps i hq n n T ((1 + i : Nat) : Int) p.W p.H p.C b1 b2 b3 b4 b5 b6 b7 0 0 0 R M Wl ob (1 + i) (by omega) g1 (1 + i) 0 0 rfl (by omega) (by omega)
      have s36' : l3_6 (l, evs, ps, (i : Int), n, n, T, ((1 + i : Nat) : Int), 1 + i, 0, 0, p.W, p.H, p.C, b1, b2, b3, b4, b5, b6, b7, 0, 0, 0, R, M, Wl, ob, ()) = _ := s36
      obtain ⟨sh1, sh2⟩ := share_le (T := T) (n := ((1 + i : Nat) : Int)) (w := x0.W) (by omega) (by omega) hT1 (by omega)
      have hm := mulb (a := ((1 + i : Nat) : Int)) (b := x0.W) (A := 11) (B := 25) (by omega) (by omega) (by omega) (by omega)
      have w3 : IntKind.i64.wrap (((1 + i : Nat) : Int) * x0.W) = ((1 + i : Nat) : Int) * x0.W := w64 (by omega) (by omega)
      generalize hQ : (((1 + i : Nat) : Int) * x0.W).tdiv T = Q at sh1 sh2
      have w4 : IntKind.i64.wrap Q = Q := w64 (by omega) (by omega)
      have hk : Q ≤ (k' : Int) := by
        have := g3 Q.toNat (by omega) fun c _ hc => by
          obtain ⟨b, hb1, hb2⟩ := g2 c (by omega)
          obtain ⟨e1, e2, e3⟩ := hb2 (share (by omega) hu.2 (by omega) (by omega) (by rw [hQ]; omega))
          exact ⟨b, hb1, sameP_ok (by rw [e1, hx0p.1]) (by rw [e2, hx0p.2.1]) (by rw [e3, hx0p.2.2])⟩
        omega
      have hk' : ¬ (k' : Int) < Q := by omega
      have hn0 : (0 : Int) < (n : Int) := by omega
      have hT0 : (T == 0) = false := by rw [beq_eq_false_iff_ne]; omega
      have w5 : IntKind.i64.wrap (1 + (ev.S.length : Int)) = 1 + (ev.S.length : Int) := w64 (by omega) (by omega)
      have w6 : IntKind.i64.wrap ((1 + (ev.S.length : Int)) * (1 + (ev.S.length : Int))) = x0.W := by rw [← hx0w, w64 (by omega) (by omega)]
      have hr' : rest.length = (rest.map (mvP ev.U ev.F)).length := by rw [List.length_map]
      refine ⟨n, M, rest.map (mvP ev.U ev.F), ?_, by omega, by rw [htM, hM], by omega, hpq⟩
      unfold r3_0
      simp only [c1, decide_true, cond_true, idxO_nat, he, Option.bind_some, hB', cond_false, Nat.zero_add, hn, List.drop_zero, s8, bne_self_eq_false, hMl, Nat.le_refl, htM, s9, hn0, Bool.and_self, hW0, hq, hx0p, beq_self_eq_true, Bool.not_true, hWl, htW, s10, w5, w6, hcw, f11_spec hWok, hTe, hT0, w2, s12, s36', w3, hQ, w4, hk', decide_false, w1]

theorem l3_0_spec (hp : p.Ok) (hR : 1 ≤ R ∧ R ≤ 32) {evs : List Ev} {ps : List Po} (hel : evs.length ≤ 10) {at0 : Po} (hrun : RunOK p R at0 evs ps) (l : List Pa) (hl5 : l.length ≤ 5) (b1 b2 b3 b4 b5 b6 b7 : Int) : ∀ (t i n : Nat) (fl rest : List Pa) (a : Po), evs.length - i = t → i ≤ evs.length → n ≤ fl.length → (at0 :: ps)[i]? = some a → fl.take n = ⟨a.X, a.Y, a.H, 1⟩ :: rest → rest.length = l.length → posed a.X a.Y a.H →
    ∃ z : Bool × Unit ⊕ Unit, l3_0 (l, evs, ps, n, (i : Int), p.W, p.H, p.C, b1, b2, b3, b4, b5, b6, b7, 0, 0, 0, R, fl, ()) = some z ∧ (z = .inl (true, ()) ∨ z = .inr ())
  | t, i, n, fl, rest, a, ht, hi, hn, ha, hfl, hrl, hpo => by
    unfold l3_0
    rw [iterO_eq]
    by_cases e : i = evs.length
    · have c1 : ¬ (i : Int) < (evs.length : Int) := by omega
      have hd : r3_0 (l, evs, ps, n, (i : Int), p.W, p.H, p.C, b1, b2, b3, b4, b5, b6, b7, 0, 0, 0, R, fl, ()) = some (.inr (.inr ())) := by
        unfold r3_0
        simp only [c1, decide_false, cond_false]
      rw [hd]
      exact ⟨_, rfl, .inr rfl⟩
    · have hlt : i < evs.length := by omega
      obtain ⟨ev, hev⟩ : ∃ ev, evs[i]? = some ev := ⟨_, List.getElem?_eq_getElem hlt⟩
      obtain ⟨a', q, h1, h2, h3⟩ := hrun.step i ev hev
      rw [ha] at h1
      cases h1
      match t, ht with
      | 0, ht => omega
      | t + 1, ht =>
        rcases r3_0_spec hp hR hel l b1 b2 b3 b4 b5 b6 b7 hlt hev h2 h3 hn hfl hrl hl5 hpo with hd | ⟨n', fl', rest', hd, k1, k2, k3, k4⟩
        · rw [hd]
          exact ⟨_, rfl, .inl rfl⟩
        · rw [hd]
          exact l3_0_spec hp hR hel hrun l hl5 b1 b2 b3 b4 b5 b6 b7 t (i + 1) n' fl' rest' q (by omega) (by omega) k1 (by rw [List.getElem?_cons_succ]; exact h2) k2 k3 k4
end

/-- The law. -/
theorem wholeParticles_f3 (x0 x1 : Int) (C : List Int) (x3 x4 x5 x6 X Y H : Int) (acts : List Ax) (l : List Pa) : f3 (x0, x1, C, x3, x4, x5, x6, X, Y, H, acts, l, ()) = some (true, ()) := by
  obtain ⟨b, s5, hb⟩ := f5_spec x0 x1 C x3 x4 x5 x6 X Y H acts
  cases b with
  | false =>
    unfold f3
    simp only [f4_spec, Option.bind_some, Bool.not_true, cond_false, s5, Bool.not_false, cond_true]
  | true =>
    obtain ⟨hC, ha10, hact⟩ := hb rfl
    by_cases c1 : (l.length : Int) > 5
    · unfold f3
      simp only [f4_spec, Option.bind_some, Bool.not_true, cond_false, s5, c1, decide_true, cond_true]
    · have hR := f6_rng x6
      generalize hRe : f6 x6 1 32 = R at hR
      obtain ⟨evs, ps, e, s7, h1, h2⟩ := f7_spec ⟨x0, x1, C⟩ hC hR hact ha10 ⟨X, Y, H⟩
      simp only at s7
      by_cases he : e = 0
      · obtain ⟨_, hp, hcl, hh, hel, hrun⟩ := h2 he
        subst he
        have hpo : posed X Y H := ⟨Ok.in_near hp (hcl.inRp hp), hh⟩
        have ro : roomy (1 + l.length) 32 = true := roomy_ok (by omega)
        obtain ⟨z, s3, hz⟩ := l3_0_spec hp hR hel hrun l (by omega) x3 x4 x5 x6 X Y H evs.length 0 (1 + l.length) (⟨X, Y, H, 1⟩ :: l) l ⟨X, Y, H⟩ rfl (by omega) (by simp; omega) rfl (List.take_of_length_le (by simp; omega)) rfl hpo
        have s3' : l3_0 (l, evs, ps, 1 + l.length, 0, x0, x1, C, x3, x4, x5, x6, X, Y, H, 0, 0, 0, R, ⟨X, Y, H, 1⟩ :: List.append [] l, ()) = _ := s3
        unfold f3
        simp only [f4_spec, Option.bind_some, Bool.not_true, cond_false, s5, c1, decide_false, hRe, s7, bne_self_eq_false, ro, cond_true, s3']
        rcases hz with rfl | rfl <;> rfl
      · have hne : (e != 0) = true := by simpa using he
        have := h1 he
        subst this
        unfold f3
        simp only [f4_spec, Option.bind_some, Bool.not_true, cond_false, s5, c1, decide_false, hRe, s7, hne, cond_true]
        rfl

theorem wholeParticles_plain (x : Int × Int × List Int × Int × Int × Int × Int × Int × Int × Int × List Ax × List Pa × Unit) : f3 x = some (true, ()) := by
  obtain ⟨x0, x1, C, x3, x4, x5, x6, X, Y, H, acts, l, _⟩ := x
  exact wholeParticles_f3 x0 x1 C x3 x4 x5 x6 X Y H acts l

end Go.AE
