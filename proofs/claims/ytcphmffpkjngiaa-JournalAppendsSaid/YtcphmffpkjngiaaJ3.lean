/-
  Plain laws of the chapter Journal, part 7: Decode; events compared.
-/
import Derived.Test.YtcphmffpkjngiaaJ2
namespace Go.AE
open Go.Proofs Go.RowKit
set_option maxRecDepth 100000

theorem f47_err {r : List Int} {e : Int} (he : (e != 0) = true) : f47 (r, e, ()) = some (0, r, e, ()) := by
  unfold f47; simp only [he, cond_true]
theorem f47_ok {r : List Int} (hb : Byt r) (hl : r.length ≤ 1000000) : f47 (r, 0, ()) = some ((rdi r).1, (rdi r).2.1, (rdi r).2.2, ()) := by
  unfold f47; simp only [bne_self_eq_false, cond_false, f70_spec hb hl, rdQ, Option.bind_some]
theorem f48_err {r : List Int} {e : Int} (he : (e != 0) = true) : f48 (r, e, ()) = some (false, r, e, ()) := by
  unfold f48; simp only [he, cond_true]
theorem f48_nil : f48 ([], 0, ()) = some (false, [], 4, ()) := rfl
theorem f48_cons {c : Int} {r : List Int} : f48 (c :: r, 0, ()) = if c > 1 then some (false, c :: r, 3, ()) else some (c == 1, r, 0, ()) := by
  have z1 : ((((c :: r).length : Nat) : Int) == 0) = false := by simp; omega
  have i0 : idxO (c :: r) 0 = some c := rfl
  have z2 : (1 : Int) ≤ (((c :: r).length : Nat) : Int) := by simp only [List.length_cons]; omega
  have hd : List.drop 1 (List.take ((((c :: r).length : Nat) : Int)).toNat (c :: r)) = r := by simp
  unfold f48
  simp only [bne_self_eq_false, cond_false, z1, i0, Option.bind_some, z2, Int.le_refl, decide_true, Bool.and_self, cond_true, hd]
  by_cases hc : c > 1
  · simp only [hc, decide_true, cond_true, if_true]
  · simp only [hc, decide_false, cond_false, if_false]
theorem f49_err {m o : Int} {r : List Int} {e : Int} (he : (e != 0) = true) : f49 (m, o, r, e, ()) = some (0, r, e, ()) := by
  unfold f49; simp only [he, cond_true]
theorem f49_ok {m o : Int} {r : List Int} (hb : Byt r) (hl : r.length ≤ 1000000) (hm : m ≤ 4294967296) (ho : o ≠ 0) : f49 (m, o, r, 0, ()) = some ((rdc m o r).1, (rd 0 0 r).2.1, (rdc m o r).2.2, ()) := by
  have h3 := rd_lt hb
  have ho' : (o != 0) = true := by simpa using ho
  unfold f49 rdc
  simp only [bne_self_eq_false, cond_false, f71_spec hb hl, rdQ, Option.bind_some]
  by_cases h : (rd 0 0 r).2.2 = 0
  · have e : ((rd 0 0 r).2.2 == 0) = true := by simp [h]
    rw [if_neg (by simpa using h)]
    simp only [e, cond_true]
    by_cases h2 : (rd 0 0 r).1 > m
    · rw [if_pos h2]
      simp only [h2, decide_true, cond_true, j49_22, ho', Option.bind_some]
    · rw [if_neg h2]
      have w : IntKind.i64.wrap (rd 0 0 r).1 = (rd 0 0 r).1 := i64w (by omega) (by omega)
      simp only [h2, decide_false, cond_false, j49_22, h, bne_self_eq_false, w, Option.bind_some]
  · have e : ((rd 0 0 r).2.2 == 0) = false := by simp [h]
    have e2 : ((rd 0 0 r).2.2 != 0) = true := by simp [h]
    rw [if_pos h]
    simp only [e, cond_false, j49_22, e2, cond_true, Option.bind_some]
theorem rdc_rest {m o : Int} {r : List Int} (h : (rdc m o r).2.2 = 0) (ho : o ≠ 0) : (rdc m o r).2.1 = (rd 0 0 r).2.1 := by
  unfold rdc at h ⊢
  split
  · rename_i h2; rw [if_pos h2] at h; exact (h2 h).elim
  · rename_i h2
    rw [if_neg h2] at h
    split
    · rename_i h3; rw [if_pos h3] at h; exact (ho h).elim
    · rfl

theorem l15_err {n t u f : Int} {B : Bool} {r : List Int} {e : Int} {k : Nat} {acc : List Bm} (he : (e != 0) = true) : l15_0 (n, 0, 0, 0, false, r, e, t, u, f, B, k, acc, ()) = some (0, 0, 0, false, r, e, t, u, f, B, k, acc, ()) := by
  have he' : (e == 0) = false := by
    rw [bne, Bool.not_eq_true'] at he
    exact he
  have hr : r15_0 (n, 0, 0, 0, false, r, e, t, u, f, B, k, acc, ()) = some (.inr (0, 0, 0, false, r, e, t, u, f, B, k, acc, ())) := by
    unfold r15_0
    by_cases hn : n > 0
    · simp only [hn, decide_true, cond_true, he', cond_false]
    · simp only [hn, decide_false, cond_false]
  unfold l15_0
  rw [iterO_eq, hr]

theorem l15_ok {t u f : Int} {B : Bool} : ∀ (m : Nat) (b : List Int) (acc : List Bm), Byt b → b.length ≤ 1000000 → acc.length + m ≤ 1000 →
    ∃ r' acc', l15_0 ((m : Int), 0, 0, 0, false, b, 0, t, u, f, B, acc.length, acc, ()) = some (0, 0, 0, false, r', (decBs m b).2.2, t, u, f, B, acc'.length, acc', ()) ∧ ((decBs m b).2.2 = 0 → r' = (decBs m b).2.1 ∧ acc' = acc ++ (decBs m b).1) := by
  intro m
  induction m with
  | zero =>
    intro b acc hb hl ha
    have hr : r15_0 (((0 : Nat) : Int), 0, 0, 0, false, b, 0, t, u, f, B, acc.length, acc, ()) = some (.inr (0, 0, 0, false, b, 0, t, u, f, B, acc.length, acc, ())) := rfl
    refine ⟨b, acc, ?_, fun _ => ⟨rfl, by simp [decBs]⟩⟩
    unfold l15_0
    rw [iterO_eq, hr]
    rfl
  | succ m ih =>
    intro b acc hb hl ha
    have c1 : (((m + 1 : Nat) : Int)) > 0 := by omega
    have w0 : IntKind.i64.wrap (((m + 1 : Nat) : Int) - 1) = (m : Int) := by rw [i64w (by omega) (by omega)]; omega
    have rr : roomy (acc.length + 1) 16 = true := by unfold roomy; simp; omega
    have tl : List.take acc.length (List.drop 0 acc) = acc := by simp
    have e1 := f49_ok (m := 4294967296) (o := 2) hb hl (by omega) (by omega)
    by_cases hx : (rdc 4294967296 2 b).2.2 = 0
    · obtain ⟨x1, x2, x3, x4, _⟩ := rdc_ok (most := 4294967296) (over := 2) hb (by omega)
      have e2 := f49_ok (m := 4294967296) (o := 2) x1 (by omega) (by omega) (by omega)
      obtain ⟨y1, y2, y3, y4, y5⟩ := rdc_ok (most := 4294967296) (over := 2) x1 (by omega)
      rw [rdc_rest hx (by omega)] at e2 y1 y2 y3 y4 y5
      have hw : IntKind.i64.wrap ((rdc 4294967296 2 (rd 0 0 b).2.1).1 - 1) = (rdc 4294967296 2 (rd 0 0 b).2.1).1 - 1 := by
        by_cases hy : (rdc 4294967296 2 (rd 0 0 b).2.1).2.2 = 0
        · have := y4 hy
          exact i64w (by omega) (by omega)
        · rw [y5 hy]; rfl
      have hr : r15_0 (((m + 1 : Nat) : Int), 0, 0, 0, false, b, 0, t, u, f, B, acc.length, acc, ()) = some (.inl ((m : Int), 0, 0, 0, false, (rd 0 0 (rd 0 0 b).2.1).2.1, (rdc 4294967296 2 (rd 0 0 b).2.1).2.2, t, u, f, B, (acc ++ [Bm.mk (rdc 4294967296 2 b).1 ((rdc 4294967296 2 (rd 0 0 b).2.1).1 - 1)]).length, acc ++ [Bm.mk (rdc 4294967296 2 b).1 ((rdc 4294967296 2 (rd 0 0 b).2.1).1 - 1)], ())) := by
        unfold r15_0
        simp only [c1, decide_true, cond_true, beq_self_eq_true, e1, hx, Option.bind_some, e2, Nat.zero_add, Nat.le_refl, rr, tl, w0, hw, List.length_append, List.length_singleton]
      by_cases hy : (rdc 4294967296 2 (rd 0 0 b).2.1).2.2 = 0
      · have hy2 : (rdc 4294967296 2 (rdc 4294967296 2 b).2.1).2.2 = 0 := by rw [rdc_rest hx (by omega)]; exact hy
        rw [decBs_3 hx hy2, rdc_rest hx (by omega), rdc_rest hy (by omega)]
        rw [rdc_rest hy (by omega)] at y1 y2
        obtain ⟨r', acc', s1, s2⟩ := ih (rd 0 0 (rd 0 0 b).2.1).2.1 (acc ++ [Bm.mk (rdc 4294967296 2 b).1 ((rdc 4294967296 2 (rd 0 0 b).2.1).1 - 1)]) y1 (by have := rd_len b 0 0; omega) (by simp only [List.length_append, List.length_singleton]; omega)
        refine ⟨r', acc', ?_, fun h => ?_⟩
        · rw [hy] at hr
          unfold l15_0 at s1 ⊢
          rw [iterO_eq, hr]
          exact s1
        · obtain ⟨q1, q2⟩ := s2 h
          exact ⟨q1, by rw [q2]; simp only [List.append_assoc, List.cons_append, List.nil_append]⟩
      · have hy2 : (rdc 4294967296 2 (rdc 4294967296 2 b).2.1).2.2 ≠ 0 := by rw [rdc_rest hx (by omega)]; exact hy
        rw [decBs_2 hx hy2, rdc_rest hx (by omega)]
        refine ⟨(rd 0 0 (rd 0 0 b).2.1).2.1, acc ++ [Bm.mk (rdc 4294967296 2 b).1 ((rdc 4294967296 2 (rd 0 0 b).2.1).1 - 1)], ?_, fun h => (hy h).elim⟩
        have := l15_err (n := (m : Int)) (t := t) (u := u) (f := f) (B := B) (r := (rd 0 0 (rd 0 0 b).2.1).2.1) (k := (acc ++ [Bm.mk (rdc 4294967296 2 b).1 ((rdc 4294967296 2 (rd 0 0 b).2.1).1 - 1)]).length) (acc := acc ++ [Bm.mk (rdc 4294967296 2 b).1 ((rdc 4294967296 2 (rd 0 0 b).2.1).1 - 1)]) (show ((rdc 4294967296 2 (rd 0 0 b).2.1).2.2 != 0) = true by simpa using hy)
        unfold l15_0 at this ⊢
        rw [iterO_eq, hr]
        exact this
    · have hx' : ((rdc 4294967296 2 b).2.2 != 0) = true := by simpa using hx
      obtain ⟨_, _, _, _, x5⟩ := rdc_ok (most := 4294967296) (over := 2) hb (by omega)
      have e2 := f49_err (m := 4294967296) (o := 2) (r := (rd 0 0 b).2.1) hx'
      have hw : IntKind.i64.wrap ((0 : Int) - 1) = -1 := by decide
      have hr : r15_0 (((m + 1 : Nat) : Int), 0, 0, 0, false, b, 0, t, u, f, B, acc.length, acc, ()) = some (.inl ((m : Int), 0, 0, 0, false, (rd 0 0 b).2.1, (rdc 4294967296 2 b).2.2, t, u, f, B, (acc ++ [Bm.mk 0 (-1)]).length, acc ++ [Bm.mk 0 (-1)], ())) := by
        unfold r15_0
        simp only [c1, decide_true, cond_true, beq_self_eq_true, e1, x5 hx, Option.bind_some, e2, Nat.zero_add, Nat.le_refl, rr, tl, w0, hw, List.length_append, List.length_singleton]
      rw [decBs_1 hx]
      refine ⟨(rd 0 0 b).2.1, acc ++ [Bm.mk 0 (-1)], ?_, fun h => (hx h).elim⟩
      have := l15_err (n := (m : Int)) (t := t) (u := u) (f := f) (B := B) (r := (rd 0 0 b).2.1) (k := (acc ++ [Bm.mk 0 (-1)]).length) (acc := acc ++ [Bm.mk 0 (-1)]) hx'
      unfold l15_0 at this ⊢
      rw [iterO_eq, hr]
      exact this

/-- Decode. -/
theorem f15_spec {b : List Int} (hb : Byt b) (hl : b.length ≤ 1000000) : f15 (b, ()) = evR (dec b) := by
  obtain ⟨t1, t2, t3, t4, _⟩ := rdi_ok hb
  obtain ⟨u1, u2, u3, u4, _⟩ := rdi_ok t1
  obtain ⟨v1, v2, v3, v4, _⟩ := rdi_ok u1
  have et := f47_ok hb hl
  have eu := f47_ok t1 (by omega)
  have ev := f47_ok u1 (by omega)
  have z0 : ¬ (0 : Int) > 0 := by omega
  unfold f15 dec
  rw [et]
  generalize rdi b = t at *
  generalize rdi t.2.1 = u at *
  generalize rdi u.2.1 = v at *
  simp only [Option.bind_some]
  by_cases ht : t.2.2 = 0
  · have ht' : (t.2.2 == 0) = true := by simp [ht]
    rw [if_neg (by simpa using ht)]
    simp only [ht', cond_true]
    by_cases h1 : t.1 < 0
    · rw [if_pos (.inl h1)]
      simp only [h1, decide_true, cond_true]
      rfl
    · by_cases h2 : t.1 > 1099511627776
      · rw [if_pos (.inr h2)]
        simp only [h1, decide_false, cond_false, h2, decide_true, cond_true]
        rfl
      · rw [if_neg (by omega)]
        simp only [h1, h2, decide_false, cond_false, ht, eu, Option.bind_some]
        by_cases hu : u.2.2 = 0
        · rw [if_neg (by simpa using hu)]
          simp only [hu, ev, Option.bind_some]
          by_cases hv : v.2.2 = 0
          · rw [if_neg (by simpa using hv)]
            simp only [hv]
            cases hr : v.2.1 with
            | nil =>
              have e4 : ((4 : Int) != 0) = true := rfl
              simp only [f48_nil, Option.bind_some, f49_err e4, l15_err e4, e4, cond_true]
              rfl
            | cons c r =>
              have hrb : Byt r := fun x hx => v1 x (by rw [hr]; exact List.mem_cons_of_mem _ hx)
              have hrl : r.length ≤ 1000000 := by have := congrArg List.length hr; simp only [List.length_cons] at this; omega
              rw [f48_cons, dec2_cons]
              by_cases hc : c > 1
              · have e3 : ((3 : Int) != 0) = true := rfl
                rw [if_pos hc, if_pos hc]
                simp only [Option.bind_some, f49_err e3, l15_err e3, e3, cond_true]
                rfl
              · rw [if_neg hc, if_neg hc]
                have e1 := f49_ok (m := 32) (o := 6) hrb hrl (by omega) (by omega)
                obtain ⟨n1, n2, n3, n4, n5⟩ := rdc_ok (most := 32) (over := 6) hrb (by omega)
                simp only [Option.bind_some, e1]
                unfold dec3
                by_cases hn : (rdc 32 6 r).2.2 = 0
                · have h4 := n4 hn
                  rw [if_neg (by simpa using hn)]
                  rw [rdc_rest hn (by omega)] at n1 n2 ⊢
                  obtain ⟨r', acc', s1, s2⟩ := l15_ok (t := t.1) (u := u.1) (f := v.1) (B := c == 1) (rdc 32 6 r).1.toNat (rd 0 0 r).2.1 [] n1 (by omega) (by simp only [List.length_nil]; omega)
                  rw [Int.toNat_of_nonneg n3] at s1
                  have s1' : l15_0 ((rdc 32 6 r).1, 0, 0, 0, false, (rd 0 0 r).2.1, 0, t.1, u.1, v.1, c == 1, 0, [], ()) = _ := s1
                  simp only [hn, s1', Option.bind_some]
                  generalize decBs (rdc 32 6 r).1.toNat (rd 0 0 r).2.1 = d at *
                  by_cases hd0 : d.2.2 = 0
                  · obtain ⟨rfl, rfl⟩ := s2 hd0
                    rw [if_neg (by simpa using hd0)]
                    simp only [hd0, bne_self_eq_false, cond_false, List.nil_append]
                    by_cases hre : d.2.1 = []
                    · have g1 : ¬ ((d.2.1.length : Nat) : Int) > 0 := by rw [hre]; simp
                      rw [if_neg (by simpa using hre)]
                      have tl : List.take d.1.length (List.drop 0 d.1) = d.1 := by simp
                      have hdl : d.1.length ≤ 1000000 ∨ 1000000 < d.1.length := by omega
                      simp only [g1, decide_false, cond_false, f40_spec, Nat.zero_add, Nat.le_refl, decide_true, cond_true, tl]
                      cases hc1 : cmdOK u.1 v.1 with
                      | false =>
                        rw [if_neg (fun h => Bool.false_ne_true h.1)]
                        simp only [Bool.not_false, cond_true]
                        rfl
                      | true =>
                        have h41 : f41 (d.1, ()) = some (scanOK d.1, ()) := by
                          rcases hdl with h | h
                          · exact f41_spec h
                          · unfold f41 scanOK
                            have q1 : ¬ (d.1.length : Int) ≤ 32 := by omega
                            have q2 : ¬ d.1.length ≤ 32 := by omega
                            simp only [q1, q2, decide_false, cond_false, Bool.false_and]
                        simp only [Bool.not_true, cond_false, h41, Option.bind_some]
                        cases hc2 : scanOK d.1 with
                        | false =>
                          rw [if_neg (fun h => Bool.false_ne_true h.2)]
                          simp only [Bool.not_false, cond_true]
                          rfl
                        | true =>
                          rw [if_pos (by simp)]
                          simp only [Bool.not_true, cond_false]
                          rfl
                    · have g1 : ((d.2.1.length : Nat) : Int) > 0 := by
                        have := List.length_pos_iff.2 hre
                        omega
                      rw [if_pos hre]
                      simp only [g1, decide_true, cond_true]
                      rfl
                  · have hd' : (d.2.2 != 0) = true := by simpa using hd0
                    rw [if_pos hd0]
                    simp only [hd', cond_true]
                    rfl
                · have hn' : ((rdc 32 6 r).2.2 != 0) = true := by simpa using hn
                  rw [if_pos hn]
                  simp only [l15_err hn', Option.bind_some, hn', cond_true]
                  rfl
          · have hv' : (v.2.2 != 0) = true := by simpa using hv
            rw [if_pos hv]
            simp only [f48_err hv', f49_err hv', l15_err hv', Option.bind_some, hv', cond_true]
            rfl
        · have hu' : (u.2.2 != 0) = true := by simpa using hu
          rw [if_pos hu]
          simp only [f47_err hu', f48_err hu', f49_err hu', l15_err hu', Option.bind_some, hu', cond_true]
          rfl
  · have ht' : (t.2.2 == 0) = false := by simpa using ht
    have ht2 : (t.2.2 != 0) = true := by simpa using ht
    rw [if_pos ht]
    simp only [ht', cond_false, f47_err ht2, f48_err ht2, f49_err ht2, l15_err ht2, Option.bind_some, ht2, cond_true]
    rfl

end Go.AE
