/-
  Plain laws of the chapter Journal, part 8: events compared; an event's data lead back to it.
-/
import Derived.Test.YtcphmffpkjngiaaJ3
namespace Go.AE
open Go.Proofs Go.RowKit
set_option maxRecDepth 100000

theorem bm_eq {a b : Bm} : (bif a.M == b.M then bif a.R == b.R then true else false else false) = decide (a = b) := by
  obtain ⟨m, r⟩ := a
  obtain ⟨m', r'⟩ := b
  by_cases h1 : m = m' <;> by_cases h2 : r = r' <;> simp [h1, h2]

theorem l50_spec {a b : List Bm} (hab : a.length = b.length) (hl : a.length ≤ 1000000) : ∀ (k i : Nat), a.length - i = k → i ≤ a.length →
    ∃ y, l50_0 (a, b, (i : Int), ()) = some y ∧ (Sum.elim (fun y13 => some (y13.fst, ())) (fun _x => some (true, ())) y : Option (Bool × Unit)) = some (decide (a.drop i = b.drop i), ()) := by
  intro k
  induction k with
  | zero =>
    intro i hk hi
    have : i = a.length := by omega
    subst this
    have c1 : ¬ (a.length : Int) < (a.length : Int) := by omega
    refine ⟨.inr (), ?_, ?_⟩
    · unfold l50_0
      rw [iterO_eq]
      have : r50_0 (a, b, (a.length : Int), ()) = some (.inr (.inr ())) := by
        unfold r50_0
        simp only [c1, decide_false, cond_false]
      rw [this]
    · have h1 : a.drop a.length = [] := by simp
      have h2 : b.drop a.length = [] := by simp [hab]
      simp only [Sum.elim_inr, h1, h2, decide_true]
  | succ k ih =>
    intro i hk hi
    have hlt : i < a.length := by omega
    have hlt2 : i < b.length := by omega
    have c1 : (i : Int) < (a.length : Int) := by omega
    have w0 : IntKind.i64.wrap ((i : Int) + 1) = ((i + 1 : Nat) : Int) := by rw [i64w (by omega) (by omega)]; rfl
    have g1 := List.getElem?_eq_getElem hlt
    have g2 := List.getElem?_eq_getElem hlt2
    have hd1 : a.drop i = a[i] :: a.drop (i + 1) := List.drop_eq_getElem_cons hlt
    have hd2 : b.drop i = b[i] :: b.drop (i + 1) := List.drop_eq_getElem_cons hlt2
    by_cases hb : a[i] = b[i]
    · obtain ⟨y, y1, y2⟩ := ih (i + 1) (by omega) (by omega)
      refine ⟨y, ?_, ?_⟩
      · unfold l50_0 at y1 ⊢
        rw [iterO_eq]
        have : r50_0 (a, b, (i : Int), ()) = some (.inl (a, b, ((i + 1 : Nat) : Int), ())) := by
          unfold r50_0
          simp only [c1, decide_true, cond_true, idxO_nat, g1, g2, Option.bind_some, bm_eq, hb, Bool.not_true, cond_false, w0]
        rw [this]
        exact y1
      · rw [y2, hd1, hd2, hb]
        simp only [List.cons.injEq, true_and]
    · refine ⟨.inl (false, ()), ?_, ?_⟩
      · unfold l50_0
        rw [iterO_eq]
        have : r50_0 (a, b, (i : Int), ()) = some (.inr (.inl (false, ()))) := by
          unfold r50_0
          simp only [c1, decide_true, cond_true, idxO_nat, g1, g2, Option.bind_some, bm_eq, hb, decide_false, Bool.not_false]
        rw [this]
      · rw [hd1, hd2]
        simp only [Sum.elim_inl, List.cons.injEq, hb, false_and, decide_false]

theorem f50_spec {a b : List Bm} (hl : a.length ≤ 1000000) : f50 (a, b, ()) = some (decide (a = b), ()) := by
  unfold f50
  by_cases h : a.length = b.length
  · have q : ((a.length : Int) != (b.length : Int)) = false := by simp [h]
    obtain ⟨y, y1, y2⟩ := l50_spec h hl a.length 0 rfl (by omega)
    have y1' : l50_0 (a, b, 0, ()) = some y := y1
    rw [List.drop_zero, List.drop_zero] at y2
    simp only [q, cond_false, y1', Option.bind_some]
    exact y2
  · have q : ((a.length : Int) != (b.length : Int)) = true := by simp; omega
    have : ¬ a = b := fun e => h (by rw [e])
    simp only [q, cond_true, this, decide_false]

/-- base.Event. -/
theorem f16_spec {a b : Ev} (hl : a.S.length ≤ 1000000) : f16 (a.T, a.U, a.F, a.B, a.S, b.T, b.U, b.F, b.B, b.S, ()) = some (decide (a = b), ()) := by
  obtain ⟨t, u, f, B, s⟩ := a
  obtain ⟨t', u', f', B', s'⟩ := b
  unfold f16
  simp only [f50_spec hl, Option.bind_some]
  by_cases h1 : t = t'
  · by_cases h2 : u = u'
    · by_cases h3 : f = f'
      · by_cases h4 : B = B'
        · simp [h1, h2, h3, h4]
        · have q : (B == B') = false := by cases B <;> cases B' <;> simp at h4 ⊢
          simp [h1, h2, h3, h4, q]
      · have q : (f == f') = false := by simpa using h3
        simp [h1, h2, h3, q]
    · have q : (u == u') = false := by simpa using h2
      simp [h1, h2, q]
  · have q : (t == t') = false := by simpa using h1
    simp [h1, q]

theorem l31_spec {a b : List Ev} (hab : a.length = b.length) (hl : a.length ≤ 1000000) (hs : ∀ e ∈ a, e.S.length ≤ 1000000) : ∀ (k i : Nat), a.length - i = k → i ≤ a.length →
    ∃ y, l31_0 (a, b, (i : Int), ()) = some y ∧ (Sum.elim (fun y15 => some (y15.fst, ())) (fun _x => some (true, ())) y : Option (Bool × Unit)) = some (decide (a.drop i = b.drop i), ()) := by
  intro k
  induction k with
  | zero =>
    intro i hk hi
    have : i = a.length := by omega
    subst this
    have c1 : ¬ (a.length : Int) < (a.length : Int) := by omega
    refine ⟨.inr (), ?_, ?_⟩
    · unfold l31_0
      rw [iterO_eq]
      have : r31_0 (a, b, (a.length : Int), ()) = some (.inr (.inr ())) := by
        unfold r31_0
        simp only [c1, decide_false, cond_false]
      rw [this]
    · have h1 : a.drop a.length = [] := by simp
      have h2 : b.drop a.length = [] := by simp [hab]
      simp only [Sum.elim_inr, h1, h2, decide_true]
  | succ k ih =>
    intro i hk hi
    have hlt : i < a.length := by omega
    have hlt2 : i < b.length := by omega
    have c1 : (i : Int) < (a.length : Int) := by omega
    have w0 : IntKind.i64.wrap ((i : Int) + 1) = ((i + 1 : Nat) : Int) := by rw [i64w (by omega) (by omega)]; rfl
    have g1 := List.getElem?_eq_getElem hlt
    have g2 := List.getElem?_eq_getElem hlt2
    have hd1 : a.drop i = a[i] :: a.drop (i + 1) := List.drop_eq_getElem_cons hlt
    have hd2 : b.drop i = b[i] :: b.drop (i + 1) := List.drop_eq_getElem_cons hlt2
    have hev := f16_spec (a := a[i]) (b := b[i]) (hs _ (List.getElem_mem hlt))
    by_cases hb : a[i] = b[i]
    · obtain ⟨y, y1, y2⟩ := ih (i + 1) (by omega) (by omega)
      refine ⟨y, ?_, ?_⟩
      · unfold l31_0 at y1 ⊢
        rw [iterO_eq]
        have : r31_0 (a, b, (i : Int), ()) = some (.inl (a, b, ((i + 1 : Nat) : Int), ())) := by
          rw [decide_eq_true hb] at hev
          unfold r31_0
          simp only [c1, decide_true, cond_true, idxO_nat, g1, g2, Option.bind_some, hev, Bool.not_true, cond_false, w0]
        rw [this]
        exact y1
      · rw [y2, hd1, hd2, hb]
        simp only [List.cons.injEq, true_and]
    · refine ⟨.inl (false, ()), ?_, ?_⟩
      · unfold l31_0
        rw [iterO_eq]
        have : r31_0 (a, b, (i : Int), ()) = some (.inr (.inl (false, ()))) := by
          rw [decide_eq_false hb] at hev
          unfold r31_0
          simp only [c1, decide_true, cond_true, idxO_nat, g1, g2, Option.bind_some, hev, Bool.not_false]
        rw [this]
      · rw [hd1, hd2]
        simp only [Sum.elim_inl, List.cons.injEq, hb, false_and, decide_false]

/-- base.Events. -/
theorem f31_spec {a b : List Ev} (hl : a.length ≤ 1000000) (hs : ∀ e ∈ a, e.S.length ≤ 1000000) : f31 (a, b, ()) = some (decide (a = b), ()) := by
  unfold f31
  by_cases h : a.length = b.length
  · have q : ((a.length : Int) != (b.length : Int)) = false := by simp [h]
    obtain ⟨y, y1, y2⟩ := l31_spec h hl hs a.length 0 rfl (by omega)
    have y1' : l31_0 (a, b, 0, ()) = some y := y1
    rw [List.drop_zero, List.drop_zero] at y2
    simp only [q, cond_false, y1', Option.bind_some]
    exact y2
  · have q : ((a.length : Int) != (b.length : Int)) = true := by simp; omega
    have : ¬ a = b := fun e => h (by rw [e])
    simp only [q, cond_true, this, decide_false]

/-! ### There and back -/

theorem rdi_zig {n : Int} (h1 : -9223372036854775808 ≤ n) (h2 : n ≤ 9223372036854775807) (rest : List Int) : rdi (uint (zig n) ++ rest) = (n, rest, 0) := by
  have hz := zig_lt h1 h2
  unfold rdi
  rw [rd_uint hz.1 hz.2, unzig_zig]
theorem rdc_uint {n m o : Int} (h1 : 0 ≤ n) (h2 : n ≤ m) (h3 : m ≤ 4294967296) (rest : List Int) : rdc m o (uint n ++ rest) = (n, rest, 0) := by
  unfold rdc
  rw [rd_uint h1 (by omega), if_neg (by simp), if_neg (by simp only; omega)]

theorem decBs_enc : ∀ (s : List Bm), (∀ b ∈ s, bmOK b = true) → decBs s.length (encB s) = (s, [], 0)
  | [], _ => rfl
  | b :: s, h => by
    obtain ⟨⟨b1, b2⟩, b3, b4⟩ := bmOK_iff.1 (h b (List.mem_cons_self ..))
    have ih := decBs_enc s fun x hx => h x (List.mem_cons_of_mem _ hx)
    have e1 : rdc 4294967296 2 (encB (b :: s)) = (b.M, uint (b.R + 1) ++ encB s, 0) := rdc_uint b1 (by omega) (by omega) _
    have e2 : rdc 4294967296 2 (rdc 4294967296 2 (encB (b :: s))).2.1 = (b.R + 1, encB s, 0) := by rw [e1]; exact rdc_uint (by omega) (by omega) (by omega) _
    rw [List.length_cons, decBs_3 (by rw [e1]) (by rw [e2]), e2, e1, ih]
    obtain ⟨m, r⟩ := b
    simp only [Prod.mk.injEq, List.cons.injEq, Bm.mk.injEq, and_true, true_and]
    omega

theorem encE_form (e : Ev) : encE e = uint (zig e.T) ++ (uint (zig e.U) ++ (uint (zig e.F) ++ ((if e.B then 1 else 0) :: (uint (e.S.length : Int) ++ encB e.S)))) := by
  unfold encE headE
  simp only [List.append_assoc, List.cons_append, List.nil_append]

/-- Decode leads back to the event. -/
theorem dec_enc {e : Ev} (h : evOK e = true) : dec (encE e) = (e, 0) := by
  obtain ⟨hc, hs, t1, t2⟩ := evOK_iff.1 h
  obtain ⟨⟨u1, u2⟩, f1, f2⟩ := cmdOK_iff.1 hc
  obtain ⟨s1, s2⟩ := scanOK_iff.1 hs
  rw [encE_form]
  unfold dec
  simp only [rdi_zig (n := e.T) (by omega) (by omega), rdi_zig (n := e.U) (by omega) (by omega), rdi_zig (n := e.F) (by omega) (by omega)]
  rw [if_neg (by simp), if_neg (by omega), if_neg (by simp), if_neg (by simp), dec2_cons]
  have hf : ¬ ((if e.B then (1 : Int) else 0) > 1) := by cases e.B <;> simp
  rw [if_neg hf]
  unfold dec3
  simp only [rdc_uint (n := (e.S.length : Int)) (m := 32) (o := 6) (by omega) (by omega) (by omega), Int.toNat_natCast, decBs_enc e.S s2]
  rw [if_neg (by simp), if_neg (by simp), if_neg (by simp), if_pos ⟨hc, hs⟩]
  obtain ⟨t, u, f, B, s⟩ := e
  cases B <;> rfl

theorem rd_form {b : List Int} (hb : Byt b) (h : (rd 0 0 b).2.2 = 0) : b = uint (rd 0 0 b).1 ++ (rd 0 0 b).2.1 := by
  obtain ⟨n, a1, a2, a3, _, _⟩ := rd_back b 0 0 (rd 0 0 b).1 (rd 0 0 b).2.1 hb (by omega) (Prod.ext rfl (Prod.ext rfl h))
  have a2 : (rd 0 0 b).1 = n := by simpa using a2
  rw [a2]
  exact a3
theorem zig_unzig {v : Int} (h1 : 0 ≤ v) : zig (unzig v) = v := by
  unfold zig unzig
  split <;> split <;> omega
theorem rdi_form {b : List Int} (hb : Byt b) (h : (rdi b).2.2 = 0) : b = uint (zig (rdi b).1) ++ (rdi b).2.1 := by
  have := rd_form hb h
  have hv := rd_lt hb
  unfold rdi
  simp only
  rw [zig_unzig hv.1]
  exact this
theorem rdc_form {m o : Int} {b : List Int} (hb : Byt b) (ho : o ≠ 0) (h : (rdc m o b).2.2 = 0) : b = uint (rdc m o b).1 ++ (rdc m o b).2.1 := by
  have h2 := h
  unfold rdc at h
  split at h
  · rename_i h3; exact (h3 h).elim
  · rename_i h3
    split at h
    · exact (ho h).elim
    · rename_i h4
      unfold rdc
      rw [if_neg h3, if_neg h4]
      exact rd_form hb (by simpa using h3)

theorem decBs_back : ∀ (n : Nat) (b : List Int), Byt b → (decBs n b).2.2 = 0 → (decBs n b).1.length = n ∧ b = encB (decBs n b).1 ++ (decBs n b).2.1
  | 0, b, _, _ => ⟨rfl, rfl⟩
  | n + 1, b, hb, h => by
    by_cases hx : (rdc 4294967296 2 b).2.2 = 0
    · by_cases hy : (rdc 4294967296 2 (rdc 4294967296 2 b).2.1).2.2 = 0
      · rw [decBs_3 hx hy] at h ⊢
        obtain ⟨x1, _⟩ := rdc_ok (most := 4294967296) (over := 2) hb (by omega)
        obtain ⟨y1, _⟩ := rdc_ok (most := 4294967296) (over := 2) x1 (by omega)
        obtain ⟨i1, i2⟩ := decBs_back n _ y1 h
        have f1 := rdc_form hb (by omega) hx
        have f2 := rdc_form x1 (by omega) hy
        refine ⟨by simp [i1], ?_⟩
        simp only [encB]
        conv => lhs; rw [f1, f2, i2]
        simp only [List.append_assoc, Int.sub_add_cancel]
      · rw [decBs_2 hx hy] at h
        exact (hy h).elim
    · rw [decBs_1 hx] at h
      exact (hx h).elim

theorem fail_ne {e : Int} (he : e ≠ 0) : (fail e).2 ≠ 0 := he

/-- What is decoded is the event's data. -/
theorem dec_back {b : List Int} (hb : Byt b) (h : (dec b).2 = 0) : evOK (dec b).1 = true ∧ encE (dec b).1 = b := by
  unfold dec at h ⊢
  by_cases ht : (rdi b).2.2 = 0
  · rw [if_neg (by simpa using ht)] at h ⊢
    by_cases hr : (rdi b).1 < 0 ∨ 1099511627776 < (rdi b).1
    · rw [if_pos hr] at h
      exact (fail_ne (by omega) h).elim
    · rw [if_neg hr] at h ⊢
      obtain ⟨t1, _⟩ := rdi_ok hb
      have ft := rdi_form hb ht
      by_cases hu : (rdi (rdi b).2.1).2.2 = 0
      · rw [if_neg (by simpa using hu)] at h ⊢
        obtain ⟨u1, _⟩ := rdi_ok t1
        have fu := rdi_form t1 hu
        by_cases hv : (rdi (rdi (rdi b).2.1).2.1).2.2 = 0
        · rw [if_neg (by simpa using hv)] at h ⊢
          obtain ⟨v1, _⟩ := rdi_ok u1
          have fv := rdi_form u1 hv
          generalize rdi b = t at *
          generalize rdi t.2.1 = u at *
          generalize rdi u.2.1 = v at *
          cases hrest : v.2.1 with
          | nil => rw [hrest] at h; exact (fail_ne (e := 4) (by omega) h).elim
          | cons c r =>
            rw [hrest, dec2_cons] at h
            rw [dec2_cons]
            have hrb : Byt r := fun x hx => v1 x (by rw [hrest]; exact List.mem_cons_of_mem _ hx)
            have hcb := v1 c (by rw [hrest]; exact List.mem_cons_self ..)
            by_cases hc : c > 1
            · rw [if_pos hc] at h; exact (fail_ne (e := 3) (by omega) h).elim
            · rw [if_neg hc] at h ⊢
              unfold dec3 at h ⊢
              by_cases hn : (rdc 32 6 r).2.2 = 0
              · rw [if_neg (by simpa using hn)] at h ⊢
                obtain ⟨n1, _, n3, _⟩ := rdc_ok (most := 32) (over := 6) hrb (by omega)
                have fn := rdc_form hrb (by omega) hn
                generalize rdc 32 6 r = n at *
                by_cases hd : (decBs n.1.toNat n.2.1).2.2 = 0
                · rw [if_neg (by simpa using hd)] at h ⊢
                  obtain ⟨d1, d2⟩ := decBs_back n.1.toNat n.2.1 n1 hd
                  generalize decBs n.1.toNat n.2.1 = d at *
                  by_cases hre : d.2.1 = []
                  · rw [if_neg (by simpa using hre)] at h ⊢
                    by_cases hok : cmdOK u.1 v.1 = true ∧ scanOK d.1 = true
                    · rw [if_pos hok]
                      refine ⟨evOK_iff.2 ⟨hok.1, hok.2, by simp only; omega, by simp only; omega⟩, ?_⟩
                      rw [encE_form]
                      simp only
                      have hcf : (if (c == 1) = true then (1 : Int) else 0) = c := by
                        by_cases h1 : c = 1
                        · simp [h1]
                        · have : c = 0 := by omega
                          simp [this]
                      have hdl : ((d.1.length : Nat) : Int) = n.1 := by rw [d1]; omega
                      rw [hcf, hdl, ft, fu, fv, hrest, fn, d2, hre, List.append_nil]
                    · rw [if_neg hok] at h; exact (fail_ne (e := 1) (by omega) h).elim
                  · rw [if_pos hre] at h; exact (fail_ne (e := 3) (by omega) h).elim
                · rw [if_pos hd] at h; exact (fail_ne hd h).elim
              · rw [if_pos hn] at h; exact (fail_ne hn h).elim
        · rw [if_pos hv] at h; exact (fail_ne hv h).elim
      · rw [if_pos hu] at h; exact (fail_ne hu h).elim
  · rw [if_pos ht] at h; exact (fail_ne ht h).elim

theorem uint_byt' {n : Int} (h1 : 0 ≤ n) (h2 : n ≤ 18446744073709551615) : Byt (uint n) := uint_byt h1 h2
theorem encB_byt : ∀ (s : List Bm), (∀ b ∈ s, bmOK b = true) → Byt (encB s)
  | [], _ => fun x hx => by cases hx
  | b :: s, h => by
    obtain ⟨⟨b1, b2⟩, b3, b4⟩ := bmOK_iff.1 (h b (List.mem_cons_self ..))
    exact (uint_byt' b1 (by omega)).append ((uint_byt' (by omega) (by omega)).append (encB_byt s fun x hx => h x (List.mem_cons_of_mem _ hx)))
theorem encE_byt {e : Ev} (h : evOK e = true) : Byt (encE e) := by
  obtain ⟨hc, hs, t1, t2⟩ := evOK_iff.1 h
  obtain ⟨⟨u1, u2⟩, f1, f2⟩ := cmdOK_iff.1 hc
  obtain ⟨s1, s2⟩ := scanOK_iff.1 hs
  have z1 := zig_lt (n := e.T) (by omega) (by omega)
  have z2 := zig_lt (n := e.U) (by omega) (by omega)
  have z3 := zig_lt (n := e.F) (by omega) (by omega)
  rw [encE_form]
  exact (uint_byt' z1.1 z1.2).append ((uint_byt' z2.1 z2.2).append ((uint_byt' z3.1 z3.2).append (Byt.cons (by cases e.B <;> simp) (by cases e.B <;> simp) ((uint_byt' (by omega) (by omega)).append (encB_byt e.S s2)))))
theorem enc_byt (e : Ev) : Byt (enc e) := by
  unfold enc
  split
  · rename_i h; exact encE_byt h
  · intro x hx; cases hx
theorem dec_nil : dec [] = fail 4 := by unfold dec; rfl
theorem uint_ne (n : Int) : uint n ≠ [] := by
  unfold uint uintF
  split <;> simp
theorem encE_ne (e : Ev) : encE e ≠ [] := by
  rw [encE_form]
  simp [uint_ne]

end Go.AE
