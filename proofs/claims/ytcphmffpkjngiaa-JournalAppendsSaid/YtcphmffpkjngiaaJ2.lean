/-
  Plain laws of the chapter Journal, part 6: data read as an event.
-/
import Derived.Test.YtcphmffpkjngiaaJ1
namespace Go.AE
open Go.Proofs Go.RowKit
set_option maxRecDepth 100000

theorem rd_byt {b : List Int} (hb : Byt b) : Byt (rd 0 0 b).2.1 := by
  by_cases h : (rd 0 0 b).2.2 = 0
  · obtain ⟨n, _, _, a3, _, _⟩ := rd_back b 0 0 (rd 0 0 b).1 (rd 0 0 b).2.1 hb (by omega) (Prod.ext rfl (Prod.ext rfl h))
    intro x hx
    exact hb x (by rw [a3]; exact List.mem_append_right _ hx)
  · rw [(rd_range b 0 0 h).2]; intro x hx; cases hx

/-- A number of at most 'most'. -/
def rdc (most over : Int) (b : List Int) : Int × List Int × Int :=
  if (rd 0 0 b).2.2 ≠ 0 then (0, [], (rd 0 0 b).2.2) else if (rd 0 0 b).1 > most then (0, [], over) else ((rd 0 0 b).1, (rd 0 0 b).2.1, 0)

theorem rdc_ok {most over : Int} {b : List Int} (hb : Byt b) (ho : over ≠ 0) : Byt (rdc most over b).2.1 ∧ (rdc most over b).2.1.length ≤ b.length ∧ 0 ≤ (rdc most over b).1 ∧ ((rdc most over b).2.2 = 0 → (rdc most over b).1 ≤ most) ∧
    ((rdc most over b).2.2 ≠ 0 → (rdc most over b).1 = 0) := by
  have h1 := rd_byt hb
  have h2 := rd_len b 0 0
  have h3 := rd_lt hb
  unfold rdc
  split
  · rename_i h
    exact ⟨fun x hx => by (cases hx), Nat.zero_le _, Int.le_refl _, fun h' => (h h').elim, fun _ => rfl⟩
  · split
    · exact ⟨fun x hx => by (cases hx), Nat.zero_le _, Int.le_refl _, fun h' => (ho h').elim, fun _ => rfl⟩
    · exact ⟨h1, h2, h3.1, fun _ => by omega, fun h => (h rfl).elim⟩

/-- Beams. -/
def decBs : Nat → List Int → List Bm × List Int × Int
  | 0, b => ([], b, 0)
  | n + 1, b =>
    if (rdc 4294967296 2 b).2.2 ≠ 0 then ([], [], (rdc 4294967296 2 b).2.2)
    else if (rdc 4294967296 2 (rdc 4294967296 2 b).2.1).2.2 ≠ 0 then ([], [], (rdc 4294967296 2 (rdc 4294967296 2 b).2.1).2.2)
    else (⟨(rdc 4294967296 2 b).1, (rdc 4294967296 2 (rdc 4294967296 2 b).2.1).1 - 1⟩ :: (decBs n (rdc 4294967296 2 (rdc 4294967296 2 b).2.1).2.1).1, (decBs n (rdc 4294967296 2 (rdc 4294967296 2 b).2.1).2.1).2)

theorem decBs_1 {n : Nat} {b : List Int} (h : (rdc 4294967296 2 b).2.2 ≠ 0) : decBs (n + 1) b = ([], [], (rdc 4294967296 2 b).2.2) := by
  simp only [decBs]
  rw [if_pos h]
theorem decBs_2 {n : Nat} {b : List Int} (h : (rdc 4294967296 2 b).2.2 = 0) (h2 : (rdc 4294967296 2 (rdc 4294967296 2 b).2.1).2.2 ≠ 0) : decBs (n + 1) b = ([], [], (rdc 4294967296 2 (rdc 4294967296 2 b).2.1).2.2) := by
  simp only [decBs]
  rw [if_neg (by simpa using h), if_pos h2]
theorem decBs_3 {n : Nat} {b : List Int} (h : (rdc 4294967296 2 b).2.2 = 0) (h2 : (rdc 4294967296 2 (rdc 4294967296 2 b).2.1).2.2 = 0) : decBs (n + 1) b =
    (⟨(rdc 4294967296 2 b).1, (rdc 4294967296 2 (rdc 4294967296 2 b).2.1).1 - 1⟩ :: (decBs n (rdc 4294967296 2 (rdc 4294967296 2 b).2.1).2.1).1, (decBs n (rdc 4294967296 2 (rdc 4294967296 2 b).2.1).2.1).2) := by
  simp only [decBs]
  rw [if_neg (by simpa using h), if_neg (by simpa using h2)]

def fail (e : Int) : Ev × Int := (⟨0, 0, 0, false, []⟩, e)

/-- The fields behind the flag. -/
def dec3 (t u f : Int) (b : List Int) (B : Bool) : Ev × Int :=
  if (rdc 32 6 b).2.2 ≠ 0 then fail (rdc 32 6 b).2.2
  else if (decBs (rdc 32 6 b).1.toNat (rdc 32 6 b).2.1).2.2 ≠ 0 then fail (decBs (rdc 32 6 b).1.toNat (rdc 32 6 b).2.1).2.2
  else if (decBs (rdc 32 6 b).1.toNat (rdc 32 6 b).2.1).2.1 ≠ [] then fail 3
  else if cmdOK u f = true ∧ scanOK (decBs (rdc 32 6 b).1.toNat (rdc 32 6 b).2.1).1 = true then (⟨t, u, f, B, (decBs (rdc 32 6 b).1.toNat (rdc 32 6 b).2.1).1⟩, 0)
  else fail 1
def dec2 (t u f : Int) : List Int → Ev × Int
  | [] => fail 4
  | c :: b => if c > 1 then fail 3 else dec3 t u f b (c == 1)
theorem dec2_cons {t u f c : Int} {b : List Int} : dec2 t u f (c :: b) = if c > 1 then fail 3 else dec3 t u f b (c == 1) := rfl
/-- An event's data. -/
def dec (b : List Int) : Ev × Int :=
  if (rdi b).2.2 ≠ 0 then fail (rdi b).2.2
  else if (rdi b).1 < 0 ∨ 1099511627776 < (rdi b).1 then fail 2
  else if (rdi (rdi b).2.1).2.2 ≠ 0 then fail (rdi (rdi b).2.1).2.2
  else if (rdi (rdi (rdi b).2.1).2.1).2.2 ≠ 0 then fail (rdi (rdi (rdi b).2.1).2.1).2.2
  else dec2 (rdi b).1 (rdi (rdi b).2.1).1 (rdi (rdi (rdi b).2.1).2.1).1 (rdi (rdi (rdi b).2.1).2.1).2.1

def evR (r : Ev × Int) : Option (Int × Int × Int × Bool × List Bm × Int × Unit) := some (r.1.T, r.1.U, r.1.F, r.1.B, r.1.S, r.2, ())

theorem rdi_ok {b : List Int} (hb : Byt b) : Byt (rdi b).2.1 ∧ (rdi b).2.1.length ≤ b.length ∧ -9223372036854775808 ≤ (rdi b).1 ∧ (rdi b).1 ≤ 9223372036854775807 ∧ ((rdi b).2.2 ≠ 0 → (rdi b).2.1 = [] ∧ (rdi b).1 = 0) := by
  have h1 := rd_byt hb
  have h2 := rd_len b 0 0
  have h3 := rd_lt hb
  unfold rdi
  refine ⟨h1, h2, ?_, ?_, fun h => ?_⟩
  · simp only [unzig]; split <;> omega
  · simp only [unzig]; split <;> omega
  · obtain ⟨a1, a2⟩ := rd_range b 0 0 h
    exact ⟨a2, by rw [a1]; rfl⟩

/-! ### The reference's -/

theorem f52_spec {b : List Int} (hb : Byt b) (hl : b.length ≤ 1000000) {most over : Int} (hm : most ≤ 4294967296) : f52 (b, most, over, ()) = rdQ (rdc most over b) := by
  have h3 := rd_lt hb
  unfold f52 rdc
  simp only [f72_spec hb hl, rdQ, Option.bind_some]
  by_cases h : (rd 0 0 b).2.2 = 0
  · have e : ((rd 0 0 b).2.2 != 0) = false := by simp [h]
    rw [if_neg (by simpa using h)]
    by_cases hm2 : (rd 0 0 b).1 > most
    · rw [if_pos hm2]
      simp only [e, cond_false, hm2, decide_true, cond_true]
    · rw [if_neg hm2]
      have w : IntKind.i64.wrap (rd 0 0 b).1 = (rd 0 0 b).1 := i64w (by omega) (by omega)
      simp only [e, cond_false, hm2, decide_false, w]
  · have e : ((rd 0 0 b).2.2 != 0) = true := by simp [h]
    rw [if_pos h]
    simp only [e, cond_true]

theorem l17_spec' {t u f : Int} {B : Bool} : ∀ (n : Nat) (b : List Int) (N i : Int) (acc : List Bm), Byt b → b.length ≤ 1000000 → (N - i).toNat = n → 0 ≤ i → i ≤ N → N ≤ 32 → acc.length = i.toNat →
    l17_0 (b, N, i, 0, 0, 0, false, t, u, f, B, acc.length, acc, ()) = some (if (decBs n b).2.2 ≠ 0 then .inl ((decBs n b).2.2, 0, 0, 0, false, ()) else .inr ((decBs n b).2.1, 0, 0, 0, false, t, u, f, B, (acc ++ (decBs n b).1).length, acc ++ (decBs n b).1, ())) := by
  intro n
  induction n with
  | zero =>
    intro b N i acc hb hl hn h0 hi hN ha
    have c1 : ¬ i < N := by omega
    have hr : r17_0 (b, N, i, 0, 0, 0, false, t, u, f, B, acc.length, acc, ()) = some (.inr (.inr (b, 0, 0, 0, false, t, u, f, B, acc.length, acc, ()))) := by
      unfold r17_0
      simp only [c1, decide_false, cond_false]
    unfold l17_0
    rw [iterO_eq, hr]
    simp [decBs]
  | succ n ih =>
    intro b N i acc hb hl hn h0 hi hN ha
    have c1 : i < N := by omega
    have w0 : IntKind.i64.wrap (i + 1) = i + 1 := i64w (by omega) (by omega)
    obtain ⟨x1, x2, x3, x4, _⟩ := rdc_ok (most := 4294967296) (over := 2) hb (by omega)
    have e1 := f52_spec hb hl (most := 4294967296) (over := 2) (by omega)
    have e2 := f52_spec x1 (by omega) (most := 4294967296) (over := 2) (by omega)
    obtain ⟨y1, y2, y3, y4, _⟩ := rdc_ok (most := 4294967296) (over := 2) x1 (by omega)
    by_cases hx : (rdc 4294967296 2 b).2.2 = 0
    · by_cases hy : (rdc 4294967296 2 (rdc 4294967296 2 b).2.1).2.2 = 0
      · rw [decBs_3 hx hy]
        generalize rdc 4294967296 2 b = x at *
        generalize rdc 4294967296 2 x.2.1 = y at *
        have hx' : (x.2.2 != 0) = false := by simp [hx]
        have hy' : (y.2.2 != 0) = false := by simp [hy]
        have w1 : IntKind.i64.wrap (y.1 - 1) = y.1 - 1 := i64w (by have := y4 hy; omega) (by have := y4 hy; omega)
        have rr : roomy (acc.length + 1) 16 = true := by unfold roomy; simp; omega
        have tl : List.take acc.length (List.drop 0 acc) = acc := by simp
        have hr : r17_0 (b, N, i, 0, 0, 0, false, t, u, f, B, acc.length, acc, ()) = some (.inl (y.2.1, N, i + 1, 0, 0, 0, false, t, u, f, B, (acc ++ [Bm.mk x.1 (y.1 - 1)]).length, acc ++ [Bm.mk x.1 (y.1 - 1)], ())) := by
          unfold r17_0
          simp only [c1, decide_true, cond_true, e1, rdQ, Option.bind_some, hx', cond_false, e2, hy', Nat.zero_add, Nat.le_refl, rr, tl, w0, w1, List.length_append, List.length_singleton]
        have := ih y.2.1 N (i + 1) (acc ++ [Bm.mk x.1 (y.1 - 1)]) y1 (by omega) (by omega) (by omega) (by omega) hN (by simp only [List.length_append, List.length_singleton]; omega)
        unfold l17_0 at this ⊢
        rw [iterO_eq, hr]
        simp only
        rw [this]
        simp only [List.append_assoc, List.cons_append, List.nil_append]
      · rw [decBs_2 hx hy]
        generalize rdc 4294967296 2 b = x at *
        generalize rdc 4294967296 2 x.2.1 = y at *
        have hx' : (x.2.2 != 0) = false := by simp [hx]
        have hy' : (y.2.2 != 0) = true := by simp [hy]
        have hr : r17_0 (b, N, i, 0, 0, 0, false, t, u, f, B, acc.length, acc, ()) = some (.inr (.inl (y.2.2, 0, 0, 0, false, ()))) := by
          unfold r17_0
          simp only [c1, decide_true, cond_true, e1, rdQ, Option.bind_some, hx', cond_false, e2, hy']
        unfold l17_0
        rw [iterO_eq, hr, if_pos hy]
    · rw [decBs_1 hx]
      generalize rdc 4294967296 2 b = x at *
      have hx' : (x.2.2 != 0) = true := by simp [hx]
      have hr : r17_0 (b, N, i, 0, 0, 0, false, t, u, f, B, acc.length, acc, ()) = some (.inr (.inl (x.2.2, 0, 0, 0, false, ()))) := by
        unfold r17_0
        simp only [c1, decide_true, cond_true, e1, rdQ, Option.bind_some, hx']
      unfold l17_0
      rw [iterO_eq, hr, if_pos hx]

/-- The reference's Decode. -/
theorem f17_spec' {b : List Int} (hb : Byt b) (hl : b.length ≤ 1000000) : f17 (b, ()) = evR (dec b) := by
  obtain ⟨t1, t2, t3, t4, _⟩ := rdi_ok hb
  obtain ⟨u1, u2, u3, u4, _⟩ := rdi_ok t1
  obtain ⟨v1, v2, v3, v4, _⟩ := rdi_ok u1
  unfold f17 dec
  simp only [f51_spec hb hl, f51_spec t1 (by omega), f51_spec u1 (by omega), rdQ, Option.bind_some]
  generalize rdi b = t at *
  generalize rdi t.2.1 = u at *
  generalize rdi u.2.1 = v at *
  by_cases ht : t.2.2 = 0
  · have ht' : (t.2.2 != 0) = false := by simp [ht]
    rw [if_neg (by simpa using ht)]
    simp only [ht', cond_false]
    by_cases h1 : t.1 < 0
    · rw [if_pos (.inl h1)]
      simp only [h1, decide_true, cond_true]
      rfl
    · by_cases h2 : t.1 > 1099511627776
      · rw [if_pos (.inr h2)]
        simp only [h1, decide_false, cond_false, h2, decide_true, cond_true]
        rfl
      · rw [if_neg (by omega)]
        simp only [h1, h2, decide_false, cond_false]
        by_cases hu : u.2.2 = 0
        · have hu' : (u.2.2 != 0) = false := by simp [hu]
          rw [if_neg (by simpa using hu)]
          simp only [hu', cond_false]
          by_cases hv : v.2.2 = 0
          · have hv' : (v.2.2 != 0) = false := by simp [hv]
            rw [if_neg (by simpa using hv)]
            simp only [hv', cond_false]
            cases hr : v.2.1 with
            | nil => rfl
            | cons c r =>
              have hrb : Byt r := fun x hx => v1 x (by rw [hr]; exact List.mem_cons_of_mem _ hx)
              have hrl : r.length ≤ 1000000 := by have := congrArg List.length hr; simp only [List.length_cons] at this; omega
              have z1 : ((((c :: r).length : Nat) : Int) == 0) = false := by simp; omega
              have i0 : idxO (c :: r) 0 = some c := rfl
              have z2 : (1 : Int) ≤ (((c :: r).length : Nat) : Int) := by simp only [List.length_cons]; omega
              have hd : List.drop 1 (List.take ((((c :: r).length : Nat) : Int)).toNat (c :: r)) = r := by simp
              obtain ⟨n1, n2, n3, n4, _⟩ := rdc_ok (most := 32) (over := 6) hrb (by omega)
              have e1 := f52_spec hrb hrl (most := 32) (over := 6) (by omega)
              simp only [z1, cond_false, i0, Option.bind_some, z2, Int.le_refl, decide_true, Bool.and_self, cond_true, hd, e1, rdQ]
              rw [dec2_cons]
              by_cases hc : c > 1
              · rw [if_pos hc]
                simp only [hc, decide_true, cond_true]
                rfl
              · rw [if_neg hc]
                simp only [hc, decide_false, cond_false]
                unfold dec3
                generalize rdc 32 6 r = n at *
                by_cases hn : n.2.2 = 0
                · have hn' : (n.2.2 != 0) = false := by simp [hn]
                  have h4 := n4 hn
                  have hloop := l17_spec' (t := t.1) (u := u.1) (f := v.1) (B := c == 1) n.1.toNat n.2.1 n.1 0 [] n1 (by omega) (by omega) (by omega) n3 h4 rfl
                  have hloop' : l17_0 (n.2.1, n.1, 0, 0, 0, 0, false, t.1, u.1, v.1, c == 1, 0, [], ()) = _ := hloop
                  rw [if_neg (by simpa using hn)]
                  simp only [hn', cond_false, hloop', Option.bind_some, List.nil_append]
                  generalize decBs n.1.toNat n.2.1 = d at *
                  by_cases hd0 : d.2.2 = 0
                  · have hnd : ¬ d.2.2 ≠ 0 := by simpa using hd0
                    rw [if_neg hnd, if_neg hnd]
                    simp only [Sum.elim_inr]
                    by_cases hre : d.2.1 = []
                    · have g1 : ¬ ((d.2.1.length : Nat) : Int) > 0 := by rw [hre]; simp
                      rw [if_neg (by simpa using hre)]
                      have tl : List.take d.1.length (List.drop 0 d.1) = d.1 := by simp
                      simp only [g1, decide_false, cond_false, f43_spec, Nat.zero_add, Nat.le_refl, decide_true, cond_true, tl, f44_spec, Option.bind_some]
                      cases hc1 : cmdOK u.1 v.1 with
                      | false =>
                        rw [if_neg (fun h => Bool.false_ne_true h.1)]
                        simp only [Bool.not_false, cond_true]
                        rfl
                      | true =>
                        cases hc2 : scanOK d.1 with
                        | false =>
                          rw [if_neg (fun h => Bool.false_ne_true h.2)]
                          simp only [Bool.not_true, cond_false, Bool.not_false, cond_true]
                          rfl
                        | true =>
                          rw [if_pos ⟨rfl, rfl⟩]
                          simp only [Bool.not_true, cond_false]
                          rfl
                    · have g1 : ((d.2.1.length : Nat) : Int) > 0 := by
                        have := List.length_pos_iff.2 hre
                        omega
                      rw [if_pos hre]
                      simp only [g1, decide_true, cond_true]
                      rfl
                  · rw [if_pos hd0, if_pos hd0]
                    simp only [Sum.elim_inl]
                    rfl
                · have hn' : (n.2.2 != 0) = true := by simp [hn]
                  rw [if_pos hn]
                  simp only [hn', cond_true]
                  rfl
          · have hv' : (v.2.2 != 0) = true := by simp [hv]
            rw [if_pos hv]
            simp only [hv', cond_true]
            rfl
        · have hu' : (u.2.2 != 0) = true := by simp [hu]
          rw [if_pos hu]
          simp only [hu', cond_true]
          rfl
  · have ht' : (t.2.2 != 0) = true := by simp [ht]
    rw [if_pos ht]
    simp only [ht', cond_true]
    rfl

end Go.AE
