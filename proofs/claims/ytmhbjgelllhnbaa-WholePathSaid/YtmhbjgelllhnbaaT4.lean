/-
  WholePath, part 4: joined over cells of at least a number.
-/
import Derived.Test.YtmhbjgelllhnbaaT3
namespace Go.AE
open Go.Proofs Go.RowKit
set_option maxRecDepth 100000

theorem f47_spec {p : Pl} (c : Pt) : f47 p.W p.H p.C c.X c.Y = decide (p.inP c) := by
  unfold f47 Pl.inP
  by_cases e1 : c.X ≥ 0 <;> by_cases e2 : c.Y ≥ 0 <;> by_cases e3 : c.X < p.W <;> by_cases e4 : c.Y < p.H <;> simp [e1, e2, e3, e4] <;> omega
theorem f28_spec {p : Pl} (hp : p.Ok) (c : Pt) : f28 (p.W, p.H, p.C, c.X, c.Y, ()) = some (decide (p.free c), ()) := by
  have hfr : p.free c ↔ p.inP c ∧ p.C.getD (p.ix c) 0 = 1 := Iff.rfl
  unfold f28
  by_cases hc : p.inP c
  · simp only [f47_spec, hc, decide_true, cond_true, ix_w hp hc, idxO_nat, cell_get hp hc, Option.bind_some]
    congr 2
    rw [Bool.eq_iff_iff, decide_eq_true_iff, beq_iff_eq, hfr]
    exact ⟨fun h => ⟨hc, h⟩, fun h => h.2⟩
  · have : ¬ p.free c := fun h => hc h.1
    simp only [f47_spec, hc, this, decide_false, cond_false]
theorem f50_spec (x y W H : Int) (C : List Int) : f50 x y W H C = (IntKind.i64.wrap (IntKind.i64.wrap (y * W) + x), W, H, C) := rfl

/-- Of how many cells nothing was seen. -/
def cf : List Bool → Nat
  | [] => 0
  | b :: l => (if b then 0 else 1) + cf l
theorem cf_set : ∀ {l : List Bool} {i : Nat}, l[i]? = some false → cf (l.set i true) + 1 = cf l
  | [], i, h => by simp at h
  | b :: l, 0, h => by
    simp only [List.getElem?_cons_zero, Option.some.injEq] at h
    subst h
    simp [cf]
    omega
  | b :: l, i + 1, h => by
    simp only [List.getElem?_cons_succ] at h
    have := cf_set h
    simp only [List.set_cons_succ, cf]
    omega
theorem cf_rep (n : Nat) : cf (List.replicate n false) = n := by
  induction n with
  | zero => rfl
  | succ n ih => simp only [List.replicate_succ, cf, ih, Bool.false_eq_true, if_false]; omega

namespace Pl
def sn (p : Pl) (l : List Bool) (c : Pt) : Bool := l.getD (p.ix c) false
theorem sn_get {p : Pl} (hp : p.Ok) {l : List Bool} (hl : l.length = p.C.length) {c : Pt} (hc : p.inP c) : l[p.ix c]? = some (p.sn l c) := by
  have := ix_lt hp hc
  unfold sn
  rw [List.getD_eq_getElem?_getD, List.getElem?_eq_getElem (by omega)]; rfl
theorem sn_set {p : Pl} (hp : p.Ok) {l : List Bool} (hl : l.length = p.C.length) {c d : Pt} (hc : p.inP c) (hd : p.inP d) : p.sn (l.set (p.ix c) true) d = if d = c then true else p.sn l d := by
  have h1 := ix_lt hp hc
  unfold sn
  simp only [List.getD_eq_getElem?_getD]
  split
  · rename_i h
    subst h
    rw [List.getElem?_set_self (by omega)]; rfl
  · rename_i h
    rw [List.getElem?_set_ne (fun e => h (ix_inj hd hc e.symm))]

structure DF (p P : Pl) (a b c : Pt) (seen : List Bool) (Q rem : List Pt) : Prop where
  len : seen.length = p.C.length
  sa : p.sn seen a = true
  con : ∀ x, p.inP x → p.sn seen x = true → P.Conn a x
  que : ∀ x ∈ Q, p.inP x ∧ p.sn seen x = true
  nb : ∀ x, p.inP x → p.sn seen x = true → x ∉ Q → x ≠ c → x ≠ b ∧ ∀ d ∈ four, P.free (add x d) → p.sn seen (add x d) = true
  cur : ∀ d ∈ four, d ∉ rem → P.free (add c d) → p.sn seen (add c d) = true
  cin : p.inP c ∧ p.sn seen c = true ∧ c ≠ b
def dmu2 (seen : List Bool) (Q : List Pt) : Nat := 2 * cf seen + Q.length

variable {p P : Pl} {a b c : Pt}
theorem DF.pass {seen : List Bool} {Q rem : List Pt} {d : Pt} (h : DF p P a b c seen Q (d :: rem)) (hd : P.free (add c d) → p.sn seen (add c d) = true) : DF p P a b c seen Q rem :=
  ⟨h.len, h.sa, h.con, h.que, h.nb, fun d' h1 h2 h3 => by
    by_cases e : d' = d
    · subst e; exact hd h3
    · exact h.cur d' h1 (fun hm => (List.mem_cons.1 hm).elim e h2) h3, h.cin⟩
theorem DF.push (hp : p.Ok) (hP : ∀ x, P.free x → p.inP x) {seen : List Bool} {Q Q' rem : List Pt} {d : Pt} (h : DF p P a b c seen Q (d :: rem)) (hd : d ∈ four) (hf : P.free (add c d)) (hs : p.sn seen (add c d) = false)
    (hQ : ∀ x, x ∈ Q' ↔ x ∈ Q ∨ x = add c d) (ha : p.inP a) : DF p P a b c (seen.set (p.ix (add c d)) true) Q' rem := by
  have hin := hP _ hf
  have up : ∀ x, p.inP x → p.sn seen x = true → p.sn (seen.set (p.ix (add c d)) true) x = true := fun x hx h1 => by
    rw [sn_set hp h.len hin hx]
    split
    · rfl
    · exact h1
  refine ⟨by rw [List.length_set]; exact h.len, up a ha h.sa, fun x hx h1 => ?_, fun x hx => ?_, fun x hx h1 h2 h3 => ?_, fun d' h1 h2 h3 => ?_, ⟨h.cin.1, up c h.cin.1 h.cin.2.1, h.cin.2.2⟩⟩
  · rw [sn_set hp h.len hin hx] at h1
    split at h1
    · rename_i he
      rw [he]
      exact .step (h.con c h.cin.1 h.cin.2.1) hd hf
    · exact h.con x hx h1
  · rcases (hQ x).1 hx with h1 | h1
    · exact ⟨(h.que x h1).1, up x (h.que x h1).1 (h.que x h1).2⟩
    · subst h1
      refine ⟨hin, ?_⟩
      rw [sn_set hp h.len hin hin, if_pos rfl]
  · have hne : x ≠ add c d := fun e => h2 ((hQ x).2 (.inr e))
    rw [sn_set hp h.len hin hx, if_neg hne] at h1
    obtain ⟨g1, g2⟩ := h.nb x hx h1 (fun hm => h2 ((hQ x).2 (.inl hm))) h3
    exact ⟨g1, fun d' k1 k2 => up _ (hP _ k2) (g2 d' k1 k2)⟩
  · by_cases e : d' = d
    · subst e
      rw [sn_set hp h.len hin hin, if_pos rfl]
    · exact up _ (hP _ h3) (h.cur d' h1 (fun hm => (List.mem_cons.1 hm).elim e h2) h3)
theorem DF.mu (hp : p.Ok) {seen : List Bool} (hl : seen.length = p.C.length) {Q Q' : List Pt} {x : Pt} (hx : p.inP x) (hs : p.sn seen x = false) (hQ : Q'.length = Q.length + 1) : dmu2 (seen.set (p.ix x) true) Q' + 1 = dmu2 seen Q := by
  have h1 := sn_get hp hl hx
  rw [hs] at h1
  have := cf_set h1
  unfold dmu2
  omega
theorem DF.pop {c' : Pt} {seen : List Bool} {Q Q' : List Pt} (h : DF p P a b c seen Q []) (hm : ∀ x, x ∈ Q ↔ x ∈ Q' ∨ x = c') (hb : c' ≠ b) : DF p P a b c' seen Q' four :=
  ⟨h.len, h.sa, h.con, fun x hx => h.que x ((hm x).2 (.inl hx)), fun x hx h1 h2 h3 => by
    have hn : x ∉ Q := fun hq => ((hm x).1 hq).elim h2 h3
    by_cases e : x = c
    · subst e
      exact ⟨h.cin.2.2, fun d hd hf => h.cur d hd (by simp) hf⟩
    · exact h.nb x hx h1 hn e, fun d hd hn => (hn hd).elim, ⟨(h.que c' ((hm c').2 (.inr rfl))).1, (h.que c' ((hm c').2 (.inr rfl))).2, hb⟩⟩
/-- Where nothing is left to look at, b is not joined. -/
theorem DF.done (hP : ∀ x, P.free x → p.inP x) {seen : List Bool} (h : DF p P a b c seen [] []) : ¬ P.Conn a b := by
  have all : ∀ x, p.inP x → p.sn seen x = true → x ≠ b ∧ ∀ d ∈ four, P.free (add x d) → p.sn seen (add x d) = true := fun x hx h1 => by
    by_cases e : x = c
    · subst e
      exact ⟨h.cin.2.2, fun d hd hf => h.cur d hd (by simp) hf⟩
    · exact h.nb x hx h1 (by simp) e
  have key : ∀ x, P.Conn a x → p.sn seen x = true := fun x hx => by
    induction hx with
    | refl hf => exact h.sa
    | step h1 hd hf ih => exact (all _ (hP _ h1.free2) ih).2 _ hd hf
  intro hc
  exact (all b (hP _ hc.free2) (key b hc)).1 rfl
end Pl

theorem l32_6_spec {p : Pl} (hp : p.Ok) {S : List Int} (hl : S.length = p.C.length) {s : Int} {a b c : Pt} (ha : p.inP a) : ∀ (t j : Nat) (seen : List Bool) (k : Nat) (ob : List Pt), 4 - j = t → j ≤ 4 → k ≤ ob.length →
    Pl.DF p (p.lev S s) a b c seen (ob.take k) (Pl.four.drop j) → Pl.dmu2 seen (ob.take k) ≤ 900 →
    ∃ seen' k' ob', l32_6 (S, s, p.C.length, k, 4, 4, (j : Int), p.W, p.H, p.C, b.X, b.Y, seen, ob, Pl.four.map (Pl.add c), ()) = some (S, s, p.C.length, k', p.W, p.H, p.C, b.X, b.Y, seen', ob', ()) ∧ k' ≤ ob'.length ∧
      Pl.DF p (p.lev S s) a b c seen' (ob'.take k') [] ∧ Pl.dmu2 seen' (ob'.take k') ≤ Pl.dmu2 seen (ob.take k) := by
  intro t
  induction t with
  | zero =>
    intro j seen k ob ht hj hk h hmu
    have : j = 4 := by omega
    subst this
    refine ⟨seen, k, ob, ?_, hk, h, Nat.le_refl _⟩
    have c1 : ¬ ((4 : Nat) : Int) < 4 := by omega
    have hr : r32_6 (S, s, p.C.length, k, 4, 4, ((4 : Nat) : Int), p.W, p.H, p.C, b.X, b.Y, seen, ob, Pl.four.map (Pl.add c), ()) = some (.inr (S, s, p.C.length, k, p.W, p.H, p.C, b.X, b.Y, seen, ob, ())) := by
      unfold r32_6
      simp only [c1, decide_false, cond_false]
    unfold l32_6
    rw [iterO_eq, hr]
  | succ t ih =>
    intro j seen k ob ht hj hk h hmu
    have hj4 : j < Pl.four.length := by show j < 4; omega
    obtain ⟨d, hd⟩ : ∃ d, d = Pl.four[j] := ⟨_, rfl⟩
    have hdm : d ∈ Pl.four := by rw [hd]; exact List.getElem_mem hj4
    have hdrop : Pl.four.drop j = d :: Pl.four.drop (j + 1) := by rw [hd]; exact List.drop_eq_getElem_cons hj4
    have hgd : (Pl.four.map (Pl.add c))[j]? = some (Pl.add c d) := by rw [List.getElem?_map, List.getElem?_eq_getElem hj4, hd]; rfl
    rw [hdrop] at h
    have c1 : (j : Int) < 4 := by omega
    have c2 : (0 : Int) ≤ (j : Int) := by omega
    have c3 : (j : Int) < ((4 : Nat) : Int) := by omega
    have w0 : IntKind.i64.wrap ((j : Int) + 1) = ((j + 1 : Nat) : Int) := by rw [w64 (by omega) (by omega)]; rfl
    have htk : (ob.take k).length = k := by rw [List.length_take]; omega
    have hfr := Pl.lev_free (S := S) hp hl (s := s) (c := Pl.add c d)
    -- nothing new
    have pass : r32_6 (S, s, p.C.length, k, 4, 4, (j : Int), p.W, p.H, p.C, b.X, b.Y, seen, ob, Pl.four.map (Pl.add c), ()) = some (.inl (S, s, p.C.length, k, 4, 4, ((j + 1 : Nat) : Int), p.W, p.H, p.C, b.X, b.Y, seen, ob, Pl.four.map (Pl.add c), ())) →
        ((p.lev S s).free (Pl.add c d) → p.sn seen (Pl.add c d) = true) →
        ∃ seen' k' ob', l32_6 (S, s, p.C.length, k, 4, 4, (j : Int), p.W, p.H, p.C, b.X, b.Y, seen, ob, Pl.four.map (Pl.add c), ()) = some (S, s, p.C.length, k', p.W, p.H, p.C, b.X, b.Y, seen', ob', ()) ∧ k' ≤ ob'.length ∧
          Pl.DF p (p.lev S s) a b c seen' (ob'.take k') [] ∧ Pl.dmu2 seen' (ob'.take k') ≤ Pl.dmu2 seen (ob.take k) := by
      intro hr hp2
      obtain ⟨s', k', o', q1, q2, q3, q4⟩ := ih (j + 1) seen k ob (by omega) (by omega) hk (h.pass hp2) hmu
      refine ⟨s', k', o', ?_, q2, q3, q4⟩
      unfold l32_6 at q1 ⊢
      rw [iterO_eq, hr]
      exact q1
    by_cases hin : p.inP (Pl.add c d)
    · have hix := ix_w hp hin
      have hlt := Pl.ix_lt hp hin
      have i0 : (0 : Int) ≤ ((p.ix (Pl.add c d) : Nat) : Int) := by omega
      have i1 : ((p.ix (Pl.add c d) : Nat) : Int) < (p.C.length : Int) := by omega
      have hsg := Pl.sn_get hp h.len hin
      have hSg := g_get hp hl hin
      cases hs : p.sn seen (Pl.add c d) with
      | true =>
        refine pass ?_ (fun _ => hs)
        rw [hs] at hsg
        unfold r32_6 j32_55
        simp only [c1, c2, c3, decide_true, cond_true, Bool.and_self, Nat.zero_add, Int.toNat_natCast, hgd, Option.bind_some, f47_spec, hin, f50_spec, hix, i0, i1, hsg, Bool.not_true, cond_false, w0]
      | false =>
        rw [hs] at hsg
        by_cases hv : p.g S (Pl.add c d) ≥ s
        · have hmu2 := Pl.DF.mu hp h.len (Q := ob.take k) (Q' := ob.take k ++ [Pl.add c d]) hin hs (by simp)
          have hkb : k ≤ 900 := by unfold Pl.dmu2 at hmu; rw [htk] at hmu; omega
          have rr : roomy (k + 1) 16 = true := roomy_ok (by omega)
          have hr : r32_6 (S, s, p.C.length, k, 4, 4, (j : Int), p.W, p.H, p.C, b.X, b.Y, seen, ob, Pl.four.map (Pl.add c), ()) =
              some (.inl (S, s, p.C.length, k + 1, 4, 4, ((j + 1 : Nat) : Int), p.W, p.H, p.C, b.X, b.Y, seen.set (p.ix (Pl.add c d)) true, ob.take k ++ [Pl.add c d], Pl.four.map (Pl.add c), ())) := by
            unfold r32_6 j32_55
            simp only [c1, c2, c3, decide_true, cond_true, Bool.and_self, Nat.zero_add, Int.toNat_natCast, hgd, Option.bind_some, f47_spec, hin, f50_spec, hix, i0, i1, hsg, Bool.not_false, idxO_nat, hSg, hv, hk, rr, List.drop_zero, w0]
          have hl2 : (ob.take k ++ [Pl.add c d]).length = k + 1 := by rw [List.length_append, htk]; rfl
          have ht2 : (ob.take k ++ [Pl.add c d]).take (k + 1) = ob.take k ++ [Pl.add c d] := List.take_of_length_le (by omega)
          have hf : (p.lev S s).free (Pl.add c d) := hfr.2 ⟨hin, hv⟩
          obtain ⟨s', k', o', q1, q2, q3, q4⟩ := ih (j + 1) (seen.set (p.ix (Pl.add c d)) true) (k + 1) (ob.take k ++ [Pl.add c d]) (by omega) (by omega) (by omega)
            (by rw [ht2]; exact Pl.DF.push (P := p.lev S s) hp (fun x hx => hx.1) h hdm hf hs (fun x => by rw [List.mem_append, List.mem_singleton]) ha) (by rw [ht2]; omega)
          rw [ht2] at q4
          refine ⟨s', k', o', ?_, q2, q3, by omega⟩
          unfold l32_6 at q1 ⊢
          rw [iterO_eq, hr]
          exact q1
        · refine pass ?_ (fun hf => (hv (hfr.1 hf).2).elim)
          unfold r32_6 j32_55
          simp only [c1, c2, c3, decide_true, cond_true, Bool.and_self, Nat.zero_add, Int.toNat_natCast, hgd, Option.bind_some, f47_spec, hin, f50_spec, hix, i0, i1, hsg, Bool.not_false, idxO_nat, hSg, hv, decide_false, cond_false, w0]
    · refine pass ?_ (fun hf => (hin (hfr.1 hf).1).elim)
      unfold r32_6 j32_55
      simp only [c1, c2, c3, decide_true, cond_true, Bool.and_self, Nat.zero_add, Int.toNat_natCast, hgd, Option.bind_some, f47_spec, hin, decide_false, cond_false, w0]

theorem take_last {α : Type} {l : List α} {k : Nat} {x : α} (hk : 0 < k) (h : l[k - 1]? = some x) : l.take k = l.take (k - 1) ++ [x] := by
  obtain ⟨m, rfl⟩ : ∃ m, k = m + 1 := ⟨k - 1, by omega⟩
  rw [Nat.add_sub_cancel] at h ⊢
  rw [List.take_add_one, h]
  rfl

theorem l32_0_spec {p : Pl} (hp : p.Ok) {S : List Int} (hl : S.length = p.C.length) {s : Int} {a b : Pt} (ha : p.inP a) : ∀ (t : Nat) (seen : List Bool) (k : Nat) (ob : List Pt) (c : Pt), Pl.dmu2 seen (ob.take k) ≤ t → k ≤ ob.length → t ≤ 900 →
    (Pl.DF p (p.lev S s) a b c seen (ob.take k) [] ∨ (ob.take k = [a] ∧ seen.length = p.C.length ∧ (∀ x, p.inP x → (p.sn seen x = true ↔ x = a)) ∧ (p.lev S s).free a)) →
    (l32_0 (S, s, p.C.length, k, p.W, p.H, p.C, b.X, b.Y, seen, ob, ()) = some (.inl (true, ())) ∧ (p.lev S s).Conn a b) ∨
      (l32_0 (S, s, p.C.length, k, p.W, p.H, p.C, b.X, b.Y, seen, ob, ()) = some (.inr ()) ∧ ¬ (p.lev S s).Conn a b) := by
  intro t
  induction t with
  | zero =>
    intro seen k ob c hmu hk ht h
    have htk : (ob.take k).length = k := by rw [List.length_take]; omega
    have hk0 : k = 0 := by unfold Pl.dmu2 at hmu; omega
    subst hk0
    rcases h with h | ⟨h, _⟩
    · refine .inr ⟨?_, Pl.DF.done (p := p) (P := p.lev S s) (fun x hx => hx.1) h⟩
      have hr : r32_0 (S, s, p.C.length, 0, p.W, p.H, p.C, b.X, b.Y, seen, ob, ()) = some (.inr (.inr ())) := by
        unfold r32_0
        simp only [Int.natCast_zero, show ¬ ((0 : Int) > 0) by omega, decide_false, cond_false]
      unfold l32_0
      rw [iterO_eq, hr]
    · simp at h
  | succ t ih =>
    intro seen k ob c hmu hk ht h
    have htk : (ob.take k).length = k := by rw [List.length_take]; omega
    by_cases hk0 : k = 0
    · subst hk0
      rcases h with h | ⟨h, _⟩
      · refine .inr ⟨?_, Pl.DF.done (p := p) (P := p.lev S s) (fun x hx => hx.1) h⟩
        have hr : r32_0 (S, s, p.C.length, 0, p.W, p.H, p.C, b.X, b.Y, seen, ob, ()) = some (.inr (.inr ())) := by
          unfold r32_0
          simp only [Int.natCast_zero, show ¬ ((0 : Int) > 0) by omega, decide_false, cond_false]
        unfold l32_0
        rw [iterO_eq, hr]
      · simp at h
    · have hkb : k ≤ 1000 := by unfold Pl.dmu2 at hmu; omega
      have hg : ob[k - 1]? = some (ob[k - 1]'(by omega)) := List.getElem?_eq_getElem (by omega)
      generalize ob[k - 1]'(by omega) = c' at hg
      have htl := take_last (by omega) hg
      have htk' : (ob.take (k - 1)).length = k - 1 := by rw [List.length_take]; omega
      have c1 : (k : Int) > 0 := by omega
      have w0 : IntKind.i64.wrap ((k : Int) - 1) = ((k - 1 : Nat) : Int) := by rw [w64 (by omega) (by omega)]; omega
      have c2 : (0 : Int) ≤ ((k - 1 : Nat) : Int) := by omega
      have c3 : ((k - 1 : Nat) : Int) < (k : Int) := by omega
      have c4 : ((k - 1 : Nat) : Int) ≤ (k : Int) := by omega
      -- the cell that is taken is in the plan and joined
      have hc' : p.inP c' ∧ (p.lev S s).Conn a c' := by
        have hm : c' ∈ ob.take k := by rw [htl]; simp
        rcases h with h | ⟨h1, h2, h3, h4⟩
        · exact ⟨(h.que c' hm).1, h.con c' (h.que c' hm).1 (h.que c' hm).2⟩
        · rw [h1] at hm
          have := List.mem_singleton.1 hm
          subst this
          exact ⟨ha, .refl h4⟩
      by_cases hb : c' = b
      · refine .inl ⟨?_, by rw [← hb]; exact hc'.2⟩
        have hr : r32_0 (S, s, p.C.length, k, p.W, p.H, p.C, b.X, b.Y, seen, ob, ()) = some (.inr (.inl (true, ()))) := by
          unfold r32_0
          simp only [c1, decide_true, cond_true, w0, c2, c3, c4, Int.le_refl, Bool.and_self, Nat.zero_add, Int.toNat_natCast, hg, Option.bind_some, hb, beq_self_eq_true]
        unfold l32_0
        rw [iterO_eq, hr]
      · have hbq : (bif c'.X == b.X then bif c'.Y == b.Y then true else false else false) = false := by
          by_cases e1 : c'.X = b.X
          · by_cases e2 : c'.Y = b.Y
            · exact (hb (by cases c'; cases b; simp only at e1 e2; subst e1 e2; rfl)).elim
            · simp [e1, e2]
          · simp [e1]
        have hn := hc'.1
        have hw := hp.w2
        have hh := hp.h2
        unfold Pl.inP at hn
        have v1 : IntKind.i64.wrap (c'.X + 1) = c'.X + 1 := w64 (by omega) (by omega)
        have v2 : IntKind.i64.wrap (c'.Y + 1) = c'.Y + 1 := w64 (by omega) (by omega)
        have v3 : IntKind.i64.wrap (c'.X - 1) = c'.X - 1 := w64 (by omega) (by omega)
        have v4 : IntKind.i64.wrap (c'.Y - 1) = c'.Y - 1 := w64 (by omega) (by omega)
        have hdl : [Pt.mk (c'.X + 1) c'.Y, Pt.mk c'.X (c'.Y + 1), Pt.mk (c'.X - 1) c'.Y, Pt.mk c'.X (c'.Y - 1)] = Pl.four.map (Pl.add c') := by
          simp [Pl.four, Pl.add, Int.sub_eq_add_neg]
        have hdf : Pl.DF p (p.lev S s) a b c' seen (ob.take (k - 1)) Pl.four := by
          rcases h with h | ⟨h1, h2, h3, h4⟩
          · exact h.pop (fun x => by rw [htl, List.mem_append, List.mem_singleton]) hb
          · have hk1 : k = 1 := by rw [h1] at htk; simp at htk; omega
            subst hk1
            have hca : c' = a := by
              rw [h1] at htl
              simp at htl
              exact htl.symm
            subst hca
            refine ⟨h2, (h3 _ ha).2 rfl, fun x hx h5 => ?_, fun x hx => by simp at hx, fun x hx h5 h6 h7 => (h7 ((h3 x hx).1 h5)).elim, fun d hd hn => (hn hd).elim, ⟨ha, (h3 _ ha).2 rfl, hb⟩⟩
            rw [(h3 x hx).1 h5]
            exact .refl h4
        have hmu1 : Pl.dmu2 seen (ob.take (k - 1)) + 1 ≤ t + 1 := by
          unfold Pl.dmu2 at hmu ⊢
          omega
        obtain ⟨s', k', o', q1, q2, q3, q4⟩ := l32_6_spec hp hl (s := s) (b := b) ha 4 0 seen (k - 1) ob rfl (by omega) (by omega) hdf (by omega)
        have q1' : l32_6 (S, s, p.C.length, k - 1, 4, 4, 0, p.W, p.H, p.C, b.X, b.Y, seen, ob, Pl.four.map (Pl.add c'), ()) = _ := q1
        have hr : r32_0 (S, s, p.C.length, k, p.W, p.H, p.C, b.X, b.Y, seen, ob, ()) = some (.inl (S, s, p.C.length, k', p.W, p.H, p.C, b.X, b.Y, s', o', ())) := by
          unfold r32_0
          simp only [c1, decide_true, cond_true, w0, c2, c3, c4, Int.le_refl, Bool.and_self, Nat.zero_add, Int.toNat_natCast, hg, Option.bind_some, hbq, cond_false, v1, v2, v3, v4, hdl, Nat.sub_zero, q1']
        have := ih s' k' o' c' (by omega) q2 (by omega) (.inl q3)
        unfold l32_0 at this ⊢
        rw [iterO_eq, hr]
        exact this

open Classical in
/-- joined. -/
theorem f32_spec {p : Pl} (hp : p.Ok) {S : List Int} (hl : S.length = p.C.length) (s : Int) {a : Pt} (ha : p.inP a) (b : Pt) : f32 (p.W, p.H, p.C, S, a.X, a.Y, b.X, b.Y, s, ()) = some (decide ((p.lev S s).Conn a b), ()) := by
  have hfew := hp.few
  have hix := ix_w hp ha
  have hlt := Pl.ix_lt hp ha
  have hfr := Pl.lev_free (S := S) hp hl (s := s) (c := a)
  unfold f32
  simp only [f50_spec, hix, idxO_nat, g_get hp hl ha, Option.bind_some]
  by_cases hv : p.g S a < s
  · have hn : ¬ (p.lev S s).Conn a b := fun h => by
      have := (hfr.1 h.free1).2
      omega
    simp only [hv, hn, decide_true, decide_false, cond_true]
  · have hf : (p.lev S s).free a := hfr.2 ⟨ha, by omega⟩
    have c1 : ((S.length : Int) * 1 ≤ 140737488355328) := by omega
    have c2 : ((S.length : Int) ≤ 140737488355328) := by omega
    have i0 : (0 : Int) ≤ ((p.ix a : Nat) : Int) := by omega
    have i1 : ((p.ix a : Nat) : Int) < (S.length : Int) := by omega
    have hget : (List.replicate S.length false)[p.ix a]? = some false := by
      rw [List.getElem?_replicate, if_pos (by omega)]
    have key := l32_0_spec hp hl (s := s) (b := b) ha 900 ((List.replicate S.length false).set (p.ix a) true) 1 [a] a (by
        have := cf_set hget
        rw [cf_rep] at this
        unfold Pl.dmu2
        simp only [List.take_succ_cons, List.take_zero, List.length_singleton]
        omega) (by simp) (by omega) (.inr ⟨rfl, by rw [List.length_set, List.length_replicate]; exact hl, fun x hx => by
        rw [Pl.sn_set hp (by rw [List.length_replicate]; exact hl) ha hx]
        by_cases e : x = a
        · simp [e]
        · have : p.sn (List.replicate S.length false) x = false := by
            unfold Pl.sn
            rw [List.getD_eq_getElem?_getD, List.getElem?_replicate]
            split <;> rfl
          simp [e, this], hf⟩)
    have e1 : (S, s, p.C.length, 1, p.W, p.H, p.C, b.X, b.Y, (List.replicate S.length false).set (p.ix a) true, [a], ()) = (S, s, S.length, 1, p.W, p.H, p.C, b.X, b.Y, (List.replicate S.length false).set (p.ix a) true, [Pt.mk a.X a.Y], ()) := by rw [hl]
    rw [e1] at key
    simp only [hv, decide_false, cond_false, Int.le_refl, c1, c2, decide_true, Bool.and_self, cond_true, Int.toNat_natCast, i0, i1, Nat.zero_add, hget, Option.bind_some]
    rcases key with ⟨k1, k2⟩ | ⟨k1, k2⟩
    · simp only [k1, Option.bind_some, Sum.elim_inl, k2, decide_true]
    · simp only [k1, Option.bind_some, Sum.elim_inr, k2, decide_false]

end Go.AE
