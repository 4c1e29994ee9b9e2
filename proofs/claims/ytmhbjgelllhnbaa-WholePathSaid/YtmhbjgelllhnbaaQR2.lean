/-
  The chapter Repair, part 2: the small functions.
-/
import Derived.Test.YtmhbjgelllhnbaaQR1
namespace Go.AE
open Go.Proofs Go.RowKit
set_option maxRecDepth 100000

theorem f34_spec {p : Pl} (c : Pt) : f34 p.W p.H p.C c.X c.Y = decide (p.inP c) := by
  unfold f34 Pl.inP
  by_cases h1 : 0 ≤ c.X <;> by_cases h2 : 0 ≤ c.Y <;> by_cases h3 : c.X < p.W <;> by_cases h4 : c.Y < p.H <;> simp [h1, h2, h3, h4]

theorem f37_spec {p : Pl} (hp : p.Ok) {c : Pt} (hc : p.inP c) (l : List Int) (gx gy : Int) : f37 p.W p.H p.C gx gy l c.X c.Y = ((p.ix c : Nat) : Int) := by
  unfold f37
  exact ix_w hp hc

theorem f65_spec {p : Pl} (hp : p.Ok) {c : Pt} (hc : p.inP c) : f65 (p.W, p.H, p.C, c.X, c.Y, ()) = some (decide (p.free c), ()) := by
  have h1 := cell_get hp hc
  unfold f65
  rw [ix_w hp hc]
  simp only [idxO_nat, h1, Option.bind_some]
  have : (p.C.getD (p.ix c) 0 == 1) = decide (p.free c) := by
    rw [Bool.eq_iff_iff, beq_iff_eq, decide_eq_true_eq]
    exact ⟨fun h => ⟨hc, h⟩, fun h => h.2⟩
  rw [this]

theorem f51_spec {p : Pl} (hp : p.Ok) {a b : Pt} (ha : p.inP a) (hb : p.inP b) (hn : Pl.adj a b) : f51 (p.W, p.H, p.C, a.X, a.Y, b.X, b.Y, ()) = some ((p.stp a b).getD 0, (p.stp a b).isSome, ()) := by
  unfold f51
  unfold Pl.adj at hn
  simp only [pt_eqb, f65_spec hp ha, f65_spec hp hb, Option.bind_some]
  by_cases e : a = b
  · have : p.stp a b = none := by
      cases hs : p.stp a b with
      | none => rfl
      | some w => exact ((Pl.stp_adj hs).2 e).elim
    rw [this]
    simp only [e, decide_true, cond_true]
    rfl
  · simp only [e, decide_false, cond_false]
    by_cases ga : p.free a
    · by_cases gb : p.free b
      · have hd : (⟨b.X - a.X, b.Y - a.Y⟩ : Pt) ∈ Pl.dirs := dirs_of (by simp only; omega) (by simp only; omega) (by
          simp only
          intro h
          apply e
          cases a; cases b
          simp only [Pt.mk.injEq] at *
          omega)
        simp only [ga, gb, decide_true, Bool.not_true, cond_false]
        unfold Pl.stp
        rw [if_pos hd]
        unfold Pl.st
        rw [add_sub, if_pos ⟨ga, gb⟩]
        have i1 : p.inP ⟨a.X, b.Y⟩ := ⟨ha.1, ha.2.1, hb.2.2.1, hb.2.2.2⟩
        have i2 : p.inP ⟨b.X, a.Y⟩ := ⟨hb.1, hb.2.1, ha.2.2.1, ha.2.2.2⟩
        have s1 := f65_spec hp i1
        have s2 := f65_spec hp i2
        simp only at s1 s2
        have e1 : a.X + (b.X - a.X) = b.X := by omega
        have e2 : a.Y + (b.Y - a.Y) = b.Y := by omega
        simp only [e1, e2]
        by_cases x0 : a.X = b.X
        · have : (b.X - a.X = 0 ∨ b.Y - a.Y = 0) := by omega
          rw [if_pos this]
          simp only [x0, beq_self_eq_true, cond_true]
          rfl
        · have x0' : (a.X == b.X) = false := by simpa using x0
          by_cases y0 : a.Y = b.Y
          · have : (b.X - a.X = 0 ∨ b.Y - a.Y = 0) := by omega
            rw [if_pos this]
            simp only [x0', y0, beq_self_eq_true, cond_true, cond_false]
            rfl
          · have y0' : (a.Y == b.Y) = false := by simpa using y0
            have : ¬ (b.X - a.X = 0 ∨ b.Y - a.Y = 0) := by omega
            simp only [this, if_false, x0', y0', cond_false, s1, s2, Option.bind_some, j51_22]
            by_cases f1 : p.free ⟨a.X, b.Y⟩ <;> by_cases f2 : p.free ⟨b.X, a.Y⟩ <;> simp [f1, f2]
      · rw [stp_unfree (fun h => gb h.2)]
        simp only [ga, gb, decide_true, decide_false, Bool.not_true, Bool.not_false, cond_true, cond_false]
        rfl
    · rw [stp_unfree (fun h => ga h.1)]
      simp only [ga, decide_false, Bool.not_false, cond_true]
      rfl

/-! ### The cells around one -/

def mx0 (n : Int) : Int := bif decide (0 > n) then 0 else n
theorem mx0_eq (n : Int) : mx0 n = max 0 n := by
  unfold mx0
  by_cases h : 0 > n
  · rw [decide_eq_true h]; simp only [cond_true]; omega
  · rw [decide_eq_false h]; simp only [cond_false]; omega
def mn2 (a b : Int) : Int := bif decide (a < b) then a else b
theorem mn2_eq (a b : Int) : mn2 a b = min a b := by
  unfold mn2
  by_cases h : a < b
  · rw [decide_eq_true h]; simp only [cond_true]; omega
  · rw [decide_eq_false h]; simp only [cond_false]; omega

theorem l39_6_spec {p : Pl} (hp : p.Ok) {c : Pt} (hc : p.inP c) {y : Int} : ∀ (t : Nat) (x : Int) (n : Nat) (ob : List Pt), 0 ≤ x → x ≤ mn2 (p.W - 1) (c.X + 1) + 1 → mn2 (p.W - 1) (c.X + 1) + 1 - x = t → n ≤ ob.length → n + t ≤ 1000 →
    ∃ ob', l39_6 (n, y, x, p.W, p.H, p.C, c.X, c.Y, ob, ()) = some (n + t, y, p.W, p.H, p.C, c.X, c.Y, ob', ()) ∧ n + t ≤ ob'.length ∧
      ∀ b, b ∈ ob'.take (n + t) ↔ b ∈ ob.take n ∨ (b.Y = y ∧ x ≤ b.X ∧ b.X ≤ mn2 (p.W - 1) (c.X + 1)) := by
  obtain ⟨⟨x1, x2⟩, y1, y2⟩ := inP_near hp hc
  have hw1 := hp.w1
  have hw2 := hp.w2
  have wa : IntKind.i64.wrap (p.W - 1) = p.W - 1 := w64 (by omega) (by omega)
  have wb : IntKind.i64.wrap (c.X + 1) = c.X + 1 := w64 (by omega) (by omega)
  have k2 : (bif decide (p.W - 1 < c.X + 1) then p.W - 1 else c.X + 1) = mn2 (p.W - 1) (c.X + 1) := rfl
  have hm := mn2_eq (p.W - 1) (c.X + 1)
  intro t
  induction t with
  | zero =>
    intro x n ob h0 h1 ht hob hn
    have c1 : ¬ x ≤ mn2 (p.W - 1) (c.X + 1) := by omega
    refine ⟨ob, ?_, hob, fun b => ⟨.inl, fun h => h.elim id (fun h => by omega)⟩⟩
    have : r39_6 (n, y, x, p.W, p.H, p.C, c.X, c.Y, ob, ()) = some (.inr (n, y, p.W, p.H, p.C, c.X, c.Y, ob, ())) := by
      unfold r39_6
      simp only [wa, wb, k2, c1, decide_false, cond_false]
    unfold l39_6
    rw [iterO_eq, this]
    rfl
  | succ t ih =>
    intro x n ob h0 h1 ht hob hn
    have c1 : x ≤ mn2 (p.W - 1) (c.X + 1) := by omega
    have wx : IntKind.i64.wrap (x + 1) = x + 1 := w64 (by omega) (by omega)
    have rr : roomy (n + 1) 16 = true := roomy_ok (by omega)
    have zz : (0 + n ≤ ob.length) = True := by simp; omega
    have hlen : (ob.take n ++ [(⟨x, y⟩ : Pt)]).length = n + 1 := by rw [List.length_append, take_len0 hob]; rfl
    obtain ⟨ob', r1, r2, r3⟩ := ih (x + 1) (n + 1) (ob.take n ++ [⟨x, y⟩]) (by omega) (by omega) (by omega) (by omega) (by omega)
    have hr : r39_6 (n, y, x, p.W, p.H, p.C, c.X, c.Y, ob, ()) = some (.inl (n + 1, y, x + 1, p.W, p.H, p.C, c.X, c.Y, ob.take n ++ [⟨x, y⟩], ())) := by
      unfold r39_6
      simp only [wa, wb, k2, c1, decide_true, cond_true, zz, rr, wx, List.drop_zero]
    refine ⟨ob', ?_, by omega, fun b => ?_⟩
    · unfold l39_6 at r1 ⊢
      rw [iterO_eq, hr]
      rw [show n + (t + 1) = n + 1 + t by omega]
      exact r1
    · rw [show n + (t + 1) = n + 1 + t by omega, r3 b, List.take_of_length_le (by omega), List.mem_append, List.mem_singleton]
      constructor
      · rintro ((h | h) | h)
        · exact .inl h
        · subst h; exact .inr ⟨rfl, by simp only; omega, by simp only; omega⟩
        · exact .inr ⟨h.1, by omega, h.2.2⟩
      · rintro (h | ⟨h2, h3, h4⟩)
        · exact .inl (.inl h)
        · by_cases e : b.X = x
          · exact .inl (.inr (by cases b; simp only at h2 e; rw [h2, e]))
          · exact .inr ⟨h2, by omega, h4⟩

theorem l39_0_spec {p : Pl} (hp : p.Ok) {c : Pt} (hc : p.inP c) : ∀ (t : Nat) (y : Int) (n : Nat) (ob : List Pt), 0 ≤ y → y ≤ mn2 (p.H - 1) (c.Y + 1) + 1 → mn2 (p.H - 1) (c.Y + 1) + 1 - y = t → n ≤ ob.length → n + 3 * t ≤ 1000 →
    ∃ n' ob', l39_0 (n, y, p.W, p.H, p.C, c.X, c.Y, ob, ()) = some (n', ob', ()) ∧ n' ≤ ob'.length ∧ n' ≤ n + 3 * t ∧
      ∀ b, b ∈ ob'.take n' ↔ b ∈ ob.take n ∨ ((y ≤ b.Y ∧ b.Y ≤ mn2 (p.H - 1) (c.Y + 1)) ∧ mx0 (c.X - 1) ≤ b.X ∧ b.X ≤ mn2 (p.W - 1) (c.X + 1)) := by
  obtain ⟨⟨x1, x2⟩, y1, y2⟩ := inP_near hp hc
  have hh1 := hp.h1
  have hh2 := hp.h2
  have wa : IntKind.i64.wrap (p.H - 1) = p.H - 1 := w64 (by omega) (by omega)
  have wb : IntKind.i64.wrap (c.Y + 1) = c.Y + 1 := w64 (by omega) (by omega)
  have wc : IntKind.i64.wrap (c.X - 1) = c.X - 1 := w64 (by omega) (by omega)
  have k2 : (bif decide (p.H - 1 < c.Y + 1) then p.H - 1 else c.Y + 1) = mn2 (p.H - 1) (c.Y + 1) := rfl
  have k3 : (bif decide (0 > c.X - 1) then 0 else c.X - 1) = mx0 (c.X - 1) := rfl
  have hm := mn2_eq (p.H - 1) (c.Y + 1)
  have hm2 := mn2_eq (p.W - 1) (c.X + 1)
  have hm3 := mx0_eq (c.X - 1)
  have hcx := hc.2.1
  intro t
  induction t with
  | zero =>
    intro y n ob h0 h1 ht hob hn
    have c1 : ¬ y ≤ mn2 (p.H - 1) (c.Y + 1) := by omega
    refine ⟨n, ob, ?_, hob, by omega, fun b => ⟨.inl, fun h => h.elim id (fun h => by omega)⟩⟩
    have : r39_0 (n, y, p.W, p.H, p.C, c.X, c.Y, ob, ()) = some (.inr (n, ob, ())) := by
      unfold r39_0
      simp only [wa, wb, k2, c1, decide_false, cond_false]
    unfold l39_0
    rw [iterO_eq, this]
  | succ t ih =>
    intro y n ob h0 h1 ht hob hn
    have c1 : y ≤ mn2 (p.H - 1) (c.Y + 1) := by omega
    have wy : IntKind.i64.wrap (y + 1) = y + 1 := w64 (by omega) (by omega)
    obtain ⟨ob1, s1, s2, s3⟩ := l39_6_spec hp hc (y := y) (mn2 (p.W - 1) (c.X + 1) + 1 - mx0 (c.X - 1)).toNat (mx0 (c.X - 1)) n ob (by omega) (by omega) (by omega) hob (by omega)
    have hk : (mn2 (p.W - 1) (c.X + 1) + 1 - mx0 (c.X - 1)).toNat ≤ 3 := by omega
    generalize (mn2 (p.W - 1) (c.X + 1) + 1 - mx0 (c.X - 1)).toNat = k at *
    obtain ⟨n', ob', r1, r2, r3, r4⟩ := ih (y + 1) (n + k) ob1 (by omega) (by omega) (by omega) s2 (by omega)
    have hr : r39_0 (n, y, p.W, p.H, p.C, c.X, c.Y, ob, ()) = some (.inl (n + k, y + 1, p.W, p.H, p.C, c.X, c.Y, ob1, ())) := by
      unfold r39_0
      simp only [wa, wb, wc, k2, k3, c1, decide_true, cond_true, s1, Option.bind_some, wy]
    refine ⟨n', ob', ?_, r2, by omega, fun b => ?_⟩
    · unfold l39_0 at r1 ⊢
      rw [iterO_eq, hr]
      exact r1
    · rw [r4 b, s3 b]
      constructor
      · rintro ((h | h) | h)
        · exact .inl h
        · exact .inr ⟨by omega, h.2⟩
        · exact .inr ⟨by omega, h.2⟩
      · rintro (h | ⟨h2, h3⟩)
        · exact .inl (.inl h)
        · by_cases e : b.Y = y
          · exact .inl (.inr ⟨e, h3⟩)
          · exact .inr ⟨by omega, h3⟩

theorem f39_spec {p : Pl} (hp : p.Ok) {c : Pt} (hc : p.inP c) : ∃ n ob, f39 (p.W, p.H, p.C, c.X, c.Y, ()) = some (n, ob, ()) ∧ n ≤ ob.length ∧ Pl.Ar p c (ob.take n) := by
  obtain ⟨⟨x1, x2⟩, y1, y2⟩ := inP_near hp hc
  have hh1 := hp.h1
  have hh2 := hp.h2
  have wc : IntKind.i64.wrap (c.Y - 1) = c.Y - 1 := w64 (by omega) (by omega)
  have k3 : (bif decide (0 > c.Y - 1) then 0 else c.Y - 1) = mx0 (c.Y - 1) := rfl
  have hm := mn2_eq (p.H - 1) (c.Y + 1)
  have hm1 := mx0_eq (c.Y - 1)
  have hm2 := mn2_eq (p.W - 1) (c.X + 1)
  have hm3 := mx0_eq (c.X - 1)
  have hcy := hc.2.2.2
  obtain ⟨n, ob, r1, r2, r3, r4⟩ := l39_0_spec hp hc (mn2 (p.H - 1) (c.Y + 1) + 1 - mx0 (c.Y - 1)).toNat (mx0 (c.Y - 1)) 0 [] (by omega) (by omega) (by omega) (by simp) (by omega)
  refine ⟨n, ob, ?_, r2, by rw [take_len0 r2]; omega, fun b => ?_⟩
  · unfold f39
    simp only [wc, k3, r1, Option.bind_some]
  · rw [r4 b]
    unfold Pl.inP Pl.adj
    simp only [List.take_zero, List.not_mem_nil, false_or]
    omega

/-! ### Held costs -/

open Classical in
theorem l52_spec {p : Pl} (hp : p.Ok) {c : Pt} (hc : p.inP c) {l : List Int} (hl : l.length = p.C.length) (ht : ∀ x, p.inP x → -1 ≤ p.g l x ∧ p.g l x ≤ 39600) {gx gy : Int} {n : Nat} {ob : List Pt} (hob : n ≤ ob.length) (hn : n ≤ 9) (hA : ∀ b ∈ ob.take n, p.inP b ∧ Pl.adj c b) : ∀ (t i : Nat), n - i = t → i ≤ n →
    l52_0 (p.W, p.H, p.C, gx, gy, l, p.g l c, n, (n : Int), (i : Int), c.X, c.Y, ob, ()) = some (if ∃ b w, b ∈ (ob.take n).drop i ∧ p.stp c b = some w ∧ 0 ≤ p.g l b ∧ p.g l b + w = p.g l c then .inl (true, ()) else .inr ()) := by
  intro t
  induction t with
  | zero =>
    intro i hti hi
    have : i = n := by omega
    subst this
    have c1 : ¬ ((i : Nat) : Int) < (i : Int) := by omega
    have : r52_0 (p.W, p.H, p.C, gx, gy, l, p.g l c, i, (i : Int), (i : Int), c.X, c.Y, ob, ()) = some (.inr (.inr ())) := by
      unfold r52_0
      simp only [c1, decide_false, cond_false]
    have hnil : (ob.take i).drop i = [] := List.drop_eq_nil_of_le (by rw [take_len0 hob]; omega)
    unfold l52_0
    rw [iterO_eq, this, hnil]
    simp
  | succ t ih =>
    intro i hti hi
    have hin : i < n := by omega
    have hio : i < ob.length := by omega
    have c1 : (i : Int) < (n : Int) := by omega
    have c2 : (0 : Int) ≤ (i : Int) := by omega
    have e1 : ob[0 + i]? = some ob[i] := by rw [Nat.zero_add]; exact List.getElem?_eq_getElem hio
    have hb : ob[i] ∈ ob.take n := List.mem_of_getElem? (i := i) (by rw [List.getElem?_take, if_pos hin, List.getElem?_eq_getElem hio])
    obtain ⟨k1, k2⟩ := hA _ hb
    have hst := f51_spec hp hc k1 k2
    have hix := f37_spec hp k1 l gx gy
    have hg := g_get hp hl k1
    have w : IntKind.i64.wrap ((i : Int) + 1) = ((i + 1 : Nat) : Int) := by rw [w64 (by omega) (by omega)]; rfl
    have hdr : (ob.take n).drop i = ob[i] :: (ob.take n).drop (i + 1) := by
      rw [drop_cons (by rw [take_len0 hob]; exact hin)]
      simp
    have next := ih (i + 1) (by omega) (by omega)
    have go : r52_0 (p.W, p.H, p.C, gx, gy, l, p.g l c, n, (n : Int), (i : Int), c.X, c.Y, ob, ()) = some (.inl (p.W, p.H, p.C, gx, gy, l, p.g l c, n, (n : Int), ((i + 1 : Nat) : Int), c.X, c.Y, ob, ())) →
        (¬ ∃ w, p.stp c ob[i] = some w ∧ 0 ≤ p.g l ob[i] ∧ p.g l ob[i] + w = p.g l c) →
        l52_0 (p.W, p.H, p.C, gx, gy, l, p.g l c, n, (n : Int), (i : Int), c.X, c.Y, ob, ()) = some (if ∃ b w, b ∈ (ob.take n).drop i ∧ p.stp c b = some w ∧ 0 ≤ p.g l b ∧ p.g l b + w = p.g l c then .inl (true, ()) else .inr ()) := by
      intro hr hno
      have e : (∃ b w, b ∈ (ob.take n).drop i ∧ p.stp c b = some w ∧ 0 ≤ p.g l b ∧ p.g l b + w = p.g l c) ↔ (∃ b w, b ∈ (ob.take n).drop (i + 1) ∧ p.stp c b = some w ∧ 0 ≤ p.g l b ∧ p.g l b + w = p.g l c) := by
        rw [hdr]
        constructor
        · rintro ⟨b, w, hm, h⟩
          rcases List.mem_cons.1 hm with rfl | hm
          · exact (hno ⟨w, h⟩).elim
          · exact ⟨b, w, hm, h⟩
        · rintro ⟨b, w, hm, h⟩
          exact ⟨b, w, List.mem_cons_of_mem _ hm, h⟩
      simp only [e]
      unfold l52_0 at next ⊢
      rw [iterO_eq, hr]
      exact next
    cases hs : p.stp c ob[i] with
    | none =>
      rw [hs] at hst
      refine go ?_ (fun ⟨w, h, _⟩ => by rw [hs] at h; cases h)
      unfold r52_0
      simp only [c1, c2, decide_true, Bool.and_self, cond_true, Int.toNat_natCast, e1, Option.bind_some, hst, hix, idxO_nat, hg, Option.isSome_none, cond_false, j52_28, w]
    | some v =>
      rw [hs] at hst
      have hv := Pl.stp_pos hs
      have hb1 := ht _ k1
      have w2 : IntKind.i64.wrap (p.g l ob[i] + v) = p.g l ob[i] + v := w64 (by omega) (by omega)
      by_cases q1 : p.g l ob[i] ≥ 0
      · by_cases q2 : p.g l ob[i] + v = p.g l c
        · have : r52_0 (p.W, p.H, p.C, gx, gy, l, p.g l c, n, (n : Int), (i : Int), c.X, c.Y, ob, ()) = some (.inr (.inl (true, ()))) := by
            unfold r52_0
            simp only [c1, c2, decide_true, Bool.and_self, cond_true, Int.toNat_natCast, e1, Option.bind_some, hst, hix, idxO_nat, hg, Option.isSome_some, Option.getD_some, q1, w2.trans q2, beq_self_eq_true]
          have ex : ∃ b w, b ∈ (ob.take n).drop i ∧ p.stp c b = some w ∧ 0 ≤ p.g l b ∧ p.g l b + w = p.g l c := ⟨ob[i], v, by rw [hdr]; exact List.mem_cons_self .., hs, q1, q2⟩
          unfold l52_0
          rw [iterO_eq, this]
          simp only [if_pos ex]
        · have q3 : (p.g l ob[i] + v == p.g l c) = false := by simpa using q2
          refine go ?_ (fun ⟨w, h, _, h3⟩ => by rw [hs] at h; cases h; exact q2 h3)
          unfold r52_0
          simp only [c1, c2, decide_true, Bool.and_self, cond_true, Int.toNat_natCast, e1, Option.bind_some, hst, hix, idxO_nat, hg, Option.isSome_some, Option.getD_some, q1, w2, q3, cond_false, j52_28, w]
      · refine go ?_ (fun ⟨w, _, h2, _⟩ => q1 h2)
        unfold r52_0
        simp only [c1, c2, decide_true, Bool.and_self, cond_true, Int.toNat_natCast, e1, Option.bind_some, hst, hix, idxO_nat, hg, Option.isSome_some, q1, decide_false, cond_false, j52_28, w]

open Classical in
theorem f52_spec {p : Pl} (hp : p.Ok) {c : Pt} (hc : p.inP c) {l : List Int} (hl : l.length = p.C.length) (ht : ∀ x, p.inP x → -1 ≤ p.g l x ∧ p.g l x ≤ 39600) (gx gy : Int) :
    ∃ t, f52 (p.W, p.H, p.C, gx, gy, l, c.X, c.Y, ()) = some (t, ()) ∧ (t = true ↔ ∃ u w, p.stp u c = some w ∧ 0 ≤ p.g l u ∧ p.g l u + w = p.g l c) := by
  obtain ⟨n, ob, a1, a2, a3⟩ := f39_spec hp hc
  have hn := a3.few
  rw [take_len0 a2] at hn
  have h := l52_spec hp hc hl ht (gx := gx) (gy := gy) a2 hn (fun b hb => (a3.mem b).1 hb) n 0 rfl (by omega)
  have h' : l52_0 (p.W, p.H, p.C, gx, gy, l, p.g l c, n, (n : Int), 0, c.X, c.Y, ob, ()) = _ := h
  rw [List.drop_zero] at h'
  have hix := f37_spec hp hc l gx gy
  have hg := g_get hp hl hc
  have e : (∃ b w, b ∈ ob.take n ∧ p.stp c b = some w ∧ 0 ≤ p.g l b ∧ p.g l b + w = p.g l c) ↔ ∃ u w, p.stp u c = some w ∧ 0 ≤ p.g l u ∧ p.g l u + w = p.g l c := by
    constructor
    · rintro ⟨b, w, _, h1, h2⟩; exact ⟨b, w, Pl.stp_symm h1, h2⟩
    · rintro ⟨b, w, h1, h2⟩
      have h3 := Pl.stp_symm h1
      exact ⟨b, w, (a3.mem b).2 ⟨(stp_free h3).2.1, (Pl.stp_adj h3).1⟩, h3, h2⟩
  unfold f52
  simp only [hix, idxO_nat, hg, Option.bind_some, a1, h']
  by_cases q : ∃ b w, b ∈ ob.take n ∧ p.stp c b = some w ∧ 0 ≤ p.g l b ∧ p.g l b + w = p.g l c
  · refine ⟨true, ?_, by simp only [true_iff]; exact e.1 q⟩
    simp only [if_pos q, Sum.elim_inl]
  · refine ⟨false, ?_, by simp only [Bool.false_eq_true, false_iff]; exact fun h => q (e.2 h)⟩
    simp only [if_neg q, Sum.elim_inr]

end Go.AE
