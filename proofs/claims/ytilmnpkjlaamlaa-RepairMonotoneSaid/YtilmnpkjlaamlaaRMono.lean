/-
  The chapter Repair, RepairMonotone: with a wall more no cost is smaller.
-/
import Derived.Test.YtilmnpkjlaamlaaR7
import Derived.Test.YtilmnpkjlaamlaaFMono
namespace Go.AE
open Go.Proofs Go.RowKit
set_option maxRecDepth 100000

theorem Pl.IsDist.mono {p q : Pl} {z goal : Pt} (hn : Pl.Near p q z) (hf : ∀ x, p.free x → q.free x) {l m : List Int} (h : Pl.IsDist p goal l) (k : Pl.IsDist q goal m) : ∀ (n : Nat) (c : Pt), p.inP c → p.g l c = (n : Int) → 0 ≤ p.g m c ∧ p.g m c ≤ n := by
  intro n
  induction n using Nat.strongRecOn with
  | _ n ih =>
    intro c hc hnn
    by_cases hg : c = goal
    · subst hg
      have := k.zero
      rw [hn.g] at this
      rw [this]; omega
    · obtain ⟨u, d, w, h1, h2, h3, h4, h5⟩ := h.pred c hc hg (by omega)
      have hw := Pl.st_pos h2
      obtain ⟨q1, q2⟩ := ih (p.g l u).toNat (by omega) u (Pl.st_free h2).1.1 (by omega)
      have := k.edge u d w h1 (Pl.st_mono hf h2) (by rw [hn.g]; exact q1)
      rw [h3, hn.g, hn.g] at this
      omega

/-- With more free cells no cost is greater. -/
def Less (p : Pl) (l : List Int) (q : Pl) (m : List Int) : Prop := ∀ c, p.cost l c ≠ -1 → q.cost m c ≠ -1 ∧ q.cost m c ≤ p.cost l c

theorem less_of {p q : Pl} {z goal : Pt} {l m : List Int} (hn : Pl.Near p q z) (hf : ∀ x, p.free x → q.free x) (h : Rp p goal l) (k : Rp q goal m) : Less p l q m := by
  intro c hc
  unfold Pl.cost at *
  by_cases hin : p.inP c
  · have hq : q.inP c := hn.inP.2 hin
    rw [if_pos hin] at hc ⊢
    rw [if_pos hq, hn.g]
    by_cases hg : p.free goal
    · have d := h.dist hg
      have r := d.rng c hin
      obtain ⟨a1, a2⟩ := d.mono hn hf (k.dist (hf _ hg)) (p.g l c).toNat c hin (by omega)
      omega
    · rw [h.none hg, Pl.g_none] at hc
      exact (hc rfl).elim
  · rw [if_neg hin] at hc
    exact (hc rfl).elim

theorem Less.refl {p : Pl} {l : List Int} : Less p l p l := fun _ h => ⟨h, Int.le_refl _⟩

theorem upd_true {p : Pl} (hp : p.Ok) {c x : Pt} (h : p.free x) : (p.upd c true).free x := by
  unfold Pl.upd
  split
  · rename_i hc
    rw [Pl.put_free hp hc]
    split
    · rfl
    · exact h
  · exact h
theorem upd_false {p : Pl} (hp : p.Ok) {c x : Pt} (h : (p.upd c false).free x) : p.free x := by
  unfold Pl.upd at h
  split at h
  · rename_i hc
    rw [Pl.put_free hp hc] at h
    split at h
    · cases h
    · exact h
  · exact h
theorem upd_near {p : Pl} (hp : p.Ok) (c : Pt) (b : Bool) : Pl.Near p (p.upd c b) c := by
  unfold Pl.upd
  split
  · rename_i hc; exact Pl.put_near hp hc _
  · exact ⟨rfl, rfl, rfl, fun _ _ => Iff.rfl⟩

/-- The cell of a number. -/
def cT (w : Int) (k : Nat) : Pt := ⟨(k : Int).tmod w, (k : Int).tdiv w⟩

theorem cT_w {w : Int} (hw : 1 ≤ w) {k : Nat} (hk : k ≤ 1000) : IntKind.i64.wrap ((k : Int).tdiv w) = (k : Int).tdiv w := by
  have h1 : 0 ≤ (k : Int).tdiv w := Int.tdiv_nonneg (by omega) (by omega)
  have h2 : (k : Int).tdiv w ≤ k := Int.tdiv_le_self w (by omega)
  exact w64 (by omega) (by omega)

theorem cost_at {p : Pl} {g : Pt} {l : List Int} (h : Rp p g l) {w : Int} (hw : 1 ≤ w) {k : Nat} (hk : k ≤ 1000) : f14 (p.W, p.H, p.C, g.X, g.Y, l, (k : Int).tmod w, IntKind.i64.wrap ((k : Int).tdiv w), ()) = some (p.cost l (cT w k), ()) := by
  rw [cT_w hw hk]
  exact f14_spec h (cT w k)

theorem l4_6_spec {p : Pl} {g : Pt} {l : List Int} (h : Rp p g l) {w : Int} (hw : 1 ≤ w) (hh : Int) {C : List Int} (hC : C.length ≤ 100) (L : List Ac) (i : Int) : ∀ (t k : Nat) (bd : List Int), C.length - k = t → k ≤ C.length → k ≤ bd.length → bd.take k = (List.range k).map (fun j => p.cost l (cT w j)) →
    ∃ bd', l4_6 (L, i, k, (k : Int), w, hh, C, p.W, p.H, p.C.length, g.X, g.Y, p.C.length, bd, p.C, l, ()) = some (L, i, C.length, w, hh, C, p.W, p.H, p.C.length, g.X, g.Y, p.C.length, bd', p.C, l, ()) ∧ C.length ≤ bd'.length ∧ bd'.take C.length = (List.range C.length).map (fun j => p.cost l (cT w j)) := by
  intro t
  induction t with
  | zero =>
    intro k bd ht hk hb he
    have : k = C.length := by omega
    subst this
    have c1 : ¬ (C.length : Int) < (C.length : Int) := by omega
    refine ⟨bd, ?_, hb, he⟩
    have hr : r4_6 (L, i, C.length, (C.length : Int), w, hh, C, p.W, p.H, p.C.length, g.X, g.Y, p.C.length, bd, p.C, l, ()) = some (.inr (L, i, C.length, w, hh, C, p.W, p.H, p.C.length, g.X, g.Y, p.C.length, bd, p.C, l, ())) := by
      unfold r4_6
      simp only [c1, decide_false, cond_false]
    unfold l4_6
    rw [iterO_eq, hr]
  | succ t ih =>
    intro k bd ht hk hb he
    have c1 : (k : Int) < (C.length : Int) := by omega
    have hl := h.len
    have z1 : (p.C.length ≤ p.C.length) = True := by simp
    have z2 : (p.C.length ≤ l.length) = True := by simp [hl]
    have z3 : (k ≤ bd.length) = True := by simp [hb]
    have tl : List.take p.C.length l = l := List.take_of_length_le (by omega)
    have tc : List.take p.C.length p.C = p.C := by simp
    have w0 : IntKind.i64.wrap ((k : Int) + 1) = ((k + 1 : Nat) : Int) := by rw [w64 (by omega) (by omega)]; rfl
    have q : (w == 0) = false := by rw [beq_eq_false_iff_ne]; omega
    have r : roomy (k + 1) 8 = true := roomy_ok (by omega)
    have hc := cost_at h hw (k := k) (by omega)
    have hr : r4_6 (L, i, k, (k : Int), w, hh, C, p.W, p.H, p.C.length, g.X, g.Y, p.C.length, bd, p.C, l, ()) = some (.inl (L, i, k + 1, ((k + 1 : Nat) : Int), w, hh, C, p.W, p.H, p.C.length, g.X, g.Y, p.C.length, bd.take k ++ [p.cost l (cT w k)], p.C, l, ())) := by
      unfold r4_6
      simp only [c1, decide_true, cond_true, q, cond_false, Nat.zero_add, List.drop_zero, z1, z2, z3, tl, tc, hc, Option.bind_some, r, w0]
    have hlen : (bd.take k ++ [p.cost l (cT w k)]).length = k + 1 := by rw [List.length_append, take_len0 hb]; rfl
    obtain ⟨bd', s1, s2, s3⟩ := ih (k + 1) (bd.take k ++ [p.cost l (cT w k)]) (by omega) (by omega) (by omega) (by
      rw [List.take_of_length_le (by omega), he, List.range_succ, List.map_append]; rfl)
    refine ⟨bd', ?_, s2, s3⟩
    unfold l4_6 at s1 ⊢
    rw [iterO_eq, hr]
    exact s1

theorem l4_12_spec {p0 : Pl} {l0 : List Int} {p : Pl} {g : Pt} {l : List Int} (h : Rp p g l) {w : Int} (hw : 1 ≤ w) (hh : Int) {C : List Int} (hC : C.length ≤ 100) {L : List Ac} {i : Nat} {a : Ac} (ha : L[i]? = some a)
    (hm : if a.K.tmod 3 = 1 then Less p0 l0 p l else Less p l p0 l0) {bd : List Int} (he : bd.take C.length = (List.range C.length).map (fun j => p0.cost l0 (cT w j))) : ∀ (t k : Nat), C.length - k = t → k ≤ C.length →
    l4_12 (L, (i : Int), C.length, (k : Int), w, hh, C, p.W, p.H, p.C.length, g.X, g.Y, p.C.length, bd, p.C, l, ()) = some (.inr (L, (i : Int), w, hh, C, p.W, p.H, p.C.length, g.X, g.Y, p.C.length, p.C, l, ())) := by
  intro t
  induction t with
  | zero =>
    intro k ht hk
    have : k = C.length := by omega
    subst this
    have c1 : ¬ (C.length : Int) < (C.length : Int) := by omega
    have hr : r4_12 (L, (i : Int), C.length, (C.length : Int), w, hh, C, p.W, p.H, p.C.length, g.X, g.Y, p.C.length, bd, p.C, l, ()) = some (.inr (.inr (L, (i : Int), w, hh, C, p.W, p.H, p.C.length, g.X, g.Y, p.C.length, p.C, l, ()))) := by
      unfold r4_12
      simp only [c1, decide_false, cond_false]
    unfold l4_12
    rw [iterO_eq, hr]
  | succ t ih =>
    intro k ht hk
    have hkC : k < C.length := by omega
    have c1 : (k : Int) < (C.length : Int) := by omega
    have c2 : (0 : Int) ≤ (k : Int) := by omega
    have hl := h.len
    have z1 : (p.C.length ≤ p.C.length) = True := by simp
    have z2 : (p.C.length ≤ l.length) = True := by simp [hl]
    have tl : List.take p.C.length l = l := List.take_of_length_le (by omega)
    have tc : List.take p.C.length p.C = p.C := by simp
    have w0 : IntKind.i64.wrap ((k : Int) + 1) = ((k + 1 : Nat) : Int) := by rw [w64 (by omega) (by omega)]; rfl
    have q : (w == 0) = false := by rw [beq_eq_false_iff_ne]; omega
    have hc := cost_at h hw (k := k) (by omega)
    have hbk : bd[k]? = some (p0.cost l0 (cT w k)) := by
      have e1 : (bd.take C.length)[k]? = bd[k]? := by rw [List.getElem?_take, if_pos hkC]
      rw [← e1, he, List.getElem?_map, List.getElem?_range hkC]; rfl
    have pass : ∀ n m : Int, (m ≠ -1 → n ≠ -1 ∧ n ≤ m) → j4_70 (L, (i : Int), C.length, (k : Int), n, m, w, hh, C, p.W, p.H, p.C.length, g.X, g.Y, p.C.length, bd, p.C, l, ()) = some (.inr (L, (i : Int), C.length, (k : Int), w, hh, C, p.W, p.H, p.C.length, g.X, g.Y, p.C.length, bd, p.C, l, ())) := by
      intro n m hnm
      unfold j4_70
      by_cases m1 : m = -1
      · have : (m != -1) = false := by simpa using m1
        simp only [this, cond_false]
      · obtain ⟨a1, a2⟩ := hnm m1
        have e1 : (m != -1) = true := by simpa using m1
        have e2 : (n == -1) = false := by simpa using a1
        have e3 : ¬ n > m := by omega
        simp only [e1, e2, e3, decide_false, cond_true, cond_false]
    have hr : r4_12 (L, (i : Int), C.length, (k : Int), w, hh, C, p.W, p.H, p.C.length, g.X, g.Y, p.C.length, bd, p.C, l, ()) = some (.inl (L, (i : Int), C.length, ((k + 1 : Nat) : Int), w, hh, C, p.W, p.H, p.C.length, g.X, g.Y, p.C.length, bd, p.C, l, ())) := by
      by_cases k1 : a.K.tmod 3 = 1
      · rw [if_pos k1] at hm
        have e : (a.K.tmod 3 == 1) = true := by simpa using k1
        have hp := pass _ _ (hm (cT w k))
        unfold r4_12
        simp only [c1, c2, decide_true, Bool.and_self, cond_true, Int.toNat_natCast, q, cond_false, Nat.zero_add, List.drop_zero, z1, z2, tl, tc, hbk, hc, Option.bind_some, idxO_nat, ha, e, hp, Sum.elim_inr, j4_58, w0]
      · rw [if_neg k1] at hm
        have e : (a.K.tmod 3 == 1) = false := by simpa using k1
        have hp := pass _ _ (hm (cT w k))
        unfold r4_12
        simp only [c1, c2, decide_true, Bool.and_self, cond_true, Int.toNat_natCast, q, cond_false, Nat.zero_add, List.drop_zero, z1, z2, tl, tc, hbk, hc, Option.bind_some, idxO_nat, ha, e, hp, Sum.elim_inr, j4_58, w0]
    have := ih (k + 1) (by omega) (by omega)
    unfold l4_12 at this ⊢
    rw [iterO_eq, hr]
    exact this

theorem l4_0_spec {w : Int} (hw : 1 ≤ w) (hh : Int) {C : List Int} (hC : C.length ≤ 100) {L : List Ac} (hL : L.length ≤ 20) : ∀ (t i : Nat) (p : Pl) (g : Pt) (l : List Int), L.length - i = t → i ≤ L.length → Rp p g l →
    l4_0 (L, (i : Int), w, hh, C, p.W, p.H, p.C.length, g.X, g.Y, p.C.length, p.C, l, ()) = some (.inr ()) := by
  intro t
  induction t with
  | zero =>
    intro i p g l ht hi h
    have : i = L.length := by omega
    subst this
    have c1 : ¬ (L.length : Int) < (L.length : Int) := by omega
    have hr : r4_0 (L, (L.length : Int), w, hh, C, p.W, p.H, p.C.length, g.X, g.Y, p.C.length, p.C, l, ()) = some (.inr (.inr ())) := by
      unfold r4_0
      simp only [c1, decide_false, cond_false]
    unfold l4_0
    rw [iterO_eq, hr]
  | succ t ih =>
    intro i p g l ht hi h
    have hin : i < L.length := by omega
    have c1 : (i : Int) < (L.length : Int) := by omega
    have w0 : IntKind.i64.wrap ((i : Int) + 1) = ((i + 1 : Nat) : Int) := by rw [w64 (by omega) (by omega)]; rfl
    have e1 : L[i]? = some L[i] := List.getElem?_eq_getElem hin
    generalize L[i] = a at *
    have hl := h.len
    have z1 : (p.C.length ≤ p.C.length) = True := by simp
    have z2 : (p.C.length ≤ l.length) = True := by simp [hl]
    have tl : List.take p.C.length l = l := List.take_of_length_le (by omega)
    have tc : List.take p.C.length p.C = p.C := by simp
    have next : ∀ (q : Pl) (g' : Pt) (m : List Int), Rp q g' m → r4_0 (L, (i : Int), w, hh, C, p.W, p.H, p.C.length, g.X, g.Y, p.C.length, p.C, l, ()) = some (.inl (L, ((i + 1 : Nat) : Int), w, hh, C, q.W, q.H, q.C.length, g'.X, g'.Y, q.C.length, q.C, m, ())) →
        l4_0 (L, (i : Int), w, hh, C, p.W, p.H, p.C.length, g.X, g.Y, p.C.length, p.C, l, ()) = some (.inr ()) := by
      intro q g' m hq hr
      have := ih (i + 1) q g' m (by omega) (by omega) hq
      unfold l4_0 at this ⊢
      rw [iterO_eq, hr]
      exact this
    by_cases k2 : a.K.tmod 3 = 2
    · have eb : (a.K.tmod 3 == 2) = true := by simpa using k2
      obtain ⟨r, r1, r2⟩ := f21_spec h ⟨a.X, a.Y⟩
      simp only at r1
      cases r2 with
      | @old m hr =>
        refine next _ _ m hr ?_
        unfold r4_0
        simp only [c1, decide_true, cond_true, idxO_nat, e1, Option.bind_some, eb, Nat.zero_add, List.drop_zero, z1, z2, tl, tc, r1, Sum.elim_inl, j4_25, w0]
      | @new m hr =>
        refine next _ _ m hr ?_
        unfold r4_0
        simp only [c1, decide_true, cond_true, idxO_nat, e1, Option.bind_some, eb, Nat.zero_add, List.drop_zero, z1, z2, tl, tc, r1, Sum.elim_inr, j4_25, w0]
    · have eb : (a.K.tmod 3 == 2) = false := by simpa using k2
      obtain ⟨bd, b1, _, b3⟩ := l4_6_spec h hw hh hC L (i : Int) C.length 0 [] (by omega) (by omega) (by simp) (by simp)
      have b1' : l4_6 (L, (i : Int), 0, 0, w, hh, C, p.W, p.H, p.C.length, g.X, g.Y, p.C.length, [], p.C, l, ()) = _ := b1
      obtain ⟨r, r1, r2⟩ := f16_spec h ⟨a.X, a.Y⟩ (a.K.tmod 3 == 1)
      simp only at r1
      have less : ∀ m, Rp (p.upd ⟨a.X, a.Y⟩ (a.K.tmod 3 == 1)) g m → if a.K.tmod 3 = 1 then Less p l (p.upd ⟨a.X, a.Y⟩ (a.K.tmod 3 == 1)) m else Less (p.upd ⟨a.X, a.Y⟩ (a.K.tmod 3 == 1)) m p l := by
        intro m hm
        have hnear := upd_near h.ok ⟨a.X, a.Y⟩ (a.K.tmod 3 == 1)
        by_cases k1 : a.K.tmod 3 = 1
        · rw [if_pos k1]
          have e : (a.K.tmod 3 == 1) = true := by simpa using k1
          rw [e] at hm hnear ⊢
          exact less_of hnear (fun x hx => upd_true h.ok hx) h hm
        · rw [if_neg k1]
          have e : (a.K.tmod 3 == 1) = false := by simpa using k1
          rw [e] at hm hnear ⊢
          exact less_of hnear.symm (fun x hx => upd_false h.ok hx) hm h
      generalize p.upd ⟨a.X, a.Y⟩ (a.K.tmod 3 == 1) = q at *
      cases r2 with
      | @old m hr =>
        refine next q g m hr ?_
        have hcmp := l4_12_spec hr hw hh hC e1 (less m hr) b3 C.length 0 (by omega) (by omega)
        have hcmp' : l4_12 (L, (i : Int), C.length, 0, w, hh, C, q.W, q.H, q.C.length, g.X, g.Y, q.C.length, bd, q.C, m, ()) = _ := hcmp
        unfold r4_0
        simp only [c1, decide_true, cond_true, cond_false, idxO_nat, e1, Option.bind_some, eb, b1', Nat.zero_add, List.drop_zero, z1, z2, tl, tc, r1, Sum.elim_inl, Sum.elim_inr, j4_52, hcmp', j4_25, w0]
      | @new m hr =>
        refine next q g m hr ?_
        have hcmp := l4_12_spec hr hw hh hC e1 (less m hr) b3 C.length 0 (by omega) (by omega)
        have hcmp' : l4_12 (L, (i : Int), C.length, 0, w, hh, C, q.W, q.H, q.C.length, g.X, g.Y, q.C.length, bd, q.C, m, ()) = _ := hcmp
        unfold r4_0
        simp only [c1, decide_true, cond_true, cond_false, idxO_nat, e1, Option.bind_some, eb, b1', Nat.zero_add, List.drop_zero, z1, z2, tl, tc, r1, Sum.elim_inr, j4_52, hcmp', j4_25, w0]

theorem repairMonotone_plain (x : Int × Int × List Int × Int × Int × List Ac × Unit) : f4 x = some (true, ()) := by
  obtain ⟨w, h, C, a, b, L, ⟨⟩⟩ := x
  unfold f4
  simp only [f9_spec, Option.bind_some, Bool.not_true, cond_false, f20_spec]
  by_cases hs : C.length ≤ 100 ∧ L.length ≤ 20
  · simp only [hs, and_self, decide_true, Bool.not_true, cond_false]
    have h11 := f11_spec (p := ⟨w, h, C⟩) (by simp only; omega)
    simp only at h11
    rcases f10_spec (p := ⟨w, h, C⟩) (by simp only; omega) ⟨a, b⟩ with ⟨v, e⟩ | ⟨v, _, e⟩ | ⟨v, _, l, rp, e⟩
    · simp only at e
      rw [v] at h11
      simp only [e, Option.bind_some, Sum.elim_inl, h11, Bool.not_false, cond_true]
    · simp only at e
      rw [v] at h11
      simp only [e, Option.bind_some, Sum.elim_inl, Sum.elim_inr, h11, Bool.not_true, cond_false]
    · have hloop := l4_0_spec (w := w) rp.ok.w1 h hs.1 hs.2 L.length 0 _ _ l (by omega) (by omega) rp
      have hloop' : l4_0 (L, 0, w, h, C, w, h, C.length, a, b, C.length, C, l, ()) = _ := hloop
      simp only at e
      rw [v] at h11
      simp only [e, Option.bind_some, Sum.elim_inr, h11, Bool.not_true, cond_false, hloop']
  · simp only [hs, decide_false, Bool.not_false, cond_true]

end Go.AE
