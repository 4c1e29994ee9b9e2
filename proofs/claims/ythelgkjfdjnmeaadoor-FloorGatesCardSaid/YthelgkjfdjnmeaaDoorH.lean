/-
  The chapter Floor, part 5: floor.Rooms numbers the rooms.
-/
import Derived.Test.YthelgkjfdjnmeaaDoorB
import Derived.Test.YthelgkjfdjnmeaaDoorG
namespace Go.AE
open Go.Proofs Go.RowKit
set_option maxRecDepth 100000

theorem g_get {p : Pl} (hp : p.Ok) {l : List Int} (hl : l.length = p.C.length) {c : Pt} (hc : p.inP c) : l[p.ix c]? = some (p.g l c) := by
  have := Pl.ix_lt hp hc
  unfold Pl.g
  rw [List.getD_eq_getElem?_getD, List.getElem?_eq_getElem (by omega)]; rfl
theorem ix_in {p : Pl} (hp : p.Ok) {l : List Int} (hl : l.length = p.C.length) {c : Pt} (hc : p.inP c) : (0 : Int) ≤ ((p.ix c : Nat) : Int) ∧ ((p.ix c : Nat) : Int) < (l.length : Int) := by
  have := Pl.ix_lt hp hc
  omega
theorem take_len0 {α : Type} {l : List α} {n : Nat} (h : n ≤ l.length) : (l.take n).length = n := by rw [List.length_take]; omega

theorem ix_mod {p : Pl} (hp : p.Ok) {c : Pt} (hc : p.inP c) : ((p.ix c : Nat) : Int).tmod p.W = c.X ∧ ((p.ix c : Nat) : Int).tdiv p.W = c.Y := by
  have h := Pl.cell_ix hp hc
  unfold Pl.cellOf at h
  have h1 := congrArg Pt.X h
  have h2 := congrArg Pt.Y h
  simp only at h1 h2
  exact ⟨by rw [Int.tmod_eq_emod_of_nonneg (by omega)]; exact h1, by rw [Int.tdiv_eq_ediv_of_nonneg (by omega)]; exact h2⟩

def ixI (p : Pl) (c : Pt) : Int := ((p.ix c : Nat) : Int)

section
variable {p : Pl} {l0 : List Int} {r : Int} {c0 : Pt} {C' : List Int} {Lc i : Int}

theorem r16_18_spec (hp : p.Ok) {l : List Int} {S : List Pt} {c : Pt} {m : Nat} {ob : List Int} {j : Nat} {d : Pt} {rem : List Pt} (h : Pl.FI p l0 r c0 l S c (d :: rem)) (hc : p.Conn c0 c) (hj : Pl.four[j]? = some d) (hj4 : j < 4) (hd : d ∈ Pl.four) (hob : m ≤ ob.length) (hS : ob.take m = S.map (ixI p)) (hm : m ≤ 50000) :
    ∃ l' m' ob' S', r16_18 (p.C.length, r, m, ixI p c, C', Lc, i, (j : Int), p.W, p.H, p.C, l, ob, ()) = some (.inl (p.C.length, r, m', ixI p c, C', Lc, i, ((j + 1 : Nat) : Int), p.W, p.H, p.C, l', ob', ())) ∧ m' ≤ ob'.length ∧ ob'.take m' = S'.map (ixI p) ∧ Pl.FI p l0 r c0 l' S' c rem ∧ Pl.fmu l' S' ≤ Pl.fmu l S := by
  have hcin := hc.free2.2.1
  obtain ⟨e1, e2⟩ := ix_mod hp hcin
  have hw := hp.w1
  have hw2 := hp.w2
  have hh2 := hp.h2
  have hin := hcin
  unfold Pl.inP at hin
  have ds : (-1 ≤ d.X ∧ d.X ≤ 1) ∧ -1 ≤ d.Y ∧ d.Y ≤ 1 := by
    simp only [Pl.four, List.mem_cons, List.not_mem_nil, or_false] at hd
    rcases hd with rfl | rfl | rfl | rfl <;> simp
  have c1 : (j : Int) < 4 := by omega
  have c2 : (0 : Int) ≤ (j : Int) := by omega
  have hj' : idxO [Pt.mk 1 0, Pt.mk 0 1, Pt.mk (-1) 0, Pt.mk 0 (-1)] (j : Int) = some d := by rw [idxO_nat]; exact hj
  have q : (p.W == 0) = false := by rw [beq_eq_false_iff_ne]; omega
  have w0 : IntKind.i64.wrap c.Y = c.Y := w64 (by omega) (by omega)
  have w1 : IntKind.i64.wrap (c.X + d.X) = c.X + d.X := w64 (by omega) (by omega)
  have w2 : IntKind.i64.wrap (c.Y + d.Y) = c.Y + d.Y := w64 (by omega) (by omega)
  have w3 : IntKind.i64.wrap ((j : Int) + 1) = ((j + 1 : Nat) : Int) := by rw [w64 (by omega) (by omega)]; rfl
  have hv := f36_spec hp (Pl.add c d)
  have hv' : f36 (p.W, p.H, p.C, c.X + d.X, c.Y + d.Y, ()) = some (p.val (Pl.add c d), ()) := hv
  unfold ixI
  by_cases hf : p.free (Pl.add c d)
  · have hv1 : (p.val (Pl.add c d) == 1) = true := by rw [beq_iff_eq]; exact val_free.2 hf
    have hix := ix_w hp hf.1
    have hix' : IntKind.i64.wrap (IntKind.i64.wrap ((c.Y + d.Y) * p.W) + (c.X + d.X)) = ((p.ix (Pl.add c d) : Nat) : Int) := hix
    obtain ⟨b1, b2⟩ := ix_in hp h.len hf.1
    rw [h.len] at b2
    have g1 := g_get hp h.len hf.1
    by_cases h0 : p.g l (Pl.add c d) < 0
    · have z3 : (m ≤ ob.length) = True := by simp [hob]
      have rr : roomy (m + 1) 8 = true := roomy_ok (by omega)
      have hmu := Pl.FI.mu hp h.len hf.1 h0 h.r0
      have hlen : (ob.take m ++ [((p.ix (Pl.add c d) : Nat) : Int)]).length = m + 1 := by rw [List.length_append, take_len0 hob]; rfl
      refine ⟨l.set (p.ix (Pl.add c d)) r, m + 1, ob.take m ++ [((p.ix (Pl.add c d) : Nat) : Int)], S ++ [Pl.add c d], ?_, by omega, ?_, h.push hp hc hd hf h0 (fun x => by simp), ?_⟩
      · unfold r16_18
        simp only [c1, c2, decide_true, Bool.and_self, cond_true, hj', Option.bind_some, q, cond_false, e1, e2, w0, w1, w2, hv', hv1, hix', b1, b2, Nat.zero_add, Int.toNat_natCast, g1, h0, List.drop_zero, z3, rr, j16_85, w3]
      · rw [List.take_of_length_le (by omega), hS, List.map_append]; rfl
      · unfold Pl.fmu
        rw [List.length_append, List.length_singleton]
        omega
    · refine ⟨l, m, ob, S, ?_, hob, hS, h.pass hc hd (fun hx => h0 hx.2), Nat.le_refl _⟩
      unfold r16_18
      simp only [c1, c2, decide_true, Bool.and_self, cond_true, hj', Option.bind_some, q, cond_false, e1, e2, w0, w1, w2, hv', hv1, hix', b1, b2, Nat.zero_add, Int.toNat_natCast, g1, h0, decide_false, j16_85, w3]
  · have hv1 : (p.val (Pl.add c d) == 1) = false := by rw [beq_eq_false_iff_ne]; exact fun e => hf (val_free.1 e)
    refine ⟨l, m, ob, S, ?_, hob, hS, h.pass hc hd (fun hx => hf hx.1), Nat.le_refl _⟩
    unfold r16_18
    simp only [c1, c2, decide_true, Bool.and_self, cond_true, hj', Option.bind_some, q, cond_false, e1, e2, w0, w1, w2, hv', hv1, j16_85, w3]

theorem four_get {j : Nat} (hj : j < 4) : ∃ d, Pl.four[j]? = some d ∧ d ∈ Pl.four ∧ Pl.four.drop j = d :: Pl.four.drop (j + 1) := by
  match j, hj with
  | 0, _ => exact ⟨_, rfl, by simp [Pl.four], rfl⟩
  | 1, _ => exact ⟨_, rfl, by simp [Pl.four], rfl⟩
  | 2, _ => exact ⟨_, rfl, by simp [Pl.four], rfl⟩
  | 3, _ => exact ⟨_, rfl, by simp [Pl.four], rfl⟩

theorem len_of {m : Nat} {ob : List Int} {S : List Pt} (hob : m ≤ ob.length) (hS : ob.take m = S.map (ixI p)) : m = S.length := by
  have := congrArg List.length hS
  rw [take_len0 hob, List.length_map] at this
  exact this

theorem l16_18_spec (hp : p.Ok) {c : Pt} (hc : p.Conn c0 c) : ∀ (t j : Nat) (l : List Int) (m : Nat) (ob : List Int) (S : List Pt), 4 - j = t → j ≤ 4 → m ≤ ob.length → ob.take m = S.map (ixI p) → Pl.FI p l0 r c0 l S c (Pl.four.drop j) → Pl.fmu l S ≤ 20000 →
    ∃ l' m' ob' S', l16_18 (p.C.length, r, m, ixI p c, C', Lc, i, (j : Int), p.W, p.H, p.C, l, ob, ()) = some (p.C.length, r, m', C', Lc, i, p.W, p.H, p.C, l', ob', ()) ∧ m' ≤ ob'.length ∧ ob'.take m' = S'.map (ixI p) ∧ Pl.FI p l0 r c0 l' S' c [] ∧ Pl.fmu l' S' ≤ Pl.fmu l S := by
  intro t
  induction t with
  | zero =>
    intro j l m ob S ht hj hob hS h _
    have : j = 4 := by omega
    subst this
    refine ⟨l, m, ob, S, ?_, hob, hS, h, Nat.le_refl _⟩
    have hr : r16_18 (p.C.length, r, m, ixI p c, C', Lc, i, ((4 : Nat) : Int), p.W, p.H, p.C, l, ob, ()) = some (.inr (p.C.length, r, m, C', Lc, i, p.W, p.H, p.C, l, ob, ())) := rfl
    unfold l16_18
    rw [iterO_eq, hr]
  | succ t ih =>
    intro j l m ob S ht hj hob hS h hmu
    obtain ⟨d, d1, d2, d3⟩ := four_get (j := j) (by omega)
    rw [d3] at h
    have hm := len_of hob hS
    obtain ⟨l1, m1, ob1, S1, s1, s2, s3, s4, s5⟩ := r16_18_spec (C' := C') (Lc := Lc) (i := i) hp h hc d1 (by omega) d2 hob hS (by unfold Pl.fmu at hmu; omega)
    obtain ⟨l2, m2, ob2, S2, u1, u2, u3, u4, u5⟩ := ih (j + 1) l1 m1 ob1 S1 (by omega) (by omega) s2 s3 s4 (by omega)
    refine ⟨l2, m2, ob2, S2, ?_, u2, u3, u4, by omega⟩
    unfold l16_18 at u1 ⊢
    rw [iterO_eq, s1]
    exact u1

theorem l16_12_spec (hp : p.Ok) : ∀ (t : Nat) (l : List Int) (m : Nat) (ob : List Int) (S : List Pt) (c : Pt), Pl.fmu l S = t → m ≤ ob.length → ob.take m = S.map (ixI p) → Pl.FI p l0 r c0 l S c [] → t ≤ 20000 →
    ∃ l' c', l16_12 (p.C.length, r, m, C', Lc, i, p.W, p.H, p.C, l, ob, ()) = some (p.C.length, r, C', Lc, i, p.W, p.H, p.C, l', ()) ∧ Pl.FI p l0 r c0 l' [] c' [] := by
  intro t
  induction t using Nat.strongRecOn with
  | _ t ih =>
    intro l m ob S c ht hob hS h hmu
    have hm := len_of hob hS
    unfold l16_12
    rw [iterO_eq]
    rcases List.eq_nil_or_concat S with rfl | ⟨S', v, rfl⟩
    · have : m = 0 := by simpa using hm
      subst this
      have hr : r16_12 (p.C.length, r, 0, C', Lc, i, p.W, p.H, p.C, l, ob, ()) = some (.inr (p.C.length, r, C', Lc, i, p.W, p.H, p.C, l, ())) := rfl
      rw [hr]
      exact ⟨l, c, rfl, h⟩
    · have hm' : m = S'.length + 1 := by simpa using hm
      subst hm'
      obtain ⟨k1, k2⟩ := h.pop (S' := S') (c := v) (fun x => by simp [or_comm])
      have c1 : ((S'.length + 1 : Nat) : Int) > 0 := by omega
      have hbound : S'.length ≤ 50000 := by unfold Pl.fmu at ht; simp at ht; omega
      have w1 : IntKind.i64.wrap (((S'.length + 1 : Nat) : Int) - 1) = (S'.length : Int) := by rw [w64 (by omega) (by omega)]; omega
      have c2 : (0 : Int) ≤ (S'.length : Int) := by omega
      have c3 : (S'.length : Int) < ((S'.length + 1 : Nat) : Int) := by omega
      have c4 : (S'.length : Int) ≤ ((S'.length + 1 : Nat) : Int) := by omega
      have hv : ob[S'.length]? = some (ixI p v) := by
        have e := congrArg (·[S'.length]?) hS
        simp only [List.concat_eq_append, List.map_append, List.map_cons, List.map_nil] at e
        rw [List.getElem?_take, if_pos (by omega)] at e
        rw [e, List.getElem?_append_right (by simp)]
        simp
      have hS' : ob.take S'.length = S'.map (ixI p) := by
        have e := congrArg (·.take S'.length) hS
        simp only [List.concat_eq_append, List.map_append, List.take_take] at e
        rw [Nat.min_eq_left (by omega)] at e
        rw [e, List.take_append_of_le_length (by simp), List.take_of_length_le (by simp)]
      have hmu' : Pl.fmu l S' + 1 = Pl.fmu l (S'.concat v) := by unfold Pl.fmu; simp; omega
      obtain ⟨l1, m1, ob1, S1, s1, s2, s3, s4, s5⟩ := l16_18_spec (C' := C') (Lc := Lc) (i := i) hp k2 4 0 l S'.length ob S' rfl (by omega) (by omega) hS' k1 (by omega)
      have s1' : l16_18 (p.C.length, r, S'.length, ixI p v, C', Lc, i, 0, p.W, p.H, p.C, l, ob, ()) = _ := s1
      have hr : r16_12 (p.C.length, r, S'.length + 1, C', Lc, i, p.W, p.H, p.C, l, ob, ()) = some (.inl (p.C.length, r, m1, C', Lc, i, p.W, p.H, p.C, l1, ob1, ())) := by
        unfold r16_12
        simp only [c1, w1, c2, c3, c4, Int.le_refl, decide_true, Bool.and_self, cond_true, Nat.zero_add, Int.toNat_natCast, hv, Option.bind_some, Nat.sub_zero, s1']
      rw [hr]
      exact ih (Pl.fmu l1 S1) (by omega) l1 m1 ob1 S1 v rfl s2 s3 s4 (by omega)
end
end Go.AE
