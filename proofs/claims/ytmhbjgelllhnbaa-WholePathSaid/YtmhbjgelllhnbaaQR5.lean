/-
  The chapter Repair, part 5: what a planner stands for; a cell that is set; plans without costs.
-/
import Derived.Test.YtmhbjgelllhnbaaQR4
namespace Go.AE
open Go.Proofs Go.RowKit
set_option maxRecDepth 100000

namespace Pl
variable {p q : Pl}

theorem st_mono (h : ∀ x, p.free x → q.free x) {a d : Pt} {w : Int} (hs : p.st a d = some w) : q.st a d = some w := by
  have hf := st_free hs
  unfold st at *
  rw [if_pos hf] at hs
  rw [if_pos ⟨h _ hf.1, h _ hf.2⟩]
  split at hs
  · rename_i h0; rw [if_pos h0]; exact hs
  · rename_i h0
    rw [if_neg h0]
    split at hs
    · rename_i h1
      rw [if_pos ⟨h _ h1.1, h _ h1.2⟩]; exact hs
    · cases hs
theorem stp_mono (h : ∀ x, p.free x → q.free x) {a b : Pt} {w : Int} (hs : p.stp a b = some w) : q.stp a b = some w := by
  unfold stp at *
  split at hs
  · rename_i hd; rw [if_pos hd]; exact st_mono h hs
  · cases hs

theorem IsDist.same {z goal : Pt} {l : List Int} (hn : Near p q z) (h : ∀ x, q.free x ↔ p.free x) (k : IsDist p goal l) : IsDist q goal l :=
  ⟨by rw [hn.len]; exact k.len, by rw [hn.g]; exact k.zero, fun c hc => by rw [hn.g]; exact k.rng c (hn.inP.1 hc), fun c d w hd hs h0 => by
    rw [hn.g] at h0 ⊢
    rw [hn.g]
    exact k.edge c d w hd (st_mono (fun x hx => (h x).1 hx) hs) h0, fun c hc hne h0 => by
    rw [hn.g] at h0 ⊢
    obtain ⟨u, d, w, h1, h2, h3, h4, h5⟩ := k.pred c (hn.inP.1 hc) hne h0
    exact ⟨u, d, w, h1, st_mono (fun x hx => (h x).2 hx) h2, h3, by rw [hn.g]; exact h4, by rw [hn.g]; exact h5⟩⟩

/-- A cell is set. -/
def put (p : Pl) (c : Pt) (v : Int) : Pl := ⟨p.W, p.H, p.C.set (p.ix c) v⟩
theorem put_ok (hp : p.Ok) (c : Pt) {v : Int} (hv : v ≤ 2) : (p.put c v).Ok :=
  ⟨hp.w1, hp.w2, hp.h1, hp.h2, by unfold put; rw [List.length_set]; exact hp.len, by unfold put; rw [List.length_set]; exact hp.few, fun x hx => by
    rcases List.mem_or_eq_of_mem_set hx with h | h
    · exact hp.cells x h
    · omega⟩
theorem put_cell (hp : p.Ok) {c a : Pt} (hc : p.inP c) (ha : p.inP a) (v : Int) : (p.put c v).C.getD (p.ix a) 0 = if a = c then v else p.C.getD (p.ix a) 0 := by
  have hlt := ix_lt hp hc
  unfold put
  simp only [List.getD_eq_getElem?_getD]
  by_cases e : a = c
  · rw [if_pos e, e, List.getElem?_set_self hlt]; rfl
  · rw [if_neg e, List.getElem?_set_ne (fun h => e (ix_inj hc ha h).symm)]
theorem put_free (hp : p.Ok) {c : Pt} (hc : p.inP c) (v : Int) (a : Pt) : (p.put c v).free a ↔ if a = c then v = 1 else p.free a := by
  unfold free
  have e1 : (p.put c v).inP a ↔ p.inP a := Iff.rfl
  have e2 : (p.put c v).ix a = p.ix a := rfl
  rw [e1, e2]
  by_cases ha : p.inP a
  · rw [put_cell hp hc ha]
    by_cases e : a = c
    · simp [e, hc]
    · simp [e]
  · have : a ≠ c := fun e => ha (e ▸ hc)
    simp [ha, this]
theorem put_near (hp : p.Ok) {c : Pt} (hc : p.inP c) (v : Int) : Near p (p.put c v) c :=
  ⟨rfl, rfl, by unfold put; rw [List.length_set], fun x hx => by rw [put_free hp hc, if_neg hx]⟩
theorem put_same (hp : p.Ok) {c : Pt} (hc : p.inP c) : (p.put c (p.C.getD (p.ix c) 0)) = p := by
  have hlt := ix_lt hp hc
  unfold put
  cases p with
  | mk W H C =>
    simp only [mk.injEq, true_and]
    apply List.ext_getElem?
    intro i
    by_cases e : ix ⟨W, H, C⟩ c = i
    · subst e
      rw [List.getElem?_set_self hlt, List.getD_eq_getElem?_getD]
      simp only at hlt
      rw [List.getElem?_eq_getElem hlt]; rfl
    · rw [List.getElem?_set_ne e]

theorem none_len : p.none_.length = p.C.length := by unfold none_; rw [List.length_replicate]
end Pl

/-- What a planner's memory stands for: a plan, a goal, the costs. -/
structure Rp (p : Pl) (goal : Pt) (l : List Int) : Prop where
  ok : p.Ok
  gin : p.inP goal
  dist : p.free goal → Pl.IsDist p goal l
  none : ¬ p.free goal → l = p.none_

theorem Rp.len {p : Pl} {goal : Pt} {l : List Int} (h : Rp p goal l) : l.length = p.C.length := by
  by_cases hf : p.free goal
  · exact (h.dist hf).len
  · rw [h.none hf]; exact Pl.none_len
theorem Rp.unique {p : Pl} {goal : Pt} {l m : List Int} (h : Rp p goal l) (k : Rp p goal m) : l = m := by
  by_cases hf : p.free goal
  · exact Pl.IsDist.unique h.ok (h.dist hf) (k.dist hf)
  · rw [h.none hf, k.none hf]

/-! ### Plans without costs -/

theorem l37_0_none {p : Pl} (hp : p.Ok) {gx gy : Int} : ∀ (n off : Nat) (ob : List Pt), off + n ≤ ob.length → (∀ x ∈ (ob.drop off).take n, p.inP x) →
    l38_0 (off, n, p.C, p.none_, p.W, p.H, p.C.length, gx, gy, p.C.length, ob, ()) = some (p.C, p.none_, p.W, p.H, p.C.length, gx, gy, p.C.length, ()) := by
  intro n
  induction n with
  | zero =>
    intro off ob _ _
    have hr : r38_0 (off, 0, p.C, p.none_, p.W, p.H, p.C.length, gx, gy, p.C.length, ob, ()) = some (.inr (p.C, p.none_, p.W, p.H, p.C.length, gx, gy, p.C.length, ())) := rfl
    unfold l38_0
    rw [iterO_eq, hr]
  | succ n ih =>
    intro off ob hob hin
    have hlt : off < ob.length := by omega
    have e1 : ob[off]? = some ob[off] := List.getElem?_eq_getElem hlt
    have e2 : (ob.drop off).take (n + 1) = ob[off] :: (ob.drop (off + 1)).take n := by
      rw [List.drop_eq_getElem_cons hlt, List.take_succ_cons]
    rw [e2] at hin
    generalize ob[off] = v at *
    have hv := hin v (List.mem_cons_self ..)
    have c1 : ((n + 1 : Nat) : Int) > 0 := by omega
    have c3 : (1 : Int) ≤ ((n + 1 : Nat) : Int) := by omega
    have z1 : (0 + p.C.length ≤ p.C.length) = True := by simp
    have z2 : (0 + p.C.length ≤ p.none_.length) = True := by simp [Pl.none_len]
    have tl : List.take p.C.length (List.drop 0 p.none_) = p.none_ := by rw [List.drop_zero, List.take_of_length_le (by rw [Pl.none_len]; omega)]
    have tc : List.take p.C.length (List.drop 0 p.C) = p.C := by simp
    have hix := f37_spec hp hv p.none_ gx gy
    obtain ⟨b1, b2⟩ := ix_in hp rfl hv
    have g1 : p.none_[0 + p.ix v]? = some (-1) := by rw [Nat.zero_add, g_get hp Pl.none_len hv, Pl.g_none]
    have q : ((-1 : Int) < 0) = True := by simp
    have hr : r38_0 (off, n + 1, p.C, p.none_, p.W, p.H, p.C.length, gx, gy, p.C.length, ob, ()) = some (.inl (off + 1, n, p.C, p.none_, p.W, p.H, p.C.length, gx, gy, p.C.length, ob, ())) := by
      unfold r38_0
      simp only [c1, c3, Int.le_refl, decide_true, Bool.and_self, cond_true, Nat.add_zero, e1, Option.bind_some, z1, z2, tl, tc, hix, b1, b2, Int.toNat_natCast, g1, q, Nat.add_sub_cancel]
    unfold l38_0 at ih ⊢
    rw [iterO_eq, hr]
    exact ih (off + 1) ob (by omega) (fun x hx => hin x (List.mem_cons_of_mem _ hx))

theorem f37_none {p : Pl} (hp : p.Ok) {gx gy : Int} {n : Nat} {ob : List Pt} (hob : n ≤ ob.length) (hin : ∀ x ∈ ob.take n, p.inP x) :
    f38 (n, p.C, p.none_, p.W, p.H, p.C.length, gx, gy, p.C.length, ob, ()) = some (p.C, p.none_, p.W, p.H, p.C.length, gx, gy, p.C.length, ()) := by
  unfold f38
  simp only [l37_0_none hp (gx := gx) (gy := gy) n 0 ob (by omega) (by rw [List.drop_zero]; exact hin), Option.bind_some]

theorem l39_0_none {p : Pl} (hp : p.Ok) {goal : Pt} (hg : ¬ p.free goal) : ∀ (n off : Nat) (ob : List Pt), off + n ≤ ob.length → (∀ x ∈ (ob.drop off).take n, p.inP x) →
    l40_0 (off, n, 0, p.C, p.none_, p.W, p.H, p.C.length, goal.X, goal.Y, p.C.length, ob, [], ()) = some (0, p.C, p.none_, p.W, p.H, p.C.length, goal.X, goal.Y, p.C.length, [], ()) := by
  intro n
  induction n with
  | zero =>
    intro off ob _ _
    have hr : r40_0 (off, 0, 0, p.C, p.none_, p.W, p.H, p.C.length, goal.X, goal.Y, p.C.length, ob, [], ()) = some (.inr (0, p.C, p.none_, p.W, p.H, p.C.length, goal.X, goal.Y, p.C.length, [], ())) := rfl
    unfold l40_0
    rw [iterO_eq, hr]
  | succ n ih =>
    intro off ob hob hin
    have hlt : off < ob.length := by omega
    have e1 : ob[off]? = some ob[off] := List.getElem?_eq_getElem hlt
    have e2 : (ob.drop off).take (n + 1) = ob[off] :: (ob.drop (off + 1)).take n := by
      rw [List.drop_eq_getElem_cons hlt, List.take_succ_cons]
    rw [e2] at hin
    generalize ob[off] = v at *
    have hv := hin v (List.mem_cons_self ..)
    have c1 : ((n + 1 : Nat) : Int) > 0 := by omega
    have c3 : (1 : Int) ≤ ((n + 1 : Nat) : Int) := by omega
    have z1 : (0 + p.C.length ≤ p.C.length) = True := by simp
    have z2 : (0 + p.C.length ≤ p.none_.length) = True := by simp [Pl.none_len]
    have tl : List.take p.C.length (List.drop 0 p.none_) = p.none_ := by rw [List.drop_zero, List.take_of_length_le (by rw [Pl.none_len]; omega)]
    have tc : List.take p.C.length (List.drop 0 p.C) = p.C := by simp
    have hix := f37_spec hp hv p.none_ goal.X goal.Y
    obtain ⟨b1, b2⟩ := ix_in hp rfl hv
    have g1 : p.none_[0 + p.ix v]? = some (-1) := by rw [Nat.zero_add, g_get hp Pl.none_len hv, Pl.g_none]
    have g2 : p.C[0 + p.ix v]? = some (p.C.getD (p.ix v) 0) := by rw [Nat.zero_add]; exact cell_get hp hv
    have q : ((-1 : Int) < 0) = True := by simp
    have hr : r40_0 (off, n + 1, 0, p.C, p.none_, p.W, p.H, p.C.length, goal.X, goal.Y, p.C.length, ob, [], ()) = some (.inl (off + 1, n, 0, p.C, p.none_, p.W, p.H, p.C.length, goal.X, goal.Y, p.C.length, ob, [], ())) := by
      by_cases e : v = goal
      · have hne : (p.C.getD (p.ix v) 0 == 1) = false := by
          rw [beq_eq_false_iff_ne]
          intro h
          exact hg (e ▸ ⟨hv, h⟩)
        subst e
        unfold r40_0
        simp only [c1, c3, Int.le_refl, decide_true, Bool.and_self, cond_true, cond_false, Nat.add_zero, e1, Option.bind_some, pt_eqb, z1, z2, tl, tc, hix, b1, b2, Int.toNat_natCast, g1, g2, hne, q, Nat.add_sub_cancel]
      · unfold r40_0
        simp only [c1, c3, Int.le_refl, decide_true, decide_false, Bool.and_self, cond_true, cond_false, Nat.add_zero, e1, Option.bind_some, pt_eqb, e, z1, z2, tl, tc, hix, b1, b2, Int.toNat_natCast, g1, q, Nat.add_sub_cancel]
    unfold l40_0 at ih ⊢
    rw [iterO_eq, hr]
    exact ih (off + 1) ob (by omega) (fun x hx => hin x (List.mem_cons_of_mem _ hx))

theorem f39_none {p : Pl} (hp : p.Ok) {goal : Pt} (hg : ¬ p.free goal) {n : Nat} {ob : List Pt} (hob : n ≤ ob.length) (hin : ∀ x ∈ ob.take n, p.inP x) :
    f40 (n, p.C, p.none_, p.W, p.H, p.C.length, goal.X, goal.Y, p.C.length, ob, ()) = some (p.W, p.H, p.C.length, goal.X, goal.Y, p.C.length, p.C, p.none_, ()) := by
  have z1 : (p.C.length ≤ p.C.length) = True := by simp
  have z2 : (p.C.length ≤ p.none_.length) = True := by simp [Pl.none_len]
  have z3 : (0 ≤ ([] : List Pt).length) = True := by simp
  have tl : List.take p.C.length p.none_ = p.none_ := List.take_of_length_le (by rw [Pl.none_len]; omega)
  have tc : List.take p.C.length p.C = p.C := by simp
  have k1 := f37_none hp (gx := goal.X) (gy := goal.Y) (n := 0) (ob := []) (by simp) (by simp)
  unfold f40
  simp only [l39_0_none hp hg n 0 ob (by omega) (by rw [List.drop_zero]; exact hin), Option.bind_some, Nat.zero_add, List.drop_zero, z1, z2, z3, tl, tc, decide_true, cond_true, List.take_zero, k1]

/-! ### fresh -/

theorem f36_spec {p : Pl} (hp : p.Ok) {goal : Pt} (hg : p.inP goal) {l : List Int} {nl : Nat} : ∃ m, f36 (p.C, l, p.W, p.H, p.C.length, goal.X, goal.Y, nl, ()) = some (p.C, l, p.W, p.H, p.C.length, goal.X, goal.Y, p.C.length, m, ()) ∧ Rp p goal m := by
  have z1 : (p.C.length ≤ p.C.length) = True := by simp
  have tc : List.take p.C.length p.C = p.C := by simp
  by_cases hf : p.free goal
  · obtain ⟨m, h1, h2⟩ := f13_spec hp hf
    refine ⟨m, ?_, ⟨hp, hg, fun _ => h2, fun h => (h hf).elim⟩⟩
    unfold f36
    simp only [Nat.zero_add, List.drop_zero, z1, tc, decide_true, cond_true, h1, Option.bind_some, bne_self_eq_false, cond_false, j36_10, h2.len]
  · refine ⟨p.none_, ?_, ⟨hp, hg, fun h => (hf h).elim, fun _ => rfl⟩⟩
    have h1 := f24_none hp hf
    have hfew := hp.few
    have hw := hp.w1
    have hh := hp.h1
    have hlen := hp.len
    have hpos : 0 < p.C.length := by
      have := Int.mul_pos (show 0 < p.W by omega) (show 0 < p.H by omega)
      omega
    have h2 := f44_spec (n := p.C.length) (by omega) (by omega)
    have q : ((7 : Int) != 0) = true := rfl
    unfold f36
    simp only [Nat.zero_add, List.drop_zero, z1, tc, decide_true, cond_true, h1, Option.bind_some, q, size_w hp, h2, j36_10]
    rfl

theorem f936_spec {p : Pl} (hp : p.Ok) {goal : Pt} (hg : p.inP goal) : ∃ m, f936 (p.C, p.W, p.H, p.C.length, goal.X, goal.Y, ()) = some (p.C, p.W, p.H, p.C.length, goal.X, goal.Y, p.C.length, m, ()) ∧ Rp p goal m := by
  have z1 : (p.C.length ≤ p.C.length) = True := by simp
  have tc : List.take p.C.length p.C = p.C := by simp
  by_cases hf : p.free goal
  · obtain ⟨m, h1, h2⟩ := f13_spec hp hf
    refine ⟨m, ?_, ⟨hp, hg, fun _ => h2, fun h => (h hf).elim⟩⟩
    unfold f936
    simp only [Nat.zero_add, List.drop_zero, z1, tc, decide_true, cond_true, h1, Option.bind_some, bne_self_eq_false, cond_false, j936_10, h2.len]
  · refine ⟨p.none_, ?_, ⟨hp, hg, fun h => (hf h).elim, fun _ => rfl⟩⟩
    have h1 := f24_none hp hf
    have hfew := hp.few
    have hw := hp.w1
    have hh := hp.h1
    have hlen := hp.len
    have hpos : 0 < p.C.length := by
      have := Int.mul_pos (show 0 < p.W by omega) (show 0 < p.H by omega)
      omega
    have h2 := f44_spec (n := p.C.length) (by omega) (by omega)
    have q : ((7 : Int) != 0) = true := rfl
    unfold f936
    simp only [Nat.zero_add, List.drop_zero, z1, tc, decide_true, cond_true, h1, Option.bind_some, q, size_w hp, h2, j936_10]
    rfl

end Go.AE
