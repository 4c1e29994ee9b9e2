/-
  WholePath, part 3: Squares, Inflate; the plan of a clearance.
-/
import Derived.Test.YtmhbjgelllhnbaaT2
namespace Go.AE
open Go.Proofs Go.RowKit
set_option maxRecDepth 100000

/-- Free where the number is at least s. -/
def cellS (s n : Int) : Int := if s ≤ n then 1 else 2
def Pl.lev (p : Pl) (S : List Int) (s : Int) : Pl := ⟨p.W, p.H, S.map (cellS s)⟩

theorem f8_good {p : Pl} (hp : p.Ok) {S : List Int} (hS : f23 (p.W, p.H, p.C, ()) = some (p.C.length, S, ())) : f8 (p.W, p.H, p.C, ()) = some (p.C.length, 0, S, ()) := by
  have hfew := hp.few
  unfold f8
  simp only [f22_spec (p := p) (by omega), hp.vld, Option.bind_some, Bool.not_true, cond_false, hS]

theorem l6_spec' (r lim : Int) (a b W H : Int) (m : Nat) (S : List Int) (hl : S.length ≤ 1000000) (hlim : lim = (S.length : Int)) (hm : m = S.length) : ∀ (k i : Nat) (out : List Int), S.length - i = k → i ≤ S.length → out.length = S.length →
    ∃ out', l6_0 (r, S.length, lim, (i : Int), a, b, W, H, m, S, out, ()) = some (a, b, W, H, m, out', ()) ∧ out'.length = S.length ∧ ∀ j, out'[j]? = if i ≤ j then (S[j]?).map (cellS (r + 1)) else out[j]? := by
  intro k
  induction k with
  | zero =>
    intro i out hk hi ho
    have c1 : ¬ (i : Int) < lim := by omega
    refine ⟨out, ?_, ho, fun j => ?_⟩
    · have hr : r6_0 (r, S.length, lim, (i : Int), a, b, W, H, m, S, out, ()) = some (.inr (a, b, W, H, m, out, ())) := by
        unfold r6_0
        simp only [c1, decide_false, cond_false]
      unfold l6_0
      rw [iterO_eq, hr]
    · split
      · rw [List.getElem?_eq_none (by omega), List.getElem?_eq_none (by omega)]
        rfl
      · rfl
  | succ k ih =>
    intro i out hk hi ho
    have hlt : i < S.length := by omega
    have c1 : (i : Int) < lim := by omega
    have c2 : (0 : Int) ≤ (i : Int) := by omega
    have c3 : (i : Int) < (S.length : Int) := by omega
    have c4 : (i : Int) < (m : Int) := by omega
    have w0 : IntKind.i64.wrap ((i : Int) + 1) = ((i + 1 : Nat) : Int) := by rw [w64 (by omega) (by omega)]; rfl
    have hget := List.getElem?_eq_getElem hlt
    have hget2 : out[i]? = some (out[i]'(by omega)) := List.getElem?_eq_getElem (by omega)
    have hget3 : (out.set i 2)[i]? = some 2 := List.getElem?_set_self (by omega)
    have hr : r6_0 (r, S.length, lim, (i : Int), a, b, W, H, m, S, out, ()) = some (.inl (r, S.length, lim, ((i + 1 : Nat) : Int), a, b, W, H, m, S, out.set i (cellS (r + 1) S[i]), ())) := by
      unfold r6_0 j6_37
      simp only [c1, c2, c3, c4, decide_true, cond_true, Bool.and_self, Nat.zero_add, Int.toNat_natCast, hget, hget2, Option.bind_some, w0]
      by_cases h : S[i] > r
      · have e : cellS (r + 1) S[i] = 1 := if_pos (by omega)
        simp only [h, decide_true, cond_true, hget3, Option.bind_some, List.set_set, e]
      · have e : cellS (r + 1) S[i] = 2 := if_neg (by omega)
        simp only [h, decide_false, cond_false, e]
    obtain ⟨out', o1, o2, o3⟩ := ih (i + 1) (out.set i (cellS (r + 1) S[i])) (by omega) (by omega) (by rw [List.length_set]; exact ho)
    refine ⟨out', ?_, o2, fun j => ?_⟩
    · unfold l6_0 at o1 ⊢
      rw [iterO_eq, hr]
      exact o1
    · rw [o3 j]
      by_cases hji : j = i
      · subst hji
        rw [if_neg (by omega), if_pos (Nat.le_refl _), List.getElem?_set_self (by omega), hget]
        rfl
      · by_cases h2 : i + 1 ≤ j
        · rw [if_pos h2, if_pos (by omega)]
        · rw [if_neg h2, if_neg (by omega), List.getElem?_set_ne (fun e => hji e.symm)]

theorem f6_good {p : Pl} (hp : p.Ok) {S : List Int} (hS : f23 (p.W, p.H, p.C, ()) = some (p.C.length, S, ())) (hl : S.length = p.C.length) {r : Int} (h0 : 0 ≤ r) (h1 : r ≤ 8192) :
    f6 (p.W, p.H, p.C, r, ()) = some (.inr (p.W, p.H, p.C.length, 0, (p.lev S (r + 1)).C, ())) := by
  have hfew := hp.few
  obtain ⟨o, a1, a2, a3⟩ := l6_spec' r (S.length : Int) 0 0 p.W p.H S.length S (by omega) rfl rfl S.length 0 (List.replicate p.C.length 0) (by omega) (by omega) (by simp [hl])
  have ho : o = S.map (cellS (r + 1)) := by
    apply List.ext_getElem?
    intro j
    rw [a3 j, if_pos (Nat.zero_le _), List.getElem?_map]
  rw [ho, hl] at a1
  have a1' : l6_0 (r, p.C.length, (p.C.length : Int), 0, 0, 0, p.W, p.H, p.C.length, S, List.replicate p.C.length 0, ()) = _ := a1
  have c1 : ¬ r < 0 := by omega
  have c2 : ¬ r > 8192 := by omega
  have c3 : ((p.C.length : Int) * 1 ≤ 140737488355328) := by omega
  have c4 : ((p.C.length : Int) ≤ 140737488355328) := by omega
  unfold f6
  simp only [f22_spec (p := p) (by omega), hp.vld, Option.bind_some, Bool.not_true, cond_false, c1, c2, decide_false, Int.le_refl, c3, c4, decide_true, Bool.and_self, cond_true, hS, Int.toNat_natCast, a1']
  rfl
theorem f6_bad {p : Pl} (hl : p.C.length ≤ 1000000) (hv : p.vld = false) (r : Int) : f6 (p.W, p.H, p.C, r, ()) = some (.inl (0, 0, 1, ())) := by
  unfold f6
  simp only [f22_spec hl, hv, Option.bind_some, Bool.not_false, cond_true]

namespace Pl
variable {p : Pl} {S : List Int}
theorem lev_ok (hp : p.Ok) (hl : S.length = p.C.length) (s : Int) : (p.lev S s).Ok := by
  have e : (p.lev S s).C.length = p.C.length := by show (S.map (cellS s)).length = _; rw [List.length_map, hl]
  refine ⟨hp.w1, hp.w2, hp.h1, hp.h2, by rw [e]; exact hp.len, by rw [e]; exact hp.few, fun x hx => ?_⟩
  obtain ⟨y, _, rfl⟩ := List.mem_map.1 (show x ∈ S.map (cellS s) from hx)
  unfold cellS
  split <;> omega
theorem lev_inP {s : Int} {c : Pt} : (p.lev S s).inP c ↔ p.inP c := Iff.rfl
theorem lev_ix {s : Int} {c : Pt} : (p.lev S s).ix c = p.ix c := rfl
theorem lev_free (hp : p.Ok) (hl : S.length = p.C.length) {s : Int} {c : Pt} : (p.lev S s).free c ↔ p.inP c ∧ s ≤ p.g S c := by
  constructor
  · rintro ⟨h1, h2⟩
    refine ⟨h1, ?_⟩
    have hi := ix_lt hp (lev_inP.1 h1)
    have h3 : (S.map (cellS s)).getD (p.ix c) 0 = 1 := h2
    rw [List.getD_eq_getElem?_getD, List.getElem?_map, g_get hp hl (lev_inP.1 h1)] at h3
    simp only [Option.map_some, Option.getD_some] at h3
    unfold cellS at h3
    split at h3
    · assumption
    · cases h3
  · rintro ⟨h1, h2⟩
    refine ⟨h1, ?_⟩
    show (S.map (cellS s)).getD (p.ix c) 0 = 1
    rw [List.getD_eq_getElem?_getD, List.getElem?_map, g_get hp hl h1]
    exact if_pos h2
theorem lev_same {s t : Int} (h : ∀ x ∈ S, s ≤ x ↔ t ≤ x) : p.lev S s = p.lev S t := by
  unfold lev
  congr 1
  refine List.map_congr_left fun x hx => ?_
  unfold cellS
  by_cases h1 : s ≤ x
  · rw [if_pos h1, if_pos ((h x hx).1 h1)]
  · rw [if_neg h1, if_neg (fun h2 => h1 ((h x hx).2 h2))]

/-! ### Joined over edges -/

def four : List Pt := [⟨1, 0⟩, ⟨0, 1⟩, ⟨-1, 0⟩, ⟨0, -1⟩]
inductive Conn (p : Pl) (a : Pt) : Pt → Prop
  | refl : p.free a → Conn p a a
  | step {b d : Pt} : Conn p a b → d ∈ four → p.free (add b d) → Conn p a (add b d)
theorem Conn.free1 {a b : Pt} (h : p.Conn a b) : p.free a := by induction h with
  | refl h => exact h
  | step _ _ _ ih => exact ih
theorem Conn.free2 {a b : Pt} (h : p.Conn a b) : p.free b := by cases h with
  | refl h => exact h
  | step _ _ h => exact h
theorem Conn.mono {q : Pl} (hf : ∀ c, p.free c → q.free c) {a b : Pt} (h : p.Conn a b) : q.Conn a b := by induction h with
  | refl h => exact .refl (hf _ h)
  | step _ hd h ih => exact .step ih hd (hf _ h)
theorem Conn.trans {a b c : Pt} (h : p.Conn a b) (k : p.Conn b c) : p.Conn a c := by induction k with
  | refl _ => exact h
  | step _ hd hf ih => exact .step ih hd hf
theorem four_neg {d : Pt} (h : d ∈ four) : neg d ∈ four := by
  simp only [four, List.mem_cons, List.not_mem_nil, or_false] at h
  rcases h with rfl | rfl | rfl | rfl <;> decide
theorem Conn.symm {a b : Pt} (h : p.Conn a b) : p.Conn b a := by induction h with
  | refl h => exact .refl h
  | @step b d h1 hd hf ih =>
    have h2 : p.Conn (add b d) (add (add b d) (neg d)) := .step (.refl hf) (four_neg hd) (by rw [add_neg]; exact h1.free2)
    rw [add_neg] at h2
    exact h2.trans ih
theorem lev_conn_mono (hp : p.Ok) (hl : S.length = p.C.length) {s t : Int} (h : s ≤ t) {a b : Pt} (hc : (p.lev S t).Conn a b) : (p.lev S s).Conn a b :=
  hc.mono fun c hf => by
    rw [lev_free hp hl] at hf ⊢
    exact ⟨hf.1, by omega⟩

/-- A step over a corner goes over two edges. -/
theorem st_conn {c d : Pt} {w : Int} (hd : d ∈ dirs) (h : p.st c d = some w) : p.Conn c (add c d) := by
  obtain ⟨f1, f2⟩ := st_free h
  unfold st at h
  rw [if_pos ⟨f1, f2⟩] at h
  have edge : d ∈ four → p.Conn c (add c d) := fun hf => .step (.refl f1) hf f2
  simp only [dirs, List.mem_cons, List.not_mem_nil, or_false] at hd
  have diag : ∀ dx dy : Int, d = ⟨dx, dy⟩ → (⟨dx, 0⟩ : Pt) ∈ four → (⟨0, dy⟩ : Pt) ∈ four → dx ≠ 0 → dy ≠ 0 → p.Conn c (add c d) := by
    intro dx dy he h1 h2 hx hy
    subst he
    rw [if_neg (by simp only; omega)] at h
    split at h
    · rename_i hh
      have e1 : add c ⟨dx, 0⟩ = ⟨c.X + dx, c.Y⟩ := by simp [add]
      have s1 : p.Conn c (add c ⟨dx, 0⟩) := .step (.refl f1) h1 (by rw [e1]; exact hh.1)
      have e2 : add (add c ⟨dx, 0⟩) ⟨0, dy⟩ = add c ⟨dx, dy⟩ := by simp [add]
      have s2 : p.Conn c (add (add c ⟨dx, 0⟩) ⟨0, dy⟩) := .step s1 h2 (by rw [e2]; exact f2)
      rw [e2] at s2
      exact s2
    · cases h
  rcases hd with rfl | rfl | rfl | rfl | rfl | rfl | rfl | rfl
  · exact edge (by decide)
  · exact diag 1 1 rfl (by decide) (by decide) (by omega) (by omega)
  · exact edge (by decide)
  · exact diag (-1) 1 rfl (by decide) (by decide) (by omega) (by omega)
  · exact edge (by decide)
  · exact diag (-1) (-1) rfl (by decide) (by decide) (by omega) (by omega)
  · exact edge (by decide)
  · exact diag 1 (-1) rfl (by decide) (by decide) (by omega) (by omega)

/-- A cell has a cost exactly if it is joined to the goal. -/
theorem dist_conn {goal : Pt} {l : List Int} (h : IsDist p goal l) (hg : p.free goal) : ∀ (n : Nat) {c : Pt}, p.inP c → 0 ≤ p.g l c → p.g l c ≤ n → p.Conn c goal := by
  intro n
  induction n with
  | zero =>
    intro c hc h0 h1
    by_cases he : c = goal
    · subst he; exact .refl hg
    · obtain ⟨d, w, d1, d2, d3, d4⟩ := h.next hc he h0
      have := st_pos d2
      omega
  | succ n ih =>
    intro c hc h0 h1
    by_cases he : c = goal
    · subst he; exact .refl hg
    · obtain ⟨d, w, d1, d2, d3, d4⟩ := h.next hc he h0
      have hw := st_pos d2
      exact (st_conn d1 d2).trans (ih (st_free d2).2.1 d3 (by omega))
theorem conn_dist {goal : Pt} {l : List Int} (h : IsDist p goal l) {c : Pt} (hc : p.Conn goal c) : 0 ≤ p.g l c := by
  induction hc with
  | refl _ => rw [h.zero]; omega
  | @step b d h1 hd hf ih =>
    have hdd : d ∈ dirs := by
      simp only [four, List.mem_cons, List.not_mem_nil, or_false] at hd
      rcases hd with rfl | rfl | rfl | rfl <;> decide
    have hs : p.st b d = some 70 := by
      unfold st
      rw [if_pos ⟨h1.free2, hf⟩, if_pos (by
        simp only [four, List.mem_cons, List.not_mem_nil, or_false] at hd
        rcases hd with rfl | rfl | rfl | rfl <;> simp)]
    exact (h.edge b d 70 hdd hs ih).1
end Pl

end Go.AE
