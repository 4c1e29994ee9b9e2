/-
  Shortest paths, part 2: costs that are improved as long as a step improves one; costs that are made final in their order.
-/
import Derived.Test.YtmhbjgelllhnbaaSp
namespace Go.AE

/-! ### Sums over lists -/

def lsum (f : Int → Nat) (l : List Int) : Nat := (l.map f).sum
theorem lsum_set (f : Int → Nat) : ∀ (l : List Int) (i : Nat) (v : Int), i < l.length → lsum f (l.set i v) + f (l.getD i (-1)) = lsum f l + f v
  | [], i, v, h => by simp at h
  | x :: l, 0, v, h => by simp [lsum]; omega
  | x :: l, i + 1, v, h => by
    have := lsum_set f l i v (by simpa using h)
    simp only [lsum, List.set_cons_succ, List.map_cons, List.sum_cons, List.getD_cons_succ] at this ⊢
    omega
theorem lsum_le (f : Int → Nat) (m : Nat) (hf : ∀ x, f x ≤ m) : ∀ l : List Int, lsum f l ≤ m * l.length
  | [] => by simp [lsum]
  | x :: l => by
    have := lsum_le f m hf l
    have := hf x
    simp only [lsum, List.map_cons, List.sum_cons, List.length_cons, Nat.mul_add] at *
    omega

/-- The number of cells that have a cost. -/
def cnt (l : List Int) : Nat := lsum (fun x => if 0 ≤ x then 1 else 0) l
theorem cnt_le (l : List Int) : cnt l ≤ l.length := by
  have := lsum_le (fun x => if 0 ≤ x then 1 else 0) 1 (fun x => by split <;> omega) l
  unfold cnt; omega

namespace Pl
variable {p : Pl}

theorem cnt_set {l : List Int} (hp : p.Ok) (hl : l.length = p.C.length) {c : Pt} (hc : p.inP c) {v : Int} (hv : 0 ≤ v) : cnt (l.set (p.ix c) v) = cnt l + (if 0 ≤ p.g l c then 0 else 1) := by
  have := lsum_set (fun x => if 0 ≤ x then 1 else 0) l (p.ix c) v (by rw [hl]; exact ix_lt hp hc)
  unfold cnt g
  simp only [hv, if_true] at this
  split
  · rename_i h; rw [if_pos h] at this; omega
  · rename_i h; rw [if_neg h] at this; omega

/-- A list without costs. -/
def none_ (p : Pl) : List Int := List.replicate p.C.length (-1)
theorem g_none (c : Pt) : p.g p.none_ c = -1 := by
  unfold g none_
  rw [List.getD_eq_getElem?_getD, List.getElem?_replicate]
  split <;> rfl

/-! ### Improving -/

/-- Along one step. -/
def rlx1 (p : Pl) (c : Pt) (s : List Int × List Pt) (d : Pt) : List Int × List Pt := match p.st c d with
  | some w => if p.g s.1 (add c d) < 0 ∨ w + p.g s.1 c < p.g s.1 (add c d) then (s.1.set (p.ix (add c d)) (w + p.g s.1 c), s.2 ++ [add c d]) else s
  | none => s

structure RI (p : Pl) (goal : Pt) (l : List Int) (Q : List Pt) (c : Pt) (rem : List Pt) : Prop where
  gf : p.free goal
  len : l.length = p.C.length
  zero : p.g l goal = 0
  rng : ∀ c, p.inP c → -1 ≤ p.g l c
  top : ∀ c, p.inP c → p.g l c + 99 ≤ 99 * (cnt l : Int)
  pred : ∀ c, p.inP c → c ≠ goal → 0 ≤ p.g l c → ∃ u d w, d ∈ dirs ∧ p.st u d = some w ∧ add u d = c ∧ 0 ≤ p.g l u ∧ p.g l u + w ≤ p.g l c
  edge : ∀ c', 0 ≤ p.g l c' → c' ∉ Q → ∀ d w, d ∈ dirs → p.st c' d = some w → (c' = c → d ∉ rem) → 0 ≤ p.g l (add c' d) ∧ p.g l (add c' d) ≤ p.g l c' + w
  q : ∀ c, c ∈ Q → p.free c ∧ 0 ≤ p.g l c

/-- Twice the costs, and the list's length. -/
def rmu (l : List Int) (Q : List Pt) : Nat := 2 * lsum (fun x => if 0 ≤ x then x.toNat else 50000) l + Q.length

theorem RI.top2 (hp : p.Ok) {goal : Pt} {l : List Int} {Q : List Pt} {c : Pt} {rem : List Pt} (h : RI p goal l Q c rem) {x : Pt} (hx : p.inP x) : p.g l x ≤ 39501 := by
  have h1 := h.top x hx
  have h2 := cnt_le l
  have h3 := hp.few
  have h4 := h.len
  omega

theorem RI.init (hp : p.Ok) {goal : Pt} (hg : p.free goal) : RI p goal (p.none_.set (p.ix goal) 0) [goal] goal [] := by
  have hlen : p.none_.length = p.C.length := by simp [none_]
  have G : ∀ x, p.inP x → p.g (p.none_.set (p.ix goal) 0) x = if x = goal then 0 else -1 := fun x hx => by rw [g_set hp hlen hg.1 hx, g_none]
  have hc := cnt_set hp hlen hg.1 (v := 0) (by omega)
  rw [g_none] at hc
  have hc1 : 1 ≤ cnt (p.none_.set (p.ix goal) 0) := by rw [hc]; simp
  refine ⟨hg, by rw [List.length_set, hlen], by rw [G goal hg.1, if_pos rfl], fun x hx => ?_, fun x hx => ?_, fun x hx hne h0 => ?_, fun x h0 hx d w hd hs _ => ?_, fun x hx => ?_⟩
  · rw [G x hx]; split <;> omega
  · rw [G x hx]; split <;> omega
  · rw [G x hx, if_neg hne] at h0; omega
  · have hin := (st_free hs).1.1
    rw [G x hin] at h0
    by_cases e : x = goal
    · exact (hx (by simp [e])).elim
    · rw [if_neg e] at h0; omega
  · have : x = goal := by simpa using hx
    subst this
    exact ⟨hg, by rw [G x hg.1, if_pos rfl]; omega⟩

theorem RI.pop {goal : Pt} {l : List Int} {Q : List Pt} {c c' : Pt} (h : RI p goal l (c :: Q) c' []) : RI p goal l Q c dirs ∧ p.free c ∧ 0 ≤ p.g l c ∧ rmu l Q + 1 = rmu l (c :: Q) := by
  obtain ⟨q1, q2⟩ := h.q c (List.mem_cons_self ..)
  refine ⟨⟨h.gf, h.len, h.zero, h.rng, h.top, h.pred, fun x h0 hx d w hd hs hr => ?_, fun x hx => h.q x (List.mem_cons_of_mem _ hx)⟩, q1, q2, by simp only [rmu, List.length_cons]; omega⟩
  by_cases e : x = c
  · exact (hr e hd).elim
  · exact h.edge x h0 (fun hm => (List.mem_cons.1 hm).elim e hx) d w hd hs (fun _ => by simp)

theorem RI.step (hp : p.Ok) {goal : Pt} {l : List Int} {Q : List Pt} {c d : Pt} {rem : List Pt} (h : RI p goal l Q c (d :: rem)) (hd : d ∈ dirs) (hc : p.free c) (hc0 : 0 ≤ p.g l c) :
    RI p goal (rlx1 p c (l, Q) d).1 (rlx1 p c (l, Q) d).2 c rem ∧ p.g (rlx1 p c (l, Q) d).1 c = p.g l c ∧ rmu (rlx1 p c (l, Q) d).1 (rlx1 p c (l, Q) d).2 ≤ rmu l Q ∧ (rlx1 p c (l, Q) d).2.length ≤ Q.length + 1 := by
  have skip : (∀ w, p.st c d = some w → 0 ≤ p.g l (add c d) ∧ p.g l (add c d) ≤ p.g l c + w) → RI p goal l Q c rem := fun hk =>
    ⟨h.gf, h.len, h.zero, h.rng, h.top, h.pred, fun c' h1 h2 d' w h3 h4 h5 => by
      by_cases hcc : c' = c ∧ d' = d
      · obtain ⟨rfl, rfl⟩ := hcc
        exact hk w h4
      · refine h.edge c' h1 h2 d' w h3 h4 (fun e => ?_)
        intro hm
        rcases List.mem_cons.1 hm with hm | hm
        · exact hcc ⟨e, hm⟩
        · exact h5 e hm, h.q⟩
  cases hs : p.st c d with
  | none =>
    have e : rlx1 p c (l, Q) d = (l, Q) := by simp only [rlx1, hs]
    rw [e]
    exact ⟨skip (fun w hw => by rw [hs] at hw; cases hw), rfl, Nat.le_refl _, by simp⟩
  | some w =>
    have hw := st_pos hs
    have hf := st_free hs
    by_cases hi : p.g l (add c d) < 0 ∨ w + p.g l c < p.g l (add c d)
    · have e : rlx1 p c (l, Q) d = (l.set (p.ix (add c d)) (w + p.g l c), Q ++ [add c d]) := by simp only [rlx1, hs, hi, if_true]
      rw [e]
      simp only
      generalize ht : add c d = t at *
      have htin : p.inP t := hf.2.1
      have hne : t ≠ c := by rw [← ht]; exact dirs_ne hd
      have hgt : t ≠ goal := by
        intro e; rw [e, h.zero] at hi; omega
      have G : ∀ x, p.inP x → p.g (l.set (p.ix t) (w + p.g l c)) x = if x = t then w + p.g l c else p.g l x := fun x hx => g_set hp h.len htin hx _
      have hcnt := cnt_set hp h.len htin (v := w + p.g l c) (by omega)
      have htop := h.top c hc.1
      have htop2 := h.top2 hp hc.1
      have hGc : p.g (l.set (p.ix t) (w + p.g l c)) c = p.g l c := by rw [G c hc.1, if_neg (fun e => hne e.symm)]
      refine ⟨⟨h.gf, by rw [List.length_set]; exact h.len, ?_, fun x hx => ?_, fun x hx => ?_, fun x hx hxg h0 => ?_, fun x h0 hxQ d' w' hd' hs' hr => ?_, fun x hx => ?_⟩, hGc, ?_, by simp⟩
      · rw [G goal h.gf.1, if_neg (fun e => hgt e.symm)]; exact h.zero
      · rw [G x hx]
        split
        · omega
        · exact h.rng x hx
      · rw [G x hx, hcnt]
        have h1 := h.top x hx
        have h2 := h.top t htin
        split <;> split <;> omega
      · rw [G x hx] at h0 ⊢
        by_cases e : x = t
        · subst e
          rw [if_pos rfl]
          exact ⟨c, d, w, hd, hs, ht, by rw [hGc]; exact hc0, by rw [hGc]; omega⟩
        · rw [if_neg e] at h0 ⊢
          obtain ⟨u, d', w', a1, a2, a3, a4, a5⟩ := h.pred x hx hxg h0
          refine ⟨u, d', w', a1, a2, a3, ?_⟩
          rw [G u (st_free a2).1.1]
          split
          · rename_i hu
            subst hu
            omega
          · exact ⟨a4, a5⟩
      · have hxin := (st_free hs').1.1
        have hx't : x ≠ t := fun e => hxQ (List.mem_append_right _ (by simp [e]))
        have hx'Q : x ∉ Q := fun hm => hxQ (List.mem_append_left _ hm)
        rw [G x hxin, if_neg hx't] at h0 ⊢
        rw [G _ (st_free hs').2.1]
        by_cases hcc : x = c ∧ d' = d
        · obtain ⟨rfl, rfl⟩ := hcc
          rw [hs] at hs'
          cases hs'
          rw [ht, if_pos rfl]
          omega
        · have old := h.edge x h0 hx'Q d' w' hd' hs' (fun e hm => by
            rcases List.mem_cons.1 hm with hm | hm
            · exact hcc ⟨e, hm⟩
            · exact hr e hm)
          split
          · rename_i ht2
            rw [ht2] at old
            omega
          · exact old
      · rcases List.mem_append.1 hx with hx | hx
        · obtain ⟨q1, q2⟩ := h.q x hx
          refine ⟨q1, ?_⟩
          rw [G x q1.1]
          split <;> omega
        · have : x = t := by simpa using hx
          subst this
          exact ⟨hf.2, by rw [G x htin, if_pos rfl]; omega⟩
      · have := lsum_set (fun x => if 0 ≤ x then x.toNat else 50000) l (p.ix t) (w + p.g l c) (by rw [h.len]; exact ix_lt hp htin)
        unfold rmu
        have hgd : l.getD (p.ix t) (-1) = p.g l t := rfl
        rw [hgd] at this
        rw [if_pos (show 0 ≤ w + p.g l c by omega)] at this
        simp only [List.length_append, List.length_singleton]
        split at this <;> omega
    · have e : rlx1 p c (l, Q) d = (l, Q) := by simp only [rlx1, hs, hi, if_false]
      rw [e]
      exact ⟨skip (fun w' hw' => by rw [hs] at hw'; cases hw'; omega), rfl, Nat.le_refl _, by simp⟩

theorem RI.done {goal : Pt} {l : List Int} {c : Pt} (h : RI p goal l [] c []) : IsDist p goal l :=
  ⟨h.len, h.zero, h.rng, fun c d w hd hs h0 => h.edge c h0 (by simp) d w hd hs (fun _ => by simp), fun c hc hne h0 => by
    obtain ⟨u, d, w, a1, a2, a3, a4, a5⟩ := h.pred c hc hne h0
    have := (h.edge u a4 (by simp) d w a1 a2 (fun _ => by simp)).2
    rw [a3] at this
    exact ⟨u, d, w, a1, a2, a3, a4, by omega⟩⟩

/-! ### Making final -/

def vc (v : Vs) : Pt := ⟨v.X, v.Y⟩

structure DI (p : Pl) (goal : Pt) (l : List Int) (h : List Vs) (m : Int) (c : Pt) (rem : List Pt) : Prop where
  gf : p.free goal
  len : l.length = p.C.length
  rng : ∀ x, p.inP x → -1 ≤ p.g l x
  m0 : 0 ≤ m
  m1 : m ≤ 99 * (cnt l : Int)
  fin : ∀ x, p.inP x → p.g l x ≤ m
  hge : ∀ v, v ∈ h → p.free (vc v) ∧ m ≤ v.N ∧ v.N ≤ m + 99 ∧ ((vc v = goal ∧ v.N = 0) ∨ ∃ u d w, d ∈ dirs ∧ p.st u d = some w ∧ add u d = vc v ∧ 0 ≤ p.g l u ∧ v.N = p.g l u + w)
  zero : p.g l goal = 0 ∨ (p.g l goal = -1 ∧ Vs.mk goal.X goal.Y 0 ∈ h)
  edge : ∀ x, 0 ≤ p.g l x → ∀ d w, d ∈ dirs → p.st x d = some w → (x = c → d ∉ rem) → (0 ≤ p.g l (add x d) ∧ p.g l (add x d) ≤ p.g l x + w) ∨ (p.g l (add x d) = -1 ∧ Vs.mk (add x d).X (add x d).Y (p.g l x + w) ∈ h)
  pred : ∀ x, p.inP x → x ≠ goal → 0 ≤ p.g l x → ∃ u d w, d ∈ dirs ∧ p.st u d = some w ∧ add u d = x ∧ 0 ≤ p.g l u ∧ p.g l x = p.g l u + w

def dmu (l : List Int) (h : List Vs) : Nat := 9 * (l.length - cnt l) + h.length

theorem DI.init {goal : Pt} (hg : p.free goal) : DI p goal p.none_ [⟨goal.X, goal.Y, 0⟩] 0 goal [] := by
  have hlen : p.none_.length = p.C.length := by simp [none_]
  refine ⟨hg, hlen, fun x _ => by rw [g_none]; omega, by omega, by omega, fun x _ => by rw [g_none]; omega, fun v hv => ?_, .inr ⟨g_none _, by simp⟩, fun x h0 => by rw [g_none] at h0; omega, fun x _ _ h0 => by rw [g_none] at h0; omega⟩
  have : v = ⟨goal.X, goal.Y, 0⟩ := by simpa using hv
  subst this
  exact ⟨hg, by simp, by simp, .inl ⟨rfl, rfl⟩⟩

theorem DI.skip {goal : Pt} {l : List Int} {h h' : List Vs} {m : Int} {c : Pt} {v : Vs} (D : DI p goal l h m c []) (hv : ∀ x, x ∈ h ↔ x = v ∨ x ∈ h') (h0 : 0 ≤ p.g l (vc v)) : DI p goal l h' m c [] := by
  refine ⟨D.gf, D.len, D.rng, D.m0, D.m1, D.fin, fun x hx => D.hge x ((hv x).2 (.inr hx)), ?_, fun x hx d w hd hs hr => ?_, D.pred⟩
  · rcases D.zero with g1 | ⟨g1, g2⟩
    · exact .inl g1
    · rcases (hv _).1 g2 with e | e
      · rw [← e] at h0
        have : p.g l (vc ⟨goal.X, goal.Y, 0⟩) = -1 := g1
        omega
      · exact .inr ⟨g1, e⟩
  · rcases D.edge x hx d w hd hs hr with e | ⟨e1, e2⟩
    · exact .inl e
    · rcases (hv _).1 e2 with e | e
      · rw [← e] at h0
        have : p.g l (vc ⟨(add x d).X, (add x d).Y, p.g l x + w⟩) = -1 := e1
        omega
      · exact .inr ⟨e1, e⟩

theorem DI.new (hp : p.Ok) {goal : Pt} {l : List Int} {h h' : List Vs} {m : Int} {c : Pt} {v : Vs} (D : DI p goal l h m c []) (hv : ∀ x, x ∈ h ↔ x = v ∨ x ∈ h') (hmin : ∀ x, x ∈ h → v.N ≤ x.N) (h0 : p.g l (vc v) < 0) :
    DI p goal (l.set (p.ix (vc v)) v.N) h' v.N (vc v) dirs ∧ p.g (l.set (p.ix (vc v)) v.N) (vc v) = v.N ∧ cnt (l.set (p.ix (vc v)) v.N) = cnt l + 1 := by
  obtain ⟨f1, f2, f3, f4⟩ := D.hge v ((hv v).2 (.inl rfl))
  have hm0 := D.m0
  have G : ∀ x, p.inP x → p.g (l.set (p.ix (vc v)) v.N) x = if x = vc v then v.N else p.g l x := fun x hx => g_set hp D.len f1.1 hx _
  have hcnt := cnt_set hp D.len f1.1 (v := v.N) (by omega)
  rw [if_neg (by omega)] at hcnt
  have old : ∀ x, p.inP x → 0 ≤ p.g l x → p.g (l.set (p.ix (vc v)) v.N) x = p.g l x := fun x hx hx0 => by
    rw [G x hx, if_neg (fun e => by rw [e] at hx0; omega)]
  refine ⟨⟨D.gf, by rw [List.length_set]; exact D.len, fun x hx => ?_, by omega, ?_, fun x hx => ?_, fun x hx => ?_, ?_, fun x hx d w hd hs hr => ?_, fun x hx hne hx0 => ?_⟩, by rw [G _ f1.1, if_pos rfl], hcnt⟩
  · rw [G x hx]
    split
    · omega
    · exact D.rng x hx
  · have := D.m1
    rw [hcnt]; omega
  · rw [G x hx]
    have := D.fin x hx
    split <;> omega
  · have hxh := (hv x).2 (.inr hx)
    obtain ⟨k1, k2, k3, k4⟩ := D.hge x hxh
    have := hmin x hxh
    refine ⟨k1, this, by omega, ?_⟩
    rcases k4 with k4 | ⟨u, d, w, a1, a2, a3, a4, a5⟩
    · exact .inl k4
    · exact .inr ⟨u, d, w, a1, a2, a3, by rw [old u (st_free a2).1.1 a4]; exact a4, by rw [old u (st_free a2).1.1 a4]; exact a5⟩
  · by_cases e : goal = vc v
    · left
      rw [G goal D.gf.1, if_pos e]
      rcases D.zero with g1 | ⟨g1, g2⟩
      · rw [e] at g1; omega
      · have := hmin _ g2
        simp only at this
        omega
    · rw [G goal D.gf.1, if_neg e]
      rcases D.zero with g1 | ⟨g1, g2⟩
      · exact .inl g1
      · rcases (hv _).1 g2 with e2 | e2
        · exact (e (by rw [← e2]; rfl)).elim
        · exact .inr ⟨g1, e2⟩
  · have hxin := (st_free hs).1.1
    have htin := (st_free hs).2.1
    by_cases e : x = vc v
    · exact (hr e hd).elim
    · rw [G x hxin, if_neg e] at hx ⊢
      rw [G _ htin]
      rcases D.edge x hx d w hd hs (fun _ => by simp) with a | ⟨a1, a2⟩
      · rw [if_neg (fun e => by rw [e] at a; omega)]
        exact .inl a
      · by_cases et : add x d = vc v
        · rw [if_pos et]
          have := hmin _ a2
          simp only at this
          exact .inl ⟨by omega, this⟩
        · rw [if_neg et]
          rcases (hv _).1 a2 with e2 | e2
          · exact (et (by rw [← e2]; rfl)).elim
          · exact .inr ⟨a1, e2⟩
  · rw [G x hx] at hx0 ⊢
    by_cases e : x = vc v
    · rw [if_pos e]
      rcases f4 with ⟨f4, _⟩ | ⟨u, d, w, a1, a2, a3, a4, a5⟩
      · exact (hne (e.trans f4)).elim
      · exact ⟨u, d, w, a1, a2, a3.trans e.symm, by rw [old u (st_free a2).1.1 a4]; exact a4, by rw [old u (st_free a2).1.1 a4]; exact a5⟩
    · rw [if_neg e] at hx0 ⊢
      obtain ⟨u, d, w, a1, a2, a3, a4, a5⟩ := D.pred x hx hne hx0
      exact ⟨u, d, w, a1, a2, a3, by rw [old u (st_free a2).1.1 a4]; exact a4, by rw [old u (st_free a2).1.1 a4]; exact a5⟩

/-- One neighbour: pushed, or looked at. -/
theorem DI.push {goal : Pt} {l : List Int} {h h' : List Vs} {m : Int} {c d : Pt} {rem : List Pt} {w : Int} (D : DI p goal l h m c (d :: rem)) (hd : d ∈ dirs) (hs : p.st c d = some w) (hm : p.g l c = m) (h0 : p.g l (add c d) < 0)
    (hv : ∀ x, x ∈ h' ↔ x = Vs.mk (add c d).X (add c d).Y (m + w) ∨ x ∈ h) : DI p goal l h' m c rem := by
  have hw := st_pos hs
  have hf := st_free hs
  have hm0 := D.m0
  refine ⟨D.gf, D.len, D.rng, D.m0, D.m1, D.fin, fun x hx => ?_, ?_, fun x hx d' w' hd' hs' hr => ?_, D.pred⟩
  · rcases (hv x).1 hx with rfl | hx
    · exact ⟨hf.2, by simp only; omega, by simp only; omega, .inr ⟨c, d, w, hd, hs, rfl, by omega, by simp only; omega⟩⟩
    · exact D.hge x hx
  · rcases D.zero with g1 | ⟨g1, g2⟩
    · exact .inl g1
    · exact .inr ⟨g1, (hv _).2 (.inr g2)⟩
  · by_cases hcc : x = c ∧ d' = d
    · obtain ⟨rfl, rfl⟩ := hcc
      rw [hs] at hs'
      cases hs'
      have := D.rng _ hf.2.1
      exact .inr ⟨by omega, (hv _).2 (.inl (by rw [hm]))⟩
    · rcases D.edge x hx d' w' hd' hs' (fun e hmm => by
        rcases List.mem_cons.1 hmm with hmm | hmm
        · exact hcc ⟨e, hmm⟩
        · exact hr e hmm) with a | ⟨a1, a2⟩
      · exact .inl a
      · exact .inr ⟨a1, (hv _).2 (.inr a2)⟩

theorem DI.pass {goal : Pt} {l : List Int} {h : List Vs} {m : Int} {c d : Pt} {rem : List Pt} (D : DI p goal l h m c (d :: rem)) (hm : p.g l c = m) (h0 : ∀ w, p.st c d = some w → 0 ≤ p.g l (add c d)) : DI p goal l h m c rem := by
  refine ⟨D.gf, D.len, D.rng, D.m0, D.m1, D.fin, D.hge, D.zero, fun x hx d' w' hd' hs' hr => ?_, D.pred⟩
  by_cases hcc : x = c ∧ d' = d
  · obtain ⟨rfl, rfl⟩ := hcc
    have h1 := h0 w' hs'
    have h2 := D.fin _ (st_free hs').2.1
    have := st_pos hs'
    exact .inl ⟨h1, by omega⟩
  · exact D.edge x hx d' w' hd' hs' (fun e hmm => by
      rcases List.mem_cons.1 hmm with hmm | hmm
      · exact hcc ⟨e, hmm⟩
      · exact hr e hmm)

theorem DI.done {goal : Pt} {l : List Int} {m : Int} {c : Pt} (D : DI p goal l [] m c []) : IsDist p goal l :=
  ⟨D.len, D.zero.elim id (fun g => by cases g.2), D.rng, fun x d w hd hs h0 => (by
    rcases D.edge x h0 d w hd hs (fun _ => by simp) with a | ⟨_, a⟩
    · exact a
    · cases a), D.pred⟩

theorem DI.bound (hp : p.Ok) {goal : Pt} {l : List Int} {h : List Vs} {m : Int} {c : Pt} {rem : List Pt} (D : DI p goal l h m c rem) : m ≤ 39600 := by
  have h1 := D.m1
  have h2 := cnt_le l
  have h3 := hp.few
  have h4 := D.len
  omega

end Pl
end Go.AE
