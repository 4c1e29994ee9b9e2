/-
  The chapter Repair in plain Lean, part 1: costs that are mended where a cell changes.
-/
import Derived.Test.YtmhbjgelllhnbaaQP7
namespace Go.AE
namespace Pl
variable {p : Pl}

/-- Neighbours, and the cell itself. -/
def adj (c b : Pt) : Prop := -1 ≤ b.X - c.X ∧ b.X - c.X ≤ 1 ∧ -1 ≤ b.Y - c.Y ∧ b.Y - c.Y ≤ 1
theorem adj_symm {a b : Pt} (h : adj a b) : adj b a := by unfold adj at *; omega
/-- A list of the cells around one. -/
structure Ar (p : Pl) (c : Pt) (A : List Pt) : Prop where
  few : A.length ≤ 9
  mem : ∀ b, b ∈ A ↔ p.inP b ∧ adj c b

theorem stp_adj {a b : Pt} {w : Int} (h : p.stp a b = some w) : adj a b ∧ a ≠ b := by
  obtain ⟨d, h1, h2, h3⟩ := stp_st h
  have hs := dirs_small h1
  subst h3
  refine ⟨?_, fun e => dirs_ne h1 e.symm⟩
  unfold adj add
  simp only
  omega

/-! ### Mending downwards -/

def rj1 (p : Pl) (c : Pt) (s : List Int × List Pt) (d : Pt) : List Int × List Pt := match p.stp c d with
  | some w => if p.g s.1 d < 0 ∨ p.g s.1 c + w < p.g s.1 d then (s.1.set (p.ix d) (p.g s.1 c + w), s.2 ++ [d]) else s
  | none => s

structure RJ (p : Pl) (goal : Pt) (l : List Int) (Q : List Pt) (c : Pt) (rem : List Pt) : Prop where
  gf : p.free goal
  len : l.length = p.C.length
  zero : p.g l goal = 0
  rng : ∀ x, p.inP x → -1 ≤ p.g l x
  top : ∀ x, p.inP x → p.g l x + 99 ≤ 99 * (cnt l : Int)
  pred : ∀ x, p.inP x → x ≠ goal → 0 ≤ p.g l x → ∃ u w, p.stp u x = some w ∧ 0 ≤ p.g l u ∧ p.g l u + w ≤ p.g l x
  edge : ∀ a b w, p.stp a b = some w → 0 ≤ p.g l a → a ∉ Q → (a = c → b ∉ rem) → 0 ≤ p.g l b ∧ p.g l b ≤ p.g l a + w
  qin : ∀ x, x ∈ Q → p.inP x

theorem RJ.top2 (hp : p.Ok) {goal : Pt} {l : List Int} {Q : List Pt} {c : Pt} {rem : List Pt} (h : RJ p goal l Q c rem) {x : Pt} (hx : p.inP x) : p.g l x ≤ 39501 := by
  have h1 := h.top x hx
  have h2 := cnt_le l
  have h3 := hp.few
  have h4 := h.len
  omega

theorem RJ.free {goal : Pt} {l : List Int} {Q : List Pt} {c : Pt} {rem : List Pt} (h : RJ p goal l Q c rem) {x : Pt} (hx : p.inP x) (h0 : 0 ≤ p.g l x) : p.free x := by
  by_cases e : x = goal
  · rw [e]; exact h.gf
  · obtain ⟨u, w, h1, _⟩ := h.pred x hx e h0
    exact (stp_free h1).2

theorem RJ.pop0 {goal : Pt} {l : List Int} {Q : List Pt} {c c' : Pt} (h : RJ p goal l (c :: Q) c' []) (h0 : p.g l c < 0) : RJ p goal l Q c' [] ∧ rmu l Q + 1 = rmu l (c :: Q) :=
  ⟨⟨h.gf, h.len, h.zero, h.rng, h.top, h.pred, fun a b w hs ha hq _ => h.edge a b w hs ha (fun hm => (List.mem_cons.1 hm).elim (fun e => by rw [e] at ha; omega) hq) (fun _ => by simp), fun x hx => h.qin x (List.mem_cons_of_mem _ hx)⟩, by simp only [rmu, List.length_cons]; omega⟩

theorem RJ.pop {goal : Pt} {l : List Int} {Q A : List Pt} {c c' : Pt} (h : RJ p goal l (c :: Q) c' []) (hA : Ar p c A) (h0 : 0 ≤ p.g l c) : RJ p goal l Q c A ∧ p.free c ∧ rmu l Q + 1 = rmu l (c :: Q) := by
  refine ⟨⟨h.gf, h.len, h.zero, h.rng, h.top, h.pred, fun a b w hs ha hq hr => ?_, fun x hx => h.qin x (List.mem_cons_of_mem _ hx)⟩, h.free (h.qin c (List.mem_cons_self ..)) h0, by simp only [rmu, List.length_cons]; omega⟩
  by_cases e : a = c
  · subst e
    exact (hr rfl ((hA.mem b).2 ⟨(stp_free hs).2.1, (stp_adj hs).1⟩)).elim
  · exact h.edge a b w hs ha (fun hm => (List.mem_cons.1 hm).elim e hq) (fun _ => by simp)

theorem RJ.step (hp : p.Ok) {goal : Pt} {l : List Int} {Q : List Pt} {c d : Pt} {rem : List Pt} (h : RJ p goal l Q c (d :: rem)) (hc : p.free c) (hc0 : 0 ≤ p.g l c) :
    RJ p goal (rj1 p c (l, Q) d).1 (rj1 p c (l, Q) d).2 c rem ∧ p.g (rj1 p c (l, Q) d).1 c = p.g l c ∧ rmu (rj1 p c (l, Q) d).1 (rj1 p c (l, Q) d).2 ≤ rmu l Q := by
  have skip : (∀ w, p.stp c d = some w → 0 ≤ p.g l d ∧ p.g l d ≤ p.g l c + w) → RJ p goal l Q c rem := fun hk =>
    ⟨h.gf, h.len, h.zero, h.rng, h.top, h.pred, fun a b w hs ha hq hr => by
      by_cases hcc : a = c ∧ b = d
      · obtain ⟨rfl, rfl⟩ := hcc
        exact hk w hs
      · exact h.edge a b w hs ha hq (fun e hm => (List.mem_cons.1 hm).elim (fun e2 => hcc ⟨e, e2⟩) (hr e)), h.qin⟩
  cases hs : p.stp c d with
  | none =>
    have e : rj1 p c (l, Q) d = (l, Q) := by simp only [rj1, hs]
    rw [e]
    exact ⟨skip (fun w hw => by rw [hs] at hw; cases hw), rfl, Nat.le_refl _⟩
  | some w =>
    have hw := stp_pos hs
    have hf := stp_free hs
    by_cases hi : p.g l d < 0 ∨ p.g l c + w < p.g l d
    · have e : rj1 p c (l, Q) d = (l.set (p.ix d) (p.g l c + w), Q ++ [d]) := by simp only [rj1, hs, hi, if_true]
      rw [e]
      simp only
      have hdin : p.inP d := hf.2.1
      have hne : d ≠ c := fun e => (stp_adj hs).2 e.symm
      have hgt : d ≠ goal := by intro e; rw [e, h.zero] at hi; omega
      have G : ∀ x, p.inP x → p.g (l.set (p.ix d) (p.g l c + w)) x = if x = d then p.g l c + w else p.g l x := fun x hx => g_set hp h.len hdin hx _
      have hcnt := cnt_set hp h.len hdin (v := p.g l c + w) (by omega)
      have htop := h.top c hc.1
      have htop2 := h.top2 hp hc.1
      have hGc : p.g (l.set (p.ix d) (p.g l c + w)) c = p.g l c := by rw [G c hc.1, if_neg (fun e => hne e.symm)]
      refine ⟨⟨h.gf, by rw [List.length_set]; exact h.len, ?_, fun x hx => ?_, fun x hx => ?_, fun x hx hxg h0 => ?_, fun a b w' hs' ha hq hr => ?_, fun x hx => ?_⟩, hGc, ?_⟩
      · rw [G goal h.gf.1, if_neg (fun e => hgt e.symm)]; exact h.zero
      · rw [G x hx]
        split
        · omega
        · exact h.rng x hx
      · rw [G x hx, hcnt]
        have h1 := h.top x hx
        have h2 := h.top d hdin
        split <;> split <;> omega
      · rw [G x hx] at h0 ⊢
        by_cases e : x = d
        · subst e
          rw [if_pos rfl]
          exact ⟨c, w, hs, by rw [hGc]; exact hc0, by rw [hGc]; omega⟩
        · rw [if_neg e] at h0 ⊢
          obtain ⟨u, w', a1, a2, a3⟩ := h.pred x hx hxg h0
          refine ⟨u, w', a1, ?_⟩
          rw [G u (stp_free a1).1.1]
          split
          · rename_i hu
            subst hu
            omega
          · exact ⟨a2, a3⟩
      · have hain := (stp_free hs').1.1
        have had : a ≠ d := fun e => hq (List.mem_append_right _ (by simp [e]))
        have haQ : a ∉ Q := fun hm => hq (List.mem_append_left _ hm)
        rw [G a hain, if_neg had] at ha ⊢
        rw [G b (stp_free hs').2.1]
        by_cases hcc : a = c ∧ b = d
        · obtain ⟨rfl, rfl⟩ := hcc
          rw [hs] at hs'
          cases hs'
          rw [if_pos rfl]
          omega
        · have old := h.edge a b w' hs' ha haQ (fun e hm => (List.mem_cons.1 hm).elim (fun e2 => hcc ⟨e, e2⟩) (hr e))
          split
          · rename_i hb
            rw [hb] at old
            omega
          · exact old
      · rcases List.mem_append.1 hx with hx | hx
        · exact h.qin x hx
        · rw [List.mem_singleton.1 hx]; exact hdin
      · have := lsum_set (fun x => if 0 ≤ x then x.toNat else 50000) l (p.ix d) (p.g l c + w) (by rw [h.len]; exact ix_lt hp hdin)
        unfold rmu
        have hgd : l.getD (p.ix d) (-1) = p.g l d := rfl
        rw [hgd] at this
        rw [if_pos (show 0 ≤ p.g l c + w by omega)] at this
        simp only [List.length_append, List.length_singleton]
        split at this <;> omega
    · have e : rj1 p c (l, Q) d = (l, Q) := by simp only [rj1, hs, hi, if_false]
      rw [e]
      exact ⟨skip (fun w' hw' => by rw [hs] at hw'; cases hw'; omega), rfl, Nat.le_refl _⟩

theorem RJ.done {goal : Pt} {l : List Int} {c : Pt} (h : RJ p goal l [] c []) : IsDist p goal l :=
  ⟨h.len, h.zero, h.rng, fun c d w hd hs h0 => h.edge c (add c d) w (by rw [stp_add hd]; exact hs) h0 (by simp) (fun _ => by simp), fun c hc hne h0 => by
    obtain ⟨u, w, a1, a2, a3⟩ := h.pred c hc hne h0
    have := (h.edge u c w a1 a2 (by simp) (fun _ => by simp)).2
    obtain ⟨d, d1, d2, d3⟩ := stp_st a1
    exact ⟨u, d, w, d1, d2, d3, a2, by omega⟩⟩

/-- Costs that are held have a bound. -/
theorem held_top (hp : p.Ok) {goal : Pt} {l : List Int} (hl : l.length = p.C.length) (hg : p.inP goal) (hz : p.g l goal = 0) (hr : ∀ x, p.inP x → -1 ≤ p.g l x)
    (hh : ∀ x, p.inP x → x ≠ goal → 0 ≤ p.g l x → ∃ u w, p.stp u x = some w ∧ 0 ≤ p.g l u ∧ p.g l u + w = p.g l x) {x : Pt} (hx : p.inP x) : p.g l x + 99 ≤ 99 * (cnt l : Int) := by
  have key : ∀ (n : Nat) (c : Pt), p.inP c → p.g l c = (n : Int) → n ≤ 99 * l.countP (fun x => decide (0 ≤ x ∧ x < (n : Int))) := by
    intro n
    induction n using Nat.strongRecOn with
    | _ n ih =>
      intro c hc hn
      by_cases hg : c = goal
      · subst hg
        omega
      · obtain ⟨u, w, h2, h3, h4⟩ := hh c hc hg (by omega)
        have hw := stp_pos h2
        have hf := (stp_free h2).1.1
        have k := ih (p.g l u).toNat (by omega) _ hf (by omega)
        have hm : p.g l u ∈ l := List.mem_of_getElem? (g_get hp hl hf)
        have := countP_lt l (n := (n : Int)) hm h3 (by omega)
        have e : (((p.g l u).toNat : Nat) : Int) = p.g l u := by omega
        rw [e] at k
        omega
  have more : ∀ (l : List Int) (v : Int), 0 ≤ v → v ∈ l → l.countP (fun x => decide (0 ≤ x ∧ x < v)) + 1 ≤ cnt l := by
    intro l
    induction l with
    | nil => intro v _ h; cases h
    | cons y l ih =>
      intro v h0 hm
      have le : l.countP (fun x => decide (0 ≤ x ∧ x < v)) ≤ cnt l := by
        clear ih hm
        induction l with
        | nil => simp
        | cons z l ih2 =>
          rw [List.countP_cons]
          simp only [cnt, lsum, List.map_cons, List.sum_cons] at ih2 ⊢
          by_cases hz : 0 ≤ z
          · rw [if_pos hz]; split <;> omega
          · have : decide (0 ≤ z ∧ z < v) = false := by simp; omega
            rw [this, if_neg hz]
            simp only [Bool.false_eq_true, if_false]; omega
      rw [List.countP_cons]
      have hc : cnt (y :: l) = (if 0 ≤ y then 1 else 0) + cnt l := by simp [cnt, lsum]
      rw [hc]
      rcases List.mem_cons.1 hm with rfl | hm
      · have : decide (0 ≤ v ∧ v < v) = false := by simp
        rw [this, if_pos h0]
        simp only [Bool.false_eq_true, if_false]; omega
      · have := ih v h0 hm
        by_cases hy : 0 ≤ y
        · rw [if_pos hy]; split <;> omega
        · have e : decide (0 ≤ y ∧ y < v) = false := by simp; omega
          rw [e, if_neg hy]
          simp only [Bool.false_eq_true, if_false]; omega
  have g0 := more l 0 (by omega) (by rw [← hz]; exact List.mem_of_getElem? (g_get hp hl hg))
  by_cases q : 0 ≤ p.g l x
  · have k := key (p.g l x).toNat x hx (by omega)
    have k2 := more l (p.g l x) q (List.mem_of_getElem? (g_get hp hl hx))
    have e : (((p.g l x).toNat : Nat) : Int) = p.g l x := by omega
    rw [e] at k
    omega
  · have := hr x hx
    omega

/-! ### A cell that changes -/

/-- One plan has the steps of another, but near a cell. -/
structure Near (p q : Pl) (z : Pt) : Prop where
  w : q.W = p.W
  h : q.H = p.H
  len : q.C.length = p.C.length
  fr : ∀ x, x ≠ z → (q.free x ↔ p.free x)

theorem Near.inP {q : Pl} {z x : Pt} (h : Near p q z) : q.inP x ↔ p.inP x := by unfold Pl.inP; rw [h.w, h.h]
theorem Near.ix {q : Pl} {z x : Pt} (h : Near p q z) : q.ix x = p.ix x := by unfold Pl.ix; rw [h.w]
theorem Near.g {q : Pl} {z x : Pt} {l : List Int} (h : Near p q z) : q.g l x = p.g l x := by unfold Pl.g; rw [h.ix]
theorem Near.symm {q : Pl} {z : Pt} (h : Near p q z) : Near q p z := ⟨h.w.symm, h.h.symm, h.len.symm, fun x hx => (h.fr x hx).symm⟩

/-- A step that does not end near the cell stays. -/
theorem Near.stp {q : Pl} {z a b : Pt} {w : Int} (h : Near p q z) (hs : p.stp a b = some w) (hb : ¬ adj z b) : q.stp a b = some w := by
  have ha := stp_adj hs
  unfold Pl.stp at hs ⊢
  split at hs
  · rename_i hd
    rw [if_pos hd]
    have hds := dirs_small hd
    simp only at hds
    unfold adj at hb ha
    have ne : ∀ c : Pt, -1 ≤ b.X - c.X ∧ b.X - c.X ≤ 1 ∧ -1 ≤ b.Y - c.Y ∧ b.Y - c.Y ≤ 1 → c ≠ z := fun c hc e => by rw [e] at hc; exact hb hc
    have hf := st_free hs
    rw [add_sub] at hf
    unfold Pl.st at hs ⊢
    rw [add_sub] at hs ⊢
    rw [if_pos hf] at hs
    rw [if_pos ⟨(h.fr a (ne a (by omega))).2 hf.1, (h.fr b (ne b (by omega))).2 hf.2⟩]
    split at hs
    · rename_i h0; rw [if_pos h0]; exact hs
    · rename_i h0
      rw [if_neg h0]
      split at hs
      · rename_i h1
        rw [if_pos ⟨(h.fr _ (ne _ (by simp only; omega))).2 h1.1, (h.fr _ (ne _ (by simp only; omega))).2 h1.2⟩]; exact hs
      · cases hs
  · cases hs

/-- What is to be mended when a cell becomes free. -/
theorem RJ.opened {q : Pl} (hq : q.Ok) {goal z : Pt} {l : List Int} {A : List Pt} (h : Near p q z) (hz : ∀ x, p.free x → q.free x) (hs : ∀ a b w, p.stp a b = some w → q.stp a b = some w) (hd : IsDist p goal l) (hg : p.free goal) (hA : Ar q z A) (c : Pt) : RJ q goal l A c [] := by
  have pr : ∀ x, q.inP x → x ≠ goal → 0 ≤ q.g l x → ∃ u w, q.stp u x = some w ∧ 0 ≤ q.g l u ∧ q.g l u + w = q.g l x := fun x hx hne h0 => by
    rw [h.g] at h0 ⊢
    obtain ⟨u, d, w, a1, a2, a3, a4, a5⟩ := hd.pred x (h.inP.1 hx) hne h0
    refine ⟨u, w, hs u x w (by rw [← a3, stp_add a1]; exact a2), by rw [h.g]; exact a4, by rw [h.g]; omega⟩
  have zero : q.g l goal = 0 := by rw [h.g]; exact hd.zero
  have rng : ∀ x, q.inP x → -1 ≤ q.g l x := fun x hx => by rw [h.g]; exact hd.rng x (h.inP.1 hx)
  have len : l.length = q.C.length := by rw [h.len]; exact hd.len
  refine ⟨hz _ hg, len, zero, rng, fun x hx => held_top hq len (h.inP.2 hg.1) zero rng pr hx, fun x hx hne h0 => ?_, fun a b w hst ha hm _ => ?_, fun x hx => ((hA.mem x).1 hx).1⟩
  · obtain ⟨u, w, a1, a2, a3⟩ := pr x hx hne h0
    exact ⟨u, w, a1, a2, by omega⟩
  · have hna : ¬ adj z a := fun e => hm ((hA.mem a).2 ⟨(stp_free hst).1.1, e⟩)
    have hps := stp_symm (h.symm.stp (stp_symm hst) hna)
    rw [h.g] at ha ⊢
    rw [h.g]
    obtain ⟨d, d1, d2, d3⟩ := stp_st hps
    have := hd.edge a d w d1 d2 ha
    rw [d3] at this
    exact this

/-! ### Costs that no longer hold -/

structure RK (p : Pl) (goal : Pt) (l0 l : List Int) (Q B : List Pt) : Prop where
  gf : p.free goal
  len : l.length = p.C.length
  zero : p.g l goal = 0
  sub : ∀ x, p.inP x → p.g l x = -1 ∨ p.g l x = p.g l0 x
  rng : ∀ x, p.inP x → -1 ≤ p.g l x
  old : ∀ a b w, p.stp a b = some w → 0 ≤ p.g l0 a → p.g l0 b ≤ p.g l0 a + w
  held : ∀ x, p.inP x → x ≠ goal → 0 ≤ p.g l x → x ∈ Q ∨ ∃ u w, p.stp u x = some w ∧ 0 ≤ p.g l u ∧ p.g l u + w = p.g l x
  bord : ∀ a b w, p.stp a b = some w → 0 ≤ p.g l a → p.g l b < 0 → a ∈ B
  qin : ∀ x, x ∈ Q → p.inP x
  bin : ∀ x, x ∈ B → p.inP x

/-- Twenty times the cells with a cost, and the list's length. -/
def kmu (l : List Int) (Q : List Pt) : Nat := 20 * cnt l + Q.length

theorem RK.skip {goal : Pt} {l0 l : List Int} {Q B : List Pt} {x : Pt} (h : RK p goal l0 l (x :: Q) B) (hx : x = goal ∨ p.g l x < 0 ∨ ∃ u w, p.stp u x = some w ∧ 0 ≤ p.g l u ∧ p.g l u + w = p.g l x) : RK p goal l0 l Q B ∧ kmu l Q + 1 = kmu l (x :: Q) := by
  refine ⟨⟨h.gf, h.len, h.zero, h.sub, h.rng, h.old, fun y hy hne h0 => ?_, h.bord, fun y hy => h.qin y (List.mem_cons_of_mem _ hy), h.bin⟩, by simp only [kmu, List.length_cons]; omega⟩
  rcases h.held y hy hne h0 with hm | hu
  · rcases List.mem_cons.1 hm with rfl | hm
    · rcases hx with e | e | e
      · exact (hne e).elim
      · omega
      · exact .inr e
    · exact .inl hm
  · exact .inr hu

theorem cnt_off (hp : p.Ok) {l : List Int} (hl : l.length = p.C.length) {c : Pt} (hc : p.inP c) (h0 : 0 ≤ p.g l c) : cnt (l.set (p.ix c) (-1)) + 1 = cnt l := by
  have := lsum_set (fun x => if 0 ≤ x then 1 else 0) l (p.ix c) (-1) (by rw [hl]; exact ix_lt hp hc)
  have hg : l.getD (p.ix c) (-1) = p.g l c := rfl
  unfold cnt
  rw [hg, if_pos h0, if_neg (by omega)] at this
  omega

theorem RK.reset (hp : p.Ok) {goal : Pt} {l0 l : List Int} {Q B A : List Pt} {x : Pt} (h : RK p goal l0 l (x :: Q) B) (hA : Ar p x A) (hg : x ≠ goal) (h0 : 0 ≤ p.g l x) :
    RK p goal l0 (l.set (p.ix x) (-1)) (Q ++ A) (B ++ A) ∧ kmu (l.set (p.ix x) (-1)) (Q ++ A) + 1 ≤ kmu l (x :: Q) := by
  have hx := h.qin x (List.mem_cons_self ..)
  have G : ∀ y, p.inP y → p.g (l.set (p.ix x) (-1)) y = if y = x then -1 else p.g l y := fun y hy => g_set hp h.len hx hy _
  have hc := cnt_off hp h.len hx h0
  refine ⟨⟨h.gf, by rw [List.length_set]; exact h.len, ?_, fun y hy => ?_, fun y hy => ?_, h.old, fun y hy hne hy0 => ?_, fun a b w hs ha hb => ?_, fun y hy => ?_, fun y hy => ?_⟩, ?_⟩
  · rw [G goal h.gf.1, if_neg (fun e => hg e.symm)]; exact h.zero
  · rw [G y hy]; split
    · exact .inl rfl
    · exact h.sub y hy
  · rw [G y hy]; split
    · omega
    · exact h.rng y hy
  · rw [G y hy] at hy0 ⊢
    by_cases e : y = x
    · rw [if_pos e] at hy0; omega
    · rw [if_neg e] at hy0 ⊢
      rcases h.held y hy hne hy0 with hm | ⟨u, w, a1, a2, a3⟩
      · rcases List.mem_cons.1 hm with hm | hm
        · exact (e hm).elim
        · exact .inl (List.mem_append_left _ hm)
      · by_cases eu : u = x
        · subst eu
          exact .inl (List.mem_append_right _ ((hA.mem y).2 ⟨hy, (stp_adj a1).1⟩))
        · right
          refine ⟨u, w, a1, ?_⟩
          rw [G u (stp_free a1).1.1, if_neg eu]
          exact ⟨a2, a3⟩
  · rw [G a (stp_free hs).1.1] at ha
    rw [G b (stp_free hs).2.1] at hb
    by_cases e : b = x
    · subst e
      exact List.mem_append_right _ ((hA.mem a).2 ⟨(stp_free hs).1.1, adj_symm (stp_adj hs).1⟩)
    · rw [if_neg e] at hb
      by_cases e2 : a = x
      · rw [if_pos e2] at ha; omega
      · rw [if_neg e2] at ha
        exact List.mem_append_left _ (h.bord a b w hs ha hb)
  · rcases List.mem_append.1 hy with hy | hy
    · exact h.qin y (List.mem_cons_of_mem _ hy)
    · exact ((hA.mem y).1 hy).1
  · rcases List.mem_append.1 hy with hy | hy
    · exact h.bin y hy
    · exact ((hA.mem y).1 hy).1
  · have := hA.few
    simp only [kmu, List.length_append, List.length_cons]
    omega

theorem RK.done (hp : p.Ok) {goal : Pt} {l0 l : List Int} {B : List Pt} (h : RK p goal l0 l [] B) (c : Pt) : RJ p goal l B c [] := by
  have pr : ∀ x, p.inP x → x ≠ goal → 0 ≤ p.g l x → ∃ u w, p.stp u x = some w ∧ 0 ≤ p.g l u ∧ p.g l u + w = p.g l x := fun x hx hne h0 => by
    rcases h.held x hx hne h0 with hm | hu
    · cases hm
    · exact hu
  refine ⟨h.gf, h.len, h.zero, h.rng, fun x hx => held_top hp h.len h.gf.1 h.zero h.rng pr hx, fun x hx hne h0 => ?_, fun a b w hs ha hm _ => ?_, h.bin⟩
  · obtain ⟨u, w, a1, a2, a3⟩ := pr x hx hne h0
    exact ⟨u, w, a1, a2, by omega⟩
  · have hb : 0 ≤ p.g l b := by
      have : ¬ p.g l b < 0 := fun hb => hm (h.bord a b w hs ha hb)
      omega
    refine ⟨hb, ?_⟩
    rcases h.sub a (stp_free hs).1.1 with e | e
    · omega
    · rcases h.sub b (stp_free hs).2.1 with e2 | e2
      · omega
      · have := h.old a b w hs (by omega)
        omega

/-- What no longer holds when a cell becomes a wall. -/
theorem RK.closed {q : Pl} {goal z : Pt} {l : List Int} {A : List Pt} (h : Near p q z) (hs : ∀ a b w, q.stp a b = some w → p.stp a b = some w) (hd : IsDist p goal l) (hg : q.free goal) (hA : Ar q z A) : RK q goal l l A [] := by
  refine ⟨hg, by rw [h.len]; exact hd.len, by rw [h.g]; exact hd.zero, fun x _ => .inr rfl, fun x hx => by rw [h.g]; exact hd.rng x (h.inP.1 hx), fun a b w hst ha => ?_, fun x hx hne h0 => ?_, fun a b w hst ha hb => ?_, fun x hx => ((hA.mem x).1 hx).1, fun x hx => by cases hx⟩
  · rw [h.g] at ha ⊢
    rw [h.g]
    obtain ⟨d, d1, d2, d3⟩ := stp_st (hs a b w hst)
    have := hd.edge a d w d1 d2 ha
    rw [d3] at this
    exact this.2
  · rw [h.g] at h0 ⊢
    obtain ⟨u, d, w, a1, a2, a3, a4, a5⟩ := hd.pred x (h.inP.1 hx) hne h0
    have hps : p.stp u x = some w := by rw [← a3, stp_add a1]; exact a2
    by_cases hz : adj z x
    · exact .inl ((hA.mem x).2 ⟨hx, hz⟩)
    · exact .inr ⟨u, w, h.stp hps hz, by rw [h.g]; exact a4, by rw [h.g]; omega⟩
  · rw [h.g] at ha hb
    obtain ⟨d, d1, d2, d3⟩ := stp_st (hs a b w hst)
    have := hd.edge a d w d1 d2 ha
    rw [d3] at this
    omega

end Pl
end Go.AE
