/-
  The rooms of a building, in plain Lean: cells that are joined; the numbers of the rooms; a flood.
-/
import Derived.Test.YthelgkjfdjnmeaaDoorSp
namespace Go.AE

/-- The sum of a function over a list. -/
def lsum (f : Int → Nat) (l : List Int) : Nat := (l.map f).sum
theorem lsum_set (f : Int → Nat) : ∀ (l : List Int) (i : Nat) (v : Int), i < l.length → lsum f (l.set i v) + f (l.getD i (-1)) = lsum f l + f v
  | [], i, v, h => absurd h (Nat.not_lt_zero i)
  | x :: l, 0, v, _ => by simp [lsum]; omega
  | x :: l, i + 1, v, h => by
    have := lsum_set f l i v (by simpa using h)
    simp [lsum] at this ⊢
    omega
theorem lsum_le1 (f : Int → Nat) (hf : ∀ x, f x ≤ 1) : ∀ l : List Int, lsum f l ≤ l.length
  | [] => by simp [lsum]
  | x :: l => by
    have h1 := lsum_le1 f hf l
    have h2 := hf x
    simp only [lsum, List.map_cons, List.sum_cons, List.length_cons] at h1 ⊢
    omega

namespace Pl
variable {p : Pl}

def four : List Pt := [⟨1, 0⟩, ⟨0, 1⟩, ⟨-1, 0⟩, ⟨0, -1⟩]
/-- Free neighbours with a common side. -/
def nb (p : Pl) (a b : Pt) : Prop := p.free a ∧ p.free b ∧ ∃ d, d ∈ four ∧ b = add a d
theorem nb_symm {a b : Pt} (h : p.nb a b) : p.nb b a := by
  obtain ⟨h1, h2, d, hd, rfl⟩ := h
  refine ⟨h2, h1, neg d, ?_, (add_neg a d).symm⟩
  simp only [four, List.mem_cons, List.not_mem_nil, or_false] at hd ⊢
  rcases hd with rfl | rfl | rfl | rfl <;> simp [neg]

/-- In one room. -/
inductive Conn (p : Pl) : Pt → Pt → Prop
  | refl {a : Pt} (h : p.free a) : Conn p a a
  | step {a b c : Pt} (h : Conn p a b) (k : p.nb b c) : Conn p a c

theorem Conn.free2 {a b : Pt} (h : p.Conn a b) : p.free a ∧ p.free b := by
  induction h with
  | refl h => exact ⟨h, h⟩
  | step _ k ih => exact ⟨ih.1, k.2.1⟩
theorem Conn.trans {a b c : Pt} (h : p.Conn a b) (k : p.Conn b c) : p.Conn a c := by
  induction k with
  | refl _ => exact h
  | step _ k ih => exact .step ih k
theorem Conn.symm {a b : Pt} (h : p.Conn a b) : p.Conn b a := by
  induction h with
  | refl h => exact .refl h
  | step _ k ih => exact Conn.trans (.step (.refl k.2.1) (nb_symm k)) ih

theorem cell_ix (hp : p.Ok) {c : Pt} (hc : p.inP c) : p.cellOf (p.ix c) = c := ix_inj (cellOf_in hp (ix_lt hp hc)) hc (ix_cellOf hp)

/-- The first cell of its room. -/
def lead (p : Pl) (i : Nat) : Prop := p.free (p.cellOf i) ∧ ∀ k, k < i → ¬ p.Conn (p.cellOf k) (p.cellOf i)
open Classical in
/-- How many rooms begin before. -/
noncomputable def rk (p : Pl) (i : Nat) : Nat := ((List.range i).filter fun j => decide (p.lead j)).length
theorem rk_yes {i : Nat} (h : p.lead i) : p.rk (i + 1) = p.rk i + 1 := by
  unfold rk
  rw [List.range_succ, List.filter_append]
  simp [h]
theorem rk_no {i : Nat} (h : ¬ p.lead i) : p.rk (i + 1) = p.rk i := by
  unfold rk
  rw [List.range_succ, List.filter_append]
  simp [h]
theorem rk_zero : p.rk 0 = 0 := rfl

theorem lead_of : ∀ (k : Nat) {c : Pt}, p.Conn (p.cellOf k) c → ∃ j, j ≤ k ∧ p.lead j ∧ p.Conn (p.cellOf j) c := by
  intro k
  induction k using Nat.strongRecOn with
  | _ k ih =>
    intro c h
    by_cases hl : p.lead k
    · exact ⟨k, Nat.le_refl _, hl, h⟩
    · have : ∃ m, m < k ∧ p.Conn (p.cellOf m) (p.cellOf k) := by
        apply Classical.byContradiction
        intro hn
        exact hl ⟨h.free2.1, fun m hm hc => hn ⟨m, hm, hc⟩⟩
      obtain ⟨m, hm, hc⟩ := this
      obtain ⟨j, j1, j2, j3⟩ := ih m hm (hc.trans h)
      exact ⟨j, by omega, j2, j3⟩

/-- The numbers of the rooms. -/
structure IsRooms (p : Pl) (l : List Int) : Prop where
  len : l.length = p.C.length
  wall : ∀ c, p.inP c → ¬ p.free c → p.g l c = -1
  room : ∀ k, p.lead k → ∀ c, p.Conn (p.cellOf k) c → p.g l c = (p.rk k : Int)

theorem IsRooms.unique (hp : p.Ok) {l m : List Int} (h : IsRooms p l) (k : IsRooms p m) : l = m := by
  apply List.ext_getElem (h.len.trans k.len.symm)
  intro i h1 h2
  have hi : i < p.C.length := by rw [← h.len]; exact h1
  have hc := cellOf_in hp hi
  have e1 : p.g l (p.cellOf i) = l[i] := by unfold g; rw [ix_cellOf hp, List.getD_eq_getElem?_getD, List.getElem?_eq_getElem h1]; rfl
  have e2 : p.g m (p.cellOf i) = m[i] := by unfold g; rw [ix_cellOf hp, List.getD_eq_getElem?_getD, List.getElem?_eq_getElem h2]; rfl
  rw [← e1, ← e2]
  by_cases hf : p.free (p.cellOf i)
  · obtain ⟨j, _, j2, j3⟩ := lead_of i (.refl hf)
    rw [h.room j j2 _ j3, k.room j j2 _ j3]
  · rw [h.wall _ hc hf, k.wall _ hc hf]

/-! ### The walk over all cells -/

structure OI (p : Pl) (l : List Int) (i : Nat) : Prop where
  len : l.length = p.C.length
  wall : ∀ c, p.inP c → ¬ p.free c → p.g l c = -1
  room : ∀ k, k < i → p.lead k → ∀ c, p.Conn (p.cellOf k) c → p.g l c = (p.rk k : Int)
  rest : ∀ c, p.free c → (∀ k, k < i → ¬ p.Conn (p.cellOf k) c) → p.g l c = -1

theorem OI.skip {l : List Int} {i : Nat} (h : OI p l i) (hn : ¬ p.lead i) : OI p l (i + 1) ∧ p.rk (i + 1) = p.rk i :=
  ⟨⟨h.len, h.wall, fun k hk hl c hc => by
    by_cases e : k = i
    · exact (hn (e ▸ hl)).elim
    · exact h.room k (by omega) hl c hc, fun c hc hk => h.rest c hc fun k hk2 => hk k (by omega)⟩, rk_no hn⟩

theorem OI.unfree {l : List Int} {i : Nat} (_ : OI p l i) (hf : ¬ p.free (p.cellOf i)) : ¬ p.lead i := fun h => hf h.1
theorem OI.seen {l : List Int} {i : Nat} (h : OI p l i) (h0 : 0 ≤ p.g l (p.cellOf i)) : ¬ p.lead i := fun hl => by
  have := h.rest _ hl.1 hl.2
  omega
theorem OI.new {l : List Int} {i : Nat} (h : OI p l i) (hf : p.free (p.cellOf i)) (h0 : p.g l (p.cellOf i) < 0) : p.lead i := by
  refine ⟨hf, fun k hk hc => ?_⟩
  obtain ⟨j, j1, j2, j3⟩ := lead_of k hc
  have := h.room j (by omega) j2 _ j3
  omega

theorem OI.done (hp : p.Ok) {l : List Int} (h : OI p l p.C.length) : IsRooms p l := by
  refine ⟨h.len, h.wall, fun k hl c hc => h.room k ?_ hl c hc⟩
  -- a cell of a plan has a number below the length
  have hin := hl.1.1
  apply Classical.byContradiction
  intro hk
  have h1 := ix_lt hp hin
  rw [ix_cellOf hp] at h1
  exact hk h1

/-! ### A flood -/

structure FI (p : Pl) (l0 : List Int) (r : Int) (c0 : Pt) (l : List Int) (S : List Pt) (c : Pt) (rem : List Pt) : Prop where
  len : l.length = p.C.length
  r0 : 0 ≤ r
  old : ∀ x, p.inP x → p.g l x = p.g l0 x ∨ (p.g l x = r ∧ p.Conn c0 x)
  base : ∀ x, p.Conn c0 x → p.g l0 x = -1
  seed : p.free c0 ∧ p.g l c0 = r
  q : ∀ x, x ∈ S → p.Conn c0 x
  cl : ∀ x y, p.Conn c0 x → p.g l x = r → x ∉ S → p.nb x y → (x = c → ∀ d ∈ rem, y ≠ add c d) → p.g l y = r

/-- Twice the cells without a number, and the list's length. -/
def fmu (l : List Int) (S : List Pt) : Nat := 2 * lsum (fun x => if x < 0 then 1 else 0) l + S.length

theorem FI.init (hp : p.Ok) {l : List Int} {i : Nat} (h : OI p l i) (hl : p.lead i) (r : Int) (hr : 0 ≤ r) : FI p l r (p.cellOf i) (l.set (p.ix (p.cellOf i)) r) [p.cellOf i] (p.cellOf i) [] := by
  have hin := hl.1.1
  have G : ∀ x, p.inP x → p.g (l.set (p.ix (p.cellOf i)) r) x = if x = p.cellOf i then r else p.g l x := fun x hx => g_set hp h.len hin hx _
  have base : ∀ x, p.Conn (p.cellOf i) x → p.g l x = -1 := fun x hx => h.rest x hx.free2.2 fun k hk hc => hl.2 k hk (hc.trans hx.symm)
  refine ⟨by rw [List.length_set]; exact h.len, hr, fun x hx => ?_, base, ⟨hl.1, by rw [G _ hin, if_pos rfl]⟩, fun x hx => by rw [List.mem_singleton.1 hx]; exact .refl hl.1, fun x y hx hg hS _ _ => ?_⟩
  · rw [G x hx]
    by_cases e : x = p.cellOf i
    · rw [if_pos e, e]; exact .inr ⟨rfl, .refl hl.1⟩
    · rw [if_neg e]; exact .inl rfl
  · have e : x ≠ p.cellOf i := fun e => hS (by simp [e])
    rw [G x hx.free2.2.1, if_neg e, base x hx] at hg
    omega

theorem FI.pop {l0 l : List Int} {r : Int} {c0 c c' : Pt} {S S' : List Pt} (h : FI p l0 r c0 l S c' []) (hv : ∀ x, x ∈ S ↔ x = c ∨ x ∈ S') : FI p l0 r c0 l S' c four ∧ p.Conn c0 c :=
  ⟨⟨h.len, h.r0, h.old, h.base, h.seed, fun x hx => h.q x ((hv x).2 (.inr hx)), fun x y hx hg hS hn hr => by
    by_cases e : x = c
    · obtain ⟨d, hd, hy⟩ := hn.2.2
      exact (hr e d hd (by rw [hy, e])).elim
    · exact h.cl x y hx hg (fun hm => ((hv x).1 hm).elim e hS) hn (fun _ d hd => by cases hd)⟩, h.q c ((hv c).2 (.inl rfl))⟩

theorem FI.pass {l0 l : List Int} {r : Int} {c0 c d : Pt} {S rem : List Pt} (h : FI p l0 r c0 l S c (d :: rem)) (hc : p.Conn c0 c) (hd : d ∈ four) (hn : ¬ (p.free (add c d) ∧ p.g l (add c d) < 0)) : FI p l0 r c0 l S c rem := by
  refine ⟨h.len, h.r0, h.old, h.base, h.seed, h.q, fun x y hx hg hS hnb hr => ?_⟩
  by_cases e : x = c ∧ y = add c d
  · obtain ⟨rfl, rfl⟩ := e
    have hcy : p.Conn c0 (add x d) := .step hc hnb
    rcases h.old _ hnb.2.1.1 with ho | ho
    · have := h.base _ hcy
      exact (hn ⟨hnb.2.1, by omega⟩).elim
    · exact ho.1
  · exact h.cl x y hx hg hS hnb (fun hxc d' hd' => by
      rcases List.mem_cons.1 hd' with rfl | hd'
      · exact fun hy => e ⟨hxc, hy⟩
      · exact hr hxc d' hd')

theorem FI.push (hp : p.Ok) {l0 l : List Int} {r : Int} {c0 c d : Pt} {S S' rem : List Pt} (h : FI p l0 r c0 l S c (d :: rem)) (hc : p.Conn c0 c) (hd : d ∈ four) (hf : p.free (add c d)) (h0 : p.g l (add c d) < 0) (hv : ∀ x, x ∈ S' ↔ x ∈ S ∨ x = add c d) :
    FI p l0 r c0 (l.set (p.ix (add c d)) r) S' c rem := by
  have hin := hf.1
  have G : ∀ x, p.inP x → p.g (l.set (p.ix (add c d)) r) x = if x = add c d then r else p.g l x := fun x hx => g_set hp h.len hin hx _
  have hr := h.r0
  have hcd : p.Conn c0 (add c d) := .step hc ⟨hc.free2.2, hf, d, hd, rfl⟩
  refine ⟨by rw [List.length_set]; exact h.len, hr, fun x hx => ?_, h.base, ⟨h.seed.1, ?_⟩, fun x hx => ?_, fun x y hx hg hS hnb hrem => ?_⟩
  · rw [G x hx]
    by_cases e : x = add c d
    · rw [if_pos e]; exact .inr ⟨rfl, e ▸ hcd⟩
    · rw [if_neg e]; exact h.old x hx
  · rw [G _ h.seed.1.1]
    split
    · rfl
    · exact h.seed.2
  · rcases (hv x).1 hx with hx | rfl
    · exact h.q x hx
    · exact hcd
  · have hxS : x ∉ S := fun hm => hS ((hv x).2 (.inl hm))
    have hxe : x ≠ add c d := fun e => hS ((hv x).2 (.inr e))
    rw [G x hx.free2.2.1, if_neg hxe] at hg
    rw [G y hnb.2.1.1]
    by_cases e : y = add c d
    · rw [if_pos e]
    · rw [if_neg e]
      exact h.cl x y hx hg hxS hnb (fun hxc d' hd' => by
        rcases List.mem_cons.1 hd' with rfl | hd'
        · exact e
        · exact hrem hxc d' hd')

theorem FI.mu (hp : p.Ok) {l : List Int} (hl : l.length = p.C.length) {x : Pt} (hx : p.inP x) (h0 : p.g l x < 0) {r : Int} (hr : 0 ≤ r) : lsum (fun x => if x < 0 then 1 else 0) (l.set (p.ix x) r) + 1 = lsum (fun x => if x < 0 then 1 else 0) l := by
  have := lsum_set (fun x => if x < 0 then 1 else 0) l (p.ix x) r (by rw [hl]; exact ix_lt hp hx)
  have hg : l.getD (p.ix x) (-1) = p.g l x := rfl
  rw [hg] at this
  rw [if_pos h0, if_neg (by omega)] at this
  omega

/-- A flood has reached the whole room, and nothing else. -/
theorem FI.done {l0 l : List Int} {r : Int} {c0 c : Pt} (h : FI p l0 r c0 l [] c []) : (∀ x, p.Conn c0 x → p.g l x = r) ∧ ∀ x, p.inP x → ¬ p.Conn c0 x → p.g l x = p.g l0 x := by
  refine ⟨fun x hx => ?_, fun x hx hn => ?_⟩
  · induction hx with
    | refl _ => exact h.seed.2
    | step hx k ih => exact h.cl _ _ hx ih (by simp) k (fun _ d hd => by cases hd)
  · rcases h.old x hx with ho | ho
    · exact ho
    · exact (hn ho.2).elim

theorem OI.flood {l l' : List Int} {i : Nat} {c : Pt} (h : OI p l i) (hl : p.lead i) (hf : FI p l (p.rk i : Int) (p.cellOf i) l' [] c []) : OI p l' (i + 1) ∧ p.rk (i + 1) = p.rk i + 1 := by
  obtain ⟨h1, h2⟩ := hf.done
  refine ⟨⟨hf.len, fun x hx hn => ?_, fun k hk hlk x hx => ?_, fun x hx hn => ?_⟩, rk_yes hl⟩
  · rw [h2 x hx (fun hc => hn hc.free2.2)]; exact h.wall x hx hn
  · by_cases e : k = i
    · subst e; exact h1 x hx
    · have hki : k < i := by omega
      rw [h2 x hx.free2.2.1 (fun hc => hl.2 k hki (hx.trans hc.symm))]
      exact h.room k hki hlk x hx
  · rw [h2 x hx.1 (hn i (by omega))]
    exact h.rest x hx fun k hk => hn k (by omega)

end Pl
end Go.AE
