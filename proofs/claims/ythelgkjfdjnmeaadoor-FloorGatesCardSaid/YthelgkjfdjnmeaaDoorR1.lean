/-
  Mazes in plain Lean: a plan whose free cells grow by a corridor and a chamber at a time; it stays one room, a tree.
-/
import Derived.Test.YthelgkjfdjnmeaaDoorM
namespace Go.AE
namespace Pl
variable {p : Pl}

def odd2 (c : Pt) : Prop := c.X % 2 = 1 ∧ c.Y % 2 = 1
def gat (c : Pt) : Prop := (c.X + c.Y) % 2 = 1
instance (c : Pt) : Decidable (odd2 c) := by unfold odd2; infer_instance
instance (c : Pt) : Decidable (gat c) := by unfold gat; infer_instance
def put (p : Pl) (c : Pt) (v : Int) : Pl := ⟨p.W, p.H, p.C.set (p.ix c) v⟩
def add2 (c d : Pt) : Pt := ⟨c.X + 2 * d.X, c.Y + 2 * d.Y⟩
def two (p : Pl) : Prop := ∀ x ∈ p.C, x = 1 ∨ x = 2

theorem put_ok (hp : p.Ok) {c : Pt} {v : Int} (hv : v ≤ 2) : (p.put c v).Ok := by
  refine ⟨hp.w1, hp.w2, hp.h1, hp.h2, by show ((p.C.set _ _).length : Int) = _; rw [List.length_set]; exact hp.len, by show (p.C.set _ _).length ≤ _; rw [List.length_set]; exact hp.few, fun x hx => ?_⟩
  rcases List.mem_or_eq_of_mem_set hx with h | h
  · exact hp.cells x h
  · omega
theorem put_two (hp : p.two) {c : Pt} {v : Int} (hv : v = 1 ∨ v = 2) : (p.put c v).two := by
  intro x hx
  rcases List.mem_or_eq_of_mem_set hx with h | h
  · exact hp x h
  · omega
theorem put_free (hp : p.Ok) {c : Pt} (hc : p.inP c) (v : Int) (x : Pt) : (p.put c v).free x ↔ if x = c then v = 1 else p.free x := by
  have h1 := ix_lt hp hc
  have e1 : (p.put c v).inP x ↔ p.inP x := Iff.rfl
  have e2 : (p.put c v).ix x = p.ix x := rfl
  unfold free
  rw [e1, e2]
  show p.inP x ∧ (p.C.set (p.ix c) v).getD (p.ix x) 0 = 1 ↔ _
  simp only [List.getD_eq_getElem?_getD]
  split
  · rename_i h
    subst h
    rw [List.getElem?_set_self (by omega)]
    simp [hc]
  · rename_i h
    by_cases hx : p.inP x
    · rw [List.getElem?_set_ne (fun e => h (ix_inj hx hc e.symm))]
    · simp [hx]

/-! ### A dead end -/

/-- p' is p with a corridor g from u to a dead end v. -/
structure Ext (p p' : Pl) (u g v : Pt) : Prop where
  fr : ∀ x, p'.free x → p.free x ∨ x = g ∨ x = v
  ng : ¬ p.free g
  nv : ¬ p.free v
  fu : p.free u
  gu : ∀ x, p'.nb g x → x = u ∨ x = v
  vg : ∀ x, p'.nb v x → x = g

theorem Ext.back {p' : Pl} {u g v : Pt} (h : Ext p p' u g v) {a b : Pt} (ha : p.free a) (hc : p'.Conn a b) : (b = g ∨ b = v → p.Conn a u) ∧ (p.free b → p.Conn a b) := by
  induction hc with
  | refl _ => exact ⟨fun hb => hb.elim (fun e => (h.ng (e ▸ ha)).elim) (fun e => (h.nv (e ▸ ha)).elim), fun _ => .refl ha⟩
  | @step b c hb k ih =>
    have toU : c = g → p.Conn a u := fun e => by
      subst e
      rcases h.gu b (nb_symm k) with e | e
      · rw [← e]; exact ih.2 (e ▸ h.fu)
      · exact ih.1 (.inr e)
    refine ⟨fun hc => ?_, fun hc => ?_⟩
    · rcases hc with e | e
      · exact toU e
      · subst e
        exact ih.1 (.inl (h.vg b (nb_symm k)))
    · rcases h.fr b k.1 with hbf | e | e
      · exact .step (ih.2 hbf) ⟨hbf, hc, k.2.2⟩
      · subst e
        rcases h.gu c k with e | e
        · subst e; exact ih.1 (.inl rfl)
        · exact (h.nv (e ▸ hc)).elim
      · subst e
        exact (h.ng ((h.vg c k) ▸ hc)).elim

theorem Conn.mono {p p' : Pl} (h : ∀ x, p.free x → p'.free x) {a b : Pt} (hc : p.Conn a b) : p'.Conn a b := by
  induction hc with
  | refl k => exact .refl (h _ k)
  | step _ k ih => exact .step ih ⟨h _ k.1, h _ k.2.1, k.2.2⟩

/-- Nothing is joined to a cell without neighbours. -/
theorem Conn.lone {a b : Pt} (h : p.Conn a b) (hn : ∀ x, ¬ p.nb b x) : a = b := by
  cases h with
  | refl _ => rfl
  | step _ k => exact (hn _ (nb_symm k)).elim

/-! ### Counting -/

def cnt (P : Nat → Bool) (n : Nat) : Nat := ((List.range n).filter P).length
theorem cnt_succ (P : Nat → Bool) (n : Nat) : cnt P (n + 1) = cnt P n + if P n then 1 else 0 := by
  unfold cnt
  rw [List.range_succ, List.filter_append]
  cases h : P n <;> simp [h]
theorem cnt_congr {P Q : Nat → Bool} : ∀ n, (∀ i, i < n → P i = Q i) → cnt P n = cnt Q n
  | 0, _ => rfl
  | n + 1, h => by rw [cnt_succ, cnt_succ, cnt_congr n (fun i hi => h i (by omega)), h n (by omega)]
theorem cnt_one {P Q : Nat → Bool} {j : Nat} (hQ : P j = false) (hj : Q j = true) (h : ∀ i, i ≠ j → Q i = P i) : ∀ n, j < n → cnt Q n = cnt P n + 1
  | 0, hn => by omega
  | n + 1, hn => by
    rw [cnt_succ, cnt_succ]
    by_cases e : n = j
    · subst e
      rw [hQ, hj, cnt_congr n (fun i hi => h i (by omega))]
      simp
    · rw [cnt_one hQ hj h n (by omega), h n e]
      omega
def gN (p : Pl) : Nat := cnt (fun i => decide (gat (p.cellOf i) ∧ p.free (p.cellOf i))) p.C.length
def cN (p : Pl) : Nat := cnt (fun i => decide (odd2 (p.cellOf i) ∧ p.free (p.cellOf i))) p.C.length

/-! ### Mazes -/

structure MI (p : Pl) (S : List Pt) : Prop where
  ok : p.Ok
  two : p.two
  ow : p.W % 2 = 1 ∧ 3 ≤ p.W ∧ p.H % 2 = 1 ∧ 3 ≤ p.H
  kind : ∀ c, p.free c → (c.X % 2 = 1 ∨ c.Y % 2 = 1) ∧ 0 < c.X ∧ c.X < p.W - 1 ∧ 0 < c.Y ∧ c.Y < p.H - 1
  gate : ∀ c d, p.free c → d ∈ four → odd2 (add c d) → p.free (add c d)
  start : p.free ⟨1, 1⟩
  conn : ∀ c, p.free c → p.Conn ⟨1, 1⟩ c
  num : p.gN + 1 = p.cN
  sep : ∀ c d, p.free c → gat c → d ∈ four → odd2 (add c d) → ¬ (p.put c 2).Conn (add c d) (add c (neg d))
  vis : ∀ c, p.free c → odd2 c → c ∈ S ∨ ∀ d ∈ four, p.inP (add2 c d) → p.free (add2 c d)
  stk : ∀ c ∈ S, p.free c ∧ odd2 c

theorem four_cases {P : Pt → Prop} (h1 : P ⟨1, 0⟩) (h2 : P ⟨0, 1⟩) (h3 : P ⟨-1, 0⟩) (h4 : P ⟨0, -1⟩) : ∀ d ∈ four, P d := by
  intro d hd
  simp only [four, List.mem_cons, List.not_mem_nil, or_false] at hd
  rcases hd with rfl | rfl | rfl | rfl <;> assumption

theorem four_or {d : Pt} (hd : d ∈ four) : (d.X = 1 ∧ d.Y = 0) ∨ (d.X = 0 ∧ d.Y = 1) ∨ (d.X = -1 ∧ d.Y = 0) ∨ (d.X = 0 ∧ d.Y = -1) := by
  refine four_cases (P := fun d => (d.X = 1 ∧ d.Y = 0) ∨ (d.X = 0 ∧ d.Y = 1) ∨ (d.X = -1 ∧ d.Y = 0) ∨ (d.X = 0 ∧ d.Y = -1)) ?_ ?_ ?_ ?_ d hd <;> simp
theorem neg_four {d : Pt} (hd : d ∈ four) : neg d ∈ four := by
  refine four_cases (P := fun d => neg d ∈ four) ?_ ?_ ?_ ?_ d hd <;> decide
theorem pt_eq {a b : Pt} (h1 : a.X = b.X) (h2 : a.Y = b.Y) : a = b := by cases a; cases b; simp_all

/-- A chamber that nobody is in yet, two steps from one. -/
structure Way (p : Pl) (u d : Pt) : Prop where
  hd : d ∈ four
  fu : p.free u
  ou : odd2 u
  iv : 0 < (add2 u d).X ∧ (add2 u d).X < p.W ∧ 0 < (add2 u d).Y ∧ (add2 u d).Y < p.H
  nv : ¬ p.free (add2 u d)

theorem MI.step {u d : Pt} {S S' : List Pt} (h : MI p S) (hw : Way p u d) (hv : ∀ x, x ∈ S' ↔ x ∈ S ∨ x = add2 u d) : MI ((p.put (add u d) 1).put (add2 u d) 1) S' := by
  obtain ⟨hd, fu, ou, iv, nv⟩ := hw
  have hd4 := four_or hd
  obtain ⟨W, hW⟩ : ∃ W, p.W = W := ⟨_, rfl⟩
  obtain ⟨H, hH⟩ : ∃ H, p.H = H := ⟨_, rfl⟩
  have how := h.ow
  have hku := h.kind u fu
  have eg : (add u d).X = u.X + d.X ∧ (add u d).Y = u.Y + d.Y := ⟨rfl, rfl⟩
  have ev : (add2 u d).X = u.X + 2 * d.X ∧ (add2 u d).Y = u.Y + 2 * d.Y := ⟨rfl, rfl⟩
  have ou1 := ou.1
  have ou2 := ou.2
  have ing : p.inP (add u d) := by unfold inP; omega
  have inv : p.inP (add2 u d) := by unfold inP; omega
  have hov : odd2 (add2 u d) := by unfold odd2; omega
  have hadd : add (add u d) d = add2 u d := pt_eq (by simp only [add, add2]; omega) (by simp only [add, add2]; omega)
  have ng : ¬ p.free (add u d) := fun hf => nv (by
    have := h.gate _ d hf hd (by rw [hadd]; exact hov)
    rwa [hadd] at this)
  have hgg : gat (add u d) := by unfold gat; omega
  have hvg : add2 u d ≠ add u d := fun e => by
    have e1 := congrArg Pt.X e
    have e2 := congrArg Pt.Y e
    omega
  generalize hgdef : add u d = g at *
  generalize hvdef : add2 u d = v at *
  have ok1 : (p.put g 1).Ok := put_ok h.ok (by omega)
  have fr : ∀ x, ((p.put g 1).put v 1).free x ↔ p.free x ∨ x = g ∨ x = v := fun x => by
    rw [put_free ok1 (show (p.put g 1).inP v from inv), put_free h.ok ing]
    by_cases e1 : x = v
    · simp [e1]
    · by_cases e2 : x = g
      · simp [e2]
      · simp [e1, e2]
  generalize hp' : (p.put g 1).put v 1 = p' at *
  have ok' : p'.Ok := by rw [← hp']; exact put_ok ok1 (by omega)
  have two' : p'.two := by rw [← hp']; exact put_two (put_two h.two (.inl rfl)) (.inl rfl)
  have eW : p'.W = p.W := by rw [← hp']; rfl
  have eH : p'.H = p.H := by rw [← hp']; rfl
  have eL : p'.C.length = p.C.length := by rw [← hp']; show ((p.C.set _ _).set _ _).length = _; simp
  have eC : ∀ i, p'.cellOf i = p.cellOf i := fun i => by rw [← hp']; rfl
  have eI : ∀ c, p'.inP c ↔ p.inP c := fun c => by unfold inP; rw [eW, eH]
  have kind' : ∀ c, p'.free c → (c.X % 2 = 1 ∨ c.Y % 2 = 1) ∧ 0 < c.X ∧ c.X < p'.W - 1 ∧ 0 < c.Y ∧ c.Y < p'.H - 1 := fun c hc => by
    rw [eW, eH]
    rcases (fr c).1 hc with h1 | rfl | rfl
    · exact h.kind c h1
    · unfold gat at hgg; omega
    · have := hov.1; have := hov.2; omega
  have gU : ∀ x, p'.nb g x → x = u ∨ x = v := fun x hx => by
    obtain ⟨_, hx2, e, he, rfl⟩ := hx
    have he4 := four_or he
    have hk := (kind' _ hx2).1
    have ea : (add g e).X = g.X + e.X ∧ (add g e).Y = g.Y + e.Y := ⟨rfl, rfl⟩
    by_cases hc : e.X = d.X ∧ e.Y = d.Y
    · exact .inr (pt_eq (by omega) (by omega))
    · exact .inl (pt_eq (by omega) (by omega))
  have vG : ∀ x, p'.nb v x → x = g := fun x hx => by
    obtain ⟨_, hx2, e, he, rfl⟩ := hx
    have he4 := four_or he
    have ea : (add v e).X = v.X + e.X ∧ (add v e).Y = v.Y + e.Y := ⟨rfl, rfl⟩
    rcases (fr _).1 hx2 with h1 | h1 | h1
    · refine (nv ?_).elim
      have hb : add (add v e) (neg e) = v := add_neg v e
      have := h.gate _ (neg e) h1 (neg_four he) (by rw [hb]; exact hov)
      rwa [hb] at this
    · exact h1
    · have e1 := congrArg Pt.X h1
      have e2 := congrArg Pt.Y h1
      omega
  have fg : p'.free g := (fr g).2 (.inr (.inl rfl))
  have fv : p'.free v := (fr v).2 (.inr (.inr rfl))
  have up : ∀ x, p.free x → p'.free x := fun x hx => (fr x).2 (.inl hx)
  have cu : p'.Conn ⟨1, 1⟩ u := (h.conn u fu).mono up
  have cg : p'.Conn ⟨1, 1⟩ g := .step cu ⟨up u fu, fg, d, hd, hgdef.symm⟩
  have cv : p'.Conn ⟨1, 1⟩ v := .step cg ⟨fg, fv, d, hd, hadd.symm⟩
  refine ⟨ok', two', by rw [eW, eH]; exact how, kind', ?_, up _ h.start, ?_, ?_, ?_, ?_, ?_⟩
  · intro c e hc he ho
    have he4 := four_or he
    rcases (fr c).1 hc with h1 | rfl | rfl
    · exact up _ (h.gate c e h1 he ho)
    · have ea : (add c e).X = c.X + e.X ∧ (add c e).Y = c.Y + e.Y := ⟨rfl, rfl⟩
      have o1 := ho.1
      have o2 := ho.2
      by_cases hc2 : e.X = d.X ∧ e.Y = d.Y
      · have : add c e = v := pt_eq (by omega) (by omega)
        rw [this]; exact fv
      · have : add c e = u := pt_eq (by omega) (by omega)
        rw [this]; exact up u fu
    · have o1 := ho.1
      have o2 := ho.2
      have v1 := hov.1
      have v2 := hov.2
      have ea : (add c e).X = c.X + e.X ∧ (add c e).Y = c.Y + e.Y := ⟨rfl, rfl⟩
      omega
  · intro c hc
    rcases (fr c).1 hc with h1 | rfl | rfl
    · exact (h.conn c h1).mono up
    · exact cg
    · exact cv
  · have hgix := ix_lt h.ok ing
    have hvix := ix_lt h.ok inv
    have cell : ∀ i, i ≠ p.ix g → p.cellOf i ≠ g := fun i hi e => hi (by rw [← e, ix_cellOf h.ok])
    have cell2 : ∀ i, i ≠ p.ix v → p.cellOf i ≠ v := fun i hi e => hi (by rw [← e, ix_cellOf h.ok])
    have cg1 := cell_ix h.ok ing
    have cv1 := cell_ix h.ok inv
    have nog : ¬ odd2 g := fun ho => by have := ho.1; have := ho.2; unfold gat at hgg; omega
    have nvg : ¬ gat v := fun hg => by have := hov.1; have := hov.2; unfold gat at hg; omega
    have e1 : p'.gN = p.gN + 1 := by
      unfold gN
      rw [eL]
      refine cnt_one (j := p.ix g) ?_ ?_ (fun i hi => ?_) _ hgix
      · rw [cg1]; simp [ng]
      · rw [eC, cg1]; simp [hgg, fg]
      · rw [eC]
        have k1 := cell i hi
        have hfi := fr (p.cellOf i)
        by_cases hvi : p.cellOf i = v
        · rw [hvi]; simp [nvg]
        · simp only [hfi, k1, hvi, or_false]
    have e2 : p'.cN = p.cN + 1 := by
      unfold cN
      rw [eL]
      refine cnt_one (j := p.ix v) ?_ ?_ (fun i hi => ?_) _ hvix
      · rw [cv1]; simp [nv]
      · rw [eC, cv1]; simp [hov, fv]
      · rw [eC]
        have k1 := cell2 i hi
        have hfi := fr (p.cellOf i)
        by_cases hgi : p.cellOf i = g
        · rw [hgi]; simp [nog]
        · simp only [hfi, k1, hgi, or_false]
    have := h.num
    omega
  · intro c e hc hgc he ho hcon
    have he4 := four_or he
    have hne : ∀ x, (p'.put c 2).free x ↔ x ≠ c ∧ p'.free x := fun x => by
      rw [put_free ok' hc.1]
      by_cases e : x = c <;> simp [e]
    have hne0 : p.inP c → ∀ x, (p.put c 2).free x ↔ x ≠ c ∧ p.free x := fun hin x => by
      rw [put_free h.ok hin]
      by_cases e : x = c <;> simp [e]
    have a1 : (add c e).X = c.X + e.X ∧ (add c e).Y = c.Y + e.Y := ⟨rfl, rfl⟩
    have a2 : (add c (neg e)).X = c.X - e.X ∧ (add c (neg e)).Y = c.Y - e.Y := ⟨rfl, rfl⟩
    have o1 := ho.1
    have o2 := ho.2
    have ho2 : odd2 (add c (neg e)) := by unfold odd2; omega
    rcases (fr c).1 hc with h1 | rfl | rfl
    · -- an old gate
      have hfa := h.gate c e h1 he ho
      have hfb := h.gate c (neg e) h1 (neg_four he) ho2
      have hcg : c ≠ g := fun e => ng (e ▸ h1)
      have hcv : c ≠ v := fun e => nv (e ▸ h1)
      have huc : u ≠ c := fun e => by unfold gat at hgc; rw [← e] at hgc; omega
      have hx : Ext (p.put c 2) (p'.put c 2) u g v := by
        refine ⟨fun x hx => ?_, fun hx => ng ((hne0 h1.1 g).1 hx).2, fun hx => nv ((hne0 h1.1 v).1 hx).2, (hne0 h1.1 u).2 ⟨huc, fu⟩, fun x hx => ?_, fun x hx => ?_⟩
        · have hx := (hne x).1 hx
          rcases (fr x).1 hx.2 with k | k
          · exact .inl ((hne0 h1.1 x).2 ⟨hx.1, k⟩)
          · exact .inr k
        · exact gU x ⟨((hne _).1 hx.1).2, ((hne _).1 hx.2.1).2, hx.2.2⟩
        · exact vG x ⟨((hne _).1 hx.1).2, ((hne _).1 hx.2.1).2, hx.2.2⟩
      have hac : add c e ≠ c := fun e' => by rw [e'] at ho; unfold gat at hgc; have := ho.1; have := ho.2; omega
      have hbc : add c (neg e) ≠ c := fun e' => by rw [e'] at ho2; unfold gat at hgc; have := ho2.1; have := ho2.2; omega
      exact h.sep c e h1 hgc he ho ((hx.back ((hne0 h1.1 _).2 ⟨hac, hfa⟩) hcon).2 ((hne0 h1.1 _).2 ⟨hbc, hfb⟩))
    · -- the new gate: its chamber stands alone
      have lone : ∀ x, ¬ (p'.put c 2).nb v x := fun x hx => by
        have := vG x ⟨((hne _).1 hx.1).2, ((hne _).1 hx.2.1).2, hx.2.2⟩
        exact ((hne _).1 hx.2.1).1 this
      by_cases hc2 : e.X = d.X ∧ e.Y = d.Y
      · have ea : add c e = v := pt_eq (by omega) (by omega)
        rw [ea] at hcon
        have := hcon.symm.lone lone
        have := congrArg Pt.X this
        have e2 : (add c (neg e)).Y = v.Y := congrArg Pt.Y (hcon.symm.lone lone)
        omega
      · have ea : add c (neg e) = v := pt_eq (by omega) (by omega)
        rw [ea] at hcon
        have e1 := congrArg Pt.X (hcon.lone lone)
        have e2 := congrArg Pt.Y (hcon.lone lone)
        omega
    · unfold gat at hgc
      have := hov.1
      have := hov.2
      omega
  · intro c hc ho
    rcases (fr c).1 hc with h1 | rfl | rfl
    · rcases h.vis c h1 ho with k | k
      · exact .inl ((hv c).2 (.inl k))
      · exact .inr fun e he hin => up _ (k e he ((eI _).1 hin))
    · have := ho.1
      have := ho.2
      unfold gat at hgg
      omega
    · exact .inl ((hv c).2 (.inr rfl))
  · intro c hc
    rcases (hv c).1 hc with k | rfl
    · exact ⟨up c (h.stk c k).1, (h.stk c k).2⟩
    · exact ⟨fv, hov⟩

/-- A chamber without ways is left. -/
theorem MI.pop {u : Pt} {S S' : List Pt} (h : MI p S) (hv : ∀ x, x ∈ S ↔ x = u ∨ x ∈ S') (hn : ∀ d, ¬ Way p u d) : MI p S' := by
  have hu := h.stk u ((hv u).2 (.inl rfl))
  have ho := h.ow
  refine ⟨h.ok, h.two, h.ow, h.kind, h.gate, h.start, h.conn, h.num, h.sep, fun c hc hoc => ?_, fun c hc => h.stk c ((hv c).2 (.inr hc))⟩
  rcases h.vis c hc hoc with k | k
  · rcases (hv c).1 k with rfl | k
    · refine .inr fun d hd hin => Classical.byContradiction fun hf => hn d ⟨hd, hc, hoc, ?_, hf⟩
      have hd4 := four_or hd
      have ea : (add2 c d).X = c.X + 2 * d.X ∧ (add2 c d).Y = c.Y + 2 * d.Y := ⟨rfl, rfl⟩
      have o1 := hoc.1
      have o2 := hoc.2
      unfold inP at hin
      omega
    · exact .inl k
  · exact .inr k

/-- When no chamber is left to walk from, all are free. -/
theorem MI.all (h : MI p []) : ∀ (i j : Nat), (2 * i + 1 : Int) < p.W → (2 * j + 1 : Int) < p.H → p.free ⟨2 * i + 1, 2 * j + 1⟩ := by
  have nx : ∀ c, p.free c → odd2 c → ∀ d ∈ four, p.inP (add2 c d) → p.free (add2 c d) := fun c hc ho => (h.vis c hc ho).elim (fun k => absurd k (List.not_mem_nil)) id
  have row : ∀ i : Nat, (2 * i + 1 : Int) < p.W → p.free ⟨2 * i + 1, 1⟩ := by
    intro i
    induction i with
    | zero => intro _; exact h.start
    | succ i ih =>
      intro hi
      have h1 := ih (by omega)
      have := nx _ h1 ⟨by simp only; omega, by simp only; omega⟩ ⟨1, 0⟩ (by decide) (by unfold inP add2; simp only; have := h.ow; omega)
      have e : add2 ⟨2 * i + 1, 1⟩ ⟨1, 0⟩ = ⟨2 * ((i + 1 : Nat) : Int) + 1, 1⟩ := pt_eq (by simp only [add2]; omega) (by simp only [add2]; omega)
      rwa [e] at this
  intro i j
  induction j with
  | zero => intro hi _; exact row i hi
  | succ j ih =>
    intro hi hj
    have h1 := ih hi (by omega)
    have := nx _ h1 ⟨by simp only; omega, by simp only; omega⟩ ⟨0, 1⟩ (by decide) (by unfold inP add2; simp only; omega)
    have e : add2 ⟨2 * i + 1, 2 * j + 1⟩ ⟨0, 1⟩ = ⟨2 * i + 1, 2 * ((j + 1 : Nat) : Int) + 1⟩ := pt_eq (by simp only [add2]; omega) (by simp only [add2]; omega)
    rwa [e] at this

theorem MI.chamber (h : MI p []) {c : Pt} (hc : p.inP c) (ho : odd2 c) : p.free c := by
  unfold inP at hc
  have o1 := ho.1
  have o2 := ho.2
  have := h.all (c.X / 2).toNat (c.Y / 2).toNat (by omega) (by omega)
  have e : (⟨2 * ((c.X / 2).toNat : Int) + 1, 2 * ((c.Y / 2).toNat : Int) + 1⟩ : Pt) = c := pt_eq (by simp only; omega) (by simp only; omega)
  rwa [e] at this
end Pl
end Go.AE
