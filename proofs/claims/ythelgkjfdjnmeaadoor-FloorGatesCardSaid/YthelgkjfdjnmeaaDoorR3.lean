/-
  floor.Maze: what it returns; a maze's rooms.
-/
import Derived.Test.YthelgkjfdjnmeaaDoorR2
namespace Go.AE
open Go.Proofs Go.RowKit
set_option maxRecDepth 100000

/-- A plan of walls alone. -/
def wallP (w h : Nat) : Pl := ⟨w, h, List.replicate (w * h) 2⟩

theorem wallP_ok {w h : Nat} (h1 : 3 ≤ w) (h2 : w ≤ 63) (h3 : 3 ≤ h) (h4 : h ≤ 63) : (wallP w h).Ok := by
  have hm : w * h ≤ 63 * 63 := Nat.mul_le_mul h2 h4
  refine ⟨by show (1 : Int) ≤ w; omega, by show (w : Int) ≤ 64; omega, by show (1 : Int) ≤ h; omega, by show (h : Int) ≤ 64; omega, by show ((List.replicate (w * h) (2 : Int)).length : Int) = _; rw [List.length_replicate, Int.natCast_mul]; rfl, by show (List.replicate (w * h) (2 : Int)).length ≤ _; rw [List.length_replicate]; omega, fun x hx => ?_⟩
  rw [List.eq_of_mem_replicate hx]
  omega
theorem wallP_two {w h : Nat} : (wallP w h).two := fun _ hx => .inr (List.eq_of_mem_replicate hx)
theorem wallP_free {w h : Nat} (c : Pt) : ¬ (wallP w h).free c := fun hf => by
  have h2 := hf.2
  have e : (wallP w h).C.getD ((wallP w h).ix c) 0 = 0 ∨ (wallP w h).C.getD ((wallP w h).ix c) 0 = 2 := by
    show (List.replicate (w * h) (2 : Int)).getD _ 0 = 0 ∨ (List.replicate (w * h) (2 : Int)).getD _ 0 = 2
    rw [List.getD_eq_getElem?_getD, List.getElem?_replicate]
    split
    · exact .inr rfl
    · exact .inl rfl
  omega

theorem cnt_none {P : Nat → Bool} : ∀ n, (∀ i, P i = false) → Pl.cnt P n = 0
  | 0, _ => rfl
  | n + 1, h => by rw [Pl.cnt_succ, cnt_none n h, h n]; rfl

theorem MI_start {w h : Nat} (h1 : 3 ≤ w) (h2 : w ≤ 63) (h3 : 3 ≤ h) (h4 : h ≤ 63) (h5 : w % 2 = 1) (h6 : h % 2 = 1) : Pl.MI ((wallP w h).put ⟨1, 1⟩ 1) [⟨1, 1⟩] := by
  have ok0 := wallP_ok h1 h2 h3 h4
  have hin : (wallP w h).inP ⟨1, 1⟩ := by
    show (0 : Int) ≤ 1 ∧ (1 : Int) < w ∧ (0 : Int) ≤ 1 ∧ (1 : Int) < h
    omega
  have fr : ∀ x, ((wallP w h).put ⟨1, 1⟩ 1).free x ↔ x = ⟨1, 1⟩ := fun x => by
    rw [Pl.put_free ok0 hin]
    by_cases e : x = ⟨1, 1⟩
    · simp [e]
    · simp [e, wallP_free]
  have eW : ((wallP w h).put ⟨1, 1⟩ 1).W = w := rfl
  have eH : ((wallP w h).put ⟨1, 1⟩ 1).H = h := rfl
  have ok1 : ((wallP w h).put ⟨1, 1⟩ 1).Ok := Pl.put_ok ok0 (by omega)
  have tw : ((wallP w h).put ⟨1, 1⟩ 1).two := Pl.put_two wallP_two (.inl rfl)
  have ixl : (wallP w h).ix ⟨1, 1⟩ < ((wallP w h).put ⟨1, 1⟩ 1).C.length := Pl.ix_lt ok1 (c := ⟨1, 1⟩) hin
  have cix : ((wallP w h).put ⟨1, 1⟩ 1).cellOf ((wallP w h).ix ⟨1, 1⟩) = ⟨1, 1⟩ := Pl.cell_ix ok1 (c := ⟨1, 1⟩) hin
  have back : ∀ i, ((wallP w h).put ⟨1, 1⟩ 1).cellOf i = ⟨1, 1⟩ → i = (wallP w h).ix ⟨1, 1⟩ := fun i e => by
    have := Pl.ix_cellOf ok1 (i := i)
    rw [e] at this
    exact this.symm
  generalize (wallP w h).put ⟨1, 1⟩ 1 = p at *
  have f11 := (fr ⟨1, 1⟩).2 rfl
  have ng : ¬ Pl.gat ⟨1, 1⟩ := by decide
  have no : Pl.odd2 ⟨1, 1⟩ := by decide
  refine ⟨ok1, tw, by rw [eW, eH]; omega, ?_, ?_, f11, ?_, ?_, ?_, ?_, ?_⟩
  · intro c hc
    rw [(fr c).1 hc, eW, eH]
    simp only
    omega
  · intro c d hc hd ho
    have hd4 := Pl.four_or hd
    rw [(fr c).1 hc] at ho
    have o1 := ho.1
    have o2 := ho.2
    simp only [Pl.add] at o1 o2
    omega
  · intro c hc
    rw [(fr c).1 hc]
    exact .refl f11
  · have e1 : p.gN = 0 := cnt_none _ fun i => by
      rw [decide_eq_false_iff_not]
      rintro ⟨k1, k2⟩
      rw [(fr _).1 k2] at k1
      exact ng k1
    have e2 : p.cN = 1 := by
      have := Pl.cnt_one (P := fun _ => false) (Q := fun i => decide (Pl.odd2 (p.cellOf i) ∧ p.free (p.cellOf i))) (j := (wallP w h).ix ⟨1, 1⟩) rfl (by rw [cix]; exact decide_eq_true ⟨no, f11⟩)
        (fun i hi => by
          rw [decide_eq_false_iff_not]
          rintro ⟨_, k2⟩
          exact hi (back i ((fr _).1 k2))) p.C.length ixl
      rw [cnt_none _ (fun _ => rfl)] at this
      exact this
    omega
  · intro c d hc hg
    rw [(fr c).1 hc] at hg
    exact (ng hg).elim
  · intro c hc _
    exact .inl (by rw [(fr c).1 hc]; simp)
  · intro c hc
    rw [List.mem_singleton.1 hc]
    exact ⟨f11, no⟩

/-- floor.Maze. -/
theorem f31_spec (w h seed : Int) : (¬ (w % 2 = 1 ∧ 3 ≤ w ∧ w ≤ 63 ∧ h % 2 = 1 ∧ 3 ≤ h ∧ h ≤ 63) → f31 (w, h, seed, ()) = some (0, 0, [], 2, ())) ∧
    (w % 2 = 1 ∧ 3 ≤ w ∧ w ≤ 63 ∧ h % 2 = 1 ∧ 3 ≤ h ∧ h ≤ 63 → ∃ q : Pl, Pl.MI q [] ∧ q.W = w ∧ q.H = h ∧ f31 (w, h, seed, ()) = some (w, h, q.C, 0, ())) := by
  constructor
  · intro hn
    by_cases hw : w % 2 = 1 ∧ 3 ≤ w ∧ w ≤ 63
    · have hh : ¬ (h % 2 = 1 ∧ 3 ≤ h ∧ h ≤ 63) := fun hh => hn ⟨hw.1, hw.2.1, hw.2.2, hh⟩
      unfold f31
      simp only [f46_spec, hw, hh, and_self, decide_true, decide_false, Bool.not_true, Bool.not_false, cond_false, cond_true]
    · unfold f31
      simp only [f46_spec, hw, decide_false, Bool.not_false, cond_true]
  · rintro ⟨h1, h2, h3, h4, h5, h6⟩
    obtain ⟨m, rfl⟩ : ∃ m : Nat, w = m := ⟨w.toNat, by omega⟩
    obtain ⟨k, rfl⟩ : ∃ k : Nat, h = k := ⟨h.toNat, by omega⟩
    have hI := MI_start (w := m) (h := k) (by omega) (by omega) (by omega) (by omega) (by omega) (by omega)
    have ok0 := wallP_ok (w := m) (h := k) (by omega) (by omega) (by omega) (by omega)
    have hin : (wallP m k).inP ⟨1, 1⟩ := by
      show (0 : Int) ≤ 1 ∧ (1 : Int) < m ∧ (0 : Int) ≤ 1 ∧ (1 : Int) < k
      omega
    have hmul : m * k ≤ 63 * 63 := Nat.mul_le_mul (by omega) (by omega)
    have hmul1 : 3 * 3 ≤ m * k := Nat.mul_le_mul (by omega) (by omega)
    have wm : IntKind.i64.wrap ((m : Int) * (k : Int)) = ((m * k : Nat) : Int) := by
      rw [← Int.natCast_mul, w64 (by omega) (by omega)]
    have s0 := f47_spec (n := m * k) 2 (by omega) (by omega)
    have s1 := f48_spec ok0 hin m k
    have s1' : f48 (1, 1, (m : Int), List.replicate (m * k) 2, (m : Int), (k : Int), (List.replicate (m * k) (2 : Int)).length, ()) = some ((wallP m k).ix ⟨1, 1⟩, (wallP m k).C, (m : Int), (k : Int), (wallP m k).C.length, ()) := s1
    rw [List.length_replicate] at s1'
    have g1 : (wallP m k).C[(wallP m k).ix ⟨1, 1⟩]? = some ((wallP m k).C.getD ((wallP m k).ix ⟨1, 1⟩) 0) := cell_get ok0 hin
    have hwl : walls ((wallP m k).put ⟨1, 1⟩ 1) ≤ 4096 := by
      have := lsum_le1 (fun x => if x = 2 then 1 else 0) (fun x => by split <;> omega) ((wallP m k).put ⟨1, 1⟩ 1).C
      have := hI.ok.few
      unfold walls
      omega
    have len : ((wallP m k).put ⟨1, 1⟩ 1).C.length = m * k := by unfold Pl.put wallP; simp
    have len0 : (wallP m k).C.length = m * k := by unfold wallP; simp
    obtain ⟨q, q1, q2, q3, q4, q5⟩ := l31_0_spec 0 0 m k _ ((wallP m k).put ⟨1, 1⟩ 1) (IntKind.u64.wrap seed) [⟨1, 1⟩] 1 rfl (by omega) (by simp) hI
    have q5' : l31_0 ((k : Int), 1, (m : Int), 0, 0, (m : Int), (k : Int), ((wallP m k).put ⟨1, 1⟩ 1).C.length, IntKind.u64.wrap seed, [⟨1, 1⟩], (wallP m k).C.set ((wallP m k).ix ⟨1, 1⟩) 1, ()) = some (0, 0, (m : Int), (k : Int), ((wallP m k).put ⟨1, 1⟩ 1).C.length, q.C, ()) := q5
    rw [len] at q5'
    rw [len] at q4
    have a1 : (m : Int) % 2 = 1 ∧ 3 ≤ (m : Int) ∧ (m : Int) ≤ 63 := ⟨h1, h2, h3⟩
    have a2 : (k : Int) % 2 = 1 ∧ 3 ≤ (k : Int) ∧ (k : Int) ≤ 63 := ⟨h4, h5, h6⟩
    refine ⟨q, q1, q2, q3, ?_⟩
    have t1 : List.take (m * k) (List.replicate (m * k) (2 : Int)) = List.replicate (m * k) 2 := List.take_of_length_le (by simp)
    have t2 : List.take (m * k) q.C = q.C := List.take_of_length_le (by omega)
    have c1 : m * k ≤ q.C.length := by omega
    unfold f31
    simp only [f46_spec, a1, a2, and_self, decide_true, Bool.not_true, cond_false, wm, s0, Option.bind_some, Nat.zero_add, List.length_replicate, Nat.le_refl, cond_true, List.drop_zero, t1, s1', g1, len0, q5', c1, t2]

/-! ### What the laws ask -/

theorem MI_bld {p : Pl} {S : List Pt} (h : Pl.MI p S) : p.bld = true := by
  unfold Pl.bld
  rw [h.ok.vld, known_iff.2 (fun h0 => by have := h.two 0 h0; omega)]
  rfl
theorem two_val {p : Pl} (hp : p.Ok) (ht : p.two) {c : Pt} (hc : p.inP c) (hn : ¬ p.free c) : p.val c = 2 := by
  have hg := cell_get hp hc
  unfold Pl.val
  rw [if_pos hc]
  rcases ht _ (List.mem_of_getElem? hg) with e | e
  · exact (hn ⟨hc, e⟩).elim
  · exact e
theorem MI_solid {p : Pl} {S : List Pt} (h : Pl.MI p S) : Solid p := by
  refine ⟨MI_bld h, fun c hc he => two_val h.ok h.two hc fun hf => ?_⟩
  have := h.kind c hf
  unfold edge at he
  omega

/-- All free cells form one room. -/
theorem MI_rooms {p : Pl} {S : List Pt} (h : Pl.MI p S) {l : List Int} (hl : Pl.IsRooms p l) {i : Nat} (hi : i < p.C.length) : l[i]? = some (if p.free (p.cellOf i) then 0 else -1) := by
  have hp := h.ok
  have hr0 : ∀ j, p.lead j → ∀ i, i ≤ j → p.rk i = 0 := by
    intro j hj i
    induction i with
    | zero => intro _; rfl
    | succ i ih =>
      intro hij
      have hn : ¬ p.lead i := fun hi => hj.2 i (by omega) ((h.conn _ hi.1).symm.trans (h.conn _ hj.1))
      rw [Pl.rk_no hn]
      exact ih (by omega)
  rw [g_cell hp hl.len hi]
  by_cases hf : p.free (p.cellOf i)
  · obtain ⟨j, _, j2, j3⟩ := Pl.lead_of i (.refl hf)
    rw [hl.room j j2 _ j3, hr0 j j2 j (Nat.le_refl _), if_pos hf]
    rfl
  · rw [hl.wall _ (Pl.cellOf_in hp hi) hf, if_neg hf]
end Go.AE
