/-
  Particles: Weigh, Total, Best, Resample.
-/
import Derived.Test.YtnoammkjjbbajaaGreatP6
namespace Go.AE
open Go.Proofs Go.RowKit
set_option maxRecDepth 100000

/-! ### Weigh -/

/-- A scan's beams are readings. -/
def okS (S : List Bm) : Prop := S.length ≤ 32 ∧ ∀ b ∈ S, (0 ≤ b.M ∧ b.M ≤ 255) ∧ -1 ≤ b.R ∧ b.R ≤ 1024

theorem f23_ok {S : List Bm} (h : okS S) : f23 (S, ()) = some (true, ()) := by
  obtain ⟨hl, hb⟩ := h
  have hf : ∀ b ∈ S, f48 b.M b.R = false := fun b hm => by
    have := hb b hm
    have c1 : ¬ b.M < 0 := by omega
    have c2 : ¬ b.M ≥ 256 := by omega
    have c3 : ¬ b.R < -1 := by omega
    have c4 : ¬ b.R > 1024 := by omega
    unfold f48
    simp only [c1, c2, c3, c4, decide_false, cond_false]
  have key := ixg (r := r75_0) (fun i => (S, (S.length : Int), (i : Int), ())) (fun b => f48 b.M b.R) (fun i => ((i : Int), ())) () (l := S) (fun i b hbi => by
    have hlt := (List.getElem?_eq_some_iff.1 hbi).1
    have c1 : (i : Int) < (S.length : Int) := by omega
    have w1 : IntKind.i64.wrap ((i : Int) + 1) = ((i + 1 : Nat) : Int) := by rw [w64 (by omega) (by omega)]; rfl
    unfold r75_0
    simp only [c1, decide_true, cond_true, idxO_nat, hbi, Option.bind_some, w1]
    cases f48 b.M b.R <;> rfl) (by
    have c1 : ¬ (S.length : Int) < (S.length : Int) := by omega
    unfold r75_0
    simp only [c1, decide_false, cond_false]) S.length 0 rfl (by omega)
  rw [List.drop_zero] at key
  have c0 : (S.length : Int) ≤ 32 := by omega
  have c2 : ¬ ((-1 : Int) ≥ 0) := by omega
  rcases key with ⟨h1, k, h3⟩ | ⟨h1, h3⟩
  · obtain ⟨b, hm, hv⟩ := List.any_eq_true.1 h1
    rw [hf b hm] at hv
    cases hv
  · have h3' : iterO r75_0 (S, (S.length : Int), 0, ()) = _ := h3
    unfold f23 f49 f75 l75_0
    simp only [c0, decide_true, cond_true, h3', Option.bind_some, Sum.elim_inr, c2, decide_false, Bool.not_false]

/-- Whether a beam is plausible at a particle; whether a particle stands in a wall; its new weight. -/
noncomputable def plB (p : Pl) (R : Int) (a : Pa) (b : Bm) : Bool := match f25 (p.W, p.H, p.C, a.X, a.Y, a.H, b.M, b.R, R, ()) with
  | some (t, _) => t
  | none => false
noncomputable def blk (p : Pl) (a : Pa) : Bool := match f24 (p.W, p.H, p.C, a.X, a.Y, ()) with
  | some (t, _) => t
  | none => true
noncomputable def kOf (p : Pl) (R : Int) (S : List Bm) (a : Pa) : Nat := 1 + S.countP (plB p R a)
noncomputable def wP (p : Pl) (R : Int) (S : List Bm) (a : Pa) : Pa := ⟨a.X, a.Y, a.H, bif blk p a then 0 else (kOf p R S a : Int) * (kOf p R S a : Int)⟩

section
variable {p : Pl} {R : Int} {S : List Bm}

theorem kOf_le (a : Pa) : kOf p R S a ≤ 1 + S.length := by
  unfold kOf
  have := List.countP_le_length (p := plB p R a) (l := S)
  omega

theorem l9_6_spec (hp : p.Ok) (hR : 1 ≤ R ∧ R ≤ 32) (hS : okS S) {a : Pa} (hin : inRp p ⟨a.X, a.Y⟩) (hh : 0 ≤ a.H ∧ a.H ≤ 255) (n n2 : Nat) (z i ln : Int) (ob : List Pa) : ∀ (t j k : Nat), S.length - j = t → j ≤ S.length → k ≤ 100 + j →
    l9_6 (S, R, n, i, (k : Int), n2, ln, z, S, (S.length : Int), (j : Int), p.W, p.H, p.C, ob, a.X, a.Y, a.H, a.W, ()) = some (S, R, n, i, ((k + (S.drop j).countP (plB p R a) : Nat) : Int), n2, ln, z, p.W, p.H, p.C, ob, ())
  | t, j, k, ht, hj, hk => by
    unfold l9_6
    rw [iterO_eq]
    have hSl := hS.1
    by_cases e : j = S.length
    · have c1 : ¬ (j : Int) < (S.length : Int) := by omega
      rw [List.drop_eq_nil_of_le (by omega)]
      have hd : r9_6 (S, R, n, i, (k : Int), n2, ln, z, S, (S.length : Int), (j : Int), p.W, p.H, p.C, ob, a.X, a.Y, a.H, a.W, ()) = some (.inr (S, R, n, i, (k : Int), n2, ln, z, p.W, p.H, p.C, ob, ())) := by
        unfold r9_6
        simp only [c1, decide_false, cond_false]
      rw [hd]
      rfl
    · have hlt : j < S.length := by omega
      have c1 : (j : Int) < (S.length : Int) := by omega
      obtain ⟨b, hb⟩ : ∃ b, S[j]? = some b := ⟨_, List.getElem?_eq_getElem hlt⟩
      have hbm := hS.2 b (List.mem_of_getElem? hb)
      have hdrop : S.drop j = b :: S.drop (j + 1) := by
        rw [List.drop_eq_getElem_cons hlt]
        rw [List.getElem?_eq_getElem hlt] at hb
        rw [Option.some.inj hb]
      obtain ⟨t', h25⟩ := f25_total hp hin hh hR hbm.1 hbm.2
      have hpl : plB p R a b = t' := by unfold plB; rw [h25]
      have w1 : IntKind.i64.wrap ((j : Int) + 1) = ((j + 1 : Nat) : Int) := by rw [w64 (by omega) (by omega)]; rfl
      have w2 : IntKind.i64.wrap ((k : Int) + 1) = ((k + 1 : Nat) : Int) := by rw [w64 (by omega) (by omega)]; rfl
      match t, ht with
      | 0, ht => omega
      | t + 1, ht =>
        rw [hdrop, List.countP_cons, hpl]
        cases t' with
        | true =>
          have hd : r9_6 (S, R, n, i, (k : Int), n2, ln, z, S, (S.length : Int), (j : Int), p.W, p.H, p.C, ob, a.X, a.Y, a.H, a.W, ()) = some (.inl (S, R, n, i, ((k + 1 : Nat) : Int), n2, ln, z, S, (S.length : Int), ((j + 1 : Nat) : Int), p.W, p.H, p.C, ob, a.X, a.Y, a.H, a.W, ())) := by
            unfold r9_6
            simp only [c1, decide_true, cond_true, idxO_nat, hb, Option.bind_some, h25, w2, j9_46, w1]
          rw [hd]
          show l9_6 _ = _
          rw [l9_6_spec hp hR hS hin hh n n2 z i ln ob t (j + 1) (k + 1) (by omega) (by omega) (by omega)]
          simp only [if_true]
          rw [show k + 1 + (S.drop (j + 1)).countP (plB p R a) = k + ((S.drop (j + 1)).countP (plB p R a) + 1) by omega]
        | false =>
          have hd : r9_6 (S, R, n, i, (k : Int), n2, ln, z, S, (S.length : Int), (j : Int), p.W, p.H, p.C, ob, a.X, a.Y, a.H, a.W, ()) = some (.inl (S, R, n, i, (k : Int), n2, ln, z, S, (S.length : Int), ((j + 1 : Nat) : Int), p.W, p.H, p.C, ob, a.X, a.Y, a.H, a.W, ())) := by
            unfold r9_6
            simp only [c1, decide_true, cond_true, idxO_nat, hb, Option.bind_some, h25, cond_false, j9_46, w1]
          rw [hd]
          show l9_6 _ = _
          rw [l9_6_spec hp hR hS hin hh n n2 z i ln ob t (j + 1) k (by omega) (by omega) (by omega)]
          simp only [Bool.false_eq_true, if_false, Nat.add_zero]

theorem l9_0_spec (hp : p.Ok) (hR : 1 ≤ R ∧ R ≤ 32) (hS : okS S) {l : List Pa} (hl : okF l) : ∀ (t i : Nat) (ob : List Pa), l.length - i = t → i ≤ l.length → MapInv (wP p R S) l i ob →
    l9_0 (S, R, l.length, l.length, (l.length : Int), (i : Int), p.W, p.H, p.C, ob, ()) = some (l.length, l.map (wP p R S), ())
  | t, i, ob, ht, hi, hI => by
    have hll := hl.1
    have hSl := hS.1
    unfold l9_0
    rw [iterO_eq]
    by_cases e : i = l.length
    · have c1 : ¬ (i : Int) < (l.length : Int) := by omega
      have hd : r9_0 (S, R, l.length, l.length, (l.length : Int), (i : Int), p.W, p.H, p.C, ob, ()) = some (.inr (l.length, ob, ())) := by
        unfold r9_0
        simp only [c1, decide_false, cond_false]
      rw [hd]
      subst e
      rw [hI.done]
    · have hlt : i < l.length := by omega
      have c1 : (i : Int) < (l.length : Int) := by omega
      have c2 : (0 : Int) ≤ (i : Int) := by omega
      obtain ⟨a, ha⟩ : ∃ a, l[i]? = some a := ⟨_, List.getElem?_eq_getElem hlt⟩
      have hob : ob[i]? = some a := by rw [hI.new i (Nat.le_refl _), ha]
      have hoa := hl.2 a (List.mem_of_getElem? ha)
      have w1 : IntKind.i64.wrap ((i : Int) + 1) = ((i + 1 : Nat) : Int) := by rw [w64 (by omega) (by omega)]; rfl
      obtain ⟨tb, h24, hcl⟩ := f24_spec hp (a := ⟨a.X, a.Y⟩) hoa.1.1
      have hbk : blk p a = tb := by unfold blk; rw [h24]
      match t, ht with
      | 0, ht => omega
      | t + 1, ht =>
        have next : r9_0 (S, R, l.length, l.length, (l.length : Int), (i : Int), p.W, p.H, p.C, ob, ()) = some (.inl (S, R, l.length, l.length, (l.length : Int), ((i + 1 : Nat) : Int), p.W, p.H, p.C, ob.set i (wP p R S a), ())) := by
          cases tb with
          | true =>
            have hg : wP p R S a = ⟨a.X, a.Y, a.H, 0⟩ := by unfold wP; rw [hbk]; rfl
            rw [hg]
            unfold r9_0
            simp only [c1, c2, decide_true, Bool.and_self, cond_true, Nat.zero_add, Int.toNat_natCast, hob, Option.bind_some, h24, j9_52, w1]
          | false =>
            have hin := (hcl.1 rfl).inRp hp
            have h6 := l9_6_spec hp hR hS hin hoa.1.2 l.length l.length (i : Int) (i : Int) (l.length : Int) (ob.set i ⟨a.X, a.Y, a.H, 0⟩) S.length 0 1 rfl (by omega) (by omega)
            rw [List.drop_zero] at h6
            have h6' : l9_6 (S, R, l.length, (i : Int), 1, l.length, (l.length : Int), (i : Int), S, (S.length : Int), 0, p.W, p.H, p.C, ob.set i ⟨a.X, a.Y, a.H, 0⟩, a.X, a.Y, a.H, a.W, ()) = _ := h6
            have hk : 1 + S.countP (plB p R a) = kOf p R S a := rfl
            have hkl := kOf_le (p := p) (R := R) (S := S) a
            have hkm := mulb (a := (kOf p R S a : Int)) (b := (kOf p R S a : Int)) (A := 40) (B := 40) (by omega) (by omega) (by omega) (by omega)
            have w2 : IntKind.i64.wrap ((kOf p R S a : Int) * (kOf p R S a : Int)) = (kOf p R S a : Int) * (kOf p R S a : Int) := w64 (by omega) (by omega)
            have hset : (ob.set i (Pa.mk a.X a.Y a.H 0))[i]? = some ⟨a.X, a.Y, a.H, 0⟩ := List.getElem?_set_self (by rw [hI.len]; exact hlt)
            have hg : wP p R S a = ⟨a.X, a.Y, a.H, (kOf p R S a : Int) * (kOf p R S a : Int)⟩ := by unfold wP; rw [hbk]; rfl
            rw [hg]
            unfold r9_0
            simp only [c1, c2, decide_true, Bool.and_self, cond_true, Nat.zero_add, Int.toNat_natCast, hob, Option.bind_some, h24, cond_false, h6', hk, hset, w2, List.set_set, j9_52, w1]
        rw [next]
        exact l9_0_spec hp hR hS hl t (i + 1) _ (by omega) (by omega) (hI.step ha)

/-- particle.Weigh. -/
theorem f9_spec (hp : p.Ok) (hR : 1 ≤ R ∧ R ≤ 32) (hS : okS S) {l : List Pa} (hl : okF l) : f9 (l, p.W, p.H, p.C, S, R, ()) = some (l.length, 0, l.map (wP p R S), ()) := by
  have h0 := l9_0_spec hp hR hS hl l.length 0 l rfl (by omega) (MapInv.zero _ _)
  have h0' : l9_0 (S, R, l.length, l.length, (l.length : Int), 0, p.W, p.H, p.C, l, ()) = _ := h0
  have c1 : ¬ R < 1 := by omega
  have c2 : ¬ R > 32 := by omega
  unfold f9
  simp only [f16_ok hl, Option.bind_some, Bool.not_true, cond_false, f22_spec (p := p) (by have := hp.few; omega), hp.vld, f23_ok hS, c1, c2, decide_false, f19_spec hl.1, h0']

theorem wP_bd (hSl : S.length ≤ 4) (a : Pa) : 0 ≤ (wP p R S a).W ∧ (wP p R S a).W ≤ (1 + (S.length : Int)) * (1 + (S.length : Int)) ∧ (1 + (S.length : Int)) * (1 + (S.length : Int)) ≤ 25 := by
  have hk := kOf_le (p := p) (R := R) (S := S) a
  have h1 : (kOf p R S a : Int) * (kOf p R S a : Int) ≤ (1 + (S.length : Int)) * (1 + (S.length : Int)) := Int.mul_le_mul (by omega) (by omega) (by omega) (by omega)
  have h2 : (1 + (S.length : Int)) * (1 + (S.length : Int)) ≤ 5 * 5 := Int.mul_le_mul (by omega) (by omega) (by omega) (by omega)
  have h3 : 0 ≤ (kOf p R S a : Int) * (kOf p R S a : Int) := Int.mul_nonneg (by omega) (by omega)
  have h4 : 0 ≤ (1 + (S.length : Int)) * (1 + (S.length : Int)) := Int.mul_nonneg (by omega) (by omega)
  unfold wP
  cases blk p a
  · simp only [cond_false]; omega
  · simp only [cond_true]; omega

theorem wP_full (hp : p.Ok) {a : Pa} (hcl : Clear p ⟨a.X, a.Y⟩) (hg : ∀ b ∈ S, goodB p R a.X a.Y a.H b) : (wP p R S a).W = (1 + (S.length : Int)) * (1 + (S.length : Int)) := by
  have hin := hcl.inRp hp
  obtain ⟨tb, h24, hc⟩ := f24_spec hp (a := ⟨a.X, a.Y⟩) (Ok.in_near hp hin)
  have hbk : blk p a = false := by unfold blk; rw [h24, hc.2 hcl]
  have hk : kOf p R S a = 1 + S.length := by
    unfold kOf
    have : S.countP (plB p R a) = S.length := List.countP_eq_length.2 fun b hb => by
      unfold plB
      rw [(hg b hb).2.2]
    rw [this]
  unfold wP
  rw [hbk, hk]
  simp only [cond_false]
  rw [show ((1 + S.length : Nat) : Int) = 1 + (S.length : Int) by omega]
end

/-! ### Total and Best -/

/-- The sum of the weights. -/
def tot (l : List Pa) : Int := (l.map Pa.W).sum
theorem tot_cons (a : Pa) (l : List Pa) : tot (a :: l) = a.W + tot l := by unfold tot; simp
theorem tot_bd {l : List Pa} (h : ∀ a ∈ l, okP a) : 0 ≤ tot l ∧ tot l ≤ 1048576 * (l.length : Int) := by
  induction l with
  | nil => simp [tot]
  | cons a l ih =>
    have h1 := ih fun b hb => h b (List.mem_cons_of_mem _ hb)
    have h2 := (h a (List.mem_cons_self ..)).2
    rw [tot_cons]
    simp only [List.length_cons]
    omega

theorem l11_0_spec {l : List Pa} (hl : okF l) : ∀ (t i : Nat) (acc : Int), l.length - i = t → i ≤ l.length → (0 ≤ acc ∧ acc ≤ 1048576 * (i : Int)) → l11_0 (acc, l, (l.length : Int), (i : Int), ()) = some (acc + tot (l.drop i), ())
  | t, i, acc, ht, hi, hacc => by
    have hll := hl.1
    unfold l11_0
    rw [iterO_eq]
    by_cases e : i = l.length
    · have c1 : ¬ (i : Int) < (l.length : Int) := by omega
      rw [List.drop_eq_nil_of_le (by omega)]
      unfold r11_0
      simp only [c1, decide_false, cond_false]
      simp [tot]
    · have hlt : i < l.length := by omega
      have c1 : (i : Int) < (l.length : Int) := by omega
      obtain ⟨a, ha⟩ : ∃ a, l[i]? = some a := ⟨_, List.getElem?_eq_getElem hlt⟩
      have hoa := (hl.2 a (List.mem_of_getElem? ha)).2
      have hdrop : l.drop i = a :: l.drop (i + 1) := by
        rw [List.drop_eq_getElem_cons hlt]
        rw [List.getElem?_eq_getElem hlt] at ha
        rw [Option.some.inj ha]
      have w1 : IntKind.i64.wrap ((i : Int) + 1) = ((i + 1 : Nat) : Int) := by rw [w64 (by omega) (by omega)]; rfl
      have w2 : IntKind.i64.wrap (acc + a.W) = acc + a.W := w64 (by omega) (by omega)
      have hd : r11_0 (acc, l, (l.length : Int), (i : Int), ()) = some (.inl (acc + a.W, l, (l.length : Int), ((i + 1 : Nat) : Int), ())) := by
        unfold r11_0
        simp only [c1, decide_true, cond_true, idxO_nat, ha, Option.bind_some, w1, w2]
      rw [hd]
      match t, ht with
      | 0, ht => omega
      | t + 1, ht =>
        show l11_0 _ = _
        rw [l11_0_spec hl t (i + 1) (acc + a.W) (by omega) (by omega) (by omega), hdrop, tot_cons, Int.add_assoc]

/-- particle.Total. -/
theorem f11_spec {l : List Pa} (hl : okF l) : f11 (l, ()) = some (tot l, ()) := by
  have h0 := l11_0_spec hl l.length 0 0 rfl (by omega) (by omega)
  have h0' : l11_0 (0, l, (l.length : Int), 0, ()) = _ := h0
  unfold f11
  simp only [f16_ok hl, Option.bind_some, Bool.not_true, cond_false, h0', List.drop_zero, Int.zero_add]

theorem l10_0_spec {l : List Pa} (hl : l.length ≤ 1024) : ∀ (t i : Nat) (b : Pa), l.length - i = t → i ≤ l.length →
    ∃ c : Pa, l10_0 (l, (l.length : Int), (i : Int), 0, 0, 0, 0, b.X, b.Y, b.H, b.W, ()) = some (0, 0, 0, 0, c.X, c.Y, c.H, c.W, ()) ∧ (c = b ∨ c ∈ l) ∧ b.W ≤ c.W ∧ ∀ a ∈ l.drop i, a.W ≤ c.W
  | t, i, b, ht, hi => by
    unfold l10_0
    rw [iterO_eq]
    by_cases e : i = l.length
    · have c1 : ¬ (i : Int) < (l.length : Int) := by omega
      rw [List.drop_eq_nil_of_le (by omega)]
      have hd : r10_0 (l, (l.length : Int), (i : Int), 0, 0, 0, 0, b.X, b.Y, b.H, b.W, ()) = some (.inr (0, 0, 0, 0, b.X, b.Y, b.H, b.W, ())) := by
        unfold r10_0
        simp only [c1, decide_false, cond_false]
      rw [hd]
      exact ⟨b, rfl, .inl rfl, Int.le_refl _, fun a ha => by cases ha⟩
    · have hlt : i < l.length := by omega
      have c1 : (i : Int) < (l.length : Int) := by omega
      obtain ⟨a, ha⟩ : ∃ a, l[i]? = some a := ⟨_, List.getElem?_eq_getElem hlt⟩
      have hdrop : l.drop i = a :: l.drop (i + 1) := by
        rw [List.drop_eq_getElem_cons hlt]
        rw [List.getElem?_eq_getElem hlt] at ha
        rw [Option.some.inj ha]
      have w1 : IntKind.i64.wrap ((i : Int) + 1) = ((i + 1 : Nat) : Int) := by rw [w64 (by omega) (by omega)]; rfl
      match t, ht with
      | 0, ht => omega
      | t + 1, ht =>
        by_cases hgt : a.W > b.W
        · have hd : r10_0 (l, (l.length : Int), (i : Int), 0, 0, 0, 0, b.X, b.Y, b.H, b.W, ()) = some (.inl (l, (l.length : Int), ((i + 1 : Nat) : Int), 0, 0, 0, 0, a.X, a.Y, a.H, a.W, ())) := by
            unfold r10_0
            simp only [c1, decide_true, cond_true, idxO_nat, ha, Option.bind_some, hgt, j10_28, w1]
          rw [hd]
          obtain ⟨c, q1, q2, q3, q4⟩ := l10_0_spec hl t (i + 1) a (by omega) (by omega)
          refine ⟨c, q1, .inr ?_, by omega, fun x hx => ?_⟩
          · rcases q2 with rfl | q2
            · exact List.mem_of_getElem? ha
            · exact q2
          · rw [hdrop] at hx
            rcases List.mem_cons.1 hx with rfl | hx
            · exact q3
            · exact q4 x hx
        · have hd : r10_0 (l, (l.length : Int), (i : Int), 0, 0, 0, 0, b.X, b.Y, b.H, b.W, ()) = some (.inl (l, (l.length : Int), ((i + 1 : Nat) : Int), 0, 0, 0, 0, b.X, b.Y, b.H, b.W, ())) := by
            unfold r10_0
            simp only [c1, decide_true, cond_true, idxO_nat, ha, Option.bind_some, hgt, decide_false, cond_false, j10_28, w1]
          rw [hd]
          obtain ⟨c, q1, q2, q3, q4⟩ := l10_0_spec hl t (i + 1) b (by omega) (by omega)
          refine ⟨c, q1, q2, q3, fun x hx => ?_⟩
          rw [hdrop] at hx
          rcases List.mem_cons.1 hx with rfl | hx
          · omega
          · exact q4 x hx

/-- particle.Best. -/
theorem f10_spec {l : List Pa} (hl : okF l) {a0 : Pa} (h0 : l[0]? = some a0) : ∃ c : Pa, f10 (l, ()) = some (c.X, c.Y, c.H, c.W, true, ()) ∧ c ∈ l ∧ ∀ a ∈ l, a.W ≤ c.W := by
  have hlt := (List.getElem?_eq_some_iff.1 h0).1
  have q : ((l.length : Int) == 0) = false := by rw [beq_eq_false_iff_ne]; omega
  have i0 : idxO l (0 : Int) = some a0 := by
    have := idxO_nat l 0
    rw [h0] at this
    exact this
  obtain ⟨c, q1, q2, q3, q4⟩ := l10_0_spec hl.1 l.length 0 a0 rfl (by omega)
  have q1' : l10_0 (l, (l.length : Int), 0, 0, 0, 0, 0, a0.X, a0.Y, a0.H, a0.W, ()) = _ := q1
  rw [List.drop_zero] at q4
  refine ⟨c, ?_, ?_, q4⟩
  · unfold f10
    simp only [q, cond_false, f16_ok hl, Option.bind_some, Bool.not_true, i0, q1']
  · rcases q2 with rfl | q2
    · exact List.mem_of_getElem? h0
    · exact q2

/-! ### Resample -/

/-- The sum of the first weights. -/
def pre (l : List Pa) (k : Nat) : Int := tot (l.take k)
theorem pre_succ {l : List Pa} {k : Nat} {a : Pa} (h : l[k]? = some a) : pre l (k + 1) = pre l k + a.W := by
  unfold pre tot
  rw [List.take_add_one, h]
  simp
theorem pre_all (l : List Pa) : pre l l.length = tot l := by unfold pre; rw [List.take_length]
theorem pre_bd {l : List Pa} (h : okF l) (k : Nat) : 0 ≤ pre l k ∧ pre l k ≤ 1073741824 := by
  have h1 := tot_bd (l := l.take k) fun a ha => h.2 a (List.mem_of_mem_take ha)
  have h2 := h.1
  have h3 : (l.take k).length ≤ 1024 := by rw [List.length_take]; omega
  unfold pre
  omega

theorem mul_lt {a b c : Int} (h : a < b) (hc : 0 < c) : c * a < c * b := Int.mul_lt_mul_of_pos_left h hc

section
variable {l : List Pa} {n u T : Int}

theorem l12_9_spec (hl : okF l) (hT : tot l = T) (hT1 : 1 ≤ T) (hn : 1 ≤ n ∧ n ≤ 1024) (hu : 0 ≤ u ∧ u < T) {i : Int} (hi : 0 ≤ i ∧ i < n) (cnt : Nat) (z1 z2 : Int) (ob : List Pa) : ∀ (t k : Nat), l.length - k = t → k < l.length →
    ∃ k', l12_9 (l, n, u, T, cnt, (k : Int), pre l (k + 1), i, z1, z2, ob, ()) = some (l, n, u, T, cnt, ((k' : Nat) : Int), pre l (k' + 1), z1, z2, ob, ()) ∧ k' < l.length ∧ (n * pre l (k + 1) > u + i * T → k' = k)
  | t, k, ht, hk => by
    have hll := hl.1
    have hTb := tot_bd hl.2
    have hpb := pre_bd hl (k + 1)
    have m1 := mulb (a := n) (b := pre l (k + 1)) (A := 1024) (B := 1073741824) (by omega) (by omega) (by omega) (by omega)
    have m2 := mulb (a := i) (b := T) (A := 1024) (B := 1073741824) (by omega) (by omega) (by omega) (by omega)
    have w1 : IntKind.i64.wrap (n * pre l (k + 1)) = n * pre l (k + 1) := w64 (by omega) (by omega)
    have w2 : IntKind.i64.wrap (i * T) = i * T := w64 (by omega) (by omega)
    have w3 : IntKind.i64.wrap (u + i * T) = u + i * T := w64 (by omega) (by omega)
    unfold l12_9
    rw [iterO_eq]
    by_cases hc : n * pre l (k + 1) ≤ u + i * T
    · -- not the last one
      have hk1 : k + 1 < l.length := by
        apply Classical.byContradiction
        intro hlast
        have e : k + 1 = l.length := by omega
        rw [e, pre_all, hT] at hc
        have h1 : (i + 1) * T ≤ n * T := Int.mul_le_mul_of_nonneg_right (by omega) (by omega)
        rw [Int.add_mul, Int.one_mul] at h1
        omega
      obtain ⟨a, ha⟩ : ∃ a, l[k + 1]? = some a := ⟨_, List.getElem?_eq_getElem hk1⟩
      have hp2 := pre_succ ha
      have hpb2 := pre_bd hl (k + 1 + 1)
      have w4 : IntKind.i64.wrap ((k : Int) + 1) = ((k + 1 : Nat) : Int) := by rw [w64 (by omega) (by omega)]; rfl
      have w5 : IntKind.i64.wrap (pre l (k + 1) + a.W) = pre l (k + 1 + 1) := by rw [← hp2, w64 (by omega) (by omega)]
      have hd : r12_9 (l, n, u, T, cnt, (k : Int), pre l (k + 1), i, z1, z2, ob, ()) = some (.inl (l, n, u, T, cnt, ((k + 1 : Nat) : Int), pre l (k + 1 + 1), i, z1, z2, ob, ())) := by
        unfold r12_9
        simp only [w1, w2, w3, hc, decide_true, cond_true, w4, idxO_nat, ha, Option.bind_some, w5]
      rw [hd]
      match t, ht with
      | 0, ht => omega
      | t + 1, ht =>
        obtain ⟨k', q1, q2, _⟩ := l12_9_spec hl hT hT1 hn hu hi cnt z1 z2 ob t (k + 1) (by omega) hk1
        exact ⟨k', q1, q2, fun h => by omega⟩
    · have hd : r12_9 (l, n, u, T, cnt, (k : Int), pre l (k + 1), i, z1, z2, ob, ()) = some (.inr (l, n, u, T, cnt, (k : Int), pre l (k + 1), z1, z2, ob, ())) := by
        unfold r12_9
        simp only [w1, w2, w3, hc, decide_false, cond_false]
      rw [hd]
      exact ⟨k, rfl, hk, fun _ => rfl⟩

theorem l12_3_spec (hl : okF l) (hT : tot l = T) (hT1 : 1 ≤ T) (hn : 1 ≤ n ∧ n ≤ 1024) (hu : 0 ≤ u ∧ u < T) {a0 : Pa} (h0 : l[0]? = some a0) : ∀ (t i k : Nat) (ob : List Pa), n.toNat - i = t → (i : Int) ≤ n → k < l.length → i ≤ ob.length → (k = 0 ∨ (1 ≤ i ∧ n * a0.W ≤ u + ((i : Int) - 1) * T)) →
    (∀ j, j < i → ∃ b, ob[j]? = some b ∧ (u + (j : Int) * T < n * a0.W → b.X = a0.X ∧ b.Y = a0.Y ∧ b.H = a0.H)) → (∀ j, j < i → ∀ b, ob[j]? = some b → okP b) →
    ∃ ob', l12_3 (l, n, u, T, i, (k : Int), pre l (k + 1), n, (i : Int), ob, ()) = some (n.toNat, ob', ()) ∧ n.toNat ≤ ob'.length ∧ (∀ j, j < n.toNat → ∃ b, ob'[j]? = some b ∧ (u + (j : Int) * T < n * a0.W → b.X = a0.X ∧ b.Y = a0.Y ∧ b.H = a0.H)) ∧ (∀ j, j < n.toNat → ∀ b, ob'[j]? = some b → okP b)
  | t, i, k, ob, ht, hi, hk, hob, hinv, hpos, hok => by
    have hll := hl.1
    unfold l12_3
    rw [iterO_eq]
    by_cases e : (i : Int) = n
    · have c1 : ¬ (i : Int) < n := by omega
      have hd : r12_3 (l, n, u, T, i, (k : Int), pre l (k + 1), n, (i : Int), ob, ()) = some (.inr (i, ob, ())) := by
        unfold r12_3
        simp only [c1, decide_false, cond_false]
      rw [hd]
      have e2 : n.toNat = i := by omega
      rw [e2]
      exact ⟨ob, rfl, hob, hpos, hok⟩
    · have c1 : (i : Int) < n := by omega
      obtain ⟨k', q1, q2, q3⟩ := l12_9_spec hl hT hT1 hn hu (i := (i : Int)) (by omega) i n (i : Int) ob (l.length - k) k rfl hk
      obtain ⟨a, ha⟩ : ∃ a, l[k']? = some a := ⟨_, List.getElem?_eq_getElem q2⟩
      have hoa := hl.2 a (List.mem_of_getElem? ha)
      have w1 : IntKind.i64.wrap ((i : Int) + 1) = ((i + 1 : Nat) : Int) := by rw [w64 (by omega) (by omega)]; rfl
      have ro : roomy (i + 1) 32 = true := roomy_ok (by omega)
      have hd : r12_3 (l, n, u, T, i, (k : Int), pre l (k + 1), n, (i : Int), ob, ()) = some (.inl (l, n, u, T, i + 1, (k' : Int), pre l (k' + 1), n, ((i + 1 : Nat) : Int), ob.take i ++ [Pa.mk a.X a.Y a.H 1], ())) := by
        unfold r12_3
        simp only [c1, decide_true, cond_true, q1, Option.bind_some, idxO_nat, ha, Nat.zero_add, hob, ro, w1, List.drop_zero]
      rw [hd]
      have htl : (ob.take i).length = i := by rw [List.length_take]; omega
      have p1 : pre l 1 = a0.W := by
        rw [pre_succ h0]
        simp [pre, tot]
      have isZero : u + (i : Int) * T < n * a0.W → k' = 0 := fun hlt => by
        have hk0 : k = 0 := by
          rcases hinv with h | ⟨h1, h2⟩
          · exact h
          · rw [Int.sub_mul, Int.one_mul] at h2
            omega
        subst hk0
        exact q3 (by rw [p1]; omega)
      match t, ht with
      | 0, ht => omega
      | t + 1, ht =>
        refine l12_3_spec hl hT hT1 hn hu h0 t (i + 1) k' (ob.take i ++ [Pa.mk a.X a.Y a.H 1]) (by omega) (by omega) q2 (by simp [htl]) ?_ (fun j hj => ?_) (fun j hj b hb => ?_)
        · by_cases hlt : u + (i : Int) * T < n * a0.W
          · exact .inl (isZero hlt)
          · refine .inr ⟨by omega, ?_⟩
            rw [show (((i + 1 : Nat) : Int) - 1) = (i : Int) by omega]
            omega
        · by_cases hji : j < i
          · obtain ⟨b, h1, h2⟩ := hpos j hji
            refine ⟨b, ?_, h2⟩
            rw [List.getElem?_append_left (by omega), List.getElem?_take_of_lt hji]
            exact h1
          · have : j = i := by omega
            subst this
            refine ⟨⟨a.X, a.Y, a.H, 1⟩, ?_, fun hlt => ?_⟩
            · rw [List.getElem?_append_right (by omega), htl, Nat.sub_self]
              rfl
            · have := isZero hlt
              subst this
              rw [h0] at ha
              cases ha
              exact ⟨rfl, rfl, rfl⟩
        · by_cases hji : j < i
          · rw [List.getElem?_append_left (by omega), List.getElem?_take_of_lt hji] at hb
            exact hok j hji b hb
          · have : j = i := by omega
            subst this
            rw [List.getElem?_append_right (by omega), htl, Nat.sub_self] at hb
            cases hb
            exact ⟨hoa.1, by simp only; omega, by simp only; omega⟩

/-- particle.Resample. -/
theorem f12_spec (hl : okF l) (hT : tot l = T) (hT1 : 1 ≤ T) (hn : 1 ≤ n ∧ n ≤ 1024) (hu : 0 ≤ u ∧ u < T) {a0 : Pa} (h0 : l[0]? = some a0) :
    ∃ ob, f12 (l, n, u, ()) = some (n.toNat, 0, ob, ()) ∧ n.toNat ≤ ob.length ∧ (∀ j, j < n.toNat → ∃ b, ob[j]? = some b ∧ (u + (j : Int) * T < n * a0.W → b.X = a0.X ∧ b.Y = a0.Y ∧ b.H = a0.H)) := by
  have hlt := (List.getElem?_eq_some_iff.1 h0).1
  have i0 : idxO l (0 : Int) = some a0 := by
    have := idxO_nat l 0
    rw [h0] at this
    exact this
  have p1 : pre l 1 = a0.W := by
    rw [pre_succ h0]
    simp [pre, tot]
  obtain ⟨ob, q1, q2, q3, _⟩ := l12_3_spec hl hT hT1 hn hu h0 n.toNat 0 0 [] (by omega) (by omega) hlt (by simp) (.inl rfl) (fun j hj => absurd hj (Nat.not_lt_zero j)) (fun j hj => absurd hj (Nat.not_lt_zero j))
  have q1' : l12_3 (l, n, u, T, 0, 0, pre l 1, n, 0, [], ()) = _ := q1
  rw [p1] at q1'
  have c1 : ¬ n < 1 := by omega
  have c2 : ¬ n > 1024 := by omega
  have c3 : (T == 0) = false := by rw [beq_eq_false_iff_ne]; omega
  have c4 : ¬ u < 0 := by omega
  have c5 : ¬ u ≥ T := by omega
  refine ⟨ob, ?_, q2, q3⟩
  unfold f12
  simp only [f11_spec hl, hT, Option.bind_some, f16_ok hl, Bool.not_true, cond_false, c1, c2, c3, c4, c5, decide_false, i0, q1']
end
end Go.AE
