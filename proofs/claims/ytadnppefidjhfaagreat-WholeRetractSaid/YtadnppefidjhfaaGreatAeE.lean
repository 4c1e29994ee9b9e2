/-
  AE, part 12: codes.
-/
import Derived.Test.YtadnppefidjhfaaGreatAeD
namespace Go.AE
open Go.RowKit

section
variable {C : Cfg}

theorem enumF_len {α : Type} : ∀ (i : Nat) (l : List α), (enumF i l).length = l.length
  | _, [] => rfl
  | i, x :: l => by simp [enumF, enumF_len (i + 1) l]

theorem enumF_mem {α : Type} : ∀ (i : Nat) (l : List α) (p : Nat × α), p ∈ enumF i l ↔ i ≤ p.1 ∧ l[p.1 - i]? = some p.2
  | i, [], p => by simp [enumF]
  | i, x :: l, p => by
    simp only [enumF, List.mem_cons, enumF_mem (i + 1) l p]
    constructor
    · rintro (rfl | ⟨h1, h2⟩)
      · simp
      · refine ⟨by omega, ?_⟩
        rw [show p.1 - i = (p.1 - (i + 1)) + 1 by omega]
        simpa using h2
    · rintro ⟨h1, h2⟩
      rcases Nat.eq_or_lt_of_le h1 with h | h
      · left
        rw [← h, Nat.sub_self] at h2
        simp at h2
        rw [h, h2]
      · right
        refine ⟨by omega, ?_⟩
        rw [show p.1 - i = (p.1 - (i + 1)) + 1 by omega] at h2
        simpa using h2

theorem enumF_sorted {α : Type} : ∀ (i : Nat) (l : List α), (enumF i l).Pairwise (fun p q => p.1 < q.1)
  | _, [] => List.Pairwise.nil
  | i, x :: l => List.Pairwise.cons (fun p hp => by have := ((enumF_mem (i + 1) l p).1 hp).1; show i < p.1; omega) (enumF_sorted (i + 1) l)

theorem edgesB_spec : ∀ (l : List Oper) (i : Nat), edgesB i l = true → ∀ (j : Nat) (o : Oper), l[j]? = some o → ∀ e ∈ o.after, Region.binds .any e = true → e.on < i + j
  | [], i, _, j, o, ho => by simp at ho
  | x :: l, i, h, j, o, ho => by
    simp only [edgesB, Bool.and_eq_true] at h
    cases j with
    | zero =>
      simp at ho
      subst ho
      intro e he hb
      have := List.all_eq_true.1 h.1 e (Array.mem_toList_iff.2 he)
      rw [hb] at this
      simp only [Bool.not_true, Bool.false_or] at this
      have := Nat.le_of_ble_eq_true this
      omega
    | succ j =>
      intro e he hb
      have := edgesB_spec l (i + 1) h.2 j o (by simpa using ho) e he hb
      omega

/-- More numbers, none of them in use. -/
theorem HR_more {c : Ctx} {w : World} {h : Heap C.E} (hh : HR C c w h) (m : Nat) :
    HR C { c with n := c.n + m } w (h ++ List.replicate m none) ∧ Le c h w { c with n := c.n + m } (h ++ List.replicate m none) w ∧ Keeps c w { c with n := c.n + m } w := by
  have hk : Keeps c w { c with n := c.n + m } w := ⟨Nat.le_add_right _ _, fun _ _ _ h => h, fun _ h => h, fun _ h => h, fun _ _ => rfl, fun _ cs _ fr h => ⟨cs, fr, h, rfl⟩⟩
  have hget : ∀ (id : Nat) (o : Ob C.E), (h ++ List.replicate m none)[id]? = some (some o) → h[id]? = some (some o) := by
    intro id o ho
    rcases Nat.lt_or_ge id h.length with h1 | h1
    · rwa [List.getElem?_append_left h1] at ho
    · rw [List.getElem?_append_right h1, List.getElem?_replicate] at ho
      split at ho <;> cases ho
  have hown : ∀ k, Own { c with n := c.n + m } (h ++ List.replicate m none) k → Own c h k := fun k ⟨id, o, loc, h1, h2, h3⟩ => ⟨id, o, loc, hget _ _ h1, h2, h3⟩
  refine ⟨⟨hh.gl.keep hk, ?_, ?_, hh.bnd, hh.hI, ?_, ?_, ?_⟩, ⟨Nat.le_add_right _ _, fun _ _ _ h => h, fun _ h => h, fun _ h => h, fun _ _ h => .inl h, fun _ _ h => .inl h, fun k _ ho => hown k ho, Nat.le_refl _, rfl, rfl, rfl, fun _ _ _ => rfl, fun _ cs _ fr h => ⟨cs, fr, h, rfl⟩⟩, hk⟩
  · simp [hh.len]
  · intro id hid
    have : c.n + m ≤ id := hid
    exact hh.sn id (by omega)
  · intro id o ho
    have := hget _ _ ho
    exact ObR_keep hk (hh.ob _ _ this) (by rw [← hh.len]; exact lt_of_getElem? this) (fun h => h) (fun _ _ => rfl)
  · intro id o loc ho hs
    exact hh.soft _ _ _ (hget _ _ ho) hs
  · intro i j oi oj li lj h1 h2 h3 h4 h5
    exact hh.inj _ _ _ _ _ _ (hget _ _ h1) (hget _ _ h2) h3 h4 h5

/-- Another world of the same heap. -/
theorem HR_world {c : Ctx} {w w' : World} {h : Heap C.E} (hh : HR C c w h) (hw : w'.heap = w.heap) (h1 : w'.os = w.os) (h2 : w'.tape = w.tape) (h3 : w'.output = w.output) : HR C c w' h ∧ Le c h w c h w' ∧ Keeps c w c w' := by
  have hk : Keeps c w c w' := ⟨Nat.le_refl _, fun _ _ _ h => h, fun _ h => h, fun _ h => h, fun _ _ => by rw [hw], fun k cs e fr h => ⟨cs, fr, by rw [hw]; exact h, rfl⟩⟩
  refine ⟨⟨hh.gl.keep hk, hh.len, hh.sn, fun k hI => by rw [hw]; exact hh.bnd k hI, hh.hI, fun id o ho => ObR_keep hk (hh.ob id o ho) (by rw [← hh.len]; exact lt_of_getElem? ho) (fun h => h) (fun _ _ => by rw [hw]), ?_, hh.inj⟩,
    ⟨Nat.le_refl _, fun _ _ _ h => h, fun _ h => h, fun _ h => h, fun _ _ h => .inl h, fun _ _ h => .inl h, fun _ _ h => h, by rw [hw]; exact Nat.le_refl _, h1, h2, h3, fun _ _ _ => by rw [hw], fun k cs e fr h => ⟨cs, fr, by rw [hw]; exact h, rfl⟩⟩, hk⟩
  intro id o loc ho hs
  obtain ⟨a, d⟩ := hh.soft id o loc ho hs
  exact ⟨a.same (by rw [hw]), d⟩

theorem draw_ok {Γ : FuncId → Option (CF C)} (hS : SysN C Γ) (id : Nat) (ops : Array Oper) {Z : Type} (K : St C.E → Option Z) (z : Z) (st : St C.E) (a : Act) (c : Ctx) (w : World)
    (hk : (opsD C Γ ops.toList st.h.length 0 ops.toList { st with h := st.h ++ List.replicate (8 * ops.toList.length) none } [] fun st fs =>
      match okFPs ops.toList fs && edgesB 0 ops.toList with
      | true => K st
      | false => none) = some z) (hr : Rep C c w st a) (Q : Exit → Act → World → Prop)
    (hq : ∀ st' a' c' w', K st' = some z → Rep C c' w' st' a' → Le c st.h w c' st'.h w' → Q .normal a' w') : (Code.region id ops true).wp C.P Q a w := by
  obtain ⟨stE, fs, hrun, hk2⟩ := opsD_run hS.nat ops _ _ _ _ _ _ _ hk
  simp only [List.append_nil] at hk2
  split at hk2
  · rename_i hb
    obtain ⟨hb1, hb2⟩ := and_split hb
    have hp := okFPs_pair _ _ hb1
    rw [List.pairwise_reverse] at hp
    obtain ⟨x1, x2, x3⟩ := HR_more hr.heap (8 * ops.toList.length)
    obtain ⟨y1, y2, y3⟩ := HR_world (w' := { w with drawn := w.drawn + 1 }) x1 rfl rfl rfl rfl
    refine wp_region_any hS.sys.cfg.mixed (any_ok hS ops ?_ st.h.length Q ops.size _ (enumF 0 ops.toList) { st with h := st.h ++ List.replicate (8 * ops.toList.length) none } stE fs { c with n := c.n + 8 * ops.toList.length } a _
      (by rw [enumF_len]; simp) (by simp) hrun hp (by simp) (enumF_sorted _ _) ?_ ?_ ?_ ?_ ?_ ?_)
    · intro i o ho e he hbd
      have := edgesB_spec _ _ hb2 i o (by rw [Array.getElem?_toList]; exact ho) e he hbd
      omega
    · intro p hpm
      have h1 := ((enumF_mem _ _ _).1 hpm).2
      simp only [Nat.sub_zero, Array.getElem?_toList] at h1
      have h2 := (Array.getElem?_eq_some_iff.1 h1).1
      refine ⟨h1, h2, ?_⟩
      simp [h2]
    · intro i hi _
      exact ⟨ops[i], (enumF_mem _ _ _).2 ⟨Nat.zero_le _, by simp [hi]⟩⟩
    · intro k o _ hk
      simp [Array.getD] at hk
    · intro p hpm j hj
      have h1 := ((enumF_mem _ _ _).1 hpm).2
      have h2 : p.1 < ops.toList.length := by have := lt_of_getElem? h1; simpa using this
      refine ⟨?_, hr.heap.sn _ (by have := hr.heap.len; omega)⟩
      show (st.h ++ List.replicate (8 * ops.toList.length) none)[st.h.length + 8 * p.1 + j]? = some none
      rw [List.getElem?_append_right (by omega), List.getElem?_replicate, if_pos (by omega)]
    · exact ⟨hr.defers, hr.size, fun i => ((hr.slot i).keep x3).keep y3, y1⟩
    · intro a' c' w' h1 h2
      exact hq _ _ _ _ hk2 h1 ((x2.trans y2).trans h2)
  · cases hk2

/-- The codes that were cut off, and the blocks that have a word of their own, are sound. -/
def LamAt (C : Cfg) (k : Nat) (Λ : Nat → Option (LF C)) : Code → Prop
  | .seq a b => LamAt C k Λ a ∧ (match Λ (cutKey b) with
    | some L => Snd C k b L.k
    | none => LamAt C k Λ b)
  | .cond _ a b => LamAt C k Λ a ∧ LamAt C k Λ b
  | .block id c => match Λ (3 * id) with
    | some L => Snd C k (.block id c) L.k
    | none => LamAt C k Λ c
  | _ => True

theorem exec_ok {Γ : FuncId → Option (CF C)} (hS : SysN C Γ) {k : Nat} {Λ : Nat → Option (LF C)} : ∀ (code : Code), LamAt C k Λ code → Snd C k code (exec C Γ Λ code)
  | .skip, _, Z, K, z, st, a, c, w, hk, hr, hn, Q, hq => by
    simp only [exec] at hk
    exact wp_skip (hq _ _ _ _ _ hk hr ((Le.refl _ _ _).toK hn))
  | .exit id, _, Z, K, z, st, a, c, w, hk, hr, hn, Q, hq => by
    simp only [exec] at hk
    exact wp_exit (hq _ _ _ _ _ hk hr ((Le.refl _ _ _).toK hn))
  | .ret, _, Z, K, z, st, a, c, w, hk, hr, hn, Q, hq => by
    simp only [exec] at hk
    exact wp_ret (hq _ _ _ _ _ hk hr ((Le.refl _ _ _).toK hn))
  | .region id ops draw, _, Z, K, z, st, a, c, w, hk, hr, hn, Q, hq => by
    cases draw with
    | false =>
      simp only [exec] at hk
      have := opsK_ok hS.sys ops ops.toList 0 (by simp) (K .normal) z st a c w hk hr Q (fun st' a' c' w' h1 h2 h3 => hq _ _ _ _ _ h1 h2 (h3.toK hn))
      rw [← List.range_eq_range', Array.length_toList] at this
      exact wp_region this
    | true =>
      simp only [exec] at hk
      exact draw_ok hS id ops (K .normal) z st a c w hk hr Q (fun st' a' c' w' h1 h2 h3 => hq _ _ _ _ _ h1 h2 (h3.toK hn))
  | .seq x y, hl, Z, K, z, st, a, c, w, hk, hr, hn, Q, hq => by
    simp only [exec] at hk
    refine wp_seq (exec_ok hS x hl.1 _ z st a c w hk hr hn _ ?_)
    intro e st' a' c' w' hk2 hr2 hle
    cases e with
    | normal =>
      simp only [Exit.then]
      have h2 := hl.2
      simp only at hk2
      split at hk2
      · rename_i L hL
        rw [hL] at h2
        exact h2 K z st' a' c' w' hk2 hr2 hle.n Q (fun e st3 a3 c3 w3 h4 h5 h6 => hq _ _ _ _ _ h4 h5 (hle.trans h6))
      · rename_i hL
        rw [hL] at h2
        exact exec_ok hS y h2 K z st' a' c' w' hk2 hr2 hle.n Q (fun e st3 a3 c3 w3 h4 h5 h6 => hq _ _ _ _ _ h4 h5 (hle.trans h6))
    | _ => exact hq _ _ _ _ _ hk2 hr2 hle
  | .cond p x y, hl, Z, K, z, st, a, c, w, hk, hr, hn, Q, hq => by
    simp only [exec] at hk
    split at hk
    · rename_i d
      split at hk
      · rename_i t ht
        have hs := hr.slot d
        rw [ht] at hs
        generalize hv : a.tmps.getD d undef = v at hs
        cases hs
        have hst : ∀ t', t' = t → ({ st with t := st.t.set d (.bool t') } : St C.E) = st := fun t' he => by subst he; rw [set_same ht]
        refine wp_cond (t := t) (by simpa [Act.eval] using hv) ?_
        cases t with
        | true => rw [hst true rfl] at hk; exact exec_ok hS x hl.1 K z st a c w hk hr hn Q hq
        | false => rw [hst false rfl] at hk; exact exec_ok hS y hl.2 K z st a c w hk hr hn Q hq
      · cases hk
    · rename_i t
      refine wp_cond (t := t) rfl ?_
      cases t with
      | true => exact exec_ok hS x hl.1 K z st a c w hk hr hn Q hq
      | false => exact exec_ok hS y hl.2 K z st a c w hk hr hn Q hq
    · cases hk
  | .block id x, hl, Z, K, z, st, a, c, w, hk, hr, hn, Q, hq => by
    simp only [exec] at hk
    simp only [LamAt] at hl
    split at hk
    · rename_i L hL
      rw [hL] at hl
      exact hl K z st a c w hk hr hn Q hq
    · rename_i hL
      rw [hL] at hl
      refine wp_block (exec_ok hS x hl _ z st a c w hk hr hn _ ?_)
      intro e st' a' c' w' hk2 hr2 hle
      cases e with
      | exit j =>
        simp only [Exit.inBlock]
        simp only at hk2
        split at hk2
        · rename_i hj
          rw [if_pos (Nat.eq_of_beq_eq_true hj)]
          exact hq _ _ _ _ _ hk2 hr2 hle
        · rename_i hj
          rw [if_neg (fun he => by rw [he] at hj; simp at hj)]
          exact hq _ _ _ _ _ hk2 hr2 hle
      | _ => exact hq _ _ _ _ _ hk2 hr2 hle
  | .loop _, _, Z, K, z, st, a, c, w, hk, _, _, _, _ => by cases hk
  | .rangeFunc _ _ _ _, _, Z, K, z, st, a, c, w, hk, _, _, _, _ => by cases hk
  | .scope _, _, Z, K, z, st, a, c, w, hk, _, _, _, _ => by cases hk
  | .label _, _, Z, K, z, st, a, c, w, hk, _, _, _, _ => by cases hk
  | .goto _, _, Z, K, z, st, a, c, w, hk, _, _, _, _ => by cases hk
  | .refuse _, _, Z, K, z, st, a, c, w, hk, _, _, _, _ => by cases hk

end
end Go.AE
