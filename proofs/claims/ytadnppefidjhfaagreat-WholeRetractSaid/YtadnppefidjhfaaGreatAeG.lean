/-
  AE, part 15: a state told anew: dead slots forgotten, objects numbered anew; loops.
-/
import Derived.Test.YtadnppefidjhfaaGreatAeV
import Derived.Deep.LoopGhost
namespace Go.AE
open Go.RowKit

section
variable {C : Cfg}

def maskT {E : Nat → Type} (lv : List Nat) : Nat → List (AV E) → List (AV E)
  | _, [] => []
  | i, x :: r => (match lv.contains i with
    | true => x
    | false => .bot) :: maskT lv (i + 1) r

def reemb {E : Nat → Type} (lv m : List Nat) (st : St E) : St E := ⟨(maskT lv 0 st.t).map (renV fun i => idxIn m i 0), pickH m st.h⟩

theorem maskT_get {E : Nat → Type} (lv : List Nat) : ∀ (t : List (AV E)) (k i : Nat), (maskT lv k t)[i]? = (t[i]?).map fun x => match lv.contains (k + i) with
    | true => x
    | false => .bot
  | [], k, i => by simp [maskT]
  | x :: t, k, 0 => by simp [maskT]
  | x :: t, k, i + 1 => by
    simp only [maskT, List.getElem?_cons_succ]
    rw [maskT_get lv t (k + 1) i, show k + 1 + i = k + (i + 1) by omega]

theorem maskT_len {E : Nat → Type} (lv : List Nat) : ∀ (t : List (AV E)) (k : Nat), (maskT lv k t).length = t.length
  | [], k => rfl
  | x :: t, k => by simp [maskT, maskT_len lv t]

/-- The first k numbers stay. -/
def headB : Nat → List Nat → Bool
  | 0, _ => true
  | k + 1, l => (match l[k]? with
    | some x => Nat.beq x k
    | none => false) && headB k l

theorem headB_spec : ∀ (k : Nat) (l : List Nat), headB k l = true → k ≤ l.length ∧ ∀ i, i < k → l[i]? = some i
  | 0, l, _ => ⟨Nat.zero_le _, fun i h => absurd h (Nat.not_lt_zero _)⟩
  | k + 1, l, h => by
    simp only [headB, Bool.and_eq_true] at h
    obtain ⟨h1, h2⟩ := h
    obtain ⟨h3, h4⟩ := headB_spec k l h2
    split at h1
    · rename_i x hx
      have := Nat.eq_of_beq_eq_true h1
      subst this
      refine ⟨lt_of_getElem? hx, fun i hi => ?_⟩
      rcases Nat.lt_or_ge i x with h5 | h5
      · exact h4 i h5
      · have : i = x := by omega
        subst this; exact hx
    · cases h1

theorem reemb_ok (hC : CfgOK C) {c : Ctx} {w : World} {st : St C.E} {a : Act} (hr : Rep C c w st a) {k : Nat} {lv m : List Nat} (hn : nodupB m = true) (hk : headB k m = true) :
    Rep C (pickC c m) w (reemb lv m st) a ∧ LeK k c st.h w (pickC c m) (reemb lv m st).h w := by
  obtain ⟨p1, p2, p3⟩ := pick_ok hC hr.heap (nodupB_spec _ hn)
  obtain ⟨k1, k2⟩ := headB_spec k m hk
  refine ⟨⟨hr.defers, ?_, fun i => ?_, p2⟩, ⟨k1, fun id loc hid hs => ?_, fun _ h => h, fun _ h => h, fun _ _ h => .inl h, fun _ _ h => .inl h, fun k _ ho => p3 k ho, Nat.le_refl _, rfl, rfl, rfl, fun _ _ _ => rfl, fun _ cs _ fr h => ⟨cs, fr, h, rfl⟩⟩⟩
  · simp only [reemb, List.length_map, maskT_len]; exact hr.size
  · have hs := hr.slot i
    simp only [reemb, List.getD_eq_getElem?_getD, List.getElem?_map, maskT_get, Nat.zero_add] at hs ⊢
    cases hi : st.t[i]? with
    | none =>
      rw [hi] at hs
      simp only [Option.map_none, Option.getD_none] at hs ⊢
      exact R_renV p1 hs
    | some x =>
      rw [hi] at hs
      simp only [Option.map_some, Option.getD_some] at hs ⊢
      split
      · exact R_renV p1 hs
      · exact .bot _
  · show (m[id]?).bind c.σ = some loc
    rw [k2 id hid]; exact hs

/-! ### Loops -/

/-- A loop, its rounds as steps between states of a plain type. -/
structure LoopOK (C : Cfg) (Γ : FuncId → Option (CF C)) (Λ : Nat → Option (LF C)) (k : Nat) (body : Code) (S X : Type) where
  emb : S → St C.E
  Inv : S → Prop
  next : S → S ⊕ X
  mu : S → Nat
  fin : S → X
  stepSt : S → Exit × St C.E
  outE : X → Exit
  outSt : X → St C.E
  lv : List Nat
  m : List Nat
  lvo : List Nat
  mo : List Nat
  good : (nodupB m && headB k m && (nodupB mo && headB k mo)) = true
  run : ∀ s, Inv s → exec C Γ Λ body (emb s) (fun e st => some (e, st)) = some (stepSt s)
  again : ∀ s s', Inv s → next s = .inl s' → (stepSt s).1 = .normal ∧ reemb lv m (stepSt s).2 = emb s' ∧ Inv s' ∧ mu s' < mu s ∧ fin s = fin s'
  out : ∀ s x, Inv s → next s = .inr x → (stepSt s).1 = outE x ∧ outE x ≠ .normal ∧ reemb lvo mo (stepSt s).2 = outSt x ∧ fin s = x

theorem loop_ok {Γ : FuncId → Option (CF C)} (hS : SysN C Γ) {Λ : Nat → Option (LF C)} {k : Nat} {body : Code} (hΛ : LamAt C k Λ body) {S X : Type} (L : LoopOK C Γ Λ k body S X) (s : S) (hI : L.Inv s) {c : Ctx} {w : World} {a : Act} (hr : Rep C c w (L.emb s) a) (hn : k ≤ c.n)
    (Q : Exit → Act → World → Prop) (hq : ∀ a' c' w', Rep C c' w' (L.outSt (L.fin s)) a' → LeK k c (L.emb s).h w c' (L.outSt (L.fin s)).h w' → Q (L.outE (L.fin s)) a' w') : (Code.loop body).wp C.P Q a w := by
  obtain ⟨g1, g2⟩ := and_split L.good
  obtain ⟨g3, g4⟩ := and_split g1
  obtain ⟨g5, g6⟩ := and_split g2
  refine wp_loop_ghost (fun n a' w' => ∃ s' c', L.mu s' = n ∧ L.Inv s' ∧ Rep C c' w' (L.emb s') a' ∧ LeK k c (L.emb s).h w c' (L.emb s').h w' ∧ L.fin s = L.fin s') (L.mu s) ⟨s, c, rfl, hI, hr, (Le.refl _ _ _).toK hn, rfl⟩ ?_
  rintro n a1 w1 ⟨s1, c1, rfl, hI1, hr1, hle1, hf1⟩
  refine exec_ok hS body hΛ (fun e st => some (e, st)) (L.stepSt s1) (L.emb s1) a1 c1 w1 (L.run s1 hI1) hr1 hle1.n _ ?_
  intro e st' a' c' w' he hr2 hle2
  have he : (e, st') = L.stepSt s1 := Option.some.inj he
  have he1 : e = (L.stepSt s1).1 := by rw [← he]
  have he2 : st' = (L.stepSt s1).2 := by rw [← he]
  cases hnx : L.next s1 with
  | inl s2 =>
    obtain ⟨h1, h2, h3, h4, h5⟩ := L.again s1 s2 hI1 hnx
    rw [h1] at he1
    subst he1
    obtain ⟨q1, q2⟩ := reemb_ok hS.sys.cfg hr2 (lv := L.lv) g3 g4
    rw [he2, h2] at q1 q2
    exact ⟨L.mu s2, h4, s2, _, rfl, h3, q1, hle1.trans (hle2.trans (by rw [he2]; exact q2)), hf1.trans h5⟩
  | inr x =>
    obtain ⟨h1, h2, h3, h4⟩ := L.out s1 x hI1 hnx
    obtain ⟨q1, q2⟩ := reemb_ok hS.sys.cfg hr2 (lv := L.lvo) g5 g6
    rw [he2, h3] at q1 q2
    have hx : L.fin s = x := hf1.trans h4
    rw [hx] at hq
    rw [h1] at he1
    have := hq a' _ w' q1 (hle1.trans (hle2.trans (by rw [he2]; exact q2)))
    rw [← he1] at this h2
    cases e with
    | normal => exact (h2 rfl).elim
    | _ => exact this

def leaveE (id : Nat) : Exit → Exit
  | .exit j => match Nat.beq j id with
    | true => .normal
    | false => .exit j
  | e => e

/-- The word for a block that is a loop. -/
def loopLF {Γ : FuncId → Option (CF C)} {Λ : Nat → Option (LF C)} {k : Nat} {body : Code} {S X : Type} (L : LoopOK C Γ Λ k body S X) (id : Nat) (lv m : List Nat) (enter : St C.E → Option S) : LF C :=
  ⟨fun st K => match enter (reemb lv m st) with
    | some s => K (leaveE id (L.outE (L.fin s))) (L.outSt (L.fin s))
    | none => none⟩

theorem loopLF_ok {Γ : FuncId → Option (CF C)} (hS : SysN C Γ) {Λ : Nat → Option (LF C)} {k : Nat} {body : Code} (hΛ : LamAt C k Λ body) {S X : Type} (L : LoopOK C Γ Λ k body S X) {id : Nat} {lv m : List Nat} {enter : St C.E → Option S}
    (hm : (nodupB m && headB k m) = true) (hent : ∀ st s, enter st = some s → st = L.emb s ∧ L.Inv s) : Snd C k (.block id (.loop body)) (loopLF L id lv m enter).k := by
  intro Z K z st a c w hk hr hn Q hq
  unfold loopLF at hk
  simp only at hk
  split at hk
  · rename_i s hs
    obtain ⟨h1, h2⟩ := hent _ _ hs
    obtain ⟨m1, m2⟩ := and_split hm
    obtain ⟨q1, q2⟩ := reemb_ok hS.sys.cfg hr (lv := lv) m1 m2
    rw [h1] at q1 q2
    refine wp_block (loop_ok hS hΛ L s h2 q1 q2.n _ ?_)
    intro a' c' w' r1 r2
    have := hq _ _ a' c' w' hk r1 (q2.trans r2)
    generalize L.outE (L.fin s) = e at this ⊢
    cases e with
    | exit j =>
      simp only [Exit.inBlock]
      simp only [leaveE] at this
      split at this
      · rename_i hj
        rw [if_pos (Nat.eq_of_beq_eq_true hj)]; exact this
      · rename_i hj
        rw [if_neg (fun he => by rw [he] at hj; simp at hj)]; exact this
    | _ => exact this
  · cases hk

theorem lam_look {n : Nat} {l : List (Nat × LF C)} {code : Code} (h : ∀ p ∈ l, ∃ x, keyed p.1 code = [x] ∧ Snd C n x p.2.k) : LamAt C n (look l) code :=
  lamAt_of code fun key L hL x hx => by
    obtain ⟨y, h1, h2⟩ := h _ (look_mem l key L hL)
    rw [h1] at hx
    rw [List.mem_singleton.1 hx]
    exact h2

def loopBody (fn : Func) (id : Nat) : Code := match keyed (3 * id) (bodyOf fn) with
  | [.block _ (.loop b)] => b
  | _ => .skip

end
end Go.AE
