/-
  AE, part 18: a slice that is only read is compared with nil. What follows is told for both answers; nil only where there are no elements.
-/
import Derived.Test.YtadnppefidjhfaaGreatAeH
namespace Go.AE
open Go.RowKit

/-- Behind a loop that no way leads out of. -/
def noAlt {Z : Type} (y : Empty) : Option Z := elimP (E := fun _ => Empty) [] y (fun _ _ => none)

section
variable {C : Cfg}

theorem exec_seq {Z : Type} (Γ : FuncId → Option (CF C)) (Λ : Nat → Option (LF C)) (a b : Code) (st : St C.E) (K : Exit → St C.E → Option Z) :
    exec C Γ Λ (.seq a b) st K = exec C Γ Λ a st fun e s => match e with
      | .normal => match Λ (cutKey b) with
        | some L => L.k s K
        | none => exec C Γ Λ b s K
      | e => K e s := rfl

theorem run_eql_nil {P : Program} (w : World) {t e : TypeId} (a : Option Addr) (n c : Nat) (ht : P.underlying t = some (.slice e)) :
    (binOp .eql t (.slice a n c) (.slice none 0 0)).run P w = .ok (.bool a.isNone) w := by
  have h : ∀ d : Nat, (Op.equalIn (d + 1) t (.slice a n c) (.slice none 0 0)).run P w = .ok a.isNone w := fun d => by
    simp [Op.equalIn, run_underlying ht]
    cases a <;> simp
  simp only [binOp]
  simp [Op.equal, Op.maxDepth, h 9999]

/-- What stands behind the comparison, with the branch ahead. -/
def restOf : Code → Code
  | .seq (.seq _ c) y => .seq c y
  | c => c

/-- A code that begins with the comparison of slot s with nil (by way of slot m, into slot d), and a branch on it. -/
def NilHead (code : Code) (s m d : Nat) (ty : TypeId) : Prop :=
  ∃ r1 q1 s1 f1 ty' q2 s2 f2 N M Y, code = .seq (.seq (.region r1 #[⟨some m, .move (.tmp s), q1, s1, f1, none⟩, ⟨some d, .binOp .eql ty (.tmp m) (.const (.slice none 0 0)) ty', q2, s2, f2, none⟩] false) (.cond (.tmp d) N M)) Y

theorem nil_cut {Γ : FuncId → Option (CF C)} (hS : SysN C Γ) {Λ : Nat → Option (LF C)} {k : Nat} {p : PS} (hk : k ≤ p.k) {s m d : Nat} {ty el : TypeId} {code : Code} (hcode : NilHead code s m d ty)
    (hu : C.P.underlying ty = some (.slice el)) (hΛ : LamAt C k Λ (restOf code)) {f : p.s.ty C.E → Option (altP C.E p.outs)}
    (hf : ∀ x, ∃ e xs, (p.s.emb x).t.getD s .undef = .imm e xs ∧ ∀ t, (t = true → xs = []) →
      exec C Γ Λ (restOf code) ⟨((p.s.emb x).t.set m (.imm e xs)).set d (.bool t), (p.s.emb x).h⟩ (fun e st => unP p.k p.outs e st) = f x)
    (hm : ∀ x : p.s.ty C.E, m < (p.s.emb x).t.length) :
    Snd C k code (cutLF C p f).k := by
  obtain ⟨r1, q1, s1, f1, ty', q2, s2, f2, N, M, Y, rfl⟩ := hcode
  simp only [restOf] at hΛ hf
  intro Z K z st a c w hz hr hn Q hq
  unfold cutLF at hz
  simp only at hz
  obtain ⟨st', h1, hz⟩ := bind_eq hz
  obtain ⟨x, h2, hz⟩ := bind_eq hz
  obtain ⟨y, h3, hz⟩ := bind_eq hz
  rw [elimP_eq] at hz
  obtain ⟨c1, r1', l1⟩ := recan_ok hS.sys.cfg hr h1 hk hn
  rw [← ST.ok h2] at r1' l1
  obtain ⟨e, xs, g1, g2⟩ := hf x
  have hv := r1'.slot s
  rw [g1] at hv
  generalize hw : a.tmps.getD s undef = v at hv
  have key : ∃ ad n cp, v = .slice ad n cp ∧ (ad = none → xs = []) := by
    cases hv with
    | imm0 _ _ => exact ⟨_, _, _, rfl, fun _ => rfl⟩
    | imm f hI hl hm hc hr => exact ⟨_, _, _, rfl, fun h => by cases h⟩
  obtain ⟨ad, n, cp, rfl, hnil⟩ := key
  have hq1 := r1'.put (some m) ((Le.refl c1 (p.s.emb x).h w).keeps r1'.heap) r1'.heap (x := .imm e xs) (v := .slice ad n cp) hv
  have hmv : (a.put (some m) (.slice ad n cp)).eval (.tmp m) = .slice ad n cp := by
    have hs := r1'.size
    have hmx := hm x
    simp [Act.put, Act.eval, Array.getD_eq_getD_getElem?, hs, hmx]
  have hq2 := hq1.put (some d) ((Le.refl c1 (p.s.emb x).h w).keeps r1'.heap) r1'.heap (x := .bool ad.isNone) (v := .bool ad.isNone) (.bool _)
  refine wp_seq (wp_seq (wp_region ?_))
  show wpOps C.P _ _ [0, 1] a w
  have e1 : (execOp a.eval ⟨some m, .move (.tmp s), q1, s1, f1, none⟩).run C.P w = .ok (.value (.slice ad n cp)) w := by
    have : a.eval (.tmp s) = .slice ad n cp := hw
    simp [execOp, this]
  have e2 : (execOp (a.put (some m) (.slice ad n cp)).eval ⟨some d, .binOp .eql ty (.tmp m) (.const (.slice none 0 0)) ty', q2, s2, f2, none⟩).run C.P w = .ok (.value (.bool ad.isNone)) w := by
    have e3 : (a.put (some m) (.slice ad n cp)).eval (.const (.slice none 0 0)) = .slice none 0 0 := rfl
    refine run_v ?_
    simp only [hmv, e3, eqGuard_at_slice]
    have := run_eql_nil w ad n cp hu
    simpa using this
  simp only [wpOps, List.getElem?_toArray, List.getElem?_cons_zero, List.getElem?_cons_succ, Region.wanted, if_true]
  refine .inl ?_
  unfold Oper.wp
  rw [e1, Oper.upon_value]
  refine .inl ?_
  rw [e2, Oper.upon_value]
  have g3 := g2 ad.isNone (fun h => hnil (by simpa using h))
  rw [exec_seq, h3] at g3
  have fin : ∀ e st3 a3 c3 w3, unP p.k p.outs e st3 = some y → Rep C c3 w3 st3 a3 → LeK k c1 (p.s.emb x).h w c3 st3.h w3 → Q e a3 w3 := by
    intro e st3 a3 c3 w3 he hr2 hle
    obtain ⟨e1, lv, co, e2⟩ := unP_ok he
    obtain ⟨c4, r4, l4⟩ := recan_ok hS.sys.cfg hr2 e2 hk hle.n
    rw [e1]
    exact hq _ _ a3 c4 w3 hz r4 (l1.trans (hle.trans l4))
  show Code.wp C.P (.cond (.tmp d) N M) _ _ _
  refine exec_ok hS (.cond (.tmp d) N M) hΛ.1 _ y _ _ c1 w g3 hq2 l1.n _ ?_
  intro e2 st2 a' c' w' hk2 hr2 hle
  cases e2 with
  | normal =>
    show Code.wp C.P Y Q _ _
    have h2 := hΛ.2
    simp only at hk2
    split at hk2
    · rename_i L hL
      rw [hL] at h2
      exact h2 _ y st2 a' c' w' hk2 hr2 hle.n Q (fun e st3 a3 c3 w3 h4 h5 h6 => fin _ _ _ _ _ h4 h5 (hle.trans h6))
    · rename_i hL
      rw [hL] at h2
      exact exec_ok hS Y h2 _ y st2 a' c' w' hk2 hr2 hle.n Q (fun e st3 a3 c3 w3 h4 h5 h6 => fin _ _ _ _ _ h4 h5 (hle.trans h6))
  | _ => exact fin _ _ _ _ _ hk2 hr2 hle

end
end Go.AE
