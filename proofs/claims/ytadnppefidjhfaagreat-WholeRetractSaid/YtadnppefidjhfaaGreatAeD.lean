/-
  AE, part 11: regions that draw their order.
-/
import Derived.Test.YtadnppefidjhfaaGreatAeL
import Derived.Orders
namespace Go.AE
open Go.RowKit

section
variable {C : Cfg}

theorem opK_congr {Γ : FuncId → Option (CF C)} {Z : Type} {o : Op} {ρ ρ' : Operand → AV C.E} {lk : Nat → Option (Ob C.E)} {nid : Nat} {K : Eff C.E → Option Z} (h : ∀ x ∈ o.operands, ρ x = ρ' x) : opK C Γ o ρ lk nid K = opK C Γ o ρ' lk nid K := by
  have pairs : ∀ ps : Array (Nat × Operand), (∀ x ∈ ps.map (·.2), ρ x = ρ' x) → (ps.toList.map fun p => (p.1, ρ p.2)) = (ps.toList.map fun p => (p.1, ρ' p.2)) := fun ps hp =>
    List.map_congr_left fun p hm => by simp only [hp p.2 (Array.mem_map.2 ⟨p, Array.mem_toList_iff.1 hm, rfl⟩)]
  cases o <;> simp only [Op.operands] at h <;> simp only [opK]
  case build t ps => rw [pairs ps fun x hx => h x (by simpa using hx)]
  case buildSlice t n ps => rw [pairs ps fun x hx => h x (by simpa using hx)]
  case makeFunc fn first cap =>
    have hc : cap.toList.map ρ = cap.toList.map ρ' := List.map_congr_left fun x hx => h x (by simp [Array.mem_toList_iff.1 hx])
    rw [hc]
  case call c =>
    rcases c with ⟨callee, args, tys⟩
    have hargs : args.toList.map ρ = args.toList.map ρ' := List.map_congr_left fun x hx => h x (by simp [Call.operands, Array.mem_toList_iff.1 hx])
    cases callee with
    | value f =>
      have hf := h f (by simp [Call.operands])
      simp only [hargs, hf]
    | invoke a b => rfl
    | builtin b => cases b <;> first | rfl | (simp only [hargs])
  case makeMap t r => cases r <;> rfl
  case slice t x lo hi mx => cases lo <;> cases hi <;> cases mx <;> simp_all
  all_goals (first | rfl | (simp_all; done))

/-! ### Writes in range -/

theorem wrH_in {E : Nat → Type} : ∀ (ws : List (Nat × Option (Ob E))) (h : Heap E), (∀ p ∈ ws, p.1 < h.length) → (wrH h ws).length = h.length ∧ ∀ i, (∀ p ∈ ws, p.1 ≠ i) → (wrH h ws)[i]? = h[i]?
  | [], h, _ => ⟨rfl, fun _ _ => rfl⟩
  | (i, o) :: ws, h, hl => by
    have h1 : i < h.length := hl _ (List.mem_cons_self ..)
    simp only [wrH]
    rw [show Nat.blt i h.length = true by simpa [Nat.blt_eq] using h1]
    obtain ⟨a, b⟩ := wrH_in ws (h.set i o) (fun p hp => by rw [List.length_set]; exact hl p (List.mem_cons_of_mem _ hp))
    refine ⟨by rw [a, List.length_set], fun k hk => ?_⟩
    rw [b k (fun p hp => hk p (List.mem_cons_of_mem _ hp)), List.getElem?_set_ne (hk (i, o) (List.mem_cons_self ..))]

theorem wrH_set_comm {E : Nat → Type} : ∀ (ws : List (Nat × Option (Ob E))) (h : Heap E) (i : Nat) (o : Option (Ob E)), (∀ p ∈ ws, p.1 < h.length) → (∀ p ∈ ws, p.1 ≠ i) → wrH (h.set i o) ws = (wrH h ws).set i o
  | [], h, i, o, _, _ => rfl
  | (k, x) :: ws, h, i, o, hl, hn => by
    have h1 : k < h.length := hl _ (List.mem_cons_self ..)
    simp only [wrH, List.length_set]
    rw [show Nat.blt k h.length = true by simpa [Nat.blt_eq] using h1]
    simp only []
    rw [List.set_comm _ _ (fun e => hn (k, x) (List.mem_cons_self ..) e.symm)]
    exact wrH_set_comm ws (h.set k x) i o (fun p hp => by rw [List.length_set]; exact hl p (List.mem_cons_of_mem _ hp)) (fun p hp => hn p (List.mem_cons_of_mem _ hp))

theorem wrH_comm {E : Nat → Type} : ∀ (ws vs : List (Nat × Option (Ob E))) (h : Heap E), (∀ p ∈ ws, p.1 < h.length) → (∀ p ∈ vs, p.1 < h.length) → (∀ p ∈ ws, ∀ q ∈ vs, p.1 ≠ q.1) → wrH (wrH h ws) vs = wrH (wrH h vs) ws
  | [], vs, h, _, _, _ => rfl
  | (k, x) :: ws, vs, h, hl, hv, hn => by
    have h1 : k < h.length := hl _ (List.mem_cons_self ..)
    have h2 := (wrH_in vs h hv).1
    simp only [wrH]
    rw [show Nat.blt k h.length = true by simpa [Nat.blt_eq] using h1, show Nat.blt k (wrH h vs).length = true by rw [h2]; simpa [Nat.blt_eq] using h1]
    simp only []
    rw [wrH_comm ws vs (h.set k x) (fun p hp => by rw [List.length_set]; exact hl p (List.mem_cons_of_mem _ hp)) (fun p hp => by rw [List.length_set]; exact hv p hp) (fun p hp q hq => hn p (List.mem_cons_of_mem _ hp) q hq),
      wrH_set_comm vs h k x hv (fun p hp => (hn (k, x) (List.mem_cons_self ..) p hp).symm)]

/-! ### One step -/

def outE (C : Cfg) (Γ : FuncId → Option (CF C)) (ops : Array Oper) (N : Nat) (i : Nat) (o : Oper) (st : St C.E) : Option (Eff C.E) :=
  match guardV ops.toList o st with
  | some true => opK C Γ o.op (st.eval C) (lookH st.h) (N + 8 * i) some
  | some false => some ⟨.undef, [], []⟩
  | none => none

theorem outE_local {Γ : FuncId → Option (CF C)} (hΓ : ∀ f g, Γ f = some g → CFNat g) {ops : Array Oper} {N i : Nat} {o : Oper} {st : St C.E} {e : Eff C.E} (h : outE C Γ ops N i o st = some e) :
    Near (lookH st.h) (N + 8 * i) e ∧ ∀ st' : St C.E, (∀ d ∈ o.looksAt ops, st'.t.getD d .undef = st.t.getD d .undef) → ((∀ id ∈ e.rd, lookH st'.h id = lookH st.h id) ∨ (tyOp o.op = true ∧ ∀ id ∈ e.rd, SameT (lookH st.h id) (lookH st'.h id))) → outE C Γ ops N i o st' = some e := by
  have hg : ∀ st' : St C.E, (∀ d ∈ o.looksAt ops, st'.t.getD d .undef = st.t.getD d .undef) → guardV ops.toList o st' = guardV ops.toList o st := by
    intro st' hd
    unfold guardV
    split
    · rfl
    · rename_i j want hgd
      split
      · rename_i d op ty pos aft gd ha
        have : d ∈ o.looksAt ops := by
          unfold Oper.looksAt
          rw [hgd]
          refine List.mem_append_right _ ?_
          have ha' : ops[j]? = some ⟨some d, op, ty, pos, aft, gd⟩ := by rw [← Array.getElem?_toList]; exact ha
          simp [ha']
        rw [hd d this]
      · rfl
  have he : ∀ st' : St C.E, (∀ d ∈ o.looksAt ops, st'.t.getD d .undef = st.t.getD d .undef) → ∀ x ∈ o.op.operands, st'.eval C x = st.eval C x := by
    intro st' hd x hx
    cases x with
    | tmp t =>
      refine hd t ?_
      unfold Oper.looksAt
      exact List.mem_append_left _ (List.mem_filterMap.2 ⟨.tmp t, by simpa using hx, rfl⟩)
    | _ => rfl
  unfold outE at h
  split at h
  · rename_i hgv
    obtain ⟨h1, h2⟩ := opK_local hΓ h
    refine ⟨h1, fun st' hd hl => ?_⟩
    unfold outE
    rw [hg st' hd, hgv]
    simp only []
    rw [opK_congr (he st' hd)]
    rcases hl with hl | ⟨ht, hl⟩
    · exact h2 _ hl
    · exact opK_type ht h hl
  · rename_i hgv
    cases Option.some.inj h
    refine ⟨(show PureE _ from ⟨rfl, rfl⟩).near _ _, fun st' hd hl => ?_⟩
    unfold outE
    rw [hg st' hd, hgv]
  · cases h

theorem eff_undef {E : Nat → Type} (st : St E) (dst : Option Tmp) : st.eff dst ⟨.undef, [], []⟩ = st.put dst .undef := by cases dst <;> rfl

def fpOf {E : Nat → Type} (i : Nat) (o : Oper) (h : Heap E) (e : Eff E) : FP := ⟨i, e.rd, e.wr.map (·.1), tyOp o.op, killE (lookH h) e.wr⟩

inductive Run (C : Cfg) (Γ : FuncId → Option (CF C)) (ops : Array Oper) (N : Nat) : List (Nat × Oper) → St C.E → St C.E → List FP → Prop
  | nil {st : St C.E} : Run C Γ ops N [] st st []
  | cons {i : Nat} {o : Oper} {U : List (Nat × Oper)} {st st2 : St C.E} {fs : List FP} {e : Eff C.E} (h : outE C Γ ops N i o st = some e) (r : Run C Γ ops N U (st.eff o.dst e) st2 fs) : Run C Γ ops N ((i, o) :: U) st st2 (fpOf i o st.h e :: fs)

def enumF {α : Type} : Nat → List α → List (Nat × α)
  | _, [] => []
  | i, x :: l => (i, x) :: enumF (i + 1) l

theorem opsD_run {Γ : FuncId → Option (CF C)} (hΓ : ∀ f g, Γ f = some g → CFNat g) (ops : Array Oper) (N : Nat) : ∀ (rest : List Oper) (i : Nat) {Z : Type} (st : St C.E) (fs : List FP) (K : St C.E → List FP → Option Z) (z : Z),
    opsD C Γ ops.toList N i rest st fs K = some z → ∃ st' gs, Run C Γ ops N (enumF i rest) st st' gs ∧ K st' (gs.reverse ++ fs) = some z
  | [], i, Z, st, fs, K, z, h => ⟨st, [], .nil, h⟩
  | o :: rest, i, Z, st, fs, K, z, h => by
    simp only [opsD] at h
    rcases guardK_some h with ⟨hg, h⟩ | ⟨hg, h⟩
    · rw [opK_nat hΓ] at h
      cases he : opK C Γ o.op (st.eval C) (lookH st.h) (N + 8 * i) some with
      | none => rw [he] at h; cases h
      | some e =>
        rw [he] at h
        simp only [Option.bind_some] at h
        obtain ⟨st', gs, h1, h2⟩ := opsD_run hΓ ops N rest (i + 1) _ _ K z h
        exact ⟨st', _, .cons (by unfold outE; rw [hg]; exact he) h1, by simpa [fpOf] using h2⟩
    · obtain ⟨st', gs, h1, h2⟩ := opsD_run hΓ ops N rest (i + 1) _ _ K z h
      refine ⟨st', fpOf i o st.h ⟨.undef, [], []⟩ :: gs, .cons (e := ⟨.undef, [], []⟩) (by unfold outE; rw [hg]) ?_, by simpa [fpOf, killE] using h2⟩
      rw [eff_undef]; exact h1

theorem okFPs_pair (all : List Oper) : ∀ (l : List FP), okFPs all l = true → l.Pairwise (fun y x => apart2 all x y = true)
  | [], _ => List.Pairwise.nil
  | y :: rest, h => by
    simp only [okFPs, Bool.and_eq_true] at h
    exact List.Pairwise.cons (fun x hx => List.all_eq_true.1 h.1 x hx) (okFPs_pair all rest h.2)

theorem disj_spec {l r : List Nat} (h : disj l r = true) {i : Nat} (h1 : i ∈ l) : i ∉ r := by
  have := List.all_eq_true.1 h i h1
  simpa using this

theorem getD_put {E : Nat → Type} {st : St E} {dst : Option Tmp} {v : AV E} {d : Nat} (h : dst ≠ some d) : (st.put dst v).t.getD d .undef = st.t.getD d .undef := by
  cases dst with
  | none => rfl
  | some k =>
    simp only [St.put]
    rw [getD_set, if_neg (fun hx => h (by rw [hx.1]))]

theorem lookH_eq {E : Nat → Type} {h h' : Heap E} {i : Nat} (e : h'[i]? = h[i]?) : lookH h' i = lookH h i := by unfold lookH; rw [e]

theorem near_range {h : Heap C.E} {nid : Nat} {e : Eff C.E} (hn : Near (lookH h) nid e) (hr : nid + 8 ≤ h.length) : ∀ p ∈ e.wr, p.1 < h.length := by
  intro p hp
  rcases hn.wr p hp with h1 | ⟨h1, h2⟩
  · obtain ⟨o, ho⟩ := hn.rd _ h1
    exact lt_of_getElem? (lookH_some ho)
  · omega

theorem killE_eq {E : Nat → Type} {lk lk' : Nat → Option (Ob E)} : ∀ (ws : List (Nat × Option (Ob E))), (∀ p ∈ ws, lk' p.1 = lk p.1) → killE lk' ws = killE lk ws
  | [], _ => rfl
  | (i, o) :: ws, h => by
    have h1 : lk' i = lk i := h (i, o) (List.mem_cons_self ..)
    simp only [killE, h1]
    rw [killE_eq ws (fun p hp => h p (List.mem_cons_of_mem _ hp))]

theorem lookH_of {E : Nat → Type} {h : Heap E} {i : Nat} {o : Ob E} (e : h[i]? = some (some o)) : lookH h i = some o := by unfold lookH; rw [e]

/-- A write that is not told as one keeps the type. -/
theorem wrH_type {E : Nat → Type} {lk : Nat → Option (Ob E)} {id : Nat} {e : TypeId} {xs : List (E e)} (hlk : lk id = some (.arr e xs)) : ∀ (ws : List (Nat × Option (Ob E))) (h : Heap E), id ∉ killE lk ws → (∃ ys : List (E e), h[id]? = some (some (.arr e ys))) →
    ∃ ys : List (E e), (wrH h ws)[id]? = some (some (.arr e ys))
  | [], h, _, hh => hh
  | (i, o) :: ws, h, hk, hh => by
    obtain ⟨ys, hy⟩ := hh
    simp only [killE] at hk
    simp only [wrH]
    by_cases hi : i = id
    · subst hi
      cases hb : keepB (lk i) o with
      | false => rw [hb] at hk; exact (hk (List.mem_cons_self ..)).elim
      | true =>
        rw [hb] at hk
        rw [hlk] at hb
        unfold keepB at hb
        split at hb
        · rename_i e1 x1 e2 x2 h1
          cases h1
          have : e2 = e := Nat.eq_of_beq_eq_true hb
          subst this
          have hlt := lt_of_getElem? hy
          rw [show Nat.blt i h.length = true by simpa [Nat.blt_eq] using hlt]
          exact wrH_type hlk ws _ hk ⟨x2, List.getElem?_set_self hlt⟩
        · cases hb
    · have hk' : id ∉ killE lk ws := by
        split at hk
        · exact hk
        · exact fun hm => hk (List.mem_cons_of_mem _ hm)
      split
      · exact wrH_type hlk ws _ hk' ⟨ys, by rw [List.getElem?_set_ne hi]; exact hy⟩
      · exact wrH_type hlk ws _ hk' ⟨ys, by rw [List.getElem?_append_left (lt_of_getElem? hy)]; exact hy⟩

/-- What an operation that looks at types reads is an array. -/
theorem outE_arr {Γ : FuncId → Option (CF C)} {ops : Array Oper} {N i : Nat} {o : Oper} {st : St C.E} {e : Eff C.E} (h : outE C Γ ops N i o st = some e) : (∀ id ∈ e.rd, ∃ e' xs, lookH st.h id = some (.arr e' xs)) ∨ tyOp o.op = false := by
  cases ht : tyOp o.op with
  | false => exact .inr rfl
  | true =>
    left
    unfold outE at h
    split at h
    · cases hop : o.op <;> rw [hop] at ht <;> try (cases ht; done)
      rw [hop] at h
      simp only [opK] at h
      unfold indexAddrK at h
      split at h
      · cases Option.some.inj (cond_some h).2; exact fun _ hm => by cases hm
      · cases Option.some.inj (cond_some h).2; exact fun _ hm => by cases hm
      · split at h
        · obtain ⟨h1, _⟩ := bind_val h; intro id hm; rw [(bind_val h).2] at hm; cases hm
        · cases h
      · split at h
        · rename_i ho
          split at h
          · cases Option.some.inj (cond_some h).2
            intro id hm
            rw [List.mem_singleton.1 hm]
            exact ⟨_, _, ho⟩
          · cases h
        · cases h
      · cases h
    · cases Option.some.inj h; exact fun _ hm => by cases hm
    · cases h

/-- Two steps the other way round. -/
theorem swap {Γ : FuncId → Option (CF C)} (hΓ : ∀ f g, Γ f = some g → CFNat g) {ops : Array Oper} {N i j : Nat} {oi oj : Oper} {st : St C.E} {ei ej : Eff C.E} (hj : outE C Γ ops N j oj st = some ej) (hi : outE C Γ ops N i oi (st.eff oj.dst ej) = some ei)
    (hap : oj.apart ops oi = true) (d1 : disj ((fpOf j oj st.h ej).rdW (fpOf i oi (st.eff oj.dst ej).h ei)) ei.rd = true) (d2 : disj (ej.wr.map (·.1)) (ei.wr.map (·.1)) = true) (d3 : disj ej.rd ((fpOf i oi (st.eff oj.dst ej).h ei).rdW (fpOf j oj st.h ej)) = true)
    (ri : N + 8 * i + 8 ≤ st.h.length) (rj : N + 8 * j + 8 ≤ st.h.length) :
    outE C Γ ops N i oi st = some ei ∧ outE C Γ ops N j oj (st.eff oi.dst ei) = some ej ∧ (st.eff oi.dst ei).eff oj.dst ej = (st.eff oj.dst ej).eff oi.dst ei ∧
      fpOf i oi st.h ei = fpOf i oi (st.eff oj.dst ej).h ei ∧ fpOf j oj (st.eff oi.dst ei).h ej = fpOf j oj st.h ej := by
  obtain ⟨a1, a2, a3⟩ := Oper.apart_spec hap
  obtain ⟨nj, lj⟩ := outE_local hΓ hj
  obtain ⟨ni, li⟩ := outE_local hΓ hi
  have wj := near_range nj rj
  have hlen : (st.eff oj.dst ej).h.length = st.h.length := (wrH_in _ _ wj).1
  have hehj : (st.eff oj.dst ej).h = wrH st.h ej.wr := rfl
  have hehi : (st.eff oi.dst ei).h = wrH st.h ei.wr := rfl
  -- the writes don't meet
  have kj : ∀ p ∈ ej.wr, ∀ q ∈ ei.wr, p.1 ≠ q.1 := fun p hp q hq he => disj_spec d2 (List.mem_map.2 ⟨p, hp, rfl⟩) (List.mem_map.2 ⟨q, hq, he.symm⟩)
  have ki : ∀ q ∈ ei.wr, lookH (wrH st.h ej.wr) q.1 = lookH st.h q.1 := fun q hq => lookH_eq ((wrH_in _ _ wj).2 q.1 (fun p hp => kj p hp q hq))
  have seenI : (∀ id ∈ ei.rd, lookH st.h id = lookH (wrH st.h ej.wr) id) ∨ (tyOp oi.op = true ∧ ∀ id ∈ ei.rd, SameT (lookH (wrH st.h ej.wr) id) (lookH st.h id)) := by
    cases ht : tyOp oi.op with
    | false =>
      simp only [FP.rdW, fpOf, ht] at d1
      exact .inl fun id hid => (lookH_eq ((wrH_in _ _ wj).2 id (fun p hp he => disj_spec d1 (List.mem_map.2 ⟨p, hp, he⟩) hid))).symm
    | true =>
      simp only [FP.rdW, fpOf, ht] at d1
      refine .inr ⟨rfl, fun id hid => ?_⟩
      by_cases hw : ∃ p ∈ ej.wr, p.1 = id
      · -- written without another type: so it was an array
        have hnk : id ∉ killE (lookH st.h) ej.wr := fun hm => disj_spec d1 hm hid
        have harr : ∃ e xs, lookH st.h id = some (.arr e xs) := by
          obtain ⟨p, hp, rfl⟩ := hw
          have key : ∀ ws : List (Nat × Option (Ob C.E)), p ∈ ws → p.1 ∉ killE (lookH st.h) ws → ∃ e xs, lookH st.h p.1 = some (.arr e xs) := by
            intro ws
            induction ws with
            | nil => intro h; cases h
            | cons q ws ih =>
              intro hm hk
              obtain ⟨qi, qo⟩ := q
              simp only [killE] at hk
              rcases List.mem_cons.1 hm with rfl | hm
              · cases hb : keepB (lookH st.h qi) qo with
                | false => rw [hb] at hk; exact (hk (List.mem_cons_self ..)).elim
                | true =>
                  unfold keepB at hb
                  split at hb
                  · rename_i h1; exact ⟨_, _, h1⟩
                  · cases hb
              · refine ih hm ?_
                split at hk
                · exact hk
                · exact fun h => hk (List.mem_cons_of_mem _ h)
          exact key _ hp hnk
        obtain ⟨e, xs, hx⟩ := harr
        obtain ⟨ys, hy⟩ := wrH_type hx ej.wr st.h hnk ⟨xs, lookH_some hx⟩
        exact .inr ⟨e, ys, xs, lookH_of hy, hx⟩
      · exact .inl (lookH_eq ((wrH_in _ _ wj).2 id (fun p hp he => hw ⟨p, hp, he⟩))).symm
  have e1 : outE C Γ ops N i oi st = some ei := li st (fun d hd => (getD_put (fun he => a1 d he hd)).symm) seenI
  obtain ⟨ni', _⟩ := outE_local hΓ e1
  have wi := near_range ni' ri
  have kj2 : ∀ p ∈ ej.wr, lookH (wrH st.h ei.wr) p.1 = lookH st.h p.1 := fun p hp => lookH_eq ((wrH_in _ _ wi).2 p.1 (fun q hq he => kj p hp q hq he.symm))
  have f1 : killE (lookH st.h) ei.wr = killE (lookH (wrH st.h ej.wr)) ei.wr := (killE_eq _ ki).symm
  have f2 : killE (lookH (wrH st.h ei.wr)) ej.wr = killE (lookH st.h) ej.wr := killE_eq _ kj2
  have seenJ : (∀ id ∈ ej.rd, lookH (wrH st.h ei.wr) id = lookH st.h id) ∨ (tyOp oj.op = true ∧ ∀ id ∈ ej.rd, SameT (lookH st.h id) (lookH (wrH st.h ei.wr) id)) := by
    cases ht : tyOp oj.op with
    | false =>
      simp only [FP.rdW, fpOf, ht] at d3
      exact .inl fun id hid => lookH_eq ((wrH_in _ _ wi).2 id (fun p hp he => disj_spec d3 hid (List.mem_map.2 ⟨p, hp, he⟩)))
    | true =>
      simp only [FP.rdW, fpOf, ht, hehj, ← f1] at d3
      refine .inr ⟨rfl, fun id hid => ?_⟩
      rcases outE_arr hj with harr | h0
      · obtain ⟨e, xs, hx⟩ := harr id hid
        obtain ⟨ys, hy⟩ := wrH_type hx ei.wr st.h (fun hm => disj_spec d3 hid hm) ⟨xs, lookH_some hx⟩
        exact .inr ⟨e, xs, ys, hx, lookH_of hy⟩
      · rw [h0] at ht; cases ht
  refine ⟨e1, lj _ (fun d hd => getD_put (fun he => a3 d he hd)) seenJ, ?_, by simp only [fpOf, hehj, f1], by simp only [fpOf, hehi, f2]⟩
  have hh : wrH (wrH st.h ei.wr) ej.wr = wrH (wrH st.h ej.wr) ei.wr := wrH_comm _ _ _ wi wj (fun p hp q hq he => kj q hq p hp he.symm)
  have ht : ((st.put oi.dst ei.v).put oj.dst ej.v).t = ((st.put oj.dst ej.v).put oi.dst ei.v).t := by
    cases hdi : oi.dst with
    | none => cases oj.dst <;> rfl
    | some x =>
      cases hdj : oj.dst with
      | none => rfl
      | some y =>
        have : x ≠ y := fun he => a2 y hdj (by rw [hdi, he])
        simp only [St.put]
        exact List.set_comm _ _ this
  have ht' : ∀ (s : St C.E) (h' : Heap C.E) (dst : Option Tmp) (v : AV C.E), (({ t := s.t, h := h' } : St C.E).put dst v).t = (s.put dst v).t := fun s h' dst v => by cases dst <;> rfl
  show (⟨(({ t := (st.put oi.dst ei.v).t, h := wrH st.h ei.wr } : St C.E).put oj.dst ej.v).t, wrH (wrH st.h ei.wr) ej.wr⟩ : St C.E) = ⟨(({ t := (st.put oj.dst ej.v).t, h := wrH st.h ej.wr } : St C.E).put oi.dst ei.v).t, wrH (wrH st.h ej.wr) ei.wr⟩
  rw [hh, ht' (st.put oi.dst ei.v), ht' (st.put oj.dst ej.v), ht]

/-! ### Any order -/

/-- What has been listed is closed under 'waits for'. -/
theorem dep_listed {ops : Array Oper} {listed : Array Bool} (hcl : ∀ (k : Nat) (o : Oper), ops[k]? = some o → listed.getD k false = true → ∀ e ∈ o.after, Region.binds .any e = true → listed.getD e.on false = true) :
    ∀ (n i j : Nat), (∀ o, ops[i]? = some o → ∀ e ∈ o.after, Region.binds .any e = true → listed.getD e.on false = true) → depB ops.toList n i j = true → listed.getD j false = true
  | 0, i, j, _, h => by cases h
  | n + 1, i, j, hi, h => by
    unfold depB at h
    split at h
    · rename_i o ho
      have ho' : ops[i]? = some o := by rw [← Array.getElem?_toList]; exact ho
      obtain ⟨e, he, h2⟩ := List.any_eq_true.1 h
      simp only [Bool.and_eq_true, Bool.or_eq_true] at h2
      have hl := hi o ho' e (Array.mem_toList_iff.1 he) h2.1
      rcases h2.2 with h3 | h3
      · rw [← Nat.eq_of_beq_eq_true h3]; exact hl
      · exact dep_listed hcl n e.on j (fun o2 ho2 => hcl _ _ ho2 hl) h3
    · cases h

/-- The footprints of a run stand in the order of its steps. -/
theorem run_split {Γ : FuncId → Option (CF C)} (hΓ : ∀ f g, Γ f = some g → CFNat g) {ops : Array Oper} {N n : Nat} {i : Nat} {oi : Oper} {U2 : List (Nat × Oper)} (hin : i < n) : ∀ (U1 : List (Nat × Oper)) {st st2 : St C.E} {fs : List FP}, Run C Γ ops N (U1 ++ (i, oi) :: U2) st st2 fs →
    fs.Pairwise (fun x y => apart2 ops.toList x y = true) → N + 8 * n ≤ st.h.length → (∀ p ∈ U1, p.1 < n ∧ ops[p.1]? = some p.2 ∧ (∀ e ∈ oi.after, Region.binds .any e = true → e.on ≠ p.1) ∧ depB ops.toList 8 i p.1 = false) → ops[i]? = some oi →
    ∃ e f1 f2, outE C Γ ops N i oi st = some e ∧ fs = f1 ++ fpOf i oi st.h e :: f2 ∧ Run C Γ ops N (U1 ++ U2) (st.eff oi.dst e) st2 (f1 ++ f2)
  | [], st, st2, fs, h, _, _, _, _ => by
    cases h with
    | cons he hr => exact ⟨_, [], _, he, rfl, hr⟩
  | (j, oj) :: U1, st, st2, fs, h, hp, hl, hU, hi => by
    cases h with
    | cons he hr =>
      rename_i gs ej
      have hp2 := List.pairwise_cons.1 hp
      obtain ⟨hjn, hj, hedge, hdep⟩ := hU (j, oj) (List.mem_cons_self ..)
      have wj := near_range (outE_local hΓ he).1 (by have : j < n := hjn; omega)
      have hl2 : N + 8 * n ≤ (st.eff oj.dst ej).h.length := by rw [show (st.eff oj.dst ej).h.length = st.h.length from (wrH_in _ _ wj).1]; exact hl
      obtain ⟨e, f1, f2, h1, rfl, h3⟩ := run_split hΓ hin U1 hr hp2.2 hl2 (fun p hp => hU p (List.mem_cons_of_mem _ hp)) hi
      have hap := hp2.1 (fpOf i oi (st.eff oj.dst ej).h e) (List.mem_append_right _ (List.mem_cons_self ..))
      unfold apart2 at hap
      have hi' : ops.toList[i]? = some oi := by rw [Array.getElem?_toList]; exact hi
      have hj' : ops.toList[j]? = some oj := by rw [Array.getElem?_toList]; exact hj
      have q1 : (fpOf i oi (st.eff oj.dst ej).h e).i = i := rfl
      have q2 : (fpOf j oj st.h ej).i = j := rfl
      simp only [q1, q2, hi', hj', Bool.or_eq_true, Bool.and_eq_true] at hap
      rcases hap with (hap | hap) | hap
      · obtain ⟨ed, he1, he2⟩ := List.any_eq_true.1 hap
        simp only [Bool.and_eq_true] at he2
        exact (hedge ed (Array.mem_toList_iff.1 he1) he2.2 (Nat.eq_of_beq_eq_true he2.1)).elim
      · obtain ⟨⟨⟨ha, d1⟩, d2⟩, d3⟩ := hap
        obtain ⟨s1, s2, s3, s4, s5⟩ := swap hΓ he h1 ha d1 d2 d3 (by omega) (by have : j < n := hjn; omega)
        refine ⟨e, fpOf j oj st.h ej :: f1, f2, s1, by rw [s4]; rfl, ?_⟩
        rw [← s5]
        exact .cons s2 (by rw [s3]; exact h3)
      · simp only at hdep
        rw [hdep] at hap
        cases hap

structure SysN (C : Cfg) (Γ : FuncId → Option (CF C)) : Prop where
  sys : Sys C Γ
  nat : ∀ f g, Γ f = some g → CFNat g

def Hole {E : Nat → Type} (c : Ctx) (h : Heap E) (nid : Nat) : Prop := ∀ j, j < 8 → h[nid + j]? = some none ∧ c.σ (nid + j) = none

theorem getD_both {l : Array Bool} {i n : Nat} (hn : l.size = n) (hi : i < n) (h : l.getD i false = false) : l.getD i true = false := by
  subst hn
  simp [Array.getD, hi] at h ⊢
  exact h

theorem any_ok {Γ : FuncId → Option (CF C)} (hS : SysN C Γ) (ops : Array Oper) (hE : ∀ (i : Nat) (o : Oper), ops[i]? = some o → ∀ e ∈ o.after, Region.binds .any e = true → e.on < i) (N : Nat) (Q : Exit → Act → World → Prop) :
    ∀ (fuel : Nat) (listed : Array Bool) (U : List (Nat × Oper)) (st stE : St C.E) (fs : List FP) (c : Ctx) (a : Act) (w : World), U.length = fuel → listed.size = ops.size → Run C Γ ops N U st stE fs → fs.Pairwise (fun x y => apart2 ops.toList x y = true) →
      N + 8 * ops.size ≤ st.h.length → U.Pairwise (fun p q => p.1 < q.1) → (∀ p ∈ U, ops[p.1]? = some p.2 ∧ p.1 < ops.size ∧ listed.getD p.1 true = false) → (∀ i, i < ops.size → listed.getD i true = false → ∃ o, (i, o) ∈ U) → (∀ (k : Nat) (o : Oper), ops[k]? = some o → listed.getD k false = true → ∀ e ∈ o.after, Region.binds .any e = true → listed.getD e.on false = true) →
      (∀ p ∈ U, Hole c st.h (N + 8 * p.1)) → Rep C c w st a → (∀ a' c' w', Rep C c' w' stE a' → Le c st.h w c' stE.h w' → Q .normal a' w') → wpAny C.P .any ops Q fuel listed a w
  | 0, listed, U, st, stE, fs, c, a, w, hlen, hsz, hrun, _, _, _, _, m2, _, _, hr, hq => by
    have : U = [] := List.eq_nil_of_length_eq_zero hlen
    subst this
    cases hrun
    refine ⟨List.eq_nil_iff_forall_not_mem.2 fun j hj => ?_, hq _ _ _ hr (Le.refl _ _ _)⟩
    obtain ⟨h0, o, ho, _⟩ := mem_ready.1 hj
    obtain ⟨o', ho'⟩ := m2 j (Array.getElem?_eq_some_iff.1 ho).1 h0
    cases ho'
  | fuel + 1, listed, U, st, stE, fs, c, a, w, hlen, hsz, hrun, hp, hN, hso, m1, m2, hcl, hh, hr, hq => by
    refine ⟨fun hnil => ?_, fun i hi => ?_⟩
    · match U, hlen with
      | p :: U, _ =>
        obtain ⟨h1, h2, h3⟩ := m1 p (List.mem_cons_self ..)
        have : p.1 ∈ Region.ready .any ops listed := mem_ready.2 ⟨h3, _, h1, fun e he hb => by
          have hlt := hE _ _ h1 e he hb
          cases hg : listed.getD e.on false with
          | true => rfl
          | false =>
            obtain ⟨o', ho'⟩ := m2 e.on (by omega) (getD_both hsz (by omega) hg)
            rcases List.mem_cons.1 ho' with h | h
            · have : e.on = p.1 := by rw [← h]
              omega
            · have := (List.pairwise_cons.1 hso).1 _ h
              simp only at this
              omega⟩
        rw [hnil] at this
        cases this
    · obtain ⟨h0, o, ho, hed⟩ := mem_ready.1 hi
      have hin : i < ops.size := (Array.getElem?_eq_some_iff.1 ho).1
      obtain ⟨o', ho'⟩ := m2 i hin h0
      have : o' = o := by have := (m1 _ ho').1; rw [ho] at this; exact (Option.some.inj this).symm
      subst this
      obtain ⟨U1, U2, rfl⟩ := List.append_of_mem ho'
      have hs1 := List.pairwise_append.1 hso
      have hs2 := List.pairwise_cons.1 hs1.2.1
      have lt1 : ∀ p ∈ U1, p.1 < i := fun p hp => hs1.2.2 p hp (i, o') (List.mem_cons_self ..)
      have lt2 : ∀ p ∈ U2, i < p.1 := fun p hp => hs2.1 p hp
      obtain ⟨e, f1, f2, h1, rfl, h3⟩ := run_split hS.nat hin U1 hrun hp hN (fun p hpm => by
        obtain ⟨k1, k2, k3⟩ := m1 p (List.mem_append_left _ hpm)
        have no : ∀ h : listed.getD p.1 false = true, False := fun this => by
          simp [Array.getD, hsz, k2] at this k3
          rw [this] at k3
          cases k3
        refine ⟨k2, k1, fun e he hb heq => no (heq ▸ hed e he hb), ?_⟩
        cases hd : depB ops.toList 8 i p.1 with
        | false => rfl
        | true => exact (no (dep_listed hcl 8 i p.1 (fun o2 ho2 => by rw [ho] at ho2; cases Option.some.inj ho2; exact hed) hd)).elim) ho
      obtain ⟨hnear, _⟩ := outE_local hS.nat h1
      have hwr := near_range hnear (by omega)
      have hhi := hh (i, o') (List.mem_append_right _ (List.mem_cons_self ..))
      have hsub : ∀ p ∈ U1 ++ U2, p ∈ U1 ++ (i, o') :: U2 := fun p hpm => by
        rcases List.mem_append.1 hpm with h | h
        · exact List.mem_append_left _ h
        · exact List.mem_append_right _ (List.mem_cons_of_mem _ h)
      have hne : ∀ p ∈ U1 ++ U2, p.1 ≠ i := fun p hpm => by
        rcases List.mem_append.1 hpm with h | h
        · have := lt1 p h; omega
        · have := lt2 p h; omega
      have next : ∀ (c' : Ctx) (w' : World) (v : Value), R C c' w' e.v v → HR C c' w' (wrH st.h e.wr) → Le c st.h w c' (wrH st.h e.wr) w' → (∀ id, c'.σ id ≠ c.σ id → id ∈ e.wr.map (·.1)) →
          wpAny C.P .any ops Q fuel (listed.setIfInBounds i true) (a.put o'.dst v) w' := by
        intro c' w' v q1 q2 q3 q4
        refine any_ok hS ops hE N Q fuel _ (U1 ++ U2) (st.eff o'.dst e) stE (f1 ++ f2) c' _ w' (by simp at hlen ⊢; omega) (by simpa using hsz) h3
          (hp.sublist (List.Sublist.append_left (List.sublist_cons_self _ _) _)) (by rw [show (st.eff o'.dst e).h.length = st.h.length from (wrH_in _ _ hwr).1]; exact hN)
          (hso.sublist (List.Sublist.append_left (List.sublist_cons_self _ _) _)) (fun p hpm => ?_) (fun k hk hkl => ?_) (fun k ok hk hkl e2 he2 hb2 => ?_) (fun p hpm => ?_) (hr.put o'.dst (q3.keeps hr.heap) q2 q1) (fun a' c2 w2 r1 r2 => hq a' c2 w2 r1 (q3.trans r2))
        · obtain ⟨k1, k2, k3⟩ := m1 p (hsub p hpm)
          exact ⟨k1, k2, by rw [getD_set_ne true (fun he => hne p hpm he.symm)]; exact k3⟩
        · have hki : k ≠ i := by
            rintro rfl
            simp [Array.getD, hsz, hin] at hkl
          rw [getD_set_ne true (fun he => hki he.symm)] at hkl
          obtain ⟨ok, hok⟩ := m2 k hk hkl
          refine ⟨ok, ?_⟩
          rcases List.mem_append.1 hok with h | h
          · exact List.mem_append_left _ h
          · rcases List.mem_cons.1 h with h | h
            · cases h; exact (hki rfl).elim
            · exact List.mem_append_right _ h
        · have hmono : listed.getD e2.on false = true → (listed.setIfInBounds i true).getD e2.on false = true := by
            intro h
            by_cases hei : i = e2.on
            · subst hei; simp [Array.getD, hsz, hin]
            · rw [getD_set_ne false hei]; exact h
          by_cases hki : k = i
          · subst hki
            rw [ho] at hk
            cases Option.some.inj hk
            exact hmono (hed e2 he2 hb2)
          · rw [getD_set_ne false (fun he => hki he.symm)] at hkl
            exact hmono (hcl k ok hk hkl e2 he2 hb2)
        · intro j hj
          obtain ⟨g1, g2⟩ := hh p (hsub p hpm) j hj
          have hpi := hne p hpm
          have hfree : ∀ q ∈ e.wr, q.1 ≠ N + 8 * p.1 + j := by
            intro q hqm he
            rcases hnear.wr q hqm with h | ⟨h5, h6⟩
            · obtain ⟨ob, hob⟩ := hnear.rd _ h
              rw [he] at hob
              have := lookH_some hob
              rw [g1] at this
              cases this
            · omega
          refine ⟨((wrH_in _ _ hwr).2 _ hfree).trans g1, ?_⟩
          apply Classical.byContradiction
          intro hcon
          obtain ⟨q, hqm, he⟩ := List.mem_map.1 (q4 _ (fun h => hcon (h.trans g2)))
          exact hfree q hqm he
      unfold wpOp
      simp only [ho]
      unfold outE at h1
      split at h1
      · rename_i hg
        rw [wanted_of hr hg, if_pos rfl]
        refine .inl (op_ok hS.sys h1 hr.heap (.hole hhi) (fun x => hr.eval x) ?_)
        intro v e' c' w' he hA
        cases Option.some.inj he
        exact next c' w' v hA.val hA.heap hA.le hA.sig
      · rename_i hg
        rw [wanted_of hr hg]
        cases Option.some.inj h1
        exact next c w undef .undef hr.heap (Le.refl _ _ _) (fun id h => (h rfl).elim)
      · cases h1

end
end Go.AE
