/-
  AE, part 10: an operation depends on what it reads.
-/
import Derived.Test.YtadnppefidjhfaaGreatAeN
namespace Go.AE
open Go.RowKit

section
variable {C : Cfg} {E : Nat → Type}

def PureE (e : Eff E) : Prop := e.wr = [] ∧ e.rd = []

structure Near (lk : Nat → Option (Ob E)) (nid : Nat) (e : Eff E) : Prop where
  wr : ∀ p ∈ e.wr, p.1 ∈ e.rd ∨ (nid ≤ p.1 ∧ p.1 < nid + 8)
  rd : ∀ i ∈ e.rd, ∃ o, lk i = some o

theorem PureE.near {e : Eff E} (h : PureE e) (lk : Nat → Option (Ob E)) (nid : Nat) : Near lk nid e := by
  obtain ⟨h1, h2⟩ := h
  exact ⟨fun p hp => (by rw [h1] at hp; cases hp), fun i hi => (by rw [h2] at hi; cases hi)⟩

theorem val_pure {v : AV E} {e : Eff E} (h : val v some = some e) : PureE e := by cases Option.some.inj h; exact ⟨rfl, rfl⟩
theorem cond_val {b : Bool} {v : AV E} {e : Eff E} (h : cond b (val v some) none = some e) : PureE e := by
  cases b with
  | false => cases h
  | true => exact val_pure h
theorem cond_val' {b : Bool} {v : AV E} {e : Eff E} (h : cond b none (val v some) = some e) : PureE e := by
  cases b with
  | false => exact val_pure h
  | true => cases h
theorem bind_val {α : Type} {o : Option α} {f : α → AV E} {e : Eff E} (h : Option.bind o (fun x => val (f x) some) = some e) : PureE e := by
  cases o with
  | none => cases h
  | some x => exact val_pure h

theorem intOp_pure {op : BinOp} {k : IntKind} {a b : Int} {e : Eff E} (h : intOp op k a b some = some e) : PureE e := by
  cases op <;> unfold intOp at h <;> first | (cases h; done) | exact val_pure h | exact cond_val' h

theorem binK_pure {ti : TI E} {op : BinOp} {x y : AV E} {e : Eff E} (h : binK ti op x y some = some e) : PureE e := by
  unfold binK at h
  repeat' first | exact intOp_pure h | exact val_pure h | exact cond_val' h | (cases h; done) | split at h

theorem unK_pure {op : UnOp} {x : AV E} {e : Eff E} (h : unK op x some = some e) : PureE e := by
  unfold unK at h
  repeat' first | exact val_pure h | (cases h; done) | split at h

theorem convK_pure {s d : TypeId} {x : AV C.E} {e : Eff C.E} (h : convK C s d x some = some e) : PureE e := by
  unfold convK at h
  repeat' first | exact val_pure h | (cases h; done) | split at h

theorem bind_bind_val {α β : Type} {o : Option α} {q : α → Option β} {g : β → AV E} {e : Eff E} (h : (Option.bind o fun x => Option.bind (q x) fun y => val (g y) some) = some e) : PureE e := by
  cases o with
  | none => cases h
  | some x => exact bind_val h

theorem indexK_pure {t : TypeId} {x i : AV C.E} {e : Eff C.E} (h : indexK C t x i some = some e) : PureE e := by
  unfold indexK at h
  repeat' first | exact val_pure h | exact bind_val h | exact bind_bind_val h | (cases h; done) | (replace h := (cond_some h).2) | split at h

theorem buildK_pure {t : TypeId} {ps : List (Nat × AV C.E)} {e : Eff C.E} (h : buildK C t ps some = some e) : PureE e := by
  unfold buildK at h
  repeat' first | exact val_pure h | (cases h; done) | split at h

theorem buildSliceK_near {t : TypeId} {n : Nat} {ps : List (Nat × AV C.E)} {nid : Nat} {e : Eff C.E} (h : buildSliceK C t n ps nid some = some e) (lk : Nat → Option (Ob C.E)) : Near lk nid e ∧ e.rd = [] := by
  unfold buildSliceK at h
  repeat' first | (cases h; done) | split at h
  rename_i rows _
  cases hd : decAll C _ rows with
  | none => rw [hd] at h; cases h
  | some xs =>
    rw [hd] at h
    cases Option.some.inj h
    exact ⟨⟨fun p hp => (by cases List.mem_singleton.1 hp; exact .inr ⟨Nat.le_refl _, by omega⟩), fun i hi => (by cases hi)⟩, rfl⟩

theorem makeK_near {t : TypeId} {l c : AV C.E} {nid : Nat} {e : Eff C.E} (h : makeK C t l c nid some = some e) (lk : Nat → Option (Ob C.E)) : Near lk nid e ∧ e.rd = [] := by
  unfold makeK at h
  split at h
  · split at h
    · rename_i te _
      cases hd : C.dec _ te.zero with
      | none => rw [hd] at h; cases h
      | some z =>
        rw [hd] at h
        cases Option.some.inj (cond_some h).2
        exact ⟨⟨fun p hp => (by cases List.mem_singleton.1 hp; exact .inr ⟨Nat.le_refl _, by omega⟩), fun i hi => (by cases hi)⟩, rfl⟩
    · cases h
  · cases h

/-- Of a function that looks the heap up. -/
def Local {E : Nat → Type} (F : (Nat → Option (Ob E)) → Option (Eff E)) (lk : Nat → Option (Ob E)) (nid : Nat) (e : Eff E) : Prop := Near lk nid e ∧ ∀ lk', (∀ i ∈ e.rd, lk' i = lk i) → F lk' = some e

theorem near_read {lk : Nat → Option (Ob E)} {nid id : Nat} {o : Ob E} {e : Eff E} (ho : lk id = some o) (h1 : e.rd = [id]) (h2 : ∀ p ∈ e.wr, p.1 = id) : Near lk nid e :=
  ⟨fun p hp => .inl (by rw [h1, h2 p hp]; exact List.mem_singleton.2 rfl), fun i hi => by rw [h1] at hi; rw [List.mem_singleton.1 hi]; exact ⟨o, ho⟩⟩

theorem loadK_local {lk : Nat → Option (Ob C.E)} {t : TypeId} {p : AV C.E} {nid : Nat} {e : Eff C.E} (h : loadK C lk t p some = some e) : Local (fun lk => loadK C lk t p some) lk nid e := by
  have h0 := h
  unfold loadK at h
  split at h
  · rename_i ti cells hT
    split at h
    · rename_i cs hcs
      cases Option.some.inj h
      exact ⟨(show PureE _ from ⟨rfl, rfl⟩).near _ _, fun lk' _ => by simp only [loadK, hT, hcs]; rfl⟩
    · cases h
  · rename_i ti id row fo hT
    have key : ∀ o, lk id = some o → e.rd = [id] → e.wr = [] → Local (fun lk => loadK C lk t (.ptr id row fo) some) lk nid e := by
      intro o ho h1 h2
      refine ⟨near_read ho h1 (fun p hp => by rw [h2] at hp; cases hp), fun lk' hl => ?_⟩
      have := hl id (by rw [h1]; exact List.mem_singleton.2 rfl)
      simp only [loadK, hT, this] at h0 ⊢
      exact h0
    split at h
    · rename_i cells ho
      split at h
      · cases Option.some.inj h; exact key _ ho rfl rfl
      · cases h
    · rename_i e' xs ho
      obtain ⟨_, h⟩ := rowK_some h
      split at h
      · cases Option.some.inj h; exact key _ ho rfl rfl
      · cases h
    · cases h
    · cases h
    · cases h
  · cases h

theorem keyK_some {Z : Type} {k : TypeId} {x : AV C.E} {K : C.E k → Option Z} {z : Z} (h : keyK C k x K = some z) : ∃ y, K y = some z := by
  unfold keyK at h
  split at h
  · split at h
    · obtain ⟨y, _, h⟩ := Option.bind_eq_some_iff.1 h
      exact ⟨y, h⟩
    · cases h
  · cases h
theorem valK_some {Z : Type} {k : TypeId} {x : AV C.E} {K : C.E k → Option Z} {z : Z} (h : valK C k x K = some z) : ∃ y, K y = some z := by
  unfold valK at h
  split at h
  · split at h
    · obtain ⟨y, _, h⟩ := Option.bind_eq_some_iff.1 h
      exact ⟨y, h⟩
    · cases h
  · cases h
theorem zeroE_some {Z : Type} {k : TypeId} {K : C.E k → Option Z} {z : Z} (h : zeroE C k K = some z) : ∃ y, K y = some z := by
  unfold zeroE at h
  split at h
  · obtain ⟨y, _, h⟩ := Option.bind_eq_some_iff.1 h
    exact ⟨y, h⟩
  · obtain ⟨y, _, h⟩ := Option.bind_eq_some_iff.1 h
    exact ⟨y, h⟩
  · cases h

theorem lookupK_local {lk : Nat → Option (Ob C.E)} {t : TypeId} {m x : AV C.E} {ok : Bool} {nid : Nat} {e : Eff C.E} (h : lookupK C t m x ok lk some = some e) : Local (fun lk => lookupK C t m x ok lk some) lk nid e := by
  have h0 := h
  unfold lookupK at h
  split at h
  · rename_i k e' eqf size bytes zero id hT
    split at h
    · rename_i k' e2 xs te ho hTe
      split at h
      · obtain ⟨y, h⟩ := keyK_some h
        obtain ⟨y', h⟩ := zeroE_some h
        cases Option.some.inj h
        refine ⟨near_read ho rfl (fun p hp => by cases hp), fun lk' hl => ?_⟩
        have := hl id (List.mem_singleton.2 rfl)
        simp only [lookupK, hT, this] at h0 ⊢
        exact h0
      · cases h
    · rename_i k' e2 xs te ho hTe
      split at h
      · obtain ⟨y, h⟩ := keyK_some h
        cases Option.some.inj h
        refine ⟨near_read ho rfl (fun p hp => by cases hp), fun lk' hl => ?_⟩
        have := hl id (List.mem_singleton.2 rfl)
        simp only [lookupK, hT, this] at h0 ⊢
        exact h0
      · cases h
    · cases h
  · cases h

theorem mapEntryK_local {lk : Nat → Option (Ob C.E)} {t : TypeId} {m x : AV C.E} {nid : Nat} {e : Eff C.E} (h : mapEntryK C t m x lk some = some e) : Local (fun lk => mapEntryK C t m x lk some) lk nid e := by
  have h0 := h
  unfold mapEntryK at h
  split at h
  · rename_i k e' eqf size bytes zero id hT
    split at h
    · rename_i k' e2 xs te ho hTe
      split at h
      · obtain ⟨y, h⟩ := keyK_some h
        have fin : (∃ v o, e = ⟨v, [(id, o)], [id]⟩) → Local (fun lk => mapEntryK C t (.mp id) x lk some) lk nid e := by
          rintro ⟨v, o, rfl⟩
          refine ⟨near_read ho rfl (fun p hp => by cases List.mem_singleton.1 hp; rfl), fun lk' hl => ?_⟩
          have := hl id (List.mem_singleton.2 rfl)
          simp only [mapEntryK, hT, this] at h0 ⊢
          exact h0
        split at h
        · exact fin ⟨_, _, (Option.some.inj h).symm⟩
        · exact fin ⟨_, _, (Option.some.inj h).symm⟩
      · cases h
    · cases h
  · cases h

theorem entryStoreK_local {lk : Nat → Option (Ob C.E)} {m s v : AV C.E} {nid : Nat} {e : Eff C.E} (h : entryStoreK C m s v lk some = some e) : Local (fun lk => entryStoreK C m s v lk some) lk nid e := by
  have h0 := h
  unfold entryStoreK at h
  split at h
  · rename_i id k j
    split at h
    · rename_i k' e2 xs ho
      cases hb : (decide (0 ≤ j) && decide (j < (xs.length : Int))) with
      | false => rw [hb] at h; cases h
      | true =>
        rw [hb] at h
        cases Option.some.inj h
        refine ⟨near_read ho rfl (fun p hp => by cases List.mem_singleton.1 hp; rfl), fun lk' hl => ?_⟩
        have := hl id (List.mem_singleton.2 rfl)
        simp only [entryStoreK, this] at h0 ⊢
        exact h0
    · cases h
  · cases h

theorem updateK_local {lk : Nat → Option (Ob C.E)} {t : TypeId} {m x v : AV C.E} {nid : Nat} {e : Eff C.E} (h : updateK C t m x v lk some = some e) : Local (fun lk => updateK C t m x v lk some) lk nid e := by
  have h0 := h
  unfold updateK at h
  split at h
  · rename_i k e' eqf size bytes zero id hT
    split at h
    · rename_i k' e2 xs ho
      split at h
      · obtain ⟨y, h⟩ := keyK_some h
        obtain ⟨y', h⟩ := valK_some h
        cases Option.some.inj h
        refine ⟨near_read ho rfl (fun p hp => by cases List.mem_singleton.1 hp; rfl), fun lk' hl => ?_⟩
        have := hl id (List.mem_singleton.2 rfl)
        simp only [updateK, hT, this] at h0 ⊢
        exact h0
      · cases h
    · cases h
  · cases h

theorem storeK_local {lk : Nat → Option (Ob C.E)} {t : TypeId} {p x : AV C.E} {nid : Nat} {e : Eff C.E} (h : storeK C lk t p x some = some e) : Local (fun lk => storeK C lk t p x some) lk nid e := by
  have h0 := h
  unfold storeK at h
  split at h
  · rename_i ti id row fo hT
    have key : ∀ o, lk id = some o → e.rd = [id] → (∀ p ∈ e.wr, p.1 = id) → Local (fun lk => storeK C lk t (.ptr id row fo) x some) lk nid e := by
      intro o ho h1 h2
      refine ⟨near_read ho h1 h2, fun lk' hl => ?_⟩
      have := hl id (by rw [h1]; exact List.mem_singleton.2 rfl)
      simp only [storeK, hT, this] at h0 ⊢
      exact h0
    split at h
    · rename_i cells _ ho
      split at h
      · cases Option.some.inj h; exact key _ ho rfl (fun p hp => by cases List.mem_singleton.1 hp; rfl)
      · cases h
    · rename_i e' xs _ ho
      obtain ⟨_, h⟩ := rowK_some h
      split at h
      · rename_i cs _
        cases hd : C.dec e' cs with
        | none => rw [hd] at h; cases h
        | some y => rw [hd] at h; cases Option.some.inj h; exact key _ ho rfl (fun p hp => by cases List.mem_singleton.1 hp; rfl)
      · cases h
    · cases h
  · cases h

theorem indexAddrK_local {lk : Nat → Option (Ob C.E)} {t : TypeId} {x i : AV C.E} {nid : Nat} {e : Eff C.E} (h : indexAddrK C lk t x i some = some e) : Local (fun lk => indexAddrK C lk t x i some) lk nid e := by
  have h0 := h
  unfold indexAddrK at h
  split at h
  · rename_i hT
    exact ⟨(cond_val h).near _ _, fun lk' _ => by simp only [indexAddrK, hT] at h0 ⊢; exact h0⟩
  · rename_i hT
    exact ⟨(cond_val h).near _ _, fun lk' _ => by simp only [indexAddrK, hT] at h0 ⊢; exact h0⟩
  · rename_i hT
    split at h
    · exact ⟨(bind_val h).near _ _, fun lk' _ => by simp only [indexAddrK, hT] at h0 ⊢; exact h0⟩
    · cases h
  · rename_i e' eq sz by_ zr id start len k i hT
    split at h
    · rename_i e2 xs ho
      split at h
      · cases Option.some.inj (cond_some h).2
        refine ⟨near_read ho rfl (fun p hp => by cases hp), fun lk' hl => ?_⟩
        have := hl id (List.mem_singleton.2 rfl)
        simp only [indexAddrK, hT, this] at h0 ⊢
        exact h0
      · cases h
    · cases h
  · cases h

theorem sliceK_local {lk : Nat → Option (Ob C.E)} {t : TypeId} {x : AV C.E} {lo hi mx : Option (AV C.E)} {nid : Nat} {e : Eff C.E} (h : sliceK C t x lo hi mx lk some = some e) : Local (fun lk => sliceK C t x lo hi mx lk some) lk nid e := by
  have h0 := h
  unfold sliceK at h
  split at h
  · cases h
  · rename_i hmx
    split at h
    · rename_i hT
      split at h
      · exact ⟨(cond_val h).near _ _, fun lk' _ => by simp only [sliceK, hmx, hT] at h0 ⊢; exact h0⟩
      · cases h
    · rename_i e' eq sz by_ zr id start len hT
      split at h
      · rename_i ho _ _ _
        split at h
        · cases Option.some.inj (cond_some h).2
          refine ⟨near_read ho rfl (fun p hp => by cases hp), fun lk' hl => ?_⟩
          have := hl id (List.mem_singleton.2 rfl)
          simp only [sliceK, hmx, hT, this] at h0 ⊢
          exact h0
        · cases h
      · cases h
    · rename_i n e' eq sz by_ zr id hT
      split at h
      · rename_i cells te ho hte
        split at h
        · rename_i rows _ _
          cases hd : decAll C e' rows with
          | none => rw [hd] at h; cases h
          | some xs =>
            rw [hd] at h
            cases Option.some.inj h
            refine ⟨near_read ho rfl (fun p hp => by cases List.mem_singleton.1 hp; rfl), fun lk' hl => ?_⟩
            have := hl id (List.mem_singleton.2 rfl)
            simp only [sliceK, hmx, hT, this] at h0 ⊢
            exact h0
        · cases h
      · cases h
    · cases h

/-- Reading a slice. -/
theorem readSl_local {Z : Type} {lk : Nat → Option (Ob C.E)} {e : TypeId} {x : AV C.E} {K : List (C.E e) → List Nat → Option Z} {z : Z} (h : readSl C lk e x K = some z) :
    ∃ ys rd, K ys rd = some z ∧ (∀ i ∈ rd, ∃ o, lk i = some o) ∧ ∀ lk', (∀ i ∈ rd, lk' i = lk i) → ∀ {Z' : Type} (K' : List (C.E e) → List Nat → Option Z'), readSl C lk' e x K' = K' ys rd := by
  unfold readSl at h
  split at h
  · exact ⟨_, _, h, fun i hi => (by cases hi), fun lk' _ Z' K' => rfl⟩
  · split at h
    · rename_i heq hd
      exact ⟨_, _, h, fun i hi => (by cases hi), fun lk' _ Z' K' => by simp only [readSl, hd]⟩
    · cases h
  · split at h
    · rename_i heq hd
      exact ⟨_, _, h, fun i hi => (by cases hi), fun lk' _ Z' K' => by simp only [readSl, hd]⟩
    · cases h
  · rename_i id start len
    split at h
    · rename_i e' xs ho
      split at h
      · rename_i heq hd
        obtain ⟨hb, h⟩ := cond_some h
        refine ⟨_, _, h, fun i hi => by rw [List.mem_singleton.1 hi]; exact ⟨_, ho⟩, fun lk' hl Z' K' => ?_⟩
        have := hl id (List.mem_singleton.2 rfl)
        simp only [readSl, this, ho, hd, hb, cond_true]
      · cases h
    · cases h
  · cases h

theorem zeroK_near {t : TypeId} {x : AV C.E} {hi mx : Option (AV C.E)} {nid : Nat} {e : Eff C.E} (h : zeroK C t x hi mx nid some = some e) (lk : Nat → Option (Ob C.E)) : Near lk nid e ∧ e.rd = [] := by
  unfold zeroK at h
  repeat' first | (cases h; done) | split at h
  all_goals
    first
    | (cases Option.some.inj h
       exact ⟨⟨fun p hp => (by cases List.mem_singleton.1 hp; exact .inr ⟨Nat.le_refl _, by omega⟩), fun i hi => (by cases hi)⟩, rfl⟩)

theorem convAK_local {lk : Nat → Option (Ob C.E)} {s d : TypeId} {x : AV C.E} {nid : Nat} {e : Eff C.E} (h : convAK C s d x lk some = some e) : Local (fun lk => convAK C s d x lk some) lk nid e := by
  unfold convAK at h
  split at h
  · rename_i e1 _ _ _ _ e2 _ _ _ _ hT1 hT2
    split at h
    · rename_i id start n hb
      obtain ⟨ys, rd, h1, h2, h3⟩ := readSl_local h
      have hrd : rd = [id] := by
        have := h
        unfold readSl at h
        simp only at h
        split at h
        · rename_i e3 xs3 ho
          split at h
          · rename_i hd
            have := h3 lk (fun _ _ => rfl) (fun _ rd => some rd)
            simp only [readSl, ho, hd] at this
            exact (Option.some.inj (cond_some this).2).symm
          · cases h
        · cases h
      subst hrd
      cases Option.some.inj h1
      refine ⟨⟨fun p hp => (by cases hp), h2⟩, fun lk' hl => ?_⟩
      simp only [convAK, hT1, hT2, hb]
      rw [h3 lk' hl]
    · cases h
  · rename_i e1 _ _ _ _ _ _ _ _ hT1 hT2
    split at h
    · rename_i hb
      obtain ⟨ys, rd, h1, h2, h3⟩ := readSl_local h
      cases hy : C.bytes e1 ys with
      | none => rw [hy] at h1; cases h1
      | some l =>
        rw [hy] at h1
        cases Option.some.inj h1
        refine ⟨⟨fun p hp => (by cases hp), h2⟩, fun lk' hl => ?_⟩
        simp only [convAK, hT1, hT2, hb]
        rw [h3 lk' hl, hy]
        rfl
    · cases h
  · rename_i n1 n2
    have hp := convK_pure h
    refine ⟨hp.near _ _, fun lk' _ => ?_⟩
    unfold convAK
    split
    · rename_i a b
      exact (n1 _ _ _ _ _ _ _ _ _ _ a b).elim
    · rename_i a b
      exact (n2 _ _ _ _ _ _ _ _ _ a b).elim
    · exact h

theorem appendK_local {lk : Nat → Option (Ob C.E)} {t : TypeId} {s x : AV C.E} {nid : Nat} {e : Eff C.E} (h : appendK C t s x lk nid some = some e) : Local (fun lk => appendK C t s x lk nid some) lk nid e := by
  unfold appendK at h
  split at h
  · rename_i e' eq sz by_ zr hT
    split at h
    · rename_i te hte
      obtain ⟨ys, rx, h1, h2, h3⟩ := readSl_local h
      split at h1
      · obtain ⟨hb, h1⟩ := cond_some h1
        cases Option.some.inj h1
        refine ⟨⟨fun p hp => (by cases List.mem_singleton.1 hp; exact .inr ⟨Nat.le_refl _, by omega⟩), h2⟩, fun lk' hl => ?_⟩
        simp only [appendK, hT, hte]
        rw [h3 lk' hl]
        simp only [hb, cond_true]
      · rename_i id start len
        obtain ⟨xs, rs, k1, k2, k3⟩ := readSl_local h1
        have hrs : rs = [id] ∧ ∃ o, lk id = some o := by
          have hh := h1
          unfold readSl at hh
          simp only at hh
          split at hh
          · rename_i e2 xs2 ho
            split at hh
            · have := k3 lk (fun _ _ => rfl) (fun _ rd => some rd)
              rename_i hd
              simp only [readSl, ho, hd] at this
              have := (cond_some this).2
              exact ⟨(Option.some.inj this).symm, _, ho⟩
            · cases hh
          · cases hh
        obtain ⟨hb, k1⟩ := cond_some k1
        cases Option.some.inj k1
        obtain ⟨rfl, o, ho⟩ := hrs
        refine ⟨⟨fun p hp => ?_, fun i hi => ?_⟩, fun lk' hl => ?_⟩
        · rcases List.mem_cons.1 hp with rfl | hp
          · exact .inl (List.mem_cons_self ..)
          · cases List.mem_singleton.1 hp; exact .inr ⟨Nat.le_refl _, by omega⟩
        · rcases List.mem_cons.1 hi with rfl | hi
          · exact ⟨o, ho⟩
          · exact h2 i hi
        · simp only [appendK, hT, hte]
          rw [h3 lk' (fun i hi => hl i (List.mem_cons_of_mem _ hi))]
          rw [k3 lk' (fun i hi => by rw [List.mem_singleton.1 hi]; exact hl id (List.mem_cons_self ..))]
          simp only [hb, cond_true]
      · cases h1
    · cases h
  · cases h

theorem copyK_local {lk : Nat → Option (Ob C.E)} {t : TypeId} {d x : AV C.E} {nid : Nat} {e : Eff C.E} (h : copyK C t d x lk some = some e) : Local (fun lk => copyK C t d x lk some) lk nid e := by
  unfold copyK at h
  split at h
  · rename_i e' eq sz by_ zr id start len hT
    split at h
    · rename_i te e2 zs hte ho
      split at h
      · rename_i heq hd
        obtain ⟨hb, h⟩ := cond_some h
        obtain ⟨ys, rx, h1, h2, h3⟩ := readSl_local h
        cases Option.some.inj h1
        refine ⟨⟨fun p hp => (by cases List.mem_singleton.1 hp; exact .inl (List.mem_cons_self ..)), fun i hi => ?_⟩, fun lk' hl => ?_⟩
        · rcases List.mem_cons.1 hi with rfl | hi
          · exact ⟨_, ho⟩
          · exact h2 i hi
        · have := hl id (List.mem_cons_self ..)
          simp only [copyK, hT, hte, this, ho, hd, hb, cond_true]
          rw [h3 lk' (fun i hi => hl i (List.mem_cons_of_mem _ hi))]
      · cases h
    · cases h
  · cases h

theorem clearK_local {lk : Nat → Option (Ob C.E)} {t : TypeId} {d : AV C.E} {nid : Nat} {e : Eff C.E} (h : clearK C t d lk some = some e) : Local (fun lk => clearK C t d lk some) lk nid e := by
  unfold clearK at h
  split at h
  · rename_i e' eq sz by_ zr id start len hT
    split at h
    · rename_i te e2 zs hte ho
      split at h
      · rename_i heq hd
        cases h4 : C.dec e' te.zero with
        | none => rw [h4] at h; cases h
        | some zx =>
          rw [h4] at h
          obtain ⟨hb, h⟩ := cond_some h
          cases Option.some.inj h
          refine ⟨⟨fun p hp => (by cases List.mem_singleton.1 hp; exact .inl (List.mem_cons_self ..)), fun i hi => ?_⟩, fun lk' hl => ?_⟩
          · rw [List.mem_singleton.1 hi]
            exact ⟨_, ho⟩
          · have := hl id (List.mem_cons_self ..)
            simp only [clearK, hT, hte, this, ho, hd, h4, Option.bind_some, hb, cond_true]
      · cases h
    · cases h
  · cases h

/-! ### Calls -/

def Hand.ids (a : Hand E) : List Nat := a.lent ++ a.src.map (·.1)

structure Sub (lk : Nat → Option (Ob E)) (a b : Hand E) : Prop where
  sub : ∀ i ∈ a.ids, i ∈ b.ids
  live : (∀ i ∈ a.ids, ∃ o, lk i = some o) → ∀ i ∈ b.ids, ∃ o, lk i = some o

theorem Sub.refl (lk : Nat → Option (Ob E)) (a : Hand E) : Sub lk a a := ⟨fun _ h => h, fun h => h⟩
theorem Sub.trans {lk : Nat → Option (Ob E)} {a b d : Hand E} (h : Sub lk a b) (k : Sub lk b d) : Sub lk a d := ⟨fun i hi => k.sub i (h.sub i hi), fun hl => k.live (h.live hl)⟩
theorem Sub.push {lk : Nat → Option (Ob E)} (a : Hand E) (o : Ob E) (id : Nat) (keep : Bool) {x : Ob E} (hx : lk id = some x) : Sub lk a (a.push o id keep) := by
  have e : (a.push o id keep).ids = a.ids ++ [id] := by simp [Hand.ids, Hand.push]
  refine ⟨fun i hi => by rw [e]; exact List.mem_append_left _ hi, fun hl i hi => ?_⟩
  rw [e] at hi
  rcases List.mem_append.1 hi with h1 | h1
  · exact hl i h1
  · rw [List.mem_singleton.1 h1]; exact ⟨_, hx⟩
theorem Sub.lent {lk : Nat → Option (Ob E)} (a : Hand E) (rd : List Nat) (h : ∀ i ∈ rd, ∃ o, lk i = some o) : Sub lk a { a with lent := rd ++ a.lent } := by
  have e : ({ a with lent := rd ++ a.lent } : Hand E).ids = rd ++ a.ids := by simp [Hand.ids]
  refine ⟨fun i hi => by rw [e]; exact List.mem_append_right _ hi, fun hl i hi => ?_⟩
  rw [e] at hi
  rcases List.mem_append.1 hi with h1 | h1
  · exact h i h1
  · exact hl i h1

theorem giveSl_local {Z : Type} {lk : Nat → Option (Ob C.E)} {a : Hand C.E} {id start len : Nat} {K : Hand C.E → AV C.E → Option Z} {z : Z} (h : giveSl C lk a id start len K = some z) :
    ∃ b y, K b y = some z ∧ Sub lk a b ∧ ∀ lk', (∀ i ∈ b.ids, lk' i = lk i) → ∀ {Z' : Type} (K' : Hand C.E → AV C.E → Option Z'), giveSl C lk' a id start len K' = K' b y := by
  unfold giveSl at h
  split at h
  · rename_i e xs ho
    obtain ⟨hb, h⟩ := cond_some h
    have hs := Sub.push (lk := lk) a (.arr e ((xs.drop start).take len)) id false ho
    refine ⟨_, _, h, hs, fun lk' hl Z' K' => ?_⟩
    have hid : id ∈ (a.push (.arr e ((xs.drop start).take len)) id false).ids := by simp [Hand.ids, Hand.push]
    have := hl id hid
    simp only [giveSl, this, ho, hb, cond_true]
  · cases h

theorem giveCells_local {Z : Type} {lk : Nat → Option (Ob C.E)} : ∀ (cs : List (AV C.E)) {a : Hand C.E} {K : Hand C.E → List (AV C.E) → Option Z} {z : Z} (_ : giveCells C lk a cs K = some z),
    ∃ b ys, K b ys = some z ∧ Sub lk a b ∧ ∀ lk', (∀ i ∈ b.ids, lk' i = lk i) → ∀ {Z' : Type} (K' : Hand C.E → List (AV C.E) → Option Z'), giveCells C lk' a cs K' = K' b ys
  | [], a, K, z, h => ⟨_, _, h, Sub.refl _ _, fun lk' _ Z' K' => rfl⟩
  | x :: cs, a, K, z, h => by
    by_cases hs : ∃ id start len, x = .sl id start len
    · obtain ⟨id, start, len, rfl⟩ := hs
      simp only [giveCells] at h
      obtain ⟨b, y, h1, h2, h3⟩ := giveSl_local h
      obtain ⟨d, ys, k1, k2, k3⟩ := giveCells_local cs h1
      refine ⟨_, _, k1, h2.trans k2, fun lk' hl Z' K' => ?_⟩
      simp only [giveCells]
      rw [h3 lk' (fun i hi => hl i (k2.sub i hi))]
      exact k3 lk' hl _
    · by_cases hq : ∃ id, x = .mp id
      · obtain ⟨id, rfl⟩ := hq
        simp only [giveCells] at h
        split at h
        · rename_i k e xs ho
          have hp := Sub.push (lk := lk) a (.map k e xs) id true ho
          obtain ⟨d, ys, k1, k2, k3⟩ := giveCells_local cs h
          refine ⟨_, _, k1, hp.trans k2, fun lk' hl Z' K' => ?_⟩
          have hid : id ∈ (a.push (.map k e xs) id true).ids := by simp [Hand.ids, Hand.push]
          have := hl id (k2.sub id hid)
          simp only [giveCells, this, ho]
          exact k3 lk' hl _
        · cases h
      have hg : ∀ {Z : Type} (lk : Nat → Option (Ob C.E)) (K : Hand C.E → List (AV C.E) → Option Z), giveCells C lk a (x :: cs) K = (match x.free with
          | true => giveCells C lk a cs fun a xs => K a (x :: xs)
          | false => none) := by
        intro Z lk K
        cases x <;> first | exact (hs ⟨_, _, _, rfl⟩).elim | exact (hq ⟨_, rfl⟩).elim | rfl
      rw [hg] at h
      split at h
      · rename_i hf
        obtain ⟨d, ys, k1, k2, k3⟩ := giveCells_local cs h
        refine ⟨_, _, k1, k2, fun lk' hl Z' K' => ?_⟩
        rw [hg, hf]
        exact k3 lk' hl _
      · cases h

theorem readCells_local {Z : Type} {lk : Nat → Option (Ob C.E)} : ∀ (cs : List (AV C.E)) {K : List (AV C.E) → List Nat → Option Z} {z : Z} (_ : readCells C lk cs K = some z),
    ∃ ys rd, K ys rd = some z ∧ (∀ i ∈ rd, ∃ o, lk i = some o) ∧ ∀ lk', (∀ i ∈ rd, lk' i = lk i) → ∀ {Z' : Type} (K' : List (AV C.E) → List Nat → Option Z'), readCells C lk' cs K' = K' ys rd
  | [], K, z, h => ⟨_, _, h, fun _ h => (by cases h), fun lk' _ Z' K' => rfl⟩
  | x :: cs, K, z, h => by
    by_cases hs : ∃ id start len, x = .sl id start len
    · obtain ⟨id, start, len, rfl⟩ := hs
      simp only [readCells] at h
      split at h
      · rename_i e xs ho
        obtain ⟨hle, h⟩ := cond_some h
        obtain ⟨ys, rd, k1, k2, k3⟩ := readCells_local cs h
        refine ⟨_, _, k1, fun i hi => ?_, fun lk' hl Z' K' => ?_⟩
        · rcases List.mem_cons.1 hi with rfl | hi
          · exact ⟨_, ho⟩
          · exact k2 i hi
        · have := hl id (List.mem_cons_self ..)
          simp only [readCells, this, ho, hle, cond_true]
          exact k3 lk' (fun i hi => hl i (List.mem_cons_of_mem _ hi)) _
      · cases h
    · have hg : ∀ (lk : Nat → Option (Ob C.E)) {Z : Type} (K : List (AV C.E) → List Nat → Option Z), readCells C lk (x :: cs) K = (match x.free with
          | true => readCells C lk cs fun ys rd => K (x :: ys) rd
          | false => none) := by
        intro lk Z K
        cases x <;> first | exact (hs ⟨_, _, _, rfl⟩).elim | rfl
      rw [hg] at h
      split at h
      · rename_i hf
        obtain ⟨ys, rd, k1, k2, k3⟩ := readCells_local cs h
        refine ⟨_, _, k1, k2, fun lk' hl Z' K' => ?_⟩
        rw [hg, hf]
        exact k3 lk' hl _
      · cases h

theorem handCell1_local {Z : Type} {lk : Nat → Option (Ob C.E)} {a : Hand C.E} {m : CM} {x : AV C.E} {K : Hand C.E → AV C.E → Option Z} {z : Z} (h : handCell1 C lk a m x K = some z) :
    ∃ b y, K b y = some z ∧ Sub lk a b ∧ ∀ lk', (∀ i ∈ b.ids, lk' i = lk i) → ∀ {Z' : Type} (K' : Hand C.E → AV C.E → Option Z'), handCell1 C lk' a m x K' = K' b y := by
  unfold handCell1 at h
  split at h
  · obtain ⟨ys, rd, h1, h2, h3⟩ := readSl_local h
    refine ⟨_, _, h1, Sub.lent a rd h2, fun lk' hl Z' K' => ?_⟩
    simp only [handCell1]
    rw [h3 lk' (fun i hi => hl i (by simp [Hand.ids, hi]))]
  · exact ⟨_, _, h, Sub.refl _ _, fun lk' _ Z' K' => rfl⟩
  · exact giveSl_local h
  · exact ⟨_, _, h, Sub.refl _ _, fun lk' _ Z' K' => rfl⟩
  · rename_i id
    split at h
    · rename_i cs ho
      obtain ⟨b, ys, h1, h2, h3⟩ := giveCells_local cs h
      have hs := Sub.push (lk := lk) b (.box ys) id true ho
      refine ⟨_, _, h1, h2.trans hs, fun lk' hl Z' K' => ?_⟩
      have hid : id ∈ (b.push (.box ys) id true).ids := by simp [Hand.ids, Hand.push]
      have := hl id hid
      simp only [handCell1, this, ho]
      exact h3 lk' (fun i hi => hl i (hs.sub i hi)) _
    · cases h
  · split at h
    · rename_i hf
      exact ⟨_, _, h, Sub.refl _ _, fun lk' _ Z' K' => by simp only [handCell1, hf]⟩
    · cases h
  · exact ⟨_, _, h, Sub.refl _ _, fun lk' _ Z' K' => rfl⟩
  · split at h
    · rename_i hf
      exact ⟨_, _, h, Sub.refl _ _, fun lk' _ Z' K' => by simp only [handCell1, hf]⟩
    · cases h
  · rename_i id
    split at h
    · rename_i cs ho
      obtain ⟨ys, rd, h1, h2, h3⟩ := readCells_local cs h
      refine ⟨_, _, h1, Sub.lent a (id :: rd) (fun i hi => ?_), fun lk' hl Z' K' => ?_⟩
      · rcases List.mem_cons.1 hi with rfl | hi
        · exact ⟨_, ho⟩
        · exact h2 i hi
      · have := hl id (by simp [Hand.ids])
        simp only [handCell1, this, ho]
        exact h3 lk' (fun i hi => hl i (by simp [Hand.ids, hi])) _
    · cases h
  · exact ⟨_, _, h, Sub.refl _ _, fun lk' _ Z' K' => rfl⟩
  · rename_i id start len
    split at h
    · rename_i e xs ho
      have hs := Sub.push (lk := lk) a (.arr e xs) id true ho
      refine ⟨_, _, h, hs, fun lk' hl Z' K' => ?_⟩
      have hid : id ∈ (a.push (.arr e xs) id true).ids := by simp [Hand.ids, Hand.push]
      have := hl id hid
      simp only [handCell1, this, ho]
    · cases h
  · rename_i id
    split at h
    · rename_i k e xs ho
      have hs := Sub.push (lk := lk) a (.map k e xs) id true ho
      refine ⟨_, _, h, hs, fun lk' hl Z' K' => ?_⟩
      have hid : id ∈ (a.push (.map k e xs) id true).ids := by simp [Hand.ids, Hand.push]
      have := hl id hid
      simp only [handCell1, this, ho]
    · cases h
  · cases h

theorem handCaps_local {Z : Type} {lk : Nat → Option (Ob C.E)} : ∀ (cs : List (AV C.E)) {a : Hand C.E} {K : Hand C.E → List (AV C.E) → Option Z} {z : Z} (_ : handCaps C lk a cs K = some z),
    ∃ b ys, K b ys = some z ∧ Sub lk a b ∧ ∀ lk', (∀ i ∈ b.ids, lk' i = lk i) → ∀ {Z' : Type} (K' : Hand C.E → List (AV C.E) → Option Z'), handCaps C lk' a cs K' = K' b ys
  | [], a, K, z, h => ⟨_, _, h, Sub.refl _ _, fun lk' _ Z' K' => rfl⟩
  | x :: cs, a, K, z, h => by
    simp only [handCaps] at h
    obtain ⟨b, y, h1, h2, h3⟩ := handCell1_local h
    obtain ⟨d, ys, k1, k2, k3⟩ := handCaps_local cs h1
    refine ⟨_, _, k1, h2.trans k2, fun lk' hl Z' K' => ?_⟩
    simp only [handCaps]
    rw [h3 lk' (fun i hi => hl i (k2.sub i hi))]
    exact k3 lk' hl _

theorem handCell_local {Z : Type} {lk : Nat → Option (Ob C.E)} {a : Hand C.E} {m : CM} {x : AV C.E} {K : Hand C.E → AV C.E → Option Z} {z : Z} (h : handCell C lk a m x K = some z) :
    ∃ b y, K b y = some z ∧ Sub lk a b ∧ ∀ lk', (∀ i ∈ b.ids, lk' i = lk i) → ∀ {Z' : Type} (K' : Hand C.E → AV C.E → Option Z'), handCell C lk' a m x K' = K' b y := by
  unfold handCell at h
  split at h
  · obtain ⟨b, ys, h1, h2, h3⟩ := handCaps_local _ h
    refine ⟨_, _, h1, h2, fun lk' hl Z' K' => ?_⟩
    simp only [handCell]
    exact h3 lk' hl _
  · rename_i hne
    obtain ⟨b, y, h1, h2, h3⟩ := handCell1_local h
    refine ⟨_, _, h1, h2, fun lk' hl Z' K' => ?_⟩
    have e : handCell C lk' a m x K' = handCell1 C lk' a m x K' := by
      unfold handCell
      split
      · exact (hne _ _ rfl rfl).elim
      · rfl
    rw [e]
    exact h3 lk' hl _

theorem handCells_local {Z : Type} {lk : Nat → Option (Ob C.E)} : ∀ (ms : List CM) (cs : List (AV C.E)) {a : Hand C.E} {K : Hand C.E → List (AV C.E) → Option Z} {z : Z} (_ : handCells C lk a ms cs K = some z),
    ∃ b ys, K b ys = some z ∧ Sub lk a b ∧ ∀ lk', (∀ i ∈ b.ids, lk' i = lk i) → ∀ {Z' : Type} (K' : Hand C.E → List (AV C.E) → Option Z'), handCells C lk' a ms cs K' = K' b ys
  | [], [], a, K, z, h => ⟨_, _, h, Sub.refl _ _, fun lk' _ Z' K' => rfl⟩
  | [], _ :: _, a, K, z, h => by cases h
  | _ :: _, [], a, K, z, h => by cases h
  | m :: ms, x :: cs, a, K, z, h => by
    simp only [handCells] at h
    obtain ⟨b, y, h1, h2, h3⟩ := handCell_local h
    obtain ⟨d, ys, k1, k2, k3⟩ := handCells_local ms cs h1
    refine ⟨_, _, k1, h2.trans k2, fun lk' hl Z' K' => ?_⟩
    simp only [handCells]
    rw [h3 lk' (fun i hi => hl i (k2.sub i hi))]
    exact k3 lk' hl _

theorem handArgs_local {Z : Type} {lk : Nat → Option (Ob C.E)} : ∀ (ms : List (List CM)) (cs : List (AV C.E)) {a : Hand C.E} {K : Hand C.E → List (AV C.E) → Option Z} {z : Z} (_ : handArgs C lk a ms cs K = some z),
    ∃ b ys, K b ys = some z ∧ Sub lk a b ∧ ∀ lk', (∀ i ∈ b.ids, lk' i = lk i) → ∀ {Z' : Type} (K' : Hand C.E → List (AV C.E) → Option Z'), handArgs C lk' a ms cs K' = K' b ys
  | [], [], a, K, z, h => ⟨_, _, h, Sub.refl _ _, fun lk' _ Z' K' => rfl⟩
  | [], _ :: _, a, K, z, h => by cases h
  | _ :: _, [], a, K, z, h => by cases h
  | m :: ms, x :: cs, a, K, z, h => by
    simp only [handArgs] at h
    obtain ⟨b, y, h1, h2, h3⟩ := handCells_local _ _ h
    obtain ⟨d, ys, k1, k2, k3⟩ := handArgs_local ms cs h1
    refine ⟨_, _, k1, h2.trans k2, fun lk' hl Z' K' => ?_⟩
    simp only [handArgs]
    rw [h3 lk' (fun i hi => hl i (k2.sub i hi))]
    exact k3 lk' hl _

theorem callK_local {g : CF C} (hg : CFNat g) {args : List (AV C.E)} {lk : Nat → Option (Ob C.E)} {nid : Nat} {e : Eff C.E} (h : callK C g args lk nid some = some e) : Local (fun lk => callK C g args lk nid some) lk nid e := by
  unfold callK at h
  obtain ⟨hd, loc, h1, h2, h3⟩ := handArgs_local _ _ h
  have hl0 := h2.live (fun i hi => by simp [Hand.ids] at hi)
  have key : ∀ lk', (∀ i ∈ hd.lent ++ hd.src.map (·.1), lk' i = lk i) → callK C g args lk' nid some = some e := by
    intro lk' hl
    unfold callK
    rw [h3 lk' hl]
    exact h1
  split at h1
  · rw [hg] at h1
    cases hF : g.F loc hd.obs fun r o => some (r, o) with
    | none => rw [hF] at h1; cases h1
    | some p =>
      rw [hF] at h1
      simp only [Option.bind_some] at h1
      split at h1
      · rename_i hb
        have h4 := Nat.le_of_ble_eq_true (and_split hb).1
        cases Option.some.inj h1
        refine ⟨⟨fun q hq => ?_, hl0⟩, key⟩
        rcases List.mem_append.1 hq with hq | hq
        · obtain ⟨r, hr, rfl⟩ := List.mem_map.1 hq
          exact .inl (List.mem_append_right _ (List.mem_map.2 ⟨r, hr, rfl⟩))
        · have hm : q.1 ∈ outMap hd.src p.2.length nid := (List.of_mem_zip hq).1
          obtain ⟨j, hj⟩ := List.getElem?_of_mem hm
          have hjl : j < p.2.length := by have := lt_of_getElem? hj; rw [outMap_len] at this; exact this
          cases hk : keptB hd.src j with
          | true =>
            obtain ⟨id, hid⟩ := keptB_true hk
            have := outMap_kept hd.src p.2.length nid j id hjl hid
            rw [hj] at this
            rw [Option.some.inj this]
            exact .inl (List.mem_append_right _ (List.mem_map.2 ⟨_, List.mem_of_getElem? hid, rfl⟩))
          | false =>
            obtain ⟨i, h5, h6, h7⟩ := outMap_new hd.src p.2.length nid j hjl hk
            rw [hj] at h5
            rw [Option.some.inj h5]
            exact .inr ⟨h6, by omega⟩
      · cases h1
  · cases h1

theorem near_alloc {lk : Nat → Option (Ob E)} {nid : Nat} {v : AV E} {o : Option (Ob E)} : Near lk nid ⟨v, [(nid, o)], []⟩ :=
  ⟨fun p hp => (by cases List.mem_singleton.1 hp; exact .inr ⟨Nat.le_refl _, by omega⟩), fun i hi => (by cases hi)⟩

theorem opK_local {Γ : FuncId → Option (CF C)} (hΓ : ∀ f g, Γ f = some g → CFNat g) {o : Op} {ρ : Operand → AV C.E} {lk : Nat → Option (Ob C.E)} {nid : Nat} {e : Eff C.E} (h : opK C Γ o ρ lk nid some = some e) :
    Local (fun lk => opK C Γ o ρ lk nid some) lk nid e := by
  have pure : PureE e → (∀ lk', opK C Γ o ρ lk' nid some = opK C Γ o ρ lk nid some) → Local (fun lk => opK C Γ o ρ lk nid some) lk nid e := fun h1 h2 => ⟨h1.near _ _, fun lk' _ => (h2 lk').trans h⟩
  have near : Near lk nid e → (∀ lk', opK C Γ o ρ lk' nid some = opK C Γ o ρ lk nid some) → Local (fun lk => opK C Γ o ρ lk nid some) lk nid e := fun h1 h2 => ⟨h1, fun lk' _ => (h2 lk').trans h⟩
  cases o
  case call ca =>
    rcases ca with ⟨callee, args, tys⟩
    cases callee with
    | value x =>
      simp only [opK] at h ⊢
      split at h
      · rename_i f caps hx
        cases hg : Γ f with
        | none => rw [hg] at h; cases h
        | some g =>
          rw [hg] at h
          have := callK_local (hΓ f g hg) h
          refine ⟨this.1, fun lk' hl => ?_⟩
          have := this.2 lk' hl
          exact this
      · cases h
    | invoke a b => cases h
    | builtin b =>
      cases b <;> try (cases h; done)
      case append =>
        simp only [opK] at h ⊢
        split at h
        · split at h
          · exact appendK_local h
          · cases h
        · cases h
      case copy =>
        simp only [opK] at h ⊢
        split at h
        · split at h
          · exact copyK_local h
          · cases h
        · cases h
      case clear =>
        simp only [opK] at h ⊢
        split at h
        · exact clearK_local h
        · cases h
      all_goals
        refine pure ?_ (fun _ => rfl)
        simp only [opK] at h
        repeat' first | exact val_pure h | exact cond_val h | (cases h; done) | split at h
  case lookup => exact lookupK_local h
  case mapUpdate => exact updateK_local h
  case mapEntry => exact mapEntryK_local h
  case entryStore => exact entryStoreK_local h
  case makeMap t r =>
    cases r with
    | some x => cases h
    | none =>
      refine near ?_ (fun _ => rfl)
      have h' : makeMapK C t nid some = some e := h
      unfold makeMapK at h'
      repeat' first | (cases h'; done) | (cases Option.some.inj h'; exact near_alloc) | split at h'
  case load => exact loadK_local h
  case store => exact storeK_local h
  case indexAddr => exact indexAddrK_local h
  case slice t x lo hi mx =>
    cases hz : (lo.isNone && (zeroOp hi && zeroOp mx)) with
    | true =>
      simp only [opK, hz] at h
      exact near (zeroK_near h lk).1 (fun _ => by simp only [opK, hz])
    | false =>
      simp only [opK, hz] at h
      have := sliceK_local (nid := nid) h
      refine ⟨this.1, fun lk' hl => ?_⟩
      simp only [opK, hz]
      exact this.2 lk' hl
  case convert => exact convAK_local h
  case alloc =>
    refine near ?_ (fun _ => rfl)
    simp only [opK] at h
    repeat' first | (cases h; done) | (cases Option.some.inj h; exact near_alloc) | split at h
  case box =>
    refine near ?_ (fun _ => rfl)
    simp only [opK] at h
    repeat' first | (cases h; done) | (cases Option.some.inj h; exact near_alloc) | split at h
  case buildSlice => exact near (buildSliceK_near h lk).1 (fun _ => rfl)
  case makeSlice => exact near (makeK_near h lk).1 (fun _ => rfl)
  case binOp =>
    refine pure ?_ (fun _ => rfl)
    simp only [opK] at h
    split at h
    · exact binK_pure h
    · cases h
  case unOp => exact pure (unK_pure h) (fun _ => rfl)
  case build => exact pure (buildK_pure h) (fun _ => rfl)
  case index => exact pure (indexK_pure h) (fun _ => rfl)
  case pick =>
    refine pure ?_ (fun _ => rfl)
    simp only [opK] at h
    split at h
    · rename_i t _
      cases t <;> exact val_pure h
    · cases h
  all_goals
    refine pure ?_ (fun _ => rfl)
    simp only [opK] at h
    repeat' first | exact val_pure h | (cases h; done) | split at h

/-! ### What looks at types alone -/

/-- The same object, or two of one type. -/
def SameT (o o' : Option (Ob E)) : Prop := o' = o ∨ ∃ e xs xs', o = some (.arr e xs) ∧ o' = some (.arr e xs')

theorem indexAddrK_type {lk lk' : Nat → Option (Ob C.E)} {t : TypeId} {x i : AV C.E} {e : Eff C.E} (h : indexAddrK C lk t x i some = some e) (hl : ∀ i ∈ e.rd, SameT (lk i) (lk' i)) : indexAddrK C lk' t x i some = some e := by
  have h0 := h
  unfold indexAddrK at h
  split at h
  · rename_i hT
    simp only [indexAddrK, hT] at h0 ⊢
    exact h0
  · rename_i hT
    simp only [indexAddrK, hT] at h0 ⊢
    exact h0
  · rename_i hT
    split at h
    · simp only [indexAddrK, hT] at h0 ⊢
      exact h0
    · cases h
  · rename_i e' eq sz by_ zr id start len k i hT
    split at h
    · rename_i e2 xs ho
      split at h
      · rename_i he
        have hc := cond_some h
        cases Option.some.inj hc.2
        rcases hl id (List.mem_singleton.2 rfl) with h1 | ⟨e3, ys, ys', h1, h2⟩
        · simp only [indexAddrK, hT, h1] at h0 ⊢
          exact h0
        · rw [ho] at h1
          cases h1
          simp only [indexAddrK, hT, h2, he, hc.1, cond_true]
      · cases h
    · cases h
  · cases h

theorem opK_type {Γ : FuncId → Option (CF C)} {o : Op} {ρ : Operand → AV C.E} {lk lk' : Nat → Option (Ob C.E)} {nid : Nat} {e : Eff C.E} (ht : tyOp o = true) (h : opK C Γ o ρ lk nid some = some e) (hl : ∀ i ∈ e.rd, SameT (lk i) (lk' i)) :
    opK C Γ o ρ lk' nid some = some e := by
  cases o <;> first | (cases ht; done) | exact indexAddrK_type h hl

end
end Go.AE
