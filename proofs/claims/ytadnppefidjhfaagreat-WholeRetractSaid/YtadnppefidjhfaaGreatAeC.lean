/-
  AE, part 6: a call is sound.
-/
import Derived.Test.YtadnppefidjhfaaGreatAeO
namespace Go.AE
open Go.RowKit

section
variable {C : Cfg} {c : Ctx} {w : World}

/-! ### Values of which no object's number is part -/

theorem R_free {c' : Ctx} {x : AV C.E} {v : Value} (h : R C c w x v) (hx : x.free = true) (hI : ∀ k, c.I k → c'.I k) (hH : ∀ k, c.H k → c'.H k) (hE : ∀ e (y : C.E e), (C.enc e y).all AV.free = true) : R C c' w x v := by
  induction h with
  | bot v => cases hx
  | undef => cases hx
  | int h => exact .int h
  | bool b => exact .bool b
  | str h hm => exact .str h hm
  | nilp => exact .nilp
  | ptr hs hn => cases hx
  | ro f h1 h2 _ _ => cases hx
  | nils => exact .nils
  | imm0 hm ha => exact .imm0 hm ha
  | imm f h1 hl hm hc _ ih => exact .imm f (hI _ h1) hl hm hc (fun i hi j hj => ih i hi j hj (all_get (hE _ _) j hj))
  | him0 hm ha => exact .him0 hm ha
  | him f h1 h1' hl hm hc _ ih => exact .him f (hI _ h1) (hH _ h1') hl hm hc (fun i hi j hj => ih i hi j hj (all_get (hE _ _) j hj))
  | sl0 hn => cases hx
  | sl hs hn hl hm hb hsz => cases hx
  | agg hl _ ih => cases hx
  | tup hl _ ih => cases hx
  | fn hl _ ih => cases hx
  | mp hs hn => cases hx

theorem R_mkV {c' : Ctx} {td : TD} {cs : List (AV C.E)} {v : Value} (h : R C c w (mkV td cs) v) (hx : cs.all AV.free = true) (hI : ∀ k, c.I k → c'.I k) (hH : ∀ k, c.H k → c'.H k) (hE : ∀ e (y : C.E e), (C.enc e y).all AV.free = true) : R C c' w (mkV td cs) v := by
  unfold mkV at h ⊢
  cases hd : td.isAgg with
  | true =>
    rw [hd] at h
    cases h with
    | agg hl hr => exact .agg hl (fun j hj => R_free (hr j hj) (all_get hx j hj) hI hH hE)
  | false =>
    rw [hd] at h
    match cs, hx, h with
    | [x], hx, h => exact R_free h (by simpa using hx) hI hH hE
    | [], _, _ => exact .bot _
    | _ :: _ :: _, _, _ => exact .bot _

/-- A map in another context. -/
theorem ObR_map_to {c' : Ctx} {id j : Nat} {k e : TypeId} {xs : List (C.E k × C.E e)} (h : ObR C c w id (.map k e xs)) (hs : c'.σ j = c.σ id) (hI : ∀ k, c.I k → c'.I k) (hH : ∀ k, c.H k → c'.H k) (hE : ∀ e (y : C.E e), (C.enc e y).all AV.free = true) :
    ObR C c' w j (.map k e xs) := by
  cases h with
  | map hs' hk he es hb hl hborn hkey hval hkd =>
    exact .map (hs.trans hs') hk he es hb hl hborn (fun i hi m hm => R_mkV (hkey i hi m hm) (hE _ _) hI hH hE) (fun i hi m hm => R_mkV (hval i hi m hm) (hE _ _) hI hH hE) hkd

theorem R_plain {c' : Ctx} {w' : World} {x : AV C.E} {v : Value} (h : R C c w x v) (hx : x.plain = true) : R C c' w' x v := by
  cases h with
  | int h => exact .int h
  | bool b => exact .bool b
  | str h hm => exact .str h hm
  | nilp => exact .nilp
  | nils => exact .nils
  | _ => cases hx

theorem plain_free {x : AV C.E} (hx : x.plain = true) : x.free = true := by cases x <;> first | rfl | cases hx

/-! ### Handing over -/

def lentC (c : Ctx) (h : Heap C.E) (lent : List Nat) : Nat → Prop := fun k => c.I k ∨ ∃ id ∈ lent, ∃ o loc, h[id]? = some (some o) ∧ c.σ id = some loc ∧ loc.blk = k

/-- The callee's context. -/
def handC (c : Ctx) (h : Heap C.E) (a : Hand C.E) (los : List (Option Loc)) : Ctx := { n := a.obs.length, σ := fun j => (los[j]?).getD none, I := lentC c h a.lent, H := c.H }

structure HandOK (C : Cfg) (c : Ctx) (w : World) (h : Heap C.E) (a : Hand C.E) (los : List (Option Loc)) : Prop where
  l1 : los.length = a.obs.length
  l2 : a.src.length = a.obs.length
  live : ∀ (j : Nat) (p : Nat × Bool), a.src[j]? = some p → ∃ o, h[p.1]? = some (some o)
  blk : ∀ (j : Nat) (p : Nat × Bool) (loc : Loc), a.src[j]? = some p → los[j]? = some (some loc) → ∃ loc', c.σ p.1 = some loc' ∧ loc'.blk = loc.blk
  kept : ∀ (j : Nat) (id : Nat), a.src[j]? = some (id, true) → los[j]? = some (c.σ id)
  ob : ∀ (j : Nat) (o : Ob C.E), a.obs[j]? = some (some o) → ObR C (handC c h a los) w j o
  some_ : ∀ (j : Nat) (x : Option (Ob C.E)), a.obs[j]? = some x → x ≠ none
  sf : ∀ (j : Nat) (o : Ob C.E) (loc : Loc), a.obs[j]? = some (some o) → los[j]? = some (some loc) → SoftO w loc.blk o

/-- One more local object. -/
theorem hand_keeps {h : Heap C.E} {a b : Hand C.E} {los los' : List (Option Loc)} (h1 : los.length = a.obs.length) (h2 : ∃ r, b.obs = a.obs ++ r) (h3 : ∃ r, los' = los ++ r) (h4 : ∀ x, x ∈ a.lent → x ∈ b.lent) :
    Keeps (handC c h a los) w (handC c h b los') w := by
  obtain ⟨r, hr⟩ := h2
  obtain ⟨q, rfl⟩ := h3
  refine ⟨?_, ?_, ?_, fun _ h => h, fun _ _ => rfl, fun _ cs _ fr h => ⟨cs, fr, h, rfl⟩⟩
  · show a.obs.length ≤ b.obs.length
    rw [hr, List.length_append]; omega
  · intro id loc hn hs
    show ((los ++ q)[id]?).getD none = some loc
    rw [List.getElem?_append_left (by have : id < a.obs.length := hn; omega)]
    exact hs
  · rintro k (hk | ⟨id, hm, rest⟩)
    · exact .inl hk
    · exact .inr ⟨id, h4 _ hm, rest⟩

theorem hand_push {h : Heap C.E} {a : Hand C.E} {los : List (Option Loc)} (H : HandOK C c w h a los) {o : Ob C.E} {id : Nat} {keep : Bool} {l : Option Loc} (hl : ∃ o, h[id]? = some (some o))
    (hb : ∀ loc, l = some loc → ∃ loc', c.σ id = some loc' ∧ loc'.blk = loc.blk) (hk : keep = true → l = c.σ id) (hsf : ∀ loc, l = some loc → SoftO w loc.blk o)
    (ho : ObR C (handC c h (a.push o id keep) (los ++ [l])) w a.obs.length o) : HandOK C c w h (a.push o id keep) (los ++ [l]) := by
  have e1 := H.l1
  have e2 := H.l2
  have hkp : Keeps (handC c h a los) w (handC c h (a.push o id keep) (los ++ [l])) w := hand_keeps e1 ⟨_, rfl⟩ ⟨_, rfl⟩ (fun _ h => h)
  have src : ∀ j p, (a.push o id keep).src[j]? = some p → a.src[j]? = some p ∧ j < a.obs.length ∨ (j = a.obs.length ∧ p = (id, keep)) := by
    intro j p hj
    rcases Nat.lt_trichotomy j a.src.length with h1 | h1 | h1
    · rw [show (a.push o id keep).src = a.src ++ [(id, keep)] from rfl, List.getElem?_append_left h1] at hj
      exact .inl ⟨hj, by omega⟩
    · rw [show (a.push o id keep).src = a.src ++ [(id, keep)] from rfl, List.getElem?_append_right (by omega), h1, Nat.sub_self] at hj
      exact .inr ⟨by omega, by simpa using hj.symm⟩
    · rw [show (a.push o id keep).src = a.src ++ [(id, keep)] from rfl, List.getElem?_eq_none (by simp; omega)] at hj
      cases hj
  have lo1 : ∀ j, j < a.obs.length → (los ++ [l])[j]? = los[j]? := fun j hj => List.getElem?_append_left (by omega)
  have lo2 : (los ++ [l])[a.obs.length]? = some l := by rw [← e1]; simp
  refine ⟨by simp [Hand.push, e1], by simp [Hand.push, e2], ?_, ?_, ?_, ?_, ?_, ?_⟩
  · intro j p hj
    rcases src j p hj with ⟨h1, _⟩ | ⟨_, rfl⟩
    · exact H.live j p h1
    · exact hl
  · intro j p loc hj hlo
    rcases src j p hj with ⟨h1, h2⟩ | ⟨rfl, rfl⟩
    · rw [lo1 j h2] at hlo; exact H.blk j p loc h1 hlo
    · rw [lo2] at hlo; cases hlo; exact hb _ rfl
  · intro j i hj
    rcases src j _ hj with ⟨h1, h2⟩ | ⟨rfl, h2⟩
    · rw [lo1 j h2]; exact H.kept j i h1
    · cases h2; rw [lo2, hk rfl]
  · intro j x hj
    rcases Nat.lt_trichotomy j a.obs.length with h1 | h1 | h1
    · rw [show (a.push o id keep).obs = a.obs ++ [some o] from rfl, List.getElem?_append_left h1] at hj
      have hold := H.ob j x hj
      exact ObR_keep hkp hold h1 (fun hn => by show ((los ++ [l])[j]?).getD none = none; rw [lo1 j h1]; exact hn) (fun _ _ => rfl)
    · rw [show (a.push o id keep).obs = a.obs ++ [some o] from rfl, List.getElem?_append_right (by omega), h1, Nat.sub_self] at hj
      cases hj
      rw [h1]; exact ho
    · rw [show (a.push o id keep).obs = a.obs ++ [some o] from rfl, List.getElem?_eq_none (by simp; omega)] at hj
      cases hj
  · intro j x hj
    rcases Nat.lt_trichotomy j a.obs.length with h1 | h1 | h1
    · rw [show (a.push o id keep).obs = a.obs ++ [some o] from rfl, List.getElem?_append_left h1] at hj
      exact H.some_ j x hj
    · rw [show (a.push o id keep).obs = a.obs ++ [some o] from rfl, List.getElem?_append_right (by omega), h1, Nat.sub_self] at hj
      cases hj; exact fun h => by cases h
    · rw [show (a.push o id keep).obs = a.obs ++ [some o] from rfl, List.getElem?_eq_none (by simp; omega)] at hj
      cases hj
  · intro j x loc hj hlo
    rcases Nat.lt_trichotomy j a.obs.length with h1 | h1 | h1
    · rw [show (a.push o id keep).obs = a.obs ++ [some o] from rfl, List.getElem?_append_left h1] at hj
      rw [lo1 j h1] at hlo
      exact H.sf j x loc hj hlo
    · rw [show (a.push o id keep).obs = a.obs ++ [some o] from rfl, List.getElem?_append_right (by omega), h1, Nat.sub_self] at hj
      cases hj
      rw [h1, lo2] at hlo
      cases hlo
      exact hsf _ rfl
    · rw [show (a.push o id keep).obs = a.obs ++ [some o] from rfl, List.getElem?_eq_none (by simp; omega)] at hj
      cases hj

/-- A slice that is read, as a list of its elements. -/
theorem readSl_imm (hC : CfgOK C) {h : Heap C.E} (hh : HR C c w h) {e : TypeId} {x : AV C.E} {vx : Value} {Z : Type} {K : List (C.E e) → List Nat → Option Z} {z : Z} (hk : readSl C (lookH h) e x K = some z) (hx : R C c w x vx) :
    ∃ ys rd, K ys rd = some z ∧ (∀ id ∈ rd, ∃ o, h[id]? = some (some o)) ∧
      ∀ c' : Ctx, (∀ k, c.I k → c'.I k) → (∀ k, c.H k → c'.H k) → (∀ id loc, id ∈ rd → c.σ id = some loc → c'.I loc.blk) → R C c' w (.imm e ys) vx := by
  unfold readSl at hk
  split at hk
  · cases hx
    exact ⟨_, _, hk, fun _ h => (by cases h), fun c' _ _ _ => .imm0 (by unfold maxLen; omega) (fun _ => rfl)⟩
  · rename_i e' xs
    split at hk
    · rename_i heq _
      subst heq
      exact ⟨_, _, hk, fun _ h => (by cases h), fun c' hI hH _ => R_free hx rfl hI hH hC.free⟩
    · cases hk
  · rename_i e' xs
    split at hk
    · rename_i heq _
      subst heq
      exact ⟨_, _, hk, fun _ h => (by cases h), fun c' hI hH _ => (R_free hx rfl hI hH hC.free).weak⟩
    · cases hk
  · rename_i id start len
    split at hk
    · rename_i e' xs hob
      split at hk
      · rename_i heq _
        subst heq
        obtain ⟨hle, hk⟩ := cond_some hk
        have hle : start + len ≤ xs.length := by simpa using hle
        have ho := lookH_some hob
        have hlen : ((xs.drop start).take len).length = len := by rw [List.length_take, List.length_drop]; omega
        refine ⟨_, _, hk, fun i hi => by rw [List.mem_singleton.1 hi]; exact ⟨_, ho⟩, fun c' hI hH hlent => ?_⟩
        cases hx with
        | sl0 hn =>
          simp only [List.take_zero]
          exact .imm0 (by unfold maxLen; omega) (fun _ => rfl)
        | sl hs hn hl hm hb hsz =>
          rename_i cap loc cs0 e0 fr0
          cases hh.ob _ _ ho with
          | nowhere hs' => rw [hs'] at hs; cases hs
          | arr hs' f hc hr =>
            rename_i b base
            rw [hs'] at hs
            cases hs
            have := R.imm (C := C) (c := c') (w := w) (xs := (xs.drop start).take len) (b := b) (off := base + start * sizeT C e') (cap := cap) (fun i => f (start + i)) (hlent id _ (List.mem_singleton.2 rfl) hs') (by omega) hm (fun i j hi hj => by
              rw [hlen] at hi
              have := hc (start + i) j (by omega) hj
              rw [Nat.add_mul, ← Nat.add_assoc] at this
              exact this) (fun i hi j hj => R_free (RowsR_cut hr start len i hi j hj) (all_get (hC.free _ _) j hj) hI hH hC.free)
            rw [hlen] at this
            exact this
      · cases hk
    · cases hk
  · cases hk

/-- A hand goes over into another. -/
structure Ext {E : Nat → Type} (a : Hand E) (los : List (Option Loc)) (b : Hand E) (los' : List (Option Loc)) : Prop where
  obs : ∃ r, b.obs = a.obs ++ r
  los : ∃ r, los' = los ++ r
  lent : ∀ x, x ∈ a.lent → x ∈ b.lent

theorem Ext.refl {E : Nat → Type} (a : Hand E) (los : List (Option Loc)) : Ext a los a los := ⟨⟨[], by simp⟩, ⟨[], by simp⟩, fun _ h => h⟩
theorem Ext.trans {E : Nat → Type} {a b d : Hand E} {l l' l'' : List (Option Loc)} (h1 : Ext a l b l') (h2 : Ext b l' d l'') : Ext a l d l'' := by
  obtain ⟨⟨r, h3⟩, ⟨q, h4⟩, h5⟩ := h1
  obtain ⟨⟨r', h6⟩, ⟨q', h7⟩, h8⟩ := h2
  exact ⟨⟨r ++ r', by rw [h6, h3, List.append_assoc]⟩, ⟨q ++ q', by rw [h7, h4, List.append_assoc]⟩, fun x hx => h8 x (h5 x hx)⟩
theorem Ext.keeps {h : Heap C.E} {a b : Hand C.E} {los los' : List (Option Loc)} (h1 : los.length = a.obs.length) (h2 : Ext a los b los') : Keeps (handC c h a los) w (handC c h b los') w := hand_keeps h1 h2.obs h2.los h2.lent
theorem Ext.push {E : Nat → Type} (a : Hand E) (los : List (Option Loc)) (o : Ob E) (id : Nat) (keep : Bool) (l : Option Loc) : Ext a los (a.push o id keep) (los ++ [l]) := ⟨⟨_, rfl⟩, ⟨_, rfl⟩, fun _ h => h⟩

theorem giveSl_ok {Z : Type} {h : Heap C.E} (hh : HR C c w h) (hC : CfgOK C) {a : Hand C.E} {los : List (Option Loc)} (H : HandOK C c w h a los) {id start len : Nat} {v : Value} (hr : R C c w (.sl id start len) v)
    {K : Hand C.E → AV C.E → Option Z} {z : Z} (hk : giveSl C (lookH h) a id start len K = some z) :
    ∃ b los' y, K b y = some z ∧ HandOK C c w h b los' ∧ Ext a los b los' ∧ R C (handC c h b los') w y v := by
  unfold giveSl at hk
  split at hk
  · rename_i e xs hob
    obtain ⟨hle, hk⟩ := cond_some hk
    have hle : start + len ≤ xs.length := by simpa using hle
    have ho := lookH_some hob
    have hlen : ((xs.drop start).take len).length = len := by rw [List.length_take, List.length_drop]; omega
    have hlast : ∀ l : Option Loc, ((los ++ [l])[a.obs.length]?).getD none = l := fun l => by rw [← H.l1]; simp
    rcases R_sl_inv hr with ⟨a', hx0, rfl, hn⟩ | ⟨ca', loc, cs0, e0, fr0, rfl, hsi, hn, hl, hm, hb, hszb⟩
    · subst hx0
      simp only [List.take_zero] at hk
      have hob' : ObR C (handC c h (a.push (.arr e []) id false) (los ++ [none])) w a.obs.length (.arr e []) := .nowhere (hlast none)
      refine ⟨_, _, _, hk, hand_push (l := none) H ⟨_, ho⟩ (fun loc hl => by cases hl) (fun h => by cases h) (fun loc hl => by cases hl) hob', Ext.push _ _ _ _ _ _, ?_⟩
      exact .sl0 (show a.obs.length < (a.push (.arr e []) id false).obs.length by simp [Hand.push])
    · cases hh.ob _ _ ho with
      | nowhere hs' => rw [hs'] at hsi; cases hsi
      | arr hs' f hc hrr =>
        rename_i b base
        rw [hs'] at hsi
        cases hsi
        have hob' : ObR C (handC c h (a.push (.arr e ((xs.drop start).take len)) id false) (los ++ [some ⟨b, base + start * sizeT C e, sizeT C e⟩])) w a.obs.length (.arr e ((xs.drop start).take len)) :=
          .arr (hlast _) (fun i => f (start + i)) (fun i j hi hj => by
            rw [hlen] at hi
            have := hc (start + i) j (by omega) hj
            rw [Nat.add_mul, ← Nat.add_assoc] at this
            exact this) (fun i hi j hj => R_free (RowsR_cut hrr start len i hi j hj) (all_get (hC.free _ _) j hj) (fun k hk => .inl hk) (fun _ h => h) hC.free)
        refine ⟨_, _, _, hk, hand_push (l := some ⟨b, base + start * sizeT C e, sizeT C e⟩) H ⟨_, ho⟩ (fun loc hl => by cases hl; exact ⟨_, hs', rfl⟩) (fun h => by cases h) (fun loc hl => by cases hl; exact (hh.soft _ _ _ ho hs').1) hob', Ext.push _ _ _ _ _ _, ?_⟩
        have := R.sl (C := C) (c := handC c h (a.push (.arr e ((xs.drop start).take len)) id false) (los ++ [some ⟨b, base + start * sizeT C e, sizeT C e⟩])) (w := w) (start := 0) (len := len) (cap := ca') (hlast _)
          (show a.obs.length < (a.push (.arr e ((xs.drop start).take len)) id false).obs.length by simp [Hand.push]) hl hm hb (by
          simp only [Nat.add_mul, Nat.zero_add] at hszb ⊢; omega)
        simpa using this
  · cases hk

theorem giveCells_ok {Z : Type} {h : Heap C.E} (hh : HR C c w h) (hC : CfgOK C) : ∀ (cs : List (AV C.E)) {a : Hand C.E} {los : List (Option Loc)} (_ : HandOK C c w h a los) (f : Nat → Value) (_ : ∀ j (hj : j < cs.length), R C c w cs[j] (f j))
    {K : Hand C.E → List (AV C.E) → Option Z} {z : Z} (_ : giveCells C (lookH h) a cs K = some z),
    ∃ b los' ys, K b ys = some z ∧ HandOK C c w h b los' ∧ Ext a los b los' ∧ ys.length = cs.length ∧ ∀ j (hj : j < ys.length), R C (handC c h b los') w ys[j] (f j)
  | [], a, los, H, f, hr, K, z, hk => ⟨a, los, [], hk, H, Ext.refl _ _, rfl, fun j hj => absurd hj (Nat.not_lt_zero _)⟩
  | x :: cs, a, los, H, f, hr, K, z, hk => by
    have step : ∀ (b : Hand C.E) (los' : List (Option Loc)) (y : AV C.E), HandOK C c w h b los' → Ext a los b los' → R C (handC c h b los') w y (f 0) → giveCells C (lookH h) b cs (fun a xs => K a (y :: xs)) = some z →
        ∃ b los' ys, K b ys = some z ∧ HandOK C c w h b los' ∧ Ext a los b los' ∧ ys.length = (x :: cs).length ∧ ∀ j (hj : j < ys.length), R C (handC c h b los') w ys[j] (f j) := by
      intro b los' y Hb hE hy hk2
      obtain ⟨d, lo2, ys, h1, h2, h3, h4, h5⟩ := giveCells_ok hh hC cs Hb (fun j => f (j + 1)) (fun j hj => hr (j + 1) (by simpa using hj)) hk2
      refine ⟨d, lo2, y :: ys, h1, h2, hE.trans h3, by simp [h4], fun j hj => ?_⟩
      cases j with
      | zero => exact hy.keep (h3.keeps Hb.l1)
      | succ j => exact h5 j (by simpa using hj)
    have hx := hr 0 (by simp)
    simp only [List.getElem_cons_zero] at hx
    by_cases hs : ∃ id start len, x = .sl id start len
    · obtain ⟨id, start, len, rfl⟩ := hs
      simp only [giveCells] at hk
      obtain ⟨b, los', y, h1, h2, h3, h4⟩ := giveSl_ok hh hC H hx hk
      exact step b los' y h2 h3 h4 h1
    · by_cases hq : ∃ id, x = .mp id
      · obtain ⟨id, rfl⟩ := hq
        simp only [giveCells] at hk
        split at hk
        · rename_i k e xs hob
          have ho := lookH_some hob
          have hlast : ∀ l : Option Loc, ((los ++ [l])[a.obs.length]?).getD none = l := fun l => by rw [← H.l1]; simp
          have hob' : ObR C (handC c h (a.push (.map k e xs) id true) (los ++ [c.σ id])) w a.obs.length (.map k e xs) := ObR_map_to (hh.ob _ _ ho) (hlast _) (fun k hk => .inl hk) (fun _ h => h) hC.free
          obtain ⟨loc, hs1, hv⟩ : ∃ loc, c.σ id = some loc ∧ f 0 = .map (some loc.blk) := by
            generalize f 0 = v at hx
            cases hx with
            | mp h1 h2 => exact ⟨_, h1, rfl⟩
          exact step _ _ (.mp a.obs.length) (hand_push (l := c.σ id) H ⟨_, ho⟩ (fun loc hl => ⟨loc, hl, rfl⟩) (fun _ => rfl) (fun loc hl => (hh.soft _ _ _ ho hl).1) hob') (Ext.push _ _ _ _ _ _) (by rw [hv]; exact .mp (by rw [← hs1]; exact hlast _) (by show a.obs.length < (a.push (.map k e xs) id true).obs.length; simp [Hand.push])) hk
        · cases hk
      have hk2 : (match x.free with
          | true => giveCells C (lookH h) a cs fun a xs => K a (x :: xs)
          | false => none) = some z := by
        cases x <;> first | exact (hs ⟨_, _, _, rfl⟩).elim | exact (hq ⟨_, rfl⟩).elim | exact hk
      split at hk2
      · rename_i hf
        exact step a los x H (Ext.refl _ _) (R_free hx hf (fun k hk => .inl hk) (fun _ h => h) hC.free) hk2
      · cases hk2

theorem hand_lent {h : Heap C.E} {a : Hand C.E} {los : List (Option Loc)} (H : HandOK C c w h a los) (rd : List Nat) : HandOK C c w h { a with lent := rd ++ a.lent } los ∧ Ext a los { a with lent := rd ++ a.lent } los := by
  have hE : Ext a los { a with lent := rd ++ a.lent } los := ⟨⟨[], by simp⟩, ⟨[], by simp⟩, fun _ h => List.mem_append_right _ h⟩
  exact ⟨⟨H.l1, H.l2, H.live, H.blk, H.kept, fun j o hj => ObR_keep (hE.keeps H.l1) (H.ob j o hj) (lt_of_getElem? hj) (fun h => h) (fun _ _ => rfl), H.some_, H.sf⟩, hE⟩

theorem readCells_ok {Z : Type} {h : Heap C.E} (hh : HR C c w h) (hC : CfgOK C) : ∀ (cs : List (AV C.E)) (f : Nat → Value) (_ : ∀ j (hj : j < cs.length), R C c w cs[j] (f j))
    {K : List (AV C.E) → List Nat → Option Z} {z : Z} (_ : readCells C (lookH h) cs K = some z),
    ∃ ys rd, K ys rd = some z ∧ (∀ id ∈ rd, ∃ o, h[id]? = some (some o)) ∧ ys.length = cs.length ∧
      ∀ c' : Ctx, (∀ k, c.I k → c'.I k) → (∀ k, c.H k → c'.H k) → (∀ id loc, id ∈ rd → c.σ id = some loc → c'.I loc.blk) → ∀ j (hj : j < ys.length), R C c' w ys[j] (f j)
  | [], f, hr, K, z, hk => ⟨_, _, hk, fun _ h => (by cases h), rfl, fun _ _ _ _ j hj => absurd hj (Nat.not_lt_zero _)⟩
  | x :: cs, f, hr, K, z, hk => by
    have hx := hr 0 (by simp)
    simp only [List.getElem_cons_zero] at hx
    by_cases hs : ∃ id start len, x = .sl id start len
    · obtain ⟨id, start, len, rfl⟩ := hs
      simp only [readCells] at hk
      split at hk
      · rename_i e xs hob
        obtain ⟨hle, hk⟩ := cond_some hk
        have ho := lookH_some hob
        have hk1 : readSl C (lookH h) e (.sl id start len) (fun l rd => some (l, rd)) = some ((xs.drop start).take len, [id]) := by
          simp only [readSl, hob]
          split
          · rw [hle]; rfl
          · rename_i hne _; exact (hne rfl).elim
        obtain ⟨ys1, rd1, e1, e2, e3⟩ := readSl_imm hC hh hk1 hx
        cases e1
        obtain ⟨ys, rd, h1, h2, h3, h4⟩ := readCells_ok hh hC cs (fun j => f (j + 1)) (fun j hj => hr (j + 1) (by simpa using hj)) hk
        refine ⟨_, _, h1, fun i hi => ?_, by simp [h3], fun c' k1 k1' k2 j hj => ?_⟩
        · rcases List.mem_cons.1 hi with rfl | hi
          · exact ⟨_, ho⟩
          · exact h2 i hi
        · cases j with
          | zero => exact e3 c' k1 k1' (fun i loc hi hs => k2 i loc (List.mem_cons.2 (.inl (List.mem_singleton.1 hi))) hs)
          | succ j => exact h4 c' k1 k1' (fun i loc hi hs => k2 i loc (List.mem_cons_of_mem _ hi) hs) j (by simpa using hj)
      · cases hk
    · have hk2 : (match x.free with
          | true => readCells C (lookH h) cs fun ys rd => K (x :: ys) rd
          | false => none) = some z := by
        cases x <;> first | exact (hs ⟨_, _, _, rfl⟩).elim | exact hk
      split at hk2
      · rename_i hf
        obtain ⟨ys, rd, h1, h2, h3, h4⟩ := readCells_ok hh hC cs (fun j => f (j + 1)) (fun j hj => hr (j + 1) (by simpa using hj)) hk2
        refine ⟨_, _, h1, h2, by simp [h3], fun c' k1 k1' k2 j hj => ?_⟩
        cases j with
        | zero => exact R_free hx hf k1 k1' hC.free
        | succ j => exact h4 c' k1 k1' k2 j (by simpa using hj)
      · cases hk2

theorem handCell1_ok {Z : Type} {h : Heap C.E} (hh : HR C c w h) (hC : CfgOK C) {a : Hand C.E} {los : List (Option Loc)} (H : HandOK C c w h a los) {m : CM} {x : AV C.E} {v : Value} (hr : R C c w x v)
    {K : Hand C.E → AV C.E → Option Z} {z : Z} (hk : handCell1 C (lookH h) a m x K = some z) :
    ∃ b los' y, K b y = some z ∧ HandOK C c w h b los' ∧ Ext a los b los' ∧ R C (handC c h b los') w y v := by
  unfold handCell1 at hk
  split at hk
  · rename_i e x
    obtain ⟨ys, rd, h1, h2, h3⟩ := readSl_imm hC hh hk hr
    obtain ⟨h4, h5⟩ := hand_lent H rd
    exact ⟨_, _, _, h1, h4, h5, h3 _ (fun k hk => .inl hk) (fun _ h => h) (fun id loc hi hs => .inr ⟨id, List.mem_append_left _ hi, by
      obtain ⟨o, ho⟩ := h2 id hi
      exact ⟨o, loc, ho, hs, rfl⟩⟩)⟩
  · exact ⟨_, _, _, hk, H, Ext.refl _ _, R_free hr rfl (fun k hk => .inl hk) (fun _ h => h) hC.free⟩
  · exact giveSl_ok hh hC H hr hk
  · exact ⟨_, _, _, hk, H, Ext.refl _ _, R_free hr rfl (fun k hk => .inl hk) (fun _ h => h) hC.free⟩
  · rename_i id
    split at hk
    · rename_i cs hob
      have ho := lookH_some hob
      cases hr with
      | ptr hs hn =>
        cases hh.ob _ _ ho with
        | box hs' f hc hrr =>
          rename_i b0
          rw [hs'] at hs
          cases hs
          obtain ⟨b, los', ys, h1, h2, h3, h4, h5⟩ := giveCells_ok hh hC cs H f hrr hk
          have hlast : ∀ l : Option Loc, ((los' ++ [l])[b.obs.length]?).getD none = l := fun l => by rw [← h2.l1]; simp
          have hE := Ext.push b los' (.box ys) id true (some ⟨b0, 0, cs.length⟩)
          have hkp := hE.keeps (c := c) (w := w) (h := h) h2.l1
          have hob' : ObR C (handC c h (b.push (.box ys) id true) (los' ++ [some ⟨b0, 0, cs.length⟩])) w b.obs.length (.box ys) :=
            .box (by rw [h4]; exact hlast _) f (fun j hj => hc j (by omega)) (fun j hj => (h5 j hj).keep hkp)
          refine ⟨_, _, _, h1, hand_push (l := some ⟨b0, 0, cs.length⟩) h2 ⟨_, ho⟩ (fun loc hl => by cases hl; exact ⟨_, hs', rfl⟩) (fun _ => hs'.symm) (fun loc hl => by cases hl; exact (hh.soft _ _ _ ho hs').1) hob', h3.trans hE, ?_⟩
          have := R.ptr (C := C) (c := handC c h (b.push (.box ys) id true) (los' ++ [some ⟨b0, 0, cs.length⟩])) (w := w) (row := 0) (fo := 0) (hlast _) (show b.obs.length < (b.push (.box ys) id true).obs.length by simp [Hand.push])
          simpa using this
    · cases hk
  · split at hk
    · rename_i hf
      exact ⟨_, _, _, hk, H, Ext.refl _ _, R_free hr hf (fun k hk => .inl hk) (fun _ h => h) hC.free⟩
    · cases hk
  · exact ⟨_, _, _, hk, H, Ext.refl _ _, R_free hr rfl (fun k hk => .inl hk) (fun _ h => h) hC.free⟩
  · split at hk
    · rename_i hf
      refine ⟨_, _, _, hk, H, Ext.refl _ _, ?_⟩
      cases hr with
      | ro f hI hc hrr => exact .ro f (.inl hI) hc (fun j hj => R_free (hrr j hj) (List.all_eq_true.1 hf _ (List.getElem_mem hj)) (fun k hk => .inl hk) (fun _ h => h) hC.free)
    · cases hk
  · rename_i id
    split at hk
    · rename_i cs hob
      have ho := lookH_some hob
      cases hr with
      | ptr hs hn =>
        cases hh.ob _ _ ho with
        | box hs' f hc hrr =>
          rename_i b0
          rw [hs'] at hs
          cases hs
          obtain ⟨ys, rd, h1, h2, h3, h4⟩ := readCells_ok hh hC cs f hrr hk
          obtain ⟨h5, h6⟩ := hand_lent H (id :: rd)
          have hI : ∀ i loc, i ∈ id :: rd → c.σ i = some loc → (handC c h { a with lent := (id :: rd) ++ a.lent } los).I loc.blk := fun i loc hi hs => .inr ⟨i, List.mem_append_left _ hi, by
            rcases List.mem_cons.1 hi with rfl | hi
            · exact ⟨_, loc, ho, hs, rfl⟩
            · obtain ⟨o, ho2⟩ := h2 i hi
              exact ⟨o, loc, ho2, hs, rfl⟩⟩
          refine ⟨_, _, _, h1, h5, h6, ?_⟩
          have := R.ro (C := C) (c := handC c h { a with lent := (id :: rd) ++ a.lent } los) (w := w) (cells := ys) (b := b0) (off := 0) f (hI id _ (List.mem_cons_self ..) hs') (fun j hj => by
            have := hc j (by omega)
            simpa using this) (h4 _ (fun k hk => .inl hk) (fun _ h => h) (fun i loc hi hs => hI i loc (List.mem_cons_of_mem _ hi) hs))
          simpa using this
    · cases hk
  · exact ⟨_, _, _, hk, H, Ext.refl _ _, R_free hr rfl (fun k hk => .inl hk) (fun _ h => h) hC.free⟩
  · rename_i id start len
    split at hk
    · rename_i e xs hob
      have ho := lookH_some hob
      have hlast : ∀ l : Option Loc, ((los ++ [l])[a.obs.length]?).getD none = l := fun l => by rw [← H.l1]; simp
      have hob' : ObR C (handC c h (a.push (.arr e xs) id true) (los ++ [c.σ id])) w a.obs.length (.arr e xs) := by
        cases hh.ob _ _ ho with
        | nowhere hs' => exact .nowhere (by rw [← hs']; exact hlast _)
        | arr hs' f hc hrr => exact .arr (by rw [← hs']; exact hlast _) f hc (fun i hi j hj => R_free (hrr i hi j hj) (all_get (hC.free _ _) j hj) (fun k hk => .inl hk) (fun _ h => h) hC.free)
      have hlt : a.obs.length < (a.push (.arr e xs) id true).obs.length := by simp [Hand.push]
      refine ⟨_, _, _, hk, hand_push (l := c.σ id) H ⟨_, ho⟩ (fun loc hl => ⟨loc, hl, rfl⟩) (fun _ => rfl) (fun loc hl => (hh.soft _ _ _ ho hl).1) hob', Ext.push _ _ _ _ _ _, ?_⟩
      rcases R_sl_inv hr with ⟨a', hx0, rfl, hn⟩ | ⟨ca', loc, cs0, e0, fr0, rfl, hsi, hn, hl, hm, hb, hszb⟩
      · subst hx0
        exact .sl0 hlt
      · exact .sl (C := C) (c := handC c h (a.push (.arr e xs) id true) (los ++ [c.σ id])) (by rw [← hsi]; exact hlast _) hlt hl hm hb hszb
    · cases hk
  · rename_i id
    split at hk
    · rename_i k e xs hob
      have ho := lookH_some hob
      have hlast : ∀ l : Option Loc, ((los ++ [l])[a.obs.length]?).getD none = l := fun l => by rw [← H.l1]; simp
      have hob' : ObR C (handC c h (a.push (.map k e xs) id true) (los ++ [c.σ id])) w a.obs.length (.map k e xs) := ObR_map_to (hh.ob _ _ ho) (hlast _) (fun k hk => .inl hk) (fun _ h => h) hC.free
      cases hr with
      | mp hs1 hn1 => exact ⟨_, _, _, hk, hand_push (l := c.σ id) H ⟨_, ho⟩ (fun loc hl => ⟨loc, hl, rfl⟩) (fun _ => rfl) (fun loc hl => (hh.soft _ _ _ ho hl).1) hob', Ext.push _ _ _ _ _ _, .mp (by rw [← hs1]; exact hlast _) (by show a.obs.length < (a.push (.map k e xs) id true).obs.length; simp [Hand.push])⟩
    · cases hk
  · cases hk

theorem handCaps_ok {Z : Type} {h : Heap C.E} (hh : HR C c w h) (hC : CfgOK C) : ∀ (cs : List (AV C.E)) {a : Hand C.E} {los : List (Option Loc)} (_ : HandOK C c w h a los) (f : Nat → Value) (_ : ∀ j (hj : j < cs.length), R C c w cs[j] (f j))
    {K : Hand C.E → List (AV C.E) → Option Z} {z : Z} (_ : handCaps C (lookH h) a cs K = some z),
    ∃ b los' ys, K b ys = some z ∧ HandOK C c w h b los' ∧ Ext a los b los' ∧ ys.length = cs.length ∧ ∀ j (hj : j < ys.length), R C (handC c h b los') w ys[j] (f j)
  | [], a, los, H, f, hr, K, z, hk => ⟨a, los, [], hk, H, Ext.refl _ _, rfl, fun j hj => absurd hj (Nat.not_lt_zero _)⟩
  | x :: cs, a, los, H, f, hr, K, z, hk => by
    have hx := hr 0 (by simp)
    simp only [List.getElem_cons_zero] at hx
    simp only [handCaps] at hk
    obtain ⟨b, los', y, h1, h2, h3, h4⟩ := handCell1_ok hh hC H hx hk
    obtain ⟨d, lo2, ys, k1, k2, k3, k4, k5⟩ := handCaps_ok hh hC cs h2 (fun j => f (j + 1)) (fun j hj => hr (j + 1) (by simpa using hj)) h1
    refine ⟨d, lo2, y :: ys, k1, k2, h3.trans k3, by simp [k4], fun j hj => ?_⟩
    cases j with
    | zero => exact h4.keep (k3.keeps h2.l1)
    | succ j => exact k5 j (by simpa using hj)

theorem handCell_ok {Z : Type} {h : Heap C.E} (hh : HR C c w h) (hC : CfgOK C) {a : Hand C.E} {los : List (Option Loc)} (H : HandOK C c w h a los) {m : CM} {x : AV C.E} {v : Value} (hr : R C c w x v)
    {K : Hand C.E → AV C.E → Option Z} {z : Z} (hk : handCell C (lookH h) a m x K = some z) :
    ∃ b los' y, K b y = some z ∧ HandOK C c w h b los' ∧ Ext a los b los' ∧ R C (handC c h b los') w y v := by
  unfold handCell at hk
  split at hk
  · cases hr with
    | fn hl hrr =>
      rename_i vs
      obtain ⟨b, los', ys, h1, h2, h3, h4, h5⟩ := handCaps_ok hh hC _ H (fun j => vs.getD j undef) hrr hk
      exact ⟨b, los', _, h1, h2, h3, .fn (h4.trans hl) h5⟩
  · exact handCell1_ok hh hC H hr hk

theorem handCells_ok {Z : Type} {h : Heap C.E} (hh : HR C c w h) (hC : CfgOK C) : ∀ (ms : List CM) (cs : List (AV C.E)) {a : Hand C.E} {los : List (Option Loc)} (_ : HandOK C c w h a los) (f : Nat → Value) (_ : ∀ j (hj : j < cs.length), R C c w cs[j] (f j))
    {K : Hand C.E → List (AV C.E) → Option Z} {z : Z} (_ : handCells C (lookH h) a ms cs K = some z),
    ∃ b los' ys, K b ys = some z ∧ HandOK C c w h b los' ∧ Ext a los b los' ∧ ys.length = cs.length ∧ ∀ j (hj : j < ys.length), R C (handC c h b los') w ys[j] (f j)
  | [], [], a, los, H, f, hr, K, z, hk => ⟨a, los, [], hk, H, Ext.refl _ _, rfl, fun j hj => absurd hj (Nat.not_lt_zero _)⟩
  | [], _ :: _, a, los, H, f, hr, K, z, hk => by cases hk
  | _ :: _, [], a, los, H, f, hr, K, z, hk => by cases hk
  | m :: ms, x :: cs, a, los, H, f, hr, K, z, hk => by
    have hx := hr 0 (by simp)
    simp only [List.getElem_cons_zero] at hx
    simp only [handCells] at hk
    obtain ⟨b, los', y, h1, h2, h3, h4⟩ := handCell_ok hh hC H hx hk
    obtain ⟨d, lo2, ys, k1, k2, k3, k4, k5⟩ := handCells_ok hh hC ms cs h2 (fun j => f (j + 1)) (fun j hj => hr (j + 1) (by simpa using hj)) h1
    refine ⟨d, lo2, y :: ys, k1, k2, h3.trans k3, by simp [k4], fun j hj => ?_⟩
    cases j with
    | zero => exact h4.keep (k3.keeps h2.l1)
    | succ j => exact k5 j (by simpa using hj)

theorem handArgs_ok {Z : Type} {h : Heap C.E} (hh : HR C c w h) (hC : CfgOK C) : ∀ (mss : List (List CM)) (xs : List (AV C.E)) {a : Hand C.E} {los : List (Option Loc)} (_ : HandOK C c w h a los) (f : Nat → Value) (_ : ∀ j (hj : j < xs.length), R C c w xs[j] (f j))
    {K : Hand C.E → List (AV C.E) → Option Z} {z : Z} (_ : handArgs C (lookH h) a mss xs K = some z),
    ∃ b los' ys, K b ys = some z ∧ HandOK C c w h b los' ∧ Ext a los b los' ∧ ys.length = xs.length ∧ ∀ j (hj : j < ys.length), R C (handC c h b los') w ys[j] (f j)
  | [], [], a, los, H, f, hr, K, z, hk => ⟨a, los, [], hk, H, Ext.refl _ _, rfl, fun j hj => absurd hj (Nat.not_lt_zero _)⟩
  | [], _ :: _, a, los, H, f, hr, K, z, hk => by cases hk
  | _ :: _, [], a, los, H, f, hr, K, z, hk => by cases hk
  | ms :: mss, x :: xs, a, los, H, f, hr, K, z, hk => by
    have hx := hr 0 (by simp)
    simp only [List.getElem_cons_zero] at hx
    simp only [handArgs] at hk
    have one : ∃ b los' ys, handArgs C (lookH h) b mss xs (fun a zs => K a (likeV x ys :: zs)) = some z ∧ HandOK C c w h b los' ∧ Ext a los b los' ∧ R C (handC c h b los') w (likeV x ys) (f 0) := by
      by_cases hag : ∃ cs, x = .agg cs
      · obtain ⟨cs, rfl⟩ := hag
        generalize hv : f 0 = v at hx
        cases hx with
        | agg hl hrr =>
          rename_i vs
          obtain ⟨b, los', ys, h1, h2, h3, h4, h5⟩ := handCells_ok hh hC ms cs H (fun j => vs.getD j undef) hrr hk
          exact ⟨b, los', ys, h1, h2, h3, .agg (h4.trans hl) h5⟩
      · have hc : x.cells = [x] := by cases x <;> first | rfl | exact (hag ⟨_, rfl⟩).elim
        rw [hc] at hk
        obtain ⟨b, los', ys, h1, h2, h3, h4, h5⟩ := handCells_ok hh hC ms [x] H f (fun j hj => by
          have : j = 0 := by simpa using hj
          subst this; exact hx) hk
        match ys, h4 with
        | [y], _ =>
          have hl : likeV x [y] = y := by cases x <;> first | rfl | exact (hag ⟨_, rfl⟩).elim
          exact ⟨b, los', [y], h1, h2, h3, by rw [hl]; exact h5 0 (by simp)⟩
    obtain ⟨b, los', ys, h1, h2, h3, h4⟩ := one
    obtain ⟨d, lo2, zs, k1, k2, k3, k4, k5⟩ := handArgs_ok hh hC mss xs h2 (fun j => f (j + 1)) (fun j hj => hr (j + 1) (by simpa using hj)) h1
    refine ⟨d, lo2, _, k1, k2, h3.trans k3, by simp [k4], fun j hj => ?_⟩
    cases j with
    | zero => exact h4.keep (k3.keeps h2.l1)
    | succ j => exact k5 j (by simpa using hj)

end
end Go.AE
