/-
  AE, part 13: whole functions.
-/
import Derived.Test.YtadnppefidjhfaaGreatAeE
namespace Go.AE
open Go.RowKit

section
variable {C : Cfg} {c : Ctx} {w : World}

/-! ### Nil slices told as empty ones -/

theorem move_ob {c : Ctx} {w : World} {h : Heap C.E} (hh : HR C c w h) {id : Nat} {o : Ob C.E} (ho : h[id]? = some (some o)) :
    HR C { c with n := c.n + 1, σ := fun j => if j = c.n then c.σ id else c.σ j } w (h.set id none ++ [some o]) ∧ Le c h w { c with n := c.n + 1, σ := fun j => if j = c.n then c.σ id else c.σ j } (h.set id none ++ [some o]) w ∧
      Keeps c w { c with n := c.n + 1, σ := fun j => if j = c.n then c.σ id else c.σ j } w := by
  have hlen := hh.len
  have hid := lt_of_getElem? ho
  have hσ : ∀ j loc, j < c.n → c.σ j = some loc → (if j = c.n then c.σ id else c.σ j) = some loc := fun j loc hj hs => by rw [if_neg (by omega)]; exact hs
  have hk : Keeps c w { c with n := c.n + 1, σ := fun j => if j = c.n then c.σ id else c.σ j } w := ⟨Nat.le_succ _, hσ, fun _ h => h, fun _ h => h, fun _ _ => rfl, fun _ cs _ fr h => ⟨cs, fr, h, rfl⟩⟩
  have hget : ∀ (j : Nat) (q : Ob C.E), (h.set id none ++ [some o])[j]? = some (some q) → (h[j]? = some (some q) ∧ j ≠ id ∧ j < c.n) ∨ (j = c.n ∧ q = o) := by
    intro j q hq
    rcases Nat.lt_or_ge j h.length with h1 | h1
    · rw [List.getElem?_append_left (by simpa using h1)] at hq
      by_cases he : j = id
      · subst he; rw [List.getElem?_set_self h1] at hq; cases hq
      · rw [List.getElem?_set_ne (fun e => he e.symm)] at hq
        exact .inl ⟨hq, he, by omega⟩
    · rw [List.getElem?_append_right (by simpa using h1)] at hq
      have h2 := lt_of_getElem? hq
      simp only [List.length_singleton, List.length_set] at h2
      have h3 : j = h.length := by omega
      subst h3
      simp only [List.length_set, Nat.sub_self, List.getElem?_cons_zero, Option.some.injEq] at hq
      exact .inr ⟨hlen, hq.symm⟩
  refine ⟨⟨hh.gl.keep hk, by simp [hlen], ?_, hh.bnd, hh.hI, ?_, ?_, ?_⟩, ⟨Nat.le_succ _, hσ, fun _ h => h, fun _ h => h, fun _ _ h => .inl h, fun _ _ h => .inl h, ?_, Nat.le_refl _, rfl, rfl, rfl, fun _ _ _ => rfl, fun _ cs _ fr h => ⟨cs, fr, h, rfl⟩⟩, hk⟩
  · intro j hj
    have hj : c.n + 1 ≤ j := hj
    show (if j = c.n then c.σ id else c.σ j) = none
    rw [if_neg (by omega)]; exact hh.sn j (by omega)
  · intro j q hq
    rcases hget j q hq with ⟨h1, _, h3⟩ | ⟨rfl, rfl⟩
    · exact ObR_keep hk (hh.ob j q h1) h3 (fun hs => by show (if j = c.n then c.σ id else c.σ j) = none; rw [if_neg (by omega)]; exact hs) (fun _ _ => rfl)
    · have hob := hh.ob id q ho
      have hself : (if c.n = c.n then c.σ id else c.σ c.n) = c.σ id := if_pos rfl
      cases hob with
      | box hs f hc hr => exact .box (hself.trans hs) f hc (fun j hj => (hr j hj).keep hk)
      | nowhere hs => exact .nowhere (hself.trans hs)
      | arr hs f hc hr => exact .arr (hself.trans hs) f hc (fun i hi j hj => (hr i hi j hj).keep hk)
      | map hs h1 he es hb hl hborn hkey hval hkd => exact .map (hself.trans hs) h1 he es hb hl hborn (fun i hi m hm => (hkey i hi m hm).keep hk) (fun i hi m hm => (hval i hi m hm).keep hk) hkd
      | mapv hs h1 es hb hl hborn hkey hval hkd => exact .mapv (hself.trans hs) h1 es hb hl hborn (fun i hi m hm => (hkey i hi m hm).keep hk) (fun i hi m hm => (hval i hi m hm).keep hk) hkd
  · intro j q loc hq hs
    have hs : (if j = c.n then c.σ id else c.σ j) = some loc := hs
    rcases hget j q hq with ⟨h1, _, h3⟩ | ⟨rfl, rfl⟩
    · rw [if_neg (by omega)] at hs; exact hh.soft j q loc h1 hs
    · rw [if_pos rfl] at hs; exact hh.soft id q loc ho hs
  · intro p q op oq lp lq h1 h2 h3 h4 h5
    have h3 : (if p = c.n then c.σ id else c.σ p) = some lp := h3
    have h4 : (if q = c.n then c.σ id else c.σ q) = some lq := h4
    rcases hget p op h1 with ⟨a1, a2, a3⟩ | ⟨rfl, rfl⟩
    · rw [if_neg (by omega)] at h3
      rcases hget q oq h2 with ⟨b1, b2, b3⟩ | ⟨rfl, rfl⟩
      · rw [if_neg (by omega)] at h4
        exact hh.inj _ _ _ _ _ _ a1 b1 h3 h4 h5
      · rw [if_pos rfl] at h4
        exact (a2 (hh.inj _ _ _ _ _ _ a1 ho h3 h4 h5)).elim
    · rw [if_pos rfl] at h3
      rcases hget q oq h2 with ⟨b1, b2, b3⟩ | ⟨rfl, rfl⟩
      · rw [if_neg (by omega)] at h4
        exact (b2 (hh.inj _ _ _ _ _ _ b1 ho h4 h3 h5.symm)).elim
      · rfl
  · rintro k _ ⟨j, q, loc, h1, h2, h3⟩
    have h2 : (if j = c.n then c.σ id else c.σ j) = some loc := h2
    rcases hget j q h1 with ⟨a1, _, a3⟩ | ⟨rfl, rfl⟩
    · rw [if_neg (by omega)] at h2; exact ⟨j, q, loc, a1, h2, h3⟩
    · rw [if_pos rfl] at h2; exact ⟨id, q, loc, ho, h2, h3⟩

theorem coBox_ok {w : World} {a : Act} (i e : Nat) {c : Ctx} {st : St C.E} (hr : Rep C c w st a) : ∃ c', Rep C c' w (coBox i e st) a ∧ Le c st.h w c' (coBox i e st).h w := by
  unfold coBox
  generalize (i - 2000000) % 1000 = j0
  split
  rotate_left
  · exact ⟨c, hr, Le.refl _ _ _⟩
  rename_i id _ _ _
  split
  · rename_i cs hob
    split
    · rename_i hj0
      have hj0l := lt_of_getElem? hj0
      have hlen := hr.heap.len
      have hid := lt_of_getElem? hob
      obtain ⟨x1, x2, x3⟩ := HR_more hr.heap 1
      have hσ : c.σ c.n = none := hr.heap.sn c.n (Nat.le_refl _)
      have hget : ∀ (j : Nat) (o : Ob C.E), (st.h.set id (some (.box (cs.set j0 (.sl st.h.length 0 0)))) ++ [some (.arr e [])])[j]? = some (some o) →
          (j ≠ id ∧ st.h[j]? = some (some o)) ∨ (j = id ∧ o = .box (cs.set j0 (.sl st.h.length 0 0))) ∨ (j = c.n ∧ o = .arr e []) := by
        intro j o ho
        rcases Nat.lt_or_ge j st.h.length with h1 | h1
        · rw [List.getElem?_append_left (by simpa using h1)] at ho
          by_cases he : j = id
          · subst he
            rw [List.getElem?_set_self hid] at ho
            cases ho; exact .inr (.inl ⟨rfl, rfl⟩)
          · rw [List.getElem?_set_ne (fun h => he h.symm)] at ho
            exact .inl ⟨he, ho⟩
        · rw [List.getElem?_append_right (by simpa using h1)] at ho
          have h2 := lt_of_getElem? ho
          simp only [List.length_singleton, List.length_set] at h2
          have h3 : j = st.h.length := by omega
          subst h3
          simp only [List.length_set, Nat.sub_self, List.getElem?_cons_zero, Option.some.injEq] at ho
          exact .inr (.inr ⟨hlen, ho.symm⟩)
      have hbox := hr.heap.ob id _ hob
      have hle : Le c st.h w { c with n := c.n + 1 } (st.h.set id (some (.box (cs.set j0 (.sl st.h.length 0 0)))) ++ [some (.arr e [])]) w := by
        refine ⟨Nat.le_succ _, fun _ _ _ h => h, fun _ h => h, fun _ h => h, fun _ _ h => .inl h, fun _ _ h => .inl h, ?_, Nat.le_refl _, rfl, rfl, rfl, fun _ _ _ => rfl, fun _ cs _ fr h => ⟨cs, fr, h, rfl⟩⟩
        rintro k _ ⟨j, o, loc, h1, h2, h3⟩
        rcases hget j o h1 with ⟨_, h⟩ | ⟨rfl, rfl⟩ | ⟨rfl, rfl⟩
        · exact ⟨j, o, loc, h, h2, h3⟩
        · exact ⟨j, _, loc, hob, h2, h3⟩
        · rw [hσ] at h2; cases h2
      refine ⟨{ c with n := c.n + 1 }, ⟨hr.defers, hr.size, fun k => (hr.slot k).keep x3, ⟨hr.heap.gl.keep x3, by simp [hlen], x1.sn, hr.heap.bnd, hr.heap.hI, ?_, ?_, ?_⟩⟩, hle⟩
      · intro j o ho
        rcases hget j o ho with ⟨_, h⟩ | ⟨rfl, rfl⟩ | ⟨rfl, rfl⟩
        · exact ObR_keep x3 (hr.heap.ob j o h) (by have := lt_of_getElem? h; omega) (fun h => h) (fun _ _ => rfl)
        · cases hbox with
          | box hs f hc hrr =>
            refine .box (by simpa using hs) f (fun q hq => hc q (by simpa using hq)) (fun q hq => ?_)
            have hq' : q < cs.length := by simpa using hq
            by_cases hqj : q = j0
            · subst hqj
              have hv := hrr q hq'
              have hcq : cs[q] = .nils := by
                have := List.getElem?_eq_getElem hq'
                rw [hj0] at this
                exact (Option.some.inj this).symm
              rw [hcq] at hv
              generalize f q = v at hv
              cases hv
              simp only [List.getElem_set_self]
              exact .sl0 (by show st.h.length < c.n + 1; omega)
            · rw [List.getElem_set_ne (fun h => hqj h.symm)]
              exact (hrr q hq').keep x3
        · exact .nowhere hσ
      · intro j o loc ho hs
        rcases hget j o ho with ⟨_, h⟩ | ⟨rfl, rfl⟩ | ⟨rfl, rfl⟩
        · exact hr.heap.soft j o loc h hs
        · exact hr.heap.soft j (.box cs) loc hob hs
        · rw [hσ] at hs; cases hs
      · intro p q op oq lp lq h1 h2 h3 h4 h5
        have key : ∀ (j : Nat) (o : Ob C.E) (loc : Loc), (st.h.set id (some (.box (cs.set j0 (.sl st.h.length 0 0)))) ++ [some (.arr e [])])[j]? = some (some o) → c.σ j = some loc → ∃ o', st.h[j]? = some (some o') := by
          intro j o loc ho hs
          rcases hget j o ho with ⟨_, h⟩ | ⟨rfl, rfl⟩ | ⟨rfl, rfl⟩
          · exact ⟨_, h⟩
          · exact ⟨_, hob⟩
          · rw [hσ] at hs; cases hs
        obtain ⟨o1, k1⟩ := key p op lp h1 h3
        obtain ⟨o2, k2⟩ := key q oq lq h2 h4
        exact hr.heap.inj _ _ _ _ _ _ k1 k2 h3 h4 h5
    · exact ⟨c, hr, Le.refl _ _ _⟩
  · exact ⟨c, hr, Le.refl _ _ _⟩

theorem coSt_ok {k : Nat} {w : World} {a : Act} : ∀ (co : List (Nat × Nat)) {c : Ctx} {st : St C.E}, Rep C c w st a → ∃ c', Rep C c' w (coSt k co st) a ∧ Le c st.h w c' (coSt k co st).h w
  | [], c, st, hr => ⟨c, hr, Le.refl _ _ _⟩
  | (i, e) :: r, c, st, hr => by
    simp only [coSt]
    split
    · obtain ⟨c1, q1, q2⟩ := coBox_ok i e hr
      obtain ⟨c2, q3, q4⟩ := coSt_ok r q1
      exact ⟨c2, q3, q2.trans q4⟩
    split
    · rename_i hi
      have hs := hr.slot i
      rw [hi] at hs
      have hv : a.tmps.getD i undef = .slice none 0 0 := by
        generalize a.tmps.getD i undef = v at hs
        cases hs; rfl
      have hlt : i < st.t.length := by
        rcases Nat.lt_or_ge i st.t.length with h | h
        · exact h
        · rw [List.getD_eq_getElem?_getD, List.getElem?_eq_none h] at hi; cases hi
      split
      · split
        · rename_i id s0 n0 hj
          have hs2 := hr.slot (e - 1000000)
          rw [hj] at hs2
          have hid : id < c.n := by
            generalize a.tmps.getD (e - 1000000) undef = v at hs2
            cases hs2 with
            | sl0 hn => exact hn
            | sl _ hn => exact hn
          have hrep : Rep C c w ⟨st.t.set i (.sl id 0 0), st.h⟩ a := by
            refine ⟨hr.defers, by simp only [List.length_set]; exact hr.size, fun k => ?_, hr.heap⟩
            by_cases hk : k = i
            · subst hk
              rw [hv]
              have : (st.t.set k (.sl id 0 0)).getD k .undef = .sl id 0 0 := by simp [List.getD_eq_getElem?_getD, hlt]
              rw [this]
              exact .sl0 hid
            · have : (st.t.set i (.sl id 0 0)).getD k .undef = st.t.getD k .undef := by simp [List.getD_eq_getElem?_getD, Ne.symm hk]
              rw [this]
              exact hr.slot k
          exact coSt_ok r hrep
        · exact coSt_ok r hr
      · skip
        have hlen := hr.heap.len
        obtain ⟨x1, x2, x3⟩ := HR_more hr.heap 1
        have hget : ∀ (id : Nat) (o : Ob C.E), (st.h ++ [some (.arr e [])])[id]? = some (some o) → (st.h[id]? = some (some o)) ∨ (id = c.n ∧ o = .arr e []) := by
          intro id o ho
          rcases Nat.lt_or_ge id st.h.length with h1 | h1
          · rw [List.getElem?_append_left h1] at ho; exact .inl ho
          · rw [List.getElem?_append_right h1] at ho
            have h2 := lt_of_getElem? ho
            simp only [List.length_singleton] at h2
            have h3 : id = st.h.length := by omega
            subst h3
            simp only [Nat.sub_self, List.getElem?_cons_zero, Option.some.injEq] at ho
            exact .inr ⟨hlen, ho.symm⟩
        have hσ : c.σ c.n = none := hr.heap.sn c.n (Nat.le_refl _)
        have hold : ∀ id, id ≠ c.n → st.h[id]? ≠ none → id < c.n := by
          intro id _ h
          rcases Nat.lt_or_ge id st.h.length with h1 | h1
          · omega
          · exact (h (List.getElem?_eq_none h1)).elim
        have hh' : HR C { c with n := c.n + 1 } w (st.h ++ [some (.arr e [])]) := by
          refine ⟨hr.heap.gl.keep x3, by simp [hlen], x1.sn, hr.heap.bnd, hr.heap.hI, ?_, ?_, ?_⟩
          · intro id o ho
            rcases hget id o ho with h | ⟨rfl, rfl⟩
            · exact ObR_keep x3 (hr.heap.ob id o h) (by have := lt_of_getElem? h; omega) (fun h => h) (fun _ _ => rfl)
            · exact .nowhere hσ
          · intro id o loc ho hs
            rcases hget id o ho with h | ⟨rfl, rfl⟩
            · exact hr.heap.soft id o loc h hs
            · rw [hσ] at hs; cases hs
          · intro p q op oq lp lq h1 h2 h3 h4 h5
            rcases hget p op h1 with h | ⟨rfl, rfl⟩
            · rcases hget q oq h2 with h' | ⟨rfl, rfl⟩
              · exact hr.heap.inj _ _ _ _ _ _ h h' h3 h4 h5
              · rw [hσ] at h4; cases h4
            · rw [hσ] at h3; cases h3
        have hrep : Rep C { c with n := c.n + 1 } w ⟨st.t.set i (.sl st.h.length 0 0), st.h ++ [some (.arr e [])]⟩ a := by
          refine ⟨hr.defers, by simp only [List.length_set]; exact hr.size, fun k => ?_, hh'⟩
          by_cases hk : k = i
          · subst hk
            rw [hv]
            have : (st.t.set k (.sl st.h.length 0 0)).getD k .undef = .sl st.h.length 0 0 := by simp [List.getD_eq_getElem?_getD, hlt]
            rw [this]
            exact .sl0 (by show st.h.length < c.n + 1; omega)
          · have : (st.t.set i (.sl st.h.length 0 0)).getD k .undef = st.t.getD k .undef := by simp [List.getD_eq_getElem?_getD, Ne.symm hk]
            rw [this]
            exact (hr.slot k).keep x3
        have hle : Le c st.h w { c with n := c.n + 1 } (st.h ++ [some (.arr e [])]) w := by
          refine ⟨Nat.le_succ _, fun _ _ _ h => h, fun _ h => h, fun _ h => h, fun _ _ h => .inl h, fun _ _ h => .inl h, ?_, Nat.le_refl _, rfl, rfl, rfl, fun _ _ _ => rfl, fun _ cs _ fr h => ⟨cs, fr, h, rfl⟩⟩
          rintro k _ ⟨id, o, loc, h1, h2, h3⟩
          rcases hget id o h1 with h | ⟨rfl, rfl⟩
          · exact ⟨id, o, loc, h, h2, h3⟩
          · rw [hσ] at h2; cases h2
        obtain ⟨c', q1, q2⟩ := coSt_ok r hrep
        exact ⟨c', q1, hle.trans q2⟩
    · rename_i id s n hi
      split
      · split
        · rename_i o ho
          have hs := hr.slot i
          rw [hi] at hs
          have hlt : i < st.t.length := by
            rcases Nat.lt_or_ge i st.t.length with h | h
            · exact h
            · rw [List.getD_eq_getElem?_getD, List.getElem?_eq_none h] at hi; cases hi
          have hlen := hr.heap.len
          obtain ⟨x1, x2, x3⟩ := move_ob hr.heap ho
          have hrep : Rep C { c with n := c.n + 1, σ := fun j => if j = c.n then c.σ id else c.σ j } w ⟨st.t.set i (.sl st.h.length s n), st.h.set id none ++ [some o]⟩ a := by
            refine ⟨hr.defers, by simp only [List.length_set]; exact hr.size, fun k => ?_, x1⟩
            by_cases hk : k = i
            · subst hk
              have : (st.t.set k (.sl st.h.length s n)).getD k .undef = .sl st.h.length s n := by simp [List.getD_eq_getElem?_getD, hlt]
              rw [this]
              generalize a.tmps.getD k undef = v at hs
              cases hs with
              | sl0 hn => exact .sl0 (by show st.h.length < c.n + 1; omega)
              | sl hs hn hl hm hb hsz => exact .sl (by show (if st.h.length = c.n then c.σ id else _) = _; rw [if_pos hlen]; exact hs) (by show st.h.length < c.n + 1; omega) hl hm hb hsz
            · have : (st.t.set i (.sl st.h.length s n)).getD k .undef = st.t.getD k .undef := by simp [List.getD_eq_getElem?_getD, Ne.symm hk]
              rw [this]
              exact (hr.slot k).keep x3
          obtain ⟨c', q1, q2⟩ := coSt_ok r hrep
          exact ⟨c', q1, x2.trans q2⟩
        · exact coSt_ok r hr
      · exact coSt_ok r hr
    · exact coSt_ok r hr

/-! ### The results -/

theorem loadVar_of {P : Program} {t : TypeId} {v x : Value} {w : World} (h : (Instr.loadAt t v).run P w = .ok x w) (hp : ∃ a, v = .pointer (some a)) : (do loadVar t (← asAddr v) : Sem Value).run P w = .ok x w := by
  obtain ⟨a, rfl⟩ := hp
  simpa [Instr.loadAt, Instr.sureAddr, asAddr] using h

def resOne (tmps : Array Value) : ResultVar → Sem Value
  | .tmp t => pure (tmps.getD t undef)
  | .cell a t => do loadVar t (← asAddr (tmps.getD a undef))

theorem results_eq (fn : Func) (tmps : Array Value) : results fn tmps = (do
    let vs ← fn.results.mapM (resOne tmps)
    pure (if h : vs.size = 1 then vs[0] else .tuple vs)) := by
  unfold results
  congr 1

theorem resK_ok (hC : CfgOK C) {st : St C.E} {a : Act} (hr : Rep C c w st a) : ∀ (rs : List ResultVar) {Z : Type} {K : List (AV C.E) → Option Z} {z : Z}, resK C st rs K = some z →
    ∃ (xs : List (AV C.E)) (vs : List Value), K xs = some z ∧ (rs.mapM (resOne a.tmps)).run C.P w = .ok vs w ∧ xs.length = vs.length ∧ ∀ (j : Nat) (h : j < xs.length) (h' : j < vs.length), R C c w xs[j] vs[j]
  | [], Z, K, z, h => ⟨[], [], h, by simp, rfl, fun j hj => absurd hj (Nat.not_lt_zero _)⟩
  | .tmp t :: rs, Z, K, z, h => by
    simp only [resK] at h
    obtain ⟨xs, vs, h1, h2, h3, h4⟩ := resK_ok hC hr rs h
    refine ⟨_, a.tmps.getD t undef :: vs, h1, ?_, by simp [h3], fun j hj hj' => ?_⟩
    · simp [List.mapM_cons, resOne, h2]
    · cases j with
      | zero => exact hr.slot t
      | succ j => exact h4 j (by simpa using hj) (by simpa using hj')
  | .cell ad t :: rs, Z, K, z, h => by
    simp only [resK] at h
    obtain ⟨v, e, h5, h6, h7, h8⟩ := loadK_ok hC h hr.heap (hr.slot ad)
    have hp : ∃ a', a.tmps.getD ad undef = .pointer (some a') := by
      have hs := hr.slot ad
      unfold loadK at h
      split at h
      · rename_i hx
        rw [hx] at hs
        generalize a.tmps.getD ad undef = u at hs
        cases hs; exact ⟨_, rfl⟩
      · rename_i hx
        rw [hx] at hs
        generalize a.tmps.getD ad undef = u at hs
        cases hs; exact ⟨_, rfl⟩
      · cases h
    have h9 := loadVar_of h5 hp
    obtain ⟨xs, vs, h1, h2, h3, h4⟩ := resK_ok hC hr rs h6
    refine ⟨_, v :: vs, h1, ?_, by simp [h3], fun j hj hj' => ?_⟩
    · have h10 : (resOne a.tmps (.cell ad t)).run C.P w = .ok v w := h9
      simp [List.mapM_cons, h10, h2]
    · cases j with
      | zero => exact h7
      | succ j => exact h4 j (by simpa using hj) (by simpa using hj')

/-! ### Slices handed back to be read -/

theorem drop_all : ∀ (g : List Nat) {c : Ctx} {h : Heap C.E}, HR C c w h → (∀ i ∈ g, (∃ o, h[i]? = some (some o)) ∨ (h[i]? = some none ∧ ∀ loc, c.σ i = some loc → c.I loc.blk ∧ c.H loc.blk)) →
    ∃ c', c'.n = c.n ∧ c'.σ = c.σ ∧ ((∀ k, c.I k → c'.I k) ∧ ∀ k, c.H k → c'.H k) ∧ (∀ i loc, i ∈ g → c.σ i = some loc → c'.I loc.blk ∧ c'.H loc.blk) ∧ HR C c' w (wrH h (g.map fun i => (i, none))) ∧ Le c h w c' (wrH h (g.map fun i => (i, none))) w
  | [], c, h, hh, _ => ⟨c, rfl, rfl, ⟨fun _ h => h, fun _ h => h⟩, fun _ _ hi => (by cases hi), hh, Le.refl _ _ _⟩
  | i :: g, c, h, hh, hg => by
    have hlt : i < h.length := by
      rcases hg i (List.mem_cons_self ..) with ⟨o, ho⟩ | ⟨ho, _⟩ <;> exact lt_of_getElem? ho
    simp only [List.map_cons, wrH]
    rw [show Nat.blt i h.length = true by simpa [Nat.blt_eq] using hlt]
    simp only []
    have one : ∃ c1, c1.n = c.n ∧ c1.σ = c.σ ∧ ((∀ k, c.I k → c1.I k) ∧ ∀ k, c.H k → c1.H k) ∧ (∀ loc, c.σ i = some loc → c1.I loc.blk ∧ c1.H loc.blk) ∧ HR C c1 w (h.set i none) ∧ Le c h w c1 (h.set i none) w := by
      rcases hg i (List.mem_cons_self ..) with ⟨o, ho⟩ | ⟨ho, hI⟩
      · cases hs : c.σ i with
        | none => exact ⟨c, rfl, rfl, ⟨fun _ h => h, fun _ h => h⟩, fun loc hl => (by cases hl), (drop_none hh hs).1, (drop_none hh hs).2⟩
        | some loc => exact ⟨dropC c loc.blk, rfl, rfl, ⟨fun _ h => .inl h, fun _ h => .inl h⟩, fun l hl => (by cases hl; exact ⟨.inr rfl, .inr rfl⟩), (drop_obj hh ho hs).1, (drop_obj hh ho hs).2⟩
      · have : h.set i none = h := by
          apply List.ext_getElem?
          intro k
          rw [List.getElem?_set]
          by_cases hk : i = k
          · subst hk; rw [if_pos rfl, if_pos hlt, ho]
          · simp [hk]
        rw [this]
        exact ⟨c, rfl, rfl, ⟨fun _ h => h, fun _ h => h⟩, hI, hh, Le.refl _ _ _⟩
    obtain ⟨c1, n1, s1, i1, b1, hh1, le1⟩ := one
    obtain ⟨c2, n2, s2, i2, b2, hh2, le2⟩ := drop_all g hh1 (fun k hk => by
      by_cases hki : k = i
      · subst hki
        exact .inr ⟨List.getElem?_set_self hlt, fun loc hl => b1 loc (by rw [s1] at hl; exact hl)⟩
      · rw [List.getElem?_set_ne (fun e => hki e.symm)]
        rcases hg k (List.mem_cons_of_mem _ hk) with h5 | ⟨h5, h6⟩
        · exact .inl h5
        · exact .inr ⟨h5, fun loc hl => have h7 := h6 loc (by rw [s1] at hl; exact hl); ⟨i1.1 _ h7.1, i1.2 _ h7.2⟩⟩)
    refine ⟨c2, n2.trans n1, s2.trans s1, ⟨fun k hk => i2.1 k (i1.1 k hk), fun k hk => i2.2 k (i1.2 k hk)⟩, fun k loc hk hs => ?_, hh2, le1.trans le2⟩
    rcases List.mem_cons.1 hk with rfl | hk
    · exact ⟨i2.1 _ (b1 loc hs).1, i2.2 _ (b1 loc hs).2⟩
    · exact b2 k loc hk (by rw [s1]; exact hs)

/-- In a context where some more is read alone. -/
def AtI (C : Cfg) (c : Ctx) (w : World) (g : List Nat) (x : AV C.E) (v : Value) : Prop :=
  ∀ c' : Ctx, Keeps c w c' w → (∀ k, c.I k → c'.I k) ∧ (∀ k, c.H k → c'.H k) → (∀ i loc, i ∈ g → c.σ i = some loc → c'.I loc.blk ∧ c'.H loc.blk) → R C c' w x v

/-- A slice that is given up for good, as a list of its elements. -/
theorem readSl_him (hC : CfgOK C) {h : Heap C.E} (hh : HR C c w h) {e : TypeId} {x : AV C.E} {vx : Value} {Z : Type} {K : List (C.E e) → List Nat → Option Z} {z : Z} (hk : readSl C (lookH h) e x K = some z) (hx : R C c w x vx) (hn : ∀ e' xs, x ≠ .imm e' xs) :
    ∃ ys rd, K ys rd = some z ∧ (∀ id ∈ rd, ∃ o, h[id]? = some (some o)) ∧
      ∀ c' : Ctx, (∀ k, c.I k → c'.I k) → (∀ k, c.H k → c'.H k) → (∀ id loc, id ∈ rd → c.σ id = some loc → c'.I loc.blk ∧ c'.H loc.blk) → R C c' w (.him e ys) vx := by
  unfold readSl at hk
  split at hk
  · cases hx
    exact ⟨_, _, hk, fun _ h => (by cases h), fun c' _ _ _ => .him0 (by unfold maxLen; omega) (fun _ => rfl)⟩
  · exact (hn _ _ rfl).elim
  · rename_i e' xs
    split at hk
    · rename_i heq _
      subst heq
      exact ⟨_, _, hk, fun _ h => (by cases h), fun c' hI hH _ => R_free hx rfl hI hH hC.free⟩
    · cases hk
  · rename_i id start len
    split at hk
    · rename_i e' xs hob
      split at hk
      · rename_i heq _
        subst heq
        obtain ⟨hle, hk⟩ := cond_some hk
        have hle : start + len ≤ xs.length := by simpa using hle
        have ho := lookH_some hob
        have hlen : ((xs.drop start).take len).length = len := by rw [List.length_take, List.length_drop]; omega
        refine ⟨_, _, hk, fun i hi => by rw [List.mem_singleton.1 hi]; exact ⟨_, ho⟩, fun c' hI hH hlent => ?_⟩
        cases hx with
        | sl0 hn =>
          simp only [List.take_zero]
          exact .him0 (by unfold maxLen; omega) (fun _ => rfl)
        | sl hs hn hl hm hb hsz =>
          rename_i cap loc cs0 e0 fr0
          cases hh.ob _ _ ho with
          | nowhere hs' => rw [hs'] at hs; cases hs
          | arr hs' f hc hr =>
            rename_i b base
            rw [hs'] at hs
            cases hs
            have hg := hlent id _ (List.mem_singleton.2 rfl) hs'
            have := R.him (C := C) (c := c') (w := w) (xs := (xs.drop start).take len) (b := b) (off := base + start * sizeT C e') (cap := cap) (fun i => f (start + i)) hg.1 hg.2 (by omega) hm (fun i j hi hj => by
              rw [hlen] at hi
              have := hc (start + i) j (by omega) hj
              rw [Nat.add_mul, ← Nat.add_assoc] at this
              exact this) (fun i hi j hj => R_free (RowsR_cut hr start len i hi j hj) (all_get (hC.free _ _) j hj) hI hH hC.free)
            rw [hlen] at this
            exact this
      · cases hk
    · cases hk
  · cases hk

theorem pubC_ok (hC : CfgOK C) {h : Heap C.E} (hh : HR C c w h) : ∀ (ms : List CM) (xs : List (AV C.E)) (f : Nat → Value) (_ : ∀ j (hj : j < xs.length), R C c w xs[j] (f j)) {Z : Type} {K : List (AV C.E) → List Nat → Option Z} {z : Z} (_ : pubC C (lookH h) ms xs K = some z),
    ∃ ys g, K ys g = some z ∧ ys.length = xs.length ∧ (∀ i ∈ g, ∃ o, h[i]? = some (some o)) ∧ ∀ j (hj : j < ys.length), AtI C c w g ys[j] (f j)
  | [], [], f, hr, Z, K, z, hk => ⟨[], [], hk, rfl, fun i hi => (by cases hi), fun j hj => absurd hj (Nat.not_lt_zero _)⟩
  | [], _ :: _, f, hr, Z, K, z, hk => by cases hk
  | m :: ms, [], f, hr, Z, K, z, hk => by cases m <;> cases hk
  | m :: ms, x :: xs, f, hr, Z, K, z, hk => by
    have hx := hr 0 (by simp)
    simp only [List.getElem_cons_zero] at hx
    have plain : pubC C (lookH h) ms xs (fun r g => K (x :: r) g) = some z → ∃ ys g, K ys g = some z ∧ ys.length = (x :: xs).length ∧ (∀ i ∈ g, ∃ o, h[i]? = some (some o)) ∧ ∀ j (hj : j < ys.length), AtI C c w g ys[j] (f j) := by
      intro hk
      obtain ⟨ys, g, h1, h2, h3, h4⟩ := pubC_ok hC hh ms xs (fun j => f (j + 1)) (fun j hj => hr (j + 1) (by simpa using hj)) hk
      refine ⟨_, g, h1, by simp [h2], h3, fun j hj => ?_⟩
      cases j with
      | zero => exact fun c' hkp _ _ => hx.keep hkp
      | succ j => exact h4 j (by simpa using hj)
    cases m with
    | s e =>
      simp only [pubC] at hk
      obtain ⟨l, rd, h1, h2, h3⟩ := readSl_imm hC hh hk hx
      obtain ⟨ys, g, k1, k2, k3, k4⟩ := pubC_ok hC hh ms xs (fun j => f (j + 1)) (fun j hj => hr (j + 1) (by simpa using hj)) h1
      refine ⟨_, _, k1, by simp [k2], fun i hi => (List.mem_append.1 hi).elim (h2 i) (k3 i), fun j hj => ?_⟩
      cases j with
      | zero => exact fun c' hkp hI hg => h3 c' hI.1 hI.2 (fun id loc hid hs => (hg id loc (List.mem_append_left _ hid) hs).1)
      | succ j => exact fun c' hkp hI hg => k4 j (by simpa using hj) c' hkp hI (fun id loc hid hs => hg id loc (List.mem_append_right _ hid) hs)
    | v => exact plain hk
    | o e => exact plain hk
    | p => exact plain hk
    | f => exact plain hk
    | q => exact plain hk
    | w e => exact plain hk
    | mo => exact plain hk
    | h e =>
      by_cases him : ∃ e' xs', x = .imm e' xs'
      · obtain ⟨e', xs', rfl⟩ := him
        cases hk
      · have hk2 : readSl C (lookH h) e x (fun l rd => pubC C (lookH h) ms xs fun r g => K (.him e l :: r) (rd ++ g)) = some z := by
          cases x <;> first | exact (him ⟨_, _, rfl⟩).elim | exact hk
        obtain ⟨l, rd, h1, h2, h3⟩ := readSl_him hC hh hk2 hx (fun e' xs' he => him ⟨e', xs', he⟩)
        obtain ⟨ys, g, k1, k2, k3, k4⟩ := pubC_ok hC hh ms xs (fun j => f (j + 1)) (fun j hj => hr (j + 1) (by simpa using hj)) h1
        refine ⟨_, _, k1, by simp [k2], fun i hi => (List.mem_append.1 hi).elim (h2 i) (k3 i), fun j hj => ?_⟩
        cases j with
        | zero => exact fun c' hkp hI hg => h3 c' hI.1 hI.2 (fun id loc hid hs => hg id loc (List.mem_append_left _ hid) hs)
        | succ j => exact fun c' hkp hI hg => k4 j (by simpa using hj) c' hkp hI (fun id loc hid hs => hg id loc (List.mem_append_right _ hid) hs)

theorem pubA_ok (hC : CfgOK C) {h : Heap C.E} (hh : HR C c w h) : ∀ (ms : List (List CM)) (xs : List (AV C.E)) (f : Nat → Value) (_ : ∀ j (hj : j < xs.length), R C c w xs[j] (f j)) {Z : Type} {K : List (AV C.E) → List Nat → Option Z} {z : Z} (_ : pubA C (lookH h) ms xs K = some z),
    ∃ ys g, K ys g = some z ∧ ys.length = xs.length ∧ (∀ i ∈ g, ∃ o, h[i]? = some (some o)) ∧ ∀ j (hj : j < ys.length), AtI C c w g ys[j] (f j)
  | [], [], f, hr, Z, K, z, hk => ⟨[], [], hk, rfl, fun i hi => (by cases hi), fun j hj => absurd hj (Nat.not_lt_zero _)⟩
  | [], _ :: _, f, hr, Z, K, z, hk => by cases hk
  | m :: ms, [], f, hr, Z, K, z, hk => by cases hk
  | m :: ms, x :: xs, f, hr, Z, K, z, hk => by
    have hx := hr 0 (by simp)
    simp only [List.getElem_cons_zero] at hx
    simp only [pubA] at hk
    have one : ∃ ys g, pubA C (lookH h) ms xs (fun zs g' => K (likeV x ys :: zs) (g ++ g')) = some z ∧ (∀ i ∈ g, ∃ o, h[i]? = some (some o)) ∧ AtI C c w g (likeV x ys) (f 0) := by
      by_cases hag : ∃ cs, x = .agg cs
      · obtain ⟨cs, rfl⟩ := hag
        generalize hv : f 0 = v at hx
        cases hx with
        | agg hl hrr =>
          rename_i vs
          obtain ⟨ys, g, h1, h2, h3, h4⟩ := pubC_ok hC hh m cs (fun j => vs.getD j undef) hrr hk
          exact ⟨ys, g, h1, h3, fun c' hkp hI hg => .agg (h2.trans hl) (fun j hj => h4 j hj c' hkp hI hg)⟩
      · have hc : x.cells = [x] := by cases x <;> first | rfl | exact (hag ⟨_, rfl⟩).elim
        rw [hc] at hk
        obtain ⟨ys, g, h1, h2, h3, h4⟩ := pubC_ok hC hh m [x] f (fun j hj => by
          have : j = 0 := by simpa using hj
          subst this; exact hx) hk
        match ys, h2 with
        | [y], _ =>
          have hl : likeV x [y] = y := by cases x <;> first | rfl | exact (hag ⟨_, rfl⟩).elim
          exact ⟨[y], g, h1, h3, by rw [hl]; exact h4 0 (by simp)⟩
    obtain ⟨ys, g, h1, h2, h3⟩ := one
    obtain ⟨zs, g', k1, k2, k3, k4⟩ := pubA_ok hC hh ms xs (fun j => f (j + 1)) (fun j hj => hr (j + 1) (by simpa using hj)) h1
    refine ⟨_, _, k1, by simp [k2], fun i hi => (List.mem_append.1 hi).elim (h2 i) (k3 i), fun j hj => ?_⟩
    cases j with
    | zero => exact fun c' hkp hI hg => h3 c' hkp hI (fun id loc hid hs => hg id loc (List.mem_append_left _ hid) hs)
    | succ j => exact fun c' hkp hI hg => k4 j (by simpa using hj) c' hkp hI (fun id loc hid hs => hg id loc (List.mem_append_right _ hid) hs)

/-! ### The objects that go back -/

def pickC (c : Ctx) (m : List Nat) : Ctx := { n := m.length, σ := fun j => (m[j]?).bind c.σ, I := c.I, H := c.H }

theorem idxIn_spec : ∀ (m : List Nat) (i k j : Nat), idxIn m i k = some j → k ≤ j ∧ m[j - k]? = some i
  | [], i, k, j, h => by cases h
  | x :: m, i, k, j, h => by
    simp only [idxIn] at h
    split at h
    · rename_i hb
      cases h
      simp [Nat.eq_of_beq_eq_true hb]
    · obtain ⟨h1, h2⟩ := idxIn_spec m i (k + 1) j h
      refine ⟨by omega, ?_⟩
      rw [show j - k = (j - (k + 1)) + 1 by omega]
      simpa using h2

theorem idxIn_some : ∀ (m : List Nat) (i k : Nat), i ∈ m → ∃ j, idxIn m i k = some j
  | [], i, k, h => by cases h
  | x :: m, i, k, h => by
    simp only [idxIn]
    cases hb : Nat.beq x i with
    | true => exact ⟨_, rfl⟩
    | false =>
      rcases List.mem_cons.1 h with rfl | h
      · simp at hb
      · exact idxIn_some m i (k + 1) h

theorem pick_ok (hC : CfgOK C) {h : Heap C.E} (hh : HR C c w h) {m : List Nat} (hn : m.Nodup) :
    Ren C c (pickC c m) (fun i => idxIn m i 0) ∧ HR C (pickC c m) w (pickH m h) ∧ (∀ k, Own (pickC c m) (pickH m h) k → Own c h k) := by
  have hren : Ren C c (pickC c m) (fun i => idxIn m i 0) := by
    refine ⟨fun i j loc hj hs => ?_, fun i j hj => ?_, fun k hk => hk, fun k hk => hk, hC.free⟩
    · obtain ⟨_, h2⟩ := idxIn_spec m i 0 j hj
      show (m[j]?).bind c.σ = some loc
      rw [Nat.sub_zero] at h2
      rw [h2]; exact hs
    · obtain ⟨_, h2⟩ := idxIn_spec m i 0 j hj
      rw [Nat.sub_zero] at h2
      exact lt_of_getElem? h2
  have hidx : ∀ (j i : Nat), m[j]? = some i → idxIn m i 0 = some j := by
    intro j i hj
    obtain ⟨j', hj'⟩ := idxIn_some m i 0 (List.mem_of_getElem? hj)
    obtain ⟨_, h2⟩ := idxIn_spec m i 0 j' hj'
    rw [Nat.sub_zero] at h2
    have := (List.getElem?_inj (lt_of_getElem? hj) hn).1 (hj.trans h2.symm)
    rw [this]; exact hj'
  have cls : ∀ (j : Nat) (o : Ob C.E), (pickH m h)[j]? = some (some o) → ∃ (i : Nat) (o2 : Ob C.E), m[j]? = some i ∧ h[i]? = some (some o2) ∧ renO (fun i => idxIn m i 0) (some o2) = some o := by
    intro j o hj
    unfold pickH at hj
    rw [List.getElem?_map] at hj
    cases hi : m[j]? with
    | none => rw [hi] at hj; cases hj
    | some i =>
      rw [hi] at hj
      simp only [Option.map_some, Option.some.injEq] at hj
      cases ho : h[i]? with
      | none => rw [ho] at hj; simp [renO] at hj
      | some x =>
        rw [ho] at hj
        simp only [Option.getD_some] at hj
        cases x with
        | none => simp [renO] at hj
        | some o2 => exact ⟨i, o2, rfl, ho, hj⟩
  have hσ : ∀ (j i : Nat), m[j]? = some i → (pickC c m).σ j = c.σ i := fun j i hj => by show (m[j]?).bind c.σ = _; rw [hj]; rfl
  refine ⟨hren, ⟨hh.gl.to (fun _ h => h) (fun _ _ => rfl), by simp [pickH, pickC], fun j hj => ?_, hh.bnd, hh.hI, fun j o hj => ?_, fun j o loc hj hs => ?_, ?_⟩, ?_⟩
  · show (m[j]?).bind c.σ = none
    rw [List.getElem?_eq_none hj]; rfl
  · obtain ⟨i, o2, h1, h2, h3⟩ := cls j o hj
    exact ObR_ren hren (hidx j i h1) (fun h0 => by rw [hσ j i h1]; exact h0) (hh.ob i o2 h2) h3
  · obtain ⟨i, o2, h1, h2, h3⟩ := cls j o hj
    rw [hσ j i h1] at hs
    exact ⟨softO_ren (hh.soft i o2 loc h2 hs).1 h3, (hh.soft i o2 loc h2 hs).2⟩
  · intro j k oj ok lj lk h1 h2 h3 h4 h5
    obtain ⟨i, o2, e1, e2, _⟩ := cls j oj h1
    obtain ⟨i', o2', f1, f2, _⟩ := cls k ok h2
    rw [hσ j i e1] at h3
    rw [hσ k i' f1] at h4
    have := hh.inj _ _ _ _ _ _ e2 f2 h3 h4 h5
    subst this
    exact (List.getElem?_inj (lt_of_getElem? e1) hn).1 (e1.trans f1.symm)
  · rintro k ⟨j, o, loc, h1, h2, h3⟩
    obtain ⟨i, o2, e1, e2, _⟩ := cls j o h1
    rw [hσ j i e1] at h2
    exact ⟨i, o2, loc, e2, h2, h3⟩

/-! ### A function -/

theorem run_results {fn : Func} {a : Act} {vs : List Value} (h : (fn.results.toList.mapM (resOne a.tmps)).run C.P w = .ok vs w) : (results fn a.tmps).run C.P w = .ok (if h : vs.toArray.size = 1 then vs.toArray[0] else .tuple vs.toArray) w := by
  rw [results_eq, Array.mapM_eq_mapM_toList]
  simp [h]

theorem R_packV {ys : List (AV C.E)} {vs : List Value} (hl : ys.length = vs.length) (hr : ∀ j (_ : j < ys.length), R C c w ys[j] (vs.getD j undef)) : R C c w (packV ys) (if h : vs.toArray.size = 1 then vs.toArray[0] else .tuple vs.toArray) := by
  by_cases h1 : vs.length = 1
  · have h2 : ys.length = 1 := by omega
    match ys, vs, h1, h2 with
    | [y], [v], _, _ => simpa [packV] using hr 0 (by simp)
  · have hp : packV ys = .tup ys := by
      match ys with
      | [] => rfl
      | [y] => simp at hl; omega
      | _ :: _ :: _ => rfl
    rw [hp, dif_neg (by simpa using h1)]
    exact .tup (by simpa using hl) (fun j hj => by
      have hj' : j < vs.length := by omega
      have := hr j hj
      simpa [List.getD_eq_getElem?_getD, Array.getD, hj'] using this)

theorem endK_ok (hC : CfgOK C) {fn : Func} {k : Nat} {rm : List (List CM)} {st : St C.E} {a : Act} {c2 : Ctx} {w2 : World} {h : Heap C.E} (hcn : c.n = k) (hr : Rep C c2 w2 st a) (hle : LeK k c h w c2 st.h w2) {Z : Type}
    {K : AV C.E → List (Option (Ob C.E)) → Option Z} {z : Z} (hk : endK C st fn.results.toList rm k K = some z) :
    ∃ v r h' c', (results fn a.tmps).run C.P w2 = .ok v w2 ∧ K r h' = some z ∧ R C c' w2 r v ∧ HR C c' w2 h' ∧ Le c h w c' h' w2 := by
  unfold endK at hk
  obtain ⟨xs, vs, h1, h2, h3, h4⟩ := resK_ok hC hr _ hk
  obtain ⟨ys, g, k1, k2, k3, k4⟩ := pubA_ok hC hr.heap rm xs (fun j => vs.getD j undef) (fun j hj => by
    have hj' : j < vs.length := by omega
    have := h4 j hj hj'
    simpa [List.getD_eq_getElem?_getD, hj'] using this) h1
  obtain ⟨c3, n3, s3, i3, b3, hh3, le3⟩ := drop_all g hr.heap (fun i hi => .inl (k3 i hi))
  generalize hkp : keepC k (packV ys) (wrH st.h (g.map fun i => (i, none))) = keep at k1
  unfold finK at k1
  split at k1
  · rename_i hnd
    have hnd := nodupB_spec _ hnd
    have hk3 := le3.keeps hr.heap
    obtain ⟨p1, p2, p3⟩ := pick_ok hC hh3 hnd
    have hR : R C c3 w2 (packV ys) (if h : vs.toArray.size = 1 then vs.toArray[0] else .tuple vs.toArray) :=
      R_packV (k2.trans h3) (fun j hj => k4 j hj c3 hk3 i3 b3)
    have tot := hle.trans (le3.toK hle.n)
    refine ⟨_, _, _, pickC c3 (List.range k ++ keep), run_results h2, k1, R_renV p1 hR, p2, ?_⟩
    refine ⟨?_, fun id loc hid hs => ?_, tot.I, tot.H, tot.old, tot.oldH, fun k' hk' ho => tot.own k' hk' (p3 k' ho), tot.size, tot.os, tot.tape, tot.output, tot.frame, tot.shape⟩
    · show c.n ≤ (List.range k ++ keep).length
      rw [hcn, List.length_append, List.length_range]; omega
    · show ((List.range k ++ keep)[id]?).bind c3.σ = some loc
      rw [List.getElem?_append_left (by rw [List.length_range]; omega), List.getElem?_range (by omega)]
      exact tot.σ id loc (by omega) hs
  · cases k1

theorem getD_append_replicate {α : Type} (l : List α) (n i : Nat) (x : α) : (l ++ List.replicate n x).getD i x = l.getD i x := by
  simp only [List.getD_eq_getElem?_getD, List.getElem?_append, List.getElem?_replicate]
  by_cases h : i < l.length
  · simp [h]
  · rw [if_neg h, List.getElem?_eq_none (by omega)]
    split <;> rfl

/-- A function keeps the word that the executor finds for it. -/
theorem fn_ok {Γ : FuncId → Option (CF C)} (hS : SysN C Γ) {Λ : Nat → Option (LF C)} {f : FuncId} {fn : Func} {body : Code} (hf : C.P.funcs[f]? = some fn) (hb : fn.body = some body) {rm : List (List CM)} {co : List (Nat × Nat)}
    {Z : Type} (c : Ctx) (w : World) (h : Heap C.E) (args : List (AV C.E)) (vs : Array Value) (K : AV C.E → List (Option (Ob C.E)) → Option Z) (z : Z)
    (hΛ : LamAt C h.length Λ body) (hk : fnK C Γ Λ fn rm co args h K = some z) (hh : HR C c w h) (hl : args.length = vs.size) (hr : ∀ j (_ : j < args.length), R C c w args[j] (vs.getD j undef)) :
    Calls C.P f vs w fun e w' => ∃ v r h' c', e = .returned v ∧ K r h' = some z ∧ R C c' w' r v ∧ HR C c' w' h' ∧ Le c h w c' h' w' := by
  unfold fnK at hk
  rw [hb] at hk
  simp only at hk
  have hrep : Rep C c w ⟨args ++ List.replicate (fn.ntmps - args.length) .undef, h⟩ { tmps := vs ++ Array.replicate (fn.ntmps - vs.size) undef, defers := [] } := by
    refine ⟨rfl, by simp [hl], fun i => ?_, hh⟩
    simp only []
    rw [getD_append_replicate]
    have : (vs ++ Array.replicate (fn.ntmps - vs.size) undef).getD i undef = vs.getD i undef := by
      simp only [Array.getD_eq_getD_getElem?, Array.getElem?_append, Array.getElem?_replicate]
      by_cases h : i < vs.size
      · simp [h]
      · rw [if_neg h, Array.getElem?_eq_none (by omega)]
        split <;> rfl
    rw [this]
    by_cases hi : i < args.length
    · have := hr i hi
      simpa [List.getD_eq_getElem?_getD, hi] using this
    · rw [List.getD_eq_getElem?_getD, List.getElem?_eq_none (by omega), Array.getD_eq_getD_getElem?, Array.getElem?_eq_none (by omega)]
      exact .undef
  refine calls_of_wp hf hb (exec_ok hS body hΛ _ z _ _ c w hk hrep (by rw [hh.len]; exact Nat.le_refl _) _ ?_)
  intro e st' a' c' w' hk2 hr2 hle
  cases e with
  | ret =>
    obtain ⟨c4, r4, l4⟩ := coSt_ok (k := h.length) co hr2
    obtain ⟨v, r, h', c3, k1, k2, k3, k4, k5⟩ := endK_ok hS.sys.cfg hh.len.symm r4 (hle.trans (l4.toK hle.n)) hk2
    exact ⟨hr2.defers, v, k1, v, r, h', c3, rfl, k2, k3, k4, k5⟩
  | normal =>
    obtain ⟨c4, r4, l4⟩ := coSt_ok (k := h.length) co hr2
    obtain ⟨v, r, h', c3, k1, k2, k3, k4, k5⟩ := endK_ok hS.sys.cfg hh.len.symm r4 (hle.trans (l4.toK hle.n)) hk2
    exact ⟨hr2.defers, v, k1, v, r, h', c3, rfl, k2, k3, k4, k5⟩
  | _ => cases hk2

/-- A contract that the executor bears out. -/
theorem cf_ok {Γ : FuncId → Option (CF C)} (hS : SysN C Γ) {Λ : Nat → Option (LF C)} {f : FuncId} {fn : Func} {body : Code} {g : CF C} (hf : C.P.funcs[f]? = some fn) (hname : (fn.name == "runtime.NumGoroutine") = false) (hb : fn.body = some body) {n : Nat} (hΛ : LamAt C n Λ body) {rm : List (List CM)} {co : List (Nat × Nat)}
    (hg : ∀ {Z : Type} (args : List (AV C.E)) (h : Heap C.E) (K : AV C.E → List (Option (Ob C.E)) → Option Z) (z : Z), g.F args h K = some z → h.length = n ∧ fnK C Γ Λ fn rm co args h K = some z) : CFOK C f g :=
  ⟨fun c w h args vs K z hk hh hl hr => .inl ⟨fn, hf, hname, by rw [hb]; rfl, fn_ok hS hf hb c w h args vs K z (by rw [(hg args h K z hk).1]; exact hΛ) (hg args h K z hk).2 hh hl hr⟩⟩

end
end Go.AE
