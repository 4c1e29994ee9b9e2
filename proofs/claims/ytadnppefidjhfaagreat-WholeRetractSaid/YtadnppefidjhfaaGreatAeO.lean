/-
  AE, part 5: one operation is sound.
-/
import Derived.Test.YtadnppefidjhfaaGreatAeZ
namespace Go.AE
open Go.RowKit

section
variable {C : Cfg}

/-- A call of a function with a body; a call of one that the model answers in place. -/
def Does (C : Cfg) (f : FuncId) (vs : Array Value) (w : World) (Q : Ending → World → Prop) : Prop :=
  (∃ fn, C.P.funcs[f]? = some fn ∧ (fn.name == "runtime.NumGoroutine") = false ∧ fn.body.isNone = false ∧ Calls C.P f vs w Q) ∨
    ∃ v w', (callFunc f vs).run C.P w = .ok (.value v) w' ∧ Q (.returned v) w'

theorem Does.mono {f : FuncId} {vs : Array Value} {w : World} {Q Q' : Ending → World → Prop} (h : Does C f vs w Q) (hq : ∀ e w', Q e w' → Q' e w') : Does C f vs w Q' := by
  rcases h with ⟨fn, h1, h2, h3, h4⟩ | ⟨v, w', h1, h2⟩
  · exact .inl ⟨fn, h1, h2, h3, Calls.mono h4 hq⟩
  · exact .inr ⟨v, w', h1, hq _ _ h2⟩

theorem Does.calls {f : FuncId} {vs : Array Value} {w : World} {Q : Ending → World → Prop} (h : Does C f vs w Q) {fn : Func} (hf : C.P.funcs[f]? = some fn) (hn : (fn.name == "runtime.NumGoroutine") = false) (hb : fn.body.isNone = false) : Calls C.P f vs w Q := by
  rcases h with ⟨_, _, _, _, h⟩ | ⟨v, w', h1, _⟩
  · exact h
  · have hn' : ¬ fn.name = "runtime.NumGoroutine" := by simpa using hn
    have hb' : ¬ fn.body = none := fun e => by rw [e] at hb; cases hb
    have : (callFunc f vs).run C.P w = .ok (.enter f vs) w := by simp [callFunc, hf, hn', hb']
    rw [this] at h1
    cases h1

/-- A function keeps a contract. -/
structure CFOK (C : Cfg) (f : FuncId) (g : CF C) : Prop where
  run : ∀ {Z : Type} (c : Ctx) (w : World) (h : Heap C.E) (args : List (AV C.E)) (vs : Array Value) (K : AV C.E → List (Option (Ob C.E)) → Option Z) (z : Z),
    g.F args h K = some z → HR C c w h → args.length = vs.size → (∀ j (_ : j < args.length), R C c w args[j] (vs.getD j undef)) →
    Does C f vs w fun e w' => ∃ v r h' c', e = .returned v ∧ K r h' = some z ∧ R C c' w' r v ∧ HR C c' w' h' ∧ Le c h w c' h' w'

structure Sys (C : Cfg) (Γ : FuncId → Option (CF C)) : Prop where
  cfg : CfgOK C
  eq : ∀ t ti, C.T t = some ti → ti.eqf = true → EqOK C t ti
  gam : ∀ f g, Γ f = some g → CFOK C f g

variable {c : Ctx} {w : World}

theorem run_v {P : Program} {s : Sem Value} {w w' : World} {v : Value} (h : s.run P w = .ok v w') : (do pure (.value (← s)) : Sem Next).run P w = .ok (.value v) w' := by simp [h]
theorem run_u {P : Program} {s : Sem Unit} {w w' : World} (h : s.run P w = .ok () w') : (do s; pure .skip : Sem Next).run P w = .ok .skip w' := by simp [h]

/-- What an operation that is no call gives. -/
def Gives (C : Cfg) (c : Ctx) (w : World) (h : Heap C.E) (s : Sem Next) {Z : Type} (K : Eff C.E → Option Z) (z : Z) : Prop :=
  ∃ nx v e c' w', s.run C.P w = .ok nx w' ∧ (nx = .value v ∨ (nx = .skip ∧ v = undef)) ∧ K e = some z ∧ After C c w h c' w' e v

theorem Gives.quiet {h : Heap C.E} (hh : HR C c w h) {s : Sem Next} {Z : Type} {K : Eff C.E → Option Z} {z : Z} {v : Value} {r : AV C.E} (h1 : s.run C.P w = .ok (.value v) w) (h2 : K ⟨r, [], []⟩ = some z) (h3 : R C c w r v) : Gives C c w h s K z :=
  ⟨_, _, _, _, _, h1, .inl rfl, h2, After.quiet hh h3 rfl⟩

theorem R_pick {k k' : IntKind} {x y : Int} (t : Bool) (h1 : (Lit.int k x).wf = true) (hk : k' = k) (h2 : (Lit.int k' y).wf = true) : (Lit.int k (cond t y x)).wf = true := by
  subst hk; cases t <;> assumption

theorem opt_some {ρ : Operand → AV C.E} {ev : Operand → Value} (hρ : ∀ x, R C c w (ρ x) (ev x)) (o : Option Operand) (y : AV C.E) (hy : o.map ρ = some y) : ∃ u, o.map ev = some u ∧ R C c w y u := by
  cases o with
  | none => cases hy
  | some x => cases hy; exact ⟨_, rfl, hρ _⟩
theorem opt_none {ρ : Operand → AV C.E} {ev : Operand → Value} (o : Option Operand) (hy : o.map ρ = none) : o.map ev = none := by
  cases o with
  | none => rfl
  | some x => cases hy
theorem opt_bounds {ρ : Operand → AV C.E} {ev : Operand → Value} (hρ : ∀ x, R C c w (ρ x) (ev x)) (lo hi mx : Option Operand) : Bounds C c w (lo.map ρ) (hi.map ρ) (mx.map ρ) (lo.map ev) (hi.map ev) (mx.map ev) :=
  ⟨opt_some hρ lo, opt_none lo, opt_some hρ hi, opt_none hi, opt_some hρ mx, opt_none mx⟩

theorem map_one {α β : Type} {f : α → β} {l : List α} {x : β} (h : l.map f = [x]) : ∃ a, l = [a] ∧ f a = x := by
  match l, h with
  | [a], h => simp at h; exact ⟨a, rfl, h⟩
theorem map_two {α β : Type} {f : α → β} {l : List α} {x y : β} (h : l.map f = [x, y]) : ∃ a b, l = [a, b] ∧ f a = x ∧ f b = y := by
  match l, h with
  | [a, b], h => simp at h; exact ⟨a, b, rfl, h⟩
theorem map_three {α β : Type} {f : α → β} {l : List α} {x y u : β} (h : l.map f = [x, y, u]) : ∃ a b d, l = [a, b, d] ∧ f a = x ∧ f b = y ∧ f d = u := by
  match l, h with
  | [a, b, d], h => simp at h; exact ⟨a, b, d, rfl, h⟩

theorem map_four {α β : Type} {f : α → β} {l : List α} {x y u v : β} (h : l.map f = [x, y, u, v]) : ∃ a b d e, l = [a, b, d, e] ∧ f a = x ∧ f b = y ∧ f d = u ∧ f e = v := by
  match l, h with
  | [a, b, d, e], h => simp at h; exact ⟨a, b, d, e, rfl, h⟩

theorem opV_ok {Γ : FuncId → Option (CF C)} (hS : Sys C Γ) {Z : Type} {K : Eff C.E → Option Z} {z : Z} {o : Oper} {ρ : Operand → AV C.E} {ev : Operand → Value} {h : Heap C.E} {nid : Nat}
    (hk : opK C Γ o.op ρ (lookH h) nid K = some z) (hn : ∀ x ca, o.op = .call ca → ca.callee ≠ .value x)
    (hh : HR C c w h) (hf : Fresh c h nid) (hρ : ∀ x, R C c w (ρ x) (ev x)) : Gives C c w h (execOp ev o) K z := by
  rcases o with ⟨dst, op, ty, pos, aft, gd⟩
  simp only at hk hn
  cases op <;> simp only [opK] at hk <;> try (cases hk; done)
  case move x =>
    split at hk
    · cases hk
    · exact Gives.quiet hh rfl hk (hρ x)
  case assign x =>
    split at hk
    · cases hk
    · exact Gives.quiet hh rfl hk (hρ x)
  case pick p a b =>
    split at hk
    · rename_i t ht
      have hc := hρ p
      rw [ht] at hc
      cases hb : ev p with
      | bool t' =>
        rw [hb] at hc
        cases hc
        cases t with
        | true => exact Gives.quiet hh (v := ev a) (by simp [execOp, hb, asBool]) hk (hρ a)
        | false => exact Gives.quiet hh (v := ev b) (by simp [execOp, hb, asBool]) hk (hρ b)
      | _ => rw [hb] at hc; cases hc
    · cases hk
  case alloc t =>
    split at hk
    · rename_i ti hT
      obtain ⟨i, d, zz, hi, hu, hs, _, _, hz, hzl, hzs, hzr, _⟩ := (hS.cfg.T _ _ hT).ex
      split at hk
      · cases hk
      · obtain ⟨c', hA⟩ := new_box hh hf (cells := ti.zero) (vs := zz.cells) hzl (fun j hj => hzr c w j hj) t
        exact ⟨_, _, _, c', _, run_v (by simp [Instr.alloc, run_zeroValue' hi hz, newVar, newRow]), .inl rfl, hk, hA⟩
    · cases hk
  case box t x =>
    split at hk
    · cases hk
    · cases hk
    · cases hk
    · rename_i h1 h2 h3
      obtain ⟨c', hA⟩ := new_box hh hf (cells := (ρ x).cells) (vs := (ev x).cells) (R_cells_len (hρ x) h1 h2 h3) (R_cells_get (hρ x) h1 h2 h3) t
      exact ⟨_, _, _, c', _, run_v (by simp [Instr.box, newVar, newRow]), .inl rfl, hk, hA⟩
  case build t ps =>
    obtain ⟨v, r, h1, h2, h3⟩ := buildK_ok hS.cfg hk (vs := ps.map fun p => (p.1, ev p.2)) (by rw [Array.toList_map]; exact parts_of hρ _)
    exact Gives.quiet hh (run_v h1) h2 h3
  case buildSlice t len ps =>
    obtain ⟨v, e, c', w', h1, h2, h3⟩ := buildSliceK_ok hS.cfg hk hh hf (vs := ps.map fun p => (p.1, ev p.2)) (by rw [Array.toList_map]; exact parts_of hρ _)
    exact ⟨_, _, _, _, _, run_v h1, .inl rfl, h2, h3⟩
  case load t p =>
    obtain ⟨v, e, h1, h2, h3, h4⟩ := loadK_ok hS.cfg hk hh (hρ p)
    exact ⟨_, _, _, _, _, run_v h1, .inl rfl, h2, After.quiet hh h3 h4⟩
  case store t p x =>
    obtain ⟨e, c', w', h1, h2, h3⟩ := storeK_ok hS.cfg hk hh (hρ p) (hρ x)
    exact ⟨_, _, _, _, _, run_u h1, .inr ⟨rfl, rfl⟩, h2, h3⟩
  case nilCheck x =>
    have hx := hρ x
    split at hk
    · rename_i i r f he
      rw [he] at hx
      generalize hv : ev x = vx at hx
      have hx0 := hx
      cases hx
      exact Gives.quiet hh (by simp only [execOp, hv]; rfl) hk hx0
    · rename_i cs he
      rw [he] at hx
      generalize hv : ev x = vx at hx
      have hx0 := hx
      cases hx
      exact Gives.quiet hh (by simp only [execOp, hv]; rfl) hk hx0
    · cases hk
  case binOp op t x y q =>
    split at hk
    · rename_i ti hT
      obtain ⟨v, r, h1, h2, h3⟩ := binK_ok (hS.cfg.T _ _ hT) (hS.eq _ _ hT) hk (hρ x) (hρ y) x y
      exact Gives.quiet hh (run_v h1) h2 h3
    · cases hk
  case unOp op t x =>
    obtain ⟨v, r, h1, h2, h3⟩ := unK_ok hk (hρ x)
    exact Gives.quiet hh (run_v h1) h2 h3
  case convert s d x =>
    obtain ⟨v, e, c', w', h1, h2, h3⟩ := convAK_ok hS.cfg hk hh (hρ x)
    exact ⟨_, _, _, _, _, run_v h1, .inl rfl, h2, h3⟩
  case makeSlice t l cp =>
    obtain ⟨v, e, c', w', h1, h2, h3⟩ := makeK_ok hS.cfg hk hh hf (hρ l) (hρ cp)
    exact ⟨_, _, _, _, _, run_v h1, .inl rfl, h2, h3⟩
  case makeMap t r =>
    cases r with
    | some x => cases hk
    | none =>
      obtain ⟨v, e, c', w', h1, h2, h3⟩ := makeMapK_ok hk hh hf
      exact ⟨_, _, _, _, _, run_v h1, .inl rfl, h2, h3⟩
  case lookup t x i ok =>
    obtain ⟨v, e, h1, h2, h3, h4⟩ := lookupK_ok hS.cfg hS.eq hk hh (hρ x) (hρ i)
    exact ⟨_, _, _, _, _, run_v h1, .inl rfl, h2, After.quiet hh h3 h4⟩
  case mapUpdate t x i v =>
    obtain ⟨e, c', w', h1, h2, h3⟩ := updateK_ok hS.cfg hS.eq hk hh (hρ x) (hρ i) (hρ v)
    exact ⟨_, _, _, _, _, run_u h1, .inr ⟨rfl, rfl⟩, h2, h3⟩
  case mapEntry t x i =>
    obtain ⟨v, e, c', w', h1, h2, h3⟩ := mapEntryK_ok hS.cfg hS.eq hk hh (hρ x) (hρ i)
    exact ⟨_, _, _, _, _, run_v h1, .inl rfl, h2, h3⟩
  case entryStore t x i v =>
    obtain ⟨e, c', w', h1, h2, h3⟩ := entryStoreK_ok (t := t) hk hh (hρ x) (hρ i) (hρ v)
    exact ⟨_, _, _, _, _, run_u h1, .inr ⟨rfl, rfl⟩, h2, h3⟩
  case slice t x lo hi mx =>
    split at hk
    · rename_i hz
      have hlo : lo = none := by simpa using (and_split hz).1
      subst hlo
      obtain ⟨v, e, c', h1, h2, h3⟩ := zeroK_ok hS.cfg hk hh hf (hρ x).weak (vhi := hi.map ev) (vmx := mx.map ev) (opt_bounds hρ none hi mx)
      exact ⟨_, _, _, _, _, run_v h1, .inl rfl, h2, h3⟩
    · obtain ⟨v, e, c', h1, h2, h3⟩ := sliceK_ok hS.cfg hk hh (hρ x).weak (vlo := lo.map ev) (vhi := hi.map ev) (vmx := mx.map ev)
        (opt_bounds hρ lo hi mx)
      exact ⟨_, _, _, _, _, run_v h1, .inl rfl, h2, h3⟩
  case fieldAddr s x f =>
    obtain ⟨v, r, h1, h2, h3⟩ := fieldAddr_ok hS.cfg (Γ := Γ) (ρ := ρ) (lk := lookH h) (nid := nid) (by simp only [opK]; exact hk) (hρ x)
    exact Gives.quiet hh (run_v h1) h2 h3
  case field s x f =>
    obtain ⟨v, r, h1, h2, h3⟩ := field_ok hS.cfg (Γ := Γ) (ρ := ρ) (lk := lookH h) (nid := nid) (by simp only [opK]; exact hk) (hρ x)
    exact Gives.quiet hh (run_v h1) h2 h3
  case indexAddr t x i =>
    obtain ⟨v, e, h1, h2, h3, h4⟩ := indexAddr_ok hS.cfg hk hh (hρ x).weak (hρ i)
    exact ⟨_, _, _, _, _, run_v h1, .inl rfl, h2, After.quiet hh h3 h4⟩
  case index t x i =>
    obtain ⟨v, r, h1, h2, h3⟩ := index_ok hS.cfg hk (hρ x) (hρ i)
    exact Gives.quiet hh (run_v h1) h2 h3
  case extract x ix =>
    obtain ⟨v, r, h1, h2, h3⟩ := extract_ok (Γ := Γ) (ρ := ρ) (lk := lookH h) (nid := nid) (by simp only [opK]; exact hk) (hρ x)
    exact Gives.quiet hh (run_v h1) h2 h3
  case makeFunc fn first captured =>
    split at hk
    · rename_i f hf0
      have h0 : first = #[] := Array.toList_eq_nil_iff.1 hf0
      subst h0
      refine Gives.quiet hh (v := .func (.func f) #[] (captured.map ev)) (run_v (by simp [Instr.makeFunc])) hk (.fn (by simp) fun j hj => ?_)
      have hj' : j < captured.size := by simpa using hj
      simp only [List.getElem_map, Array.getElem_toList]
      have : (captured.map ev).getD j undef = ev captured[j] := by simp [Array.getD, hj']
      rw [this]; exact hρ _
    · cases hk
  case call ca =>
    rcases ca with ⟨callee, ⟨args⟩, ⟨tys⟩⟩
    cases callee with
    | value f => exact (hn _ _ rfl rfl).elim
    | invoke a b => cases hk
    | builtin b =>
    cases b <;> try (cases hk; done)
    case len =>
      simp only at hk
      split at hk
      · rename_i x t hx
        obtain ⟨a, rfl, rfl⟩ := map_one hx
        have hr := (hρ a).weak
        have key : ∀ n : Int, (Builtin.len_ #[t] ty #[ev a]).run C.P w = .ok (.int .i64 n) w → (Lit.int .i64 n).wf = true → val (.int .i64 n) K = some z → Gives C c w h (execOp ev ⟨dst, .call ⟨.builtin .len, #[a], #[t]⟩, ty, pos, aft, gd⟩) K z := by
          intro n h1 h2 h3
          exact Gives.quiet hh (by simp [execOp, resolve, invoke, builtin, h1]) h3 (.int h2)
        have hw : ∀ n : Nat, n ≤ maxLen → (Lit.int .i64 (n : Int)).wf = true := by
          intro n hn; unfold maxLen at hn; simp [Lit.wf, IntKind.min, IntKind.max, IntKind.bits, IntKind.signed]; omega
        generalize hv : ev a = vx at hr key
        split at hk
        · rename_i hT hax
          rw [hax] at hr
          have hu := under_slice hS.cfg hT rfl
          cases hr with
          | imm0 hm ha => exact key _ (by simp [Builtin.len_, run_underlying hu, goInt]) (hw _ (by simp [maxLen])) hk
          | imm f h1 h2 h3 h4 h5 => exact key _ (by simp [Builtin.len_, run_underlying hu, goInt]) (hw _ (by omega)) hk
        · rename_i hT hax
          rw [hax] at hr
          have hu := under_slice hS.cfg hT rfl
          cases hr with
          | sl0 h1 => exact key _ (by simp [Builtin.len_, run_underlying hu, goInt]) (hw _ (by simp [maxLen])) hk
          | sl h1 h2 h3 h4 h5 h6 => exact key _ (by simp [Builtin.len_, run_underlying hu, goInt]) (hw _ (by omega)) hk
        · rename_i hT hax
          rw [hax] at hr
          have hu := under_slice hS.cfg hT rfl
          cases hr
          exact key _ (by simp [Builtin.len_, run_underlying hu, goInt]) (hw 0 (by simp [maxLen])) hk
        · rename_i hT hax
          rw [hax] at hr
          have hu := under_str hS.cfg hT rfl
          cases hr with
          | str h1 h2 =>
            rename_i l s
            have hl : l.length = s.size := by rw [← h1]; simp
            exact key _ (by simp [Builtin.len_, run_underlying hu, goInt, hl]) (hw _ (by omega)) hk
        · cases hk
      · cases hk
    case append =>
      simp only at hk
      split at hk
      · rename_i s x t t2 hx
        obtain ⟨a, b, rfl, rfl, rfl⟩ := map_two hx
        split at hk
        · rename_i hT2
          obtain ⟨v, e, c', w', h1, h2, h3⟩ := appendK_ok hS.cfg (ty := ty) hk (under_slice hS.cfg hT2 rfl) hh hf (hρ a) (hρ b)
          exact ⟨_, _, _, _, _, by simp only [execOp, resolve, invoke, builtin, Array.map]; simp [h1], .inl rfl, h2, h3⟩
        · cases hk
      · cases hk
    case copy =>
      simp only at hk
      split at hk
      · rename_i d x t t2 hx
        obtain ⟨a, b, rfl, rfl, rfl⟩ := map_two hx
        split at hk
        · obtain ⟨v, e, c', w', h1, h2, h3⟩ := copyK_ok hS.cfg (ty := ty) (t2 := t2) hk hh (hρ a) (hρ b)
          exact ⟨_, _, _, _, _, by simp only [execOp, resolve, invoke, builtin, Array.map]; simp [h1], .inl rfl, h2, h3⟩
        · cases hk
      · cases hk
    case clear =>
      simp only at hk
      split at hk
      · rename_i d t hx
        obtain ⟨a, rfl, rfl⟩ := map_one hx
        obtain ⟨v, e, c', w', h1, h2, h3⟩ := clearK_ok hS.cfg (ty := ty) hk hh (hρ a)
        exact ⟨_, _, _, _, _, by simp only [execOp, resolve, invoke, builtin, Array.map]; simp [h1], .inl rfl, h2, h3⟩
      · cases hk
    case max =>
      simp only at hk
      split at hk
      · rename_i k x k' y hx
        obtain ⟨hkk, hk⟩ := cond_some hk
        obtain ⟨a, b, rfl, ha, hb⟩ := map_two hx
        have h1 := hρ a
        have h2 := hρ b
        rw [ha] at h1; rw [hb] at h2
        generalize hva : ev a = va at h1
        generalize hvb : ev b = vb at h2
        cases h1 with
        | int h1 => cases h2 with
          | int h2 =>
            refine Gives.quiet hh (v := .int k (cond (decide (y > x)) y x)) ?_ hk (.int (R_pick (decide (y > x)) h1 (of_decide_eq_true hkk) h2))
            simp [execOp, resolve, invoke, builtin, Builtin.max_, Builtin.max2, hva, hvb]
      · rename_i k x k' y k'' u hx
        obtain ⟨hkk, hk⟩ := cond_some hk
        obtain ⟨hkk, hkl⟩ := and_split hkk
        obtain ⟨a, b, d, rfl, ha, hb, hd⟩ := map_three hx
        have h1 := hρ a
        have h2 := hρ b
        have h3 := hρ d
        rw [ha] at h1; rw [hb] at h2; rw [hd] at h3
        generalize hva : ev a = va at h1
        generalize hvb : ev b = vb at h2
        generalize hvd : ev d = vd at h3
        cases h1 with
        | int h1 => cases h2 with
          | int h2 => cases h3 with
            | int h3 =>
              refine Gives.quiet hh (v := .int k (cond (decide (u > (cond (decide (y > x)) y x))) u (cond (decide (y > x)) y x))) ?_ hk (.int (R_pick _ (R_pick _ h1 (of_decide_eq_true hkk) h2) (of_decide_eq_true hkl) h3))
              simp [execOp, resolve, invoke, builtin, Builtin.max_, Builtin.max2, hva, hvb, hvd, Bool.cond_decide]
      · rename_i k x k' y k'' u k3 v hx
        obtain ⟨hkk, hk⟩ := cond_some hk
        obtain ⟨hkk, hkm⟩ := and_split hkk
        obtain ⟨hkk, hkl⟩ := and_split hkk
        obtain ⟨a, b, d, e, rfl, ha, hb, hd, he⟩ := map_four hx
        have h1 := hρ a
        have h2 := hρ b
        have h3 := hρ d
        have h4 := hρ e
        rw [ha] at h1; rw [hb] at h2; rw [hd] at h3; rw [he] at h4
        generalize hva : ev a = va at h1
        generalize hvb : ev b = vb at h2
        generalize hvd : ev d = vd at h3
        generalize hve : ev e = ve at h4
        cases h1 with
        | int h1 => cases h2 with
          | int h2 => cases h3 with
            | int h3 => cases h4 with
              | int h4 =>
                refine Gives.quiet hh (v := .int k (cond (decide (v > (cond (decide (u > (cond (decide (y > x)) y x))) u (cond (decide (y > x)) y x)))) v (cond (decide (u > (cond (decide (y > x)) y x))) u (cond (decide (y > x)) y x)))) ?_ hk (.int (R_pick _ (R_pick _ (R_pick _ h1 (of_decide_eq_true hkk) h2) (of_decide_eq_true hkl) h3) (of_decide_eq_true hkm) h4))
                simp [execOp, resolve, invoke, builtin, Builtin.max_, Builtin.max2, hva, hvb, hvd, hve, Bool.cond_decide]
      · cases hk
    case min =>
      simp only at hk
      split at hk
      · rename_i k x k' y hx
        obtain ⟨hkk, hk⟩ := cond_some hk
        obtain ⟨a, b, rfl, ha, hb⟩ := map_two hx
        have h1 := hρ a
        have h2 := hρ b
        rw [ha] at h1; rw [hb] at h2
        generalize hva : ev a = va at h1
        generalize hvb : ev b = vb at h2
        cases h1 with
        | int h1 => cases h2 with
          | int h2 =>
            refine Gives.quiet hh (v := .int k (cond (decide (y < x)) y x)) ?_ hk (.int (R_pick (decide (y < x)) h1 (of_decide_eq_true hkk) h2))
            simp [execOp, resolve, invoke, builtin, Builtin.min_, Builtin.min2, hva, hvb]
      · rename_i k x k' y k'' u hx
        obtain ⟨hkk, hk⟩ := cond_some hk
        obtain ⟨hkk, hkl⟩ := and_split hkk
        obtain ⟨a, b, d, rfl, ha, hb, hd⟩ := map_three hx
        have h1 := hρ a
        have h2 := hρ b
        have h3 := hρ d
        rw [ha] at h1; rw [hb] at h2; rw [hd] at h3
        generalize hva : ev a = va at h1
        generalize hvb : ev b = vb at h2
        generalize hvd : ev d = vd at h3
        cases h1 with
        | int h1 => cases h2 with
          | int h2 => cases h3 with
            | int h3 =>
              refine Gives.quiet hh (v := .int k (cond (decide (u < (cond (decide (y < x)) y x))) u (cond (decide (y < x)) y x))) ?_ hk (.int (R_pick _ (R_pick _ h1 (of_decide_eq_true hkk) h2) (of_decide_eq_true hkl) h3))
              simp [execOp, resolve, invoke, builtin, Builtin.min_, Builtin.min2, hva, hvb, hvd, Bool.cond_decide]
      · rename_i k x k' y k'' u k3 v hx
        obtain ⟨hkk, hk⟩ := cond_some hk
        obtain ⟨hkk, hkm⟩ := and_split hkk
        obtain ⟨hkk, hkl⟩ := and_split hkk
        obtain ⟨a, b, d, e, rfl, ha, hb, hd, he⟩ := map_four hx
        have h1 := hρ a
        have h2 := hρ b
        have h3 := hρ d
        have h4 := hρ e
        rw [ha] at h1; rw [hb] at h2; rw [hd] at h3; rw [he] at h4
        generalize hva : ev a = va at h1
        generalize hvb : ev b = vb at h2
        generalize hvd : ev d = vd at h3
        generalize hve : ev e = ve at h4
        cases h1 with
        | int h1 => cases h2 with
          | int h2 => cases h3 with
            | int h3 => cases h4 with
              | int h4 =>
                refine Gives.quiet hh (v := .int k (cond (decide (v < (cond (decide (u < (cond (decide (y < x)) y x))) u (cond (decide (y < x)) y x)))) v (cond (decide (u < (cond (decide (y < x)) y x))) u (cond (decide (y < x)) y x)))) ?_ hk (.int (R_pick _ (R_pick _ (R_pick _ h1 (of_decide_eq_true hkk) h2) (of_decide_eq_true hkl) h3) (of_decide_eq_true hkm) h4))
                simp [execOp, resolve, invoke, builtin, Builtin.min_, Builtin.min2, hva, hvb, hvd, hve, Bool.cond_decide]
      · cases hk

end
end Go.AE
