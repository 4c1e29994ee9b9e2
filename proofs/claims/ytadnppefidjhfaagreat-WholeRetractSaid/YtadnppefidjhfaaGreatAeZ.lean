/-
  AE, part 21: maps: a map is made; what stands at a key; a value is laid at a key.
-/
import Derived.Test.YtadnppefidjhfaaGreatAeY
import Derived.Maps.Keyed
import Derived.ChangeMaps5
namespace Go.AE
open Go.RowKit Go.ChangeMaps Go.MapKept

section
variable {C : Cfg} {c : Ctx} {w : World}

/-! ### Lists of keys with values -/

theorem mget_find {κ ν : Type} (eq : κ → κ → Bool) (key : κ) : ∀ xs : List (κ × ν), mget eq xs key = (xs.findIdx? fun p => eq key p.1).bind fun j => (xs[j]?).map (·.2)
  | [] => rfl
  | p :: r => by
    unfold mget
    rw [List.findIdx?_cons, mget_find eq key r]
    cases eq key p.1 with
    | true => rfl
    | false =>
      simp only [cond_false, Bool.false_eq_true, if_false]
      cases r.findIdx? (fun p => eq key p.1) <;> rfl
theorem mput_find {κ ν : Type} (eq : κ → κ → Bool) (key : κ) (v : ν) : ∀ xs : List (κ × ν), mput eq xs key v = match xs.findIdx? (fun p => eq key p.1) with
    | none => xs ++ [(key, v)]
    | some j => xs.set j (key, v)
  | [] => rfl
  | p :: r => by
    unfold mput
    rw [List.findIdx?_cons, mput_find eq key v r]
    cases eq key p.1 with
    | true => rfl
    | false =>
      simp only [cond_false, Bool.false_eq_true, if_false]
      cases r.findIdx? (fun p => eq key p.1) <;> rfl

/-! ### Keys -/

theorem kinds_eq : ∀ (zs a b : List (AV C.E)), kinds zs a = true → kinds zs b = true → ∃ t, eqCells zs a b = some t
  | [], a, b, ha, hb => by
    cases a <;> simp [kinds] at ha
    cases b <;> simp [kinds] at hb
    exact ⟨true, rfl⟩
  | z :: zs, a, b, ha, hb => by
    cases z <;> cases a <;> try (simp [kinds] at ha; done)
    · rename_i k n x a
      cases x <;> simp [kinds] at ha
      cases b with
      | nil => simp [kinds] at hb
      | cons y b =>
        cases y <;> simp [kinds] at hb
        obtain ⟨t, ht⟩ := kinds_eq zs a b ha.2 hb.2
        simp only [eqCells, ha.1, hb.1, decide_true, Bool.and_self, ht]
        exact ⟨_, rfl⟩
    · rename_i n x a
      cases x <;> simp [kinds] at ha
      cases b with
      | nil => simp [kinds] at hb
      | cons y b =>
        cases y <;> simp [kinds] at hb
        obtain ⟨t, ht⟩ := kinds_eq zs a b ha hb
        simp only [eqCells, ht]
        exact ⟨_, rfl⟩

theorem kinds_len : ∀ (zs a : List (AV C.E)), kinds zs a = true → a.length = zs.length
  | [], a, ha => by
    cases a <;> simp [kinds] at ha
    rfl
  | z :: zs, a, ha => by
    cases z <;> cases a <;> try (simp [kinds] at ha; done)
    · rename_i k n x a
      cases x <;> simp [kinds] at ha
      simp [kinds_len zs a ha.2]
    · rename_i n x a
      cases x <;> simp [kinds] at ha
      simp [kinds_len zs a ha]

/-- Cells that are the same stand for the same values, of these two kinds. -/
theorem eqCells_vals : ∀ (zs a b : List (AV C.E)), eqCells zs a b = some true → a.length = b.length ∧ ∀ j (h : j < a.length) (h' : j < b.length) u v, R C c w a[j] u → R C c w b[j] v → u = v ∧ ((∃ k n, u = .int k n) ∨ ∃ t, u = .bool t)
  | [], a, b, h => by
    cases a <;> cases b <;> simp [eqCells] at h
    exact ⟨rfl, fun j h => absurd h (Nat.not_lt_zero j)⟩
  | z :: zs, a, b, h => by
    cases z <;> cases a <;> cases b <;> try (simp [eqCells] at h; done)
    · rename_i k n x a y b
      cases x <;> cases y <;> simp only [eqCells] at h <;> try (cases h; done)
      rename_i k1 p k2 q
      split at h
      · rename_i t hk ht
        simp only [Bool.and_eq_true, decide_eq_true_eq] at hk
        obtain ⟨rfl, rfl⟩ := hk
        cases hpq : (p == q) with
        | false => rw [hpq] at h; cases h
        | true =>
          rw [hpq] at h
          simp only [cond_true, Option.some.injEq] at h
          subst h
          obtain ⟨h1, h2⟩ := eqCells_vals zs a b ht
          have hpq' : p = q := by simpa using hpq
          subst hpq'
          refine ⟨by simp [h1], fun j hj hj' u v hu hv => ?_⟩
          cases j with
          | zero =>
            simp only [List.getElem_cons_zero] at hu hv
            cases hu
            cases hv
            exact ⟨rfl, .inl ⟨_, _, rfl⟩⟩
          | succ j =>
            simp only [List.getElem_cons_succ] at hu hv
            exact h2 j (by simpa using hj) (by simpa using hj') u v hu hv
      · cases h
    · rename_i n x a y b
      cases x <;> cases y <;> simp only [eqCells] at h <;> try (cases h; done)
      rename_i p q
      split at h
      · rename_i t ht
        cases hpq : (p == q) with
        | false => rw [hpq] at h; cases h
        | true =>
          rw [hpq] at h
          simp only [cond_true, Option.some.injEq] at h
          subst h
          obtain ⟨h1, h2⟩ := eqCells_vals zs a b ht
          have hpq' : p = q := by simpa using hpq
          subst hpq'
          refine ⟨by simp [h1], fun j hj hj' u v hu hv => ?_⟩
          cases j with
          | zero =>
            simp only [List.getElem_cons_zero] at hu hv
            cases hu
            cases hv
            exact ⟨rfl, .inr ⟨_, rfl⟩⟩
          | succ j =>
            simp only [List.getElem_cons_succ] at hu hv
            exact h2 j (by simpa using hj) (by simpa using hj') u v hu hv
      · cases h

theorem sameBits_self (n : Nat) {v : Value} (h : (∃ k a, v = .int k a) ∨ ∃ t, v = .bool t) : Instr.sameBits n v v = true := by
  rcases h with ⟨k, a, rfl⟩ | ⟨t, rfl⟩ <;> cases n <;> simp [Instr.sameBits]
theorem sameBits_agg (n : Nat) {vs : Array Value} (h : ∀ v ∈ vs.toList, (∃ k a, v = .int k a) ∨ ∃ t, v = .bool t) : Instr.sameBits (n + 1) (.agg vs) (.agg vs) = true := by
  unfold Instr.sameBits
  simp only [beq_self_eq_true, Bool.true_and, List.all_eq_true]
  intro p hp
  have hz : ∀ l : List Value, ∀ p ∈ l.zip l, p.1 = p.2 ∧ p.1 ∈ l := by
    intro l
    induction l with
    | nil => intro p hp; cases hp
    | cons x l ih =>
      intro p hp
      rcases List.mem_cons.1 hp with rfl | hp
      · exact ⟨rfl, List.mem_cons_self ..⟩
      · exact ⟨(ih p hp).1, List.mem_cons_of_mem _ (ih p hp).2⟩
  obtain ⟨h1, h2⟩ := hz _ p hp
  obtain ⟨x, y⟩ := p
  simp only at h1 h2 ⊢
  subst h1
  exact sameBits_self n (h x h2)

/-! ### A key is looked for -/

theorem findAsking_run {P : Program} {k : TypeId} {kv : Value} {κ ν : Type} (q : κ → Bool) : ∀ (es : List MapEntry) (xs : List (κ × ν)) (n : Nat), es.length = xs.length →
    (∀ i (h : i < xs.length) m, es[i]? = some m → (Op.equal k kv m.key).run P w = .ok (q xs[i].1) w) →
    (Instr.findAsking k kv es n).run P w = .ok ((xs.findIdx? fun p => q p.1).bind fun j => (es[j]?).map fun m => (n + j, m.val)) w
  | [], [], n, _, _ => by simp [Instr.findAsking]
  | [], _ :: _, n, h, _ => by cases h
  | _ :: _, [], n, h, _ => by cases h
  | m :: es, p :: xs, n, hl, h => by
    have h0 := h 0 (by simp) m rfl
    have ih := findAsking_run q es xs (n + 1) (by simpa using hl) (fun i hi m' hm => by
      have := h (i + 1) (by simpa using hi) m' hm
      simpa using this)
    unfold Instr.findAsking
    rw [List.findIdx?_cons]
    simp only [List.getElem_cons_zero] at h0
    cases hq : q p.1 with
    | true =>
      rw [hq] at h0
      simp [h0]
    | false =>
      rw [hq] at h0
      simp only [Sem.run_bind, h0, Result.andThen_ok, Bool.false_eq_true, if_false, ih]
      cases hx : xs.findIdx? (fun p => q p.1) with
      | none => rfl
      | some j =>
        simp only [Option.bind_some, Option.map_some, List.getElem?_cons_succ]
        cases es[j]? with
        | none => rfl
        | some m' => simp only [Option.map_some]; rw [show n + 1 + j = n + (j + 1) by omega]

theorem findNow_run {kd : IntKind} {a : Int} {k0 : IntKind} {κ ν : Type} (q : κ → Bool) : ∀ (es : List MapEntry) (xs : List (κ × ν)) (n : Nat), es.length = xs.length →
    (∀ i (h : i < xs.length) m, es[i]? = some m → ∃ b, m.key = .int k0 b ∧ (a == b) = q xs[i].1) →
    Instr.findNow (.int kd) (.int k0 a) es n = some ((xs.findIdx? fun p => q p.1).bind fun j => (es[j]?).map fun m => (n + j, m.val))
  | [], [], n, _, _ => by simp [Instr.findNow]
  | [], _ :: _, n, h, _ => by cases h
  | _ :: _, [], n, h, _ => by cases h
  | m :: es, p :: xs, n, hl, h => by
    obtain ⟨b, h0, h1⟩ := h 0 (by simp) m rfl
    have ih := findNow_run (kd := kd) (a := a) (k0 := k0) q es xs (n + 1) (by simpa using hl) (fun i hi m' hm => by
      have := h (i + 1) (by simpa using hi) m' hm
      simpa using this)
    unfold Instr.findNow
    rw [List.findIdx?_cons]
    simp only [List.getElem_cons_zero] at h1
    simp only [h0, Instr.sameNow, if_true, h1]
    cases hq : q p.1 with
    | true => simp
    | false =>
      simp only [ih, Bool.false_eq_true, if_false]
      cases hx : xs.findIdx? (fun p => q p.1) with
      | none => rfl
      | some j =>
        simp only [Option.bind_some, Option.map_some, List.getElem?_cons_succ]
        cases es[j]? with
        | none => rfl
        | some m' => simp only [Option.map_some]; rw [show n + 1 + j = n + (j + 1) by omega]

/-- What a key type's operations give. -/
structure KeyRun (C : Cfg) (c : Ctx) (w : World) {k : TypeId} {ν : Type} (key : C.E k) (kv : Value) (es : Array MapEntry) (xs : List (C.E k × ν)) : Prop where
  check : ∀ em, (Instr.checkKey em 10000 k kv).run C.P w = .ok () w
  find : (Instr.findKey k kv es.toList).run C.P w = .ok ((xs.findIdx? fun p => keyB C k key p.1).bind fun j => (es.toList[j]?).map fun m => (j, m.val)) w
  stays : ∀ i (h : i < xs.length) m, es[i]? = some m → keyB C k key xs[i].1 = true → (Instr.keyThatStays m.key kv).run C.P w = .ok kv w

theorem mkV_int {k : IntKind} {cs : List (AV C.E)} : ∀ {x : AV C.E}, cs = [x] → mkV (.int k) cs = x := by
  rintro x rfl
  rfl

theorem key_run (hC : CfgOK C) (hE : ∀ t ti, C.T t = some ti → ti.eqf = true → EqOK C t ti) {k : TypeId} {ν : Type} {tk : TI C.E} (hk : C.T k = some tk) (hkt : keyT C k = true) {key : C.E k} {kv : Value} (hkk : kinds tk.zero (C.enc k key) = true)
    (hkr : R C c w (mkV tk.d (C.enc k key)) kv) (es : Array MapEntry) (xs : List (C.E k × ν)) (hl : es.size = xs.length) (hr : ∀ (i : Nat) (h : i < xs.length) (m : MapEntry), es[i]? = some m → R C c w (mkV tk.d (C.enc k xs[i].1)) m.key)
    (hkd : ∀ p ∈ xs, kindsT C k (C.enc k p.1) = true) : KeyRun C c w key kv es xs := by
  have hT := hC.T _ _ hk
  obtain ⟨i, d, zz, hi, hu, hs, _, htd, _⟩ := hT.ex
  have hkd' : ∀ p ∈ xs, kinds tk.zero (C.enc k p.1) = true := fun p hp => by
    have := hkd p hp
    unfold kindsT at this
    rwa [hk] at this
  have hkb : ∀ b : C.E k, kinds tk.zero (C.enc k b) = true → ∃ t, eqCells tk.zero (C.enc k key) (C.enc k b) = some t ∧ keyB C k key b = t := fun b hb => by
    obtain ⟨t, ht⟩ := kinds_eq _ _ _ hkk hb
    refine ⟨t, ht, ?_⟩
    unfold keyB
    rw [hk]
    simp only [ht]
  have hsz : ∀ b : C.E k, (C.enc k b).length = tk.size := fun b => by
    have := hC.enc k b
    unfold sizeT at this
    rw [hk] at this
    exact this
  have hzl : tk.zero.length = tk.size := by
    obtain ⟨_, _, _, _, _, _, _, _, _, h1, h2, _⟩ := hT.ex
    omega
  have hll : es.toList.length = xs.length := by simpa using hl
  unfold keyT at hkt
  rw [hk] at hkt
  split at hkt
  · -- a number
    rename_i td kd x1 x2 x3 k0 z0 heq
    cases heq
    simp only [TDOK] at htd
    subst htd
    have one : ∀ (b : C.E k) (v : Value), kinds [.int k0 z0] (C.enc k b) = true → R C c w (mkV (.int kd) (C.enc k b)) v → ∃ n, C.enc k b = [.int k0 n] ∧ v = .int k0 n := by
      intro b v hb hv
      generalize C.enc k b = l at hb hv
      match l, hb, hv with
      | [.int k1 n], hb, hv =>
        simp [kinds] at hb
        subst hb
        rw [mkV_int rfl] at hv
        cases hv
        exact ⟨n, rfl, rfl⟩
      | .int k1 n :: y :: r, hb, hv => simp [kinds] at hb
    obtain ⟨a, ha, rfl⟩ := one key kv hkk hkr
    have same : ∀ i (h : i < xs.length) m, es[i]? = some m → ∃ b, m.key = .int k0 b ∧ (a == b) = keyB C k key xs[i].1 := by
      intro i hi m hm
      obtain ⟨b, hb, hmk⟩ := one xs[i].1 m.key (hkd' _ (List.getElem_mem hi)) (hr i hi m hm)
      refine ⟨b, hmk, ?_⟩
      obtain ⟨t, ht, htb⟩ := hkb _ (hkd' _ (List.getElem_mem hi))
      rw [htb]
      rw [ha, hb] at ht
      simp only [eqCells, decide_true, Bool.and_self, Option.some.injEq] at ht
      rw [← ht]
      cases (a == b) <;> rfl
    refine ⟨fun em => ?_, ?_, fun i hi m hm ht => ?_⟩
    · show (Instr.checkKey em (9999 + 1) k (.int k0 a)).run C.P w = _
      unfold Instr.checkKey
      simp [run_underlying hu]
    · have := findNow_run (kd := kd) (a := a) (k0 := k0) (q := fun b => keyB C k key b) es.toList xs 0 hll (fun i hi m hm => same i hi m (by rw [← Array.getElem?_toList]; exact hm))
      unfold Instr.findKey
      simp only [Sem.run_bind, run_underlying hu, Result.andThen_ok, this]
      simp
    · obtain ⟨b, hb, hq⟩ := same i hi m hm
      rw [ht] at hq
      have hab : a = b := by simpa using hq
      subst hab
      unfold Instr.keyThatStays
      rw [hb, sameBits_self _ (.inl ⟨_, _, rfl⟩)]
      rfl
  · -- a struct
    rename_i td fs eqf x1 x2 x3 heq
    cases heq
    obtain ⟨F, rfl, _⟩ := htd
    have hQ := hE _ _ hk hkt
    have agg : ∀ (b : C.E k) (v : Value), R C c w (mkV (.struct fs) (C.enc k b)) v → ∃ vs, v = .agg vs ∧ R C c w (.agg (C.enc k b)) (.agg vs) := by
      intro b v hv
      have hv' : R C c w (.agg (C.enc k b)) v := hv
      cases hv' with
      | agg h1 h2 => exact ⟨_, rfl, .agg h1 h2⟩
    obtain ⟨vs, rfl, hvr⟩ := agg key kv hkr
    have eqr : ∀ i (h : i < xs.length) m, es[i]? = some m → (Op.equal k (.agg vs) m.key).run C.P w = .ok (keyB C k key xs[i].1) w := by
      intro i hi m hm
      obtain ⟨us, hmk, hur⟩ := agg _ _ (hr i hi m hm)
      obtain ⟨t, ht, htb⟩ := hkb _ (hkd' _ (List.getElem_mem hi))
      rw [hmk, htb]
      exact (hQ w default default _ _ _ _ _ c c ht (hsz _) (hsz _) hvr hur).2.2.1
    refine ⟨fun em => ?_, ?_, fun i hi m hm ht => ?_⟩
    · obtain ⟨t, ht, htb⟩ := hkb _ hkk
      exact (hQ w default default _ _ _ _ _ c c ht (hsz _) (hsz _) hvr hvr).2.2.2 em
    · have h2 := findAsking_run (P := C.P) (w := w) (k := k) (kv := .agg vs) (q := fun b => keyB C k key b) es.toList xs 0 hll (fun i hi m hm => eqr i hi m (by rw [← Array.getElem?_toList]; exact hm))
      unfold Instr.findKey
      simp only [Sem.run_bind, run_underlying hu, Result.andThen_ok]
      cases hes : es.toList with
      | nil =>
        have : xs = [] := by
          rw [hes] at hll
          exact List.length_eq_zero_iff.1 hll.symm
        subst this
        simp [Instr.findNow]
      | cons m r =>
        have hi0 : 0 < xs.length := by rw [← hll, hes]; simp
        have hm0 : es[0]? = some m := by rw [← Array.getElem?_toList, hes]; rfl
        obtain ⟨us, hmk, _⟩ := agg _ _ (hr 0 hi0 m hm0)
        rw [hes] at h2
        have hn : Instr.findNow (.struct F) (.agg vs) (m :: r) 0 = none := by
          unfold Instr.findNow
          simp [Instr.sameNow]
        simp only [hn, h2, Nat.zero_add]
    · obtain ⟨us, hmk, hur⟩ := agg _ _ (hr i hi m hm)
      obtain ⟨t, ht2, htb⟩ := hkb _ (hkd' _ (List.getElem_mem hi))
      rw [ht] at htb
      subst htb
      obtain ⟨hll, hvv⟩ := eqCells_vals (c := c) (w := w) _ _ _ ht2
      have hv : vs = us ∧ ∀ v ∈ us.toList, (∃ k a, v = .int k a) ∨ ∃ t, v = .bool t := by
        cases hvr with
        | agg l1 r1 =>
          cases hur with
          | agg l2 r2 =>
            have each : ∀ j (h : j < us.size), vs.getD j undef = us.getD j undef ∧ ((∃ k n, vs.getD j undef = .int k n) ∨ ∃ t, vs.getD j undef = .bool t) := fun j hj => hvv j (by omega) (by omega) _ _ (r1 j (by omega)) (r2 j (by omega))
            refine ⟨Array.ext (by omega) fun j h1 h2 => ?_, fun v hv => ?_⟩
            · have := (each j h2).1
              simpa [Array.getD, h1, h2] using this
            · obtain ⟨j, hj, rfl⟩ := List.getElem_of_mem hv
              have hj' : j < us.size := by simpa using hj
              have := each j hj'
              rw [this.1] at this
              simpa [Array.getD, hj'] using this.2
      obtain ⟨rfl, hv2⟩ := hv
      rw [hmk]
      have hsb : Instr.sameBits 10000 (.agg vs) (.agg vs) = true := sameBits_agg 9999 hv2
      unfold Instr.keyThatStays
      rw [hsb]
      rfl
  · cases hkt

/-! ### The operations -/

theorem put_map {h : Heap C.E} (hh : HR C c w h) {id b : Nat} {o o' : Ob C.E} (ho : h[id]? = some (some o)) (hs : c.σ id = some ⟨b, 0, 0⟩) {es es' : Array MapEntry} {n n' : Nat}
    (hb : w.heap[b]? = some (.map es n)) (ho' : ObR C c (setBlock w b (.map es' n')) id o') (hso : (∃ es n, (setBlock w b (.map es' n')).heap[b]? = some (Obj.map es n)) → SoftO (setBlock w b (.map es' n')) b o') :
    HR C c (setBlock w b (.map es' n')) (h.set id (some o')) ∧ Le c h w c (h.set id (some o')) (setBlock w b (.map es' n')) := by
  have hg' : (setBlock w b (.map es' n')).heap[b]? = some (.map es' n') := heap_setBlock_same hb _
  have hoth : ∀ k, k ≠ b → (setBlock w b (.map es' n')).heap[k]? = w.heap[k]? := fun k hk => heap_setBlock_other hb _ hk
  have hnI := (hh.soft id _ _ ho hs).2
  have hsize : (setBlock w b (.map es' n')).heap.size = w.heap.size := by simp [setBlock]
  have hshape : ∀ (k : Nat) (cs : Array Value) (e : TypeId) (fr : Nat × Nat), w.heap[k]? = some (.cells cs e fr) → ∃ cs' fr', (setBlock w b (.map es' n')).heap[k]? = some (.cells cs' e fr') ∧ cs'.size = cs.size := by
    intro k cs e2 fr2 hk
    by_cases hkb : k = b
    · subst hkb
      rw [hb] at hk
      cases hk
    · exact ⟨cs, fr2, (hoth k hkb).trans hk, rfl⟩
  have hkeep : Keeps c w c (setBlock w b (.map es' n')) := ⟨Nat.le_refl _, fun _ _ _ h => h, fun _ h => h, fun _ h => h, fun k hk => hoth k (fun e => hnI (e ▸ hk)), hshape⟩
  have hlt := lt_of_getElem? ho
  have hget : ∀ (i : Nat) (oi : Ob C.E), (h.set id (some o'))[i]? = some (some oi) → (i = id ∧ oi = o') ∨ (i ≠ id ∧ h[i]? = some (some oi)) := by
    intro i oi hi
    by_cases he : i = id
    · subst he
      rw [List.getElem?_set_self hlt] at hi
      cases hi
      exact .inl ⟨rfl, rfl⟩
    · rw [List.getElem?_set_ne (fun e => he e.symm)] at hi
      exact .inr ⟨he, hi⟩
  have hlive : ∀ (i : Nat) (oi : Ob C.E), (h.set id (some o'))[i]? = some (some oi) → ∃ oi' : Ob C.E, h[i]? = some (some oi') := by
    intro i oi hi
    rcases hget i oi hi with ⟨rfl, _⟩ | ⟨_, h2⟩
    · exact ⟨_, ho⟩
    · exact ⟨oi, h2⟩
  refine ⟨⟨hh.gl.keep hkeep, by simp [hh.len], hh.sn, fun k hk => by rw [hsize]; exact hh.bnd k hk, hh.hI, ?_, ?_, ?_⟩, ?_⟩
  · intro i oi hi
    rcases hget i oi hi with ⟨rfl, rfl⟩ | ⟨hne, h2⟩
    · exact ho'
    · refine ObR_keep hkeep (hh.ob i oi h2) (by have := lt_of_getElem? h2; have := hh.len; omega) (fun h => h) (fun li hli => hoth _ fun e => ?_)
      exact hne (hh.inj i id oi _ li _ h2 ho hli hs e)
  · intro i oi li hi hsi
    rcases hget i oi hi with ⟨rfl, rfl⟩ | ⟨hne, h2⟩
    · rw [hs] at hsi
      cases hsi
      exact ⟨hso ⟨_, _, hg'⟩, hnI⟩
    · obtain ⟨h3, h5⟩ := hh.soft i oi li h2 hsi
      have hb' : li.blk ≠ b := fun hb' => hne (hh.inj i id oi _ li _ h2 ho hsi hs hb')
      exact ⟨h3.same (hoth _ hb'), h5⟩
  · intro i j oi oj li lj hi hj hsi hsj hbb
    obtain ⟨oi', h2⟩ := hlive i oi hi
    obtain ⟨oj', h3⟩ := hlive j oj hj
    exact hh.inj i j oi' oj' li lj h2 h3 hsi hsj hbb
  · refine ⟨Nat.le_refl _, fun _ _ _ h => h, fun _ h => h, fun _ h => h, fun _ _ h => .inl h, fun _ _ h => .inl h, ?_, by rw [hsize]; exact Nat.le_refl _, rfl, rfl, rfl, fun k _ hk => hoth k (fun e => hk ⟨id, _, _, ho, hs, e.symm⟩), hshape⟩
    rintro k _ ⟨i, oi, li, hi, hsi, rfl⟩
    obtain ⟨oi', h2⟩ := hlive i oi hi
    exact ⟨i, oi', li, h2, hsi, rfl⟩

theorem makeMapK_ok {Z : Type} {t nid : Nat} {K : Eff C.E → Option Z} {z : Z} {h : Heap C.E} (hk : makeMapK C t nid K = some z) (hh : HR C c w h) (hf : Fresh c h nid) :
    ∃ v e c' w', (Instr.makeMap t none).run C.P w = .ok v w' ∧ K e = some z ∧ After C c w h c' w' e v := by
  unfold makeMapK at hk
  split at hk
  · rename_i k e eqf size bytes zero hT
    split at hk
    · rename_i tk te hTk hTe
      have hm := More.alloc w (.map #[] 0)
      have hsn : (newC c nid (some ⟨w.heap.size, 0, 0⟩)).σ nid = some ⟨w.heap.size, 0, 0⟩ := if_pos rfl
      have hnew : (w.alloc (.map #[] 0)).heap[w.heap.size]? = some (.map #[] 0) := heap_alloc_new w _
      split at hk
      · have := new_obj hh hf (o := .mapv k e []) (some ⟨w.heap.size, 0, 0⟩) hm (fun loc hl => by cases hl; exact ⟨Nat.le_refl _, _, _, hnew⟩)
          (.mapv hsn hTk #[] hnew rfl (fun i m hi => by simp at hi) (fun i hi => absurd hi (Nat.not_lt_zero i)) (fun i hi => absurd hi (Nat.not_lt_zero i)) (fun p hp => by cases hp))
        exact ⟨_, _, _, _, rfl, hk, ⟨.mp hsn (show nid < max c.n (nid + 1) by omega), this.1, this.2, fun id hi => by obtain rfl := new_sig hi; exact List.mem_singleton.2 rfl⟩⟩
      have := new_obj hh hf (o := .map k e []) (some ⟨w.heap.size, 0, 0⟩) hm (fun loc hl => by cases hl; exact ⟨Nat.le_refl _, _, _, hnew⟩)
        (.map hsn hTk hTe #[] hnew rfl (fun i m hi => by simp at hi) (fun i hi => absurd hi (Nat.not_lt_zero i)) (fun i hi => absurd hi (Nat.not_lt_zero i)) (fun p hp => by cases hp))
      exact ⟨_, _, _, _, rfl, hk, ⟨.mp hsn (show nid < max c.n (nid + 1) by omega), this.1, this.2, fun id hi => by obtain rfl := new_sig hi; exact List.mem_singleton.2 rfl⟩⟩
    · cases hk
  · cases hk

theorem zero_V (hC : CfgOK C) {e : TypeId} {te : TI C.E} (hT : C.T e = some te) : ∃ zv, (∀ w, (zeroValue e).run C.P w = .ok zv w) ∧ ∀ c w, R C c w (mkV te.d te.zero) zv := by
  obtain ⟨i, d, zv, hi, hu, hs, _, htd, hz, hzl, hzs, hzr, _, hag, hna⟩ := (hC.T _ _ hT).ex
  refine ⟨zv, fun w => run_zeroValue' hi hz w, fun c w => ?_⟩
  unfold mkV
  cases hd : te.d.isAgg with
  | true =>
    obtain ⟨a, rfl⟩ := hag hd
    exact .agg hzl (fun j hj => hzr c w j hj)
  | false =>
    have h1 := (hC.T _ _ hT).one hd
    have hl1 : te.zero.length = 1 := by omega
    match hm : te.zero, hl1 with
    | [x], _ =>
      have hr := hzr c w 0 (by omega)
      simp only [hm, List.getElem_cons_zero] at hr
      have hc : zv.cells = #[zv] := by
        cases zv <;> first | rfl | exact (hna hd _ rfl).elim
      rw [hc] at hr
      exact hr

theorem zeroE_ok (hC : CfgOK C) {Z : Type} {e : TypeId} {te : TI C.E} {K : C.E e → Option Z} {z : Z} (hT : C.T e = some te) (h : zeroE C e K = some z) :
    ∃ y zv, K y = some z ∧ (∀ w, (zeroValue e).run C.P w = .ok zv w) ∧ ∀ c w, R C c w (mkV te.d (C.enc e y)) zv := by
  obtain ⟨zv, hz1, hz2⟩ := zero_V hC hT
  unfold zeroE at h
  rw [hT] at h
  split at h
  · rename_i td e' eqf size bytes heq
    cases heq
    obtain ⟨y, hy, hk⟩ := Option.bind_eq_some_iff.1 h
    refine ⟨y, zv, hk, hz1, fun c w => ?_⟩
    rw [hC.dec _ _ _ hy]
    have := hz2 c w
    have h1 : R C c w .nils zv := this
    show R C c w (.him e' []) zv
    cases h1
    exact .him0 (by simp [maxLen]) (fun _ => rfl)
  · rename_i ti _ heq
    cases heq
    obtain ⟨y, hy, hk⟩ := Option.bind_eq_some_iff.1 h
    refine ⟨y, zv, hk, hz1, fun c w => ?_⟩
    rw [hC.dec _ _ _ hy]
    exact hz2 c w
  · rename_i heq
    cases heq

theorem mkV_like {x : AV C.E} {td : TD} (h : likeT td x = true) : mkV td x.cells = x := by
  unfold likeT at h
  unfold mkV
  split at h
  · rw [h]; rfl
  · cases h
  · have : td.isAgg = false := by simpa using h
    rw [this]
    cases x <;> first | rfl | (rename_i h1 _; exact (h1 _ rfl).elim) | (rename_i h1; exact (h1 _ rfl).elim)

theorem keyK_ok (hC : CfgOK C) {Z : Type} {k : TypeId} {x : AV C.E} {K : C.E k → Option Z} {z : Z} (h : keyK C k x K = some z) :
    ∃ tk key, C.T k = some tk ∧ keyT C k = true ∧ kinds tk.zero (C.enc k key) = true ∧ mkV tk.d (C.enc k key) = x ∧ K key = some z := by
  unfold keyK at h
  split at h
  · rename_i tk hk
    split at h
    · rename_i hb
      simp only [Bool.and_eq_true] at hb
      obtain ⟨key, hkey, hK⟩ := Option.bind_eq_some_iff.1 h
      have he := hC.dec _ _ _ hkey
      exact ⟨tk, key, hk, hb.1, by rw [he]; exact hb.2.1, by rw [he]; exact mkV_like hb.2.2, hK⟩
    · cases h
  · cases h
theorem valK_ok (hC : CfgOK C) {Z : Type} {e : TypeId} {x : AV C.E} {K : C.E e → Option Z} {z : Z} (h : valK C e x K = some z) :
    ∃ te y, C.T e = some te ∧ mkV te.d (C.enc e y) = x ∧ K y = some z := by
  unfold valK at h
  split at h
  · rename_i te he
    split at h
    · rename_i hb
      obtain ⟨y, hy, hK⟩ := Option.bind_eq_some_iff.1 h
      have hd := hC.dec _ _ _ hy
      exact ⟨te, y, he, by rw [hd]; exact mkV_like hb, hK⟩
    · cases h
  · cases h

theorem under_map (hC : CfgOK C) {t k e : TypeId} {ti : TI C.E} (h : C.T t = some ti) (hd : ti.d = .map k e) : C.P.underlying t = some (.map k e) := by
  obtain ⟨i, d, z, hi, hu, hs, _, htd, _⟩ := (hC.T _ _ h).ex
  rw [hd] at htd
  simp only [TDOK] at htd
  rw [hu, htd]

theorem lookupK_ok (hC : CfgOK C) (hE : ∀ t ti, C.T t = some ti → ti.eqf = true → EqOK C t ti) {Z : Type} {t : TypeId} {m x : AV C.E} {ok : Bool} {vm vx : Value} {K : Eff C.E → Option Z} {z : Z} {h : Heap C.E} (hk : lookupK C t m x ok (lookH h) K = some z) (hh : HR C c w h)
    (hm : R C c w m vm) (hx : R C c w x vx) : ∃ v e, (Instr.lookup t vm vx ok).run C.P w = .ok v w ∧ K e = some z ∧ R C c w e.v v ∧ e.wr = [] := by
  unfold lookupK at hk
  split at hk
  · rename_i k e eqf size bytes zero id hT
    have hu := under_map hC hT rfl
    split at hk
    · rename_i k' e' xs te hl hTe
      split at hk
      · rename_i hkk hee _ _
        subst hkk
        subst hee
        obtain ⟨tk, key, hTk, hkt, hkd, hkx, hk⟩ := keyK_ok hC hk
        obtain ⟨y, zv, hk, hz1, hz2⟩ := zeroE_ok hC hTe hk
        cases hm with
        | mp hs hn =>
          rename_i loc
          cases hh.ob _ _ (lookH_some hl) with
          | map hs' hTk' hTe' es hb hle hborn hkey hval hkds =>
            rename_i b tk' te'
            rw [hs'] at hs
            cases hs
            rw [hTk] at hTk'
            cases hTk'
            rw [hTe] at hTe'
            cases hTe'
            have hkr := hx
            rw [← hkx] at hkr
            have KR := key_run hC hE hTk hkt hkd hkr es xs hle hkey hkds
            rw [mget_find] at hk
            cases hfi : xs.findIdx? (fun p => keyB C k' key p.1) with
            | none =>
              have hfind : (Instr.findKey k' vx es.toList).run C.P w = .ok none w := by rw [KR.find, hfi]; rfl
              rw [hfi] at hk
              have hz := hz2 c w
              cases ok with
              | false => exact ⟨zv, _, by simp [Instr.lookup, run_underlying hu, MapKept.run_getObj_map hb, KR.check, hfind, hz1], hk, hz, rfl⟩
              | true => exact ⟨.tuple #[zv, .bool false], _, by simp [Instr.lookup, run_underlying hu, MapKept.run_getObj_map hb, KR.check, hfind, hz1], hk, .tup rfl (fun j hj => by
                  match j, hj with
                  | 0, _ => exact hz
                  | 1, _ => exact .bool _), rfl⟩
            | some j =>
              obtain ⟨hj, _, _⟩ := List.findIdx?_eq_some_iff_getElem.1 hfi
              have hj' : j < es.size := by omega
              have hm : es[j]? = some es[j] := Array.getElem?_eq_getElem hj'
              have hfind : (Instr.findKey k' vx es.toList).run C.P w = .ok (some (j, es[j].val)) w := by
                rw [KR.find, hfi]
                simp [hj']
              have hv := hval j hj _ hm
              rw [hfi] at hk
              simp only [Option.bind_some, List.getElem?_eq_getElem hj, Option.map_some] at hk
              cases ok with
              | false => exact ⟨es[j].val, _, by simp [Instr.lookup, run_underlying hu, MapKept.run_getObj_map hb, KR.check, hfind], hk, hv, rfl⟩
              | true => exact ⟨.tuple #[es[j].val, .bool true], _, by simp [Instr.lookup, run_underlying hu, MapKept.run_getObj_map hb, KR.check, hfind], hk, .tup rfl (fun i hi => by
                  match i, hi with
                  | 0, _ => exact hv
                  | 1, _ => exact .bool _), rfl⟩
      · cases hk
    · rename_i k' e' xs te hl hTe
      split at hk
      · rename_i hkk hee _ _
        subst hkk
        subst hee
        obtain ⟨tk, key, hTk, hkt, hkd, hkx, hk⟩ := keyK_ok hC hk
        obtain ⟨zv, hz1, hz2⟩ := zero_V hC hTe
        cases hm with
        | mp hs hn =>
          rename_i loc
          cases hh.ob _ _ (lookH_some hl) with
          | mapv hs' hTk' es hb hle hborn hkey hval hkds =>
            rename_i b tk'
            rw [hs'] at hs
            cases hs
            rw [hTk] at hTk'
            cases hTk'
            have hkr := hx
            rw [← hkx] at hkr
            have KR := key_run hC hE hTk hkt hkd hkr es xs hle hkey hkds
            rw [mget_find] at hk
            cases hfi : xs.findIdx? (fun p => keyB C k' key p.1) with
            | none =>
              have hfind : (Instr.findKey k' vx es.toList).run C.P w = .ok none w := by rw [KR.find, hfi]; rfl
              rw [hfi] at hk
              have hz := hz2 c w
              cases ok with
              | false => exact ⟨zv, _, by simp [Instr.lookup, run_underlying hu, MapKept.run_getObj_map hb, KR.check, hfind, hz1], hk, hz, rfl⟩
              | true => exact ⟨.tuple #[zv, .bool false], _, by simp [Instr.lookup, run_underlying hu, MapKept.run_getObj_map hb, KR.check, hfind, hz1], hk, .tup rfl (fun j hj => by
                  match j, hj with
                  | 0, _ => exact hz
                  | 1, _ => exact .bool _), rfl⟩
            | some j =>
              obtain ⟨hj, _, _⟩ := List.findIdx?_eq_some_iff_getElem.1 hfi
              have hj' : j < es.size := by omega
              have hm : es[j]? = some es[j] := Array.getElem?_eq_getElem hj'
              have hfind : (Instr.findKey k' vx es.toList).run C.P w = .ok (some (j, es[j].val)) w := by
                rw [KR.find, hfi]
                simp [hj']
              have hv := hval j hj _ hm
              rw [hfi] at hk
              simp only [Option.bind_some, List.getElem?_eq_getElem hj, Option.map_some] at hk
              cases ok with
              | false => exact ⟨es[j].val, _, by simp [Instr.lookup, run_underlying hu, MapKept.run_getObj_map hb, KR.check, hfind], hk, hv, rfl⟩
              | true => exact ⟨.tuple #[es[j].val, .bool true], _, by simp [Instr.lookup, run_underlying hu, MapKept.run_getObj_map hb, KR.check, hfind], hk, .tup rfl (fun i hi => by
                  match i, hi with
                  | 0, _ => exact hv
                  | 1, _ => exact .bool _), rfl⟩
      · cases hk
    · cases hk
  · cases hk

theorem modify_get {α : Type} {l : Array α} {j : Nat} {f : α → α} {i : Nat} {m : α} (h : (l.modify j f)[i]? = some m) : (i = j ∧ ∃ a, l[j]? = some a ∧ m = f a) ∨ (i ≠ j ∧ l[i]? = some m) := by
  rw [Array.getElem?_modify] at h
  by_cases e : j = i
  · subst e
    rw [if_pos rfl] at h
    cases hl : l[j]? with
    | none => rw [hl] at h; cases h
    | some a => rw [hl] at h; cases h; exact .inl ⟨rfl, a, rfl, rfl⟩
  · rw [if_neg e] at h
    exact .inr ⟨fun h => e h.symm, h⟩

theorem updateK_ok (hC : CfgOK C) (hE : ∀ t ti, C.T t = some ti → ti.eqf = true → EqOK C t ti) {Z : Type} {t : TypeId} {m x v : AV C.E} {vm vx vv : Value} {K : Eff C.E → Option Z} {z : Z} {h : Heap C.E} (hk : updateK C t m x v (lookH h) K = some z) (hh : HR C c w h)
    (hm : R C c w m vm) (hx : R C c w x vx) (hv : R C c w v vv) : ∃ e c' w', (Instr.mapUpdate t vm vx vv).run C.P w = .ok () w' ∧ K e = some z ∧ After C c w h c' w' e undef := by
  unfold updateK at hk
  split at hk
  · rename_i k e eqf size bytes zero id hT
    have hu := under_map hC hT rfl
    split at hk
    · rename_i k' e' xs hl
      split at hk
      · rename_i hkk hee _ _
        subst hkk
        subst hee
        obtain ⟨tk, key, hTk, hkt, hkd, hkx, hk⟩ := keyK_ok hC hk
        obtain ⟨te, y, hTe, hyv, hk⟩ := valK_ok hC hk
        cases hm with
        | mp hs hn =>
          rename_i loc
          have ho := lookH_some hl
          cases hh.ob _ _ ho with
          | map hs' hTk' hTe' es hb hle hborn hkey hval hkds =>
            rename_i b tk' te'
            have hs0 := hs'
            rw [hs'] at hs
            cases hs
            rw [hTk] at hTk'
            cases hTk'
            rw [hTe] at hTe'
            cases hTe'
            have hkr := hx
            rw [← hkx] at hkr
            have hvr := hv
            rw [← hyv] at hvr
            have KR := key_run hC hE hTk hkt hkd hkr es xs hle hkey hkds
            have hkdk : kindsT C k' (C.enc k' key) = true := by unfold kindsT; rw [hTk]; exact hkd
            -- all in a world whose block b is written
            have fin : ∀ (es' : Array MapEntry) (xs' : List (C.E k' × C.E e')), (Instr.mapUpdate t (.map (some b)) vx vv).run C.P w = .ok () (setBlock w b (.map es' xs'.length)) → mput (keyB C k') xs key y = xs' → es'.size = xs'.length →
                (∀ (i : Nat) (m : MapEntry), es'[i]? = some m → m.born = i) → (∀ (i : Nat) (h : i < xs'.length) (m : MapEntry), es'[i]? = some m → R C c w (mkV tk.d (C.enc k' xs'[i].1)) m.key ∧ R C c w (mkV te.d (C.enc e' xs'[i].2)) m.val) →
                (∀ p ∈ xs', kindsT C k' (C.enc k' p.1) = true) → ∃ e c' w', (Instr.mapUpdate t (.map (some b)) vx vv).run C.P w = .ok () w' ∧ K e = some z ∧ After C c w h c' w' e undef := by
              intro es' xs' hrun hxs hle' hborn' hkv' hkds'
              subst hxs
              have hnI := (hh.soft _ _ _ ho hs0).2
              have hoth : ∀ k, k ≠ b → (setBlock w b (.map es' (mput (keyB C k') xs key y).length)).heap[k]? = w.heap[k]? := fun k hk => heap_setBlock_other hb _ hk
              have hkeep : Keeps c w c (setBlock w b (.map es' (mput (keyB C k') xs key y).length)) := ⟨Nat.le_refl _, fun _ _ _ h => h, fun _ h => h, fun _ h => h, fun k hk => hoth k (fun e => hnI (e ▸ hk)), fun k cs e2 fr2 hk => by
                by_cases hkb : k = b
                · subst hkb
                  rw [hb] at hk
                  cases hk
                · exact ⟨cs, fr2, (hoth k hkb).trans hk, rfl⟩⟩
              obtain ⟨p1, p2⟩ := put_map (o' := .map k' e' (mput (keyB C k') xs key y)) hh ho hs0 hb (es' := es') (n' := (mput (keyB C k') xs key y).length)
                (.map hs0 hTk hTe es' (heap_setBlock_same hb _) hle' hborn' (fun i hi m hm => ((hkv' i hi m hm).1).keep hkeep) (fun i hi m hm => ((hkv' i hi m hm).2).keep hkeep) hkds') (fun h => h)
              have hbl : Nat.blt id h.length = true := Nat.ble_eq_true_of_le (lt_of_getElem? ho)
              refine ⟨_, c, _, hrun, hk, ⟨.undef, ?_, ?_, fun id hi => (hi rfl).elim⟩⟩
              · simp only [wrH, hbl]; exact p1
              · simp only [wrH, hbl]; exact p2
            cases hfi : xs.findIdx? (fun p => keyB C k' key p.1) with
            | none =>
              have hfind : (Instr.findKey k' vx es.toList).run C.P w = .ok none w := by rw [KR.find, hfi]; rfl
              refine fin (es.push ⟨vx, vv, xs.length⟩) (xs ++ [(key, y)]) ?_ (by rw [mput_find, hfi]) (by simp [hle]) (fun i m hi => ?_) (fun i hi m hm => ?_) (fun p hp => ?_)
              · simp [Instr.mapUpdate, run_underlying hu, MapKept.run_getObj_map hb, KR.check, hfind, MapKept.run_setObj_map _ hb, setBlock]
              · rw [Array.getElem?_push] at hi
                split at hi
                · rename_i he
                  cases hi
                  show xs.length = i
                  omega
                · exact hborn i m hi
              · rw [Array.getElem?_push] at hm
                split at hm
                · rename_i he
                  cases hm
                  have : i = xs.length := by omega
                  subst this
                  simp only [List.getElem_append_right (Nat.le_refl _), Nat.sub_self, List.getElem_singleton]
                  exact ⟨hkr, hvr⟩
                · have hi2 : i < es.size := (Array.getElem?_eq_some_iff.1 hm).1
                  have hi3 : i < xs.length := by omega
                  rw [List.getElem_append_left hi3]
                  exact ⟨hkey i hi3 m hm, hval i hi3 m hm⟩
              · rcases List.mem_append.1 hp with hp | hp
                · exact hkds p hp
                · rw [List.mem_singleton.1 hp]; exact hkdk
            | some j =>
              obtain ⟨hj, hjt, _⟩ := List.findIdx?_eq_some_iff_getElem.1 hfi
              have hj' : j < es.size := by omega
              have hm : es[j]? = some es[j] := Array.getElem?_eq_getElem hj'
              have hfind : (Instr.findKey k' vx es.toList).run C.P w = .ok (some (j, es[j].val)) w := by
                rw [KR.find, hfi]
                simp [hj']
              have hst := KR.stays j hj _ hm hjt
              refine fin (es.modify j fun e => { e with key := vx, val := vv }) (xs.set j (key, y)) ?_ (by rw [mput_find, hfi]) (by simp [hle]) (fun i m hi => ?_) (fun i hi m hm => ?_) (fun p hp => ?_)
              · simp [Instr.mapUpdate, run_underlying hu, MapKept.run_getObj_map hb, KR.check, hfind, hm, hst, MapKept.run_setObj_map _ hb, setBlock]
              · rcases modify_get hi with ⟨rfl, a, ha, rfl⟩ | ⟨_, h2⟩
                · exact hborn i a ha
                · exact hborn i m h2
              · rcases modify_get hm with ⟨rfl, a, ha, rfl⟩ | ⟨hne, h2⟩
                · rw [List.getElem_set_self]
                  exact ⟨hkr, hvr⟩
                · rw [List.getElem_set_ne (fun e => hne e.symm)]
                  have hi3 : i < xs.length := by simpa using hi
                  exact ⟨hkey i hi3 m h2, hval i hi3 m h2⟩
              · rcases List.mem_or_eq_of_mem_set hp with hp | rfl
                · exact hkds p hp
                · exact hkdk
      · cases hk
    · cases hk
  · cases hk

/-! ### Maps whose values are of any kind -/

theorem put_mapv {h : Heap C.E} (hh : HR C c w h) {id b : Nat} {k e : TypeId} {xs xs' : List (C.E k × AV C.E)} (ho : h[id]? = some (some (.mapv k e xs))) (hs0 : c.σ id = some ⟨b, 0, 0⟩) {es es' : Array MapEntry} {n : Nat} {tk : TI C.E} (hTk : C.T k = some tk)
    (hb : w.heap[b]? = some (.map es n)) (hle' : es'.size = xs'.length) (hborn' : ∀ (i : Nat) (m : MapEntry), es'[i]? = some m → m.born = i)
    (hkv' : ∀ (i : Nat) (h : i < xs'.length) (m : MapEntry), es'[i]? = some m → R C c w (mkV tk.d (C.enc k xs'[i].1)) m.key ∧ R C c w xs'[i].2 m.val) (hkds' : ∀ p ∈ xs', kindsT C k (C.enc k p.1) = true) :
    HR C c (setBlock w b (.map es' xs'.length)) (wrH h [(id, some (.mapv k e xs'))]) ∧ Le c h w c (wrH h [(id, some (.mapv k e xs'))]) (setBlock w b (.map es' xs'.length)) ∧ Keeps c w c (setBlock w b (.map es' xs'.length)) := by
  have hnI := (hh.soft _ _ _ ho hs0).2
  have hoth : ∀ k, k ≠ b → (setBlock w b (.map es' xs'.length)).heap[k]? = w.heap[k]? := fun k hk => heap_setBlock_other hb _ hk
  have hkeep : Keeps c w c (setBlock w b (.map es' xs'.length)) := ⟨Nat.le_refl _, fun _ _ _ h => h, fun _ h => h, fun _ h => h, fun k hk => hoth k (fun e => hnI (e ▸ hk)), fun k cs e2 fr2 hk => by
    by_cases hkb : k = b
    · subst hkb
      rw [hb] at hk
      cases hk
    · exact ⟨cs, fr2, (hoth k hkb).trans hk, rfl⟩⟩
  obtain ⟨p1, p2⟩ := put_map (o' := .mapv k e xs') hh ho hs0 hb (es' := es') (n' := xs'.length)
    (.mapv hs0 hTk es' (heap_setBlock_same hb _) hle' hborn' (fun i hi m hm => ((hkv' i hi m hm).1).keep hkeep) (fun i hi m hm => ((hkv' i hi m hm).2).keep hkeep) hkds') (fun h => h)
  have hbl : Nat.blt id h.length = true := Nat.ble_eq_true_of_le (lt_of_getElem? ho)
  simp only [wrH, hbl]
  exact ⟨p1, p2, hkeep⟩

theorem wf_i64 {n : Nat} (h : n ≤ 1000000) : (Lit.int .i64 (n : Int)).wf = true := by
  simp only [Lit.wf, IntKind.min, IntKind.max, IntKind.signed, IntKind.bits]
  simp
  omega

theorem mapEntryK_ok (hC : CfgOK C) (hE : ∀ t ti, C.T t = some ti → ti.eqf = true → EqOK C t ti) {Z : Type} {t : TypeId} {m x : AV C.E} {vm vx : Value} {K : Eff C.E → Option Z} {z : Z} {h : Heap C.E} (hk : mapEntryK C t m x (lookH h) K = some z) (hh : HR C c w h)
    (hm : R C c w m vm) (hx : R C c w x vx) : ∃ v e c' w', (Instr.mapEntry t vm vx).run C.P w = .ok v w' ∧ K e = some z ∧ After C c w h c' w' e v := by
  unfold mapEntryK at hk
  split at hk
  · rename_i k e eqf size bytes zero id hT
    have hu := under_map hC hT rfl
    split at hk
    · rename_i k' e' xs te hl hTe
      split at hk
      · rename_i hkk hee _ _ hbig
        subst hkk
        subst hee
        have hbig := Nat.le_of_ble_eq_true hbig
        obtain ⟨tk, key, hTk, hkt, hkd, hkx, hk⟩ := keyK_ok hC hk
        obtain ⟨zv, hz1, hz2⟩ := zero_V hC hTe
        cases hm with
        | mp hs hn =>
          rename_i loc
          have ho := lookH_some hl
          cases hh.ob _ _ ho with
          | mapv hs' hTk' es hb hle hborn hkey hval hkds =>
            rename_i b tk'
            have hs0 := hs'
            rw [hs'] at hs
            cases hs
            rw [hTk] at hTk'
            cases hTk'
            have hkr := hx
            rw [← hkx] at hkr
            have KR := key_run hC hE hTk hkt hkd hkr es xs hle hkey hkds
            have hkdk : kindsT C k' (C.enc k' key) = true := by unfold kindsT; rw [hTk]; exact hkd
            cases hfi : xs.findIdx? (fun p => keyB C k' key p.1) with
            | none =>
              have hfind : (Instr.findKey k' vx es.toList).run C.P w = .ok none w := by rw [KR.find, hfi]; rfl
              simp only [hfi] at hk
              obtain ⟨p1, p2, p3⟩ := put_mapv (e := e') (xs' := xs ++ [(key, mkV te.d te.zero)]) hh ho hs0 (es' := es.push ⟨vx, zv, xs.length⟩) hTk hb (by simp [hle]) (fun i m hi => by
                  rw [Array.getElem?_push] at hi
                  split at hi
                  · rename_i he
                    cases hi
                    show xs.length = i
                    omega
                  · exact hborn i m hi) (fun i hi m hm => by
                  rw [Array.getElem?_push] at hm
                  split at hm
                  · rename_i he
                    cases hm
                    have : i = xs.length := by omega
                    subst this
                    simp only [List.getElem_append_right (Nat.le_refl _), Nat.sub_self, List.getElem_singleton]
                    exact ⟨hkr, hz2 c w⟩
                  · have hi2 : i < es.size := (Array.getElem?_eq_some_iff.1 hm).1
                    have hi3 : i < xs.length := by omega
                    rw [List.getElem_append_left hi3]
                    exact ⟨hkey i hi3 m hm, hval i hi3 m hm⟩) (fun p hp => by
                  rcases List.mem_append.1 hp with hp | hp
                  · exact hkds p hp
                  · rw [List.mem_singleton.1 hp]; exact hkdk)
              refine ⟨.tuple #[zv, goInt xs.length], _, c, _, ?_, hk, ⟨.tup rfl (fun j hj => ?_), p1, p2, fun id hi => (hi rfl).elim⟩⟩
              · simp [Instr.mapEntry, run_underlying hu, MapKept.run_getObj_map hb, KR.check, hfind, hz1, MapKept.run_setObj_map _ hb, setBlock]
              · match j, hj with
                | 0, _ => exact hz2 _ _
                | 1, _ => exact .int (wf_i64 hbig)
            | some j =>
              obtain ⟨hj, hjt, _⟩ := List.findIdx?_eq_some_iff_getElem.1 hfi
              have hj' : j < es.size := by omega
              have hm : es[j]? = some es[j] := Array.getElem?_eq_getElem hj'
              have hfind : (Instr.findKey k' vx es.toList).run C.P w = .ok (some (j, es[j].val)) w := by
                rw [KR.find, hfi]
                simp [hj']
              have hst := KR.stays j hj _ hm hjt
              simp only [hfi, List.getElem?_eq_getElem hj, Option.map_some, Option.getD_some] at hk
              obtain ⟨p1, p2, p3⟩ := put_mapv (e := e') (xs' := xs.modify j fun p => (key, p.2)) hh ho hs0 (es' := es.modify j fun e => { e with key := vx }) hTk hb (by simp [hle]) (fun i m hi => by
                  rcases modify_get hi with ⟨rfl, a, ha, rfl⟩ | ⟨_, h2⟩
                  · exact hborn i a ha
                  · exact hborn i m h2) (fun i hi m hm => by
                  have hi3 : i < xs.length := by simpa using hi
                  rw [List.getElem_modify]
                  rcases modify_get hm with ⟨rfl, a, ha, rfl⟩ | ⟨hne, h2⟩
                  · rw [if_pos rfl]
                    exact ⟨hkr, hval i hi3 a ha⟩
                  · rw [if_neg (fun e => hne e.symm)]
                    exact ⟨hkey i hi3 m h2, hval i hi3 m h2⟩) (fun p hp => by
                  obtain ⟨i, hi, rfl⟩ := List.getElem_of_mem hp
                  have hi3 : i < xs.length := by simpa using hi
                  rw [List.getElem_modify]
                  split
                  · exact hkdk
                  · exact hkds _ (List.getElem_mem hi3))
              have hbj := hborn j _ hm
              simp only [List.length_modify] at p1 p2 p3
              refine ⟨.tuple #[es[j].val, goInt j], _, c, _, ?_, hk, ⟨.tup rfl (fun i hi => ?_), p1, p2, fun id hi => (hi rfl).elim⟩⟩
              · simp [Instr.mapEntry, run_underlying hu, MapKept.run_getObj_map hb, KR.check, hfind, hm, hst, hbj, MapKept.run_setObj_map _ hb, setBlock]
              · match i, hi with
                | 0, _ => exact (hval j hj _ hm).keep p3
                | 1, _ => exact .int (wf_i64 (by omega))
      · cases hk
    · cases hk
  · cases hk

theorem entryStoreK_ok {Z : Type} {t : TypeId} {m s v : AV C.E} {vm vs vv : Value} {K : Eff C.E → Option Z} {z : Z} {h : Heap C.E} (hk : entryStoreK C m s v (lookH h) K = some z) (hh : HR C c w h)
    (hm : R C c w m vm) (hs : R C c w s vs) (hv : R C c w v vv) : ∃ e c' w', (Instr.entryStore t vm vs vv).run C.P w = .ok () w' ∧ K e = some z ∧ After C c w h c' w' e undef := by
  unfold entryStoreK at hk
  split at hk
  · rename_i id kk jj
    split at hk
    · rename_i k e xs hl
      cases hb0 : (decide (0 ≤ jj) && decide (jj < (xs.length : Int))) with
      | false => rw [hb0] at hk; cases hk
      | true =>
        rw [hb0] at hk
        obtain ⟨h0, h1⟩ := and_split hb0
        have h0 : 0 ≤ jj := by simpa using h0
        have h1 : jj < (xs.length : Int) := by simpa using h1
        have ho := lookH_some hl
        cases hs
        cases hm with
        | mp hs1 hn =>
          rename_i loc
          cases hh.ob _ _ ho with
          | mapv hs' hTk es hb hle hborn hkey hval hkds =>
            rename_i b tk
            have hs0 := hs'
            rw [hs'] at hs1
            cases hs1
            obtain ⟨j, rfl⟩ : ∃ j : Nat, jj = j := ⟨jj.toNat, by omega⟩
            have hj : j < xs.length := by omega
            have hj' : j < es.size := by omega
            have hm : es[j]? = some es[j] := Array.getElem?_eq_getElem hj'
            have hidx : es.findIdx? (fun e => ((e.born : Nat) : Int) == (j : Int)) = some j := by
              rw [Array.findIdx?_eq_some_iff_getElem]
              refine ⟨hj', by rw [hborn j _ hm]; simp, fun i hi => ?_⟩
              have := hborn i _ (Array.getElem?_eq_getElem (show i < es.size by omega))
              rw [this]
              simp
              omega
            simp only [Int.toNat_natCast] at hk
            obtain ⟨p1, p2, p3⟩ := put_mapv (e := e) (xs' := xs.modify j fun p => (p.1, v)) hh ho hs0 (es' := es.modify j fun e => { e with val := vv }) hTk hb (by simp [hle]) (fun i m hi => by
                rcases modify_get hi with ⟨rfl, a, ha, rfl⟩ | ⟨_, h2⟩
                · exact hborn i a ha
                · exact hborn i m h2) (fun i hi m hm => by
                have hi3 : i < xs.length := by simpa using hi
                rw [List.getElem_modify]
                rcases modify_get hm with ⟨rfl, a, ha, rfl⟩ | ⟨hne, h2⟩
                · rw [if_pos rfl]
                  exact ⟨hkey i hi3 a ha, hv⟩
                · rw [if_neg (fun e => hne e.symm)]
                  exact ⟨hkey i hi3 m h2, hval i hi3 m h2⟩) (fun p hp => by
                obtain ⟨i, hi, rfl⟩ := List.getElem_of_mem hp
                have hi3 : i < xs.length := by simpa using hi
                rw [List.getElem_modify]
                have := hkds _ (List.getElem_mem hi3)
                split
                · exact this
                · exact this)
            simp only [List.length_modify] at p1 p2 p3
            refine ⟨_, c, _, ?_, hk, ⟨.undef, p1, p2, fun id hi => (hi rfl).elim⟩⟩
            simp [Instr.entryStore, MapKept.run_getObj_map hb, asInt, asIntOf, hidx, MapKept.run_setObj_map _ hb, setBlock]
    · cases hk
  · cases hk

end
end Go.AE
