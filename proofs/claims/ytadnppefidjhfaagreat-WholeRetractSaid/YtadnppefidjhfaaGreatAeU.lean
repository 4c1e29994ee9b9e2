/-
  AE, part 21: loops by their rounds, one after another; a contract at some arguments alone; a slice in a box that is given up for good.
-/
import Derived.Test.YtadnppefidjhfaaGreatAeH
namespace Go.AE
open Go.RowKit

section
variable {C : Cfg}

/-! ### Rounds -/

def unrollK (C : Cfg) (Γ : FuncId → Option (CF C)) (Λ : Nat → Option (LF C)) (id : Nat) (body : Code) {Z : Type} : Nat → St C.E → (Exit → St C.E → Option Z) → Option Z
  | 0, _, _ => none
  | n + 1, st, K => exec C Γ Λ body st fun e s => match e with
    | .normal => unrollK C Γ Λ id body n s K
    | e => K (leaveE id e) s

def unrollLF (C : Cfg) (Γ : FuncId → Option (CF C)) (Λ : Nat → Option (LF C)) (id : Nat) (body : Code) (n : Nat) : LF C :=
  ⟨fun st K => unrollK C Γ Λ id body n st K⟩

theorem unroll_ok {Γ : FuncId → Option (CF C)} (hS : SysN C Γ) {Λ : Nat → Option (LF C)} {k id : Nat} {body : Code} (hΛ : LamAt C k Λ body) (n0 : Nat) :
    Snd C k (.block id (.loop body)) (unrollLF C Γ Λ id body n0).k := by
  intro Z K z st a c w hz hr hn Q hq
  refine wp_block (wp_loop_ghost (fun n a' w' => ∃ st' c', unrollK C Γ Λ id body n st' K = some z ∧ Rep C c' w' st' a' ∧ LeK k c st.h w c' st'.h w') n0 ⟨st, c, hz, hr, (Le.refl _ _ _).toK hn⟩ ?_)
  rintro n a1 w1 ⟨st1, c1, hit, hr1, hle1⟩
  cases n with
  | zero => cases hit
  | succ n =>
    simp only [unrollK] at hit
    refine exec_ok hS body hΛ _ z _ a1 c1 w1 hit hr1 hle1.n _ ?_
    intro e st2 a2 c2 w2 he hr2 hle2
    cases e with
    | normal => exact ⟨n, Nat.lt_succ_self n, st2, c2, he, hr2, hle1.trans hle2⟩
    | exit j =>
      have := hq _ _ a2 c2 w2 he hr2 (hle1.trans hle2)
      simp only [Exit.then, Exit.inBlock]
      simp only [leaveE] at this
      split at this
      · rename_i hj
        rw [if_pos (Nat.eq_of_beq_eq_true hj)]; exact this
      · rename_i hj
        rw [if_neg (fun he => by rw [he] at hj; simp at hj)]; exact this
    | _ => exact hq _ _ a2 c2 w2 he hr2 (hle1.trans hle2)

/-! ### Some arguments alone -/

theorem mkF_some {Γ : FuncId → Option (CF C)} (hS : SysN C Γ) {Λ : Nat → Option (LF C)} {f : FuncId} {fn : Func} {body : Code} (hf : C.P.funcs[f]? = some fn) (hname : (fn.name == "runtime.NumGoroutine") = false) (hb : fn.body = some body) {s : FS}
    {m : Nat} (hm : (s.ins.all fun i => Nat.ble i.h.length m) = true) (hΛ : ∀ n, n ≤ m → LamAt C n Λ body) {g : altTy C.E s.ins → Option (altTy C.E s.outs)} (hg : ∀ a r, g a = some r → fnS C Γ Λ fn s a = some r) : CFOK C f (mkF C s g) := by
  have full := mkF_ok (s := s) hS hf hname hb hm hΛ (g := fun a => fnS C Γ Λ fn s a) (fun _ => rfl)
  refine ⟨fun {Z} c w h args vs K z hk hh hl hr => full.run c w h args vs K z ?_ hh hl hr⟩
  simp only [mkF] at hk ⊢
  obtain ⟨a, h1, hk⟩ := bind_eq hk
  obtain ⟨r, h2, hk⟩ := bind_eq hk
  rw [h1]
  simp only [Option.bind_some]
  rw [hg a r h2]
  exact hk

/-- The answers at some arguments. -/
def atL {A B : Type} [DecidableEq A] : List (A × B) → A → Option B
  | [], _ => none
  | p :: l, a => bif decide (a = p.1) then some p.2 else atL l a

theorem atL_spec {A B : Type} [DecidableEq A] {F : A → Option B} : ∀ {l : List (A × B)}, (∀ p ∈ l, F p.1 = some p.2) → ∀ a r, atL l a = some r → F a = some r
  | [], _, a, r, h => by cases h
  | p :: l, hl, a, r, h => by
    simp only [atL] at h
    by_cases he : a = p.1
    · rw [he] at h ⊢
      simp only [decide_true, cond_true, Option.some.injEq] at h
      rw [← h]
      exact hl p (List.mem_cons_self ..)
    · rw [decide_eq_false he] at h
      exact atL_spec (fun q hq => hl q (List.mem_cons_of_mem _ hq)) a r h

/-! ### A slice in a box, given up for good -/

/-- Slot i points to a box; its cell j is a slice into an object of its own: that object is given up, the cell is a list that nobody writes again. -/
def freezeC (C : Cfg) (i j : Nat) (st : St C.E) : St C.E := match st.t.getD i .undef with
  | .ptr id _ _ => match st.h[id]? with
    | some (some (.box cs)) => match cs[j]? with
      | some (.sl d s n) => match st.h[d]? with
        | some (some (.arr e xs)) => match decide (s + n ≤ xs.length) && !(Nat.beq d id) with
          | true => ⟨st.t, (st.h.set d none).set id (some (.box (cs.set j (.him e ((xs.drop s).take n)))))⟩
          | false => st
        | _ => st
      | _ => st
    | _ => st
  | _ => st

theorem freezeC_ok (hC : CfgOK C) (i j : Nat) {c : Ctx} {w : World} {st : St C.E} {a : Act} (hr : Rep C c w st a) : ∃ c', Rep C c' w (freezeC C i j st) a ∧ Le c st.h w c' (freezeC C i j st).h w := by
  unfold freezeC
  split
  rotate_left
  · exact ⟨c, hr, Le.refl _ _ _⟩
  rename_i id _ _ _
  split
  rotate_left
  · exact ⟨c, hr, Le.refl _ _ _⟩
  rename_i cs hob
  split
  rotate_left
  · exact ⟨c, hr, Le.refl _ _ _⟩
  rename_i d s n hj0
  split
  rotate_left
  · exact ⟨c, hr, Le.refl _ _ _⟩
  rename_i e xs hd
  split
  rotate_left
  · exact ⟨c, hr, Le.refl _ _ _⟩
  rename_i hb
  obtain ⟨hb1, hb2⟩ := and_split hb
  have hne : d ≠ id := fun h => by subst h; simp at hb2
  have hbox := hr.heap.ob id _ hob
  cases hbox with
  | box hs f hc hrr =>
    rename_i b
    have hjl := lt_of_getElem? hj0
    have hcj : cs[j] = .sl d s n := by
      have := List.getElem?_eq_getElem hjl
      rw [hj0] at this
      exact (Option.some.inj this).symm
    have hsl := hrr j hjl
    rw [hcj] at hsl
    have hlk : lookH st.h d = some (.arr e xs) := by unfold lookH; rw [hd]
    have hread : readSl C (lookH st.h) e (.sl d s n) (fun ys rd => some (ys, rd)) = some ((xs.drop s).take n, [d]) := by
      unfold readSl
      simp only [hlk]
      split
      · rename_i h _
        have : h = rfl := rfl
        simp only [hb1, cond_true]
      · rename_i h _; exact (h rfl).elim
    obtain ⟨ys, rd, hk, _, hhim⟩ := readSl_him hC hr.heap hread hsl (fun _ _ h => by cases h)
    cases hk
    obtain ⟨c1, n1, s1, i1, b1, hh1, le1⟩ := drop_all [d] hr.heap (fun q hq => by rw [List.mem_singleton.1 hq]; exact .inl ⟨_, hd⟩)
    have hlt : Nat.blt d st.h.length = true := by simpa [Nat.blt_eq] using lt_of_getElem? hd
    simp only [List.map_cons, List.map_nil, wrH, hlt] at hh1 le1
    have hkeep := le1.keeps hr.heap
    have hid : (st.h.set d none)[id]? = some (some (.box cs)) := by rw [List.getElem?_set_ne hne]; exact hob
    have hidl := lt_of_getElem? hid
    have hhj := hhim c1 i1.1 i1.2 (fun q loc hq hs => b1 q loc hq hs)
    have hget : ∀ (q : Nat) (o : Ob C.E), ((st.h.set d none).set id (some (.box (cs.set j (.him e ((xs.drop s).take n))))))[q]? = some (some o) →
        (q ≠ id ∧ (st.h.set d none)[q]? = some (some o)) ∨ (q = id ∧ o = .box (cs.set j (.him e ((xs.drop s).take n)))) := by
      intro q o ho
      by_cases he : q = id
      · subst he
        rw [List.getElem?_set_self hidl] at ho
        cases ho; exact .inr ⟨rfl, rfl⟩
      · rw [List.getElem?_set_ne (fun h => he h.symm)] at ho
        exact .inl ⟨he, ho⟩
    have hold : ∀ (q : Nat) (o : Ob C.E), ((st.h.set d none).set id (some (.box (cs.set j (.him e ((xs.drop s).take n))))))[q]? = some (some o) → ∃ o', (st.h.set d none)[q]? = some (some o') := by
      intro q o ho
      rcases hget q o ho with ⟨_, h⟩ | ⟨rfl, rfl⟩
      · exact ⟨_, h⟩
      · exact ⟨_, hid⟩
    have hle2 : Le c1 (st.h.set d none) w c1 ((st.h.set d none).set id (some (.box (cs.set j (.him e ((xs.drop s).take n)))))) w := by
      refine ⟨Nat.le_refl _, fun _ _ _ h => h, fun _ h => h, fun _ h => h, fun _ _ h => .inl h, fun _ _ h => .inl h, ?_, Nat.le_refl _, rfl, rfl, rfl, fun _ _ _ => rfl, fun _ cs _ fr h => ⟨cs, fr, h, rfl⟩⟩
      rintro k _ ⟨q, o, loc, h1, h2, h3⟩
      obtain ⟨o', ho'⟩ := hold q o h1
      exact ⟨q, o', loc, ho', h2, h3⟩
    refine ⟨c1, ⟨hr.defers, hr.size, fun k => (hr.slot k).keep hkeep, ⟨hh1.gl, by simpa using hh1.len, hh1.sn, hh1.bnd, hh1.hI, ?_, ?_, ?_⟩⟩, le1.trans hle2⟩
    · intro q o ho
      rcases hget q o ho with ⟨_, h⟩ | ⟨rfl, rfl⟩
      · exact hh1.ob q o h
      · refine .box (by rw [s1]; simpa using hs) f (fun q hq => hc q (by simpa using hq)) (fun q hq => ?_)
        have hq' : q < cs.length := by simpa using hq
        by_cases hqj : q = j
        · subst hqj
          simp only [List.getElem_set_self]
          exact hhj
        · rw [List.getElem_set_ne (fun h => hqj h.symm)]
          exact (hrr q hq').keep hkeep
    · intro q o loc ho hs2
      rcases hget q o ho with ⟨_, h⟩ | ⟨rfl, rfl⟩
      · exact hh1.soft q o loc h hs2
      · exact hh1.soft q (.box cs) loc hid hs2
    · intro p q op oq lp lq h1 h2 h3 h4 h5
      obtain ⟨o1, k1⟩ := hold p op h1
      obtain ⟨o2, k2⟩ := hold q oq h2
      exact hh1.inj _ _ _ _ _ _ k1 k2 h3 h4 h5

def freezeLF (C : Cfg) (Γ : FuncId → Option (CF C)) (Λ : Nat → Option (LF C)) (code : Code) (i j : Nat) : LF C :=
  ⟨fun st K => exec C Γ Λ code (freezeC C i j st) K⟩

theorem freeze_ok {Γ : FuncId → Option (CF C)} (hS : SysN C Γ) {Λ : Nat → Option (LF C)} {k : Nat} {code : Code} (hΛ : LamAt C k Λ code) (i j : Nat) : Snd C k code (freezeLF C Γ Λ code i j).k := by
  intro Z K z st a c w hz hr hn Q hq
  obtain ⟨c1, r1, l1⟩ := freezeC_ok hS.sys.cfg i j hr
  have l1 := l1.toK hn
  exact exec_ok hS code hΛ _ z _ a c1 w hz r1 l1.n _ (fun e st' a' c' w' h1 h2 h3 => hq _ _ _ _ _ h1 h2 (l1.trans h3))

end
end Go.AE
