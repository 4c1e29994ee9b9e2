/-
  bytes.Repeat of one byte: its memory comes from MakeNoZero, whose bytes are drawn; they are all written over.
-/
import Derived.Test.YthelgkjfdjnmeaaDoorFm
import Derived.Test.YthelgkjfdjnmeaaDoorAeS
import Derived.Lib.MakeNoZero
import Derived.Laws.Externs
namespace Go.AE
open Go.Proofs Go.RowKit
set_option maxRecDepth 100000

theorem digits_at : ∀ (n t : Nat) (acc : Array Value) (i : Nat), i < acc.size + n → ∃ v, (Extern.BytealgMakeNoZero.digits n t acc)[i]? = some v ∧ (i < acc.size → acc[i]? = some v) ∧ (acc.size ≤ i → ∃ k : Nat, k < 256 ∧ v = .int .u8 k)
  | 0, t, acc, i, hi => ⟨acc[i]'hi, Array.getElem?_eq_getElem hi, fun h => Array.getElem?_eq_getElem h, fun h => absurd h (Nat.not_le.2 hi)⟩
  | n + 1, t, acc, i, hi => by
    obtain ⟨v, h1, h2, h3⟩ := digits_at n (t / 256) (acc.push (.int .u8 (Int.ofNat (t % 256)))) i (by simp; omega)
    refine ⟨v, h1, fun h => ?_, fun h => ?_⟩
    · have := h2 (by simp; omega)
      rw [Array.getElem?_push_lt h] at this
      rw [Array.getElem?_eq_getElem h]
      exact this
    · by_cases he : i = acc.size
      · subst he
        have := h2 (by simp)
        simp at this
        exact ⟨t % 256, Nat.mod_lt _ (by omega), this.symm⟩
      · exact h3 (by simp; omega)

def cellOf : Option Value → Int
  | some (.int _ k) => k
  | _ => 0

theorem run_mnz {P : Program} (w : World) (ps : Array TypeId) (t e : TypeId) (ht : P.underlying t = some (.slice e)) (n : Nat) (hn : n ≤ 1000000) :
    ∃ (cs : Array Value) (row : List Int), (Extern.BytealgMakeNoZero.makeNoZero ps #[t] #[.int .i64 n]).run P w = .ok (.slice (some ⟨w.heap.size, 0, none⟩) n cs.size) (w.drew.drew.alloc (.cells cs e)) ∧ n ≤ cs.size ∧ cs.size ≤ maxLen ∧
      row.length = n ∧ ∀ i (h : i < row.length), cs[i]? = some (.int .u8 row[i]) ∧ (Lit.int .u8 row[i]).wf = true := by
  have hdef : Extern.BytealgMakeNoZero.makeNoZero ps #[t] #[.int .i64 n] =
      (do
        let .slice elem ← underlying t | stuck "bytealg.MakeNoZero: slice type expected"
        if (n : Int) < 0 || (n : Int) > 2 ^ 48 then runtimePanic (.error "makeslice: len out of range")
        let cap ← choose (.appendCap (n : Int).toNat 0 elem)
        askRoom cap
        let bytes ← choose (.extern "internal/bytealg.MakeNoZero.bytes" 0)
        let a ← newRow elem (Extern.BytealgMakeNoZero.digits cap bytes #[])
        pure (.slice (some a) (n : Int).toNat cap)) := rfl
  have hge := grownCap_ge w n 0 e
  have hmx := grownCap_le_maxLen w n 0 e (by unfold maxLen; omega)
  obtain ⟨cs, hcs⟩ : ∃ cs, cs = Extern.BytealgMakeNoZero.digits (grownCap w n 0 e) ((Question.extern "internal/bytealg.MakeNoZero.bytes" 0).cut (w.tape (w.drawn + 1) (.extern "internal/bytealg.MakeNoZero.bytes" 0))) #[] := ⟨_, rfl⟩
  have hsz : cs.size = grownCap w n 0 e := by rw [hcs, Lib.size_digits]; simp
  have hat : ∀ i, i < cs.size → ∃ k : Nat, k < 256 ∧ cs[i]? = some (.int .u8 k) := fun i hi => by
    obtain ⟨v, h1, _, h3⟩ := digits_at (grownCap w n 0 e) ((Question.extern "internal/bytealg.MakeNoZero.bytes" 0).cut (w.tape (w.drawn + 1) (.extern "internal/bytealg.MakeNoZero.bytes" 0))) #[] i (by simp; omega)
    obtain ⟨k, hk, rfl⟩ := h3 (by simp)
    exact ⟨k, hk, by rw [hcs]; exact h1⟩
  refine ⟨cs, (List.range n).map (fun i => cellOf cs[i]?), ?_, by omega, by omega, by simp, fun i hi => ?_⟩
  · rw [hdef, hcs]
    have h1 : ¬ (n : Int) < 0 := by omega
    have h2 : ¬ (281474976710656 : Int) < (n : Int) := by omega
    simp [run_underlying ht, h1, h2, Question.forced, newRow, Lib.size_digits, grownCap]
  · have hi' : i < n := by simpa using hi
    obtain ⟨k, hk, hc⟩ := hat i (by omega)
    simp only [List.getElem_map, List.getElem_range, hc, cellOf]
    refine ⟨trivial, ?_⟩
    have : IntKind.u8.min ≤ (k : Int) ∧ (k : Int) ≤ IntKind.u8.max := by
      show (0 : Int) ≤ _ ∧ _ ≤ (255 : Int)
      omega
    simpa [Lit.wf] using this

theorem size5 : sizeT tC 5 = 1 := by kernel_rfl
theorem getD_at (l : List Int) (i : Nat) (h : i < l.length) : l.getD i 0 = l[i] := by rw [List.getD_eq_getElem?_getD, List.getElem?_eq_getElem h]; rfl

/-- A new slice whose bytes are drawn. -/
theorem drawn_new {c : Ctx} {w : World} {h : Heap tC.E} (hh : HR tC c w h) (n : Nat) (hn : n ≤ 1000000) :
    ∃ (row : List Int) (v : Value) (w' : World) (c' : Ctx), row.length = n ∧ (callFunc 64 #[.int .i64 n]).run tC.P w = .ok (.value v) w' ∧ After tC c w h c' w' ⟨.sl h.length 0 n, [(h.length, some (.arr 5 row))], []⟩ v := by
  obtain ⟨cs, row, h1, h2, h3, h4, h5⟩ := run_mnz (P := tC.P) w #[3] 22 5 (by kernel_rfl) n hn
  have hm : More w (w.drew.drew.alloc (.cells cs 5)) := ((More.drew w).trans (More.drew w.drew)).trans (More.alloc _ _)
  obtain ⟨c', hA⟩ := new_arr (C := tC) (e := 5) (xs := row) hh (.push rfl) hm (b := w.heap.size) (vs := cs) (et := 5) (heap_alloc_new w.drew.drew _) (Nat.le_refl _) (fun i _ => .int .u8 (row.getD i 0))
    (fun i j hi hj => by
      rw [size5] at hj ⊢
      have hj0 : j = 0 := by omega
      subst hj0
      rw [Nat.mul_one, Nat.add_zero]
      exact (h5 i hi).1.trans (congrArg (fun q => some (Value.int .u8 q)) (getD_at row i hi).symm))
    (fun i hi j hj => by
      have hj0 : j = 0 := by
        have : j < 1 := hj
        omega
      subst hj0
      have h6 : R tC c w (.int .u8 (row[i]'hi)) (.int .u8 (row[i]'hi)) := R.int (h5 i hi).2
      have h7 : R tC c w (.int .u8 (row[i]'hi)) (.int .u8 (row.getD i 0)) := by rw [getD_at row i hi]; exact h6
      exact h7) (cap := cs.size) (by show row.length ≤ _; omega) h3 (by rw [size5]; omega) []
  refine ⟨row, _, _, c', h4, ?_, by rw [← h4]; exact hA⟩
  rw [run_callFunc_extern (f := 64) (show tC.P.funcs[64]? = some Tryd.f64 by kernel_rfl) (by kernel_rfl) (by kernel_rfl) (by kernel_rfl) (e := Extern.BytealgMakeNoZero.makeNoZero #[3] #[22]) (by kernel_rfl), h1, ← h4]
  rfl

/-- A code that begins with memory of drawn bytes, as many as slot s says: what follows does not depend on them. -/
theorem draw_cut {Γ : FuncId → Option (CF tC)} (hS : SysN tC Γ) {Λ : Nat → Option (LF tC)} {k : Nat} {p : PS} (hk : k ≤ p.k) {r : Nat} {ops : Array Oper} {Y : Code} {s m d : Nat} {q1 : TypeId} {s1 : String} {f1 : Array Edge} {q2 : TypeId} {s2 : String} {f2 : Array Edge} {ats : Array TypeId}
    (h0 : ops[0]? = some ⟨some m, .move (.tmp s), q1, s1, f1, none⟩) (h1 : ops[1]? = some ⟨some d, .call ⟨.value (.func 64), #[.tmp m], ats⟩, q2, s2, f2, none⟩) (hΛ : LamAt tC k Λ Y)
    {f : p.s.ty tC.E → Option (altP tC.E p.outs)}
    (hf : ∀ x y, f x = some y → ∃ n : Nat, n ≤ 1000000 ∧ (p.s.emb x).t.getD s .undef = .int .i64 n ∧ ∀ row : List Int, row.length = n →
      opsK tC Γ ops.toList (ops.toList.drop 2) ⟨((p.s.emb x).t.set m (.int .i64 n)).set d (.sl (p.s.emb x).h.length 0 n), (p.s.emb x).h ++ [some (.arr 5 row)]⟩
        (fun st => exec tC Γ Λ Y st (fun e st => unP p.k p.outs e st)) = some y)
    (hm : ∀ x : p.s.ty tC.E, m < (p.s.emb x).t.length) : Snd tC k (.seq (.region r ops false) Y) (cutLF tC p f).k := by
  intro Z K z st a c w hz hr hn Q hq
  unfold cutLF at hz
  simp only at hz
  obtain ⟨st', h1', hz⟩ := bind_eq hz
  obtain ⟨x, h2', hz⟩ := bind_eq hz
  obtain ⟨y, h3, hz⟩ := bind_eq hz
  rw [elimP_eq] at hz
  obtain ⟨c1, r1', l1⟩ := recan_ok hS.sys.cfg hr h1' hk hn
  rw [← ST.ok h2'] at r1' l1
  obtain ⟨n, hn1, g1, g2⟩ := hf x y h3
  have hv := r1'.slot s
  rw [g1] at hv
  generalize hw : a.tmps.getD s undef = v at hv
  cases hv with
  | int hwf =>
  obtain ⟨row, v2, w2, c2, d1, d2, hA⟩ := drawn_new r1'.heap n hn1
  have hq1 := r1'.put (some m) ((Le.refl c1 (p.s.emb x).h w).keeps r1'.heap) r1'.heap (x := .int .i64 n) (v := .int .i64 n) (.int hwf)
  have hmv : (a.put (some m) (.int .i64 n)).eval (.tmp m) = .int .i64 n := by
    have hs := r1'.size
    have hmx := hm x
    simp [Act.put, Act.eval, Array.getD_eq_getD_getElem?, hs, hmx]
  have hq2 := hq1.put (some d) (hA.le.keeps r1'.heap) hA.heap hA.val
  refine wp_seq (wp_region ?_)
  have hsz : 2 ≤ ops.size := by
    have := (Array.getElem?_eq_some_iff.1 h1).1
    omega
  have hrange : List.range ops.size = 0 :: 1 :: List.range' 2 (ops.toList.drop 2).length := by
    rw [List.range_eq_range', List.length_drop, Array.length_toList]
    obtain ⟨q, hq⟩ : ∃ q, ops.size = q + 2 := ⟨ops.size - 2, by omega⟩
    rw [hq]
    rfl
  rw [hrange]
  have e1 : (execOp a.eval ⟨some m, .move (.tmp s), q1, s1, f1, none⟩).run tC.P w = .ok (.value (.int .i64 n)) w := by
    have : a.eval (.tmp s) = .int .i64 n := hw
    simp [execOp, this]
  have e2 : (execOp (a.put (some m) (.int .i64 n)).eval ⟨some d, .call ⟨.value (.func 64), #[.tmp m], ats⟩, q2, s2, f2, none⟩).run tC.P w = .ok (.value v2) w2 := by
    have e3 : (a.put (some m) (.int .i64 n)).eval (.func 64) = .func (.func 64) #[] #[] := rfl
    simpa [execOp, resolve, invoke, hmv, e3, Deferred.ofValue] using d2
  simp only [wpOps, h0, h1, Region.wanted, if_true]
  refine .inl ?_
  unfold Oper.wp
  rw [e1, Oper.upon_value]
  refine .inl ?_
  rw [e2, Oper.upon_value]
  have fin : ∀ e st3 a3 c3 w3, unP p.k p.outs e st3 = some y → Rep tC c3 w3 st3 a3 → LeK k c1 (p.s.emb x).h w c3 st3.h w3 → Q e a3 w3 := by
    intro e st3 a3 c3 w3 he hr2 hle
    obtain ⟨e1, lv, co, e2⟩ := unP_ok he
    obtain ⟨c4, r4, l4⟩ := recan_ok hS.sys.cfg hr2 e2 hk hle.n
    rw [e1]
    exact hq _ _ a3 c4 w3 hz r4 (l1.trans (hle.trans l4))
  have g3 := g2 row d1
  have hheap : wrH (p.s.emb x).h [((p.s.emb x).h.length, some (Ob.arr (E := tC.E) 5 row))] = (p.s.emb x).h ++ [some (.arr 5 row)] := by
    have hb : Nat.blt (p.s.emb x).h.length (p.s.emb x).h.length = false := by
      rw [← Bool.not_eq_true]
      intro h
      exact Nat.lt_irrefl _ (Nat.le_of_ble_eq_true h)
    simp only [wrH, hb]
  have hq2' : Rep tC c2 w2 ⟨((p.s.emb x).t.set m (.int .i64 n)).set d (.sl (p.s.emb x).h.length 0 n), (p.s.emb x).h ++ [some (.arr 5 row)]⟩ ((a.put (some m) (.int .i64 n)).put (some d) v2) := by
    rw [← hheap]; exact hq2
  have hle2 : Le c1 (p.s.emb x).h w c2 ((p.s.emb x).h ++ [some (.arr 5 row)]) w2 := by rw [← hheap]; exact hA.le
  refine opsK_ok hS.sys ops (ops.toList.drop 2) 2 rfl _ y _ _ c2 w2 g3 hq2' _ ?_
  intro st2 a2 c3 w3 hk2 hr2 hle3
  show Code.wp tC.P Y Q _ _
  have hle23 := (hle2.trans hle3).toK (k := k) l1.n
  exact exec_ok hS Y hΛ _ y st2 a2 c3 w3 hk2 hr2 hle23.n Q (fun e st4 a4 c4 w4 h4 h5 h6 => fin _ _ _ _ _ h4 h5 (hle23.trans h6))
/-! bytes.Repeat -/
noncomputable def G47 : FuncId → Option (CF tC) := look [(63, F63)]
theorem Y47 : SysN tC G47 := (sys_cons F63_ok (mkF_nat _ _) (sys_nil tC_ok tC_eq))
noncomputable def c47_0 : Code := loopOf (subCode (bodyOf Tryd.f47) 49) 0
def p47_0 : LS := ⟨0, [7, 8, 9, 10], ⟨vBs 7 ++ [vI, vI, .one (.one (.sl 0)), vI] ++ vBs 66, [.arr 5]⟩, [⟨.exit 0, [9], ⟨vBs 9 ++ [.one (.one (.sl 0))] ++ vBs 67, [.arr 5]⟩, []⟩], []⟩
noncomputable def r47_0 (x : Int × Int × Nat × Int × List Int × Unit) : Option (Int × Int × Nat × Int × List Int × Unit ⊕ Nat × List Int × Unit) :=
  bif decide (x.snd.snd.snd.fst < x.fst) then
  bif
      decide ((0 : Int) ≤ x.snd.snd.snd.fst) && decide (x.snd.snd.snd.fst ≤ (↑x.snd.snd.fst : Int)) &&
          decide ((↑x.snd.snd.fst : Int) ≤ (↑x.snd.snd.fst : Int)) &&
        decide ((↑x.snd.snd.fst : Int) ≤ (↑x.snd.snd.fst : Int)) then
    bif
        true && decide ((0 : Int) ≤ bif decide (x.snd.fst < x.snd.snd.snd.fst) then x.snd.fst else x.snd.snd.snd.fst) &&
            decide ((bif decide (x.snd.fst < x.snd.snd.snd.fst) then x.snd.fst else x.snd.snd.snd.fst) ≤ (↑x.snd.snd.fst : Int)) &&
          decide ((↑x.snd.snd.fst : Int) ≤ (↑x.snd.snd.fst : Int)) then
      bif
          decide
            ((0 : Nat) + x.snd.snd.snd.fst.toNat + ((↑x.snd.snd.fst : Int).toNat - x.snd.snd.snd.fst.toNat) ≤
              x.snd.snd.snd.snd.fst.length) then
        bif
            decide
              ((0 : Nat) + ((bif decide (x.snd.fst < x.snd.snd.snd.fst) then x.snd.fst else x.snd.snd.snd.fst).toNat - (0 : Nat)) ≤
                x.snd.snd.snd.snd.fst.length) then
          some
            (Sum.inl
              (x.fst, x.snd.fst, x.snd.snd.fst,
                IntKind.i64.wrap
                  (x.snd.snd.snd.fst +
                    (↑(min
                          (List.take ((bif decide (x.snd.fst < x.snd.snd.snd.fst) then x.snd.fst else x.snd.snd.snd.fst).toNat - (0 : Nat))
                              (List.drop (0 : Nat) x.snd.snd.snd.snd.fst)).length
                          ((↑x.snd.snd.fst : Int).toNat - x.snd.snd.snd.fst.toNat)) :
                      Int)),
                List.take ((0 : Nat) + x.snd.snd.snd.fst.toNat) x.snd.snd.snd.snd.fst ++
                  (List.take
                      (min
                        (List.take ((bif decide (x.snd.fst < x.snd.snd.snd.fst) then x.snd.fst else x.snd.snd.snd.fst).toNat - (0 : Nat))
                            (List.drop (0 : Nat) x.snd.snd.snd.snd.fst)).length
                        ((↑x.snd.snd.fst : Int).toNat - x.snd.snd.snd.fst.toNat))
                      (List.take ((bif decide (x.snd.fst < x.snd.snd.snd.fst) then x.snd.fst else x.snd.snd.snd.fst).toNat - (0 : Nat))
                        (List.drop (0 : Nat) x.snd.snd.snd.snd.fst)) ++
                    List.drop
                      ((0 : Nat) + x.snd.snd.snd.fst.toNat +
                        min
                          (List.take ((bif decide (x.snd.fst < x.snd.snd.snd.fst) then x.snd.fst else x.snd.snd.snd.fst).toNat - (0 : Nat))
                              (List.drop (0 : Nat) x.snd.snd.snd.snd.fst)).length
                          ((↑x.snd.snd.fst : Int).toNat - x.snd.snd.snd.fst.toNat))
                      x.snd.snd.snd.snd.fst),
                ()))
        else none
      else none
    else none
  else none
else some (Sum.inr (x.snd.snd.fst, x.snd.snd.snd.snd.fst, ()))
theorem r47_0_run0 (v0 : Int) (v1 : Int) (v2 : Nat) (v3 : Int) (v4 : List Int) : roundK tC G47 (look []) c47_0 p47_0 (v0, v1, v2, v3, v4, ()) = r47_0 (v0, v1, v2, v3, v4, ()) := by kernel_rfl
theorem r47_0_run (x : Int × Int × Nat × Int × List Int × Unit) : roundK tC G47 (look []) c47_0 p47_0 x = r47_0 x := r47_0_run0 x.1 x.2.1 x.2.2.1 x.2.2.2.1 x.2.2.2.2.1
noncomputable def l47_0 (x : Int × Int × Nat × Int × List Int × Unit) : Option (Nat × List Int × Unit) := iterO r47_0 x
noncomputable def W47_0 : LF tC := loopW tC p47_0 0 l47_0
theorem W47_0_ok : keyed 0 (subCode (bodyOf Tryd.f47) 49) = [.block 0 (.loop c47_0)] ∧ ∀ n, n ≤ 0 → Snd tC n (.block 0 (.loop c47_0)) W47_0.k := ⟨by kernel_rfl, fun n hn => loopW_ok (p := p47_0) (id := 0) Y47 (lam_le lam_nil n hn) hn r47_0_run⟩
noncomputable def c47_49 : Code := subCode (bodyOf Tryd.f47) 49
def p47_49 : PS := ⟨0, [0, 7, 8], ⟨[.one (.one (.imm 5))] ++ vBs 6 ++ [vI, vI] ++ vBs 68, []⟩, [⟨.ret, [4], ⟨vBs 4 ++ [.one (.one (.sl 0))] ++ vBs 72, [.arr 5]⟩, [(4, 5)]⟩], []⟩
noncomputable def q47_49 (x : List Int × Int × Int × Unit) (N : Nat) (row : List Int) : Option (Nat × List Int × Unit) :=
  
  bif true && decide ((0 : Int) ≤ x.snd.fst) && decide (x.snd.fst ≤ x.snd.fst) && decide (x.snd.fst ≤ (↑N : Int)) then
    bif decide ((0 : Nat) + (x.snd.fst.toNat - (0 : Nat)) ≤ row.length) then
      (l47_0
            (x.snd.fst, x.snd.snd.fst, x.snd.fst.toNat - (0 : Nat), (↑(min x.fst.length (x.snd.fst.toNat - (0 : Nat))) : Int),
              [] ++
                (List.take (min x.fst.length (x.snd.fst.toNat - (0 : Nat))) x.fst ++
                  List.drop ((0 : Nat) + min x.fst.length (x.snd.fst.toNat - (0 : Nat))) row),
              ())).bind
        fun y19 => some (y19.fst, y19.snd.fst, ())
    else none
  else none


def opsOf : Code → Array Oper
  | .seq (.region _ ops _) _ => ops
  | _ => #[]
def sndOf : Code → Code
  | .seq _ y => y
  | c => c
theorem c47_is : c47_49 = .seq (.region 16 (opsOf c47_49) false) (sndOf c47_49) := by kernel_rfl
theorem q47_run (v0 : List Int) (N : Nat) (v2 : Int) (row : List Int) : opsK tC G47 (opsOf c47_49).toList ((opsOf c47_49).toList.drop 2) ⟨((p47_49.s.emb (v0, (N : Int), v2, ())).t.set 53 (.int .i64 N)).set 54 (.sl (p47_49.s.emb (E := tE) (v0, (N : Int), v2, ())).h.length 0 N), (p47_49.s.emb (v0, (N : Int), v2, ())).h ++ [some (.arr 5 row)]⟩
    (fun st => exec tC G47 (look [(0, W47_0)]) (sndOf c47_49) st (fun e st => unP p47_49.k p47_49.outs e st)) = q47_49 (v0, (N : Int), v2, ()) N row := by kernel_rfl

theorem l47_spec (N : Nat) (b : Int) (h2 : N ≤ 8192) (row : List Int) (hr : row.length = N) : ∀ fuel k : Nat, N - k ≤ fuel → 1 ≤ k → k ≤ N → l47_0 ((N : Int), (N : Int), N, (k : Int), List.replicate k b ++ row.drop k, ()) = some (N, List.replicate N b, ())
  | fuel, k, hf, k1, k2 => by
    unfold l47_0
    rw [iterO_eq]
    by_cases hk : k = N
    · subst hk
      have c1 : ¬ ((k : Int) < (k : Int)) := by omega
      have e1 : row.drop k = [] := List.drop_eq_nil_of_le (by omega)
      simp only [r47_0, c1, decide_false, cond_false, e1, List.append_nil]
    · have c1 : ((k : Int) < (N : Int)) := by omega
      have c2 : ¬ ((N : Int) < (k : Int)) := by omega
      have hL : (List.replicate k b ++ row.drop k).length = N := by simp; omega
      have e1 : List.take k (List.replicate k b ++ row.drop k) = List.replicate k b := List.take_left' (by simp)
      obtain ⟨m, hm⟩ : ∃ m, min k (N - k) = m := ⟨_, rfl⟩
      have hm1 : 1 ≤ m ∧ m ≤ k ∧ k + m ≤ N := by omega
      have w0 : IntKind.i64.wrap ((k : Int) + (m : Int)) = ((k + m : Nat) : Int) := by
        rw [IntKind.wrap_i64]
        omega
      have e2 : List.take m (List.replicate k b) = List.replicate m b := by rw [List.take_replicate, Nat.min_eq_left (by omega)]
      have e3 : List.drop (k + m) (List.replicate k b ++ row.drop k) = row.drop (k + m) := by
        rw [List.drop_append, List.drop_eq_nil_of_le (by simp), List.nil_append, List.length_replicate, List.drop_drop]
        congr 1
        omega
      have hd : r47_0 ((N : Int), (N : Int), N, (k : Int), List.replicate k b ++ row.drop k, ()) = some (.inl ((N : Int), (N : Int), N, ((k + m : Nat) : Int), List.replicate (k + m) b ++ row.drop (k + m), ())) := by
        simp only [r47_0, c1, c2, decide_true, decide_false, cond_true, cond_false, Int.toNat_natCast, Nat.sub_zero, Nat.zero_add, List.drop_zero, hL, e1, List.length_replicate, hm, w0, e2, e3, Int.le_refl, Int.natCast_nonneg, Bool.and_true, Bool.true_and]
        have c3 : (k : Int) ≤ (N : Int) := by omega
        have c4 : k + (N - k) ≤ N := by omega
        simp only [c3, c4, k2, decide_true, cond_true, ← List.append_assoc, List.replicate_append_replicate]
      rw [hd]
      match fuel, hf with
      | 0, hf => omega
      | fuel + 1, hf => exact l47_spec N b h2 row hr fuel (k + m) (by omega) (by omega) (by omega)

/-- What stands behind the drawn memory, for one byte. -/
theorem q47_spec (N : Nat) (b : Int) (h1 : 1 ≤ N) (h2 : N ≤ 8192) (row : List Int) (hr : row.length = N) : q47_49 ([b], (N : Int), (N : Int), ()) N row = some (N, List.replicate N b, ()) := by
  have c1 : min 1 N = 1 := by omega
  have hl := l47_spec N b h2 row hr N 1 (by omega) (by omega) h1
  unfold q47_49
  simp only [Int.le_refl, Int.natCast_nonneg, decide_true, Bool.and_true, cond_true, Int.toNat_natCast, Nat.sub_zero, Nat.zero_add, hr, Nat.le_refl, List.length_singleton, c1, List.take_succ_cons, List.take_nil, List.nil_append]
  rw [show ([b] ++ List.drop 1 row : List Int) = List.replicate 1 b ++ row.drop 1 from rfl, show ((1 : Nat) : Int) = ((1 : Nat) : Int) from rfl, hl]
  rfl

def j47_49 (x : List Int × Int × Int × Unit) : Option (Nat × List Int × Unit) := bif decide (x.1.length = 1) && (decide (1 ≤ x.2.1) && (decide (x.2.1 ≤ 8192) && decide (x.2.2.1 = x.2.1))) then some (x.2.1.toNat, List.replicate x.2.1.toNat (x.1.headD 0), ()) else none
theorem j47_inv (x : List Int × Int × Int × Unit) (y : Nat × List Int × Unit) (h : j47_49 x = some y) : ∃ (N : Nat) (b : Int), 1 ≤ N ∧ N ≤ 8192 ∧ x = ([b], (N : Int), (N : Int), ()) ∧ y = (N, List.replicate N b, ()) := by
  obtain ⟨v0, v1, v2, ⟨⟩⟩ := x
  unfold j47_49 at h
  obtain ⟨hb, h⟩ := cond_some h
  simp only [Bool.and_eq_true, decide_eq_true_eq] at hb
  obtain ⟨h1, h2, h3, rfl⟩ := hb
  obtain ⟨N, rfl⟩ : ∃ N : Nat, v2 = N := ⟨v2.toNat, by omega⟩
  match v0, h1 with
  | [b], _ =>
    simp only [Int.toNat_natCast, List.headD_cons, Option.some.injEq] at h
    exact ⟨N, b, by omega, by omega, rfl, h.symm⟩
noncomputable def W47_49 : LF tC := cutLF tC p47_49 j47_49
theorem W47_49_ok : keyed 49 (bodyOf Tryd.f47) = [c47_49] ∧ ∀ n, n ≤ 0 → Snd tC n c47_49 W47_49.k := by
  refine ⟨by kernel_rfl, fun n hn => ?_⟩
  rw [c47_is]
  refine draw_cut (p := p47_49) (f := j47_49) (Λ := look [(0, W47_0)]) Y47 hn (s := 7) (m := 53) (d := 54) rfl rfl (lam_le (lam_cons (code := sndOf c47_49) ⟨by kernel_rfl, W47_0_ok.2⟩ lam_nil) n hn) (fun x y hxy => ?_) (fun _ => Nat.le_of_ble_eq_true (by kernel_rfl))
  obtain ⟨N, b, h1, h2, rfl, rfl⟩ := j47_inv x y hxy
  exact ⟨N, by omega, rfl, fun row hr => (q47_run [b] N N row).trans (q47_spec N b h1 h2 row hr)⟩
def S47 : FS := ⟨[[.s 5], [.v]], [⟨[.one (.one (.imm 5)), vI], []⟩], [⟨[.one (.one (.sl 0))], [.arr 5]⟩], [[.v]], [(4, 5)]⟩
noncomputable def f47 (x : List Int × Int × Unit) : Option (Nat × List Int × Unit) :=
  bif x.snd.fst == (0 : Int) then some ((0 : Nat), [], ())
else
  bif decide (x.snd.fst < (0 : Int)) then none
  else
    bif decide ((f63 (IntKind.u64.wrap (↑x.fst.length : Int)) (IntKind.u64.wrap x.snd.fst)).fst > (0 : Int)) then none
    else
      bif decide ((f63 (IntKind.u64.wrap (↑x.fst.length : Int)) (IntKind.u64.wrap x.snd.fst)).snd > (9223372036854775807 : Int)) then none
      else
        bif (↑x.fst.length : Int) == (0 : Int) then some ((0 : Nat), [], ())
        else
          bif decide (IntKind.i64.wrap (f63 (IntKind.u64.wrap (↑x.fst.length : Int)) (IntKind.u64.wrap x.snd.fst)).snd > (8192 : Int)) then
            bif (↑x.fst.length : Int) == (0 : Int) then none
            else
              bif
                  IntKind.i64.wrap (IntKind.i64.wrap (Int.tdiv (8192 : Int) (↑x.fst.length : Int)) * (↑x.fst.length : Int)) ==
                    (0 : Int) then
                (j47_49
                      (x.fst, IntKind.i64.wrap (f63 (IntKind.u64.wrap (↑x.fst.length : Int)) (IntKind.u64.wrap x.snd.fst)).snd,
                        (↑x.fst.length : Int), ())).bind
                  fun y29 => some (y29.fst, y29.snd.fst, ())
              else
                (j47_49
                      (x.fst, IntKind.i64.wrap (f63 (IntKind.u64.wrap (↑x.fst.length : Int)) (IntKind.u64.wrap x.snd.fst)).snd,
                        IntKind.i64.wrap (IntKind.i64.wrap (Int.tdiv (8192 : Int) (↑x.fst.length : Int)) * (↑x.fst.length : Int)), ())).bind
                  fun y30 => some (y30.fst, y30.snd.fst, ())
          else
            (j47_49
                  (x.fst, IntKind.i64.wrap (f63 (IntKind.u64.wrap (↑x.fst.length : Int)) (IntKind.u64.wrap x.snd.fst)).snd,
                    IntKind.i64.wrap (f63 (IntKind.u64.wrap (↑x.fst.length : Int)) (IntKind.u64.wrap x.snd.fst)).snd, ())).bind
              fun y31 => some (y31.fst, y31.snd.fst, ())
noncomputable def F47 : CF tC := mkF tC S47 f47
theorem f47_run : ∀ a, fnS tC G47 (look [(49, W47_49)]) Tryd.f47 S47 a = f47 a := fun a => by kernel_rfl
theorem F47_ok : CFOK tC 47 F47 := mkF_ok Y47 (fn := Tryd.f47) (body := bodyOf Tryd.f47) (by kernel_rfl) (by kernel_rfl) (by kernel_rfl) (m := 0) rfl (lam_le (lam_cons W47_49_ok lam_nil)) f47_run
end Go.AE
