/-
  AE, part 17: a law's arguments, read as data, stand for values of the executor; a law whose plain function answers true keeps its statement.
-/
import Derived.Test.YtadnppefidjhfaaGreatAeS
import Derived.ProofKit
namespace Go.AE
open Go.RowKit

section
variable {E : Nat → Type}

/-! ### Cells of the kinds of a shape -/

def CT.fits : CT → AV E → Bool
  | .int k, .int k' _ => decide (k' = k)
  | .bool, .bool _ => true
  | .str, .str _ => true
  | .imm e, .imm e' _ => Nat.beq e' e
  | .him e, .him e' _ => Nat.beq e' e
  | _, _ => false

def CT.weak : CT → CT
  | .him e => .imm e
  | t => t

def fitsB : List CT → List (AV E) → Bool
  | [], [] => true
  | t :: ts, v :: vs => t.fits v && fitsB ts vs
  | _, _ => false

theorem CT.fits_un {t : CT} {v : AV E} (h : t.fits v = true) {R : Type} (r : R) : ∃ y, t.un v r = some y := by
  unfold CT.fits at h
  split at h
  · rename_i k k' n
    have hk := of_decide_eq_true h
    subst hk
    simp only [CT.un]
    split
    · exact ⟨_, rfl⟩
    · rename_i hn _
      exact (hn rfl).elim
  · exact ⟨_, rfl⟩
  · exact ⟨_, rfl⟩
  · rename_i e e' xs
    have hk := Nat.eq_of_beq_eq_true h
    subst hk
    simp only [CT.un]
    split
    · exact ⟨_, rfl⟩
    · rename_i hn _
      exact (hn rfl).elim
  · rename_i e e' xs
    have hk := Nat.eq_of_beq_eq_true h
    subst hk
    simp only [CT.un]
    split
    · exact ⟨_, rfl⟩
    · rename_i hn _
      exact (hn rfl).elim
  · cases h

theorem CT.fits_weak {t : CT} {v : AV E} (h : t.fits v = true) : t.weak.fits v.weak = true := by
  unfold CT.fits at h
  split at h
  · exact h
  · rfl
  · rfl
  · exact h
  · exact h
  · cases h

theorem fitsB_un : ∀ {ts : List CT} {vs : List (AV E)}, fitsB ts vs = true → ∀ {R : Type} (r : R), ∃ y, unC ts vs r = some y
  | [], [], _, R, r => ⟨r, rfl⟩
  | [], _ :: _, h, _, _ => by cases h
  | _ :: _, [], h, _, _ => by cases h
  | t :: ts, v :: vs, h, R, r => by
    simp only [fitsB, Bool.and_eq_true] at h
    obtain ⟨y, hy⟩ := fitsB_un h.2 r
    obtain ⟨z, hz⟩ := CT.fits_un h.1 y
    exact ⟨z, by simp only [unC, hy, Option.bind_some, hz]⟩

theorem fitsB_weak : ∀ {ts : List CT} {vs : List (AV E)}, fitsB ts vs = true → fitsB (ts.map CT.weak) (vs.map AV.weak) = true
  | [], [], _ => rfl
  | [], _ :: _, h => by cases h
  | _ :: _, [], h => by cases h
  | t :: ts, v :: vs, h => by
    simp only [fitsB, Bool.and_eq_true] at h
    simp only [List.map_cons, fitsB, CT.fits_weak h.1, fitsB_weak h.2, Bool.and_self]

theorem fitsB_append : ∀ {ts ts' : List CT} {vs vs' : List (AV E)}, fitsB ts vs = true → fitsB ts' vs' = true → fitsB (ts ++ ts') (vs ++ vs') = true
  | [], ts', [], vs', _, h => h
  | [], _, _ :: _, _, h, _ => by cases h
  | _ :: _, _, [], _, h, _ => by cases h
  | t :: ts, ts', v :: vs, vs', h, h' => by
    simp only [fitsB, Bool.and_eq_true] at h
    simp only [List.cons_append, fitsB, h.1, fitsB_append h.2 h', Bool.and_self]

theorem fitsB_len : ∀ {ts : List CT} {vs : List (AV E)}, fitsB ts vs = true → ts.length = vs.length
  | [], [], _ => rfl
  | [], _ :: _, h => by cases h
  | _ :: _, [], h => by cases h
  | t :: ts, v :: vs, h => by
    simp only [fitsB, Bool.and_eq_true] at h
    simp [fitsB_len h.2]
end

section
variable {C : Cfg}

/-! ### The shape of a type -/

def shC (C : Cfg) : Nat → TypeId → List CT
  | 0, _ => []
  | n + 1, t => match C.T t with
    | some ti => match ti.d with
      | .int k => [.int k]
      | .bool => [.bool]
      | .str => [.str]
      | .slice e => [.him e]
      | .array m e => (List.replicate m (shC C n e)).flatten
      | .struct fs => (fs.map fun f => shC C n f.1).flatten
      | _ => []
    | none => []

def offB (C : Cfg) (ok : TypeId → Bool) : Nat → List (TypeId × Nat) → Option Nat
  | acc, [] => some acc
  | acc, (ft, off) :: r => match Nat.beq off acc && ok ft with
    | true => offB C ok (acc + sizeT C ft) r
    | false => none

def okT (C : Cfg) (el : TypeId → Bool) : Nat → TypeId → Bool
  | 0, _ => false
  | n + 1, t => match C.T t with
    | some ti => match ti.d with
      | .int _ => true
      | .bool => true
      | .str => true
      | .slice e => el e && okT C el n e
      | .array m e => okT C el n e && Nat.beq ti.size (m * sizeT C e)
      | .struct fs => match offB C (okT C el n) 0 fs with
        | some k => Nat.beq k ti.size
        | none => false
      | _ => false
    | none => false

variable {H : Type} {enc : TypeId × Value → H} {w : World}

/-- All that stands when the call begins is only read. -/
def ctx0 (w : World) : Ctx := ⟨0, fun _ => none, fun k => k < w.heap.size, fun k => k < w.heap.size⟩

theorem cellsOf_T (hC : CfgOK C) {t : TypeId} {ti : TI C.E} (hT : C.T t = some ti) : C.P.cellsOf t = ti.size := by
  obtain ⟨i, d, z, h1, _, h3, _⟩ := (hC.T _ _ hT).ex
  simp [Program.cellsOf, h1, h3]

theorem sizeT_T {t : TypeId} {ti : TI C.E} (hT : C.T t = some ti) : sizeT C t = ti.size := by simp [sizeT, hT]

theorem okT_T {el : TypeId → Bool} {n : Nat} {t : TypeId} (h : okT C el n t = true) : ∃ ti, C.T t = some ti := by
  cases n with
  | zero => cases h
  | succ n =>
    simp only [okT] at h
    split at h
    · rename_i ti hT; exact ⟨ti, hT⟩
    · cases h

theorem drop_getD {α : Type} (l : List α) (k j : Nat) (x : α) : (l.drop k).getD j x = l.getD (k + j) x := by
  simp [List.getD_eq_getElem?_getD]

theorem take_drop_getD {α : Type} (l : List α) (k n j : Nat) (x : α) (h : j < n) : ((l.drop k).take n).getD j x = l.getD (k + j) x := by
  simp [List.getD_eq_getElem?_getD, h]

def CellsR (C : Cfg) (w : World) (ts : List CT) (cs : List Value) : Prop :=
  ∃ ys : List (AV C.E), ys.length = cs.length ∧ (∀ j (h : j < ys.length), R C (ctx0 w) w ys[j] (cs.getD j undef)) ∧ fitsB ts ys = true

theorem CellsR.cat {ts ts' : List CT} {cs : List Value} {k : Nat} (hk : k ≤ cs.length) (a : CellsR C w ts (cs.take k)) (b : CellsR C w ts' (cs.drop k)) : CellsR C w (ts ++ ts') cs := by
  obtain ⟨ys, a1, a2, a3⟩ := a
  obtain ⟨zs, b1, b2, b3⟩ := b
  have hlen : ys.length = k := by rw [a1, List.length_take]; omega
  refine ⟨ys ++ zs, by simp only [List.length_append, a1, b1, List.length_take, List.length_drop]; omega, fun j hj => ?_, fitsB_append a3 b3⟩
  rcases Nat.lt_or_ge j ys.length with h | h
  · rw [List.getElem_append_left h]
    have := a2 j h
    rwa [show (cs.take k).getD j undef = cs.getD j undef by simp [List.getD_eq_getElem?_getD, show j < k by omega]] at this
  · rw [List.getElem_append_right h]
    have hj' : j - ys.length < zs.length := by
      have := hj
      simp only [List.length_append] at this
      omega
    have := b2 (j - ys.length) hj'
    rwa [drop_getD, show k + (j - ys.length) = j by omega] at this

theorem fields_R {m : Nat} {ok : TypeId → Bool} {cs : List Value} {n : Nat}
    (ih : ∀ t cs, ok t = true → (∃ x, DataW.trod enc C.P w 0 (fun _ => true) true m t cs = some x) → cs.length = sizeT C t ∧ CellsR C w (shC C n t) cs) :
    ∀ (fs : List (TypeId × Nat)) (acc k : Nat), offB C ok acc fs = some k → acc ≤ cs.length → k = cs.length →
      (∀ (j ft off : Nat), fs[j]? = some (ft, off) → ∃ x, DataW.trod enc C.P w 0 (fun _ => true) true m ft ((cs.drop off).take (sizeT C ft)) = some x) →
      CellsR C w ((fs.map fun f => shC C n f.1).flatten) (cs.drop acc)
  | [], acc, k, h, _, hk, _ => by
    simp only [offB, Option.some.injEq] at h
    refine ⟨[], by simp; omega, fun j hj => absurd hj (Nat.not_lt_zero _), rfl⟩
  | (ft, off) :: fs, acc, k, h, ha, hk, hx => by
    simp only [offB] at h
    split at h
    · rename_i hb
      obtain ⟨hb1, hb2⟩ := and_split hb
      have ho := Nat.eq_of_beq_eq_true hb1
      subst ho
      obtain ⟨l1, r1⟩ := ih ft _ hb2 (hx 0 ft off rfl)
      have hle : off + sizeT C ft ≤ cs.length := by
        simp only [List.length_take, List.length_drop] at l1
        by_cases hz : sizeT C ft = 0 <;> omega
      have r2 := fields_R ih fs (off + sizeT C ft) k h hle hk (fun j ft' off' hj => hx (j + 1) ft' off' (by simpa using hj))
      simp only [List.map_cons, List.flatten_cons]
      refine CellsR.cat (k := sizeT C ft) (by simp; omega) r1 ?_
      rwa [List.drop_drop]
    · cases h

theorem rows_R {m : Nat} {cs : List Value} {n : Nat} {e : TypeId}
    (ih : ∀ cs, (∃ x, DataW.trod enc C.P w 0 (fun _ => true) true m e cs = some x) → cs.length = sizeT C e ∧ CellsR C w (shC C n e) cs) :
    ∀ (q i : Nat), cs.length = (i + q) * sizeT C e → (∀ j, j < q → ∃ x, DataW.trod enc C.P w 0 (fun _ => true) true m e ((cs.drop ((i + j) * sizeT C e)).take (sizeT C e)) = some x) →
      CellsR C w ((List.replicate q (shC C n e)).flatten) (cs.drop (i * sizeT C e))
  | 0, i, hl, _ => ⟨[], by simp at hl ⊢; omega, fun j hj => absurd hj (Nat.not_lt_zero _), rfl⟩
  | q + 1, i, hl, hx => by
    obtain ⟨l1, r1⟩ := ih _ (hx 0 (by omega))
    rw [Nat.add_zero] at l1 r1
    have r2 := rows_R ih q (i + 1) (by rw [hl]; congr 1; omega) (fun j hj => by
      have := hx (j + 1) (by omega)
      rwa [show i + (j + 1) = i + 1 + j by omega] at this)
    rw [List.replicate_succ, List.flatten_cons]
    have hle : sizeT C e ≤ (cs.drop (i * sizeT C e)).length := by
      rw [List.length_drop, hl, Nat.add_mul, Nat.add_mul, Nat.one_mul]
      omega
    refine CellsR.cat (k := sizeT C e) hle r1 ?_
    rw [List.drop_drop]
    rwa [Nat.add_mul, Nat.one_mul] at r2

theorem seq_exists {α : Type} {Q : Nat → α → Prop} : ∀ (n : Nat), (∀ i, i < n → ∃ x, Q i x) → ∃ l : List α, l.length = n ∧ ∀ i (h : i < l.length), Q i l[i]
  | 0, _ => ⟨[], rfl, fun i h => absurd h (Nat.not_lt_zero _)⟩
  | n + 1, h => by
    obtain ⟨l, h1, h2⟩ := seq_exists n (fun i hi => h i (by omega))
    obtain ⟨x, hx⟩ := h n (by omega)
    refine ⟨l ++ [x], by simp [h1], fun i hi => ?_⟩
    rcases Nat.lt_or_ge i l.length with h3 | h3
    · rw [List.getElem_append_left h3]; exact h2 i h3
    · have : i = n := by simp at hi; omega
      subst this
      rw [List.getElem_append_right h3]
      simpa [h1] using hx

theorem cells_R (hC : CfgOK C) {el : TypeId → Bool} {D : Nat} (hel : ∀ e ys, el e = true → ∀ n, n ≤ D → okT C el n e = true → fitsB (shC C n e) ys = true → ∃ x, C.dec e ys = some x) :
    ∀ (n : Nat), n ≤ D → ∀ (t : TypeId), okT C el n t = true → ∀ (m : Nat) (cs : List Value) (x : DataW H × List MemPlace), DataW.trod enc C.P w 0 (fun _ => true) true m t cs = some x →
      cs.length = sizeT C t ∧ CellsR C w (shC C n t) cs
  | 0, _, t, h, m, cs, x, hx => by cases h
  | n + 1, hn, t, h, m, cs, x, hx => by
    have ih := fun t h m cs x hx => cells_R hC hel n (by omega) t h m cs x hx
    simp only [okT] at h
    cases hT : C.T t with
    | none => rw [hT] at h; cases h
    | some ti =>
      rw [hT] at h
      simp only at h
      obtain ⟨_, d, _, _, hu, _, _, htd, _⟩ := (hC.T _ _ hT).ex
      have hone := (hC.T _ _ hT).one
      simp only [shC, hT, sizeT_T hT]
      cases hd : ti.d with
      | int k =>
        rw [hd] at htd hone
        simp only [TDOK] at htd
        subst htd
        obtain ⟨i, rfl, _, hw⟩ := DataW.trod_int hu hx
        exact ⟨by rw [hone rfl]; rfl, [.int k i], rfl, fun j hj => by
          have : j = 0 := by simpa using hj
          subst this; exact .int hw, by simp [fitsB, CT.fits]⟩
      | bool =>
        rw [hd] at htd hone
        simp only [TDOK] at htd
        subst htd
        obtain ⟨b, rfl, _⟩ := DataW.trod_bool hu hx
        exact ⟨by rw [hone rfl]; rfl, [.bool b], rfl, fun j hj => by
          have : j = 0 := by simpa using hj
          subst this; exact .bool b, by simp [fitsB, CT.fits]⟩
      | str =>
        rw [hd] at htd hone
        simp only [TDOK] at htd
        subst htd
        obtain ⟨s, rfl, _, hs⟩ := DataW.trod_string hu hx
        exact ⟨by rw [hone rfl]; rfl, [.str _], rfl, fun j hj => by
          have : j = 0 := by simpa using hj
          subst this; exact .str rfl hs, by simp [fitsB, CT.fits]⟩
      | slice e =>
        rw [hd] at htd hone h
        simp only [TDOK] at htd
        subst htd
        obtain ⟨h1, h2⟩ := and_split h
        obtain ⟨te, hte⟩ := okT_T h2
        rcases DataW.trod_slice hu hx with ⟨rfl, _⟩ | ⟨a, len, cap, elems, rest, q, _, rfl, _, _, hlc, hcm, hel2, hrd, _⟩
        · exact ⟨by rw [hone rfl]; rfl, [.him e []], rfl, fun j hj => by
            have : j = 0 := by simpa using hj
            subst this; exact .him0 (Nat.zero_le _) (fun _ => rfl), by simp [fitsB, CT.fits]⟩
        · rw [cellsOf_T hC hte] at hrd
          have hsz := sizeT_T hte
          have hpos := (hC.T _ _ hte).pos
          -- each element
          have one : ∀ i, i < len → ∃ y : C.E e, ∃ cs', (List.range te.size).mapM (fun j => w.cell? ((a.add (i * te.size)).add j)) = some cs' ∧ cs'.length = te.size ∧ (∀ j (hj : j < (C.enc e y).length), R C (ctx0 w) w (C.enc e y)[j] (cs'.getD j undef)) := by
            intro i hi
            have h3 := hrd i hi
            rw [List.getElem?_eq_getElem (by omega)] at h3
            obtain ⟨cs', h4, h5⟩ := Option.bind_eq_some_iff.1 h3
            simp only [World.cells?] at h4
            split at h4
            · obtain ⟨l1, ys, y1, y2, y3⟩ := ih e h2 _ _ _ h5
              obtain ⟨y, hy⟩ := hel e ys h1 n (by omega) h2 y3
              have henc := hC.dec _ _ _ hy
              exact ⟨y, cs', h4, by rw [l1, hsz], fun j hj => by
                have := y2 j (by rw [← henc]; exact hj)
                simp only [henc]
                exact this⟩
            · cases h4
          obtain ⟨ys, y1, y2⟩ := seq_exists len one
          refine ⟨by rw [hone rfl]; rfl, [.him e ys], rfl, fun j hj => ?_, by simp [fitsB, CT.fits]⟩
          have : j = 0 := by simpa using hj
          subst this
          simp only [List.getElem_cons_zero]
          show R C (ctx0 w) w (.him e ys) (.slice (some a) len cap)
          rcases Nat.eq_zero_or_pos len with hz | hz
          · subst hz
            have : ys = [] := List.eq_nil_of_length_eq_zero y1
            subst this
            exact .him0 hcm (fun h => by cases h)
          · -- the address is of a block
            obtain ⟨cs', g1, g2, g3⟩ := y2 0 (by omega)
            have hc0 := mapM_some_get g1 0 0 (by simp [hpos])
            rw [List.getElem?_eq_getElem (by omega)] at hc0
            have e0 : (a.add (0 * te.size)).add 0 = a := by simp [Addr.add]
            rw [e0] at hc0
            have hb : a.block < w.heap.size ∧ a.spot = none := by
              unfold World.cell? at hc0
              split at hc0
              · rename_i hh
                refine ⟨(Array.getElem?_eq_some_iff.1 hh).1, ?_⟩
                cases hs : a.spot with
                | none => rfl
                | some _ => rw [hs] at hc0; simp at hc0
              · cases hc0
            obtain ⟨b, off, sp⟩ := a
            obtain ⟨hb1, hb2⟩ := hb
            simp only at hb1 hb2
            subst hb2
            rw [← y1]
            have hadd : ∀ i j, ((⟨b, off, none⟩ : Addr).add i).add j = ⟨b, off + i + j, none⟩ := by
              intro i j
              simp only [Addr.add]
              by_cases h0 : i = 0 <;> by_cases h1 : j = 0 <;> simp [h0, h1]
            refine .him (fun i j => (w.cell? ⟨b, off + i * sizeT C e + j, none⟩).getD undef) hb1 hb1 (by omega) hcm (fun i j hi hj => ?_) (fun i hi j hj => ?_)
            · obtain ⟨cs', g1, g2, g3⟩ := y2 i hi
              have := mapM_some_get g1 j j (by rw [hsz] at hj; simp [hj])
              rw [hadd, List.getElem?_eq_getElem (by omega)] at this
              rw [hsz, this]; rfl
            · obtain ⟨cs', g1, g2, g3⟩ := y2 i hi
              have hj' : j < te.size := by rw [hC.enc, hsz] at hj; exact hj
              have := mapM_some_get g1 j j (by simp [hj'])
              rw [hadd, List.getElem?_eq_getElem (by omega)] at this
              have := this
              rw [hsz, this]
              have h9 := g3 j hj
              rwa [List.getD_eq_getElem?_getD, List.getElem?_eq_getElem (by omega)] at h9
      | array q e =>
        rw [hd] at htd h
        simp only [TDOK] at htd
        subst htd
        obtain ⟨h1, h2⟩ := and_split h
        have h2 := Nat.eq_of_beq_eq_true h2
        obtain ⟨te, hte⟩ := okT_T h1
        obtain ⟨xs, p, _, _, hl, hxl, hrd⟩ := DataW.trod_array hu hx
        rw [cellsOf_T hC hT] at hl
        rw [cellsOf_T hC hte, ← sizeT_T hte] at hrd
        refine ⟨hl, ?_⟩
        have := rows_R (cs := cs) (n := n) (m := p) (e := e) (w := w) (enc := enc) (C := C) (fun cs ⟨x, hx⟩ => ih e h1 p cs x hx) q 0 (by rw [hl, h2]; simp) (fun j hj => by
          have h5 := hrd j hj
          rw [List.getElem?_eq_getElem (by omega)] at h5
          rw [Nat.zero_add]
          exact ⟨_, h5⟩)
        simpa using this
      | struct fs =>
        rw [hd] at htd h
        obtain ⟨F, rfl, hF⟩ := htd
        simp only at h
        split at h
        · rename_i k hk
          have hkz := Nat.eq_of_beq_eq_true h
          obtain ⟨xs, p, _, _, hl, hxl, hrd⟩ := DataW.trod_struct hu hx
          rw [cellsOf_T hC hT] at hl
          refine ⟨hl, ?_⟩
          have := fields_R (cs := cs) (n := n) (m := p) (w := w) (enc := enc) (C := C) (ok := okT C el n) (fun t cs ht ⟨x, hx⟩ => ih t ht p cs x hx) fs 0 k hk (Nat.zero_le _) (by rw [hl, hkz]) (fun j ft off hj => by
            obtain ⟨f, f1, f2, f3⟩ := hF j ft off hj
            have h5 := hrd j f f1
            have hjl : j < F.size := (Array.getElem?_eq_some_iff.1 f1).1
            rw [List.getElem?_eq_getElem (by omega), f2, f3] at h5
            have hft : okT C el n ft = true := by
              clear hrd hF hl hxl h5 ih hx
              have key : ∀ (fs : List (TypeId × Nat)) (acc k j : Nat), offB C (okT C el n) acc fs = some k → fs[j]? = some (ft, off) → okT C el n ft = true := by
                intro fs
                induction fs with
                | nil => intro acc k j _ hj; simp at hj
                | cons p fs ihf =>
                  intro acc k j ho hj
                  obtain ⟨a, b⟩ := p
                  simp only [offB] at ho
                  split at ho
                  · rename_i hb
                    cases j with
                    | zero => simp at hj; rw [← hj.1]; exact (and_split hb).2
                    | succ j => exact ihf _ _ j ho (by simpa using hj)
                  · cases ho
              exact key fs 0 k j hk hj
            obtain ⟨tf, htf⟩ := okT_T hft
            rw [cellsOf_T hC htf, ← sizeT_T htf] at h5
            exact ⟨_, h5⟩)
          simpa using this
        · cases h
      | other => rw [hd] at h; cases h
      | map k e => rw [hd] at h; cases h
      | ptr => rw [hd] at h; cases h

/-! ### A whole value; all arguments -/

def shV (C : Cfg) (n : Nat) (t : TypeId) : VT := match C.T t with
  | some ti => match ti.d.isAgg with
    | true => .one (.agg ((shC C n t).map CT.weak))
    | false => .one (.one ((shC C n t).headD .bot).weak)
  | none => .one (.one .bot)

/-- Each integer of a value fits its kind. -/
def AV.wf (C : Cfg) : Nat → AV C.E → Prop
  | 0, _ => True
  | _ + 1, .int k i => (Lit.int k i).wf = true
  | n + 1, .imm e xs => ∀ x ∈ xs, ∀ y ∈ C.enc e x, AV.wf C n y
  | n + 1, .him e xs => ∀ x ∈ xs, ∀ y ∈ C.enc e x, AV.wf C n y
  | n + 1, .agg cs => ∀ y ∈ cs, AV.wf C n y
  | _ + 1, _ => True

theorem R.wf {c : Ctx} {x : AV C.E} {v : Value} (h : R C c w x v) : ∀ n, AV.wf C n x := by
  induction h with
  | int h => intro n; cases n with
    | zero => exact trivial
    | succ n => exact h
  | imm f _ _ _ _ hr ih => intro n; cases n with
    | zero => exact trivial
    | succ n =>
      intro x hx y hy
      obtain ⟨i, hi, rfl⟩ := List.getElem_of_mem hx
      obtain ⟨j, hj, rfl⟩ := List.getElem_of_mem hy
      exact ih i hi j hj n
  | agg hl hr ih => intro n; cases n with
    | zero => exact trivial
    | succ n =>
      intro y hy
      obtain ⟨j, hj, rfl⟩ := List.getElem_of_mem hy
      exact ih j hj n
  | imm0 hm ha => intro n; cases n with
    | zero => exact trivial
    | succ n => intro x hx; cases hx
  | him f _ _ _ _ _ hr ih => intro n; cases n with
    | zero => exact trivial
    | succ n =>
      intro x hx y hy
      obtain ⟨i, hi, rfl⟩ := List.getElem_of_mem hx
      obtain ⟨j, hj, rfl⟩ := List.getElem_of_mem hy
      exact ih i hi j hj n
  | him0 hm ha => intro n; cases n with
    | zero => exact trivial
    | succ n => intro x hx; cases hx
  | _ => intro n; cases n <;> exact trivial

theorem value_R (hC : CfgOK C) {el : TypeId → Bool} {D : Nat} (hel : ∀ e ys, el e = true → ∀ n, n ≤ D → okT C el n e = true → fitsB (shC C n e) ys = true → ∃ x, C.dec e ys = some x) {t : TypeId} (ht : okT C el D t = true) {base : Nat} {v : Value} {d : DataW H} {ps : List MemPlace}
    (hval : Value.okWide C.P w .any base t v) (h : DataW.Trod enc C.P w 0 (fun _ => true) true t v d ps) : ∃ x : AV C.E, R C (ctx0 w) w x v ∧ ∀ {R : Type} (r : R), ∃ y, (shV C D t).un x r = some y := by
  obtain ⟨m, hm⟩ := h
  obtain ⟨l1, ys0, y10, y20, y30⟩ := cells_R hC hel D (Nat.le_refl _) t ht m _ _ hm
  obtain ⟨ys, y1, y2, y3⟩ : ∃ ys : List (AV C.E), ys.length = v.cells.toList.length ∧ (∀ j (h : j < ys.length), R C (ctx0 w) w ys[j] (v.cells.toList.getD j undef)) ∧ fitsB ((shC C D t).map CT.weak) ys = true :=
    ⟨ys0.map AV.weak, by simpa using y10, fun j hj => by
      rw [List.getElem_map]
      exact (y20 j (by simpa using hj)).weak, fitsB_weak y30⟩
  obtain ⟨ti, hT⟩ := okT_T ht
  obtain ⟨_, dd, _, _, hu, _, _, htd, _⟩ := (hC.T _ _ hT).ex
  cases hag : ti.d.isAgg with
  | true =>
    have : ∃ cs, v = .agg cs := by
      unfold Value.okWide at hval
      cases hd : ti.d with
      | array n e =>
        rw [hd] at htd
        simp only [TDOK] at htd
        subst htd
        rw [hu] at hval
        obtain ⟨cs, hcs, _⟩ := hval
        exact ⟨cs, hcs⟩
      | struct fs =>
        rw [hd] at htd
        obtain ⟨F, rfl, _⟩ := htd
        rw [hu] at hval
        obtain ⟨cs, hcs, _⟩ := hval
        exact ⟨cs, hcs⟩
      | _ => rw [hd] at hag; cases hag
    obtain ⟨cs, rfl⟩ := this
    have e1 : (Value.agg cs).cells = cs := rfl
    rw [e1] at y1 y2
    refine ⟨.agg ys, .agg (by simpa using y1) (fun j hj => ?_), fun {R} r => ?_⟩
    · have := y2 j hj
      rwa [show cs.toList.getD j undef = cs.getD j undef by rw [List.getD_eq_getElem?_getD, Array.getElem?_toList, Array.getD_eq_getD_getElem?]] at this
    · have hsh : shV C D t = .one (.agg ((shC C D t).map CT.weak)) := by unfold shV; rw [hT]; simp only [hag]
      rw [hsh]
      exact fitsB_un y3 r
  | false =>
    have hs1 := (hC.T _ _ hT).one hag
    have hcl : v.cells.toList.length = 1 := by rw [l1, sizeT_T hT, hs1]
    have hv : v.cells.toList = [v] := by
      cases v with
      | agg cs =>
        -- an aggregate of one cell is no value of a plain type
        exfalso
        unfold Value.okWide at hval
        cases D with
        | zero => cases ht
        | succ D =>
          simp only [okT, hT] at ht
          cases hd : ti.d with
          | int k => rw [hd] at htd; simp only [TDOK] at htd; subst htd; rw [hu] at hval; simp [Cell.okWide, hu, Cell.ok] at hval
          | bool => rw [hd] at htd; simp only [TDOK] at htd; subst htd; rw [hu] at hval; simp [Cell.okWide, hu, Cell.ok] at hval
          | str => rw [hd] at htd; simp only [TDOK] at htd; subst htd; rw [hu] at hval; simp [Cell.okWide, hu, Cell.ok] at hval
          | slice e => rw [hd] at htd; simp only [TDOK] at htd; subst htd; rw [hu] at hval; simp [Cell.okWide, hu, Cell.ok] at hval
          | array n e => rw [hd] at hag; cases hag
          | struct fs => rw [hd] at hag; cases hag
          | other => rw [hd] at ht; cases ht
          | ptr => rw [hd] at ht; cases ht
          | map k e => rw [hd] at ht; cases ht
      | _ => rfl
    rw [hv] at y1 y2
    match ys, y1, y2, y3 with
    | [y], _, y2, y3 =>
      refine ⟨y, by simpa using y2 0 (by simp), fun {R} r => ?_⟩
      have hsh : shV C D t = .one (.one (((shC C D t).map CT.weak).headD .bot)) := by
        unfold shV
        rw [hT]
        simp only [hag]
        cases shC C D t <;> rfl
      rw [hsh]
      generalize (shC C D t).map CT.weak = ts at y3
      match ts, y3 with
      | [t'], y3 =>
        simp only [fitsB, Bool.and_true] at y3
        exact CT.fits_un y3 r
      | [], y3 => cases y3
      | _ :: _ :: _, y3 => simp [fitsB] at y3

theorem args_R (hC : CfgOK C) {el : TypeId → Bool} {D : Nat} (hel : ∀ e ys, el e = true → ∀ n, n ≤ D → okT C el n e = true → fitsB (shC C n e) ys = true → ∃ x, C.dec e ys = some x) {base : Nat} :
    ∀ (ts : List TypeId) (vs : List Value) (ds : List (DataW H)) (ps : List MemPlace), (ts.all (okT C el D)) = true → (∀ (j : Nat) (t : TypeId) (v : Value), ts[j]? = some t → vs[j]? = some v → Value.okWide C.P w .any base t v) →
      DataW.TrodAll enc C.P w 0 (fun _ => true) true ts vs ds ps → ds.length = ts.length ∧ vs.length = ts.length ∧ ∃ xs : List (AV C.E), xs.length = vs.length ∧ (∀ j (_ : j < xs.length), R C (ctx0 w) w xs[j] (vs.getD j undef)) ∧ ∃ y : tysV C.E (ts.map (shV C D)) Unit, unV (ts.map (shV C D)) xs () = some y
  | [], [], [], ps, _, _, _ => ⟨rfl, rfl, [], rfl, fun j hj => absurd hj (Nat.not_lt_zero _), (), rfl⟩
  | t :: ts, v :: vs, d :: ds, ps, hok, hval, h => by
    obtain ⟨p, q, h1, h2, _⟩ := h
    simp only [List.all_cons, Bool.and_eq_true] at hok
    obtain ⟨l1, l2, xs, x1, x2, y, hy⟩ := args_R hC hel ts vs ds q hok.2 (fun j t' v' hj hj' => hval (j + 1) t' v' (by simpa using hj) (by simpa using hj')) h2
    obtain ⟨x, hx, hu⟩ := value_R hC hel hok.1 (hval 0 t v rfl rfl) h1
    obtain ⟨z, hz⟩ := hu y
    refine ⟨by simp [l1], by simp [l2], x :: xs, by simp [x1], fun j hj => ?_, z, ?_⟩
    · cases j with
      | zero => exact hx
      | succ j => simpa using x2 j (by simpa using hj)
    · show (Option.bind (unV (ts.map (shV C D)) xs ()) fun y => (shV C D t).un x y) = some z
      rw [hy]; exact hz
  | [], _ :: _, _, _, _, _, h => by cases h
  | [], [], _ :: _, _, _, _, h => by cases h
  | _ :: _, [], _, _, _, _, h => by cases h
  | _ :: _, _ :: _, [], _, _, _, h => by cases h

/-! ### A law -/

theorem HR_0 {w : World} (hG : Glob C (ctx0 w) w) : HR C (ctx0 w) w [] :=
  ⟨hG, rfl, fun _ _ => rfl, fun _ h => h, fun _ h => h, fun id o h => by simp at h, fun id o loc h => by simp at h, fun i j oi oj li lj h => by simp at h⟩

theorem Le.below {c' : Ctx} {h' : Heap C.E} {w' : World} (l : Le (ctx0 w) ([] : Heap C.E) w c' h' w') : Below w.heap.size w w' :=
  ⟨l.os, l.tape, l.output, l.size, fun k hk => l.frame k hk (by rintro ⟨id, o, loc, h1, _⟩; simp at h1)⟩

theorem law_calls (hC : CfgOK C) {el : TypeId → Bool} {D : Nat} (hel : ∀ e ys, el e = true → ∀ n, n ≤ D → okT C el n e = true → fitsB (shC C n e) ys = true → ∃ x, C.dec e ys = some x) {f : FuncId} {ts : List TypeId} {modes rm : List (List CM)} (hts : (ts.all (okT C el D)) = true)
    {shapes : List VT} (hsh : ts.map (shV C D) = shapes) {g : altTy C.E [⟨shapes, []⟩] → Option (altTy C.E [⟨[vO], []⟩])} (hF : CFOK C f (mkF C ⟨modes, [⟨shapes, []⟩], [⟨[vO], []⟩], rm, []⟩ g))
    (hg : ∀ y : tysV C.E shapes Unit, (∀ x ∈ (embV shapes y).1, AV.wf C 4 x) → g y = some (true, ()))
    {base : Nat} {args : Array Value} {ds : List (DataW H)} {ps : List MemPlace} (hval : ∀ (j : Nat) (t : TypeId) (v : Value), ts[j]? = some t → args.toList[j]? = some v → Value.okWide C.P w .any base t v)
    (h : DataW.TrodAll enc C.P w 0 (fun _ => true) true ts args.toList ds ps) (hG : Glob C (ctx0 w) w) {fn : Func} (hfn : C.P.funcs[f]? = some fn) (hnm : (fn.name == "runtime.NumGoroutine") = false) (hbd : fn.body.isNone = false) : ds.length = ts.length ∧ Calls C.P f args w fun e w' => e = .returned (.bool true) ∧ Below w.heap.size w w' := by
  subst hsh
  obtain ⟨l1, l2, xs, x1, x2, y, hy⟩ := args_R hC hel ts args.toList ds ps hts hval h
  refine ⟨l1, ?_⟩
  have hemb := unV_ok hy
  have hwf : g y = some (true, ()) := hg y (fun x hx => by
    rw [hemb] at hx
    obtain ⟨j, hj, rfl⟩ := List.getElem_of_mem hx
    exact (x2 j hj).wf 4)
  have hr : ∀ j (_ : j < xs.length), R C (ctx0 w) w xs[j] (args.getD j undef) := fun j hj => by
    have := x2 j hj
    rwa [show args.toList.getD j undef = args.getD j undef by rw [List.getD_eq_getElem?_getD, Array.getElem?_toList, Array.getD_eq_getD_getElem?]] at this
  refine Calls.mono ((hF.run (Z := AV C.E × List (Option (Ob C.E))) (ctx0 w) w [] xs args (fun r o => some (r, o)) (.bool true, []) ?_ (HR_0 hG) (by simpa using x1) hr).calls hfn hnm hbd) ?_
  · simp only [mkF]
    have : unAlt [⟨ts.map (shV C D), []⟩] (⟨xs, []⟩ : St C.E) = some y := by
      simp only [unAlt, ST.un, unO, Option.bind_some]
      exact hy
    rw [this]
    simp only [Option.bind_some, hwf]
    rfl
  · rintro e w' ⟨v, r, h', c', rfl, k1, k2, k3, k4⟩
    simp only [Option.some.injEq, Prod.mk.injEq] at k1
    obtain ⟨rfl, rfl⟩ := k1
    cases k2
    exact ⟨rfl, k4.below⟩

theorem trodAll_stays (hl : laidOutB C.P = true) {w' : World} (hb : Below w.heap.size w w') {sp : Nat → Bool} : ∀ {ts : List TypeId} {vs : List Value} {ds : List (DataW H)} {ps : List MemPlace}, (ts.all fun t => C.P.readableRec t && decide (t < C.P.types.size)) = true →
    DataW.TrodAll enc C.P w 0 (fun _ => true) true ts vs ds ps → (∀ p ∈ ps, sp p.block = true) → (∀ p ∈ ps, p.block < w.heap.size) → DataW.TrodAll enc C.P w' 0 sp true ts vs ds ps
  | [], [], [], ps, _, h, _, _ => h
  | t :: ts, v :: vs, d :: ds, ps, hr, h, hs, hp => by
    obtain ⟨p, q, h1, h2, rfl⟩ := h
    simp only [List.all_cons, Bool.and_eq_true, decide_eq_true_eq] at hr
    exact ⟨p, q, Go.WideElems.Trod_stays hl hr.1.1 hr.1.2 h1 (fun x hx => hb.same (hp x (List.mem_append_left _ hx))) (fun x hx => hs x (List.mem_append_left _ hx)),
      trodAll_stays hl hb (by simpa using hr.2) h2 (fun x hx => hs x (List.mem_append_right _ hx)) (fun x hx => hp x (List.mem_append_right _ hx)), rfl⟩
  | [], _ :: _, _, _, _, h, _, _ => by cases h
  | [], [], _ :: _, _, _, h, _, _ => by cases h
  | _ :: _, [], _, _, _, h, _, _ => by cases h
  | _ :: _, _ :: _, [], _, _, h, _, _ => by cases h

/-- What a law's row asks behind the call: it answered true, and what stood before stands still. -/
theorem law_post {f : Func} {s : ChangeSpec} {w' : World} {args : Array Value} {ds : List (DataW H)} {ps : List MemPlace} {tb : TypeId} (hv : s.vars = []) (hr : f.resultTypes = #[tb]) (htb : C.P.underlying tb = some .bool) (hl : laidOutB C.P = true)
    (hts : (f.params.toList.all fun t => C.P.readableRec t && decide (t < C.P.types.size)) = true) (hs : s.fn H (ds ++ []) = { results := [.lit (.bool true)], args := ds })
    (hW : DataW.Whole enc C.P f.params.toList s.vars false w args.toList ds [] ps) (hA : DataW.TrodAll enc C.P w 0 (fun _ => true) true f.params.toList args.toList ds ps) (hb : Below w.heap.size w w') :
    s.post enc C.P f false true false false w args (.bool true) w' := by
  have hlt : ∀ p ∈ ps, p.block < w.heap.size := fun p hp => hA.lt p hp
  have hres : ∀ (b : Nat) (sp : Nat → Bool) (hd : Bool), DataW.TrodAll enc C.P w' b sp hd f.resultTypes.toList ((Value.bool true).resultList f.resultTypes.size) (s.fn H (ds ++ [])).results [] := by
    intro b sp hd
    rw [hs, hr]
    exact Go.ChangeShapes.trodAll_mk1 (shut_bool htb true)
  refine ⟨ds, [], ps, [], ps, [], hW, hres _ _ _, ?_, ?_, World.keptBut_mono (fun p hp => ⟨hp, .inr (.inl hp)⟩) (hb.frame (· ∈ ps)), fun h => by cases h⟩
  · rw [hs]
    exact trodAll_stays hl hb hts hA (fun p hp => by simpa using hlt p hp) hlt
  · rw [hv]
    have : (s.fn H (ds ++ [])).vars = [] := by rw [hs]
    rw [this]
    rfl
end
end Go.AE
