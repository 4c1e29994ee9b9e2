/-
  AE, part 19: functions that the model answers in place: internal/bytealg.IndexByte.
-/
import Derived.Test.YtnoammkjjbbajaaGreatAeH
import Derived.Lib.BytesEntry
import Derived.Laws.Externs
namespace Go.AE
open Go.RowKit

/-- The place of the first such byte, or -1. -/
def ixByte : List Int → Int → Int
  | [], _ => -1
  | x :: l, v => if x = v then 0 else if ixByte l v = -1 then -1 else ixByte l v + 1

theorem ixByte_ge (v : Int) : ∀ l : List Int, -1 ≤ ixByte l v
  | [] => by simp [ixByte]
  | x :: l => by
    have := ixByte_ge v l
    unfold ixByte
    split
    · omega
    · split <;> omega
/-- It is not below 0 exactly where the byte stands. -/
theorem ixByte_mem (v : Int) : ∀ l : List Int, 0 ≤ ixByte l v ↔ v ∈ l
  | [] => by simp [ixByte]
  | x :: l => by
    have h1 := ixByte_mem v l
    have h2 := ixByte_ge v l
    unfold ixByte
    by_cases e : x = v
    · simp [e]
    · rw [if_neg e]
      have : v ∈ x :: l ↔ v ∈ l := ⟨fun h => (List.mem_cons.1 h).elim (fun h => (e h.symm).elim) id, fun h => List.mem_cons_of_mem _ h⟩
      rw [this, ← h1]
      split <;> omega

theorem byte_inj {x v : Int} (hx : 0 ≤ x ∧ x ≤ 255) (hv : 0 ≤ v ∧ v ≤ 255) : (UInt8.ofNat x.toNat == v.toNat.toUInt8) = decide (x = v) := by
  rw [Bool.eq_iff_iff, beq_iff_eq, decide_eq_true_eq]
  constructor
  · intro h
    have h2 := congrArg UInt8.toNat h
    simp only [Nat.toUInt8, UInt8.toNat_ofNat'] at h2
    omega
  · rintro rfl; rfl

theorem ixByte_eq {v : Int} (hv : 0 ≤ v ∧ v ≤ 255) : ∀ l : List Int, (∀ x ∈ l, 0 ≤ x ∧ x ≤ 255) → Lib.indexByte (Lib.bytesOf l) v.toNat.toUInt8 = ixByte l v
  | [], _ => rfl
  | x :: l, h => by
    have ih := ixByte_eq hv l (fun y hy => h y (List.mem_cons_of_mem _ hy))
    have hb := byte_inj (h x (List.mem_cons_self ..)) hv
    show (if UInt8.ofNat x.toNat == v.toNat.toUInt8 then (0 : Int) else if Lib.indexByte (Lib.bytesOf l) v.toNat.toUInt8 == -1 then -1 else Lib.indexByte (Lib.bytesOf l) v.toNat.toUInt8 + 1) = _
    rw [hb, ih, show ixByte (x :: l) v = if x = v then 0 else if ixByte l v = -1 then -1 else ixByte l v + 1 from rfl]
    by_cases e : x = v
    · simp [e]
    · simp only [e, decide_false, Bool.false_eq_true, if_false, beq_iff_eq]

section
variable {C : Cfg}

theorem wf_u8 {n : Int} (h : (Lit.int .u8 n).wf = true) : 0 ≤ n ∧ n ≤ 255 := by
  have : IntKind.u8.min ≤ n ∧ n ≤ IntKind.u8.max := by simpa [Lit.wf] using h
  exact this

theorem indexByte_ok (hC : CfgOK C) {e : TypeId} {f : FuncId} {fn : Func} (hf : C.P.funcs[f]? = some fn) (hname : (fn.name == "runtime.NumGoroutine") = false) (hb : fn.body.isNone = true) (hn : Extern.findNext fn = none)
    (hx : Extern.find fn = some Extern.BytealgIndexByte.indexByte) {s : FS} {g : altTy C.E s.ins → Option (altTy C.E s.outs)}
    (hg : ∀ {Z : Type} (args : List (AV C.E)) (obs : List (Option (Ob C.E))) (K : AV C.E → List (Option (Ob C.E)) → Option Z) (z : Z), (mkF C s g).F args obs K = some z →
      ∃ xs l v, args = [.imm e xs, .int .u8 v] ∧ obs = [] ∧ C.bytes e xs = some l ∧ K (.int .i64 (ixByte l v)) [] = some z) : CFOK C f (mkF C s g) := by
  refine ⟨fun {Z} c w h args vs K z hk hh hl hr => .inr ?_⟩
  obtain ⟨xs, l, v, rfl, rfl, hbs, hK⟩ := hg args h K z hk
  have hv2 : vs = #[vs.getD 0 undef, vs.getD 1 undef] := by
    apply Array.ext
    · simpa using hl.symm
    · intro i h1 h2
      have : i = 0 ∨ i = 1 := by simp at h2; omega
      rcases this with rfl | rfl
      · simp [Array.getD, h1]
      · simp [Array.getD, h1]
  have r0 := hr 0 (by simp)
  have r1 := hr 1 (by simp)
  simp only [List.getElem_cons_zero, List.getElem_cons_succ] at r0 r1
  generalize vs.getD 0 undef = v0 at *
  generalize vs.getD 1 undef = v1 at *
  subst hv2
  obtain ⟨hlen, henc⟩ := hC.bytes e xs l hbs
  cases r1 with
  | int hw =>
    have hv := wf_u8 hw
    have res : ∀ o, (Extern.BytealgIndexByte.indexByte #[v0, .int .u8 v]).run C.P w = .ok (.int .i64 o) w → o = ixByte l v →
        ∃ v' w', (callFunc f #[v0, .int .u8 v]).run C.P w = .ok (.value v') w' ∧ ∃ v2 r h' c', Ending.returned v' = .returned v2 ∧ K r h' = some z ∧ R C c' w' r v2 ∧ HR C c' w' h' ∧ Le c [] w c' h' w' := by
      intro o ho he
      refine ⟨.int .i64 o, w, ?_, _, _, [], c, rfl, hK, ?_, hh, Le.refl _ _ _⟩
      · rw [run_callFunc_extern hf hname hb hn hx, ho]; rfl
      · rw [he]
        refine .int ?_
        have h1 := ixByte_ge v l
        have h2 : ∀ l : List Int, ixByte l v < l.length ∨ ixByte l v = -1 := by
          intro l
          induction l with
          | nil => exact .inr rfl
          | cons x l ih =>
            unfold ixByte
            split
            · left; simp
            · split
              · exact .inr rfl
              · left
                rcases ih with h | h
                · simp only [List.length_cons]; omega
                · omega
        have h3 : (l.length : Int) ≤ 9223372036854775807 := by
          rw [hlen]
          cases r0 with
          | imm0 hm ha => simp
          | imm f hI hl' hm hc hr' => unfold maxLen at hm; omega
        have h4 := h2 l
        have : IntKind.i64.min ≤ ixByte l v ∧ ixByte l v ≤ IntKind.i64.max := by
          show (-9223372036854775808 : Int) ≤ _ ∧ _ ≤ (9223372036854775807 : Int)
          omega
        simpa [Lit.wf] using this
    cases r0 with
    | imm0 hm ha =>
      have : l = [] := List.eq_nil_of_length_eq_zero (by rw [hlen]; rfl)
      subst this
      rename_i ad cap
      cases ad with
      | none => exact res (-1) (Lib.run_indexByteNil w 0 cap v) rfl
      | some ad => exact res (-1) (Lib.run_indexByteString (P := C.P) .empty v w) rfl
    | @imm _ _ b off cap F hI hl' hm hc hr' =>
      have one : ∀ i, i < xs.length → sizeT C e = 1 := fun i hi => by
        rw [← hC.enc e xs[i], henc i hi (by omega)]; rfl
      have cell : ∀ i (hi : i < xs.length), w.cell? ⟨b, off + i, none⟩ = some (.int .u8 (l.getD i 0)) ∧ (Lit.int .u8 (l.getD i 0)).wf = true := by
        intro i hi
        have h1 := one i hi
        have h2 := hc i 0 hi (by omega)
        rw [h1, Nat.mul_one, Nat.add_zero] at h2
        have h3 := hr' i hi 0 (by rw [henc i hi (by omega)]; simp)
        have h4 : (C.enc e xs[i])[0]'(by rw [henc i hi (by omega)]; simp) = .int .u8 (l[i]'(by omega)) := by simp [henc i hi (by omega)]
        rw [h4] at h3
        rw [h2]
        have hg2 : l.getD i 0 = l[i]'(by omega) := by rw [List.getD_eq_getElem?_getD, List.getElem?_eq_getElem (by omega)]; rfl
        rw [hg2]
        generalize F i 0 = fv at *
        cases h3 with
        | int hw => exact ⟨rfl, hw⟩
      have hrun := Lib.run_indexByteSlice (P := C.P) w b off xs.length cap l (by omega) (fun i hi => (cell i hi).1) v
      refine res _ hrun (ixByte_eq hv l fun x hx => ?_)
      obtain ⟨i, hi, rfl⟩ := List.getElem_of_mem hx
      have := (cell i (by omega)).2
      rw [List.getD_eq_getElem?_getD, List.getElem?_eq_getElem hi] at this
      exact wf_u8 this

end
end Go.AE
