/-
  AE, part 20: a package variable that is listed with a law: a table of pairs of integers.
-/
import Derived.Test.YthelgkjfdjnmeaaDoorAeW
import Derived.Lib.LaidTab
import Derived.LaidLaws
namespace Go.AE
open Go.RowKit

theorem pairs_cells {H : Type} {enc : TypeId × Value → H} {P : Program} {w : World} {base : Nat} {sp : Nat → Bool} {held : Bool} {fuel : Nat} {t e i : TypeId} {n : Nat} {cs : List Value} {zs : List (Int × Int)} {p : List MemPlace}
    {fs : Array Field} (ht : P.underlying t = some (.array n e)) (he : P.underlying e = some (.struct fs)) (hfs : fs.toList.map (fun f => (f.type, f.offset)) = [(i, 0), (i, 1)]) (hi : P.underlying i = some (.int .i64)) (ci : P.cellsOf i = 1) (ce : P.cellsOf e = 2)
    (h : DataW.trod enc P w base sp held fuel t cs = some (.agg (zs.map fun z => .agg [.lit (.int .i64 z.1), .lit (.int .i64 z.2)]), p)) :
    ∀ j (hj : j < zs.length), cs[2 * j]? = some (.int .i64 zs[j].1) ∧ cs[2 * j + 1]? = some (.int .i64 zs[j].2) ∧ (Lit.int .i64 zs[j].1).wf = true ∧ (Lit.int .i64 zs[j].2).wf = true := by
  cases fuel with
  | zero => simp [DataW.trod] at h
  | succ fuel =>
    simp only [DataW.trod, ht, ce] at h
    split at h
    · rename_i hl
      obtain ⟨xs, hm, hx⟩ := Option.map_eq_some_iff.1 h
      have hxs : xs.map (·.1) = zs.map fun z => (.agg [.lit (.int .i64 z.1), .lit (.int .i64 z.2)] : DataW H) := by
        have := congrArg Prod.fst hx
        simpa using this
      have hxl : xs.length = n := by simpa using Lib.mapM_length hm
      have hzl : zs.length = n := by
        have := congrArg List.length hxs
        simp at this
        omega
      intro j hj
      obtain ⟨b, hb, hf⟩ := Lib.mapM_at hm j j (List.getElem?_range (by omega))
      have hb1 : b.1 = .agg [.lit (.int .i64 zs[j].1), .lit (.int .i64 zs[j].2)] := by
        have h2 : (xs.map (·.1))[j]? = some b.1 := by rw [List.getElem?_map, hb]; rfl
        rw [hxs, List.getElem?_map, List.getElem?_eq_getElem hj] at h2
        exact (Option.some.inj h2).symm
      cases fuel with
      | zero => simp [DataW.trod] at hf
      | succ fuel =>
        simp only [DataW.trod, he] at hf
        split at hf
        · rename_i hl2
          obtain ⟨ys, hm2, hy⟩ := Option.map_eq_some_iff.1 hf
          obtain ⟨f0, f1, hf01⟩ : ∃ f0 f1, fs.toList = [f0, f1] := by
            have hlen := congrArg List.length hfs
            rw [List.length_map] at hlen
            generalize fs.toList = l at hlen
            rcases l with _ | ⟨a, _ | ⟨b, _ | ⟨c, l⟩⟩⟩
            · cases hlen
            · cases hlen
            · exact ⟨a, b, rfl⟩
            · simp at hlen
          rw [hf01] at hfs hm2
          simp only [List.map_cons, List.map_nil, List.cons.injEq, Prod.mk.injEq, and_true] at hfs
          obtain ⟨⟨t0, o0⟩, t1, o1⟩ := hfs
          obtain ⟨b0, hb0, hf0⟩ := Lib.mapM_at hm2 0 f0 rfl
          obtain ⟨b1', hb1', hf1⟩ := Lib.mapM_at hm2 1 f1 rfl
          rw [t0, o0, ci] at hf0
          rw [t1, o1, ci] at hf1
          obtain ⟨z0, hc0, rfl, w0⟩ := DataW.trod_int hi hf0
          obtain ⟨z1, hc1, rfl, w1⟩ := DataW.trod_int hi hf1
          have hys : ys.map (·.1) = [.lit (.int .i64 zs[j].1), .lit (.int .i64 zs[j].2)] := by
            have := congrArg Prod.fst hy
            rw [hb1] at this
            simpa using this
          have e0 : z0 = zs[j].1 := by
            have h2 : (ys.map (·.1))[0]? = some (.lit (.int .i64 z0)) := by rw [List.getElem?_map, hb0]; rfl
            rw [hys] at h2
            simp at h2
            exact h2.symm
          have e1 : z1 = zs[j].2 := by
            have h2 : (ys.map (·.1))[1]? = some (.lit (.int .i64 z1)) := by rw [List.getElem?_map, hb1']; rfl
            rw [hys] at h2
            simp at h2
            exact h2.symm
          subst e0 e1
          have g0 := congrArg (·[0]?) hc0
          have g1 := congrArg (·[0]?) hc1
          simp [List.getElem?_drop] at g0 g1
          rw [Nat.mul_comm] at g0 g1
          exact ⟨g0, g1, w0, w1⟩
        · cases hf
    · cases h

end Go.AE
