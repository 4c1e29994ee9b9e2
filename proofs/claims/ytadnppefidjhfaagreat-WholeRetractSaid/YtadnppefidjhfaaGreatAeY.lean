/-
  AE, part 4b: copying between slices is sound.
-/
import Derived.Test.YtadnppefidjhfaaGreatAeM
namespace Go.AE
open Go.RowKit

section
variable {C : Cfg} {c : Ctx} {w : World}

theorem Holds_take {e : TypeId} {a : Option Addr} {cap n : Nat} {ys : List (C.E e)} (h : Holds C c w e (.slice a ys.length cap) ys) (hn : n ≤ ys.length) : Holds C c w e (.slice a (ys.take n).length cap) (ys.take n) := by
  obtain ⟨a', cap', h1, h2, h3, h4⟩ := h
  cases h1
  have hl : (ys.take n).length = n := by rw [List.length_take]; omega
  refine ⟨a, cap, rfl, by omega, h3, fun h0 => ?_⟩
  obtain ⟨b, off, f, g1, g2, g3, g4⟩ := h4 (by omega)
  refine ⟨b, off, f, g1, g2, fun i j hi hj => g3 i j (by omega) hj, ?_⟩
  have := RowsR_cut g4 0 n
  simpa using this

theorem set_self {α : Type} {l : List α} {i : Nat} {x : α} (h : l[i]? = some x) : l.set i x = l := by
  apply List.ext_getElem?
  intro j
  by_cases hj : j = i
  · subst hj
    rw [List.getElem?_set_self (lt_of_getElem? h), h]
  · rw [List.getElem?_set_ne (fun e => hj e.symm)]

theorem copyK_ok (hC : CfgOK C) {Z : Type} {h : Heap C.E} {t t2 ty : TypeId} {d x : AV C.E} {vd vx : Value} {K : Eff C.E → Option Z} {z : Z} (hk : copyK C t d x (lookH h) K = some z)
    (hh : HR C c w h) (hd : R C c w d vd) (hx : R C c w x vx) :
    ∃ v e c' w', (Builtin.copy_ #[t, t2] ty #[vd, vx]).run C.P w = .ok v w' ∧ K e = some z ∧ After C c w h c' w' e v := by
  unfold copyK at hk
  split at hk
  · rename_i e eq sz by_ zr id start len hT
    have hu := under_slice hC hT rfl
    split at hk
    · rename_i te e' zs hte hob
      split at hk
      · rename_i heq _
        subst heq
        obtain ⟨hle, hk⟩ := cond_some hk
        have hle : start + len ≤ zs.length := by simpa using hle
        have ho := lookH_some hob
        obtain ⟨ys, rx, hk, hy, _⟩ := readSl_ok hh hk hx
        obtain ⟨ie, hie, hsz⟩ : ∃ ie, C.P.info? e' = some ie ∧ ie.size = sizeT C e' := by
          obtain ⟨ie, h1, h2⟩ := size_info hC hte
          exact ⟨ie, h1, h2.trans (sizeT_eq hte).symm⟩
        have hy0 := hy
        obtain ⟨b, cb, rfl, hy2, hy3, hy4⟩ := hy0
        generalize hm : min ys.length len = m at *
        have hmy : m ≤ ys.length := by omega
        have hml : m ≤ len := by omega
        have htl : (ys.take m).length = m := by rw [List.length_take]; omega
        obtain ⟨g, g1, g2, g3⟩ := firstCells_ok hC (Holds_take hy hmy)
        have e1 := g3 w (fun _ _ _ => rfl)
        rw [htl] at e1 g2
        have e1' : (Builtin.firstCells ie.size m (.slice b ys.length cb)).run C.P w = .ok (flatV C e' m g).toArray w := by
          rw [hsz]
          cases b <;> exact e1
        have hwf : (Lit.int .i64 ((m : Nat) : Int)).wf = true := by
          unfold maxLen at hy3
          simp [Lit.wf, IntKind.min, IntKind.max, IntKind.bits, IntKind.signed]; omega
        have hsame : m = 0 → zs.take start ++ (ys.take m ++ zs.drop (start + m)) = zs := by
          intro h0; subst h0; simp
        rcases R_sl_inv hd with ⟨a', hx0, rfl, hn⟩ | ⟨ca', loc, cs0, e0, fr0, rfl, hsi, hn, hl, hmx, hb, hszb⟩
        · have h0 : m = 0 := by omega
          have hfl : flatV C e' m g = [] := List.eq_nil_of_length_eq_zero (by rw [flatV_len, h0, Nat.zero_mul])
          rw [hfl] at e1'
          refine ⟨.int .i64 (m : Int), _, c, w, ?_, hk, ⟨.int hwf, ?_, ?_, fun _ h => (h rfl).elim⟩⟩
          · subst h0
            cases a' <;> simp [Builtin.copy_, run_underlying hu, sizeOf, typeInfo, hie, Builtin.lenOf, e1', storeCells, goInt]
          · rw [wrH_set ho, hsame h0]
            have : h.set id (some (.arr e' zs)) = h := set_self ho
            simp only [wrH]
            rw [this]; exact hh
          · rw [wrH_set ho, hsame h0]
            have : h.set id (some (.arr e' zs)) = h := set_self ho
            simp only [wrH]
            rw [this]; exact Le.refl _ _ _
        · cases hh.ob _ _ ho with
          | nowhere hs' => rw [hs'] at hsi; cases hsi
          | arr hs' f hc hr =>
            rename_i blk base
            rw [hs'] at hsi
            cases hsi
            obtain ⟨⟨cur, e3, fr, hg, hfz⟩, hnI⟩ := hh.soft _ _ _ ho hs'
            have hfz := soft_free hg hfz
            rw [hg] at hb
            simp only [Option.some.injEq, Obj.cells.injEq] at hb
            rw [← hb.1] at hszb
            have hcur : base + (start + ca') * sizeT C e' ≤ cur.size := hszb
            have hin : ∀ i j, i < zs.length → j < sizeT C e' → base + i * sizeT C e' + j < cur.size := fun i j hi hj => (cell_lt hg (hc i j hi hj)).1
            obtain ⟨cur', s1, s2, s3⟩ := run_storeCells C.P blk e3 fr (flatV C e' m g) (base + start * sizeT C e') 0 cur w hg hfz (by
              rw [flatV_len]
              have h9 : (start + m) * sizeT C e' ≤ (start + ca') * sizeT C e' := Nat.mul_le_mul_right _ (by omega)
              simp only [Nat.add_mul] at h9 hcur ⊢
              omega) (fun v hv => by
              obtain ⟨k, hk3⟩ := List.getElem?_of_mem hv
              exact g2 k v hk3)
            have hnew : (zs.take start ++ (ys.take m ++ zs.drop (start + m))).length = zs.length := by
              simp only [List.length_append, List.length_take, List.length_drop]; omega
            have hget : ∀ i, i < zs.length → (zs.take start ++ (ys.take m ++ zs.drop (start + m)))[i]? = if start ≤ i ∧ i < start + m then (ys.take m)[i - start]? else zs[i]? := by
              intro i hi
              by_cases h1 : i < start
              · rw [List.getElem?_append_left (by rw [List.length_take]; omega), List.getElem?_take, if_pos h1, if_neg (by omega)]
              · rw [List.getElem?_append_right (by rw [List.length_take]; omega), List.length_take, Nat.min_eq_left (by omega)]
                by_cases h2 : i < start + m
                · rw [List.getElem?_append_left (by omega), if_pos ⟨by omega, h2⟩]
                · rw [List.getElem?_append_right (by omega), List.getElem?_drop, htl, if_neg (by omega)]
                  congr 1; omega
            have hkp := keeps_setRow hh ho hs' hg s2
            have hrun : (Builtin.copy_ #[t, t2] ty #[.slice (some ⟨blk, base + start * sizeT C e', none⟩) len ca', .slice b ys.length cb]).run C.P w = .ok (.int .i64 (m : Int)) (w.setRow blk cur') := by
              have hm2 : ys.length.min len = m := hm
              simp [Builtin.copy_, run_underlying hu, sizeOf, typeInfo, hie, Builtin.lenOf, hm2, e1', s1, goInt]
            obtain ⟨p1, p2⟩ := put_obj hh ho hs' hg s2 hfz (o' := .arr e' (zs.take start ++ (ys.take m ++ zs.drop (start + m))))
              (.arr hs' (fun i j => if start ≤ i ∧ i < start + m then g (i - start) j else f i j) (fun i j hi hj => by
                rw [hnew] at hi
                rw [setRow_cell hg, s3 _ (hin i j hi hj), flatV_len]
                by_cases hir : start ≤ i ∧ i < start + m
                · have h9 : start * sizeT C e' ≤ i * sizeT C e' := Nat.mul_le_mul_right _ hir.1
                  have h10 : (i + 1) * sizeT C e' ≤ (start + m) * sizeT C e' := Nat.mul_le_mul_right _ (by omega)
                  rw [Nat.add_mul, Nat.one_mul, Nat.add_mul] at h10
                  rw [if_pos (by omega)]
                  simp only [if_pos hir]
                  rw [show base + i * sizeT C e' + j - (base + start * sizeT C e' + 0) = (i - start) * sizeT C e' + j by rw [Nat.sub_mul]; omega]
                  exact flatV_get (by omega) hj
                · simp only [if_neg hir]
                  rw [if_neg (fun hh => by
                    rcases Nat.lt_or_ge i start with h1 | h1
                    · have h9 : (i + 1) * sizeT C e' ≤ start * sizeT C e' := Nat.mul_le_mul_right _ h1
                      rw [Nat.add_mul, Nat.one_mul] at h9
                      omega
                    · have h9 : (start + m) * sizeT C e' ≤ i * sizeT C e' := Nat.mul_le_mul_right _ (by omega)
                      rw [Nat.add_mul] at h9
                      omega)]
                  exact (cell_lt hg (hc i j hi hj)).2) (fun i hi j hj => by
                have hi' : i < zs.length := by rw [hnew] at hi; exact hi
                have hgi := hget i hi'
                rw [List.getElem?_eq_getElem hi] at hgi
                by_cases hir : start ≤ i ∧ i < start + m
                · simp only [if_pos hir] at hgi ⊢
                  have hlt : i - start < (ys.take m).length := by omega
                  rw [List.getElem?_eq_getElem hlt] at hgi
                  have hE : (zs.take start ++ (ys.take m ++ zs.drop (start + m)))[i] = (ys.take m)[i - start] := by simpa using hgi
                  have := (g1 (i - start) hlt j (by rw [← hE]; exact hj)).keep hkp
                  simp only [hE]
                  exact this
                · simp only [if_neg hir] at hgi ⊢
                  rw [List.getElem?_eq_getElem hi'] at hgi
                  have hE : (zs.take start ++ (ys.take m ++ zs.drop (start + m)))[i] = zs[i] := by simpa using hgi
                  have := (hr i hi' j (by rw [← hE]; exact hj)).keep hkp
                  simp only [hE]
                  exact this))
            refine ⟨_, _, c, _, hrun, hk, ⟨.int hwf, ?_, ?_, fun _ h => (h rfl).elim⟩⟩
            · rw [wrH_set ho]; exact p1
            · rw [wrH_set ho]; exact p2
      · cases hk
    · cases hk
  · cases hk

theorem zero_flat (cells : Array Value) (e : TypeId) (n : Nat) (h : cells.size = sizeT C e) (h0 : 0 < sizeT C e) : (Builtin.zeroCells cells n).toList = flatV C e n fun _ j => cells.getD j undef := by
  unfold Builtin.zeroCells flatV
  rw [Array.toList_map, Array.toList_range, h]
  apply List.map_congr_left
  intro k hk
  have : k % sizeT C e < cells.size := by rw [h]; exact Nat.mod_lt _ h0
  simp [Array.getD, this]

theorem clearK_ok (hC : CfgOK C) {Z : Type} {h : Heap C.E} {t ty : TypeId} {d : AV C.E} {vd : Value} {K : Eff C.E → Option Z} {z : Z} (hk : clearK C t d (lookH h) K = some z)
    (hh : HR C c w h) (hd : R C c w d vd) :
    ∃ v e c' w', (Builtin.clear_ #[t] ty #[vd]).run C.P w = .ok v w' ∧ K e = some z ∧ After C c w h c' w' e v := by
  unfold clearK at hk
  split at hk
  · rename_i e eq sz by_ zr id start len hT
    have hu := under_slice hC hT rfl
    split at hk
    · rename_i te e' zs hte hob
      split at hk
      · rename_i heq _
        subst heq
        cases h4 : C.dec e' te.zero with
        | none => rw [h4] at hk; cases hk
        | some zx =>
          rw [h4] at hk
          obtain ⟨hle, hk⟩ := cond_some hk
          have hle : start + len ≤ zs.length := by simpa using hle
          have ho := lookH_some hob
          obtain ⟨ie, _, zz, hie, _, hse, hby, _, hz, hzl, hzs, hzr, hall, _⟩ := (hC.T _ _ hte).ex
          have hpos := (hC.T _ _ hte).pos
          have hste := sizeT_eq hte
          have henc := hC.dec _ _ _ h4
          have hz1 : zz.cells.size = sizeT C e' := by rw [hzs, hste]
          have hz2 : 0 < sizeT C e' := by rw [hste]; exact hpos
          have hfl := zero_flat (C := C) zz.cells e' len hz1 hz2
          have hsame : len = 0 → zs.take start ++ (List.replicate len zx ++ zs.drop (start + len)) = zs := by
            intro h0; subst h0; simp
          rcases R_sl_inv hd with ⟨a', hx0, rfl, hn⟩ | ⟨ca', loc, cs0, e0, fr0, rfl, hsi, hn, hl, hmx, hb, hszb⟩
          · refine ⟨.tuple #[], _, c, w, ?_, hk, ⟨.tup rfl (fun j hj => absurd hj (Nat.not_lt_zero _)), ?_, ?_, fun _ h => (h rfl).elim⟩⟩
            · subst hx0
              cases a' <;> simp [Builtin.clear_, run_underlying hu]
            · rw [wrH_set ho, hsame hx0]
              have : h.set id (some (.arr e' zs)) = h := set_self ho
              simp only [wrH]
              rw [this]; exact hh
            · rw [wrH_set ho, hsame hx0]
              have : h.set id (some (.arr e' zs)) = h := set_self ho
              simp only [wrH]
              rw [this]; exact Le.refl _ _ _
          · cases hh.ob _ _ ho with
            | nowhere hs' => rw [hs'] at hsi; cases hsi
            | arr hs' f hc hr =>
              rename_i blk base
              rw [hs'] at hsi
              cases hsi
              obtain ⟨⟨cur, e3, fr, hg, hfz⟩, hnI⟩ := hh.soft _ _ _ ho hs'
              have hfz := soft_free hg hfz
              rw [hg] at hb
              simp only [Option.some.injEq, Obj.cells.injEq] at hb
              rw [← hb.1] at hszb
              have hcur : base + (start + ca') * sizeT C e' ≤ cur.size := hszb
              have hin : ∀ i j, i < zs.length → j < sizeT C e' → base + i * sizeT C e' + j < cur.size := fun i j hi hj => (cell_lt hg (hc i j hi hj)).1
              generalize hgg : (fun (_ : Nat) (j : Nat) => zz.cells.getD j undef) = g at hfl
              obtain ⟨cur', s1, s2, s3⟩ := run_storeCells C.P blk e3 fr (flatV C e' len g) (base + start * sizeT C e') 0 cur w hg hfz (by
                rw [flatV_len]
                have h9 : (start + len) * sizeT C e' ≤ (start + ca') * sizeT C e' := Nat.mul_le_mul_right _ (by omega)
                simp only [Nat.add_mul] at h9 hcur ⊢
                omega) (fun v hv => by
                rw [← hfl] at hv
                obtain ⟨k, hk3⟩ := List.getElem?_of_mem hv
                rw [hfl] at hk3
                obtain ⟨i, j, hi, hj, _, rfl⟩ := flatV_some hk3
                rw [← hgg]
                have hjl : j < zz.cells.size := by omega
                have := Array.all_eq_true.1 hall j hjl
                simpa [Array.getD, hjl] using this)
              have hnew : (zs.take start ++ (List.replicate len zx ++ zs.drop (start + len))).length = zs.length := by
                simp only [List.length_append, List.length_take, List.length_drop, List.length_replicate]; omega
              have hget : ∀ i, i < zs.length → (zs.take start ++ (List.replicate len zx ++ zs.drop (start + len)))[i]? = if start ≤ i ∧ i < start + len then some zx else zs[i]? := by
                intro i hi
                by_cases h1 : i < start
                · rw [List.getElem?_append_left (by rw [List.length_take]; omega), List.getElem?_take, if_pos h1, if_neg (by omega)]
                · rw [List.getElem?_append_right (by rw [List.length_take]; omega), List.length_take, Nat.min_eq_left (by omega)]
                  by_cases h2 : i < start + len
                  · rw [List.getElem?_append_left (by simp; omega), if_pos ⟨by omega, h2⟩, List.getElem?_replicate, if_pos (by omega)]
                  · rw [List.getElem?_append_right (by simp; omega), List.getElem?_drop, List.length_replicate, if_neg (by omega)]
                    congr 1; omega
              have hkp := keeps_setRow hh ho hs' hg s2
              have hrun : (Builtin.clear_ #[t] ty #[.slice (some ⟨blk, base + start * sizeT C e', none⟩) len ca']).run C.P w = .ok (.tuple #[]) (w.setRow blk cur') := by
                cases len with
                | zero =>
                  have h8 : flatV C e' 0 g = [] := List.eq_nil_of_length_eq_zero (by rw [flatV_len, Nat.zero_mul])
                  rw [h8] at s1
                  simp [storeCells] at s1
                  simp [Builtin.clear_, run_underlying hu, ← s1]
                | succ len => simp [Builtin.clear_, run_underlying hu, run_zeroValue' hie hz, hfl, s1]
              obtain ⟨p1, p2⟩ := put_obj hh ho hs' hg s2 hfz (o' := .arr e' (zs.take start ++ (List.replicate len zx ++ zs.drop (start + len))))
                (.arr hs' (fun i j => if start ≤ i ∧ i < start + len then g (i - start) j else f i j) (fun i j hi hj => by
                  rw [hnew] at hi
                  rw [setRow_cell hg, s3 _ (hin i j hi hj), flatV_len]
                  by_cases hir : start ≤ i ∧ i < start + len
                  · have h9 : start * sizeT C e' ≤ i * sizeT C e' := Nat.mul_le_mul_right _ hir.1
                    have h10 : (i + 1) * sizeT C e' ≤ (start + len) * sizeT C e' := Nat.mul_le_mul_right _ (by omega)
                    rw [Nat.add_mul, Nat.one_mul, Nat.add_mul] at h10
                    rw [if_pos (by omega)]
                    simp only [if_pos hir]
                    rw [show base + i * sizeT C e' + j - (base + start * sizeT C e' + 0) = (i - start) * sizeT C e' + j by rw [Nat.sub_mul]; omega]
                    exact flatV_get (by omega) hj
                  · simp only [if_neg hir]
                    rw [if_neg (fun hh => by
                      rcases Nat.lt_or_ge i start with h1 | h1
                      · have h9 : (i + 1) * sizeT C e' ≤ start * sizeT C e' := Nat.mul_le_mul_right _ h1
                        rw [Nat.add_mul, Nat.one_mul] at h9
                        omega
                      · have h9 : (start + len) * sizeT C e' ≤ i * sizeT C e' := Nat.mul_le_mul_right _ (by omega)
                        rw [Nat.add_mul] at h9
                        omega)]
                    exact (cell_lt hg (hc i j hi hj)).2) (fun i hi j hj => by
                  have hi' : i < zs.length := by rw [hnew] at hi; exact hi
                  have hgi := hget i hi'
                  rw [List.getElem?_eq_getElem hi] at hgi
                  by_cases hir : start ≤ i ∧ i < start + len
                  · simp only [if_pos hir] at hgi ⊢
                    have hE : (zs.take start ++ (List.replicate len zx ++ zs.drop (start + len)))[i] = zx := by simpa using hgi
                    have hj2 : j < te.zero.length := by
                      have h9 := hj
                      rw [hE, henc] at h9
                      exact h9
                    have := hzr c (w.setRow blk cur') j hj2
                    simp only [hE, henc, ← hgg]
                    exact this
                  · simp only [if_neg hir] at hgi ⊢
                    rw [List.getElem?_eq_getElem hi'] at hgi
                    have hE : (zs.take start ++ (List.replicate len zx ++ zs.drop (start + len)))[i] = zs[i] := by simpa using hgi
                    have := (hr i hi' j (by rw [← hE]; exact hj)).keep hkp
                    simp only [hE]
                    exact this))
              refine ⟨_, _, c, _, hrun, hk, ⟨.tup rfl (fun j hj => absurd hj (Nat.not_lt_zero _)), ?_, ?_, fun _ h => (h rfl).elim⟩⟩
              · rw [wrH_set ho]; exact p1
              · rw [wrH_set ho]; exact p2
      · cases hk
    · cases hk
  · cases hk

end
end Go.AE
