/-
  Plain laws of the chapter Wire, part 8: what is read is a frame; torn and changed frames; bytes with their length.
-/
import Derived.Test.YtlkoecfkmaifiaaH
import Derived.Test.YtlkoecfkmaifiaaG
namespace Go.AE
open Go.Proofs Go.RowKit
set_option maxRecDepth 100000

/-! ### What is read is a frame -/

theorem unf_none {b : List Int} (h : (unf b).2.2.2 ≠ 0) : (unf b).1 = 0 ∧ (unf b).2.1 = [] ∧ (unf b).2.2.1 = [] := by
  unfold unf at *
  split
  · exact ⟨rfl, rfl, rfl⟩
  · rename_i h0
    rw [if_neg h0] at h
    split
    · exact ⟨rfl, rfl, rfl⟩
    · rename_i h1
      rw [if_neg h1] at h
      split
      · exact ⟨rfl, rfl, rfl⟩
      · rename_i h2
        rw [if_neg h2] at h
        split
        · exact ⟨rfl, rfl, rfl⟩
        · rename_i h3
          rw [if_neg h3] at h
          split
          · rename_i h4
            rw [if_pos h4] at h
            exact absurd rfl h
          · exact ⟨rfl, rfl, rfl⟩

theorem unf_back {b : List Int} (hb : Byt b) (h : (unf b).2.2.2 = 0) :
    frame (unf b).1 (unf b).2.1 ++ (unf b).2.2.1 = b ∧ (unf b).2.1.length ≤ 4096 ∧ (0 ≤ (unf b).1 ∧ (unf b).1 < 256) ∧ Byt (unf b).2.1 ∧ (unf b).2.2.1.length ≤ b.length := by
  unfold unf at *
  split at h
  · cases h
  · rename_i h0
    rw [if_neg h0]
    obtain ⟨k, t, rfl⟩ := List.exists_cons_of_ne_nil h0
    have ht : Byt t := fun x hx => hb x (by simp [hx])
    have hk := hb k (by simp)
    have hd1 : (k :: t).drop 1 = t := rfl
    rw [hd1] at h ⊢
    split at h
    · rename_i h1; exact absurd h h1
    · rename_i h1
      rw [if_neg h1]
      have h1 : (rd 0 0 t).2.2 = 0 := by omega
      have hv := rd_lt ht
      have hrl := rd_len t 0 0
      split at h
      · cases h
      · rename_i h2
        rw [if_neg h2]
        split at h
        · cases h
        · rename_i h3
          rw [if_neg h3]
          split at h
          · rename_i h4
            rw [if_pos h4]
            have hvn : (rd 0 0 t).1.toNat ≤ (rd 0 0 t).2.1.length := by omega
            have te := take_end (k := k) ht h1 hvn
            have de := (drop_end (k := k) ht h1).2
            have hrb : Byt (rd 0 0 t).2.1 := by
              obtain ⟨n, _, _, a3, _, _⟩ := rd_back t 0 0 (rd 0 0 t).1 (rd 0 0 t).2.1 ht (by omega) (Prod.ext rfl (Prod.ext rfl h1))
              intro x hx
              exact ht x (by rw [a3]; exact List.mem_append_right _ hx)
            refine ⟨?_, ?_, hk, hrb.take _, ?_⟩
            · show frame k _ ++ _ = _
              unfold frame
              rw [← te, ← de, h4, List.take_append_drop]
            · simp only [List.length_take]; omega
            · simp only [List.length_drop, List.length_cons]; omega
          · cases h

theorem wireUnframes_plain {b : List Int} (hb : Byt b) : f9 (b, ()) = some (true, ()) := by
  unfold f9
  simp only [f13_spec, Option.bind_some, Bool.not_true, cond_false]
  cases c1 : decide ((b.length : Int) > 5000) with
  | true => rfl
  | false =>
    have hl : b.length ≤ 5000 := by simp at c1; omega
    obtain ⟨s2, obj, q1, q2, q3, q4, q5⟩ := f26_spec (b := b) hb (by omega)
    have p1 := f27_spec (b := b) hb (by omega)
    simp only [cond_false, q1, p1, Option.bind_some, Nat.zero_add, Nat.le_refl, decide_true, cond_true, List.drop_zero, q2, q3, q4, q5, f16, bne_self_eq_false, Bool.not_true, List.take_length]
    by_cases h : (unf b).2.2.2 = 0
    · obtain ⟨b1, b2, b3, b4, b5⟩ := unf_back hb h
      have hf := f24_spec b3.1 b3.2 b4 (by omega)
      rw [if_neg (by omega)] at hf
      have hfl := frame_len (unf b).1 (unf b).2.1
      have e2 : roomy ((frame (unf b).1 (unf b).2.1).length + (unf b).2.2.1.length) 1 = true := roomy_ok (by omega)
      have e3 : ((unf b).2.2.2 != 0) = false := by simp [h]
      have e4 : (frame (unf b).1 (unf b).2.1).length + (unf b).2.2.1.length = (frame (unf b).1 (unf b).2.1 ++ (unf b).2.2.1).length := by simp
      have e5 : (frame (unf b).1 (unf b).2.1).length + (unf b).2.2.1.length ≤ (frame (unf b).1 (unf b).2.1 ++ (unf b).2.2.1).length := by simp
      simp only [hf, Option.bind_some, e3, cond_false, Nat.le_refl, decide_true, cond_true, List.take_length, e2, e5]
      rw [e4, List.take_length, b1]
      simp
    · obtain ⟨z1, z2, z3⟩ := unf_none h
      have e3 : ((unf b).2.2.2 != 0) = true := by simp [h]
      have hf := f24_spec (k := 0) (b := []) (by omega) (by omega) (fun x hx => by cases hx) (by simp)
      rw [if_neg (by simp)] at hf
      simp only [z1, z2, hf, Option.bind_some, e3, cond_true]

/-! ### Torn frames -/

theorem rd_torn : ∀ (k i : Nat) (m n : Int) (j : Nat), 0 ≤ n → n < 128 ^ (k + 1) → i + k ≤ 9 → j < (uintF k n).length → rd i m ((uintF k n).take j) = (0, [], 4)
  | k, i, m, n, 0, _, _, _, _ => rfl
  | 0, i, m, n, j + 1, _, _, _, hj => by simp [uintF] at hj
  | k + 1, i, m, n, j + 1, h1, h2, h3, hj => by
    simp only [uintF] at hj ⊢
    split at hj
    · simp at hj
    · rename_i hn
      rw [if_neg hn, List.take_succ_cons]
      simp only [List.length_cons] at hj
      have e : ¬ (i = 9 ∧ 1 < n % 128 + 128) := by omega
      have e2 : ¬ (n % 128 + 128 < 128) := by omega
      simp only [rd, if_neg e, e2, if_false]
      exact rd_torn k (i + 1) _ (n / 128) j (by omega) (by rw [Int.pow_succ] at h2; omega) (by omega) (by omega)

theorem frame_form (k : Int) (d : List Int) : frame k d = k :: (uint (d.length : Int) ++ (d ++ tail4 (crc (k :: bytesF d)))) := by
  simp [frame, summed, bytesF]

theorem unf_torn {k : Int} {d : List Int} (hl : d.length ≤ 4096) {c : Nat} (hc : c < (frame k d).length) : unf ((frame k d).take c) = (0, [], [], 4) := by
  have hf := frame_form k d
  generalize crc (k :: bytesF d) = s at *
  rw [hf] at hc ⊢
  cases c with
  | zero => rfl
  | succ c =>
    rw [List.take_succ_cons]
    unfold unf
    rw [if_neg (by simp)]
    have hd1 : ∀ t : List Int, (k :: t).drop 1 = t := fun _ => rfl
    rw [hd1]
    simp only [List.length_cons, List.length_append, tail4_len] at hc
    by_cases h : c < (uint (d.length : Int)).length
    · rw [List.take_append_of_le_length (by omega)]
      have : rd 0 0 ((uint (d.length : Int)).take c) = (0, [], 4) := rd_torn 9 0 0 _ c (by omega) (Int.lt_of_lt_of_le (b := 5000) (by omega) (by decide)) (by omega) h
      rw [this]
      simp
    · rw [List.take_append, List.take_of_length_le (by omega), rd_uint (by omega) (by omega)]
      simp only [ne_eq, not_true, if_false]
      rw [if_neg (by omega), if_pos (by simp only [List.length_take, List.length_append, tail4_len]; omega)]

theorem wireTorn_plain {k c : Int} {d : List Int} (h1 : 0 ≤ k) (h2 : k < 256) (hd : Byt d) (hc : 0 ≤ c) (hc2 : c ≤ 65535) : f10 (k, d, c, ()) = some (true, ()) := by
  unfold f10
  simp only [f13_spec, Option.bind_some, Bool.not_true, cond_false]
  cases c1 : decide ((d.length : Int) > 4096) with
  | true => rfl
  | false =>
    have hl : d.length ≤ 4096 := by simp at c1; omega
    have hp : 0 < (frame k d).length := by rw [frame_form]; simp
    have hfl := frame_len k d
    have e0 : (((frame k d).length : Int) == 0) = false := by rw [beq_eq_false_iff_ne]; omega
    have w1 : IntKind.i64.wrap c = c := i64w (by omega) (by omega)
    have w2 : c.tmod ((frame k d).length : Int) = c % ((frame k d).length : Int) := Int.tmod_eq_emod_of_nonneg hc
    have m1 : 0 ≤ c % ((frame k d).length : Int) := Int.emod_nonneg _ (by omega)
    have m2 : c % ((frame k d).length : Int) < ((frame k d).length : Int) := Int.emod_lt_of_pos _ (by omega)
    generalize hcm : c % ((frame k d).length : Int) = cm at *
    have m3 : cm.toNat ≤ (frame k d).length := by omega
    have m4 : cm ≤ ((frame k d).length : Int) := by omega
    have hf := f25_spec h1 h2 hd (by omega)
    rw [if_neg (by omega)] at hf
    obtain ⟨s2, obj, q1, q2, q3, q4, q5⟩ := f26_spec (b := (frame k d).take cm.toNat) ((frame_byt h1 h2 hd (by omega)).take _) (by simp only [List.length_take]; omega)
    have hlt : cm.toNat < (frame k d).length := by omega
    rw [unf_torn hl hlt] at q1
    simp only [cond_false, hf, Option.bind_some, e0, w1, w2, m1, m3, m4, Int.le_refl, decide_true, Bool.and_self, cond_true, Nat.sub_zero, Nat.zero_add, List.drop_zero, q1]
    rfl

/-! ### Changed frames -/

theorem tail4_inj {s t : Int} (h1 : 0 ≤ s ∧ s < 4294967296) (h2 : 0 ≤ t ∧ t < 4294967296) (h : tail4 s = tail4 t) : s = t := by
  simp only [tail4, List.cons.injEq, and_true] at h
  omega

/-- Bytes of the form of a frame. -/
theorem unf_form {k n : Int} {r : List Int} (h1 : 0 ≤ n) (h2 : n ≤ 4096) (h3 : n + 4 ≤ (r.length : Int)) :
    (summed ((k :: (uint n ++ r)).take (1 + (uint n).length + n.toNat)) ≠ (k :: (uint n ++ r)).take (1 + (uint n).length + n.toNat + 4)) → (unf (k :: (uint n ++ r))).2.2.2 = 5 := by
  intro h
  unfold unf
  rw [if_neg (by simp)]
  have hd1 : (k :: (uint n ++ r)).drop 1 = uint n ++ r := rfl
  have he : endOf (k :: (uint n ++ r)) = 1 + (uint n).length + n.toNat := by
    unfold endOf
    rw [hd1, rd_uint h1 (by omega)]
    simp only [List.length_cons, List.length_append]
    omega
  rw [hd1, he, rd_uint h1 (by omega)]
  simp only [ne_eq, not_true, if_false]
  rw [if_neg (by omega), if_neg (by omega), if_neg h]

theorem unf_changed {k : Int} {d : List Int} (h1 : 0 ≤ k) (h2 : k < 256) (hd : Byt d) (hl : d.length ≤ 4096) {K : Nat} {c : Int} (hc1 : 0 ≤ c) (hc2 : c < 256)
    (hK : K = 0 ∨ 1 + (uint (d.length : Int)).length ≤ K) (hK2 : K < (frame k d).length) (hne : (frame k d)[K]'hK2 ≠ c) : (unf ((frame k d).set K c)).2.2.2 = 5 := by
  have hB : Byt (k :: bytesF d) := Byt.cons h1 h2 (bytesF_byt hd (by omega))
  have hlen : (k :: bytesF d).length = 1 + (uint (d.length : Int)).length + d.length := by simp only [bytesF, List.length_cons, List.length_append]; omega
  have hE : (frame k d).length = (k :: bytesF d).length + 4 := by simp [frame, summed, tail4_len]
  have hform : ∃ k' r', (frame k d).set K c = k' :: (uint (d.length : Int) ++ r') ∧ (d.length : Int) + 4 ≤ (r'.length : Int) := by
    rw [frame_form]
    rcases hK with rfl | hK
    · exact ⟨c, _, rfl, by simp only [List.length_append, tail4_len]; omega⟩
    · refine ⟨k, (d ++ tail4 (crc (k :: bytesF d))).set (K - 1 - (uint (d.length : Int)).length) c, ?_, by simp only [List.length_set, List.length_append, tail4_len]; omega⟩
      obtain ⟨j, rfl⟩ : ∃ j, K = j + 1 := ⟨K - 1, by omega⟩
      rw [List.set_cons_succ, List.set_append_right _ _ (by omega)]
      simp
  obtain ⟨k', r', e1, e2⟩ := hform
  have key := unf_form (k := k') (n := (d.length : Int)) (r := r') (by omega) (by omega) e2
  rw [← e1] at key
  apply key
  have e3 : 1 + (uint (d.length : Int)).length + (d.length : Int).toNat = (k :: bytesF d).length := by rw [hlen]; simp
  rw [e3]
  have e4 : ((frame k d).set K c).take ((k :: bytesF d).length + 4) = (frame k d).set K c := List.take_of_length_le (by rw [List.length_set, hE]; exact Nat.le_refl _)
  rw [e4]
  have hfs : frame k d = (k :: bytesF d) ++ tail4 (crc (k :: bytesF d)) := rfl
  by_cases hlt : K < (k :: bytesF d).length
  · have e5 : ((frame k d).set K c) = ((k :: bytesF d).set K c) ++ tail4 (crc (k :: bytesF d)) := by rw [hfs, List.set_append_left _ _ hlt]
    rw [e5]
    have e6 : List.take (k :: bytesF d).length ((k :: bytesF d).set K c ++ tail4 (crc (k :: bytesF d))) = (k :: bytesF d).set K c := by rw [List.take_left' (by simp only [List.length_set])]
    rw [e6]
    unfold summed
    intro hh
    have hh := List.append_cancel_left hh
    have hh := tail4_inj (crc_lt _) (crc_lt _) hh
    have hv : (k :: bytesF d)[K]'hlt ≠ c := by
      have : (frame k d)[K]'hK2 = (k :: bytesF d)[K]'hlt := by
        simp only [hfs, List.getElem_append_left hlt]
      rw [← this]; exact hne
    refine crcL_other K (k :: bytesF d) (s := 4294967295) hB (by omega) (by omega) hc1 hc2 hlt (by rw [List.getD_eq_getElem?_getD, List.getElem?_eq_getElem hlt]; exact hv) ?_
    have g1 := crc_lt (k :: bytesF d)
    unfold crc at hh
    omega
  · have e5 : List.take (k :: bytesF d).length ((frame k d).set K c) = k :: bytesF d := by
      rw [hfs, List.set_append_right _ _ (by omega), List.take_left' rfl]
    rw [e5]
    intro hh
    have hh : frame k d = (frame k d).set K c := hh
    apply hne
    have := List.getElem_set_self (l := frame k d) (i := K) (a := c) (by rw [List.length_set]; exact hK2)
    rw [← this]
    congr 1

theorem wireChanges_plain {k i : Int} {d : List Int} (h1 : 0 ≤ k) (h2 : k < 256) (hd : Byt d) (hi : 0 ≤ i) (hi2 : i ≤ 65535) : f11 (k, d, i, ()) = some (true, ()) := by
  unfold f11
  simp only [f13_spec, Option.bind_some, Bool.not_true, cond_false]
  cases c1 : decide ((d.length : Int) > 4096) with
  | true => rfl
  | false =>
    have hl : d.length ≤ 4096 := by simp at c1; omega
    have hfl := frame_len k d
    have hf := f25_spec h1 h2 hd (by omega)
    rw [if_neg (by omega)] at hf
    have hfe : (frame k d).length = 1 + (uint (d.length : Int)).length + d.length + 4 := by rw [frame_form]; simp only [List.length_cons, List.length_append, tail4_len]; omega
    have w0 : IntKind.i64.wrap ((d.length : Int) + 5) = (d.length : Int) + 5 := i64w (by omega) (by omega)
    have e0 : ((d.length : Int) + 5 == 0) = false := by simp; omega
    have w1 : IntKind.i64.wrap i = i := i64w (by omega) (by omega)
    have w2 : i.tdiv 8 = i / 8 := Int.tdiv_eq_ediv_of_nonneg hi
    have w3 : IntKind.i64.wrap (i / 8) = i / 8 := i64w (by omega) (by omega)
    have w4 : (i / 8).tmod ((d.length : Int) + 5) = i / 8 % ((d.length : Int) + 5) := Int.tmod_eq_emod_of_nonneg (by omega)
    have m1 : 0 ≤ i / 8 % ((d.length : Int) + 5) := Int.emod_nonneg _ (by omega)
    have m2 : i / 8 % ((d.length : Int) + 5) < (d.length : Int) + 5 := Int.emod_lt_of_pos _ (by omega)
    have hj : ∀ K : Nat, (K = 0 ∨ 1 + (uint (d.length : Int)).length ≤ K) → K < (frame k d).length → j11_25 (i, (frame k d).length, (K : Int), frame k d, ()) = some (true, ()) := by
      intro K hK hK2
      have hkb := (frame_byt h1 h2 hd (by omega)) _ (List.getElem_mem hK2)
      have hflip := flip8 hkb.1 hkb.2 (k := (i % 8).toNat) (by omega)
      have v1 : i.tmod 8 = i % 8 := Int.tmod_eq_emod_of_nonneg hi
      have v2 : IntKind.u64.wrap (i % 8) = i % 8 := u64w (by omega) (by omega)
      have v3 : ¬ i % 8 < 0 := by omega
      have v4 : (0 : Int) ≤ (K : Int) := by omega
      have v5 : (K : Int) < ((frame k d).length : Int) := by omega
      have v6 : (frame k d)[K]? = some (frame k d)[K] := List.getElem?_eq_getElem hK2
      generalize hcc : bits .xor .u8 (frame k d)[K] (IntKind.u8.wrap (1 * 2 ^ min (i % 8).toNat 8)) = c at hflip
      have hu := unf_changed h1 h2 hd hl hflip.1 hflip.2.1 hK hK2 (fun h => hflip.2.2 h.symm)
      obtain ⟨s2, obj, q1, q2, q3, q4, q5⟩ := f26_spec (b := (frame k d).set K c) ((frame_byt h1 h2 hd (by omega)).set hflip.1 hflip.2.1) (by simp only [List.length_set]; omega)
      unfold j11_25
      simp only [v1, v2, v3, v4, v5, decide_true, decide_false, Bool.and_self, cond_true, cond_false, Nat.zero_add, Int.toNat_natCast, v6, Option.bind_some, hcc, List.length_set, Nat.le_refl, List.drop_zero]
      rw [List.take_of_length_le (by simp), q1, Option.bind_some, hu]
      rfl
    simp only [cond_false, hf, Option.bind_some, w0, e0, w1, w2, w3, w4]
    by_cases hk0 : i / 8 % ((d.length : Int) + 5) > 0
    · have w5 : IntKind.i64.wrap (IntKind.i64.wrap (IntKind.i64.wrap (IntKind.i64.wrap (((frame k d).length : Int) - (d.length : Int)) - 4) + i / 8 % ((d.length : Int) + 5)) - 1) = (((uint (d.length : Int)).length + (i / 8 % ((d.length : Int) + 5)).toNat : Nat) : Int) := by
        rw [i64w (n := ((frame k d).length : Int) - (d.length : Int)) (by omega) (by omega), i64w (n := ((frame k d).length : Int) - (d.length : Int) - 4) (by omega) (by omega), i64w (n := ((frame k d).length : Int) - (d.length : Int) - 4 + i / 8 % ((d.length : Int) + 5)) (by omega) (by omega), i64w (by omega) (by omega)]
        omega
      simp only [hk0, decide_true, cond_true, w5]
      rw [hj _ (by omega) (by omega)]
      rfl
    · have : i / 8 % ((d.length : Int) + 5) = 0 := by omega
      simp only [this]
      have := hj 0 (.inl rfl) (by omega)
      rw [show ((0 : Nat) : Int) = 0 from rfl] at this
      simp only [this]
      rfl

/-! ### Bytes with their length -/

theorem rdb_bytes (b rest : List Int) (hl : b.length ≤ 100000) : rdb (bytesF b ++ rest) (b.length : Int) = (b, rest, 0) := by
  unfold rdb bytesF
  rw [List.append_assoc, rd_uint (by omega) (by omega)]
  simp only [ne_eq, not_true, if_false]
  rw [if_neg (by split <;> omega), if_neg (by simp only [List.length_append]; omega)]
  simp only [Int.toNat_natCast, List.take_left, List.drop_left]

theorem rdb_full (b : List Int) (hl : b.length ≤ 100000) (h0 : 0 < b.length) : (rdb (bytesF b) ((b.length : Int) - 1)).2.2 = 6 := by
  unfold rdb bytesF
  rw [rd_uint (by omega) (by omega)]
  simp only [ne_eq, not_true, if_false]
  rw [if_pos (by split <;> omega)]

theorem wireBytes_plain {b r : List Int} {most : Int} (hb : Byt b) (hr : Byt r) (hm : -9223372036854775808 ≤ most) (hm2 : most ≤ 9223372036854775807) : f12 (b, r, most, ()) = some (true, ()) := by
  unfold f12
  simp only [f13_spec, Option.bind_some, Bool.not_true, cond_false]
  cases c1 : decide ((b.length : Int) > 1000) with
  | true => rfl
  | false =>
  simp only [cond_false]
  cases c2 : decide ((r.length : Int) > 1000) with
  | true => rfl
  | false =>
    have hl : b.length ≤ 1000 := by simp at c1; omega
    have hl2 : r.length ≤ 1000 := by simp at c2; omega
    have hbl := bytesF_len b
    have hbb := bytesF_byt hb (by omega)
    obtain ⟨s2, obj, q1, q2, q3, q4, q5⟩ := f29_spec (b := bytesF b ++ r) (most := (b.length : Int)) (hbb.append hr) (by simp only [List.length_append]; omega) (by omega) (by omega)
    obtain ⟨t2, obj2, p1, p2, p3, p4, p5⟩ := f29_spec (b := bytesF b) (most := (b.length : Int) - 1) hbb (by omega) (by omega) (by omega)
    obtain ⟨u2, obj3, o1, o2, o3, o4, o5⟩ := f29_spec (b := r) (most := most) hr (by omega) hm hm2
    have n1 := f30_spec (b := r) (most := most) hr (by omega) hm hm2
    rw [rdb_bytes b r (by omega)] at q1 q2 q3 q4 q5
    simp only at q1 q2 q3 q4 q5
    have e1 : roomy (bytesF b).length 1 = true := roomy_ok (by omega)
    have e2 : roomy ((bytesF b).length + r.length) 1 = true := roomy_ok (by omega)
    have e3 : (bytesF b).length + r.length ≤ (bytesF b ++ r).length := by simp
    have e4 : List.take ((bytesF b).length + r.length) (bytesF b ++ r) = bytesF b ++ r := List.take_of_length_le (by simp)
    have w1 : IntKind.i64.wrap ((b.length : Int) - 1) = (b.length : Int) - 1 := i64w (by omega) (by omega)
    have hj : j12_31 ((rdb r most).1.length, u2, (rdb r most).2.1.length, (rdb r most).2.2, (rdb r most).1.length, (rdb r most).2.1.length, (rdb r most).2.2, obj3, (rdb r most).1, (rdb r most).2.1, ()) = some (true, ()) := by
      unfold j12_31
      simp only [Nat.zero_add, Nat.le_refl, decide_true, cond_true, o2, o3, o4, o5, List.drop_zero, List.take_length, f16]
      simp
    simp only [cond_false, f28_spec (b := b) (by omega), Option.bind_some, Nat.zero_add, Nat.le_refl, decide_true, cond_true, List.drop_zero, List.take_length, e1, e2, e3, e4, List.nil_append, q1, w1, p1, o1, n1, q2, q3, q4, q5, f16, bne_self_eq_false, Bool.not_true, hj]
    by_cases h0 : (b.length : Int) > 0
    · have e6 := rdb_full b (by omega) (by omega)
      simp only [h0, decide_true, cond_true, e6, bne_self_eq_false, cond_false]
    · simp only [h0, decide_false, cond_false]

end Go.AE
