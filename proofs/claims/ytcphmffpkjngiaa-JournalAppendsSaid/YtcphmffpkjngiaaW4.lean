/-
  Plain laws of the chapter Journal, part 4: frames, torn and changed.
-/
import Derived.Test.YtcphmffpkjngiaaW3
namespace Go.AE
open Go.Proofs Go.RowKit
set_option maxRecDepth 100000

theorem crc_other {l : List Int} {k : Nat} {c : Int} (hl : Byt l) (h1 : 0 ≤ c) (h2 : c < 256) (hk : k < l.length) (hne : l.getD k 0 ≠ c) : crc l ≠ crc (l.set k c) := by
  have := crcL_other k l (s := 4294967295) hl (by omega) (by omega) h1 h2 hk hne
  unfold crc; omega

theorem Byt.set {l : List Int} (hl : Byt l) {k : Nat} {c : Int} (h1 : 0 ≤ c) (h2 : c < 256) : Byt (l.set k c) := fun x hx => by
  rcases List.mem_or_eq_of_mem_set hx with h | h
  · exact hl x h
  · subst h; exact ⟨h1, h2⟩

theorem unf_frame {k : Int} {d rest : List Int} (hl : d.length ≤ 4096) : unf (frame k d ++ rest) = (k, d, rest, 0) := by
  have e0 : frame k d ++ rest = k :: (uint (d.length : Int) ++ (d ++ (tail4 (crc (k :: bytesF d)) ++ rest))) := by
    simp [frame, summed, bytesF]
  have hr : rd 0 0 ((frame k d ++ rest).drop 1) = ((d.length : Int), d ++ (tail4 (crc (k :: bytesF d)) ++ rest), 0) := by
    rw [e0]
    exact rd_uint (by omega) (by omega) _
  have ht : (tail4 (crc (k :: bytesF d))).length = 4 := rfl
  have hE : endOf (frame k d ++ rest) = (k :: bytesF d).length := by
    unfold endOf
    rw [hr, e0]
    simp only [List.length_cons, List.length_append, bytesF, Int.toNat_natCast]
    omega
  have hfl : (k :: bytesF d).length + 4 = (frame k d).length := by simp [frame, summed, tail4_len]
  have t1 : (frame k d ++ rest).take (k :: bytesF d).length = k :: bytesF d := by
    unfold frame summed
    rw [List.append_assoc, List.take_left']
    rfl
  have t2 : (frame k d ++ rest).take ((k :: bytesF d).length + 4) = frame k d := by
    rw [hfl, List.take_left']
    rfl
  have hne : frame k d ++ rest ≠ [] := by rw [e0]; simp
  unfold unf
  rw [if_neg hne, hE, t1, t2, hr]
  simp only [ne_eq, not_true, if_false]
  rw [if_neg (by omega), if_neg (by simp only [List.length_append, ht]; omega)]
  have : summed (k :: bytesF d) = frame k d := rfl
  rw [if_pos this]
  have h1 : (frame k d ++ rest).headD 0 = k := by rw [e0]; rfl
  rw [h1]
  simp only [Int.toNat_natCast, List.take_left]
  rw [List.drop_length_add_append]
  rfl

theorem frame_byt {k : Int} {d : List Int} (h1 : 0 ≤ k) (h2 : k < 256) (hd : Byt d) (hl : d.length ≤ 100000) : Byt (frame k d) :=
  (Byt.cons h1 h2 (bytesF_byt hd (by omega))).append tail4_byt
theorem frame_len (k : Int) (d : List Int) : (frame k d).length ≤ d.length + 20 := by
  have := bytesF_len d
  simp only [frame, summed, List.length_append, List.length_cons, tail4_len]; omega

theorem unf_none {b : List Int} (h : (unf b).2.2.2 ≠ 0) : (unf b).1 = 0 ∧ (unf b).2.1 = [] ∧ (unf b).2.2.1 = [] := by
  unfold unf at *
  split
  · exact ⟨rfl, rfl, rfl⟩
  · rename_i h0
    rw [if_neg h0] at h
    split
    · exact ⟨rfl, rfl, rfl⟩
    · rename_i h1
      rw [if_neg h1] at h
      split
      · exact ⟨rfl, rfl, rfl⟩
      · rename_i h2
        rw [if_neg h2] at h
        split
        · exact ⟨rfl, rfl, rfl⟩
        · rename_i h3
          rw [if_neg h3] at h
          split
          · rename_i h4
            rw [if_pos h4] at h
            exact absurd rfl h
          · exact ⟨rfl, rfl, rfl⟩

theorem unf_back {b : List Int} (hb : Byt b) (h : (unf b).2.2.2 = 0) :
    frame (unf b).1 (unf b).2.1 ++ (unf b).2.2.1 = b ∧ (unf b).2.1.length ≤ 4096 ∧ (0 ≤ (unf b).1 ∧ (unf b).1 < 256) ∧ Byt (unf b).2.1 ∧ (unf b).2.2.1.length ≤ b.length := by
  unfold unf at *
  split at h
  · cases h
  · rename_i h0
    rw [if_neg h0]
    obtain ⟨k, t, rfl⟩ := List.exists_cons_of_ne_nil h0
    have ht : Byt t := fun x hx => hb x (by simp [hx])
    have hk := hb k (by simp)
    have hd1 : (k :: t).drop 1 = t := rfl
    rw [hd1] at h ⊢
    split at h
    · rename_i h1; exact absurd h h1
    · rename_i h1
      rw [if_neg h1]
      have h1 : (rd 0 0 t).2.2 = 0 := by omega
      have hv := rd_lt ht
      have hrl := rd_len t 0 0
      split at h
      · cases h
      · rename_i h2
        rw [if_neg h2]
        split at h
        · cases h
        · rename_i h3
          rw [if_neg h3]
          split at h
          · rename_i h4
            rw [if_pos h4]
            have hvn : (rd 0 0 t).1.toNat ≤ (rd 0 0 t).2.1.length := by omega
            have te := take_end (k := k) ht h1 hvn
            have de := (drop_end (k := k) ht h1).2
            have hrb : Byt (rd 0 0 t).2.1 := by
              obtain ⟨n, _, _, a3, _, _⟩ := rd_back t 0 0 (rd 0 0 t).1 (rd 0 0 t).2.1 ht (by omega) (Prod.ext rfl (Prod.ext rfl h1))
              intro x hx
              exact ht x (by rw [a3]; exact List.mem_append_right _ hx)
            refine ⟨?_, ?_, hk, hrb.take _, ?_⟩
            · show frame k _ ++ _ = _
              unfold frame
              rw [← te, ← de, h4, List.take_append_drop]
            · simp only [List.length_take]; omega
            · simp only [List.length_drop, List.length_cons]; omega
          · cases h

theorem rd_torn : ∀ (k i : Nat) (m n : Int) (j : Nat), 0 ≤ n → n < 128 ^ (k + 1) → i + k ≤ 9 → j < (uintF k n).length → rd i m ((uintF k n).take j) = (0, [], 4)
  | k, i, m, n, 0, _, _, _, _ => rfl
  | 0, i, m, n, j + 1, _, _, _, hj => by simp [uintF] at hj
  | k + 1, i, m, n, j + 1, h1, h2, h3, hj => by
    simp only [uintF] at hj ⊢
    split at hj
    · simp at hj
    · rename_i hn
      rw [if_neg hn, List.take_succ_cons]
      simp only [List.length_cons] at hj
      have e : ¬ (i = 9 ∧ 1 < n % 128 + 128) := by omega
      have e2 : ¬ (n % 128 + 128 < 128) := by omega
      simp only [rd, if_neg e, e2, if_false]
      exact rd_torn k (i + 1) _ (n / 128) j (by omega) (by rw [Int.pow_succ] at h2; omega) (by omega) (by omega)

theorem frame_form (k : Int) (d : List Int) : frame k d = k :: (uint (d.length : Int) ++ (d ++ tail4 (crc (k :: bytesF d)))) := by
  simp [frame, summed, bytesF]

theorem unf_torn {k : Int} {d : List Int} (hl : d.length ≤ 4096) {c : Nat} (hc : c < (frame k d).length) : unf ((frame k d).take c) = (0, [], [], 4) := by
  have hf := frame_form k d
  generalize crc (k :: bytesF d) = s at *
  rw [hf] at hc ⊢
  cases c with
  | zero => rfl
  | succ c =>
    rw [List.take_succ_cons]
    unfold unf
    rw [if_neg (by simp)]
    have hd1 : ∀ t : List Int, (k :: t).drop 1 = t := fun _ => rfl
    rw [hd1]
    simp only [List.length_cons, List.length_append, tail4_len] at hc
    by_cases h : c < (uint (d.length : Int)).length
    · rw [List.take_append_of_le_length (by omega)]
      have : rd 0 0 ((uint (d.length : Int)).take c) = (0, [], 4) := rd_torn 9 0 0 _ c (by omega) (Int.lt_of_lt_of_le (b := 5000) (by omega) (by decide)) (by omega) h
      rw [this]
      simp
    · rw [List.take_append, List.take_of_length_le (by omega), rd_uint (by omega) (by omega)]
      simp only [ne_eq, not_true, if_false]
      rw [if_neg (by omega), if_pos (by simp only [List.length_take, List.length_append, tail4_len]; omega)]

theorem tail4_inj {s t : Int} (h1 : 0 ≤ s ∧ s < 4294967296) (h2 : 0 ≤ t ∧ t < 4294967296) (h : tail4 s = tail4 t) : s = t := by
  simp only [tail4, List.cons.injEq, and_true] at h
  omega

/-- Bytes of the form of a frame. -/
theorem unf_form {k n : Int} {r : List Int} (h1 : 0 ≤ n) (h2 : n ≤ 4096) (h3 : n + 4 ≤ (r.length : Int)) :
    (summed ((k :: (uint n ++ r)).take (1 + (uint n).length + n.toNat)) ≠ (k :: (uint n ++ r)).take (1 + (uint n).length + n.toNat + 4)) → (unf (k :: (uint n ++ r))).2.2.2 = 5 := by
  intro h
  unfold unf
  rw [if_neg (by simp)]
  have hd1 : (k :: (uint n ++ r)).drop 1 = uint n ++ r := rfl
  have he : endOf (k :: (uint n ++ r)) = 1 + (uint n).length + n.toNat := by
    unfold endOf
    rw [hd1, rd_uint h1 (by omega)]
    simp only [List.length_cons, List.length_append]
    omega
  rw [hd1, he, rd_uint h1 (by omega)]
  simp only [ne_eq, not_true, if_false]
  rw [if_neg (by omega), if_neg (by omega), if_neg h]

theorem unf_changed {k : Int} {d : List Int} (h1 : 0 ≤ k) (h2 : k < 256) (hd : Byt d) (hl : d.length ≤ 4096) {K : Nat} {c : Int} (hc1 : 0 ≤ c) (hc2 : c < 256)
    (hK : K = 0 ∨ 1 + (uint (d.length : Int)).length ≤ K) (hK2 : K < (frame k d).length) (hne : (frame k d)[K]'hK2 ≠ c) : (unf ((frame k d).set K c)).2.2.2 = 5 := by
  have hB : Byt (k :: bytesF d) := Byt.cons h1 h2 (bytesF_byt hd (by omega))
  have hlen : (k :: bytesF d).length = 1 + (uint (d.length : Int)).length + d.length := by simp only [bytesF, List.length_cons, List.length_append]; omega
  have hE : (frame k d).length = (k :: bytesF d).length + 4 := by simp [frame, summed, tail4_len]
  have hform : ∃ k' r', (frame k d).set K c = k' :: (uint (d.length : Int) ++ r') ∧ (d.length : Int) + 4 ≤ (r'.length : Int) := by
    rw [frame_form]
    rcases hK with rfl | hK
    · exact ⟨c, _, rfl, by simp only [List.length_append, tail4_len]; omega⟩
    · refine ⟨k, (d ++ tail4 (crc (k :: bytesF d))).set (K - 1 - (uint (d.length : Int)).length) c, ?_, by simp only [List.length_set, List.length_append, tail4_len]; omega⟩
      obtain ⟨j, rfl⟩ : ∃ j, K = j + 1 := ⟨K - 1, by omega⟩
      rw [List.set_cons_succ, List.set_append_right _ _ (by omega)]
      simp
  obtain ⟨k', r', e1, e2⟩ := hform
  have key := unf_form (k := k') (n := (d.length : Int)) (r := r') (by omega) (by omega) e2
  rw [← e1] at key
  apply key
  have e3 : 1 + (uint (d.length : Int)).length + (d.length : Int).toNat = (k :: bytesF d).length := by rw [hlen]; simp
  rw [e3]
  have e4 : ((frame k d).set K c).take ((k :: bytesF d).length + 4) = (frame k d).set K c := List.take_of_length_le (by rw [List.length_set, hE]; exact Nat.le_refl _)
  rw [e4]
  have hfs : frame k d = (k :: bytesF d) ++ tail4 (crc (k :: bytesF d)) := rfl
  by_cases hlt : K < (k :: bytesF d).length
  · have e5 : ((frame k d).set K c) = ((k :: bytesF d).set K c) ++ tail4 (crc (k :: bytesF d)) := by rw [hfs, List.set_append_left _ _ hlt]
    rw [e5]
    have e6 : List.take (k :: bytesF d).length ((k :: bytesF d).set K c ++ tail4 (crc (k :: bytesF d))) = (k :: bytesF d).set K c := by rw [List.take_left' (by simp only [List.length_set])]
    rw [e6]
    unfold summed
    intro hh
    have hh := List.append_cancel_left hh
    have hh := tail4_inj (crc_lt _) (crc_lt _) hh
    have hv : (k :: bytesF d)[K]'hlt ≠ c := by
      have : (frame k d)[K]'hK2 = (k :: bytesF d)[K]'hlt := by
        simp only [hfs, List.getElem_append_left hlt]
      rw [← this]; exact hne
    refine crcL_other K (k :: bytesF d) (s := 4294967295) hB (by omega) (by omega) hc1 hc2 hlt (by rw [List.getD_eq_getElem?_getD, List.getElem?_eq_getElem hlt]; exact hv) ?_
    have g1 := crc_lt (k :: bytesF d)
    unfold crc at hh
    omega
  · have e5 : List.take (k :: bytesF d).length ((frame k d).set K c) = k :: bytesF d := by
      rw [hfs, List.set_append_right _ _ (by omega), List.take_left' rfl]
    rw [e5]
    intro hh
    have hh : frame k d = (frame k d).set K c := hh
    apply hne
    have := List.getElem_set_self (l := frame k d) (i := K) (a := c) (by rw [List.length_set]; exact hK2)
    rw [← this]
    congr 1

end Go.AE
