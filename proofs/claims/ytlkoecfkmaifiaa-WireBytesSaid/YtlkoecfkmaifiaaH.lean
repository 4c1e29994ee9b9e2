/-
  Plain laws of the chapter Wire, part 7: frames are read back; what is read is a frame.
-/
import Derived.Test.YtlkoecfkmaifiaaD
namespace Go.AE
open Go.Proofs Go.RowKit
set_option maxRecDepth 100000

theorem unf_frame {k : Int} {d rest : List Int} (hl : d.length ≤ 4096) : unf (frame k d ++ rest) = (k, d, rest, 0) := by
  have e0 : frame k d ++ rest = k :: (uint (d.length : Int) ++ (d ++ (tail4 (crc (k :: bytesF d)) ++ rest))) := by
    simp [frame, summed, bytesF]
  have hr : rd 0 0 ((frame k d ++ rest).drop 1) = ((d.length : Int), d ++ (tail4 (crc (k :: bytesF d)) ++ rest), 0) := by
    rw [e0]
    exact rd_uint (by omega) (by omega) _
  have ht : (tail4 (crc (k :: bytesF d))).length = 4 := rfl
  have hE : endOf (frame k d ++ rest) = (k :: bytesF d).length := by
    unfold endOf
    rw [hr, e0]
    simp only [List.length_cons, List.length_append, bytesF, Int.toNat_natCast]
    omega
  have hfl : (k :: bytesF d).length + 4 = (frame k d).length := by simp [frame, summed, tail4_len]
  have t1 : (frame k d ++ rest).take (k :: bytesF d).length = k :: bytesF d := by
    unfold frame summed
    rw [List.append_assoc, List.take_left']
    rfl
  have t2 : (frame k d ++ rest).take ((k :: bytesF d).length + 4) = frame k d := by
    rw [hfl, List.take_left']
    rfl
  have hne : frame k d ++ rest ≠ [] := by rw [e0]; simp
  unfold unf
  rw [if_neg hne, hE, t1, t2, hr]
  simp only [ne_eq, not_true, if_false]
  rw [if_neg (by omega), if_neg (by simp only [List.length_append, ht]; omega)]
  have : summed (k :: bytesF d) = frame k d := rfl
  rw [if_pos this]
  have h1 : (frame k d ++ rest).headD 0 = k := by rw [e0]; rfl
  rw [h1]
  simp only [Int.toNat_natCast, List.take_left]
  rw [List.drop_length_add_append]
  rfl

theorem frame_byt {k : Int} {d : List Int} (h1 : 0 ≤ k) (h2 : k < 256) (hd : Byt d) (hl : d.length ≤ 100000) : Byt (frame k d) :=
  (Byt.cons h1 h2 (bytesF_byt hd (by omega))).append tail4_byt
theorem frame_len (k : Int) (d : List Int) : (frame k d).length ≤ d.length + 20 := by
  have := bytesF_len d
  simp only [frame, summed, List.length_append, List.length_cons, tail4_len]; omega

theorem wireFrames_plain {k : Int} {d r : List Int} (h1 : 0 ≤ k) (h2 : k < 256) (hd : Byt d) (hr : Byt r) : f8 (k, d, r, ()) = some (true, ()) := by
  unfold f8
  simp only [f13_spec, Option.bind_some, Bool.not_true, cond_false]
  cases c1 : decide ((d.length : Int) > 5000) with
  | true => rfl
  | false =>
    have hl : d.length ≤ 5000 := by simp at c1; omega
    simp only [cond_false]
    cases c2 : decide ((r.length : Int) > 100) with
    | true => rfl
    | false =>
      have hlr : r.length ≤ 100 := by simp at c2; omega
      simp only [cond_false, f24_spec h1 h2 hd (by omega), f25_spec h1 h2 hd (by omega)]
      by_cases h : 4096 < d.length
      · have e : (d.length : Int) > 4096 := by omega
        simp only [if_pos h, e, decide_true, cond_true, Option.bind_some]
        rfl
      · have e : ¬ (d.length : Int) > 4096 := by omega
        have hfl := frame_len k d
        have e1 : roomy (frame k d).length 1 = true := roomy_ok (by omega)
        have e2 : roomy ((frame k d).length + r.length) 1 = true := roomy_ok (by omega)
        have e3 : List.take ((frame k d).length + r.length) (frame k d ++ r) = frame k d ++ r := List.take_of_length_le (by simp)
        have e4 : (frame k d).length + r.length ≤ (frame k d ++ r).length := by simp
        obtain ⟨t1, o1, q1, q2, q3, q4, q5⟩ := f26_spec (b := frame k d ++ r) ((frame_byt h1 h2 hd (by omega)).append hr) (by simp only [List.length_append]; omega)
        rw [unf_frame (by omega)] at q1 q2 q3 q4 q5
        simp only at q1 q2 q3 q4 q5
        simp only [if_neg h, e, decide_false, cond_false, Option.bind_some, Nat.zero_add, Nat.le_refl, decide_true, cond_true, take_len, e1, e2, e4, List.nil_append]
        simp only [List.drop_zero, e3, q1, Option.bind_some, List.drop_zero, q2, q3, q4, q5, decide_true, cond_true, f16]
        simp

end Go.AE
