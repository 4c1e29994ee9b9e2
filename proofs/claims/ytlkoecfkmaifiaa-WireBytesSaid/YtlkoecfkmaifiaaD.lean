/-
  Plain laws of the chapter Wire, part 4: the fixed results; the laws.
-/
import Derived.Test.YtlkoecfkmaifiaaC
namespace Go.AE
open Go.Proofs Go.RowKit
set_option maxRecDepth 100000

theorem f13_spec : f13 () = some (true, ()) := by
  have b1 : Byt [172, 2, 9] := by unfold Byt; decide
  have b2 : Byt [128] := by unfold Byt; decide
  have b3 : Byt [128, 0] := by unfold Byt; decide
  have b4 : Byt [3] := by unfold Byt; decide
  have b5 : Byt [1, 7, 8] := by unfold Byt; decide
  have b6 : Byt [49, 50, 51, 52, 53, 54, 55, 56, 57] := by unfold Byt; decide
  have r1 : rd 0 0 [172, 2, 9] = (300, [9], 0) := by decide +kernel
  have r2 : rd 0 0 [128] = (0, [], 4) := by decide +kernel
  have r3 : rd 0 0 [128, 0] = (0, [], 3) := by decide +kernel
  have r4 : rdi [3] = (-2, [], 0) := by decide +kernel
  have r5 : rdb [1, 7, 8] 5 = ([7], [8], 0) := by decide +kernel
  have r6 : crc [49, 50, 51, 52, 53, 54, 55, 56, 57] = 3421780262 := by decide +kernel
  have r7 : uint 300 = [172, 2] := by decide +kernel
  have r8 : uint (zig (-2)) = [3] := by decide +kernel
  have r9 : bytesF [7] = [1, 7] := by decide +kernel
  have r10 : unf (frame 1 []) = (1, [], [], 0) := by decide +kernel
  have r11 : (frame 1 []).length = 6 := by decide +kernel
  have bf : Byt (frame 1 []) := (Byt.cons (by omega) (by omega) (bytesF_byt (fun x hx => by cases hx) (by decide))).append tail4_byt
  have s1 := f15_spec b1 (by decide)
  have s2 := f15_spec b2 (by decide)
  have s3 := f15_spec b3 (by decide)
  have s4 := f19_spec b4 (by decide)
  have s6 := f22_spec b6 (by decide)
  have s7 := f14_spec (n := 300) (by decide) (by decide)
  have s8 := f18_spec (n := -2) (by decide) (by decide)
  have s9 := f28_spec (b := [7]) (by decide)
  have s11 : f24 (1, [], ()) = some ((frame 1 []).length, 0, frame 1 [], ()) := f24_spec (k := 1) (b := []) (by omega) (by omega) (fun x hx => by cases hx) (by decide)
  obtain ⟨t1, o1, h1, h2, h3, h4, h5⟩ := f26_spec bf (by rw [r11]; decide)
  obtain ⟨t2, o2, k1, k2, k3, k4, k5⟩ := f29_spec (most := 5) b5 (by decide) (by decide) (by decide)
  rw [r10] at h1 h2 h3 h4 h5
  rw [r5] at k1 k2 k3 k4 k5
  rw [r1] at s1; rw [r2] at s2; rw [r3] at s3; rw [r4] at s4; rw [r6] at s6; rw [r7] at s7; rw [r8] at s8; rw [r9] at s9
  simp only [List.length_cons, List.length_nil, Nat.zero_add] at k1 k2 k3 k4 k5 h1 h2 h3 h4 h5
  have e6 : List.take 6 (frame 1 []) = frame 1 [] := List.take_of_length_le (by rw [r11]; decide)
  unfold f13
  simp only [s1, s2, s3, s4, s6, s7, s8, s11, rdR, Option.bind_some, Nat.zero_add, Nat.le_refl, decide_true, cond_true, h1, k1, k2, k3, k4, k5, f16, List.length_cons, List.length_nil, List.drop_zero, s9, r11, e6, List.take_succ_cons, List.take_zero]
  rfl

theorem wireSums_plain {b : List Int} (hb : Byt b) : f6 (b, ()) = some (true, ()) := by
  unfold f6
  simp only [f13_spec, Option.bind_some, Bool.not_true, cond_false]
  cases hd : decide ((b.length : Int) > 5000) with
  | true => rfl
  | false =>
    have hl : b.length ≤ 1000000 := by simp at hd; omega
    simp only [cond_false, f22_spec hb hl, f23_spec hb hl, Option.bind_some]
    simp

theorem wireReads_plain {b : List Int} (hb : Byt b) : f4 (b, ()) = some (true, ()) := by
  unfold f4
  simp only [f13_spec, Option.bind_some, Bool.not_true, cond_false]
  cases hd : decide ((b.length : Int) > 100) with
  | true => rfl
  | false =>
    have hl : b.length ≤ 1000000 := by simp at hd; omega
    simp only [cond_false, f15_spec hb hl, f17_spec hb hl, rdR, Option.bind_some]
    have hlen : b.length ≤ 100 := by simp at hd; omega
    have hv := rd_lt hb
    have hrl := rd_len b 0 0
    have hback := rd_back b 0 0 (rd 0 0 b).1 (rd 0 0 b).2.1 hb (by omega)
    have hu := uint_len (rd 0 0 b).1
    have e4 : roomy ((uint (rd 0 0 b).1).length + (rd 0 0 b).2.1.length) 1 = true := roomy_ok (by omega)
    have e5 : (uint (rd 0 0 b).1).length + (rd 0 0 b).2.1.length = (uint (rd 0 0 b).1 ++ (rd 0 0 b).2.1).length := by simp
    simp only [bne_self_eq_false, cond_false, Nat.zero_add, Nat.le_refl, decide_true, cond_true, take_len, f16, Bool.not_true, f14_spec hv.1 hv.2, Option.bind_some, e4]
    simp only [e5, Nat.le_refl, decide_true, cond_true, take_len]
    by_cases h : (rd 0 0 b).2.2 = 0
    · obtain ⟨n, a1, a2, a3, _, _⟩ := hback (Prod.ext rfl (Prod.ext rfl h))
      have e1 : ((rd 0 0 b).2.2 != 0) = false := by simp [h]
      have a2 : (rd 0 0 b).1 = n := by simpa using a2
      have a3 : b = uint n ++ (rd 0 0 b).2.1 := a3
      rw [e1, cond_false]
      have : uint (rd 0 0 b).1 ++ (rd 0 0 b).2.1 = b := by rw [a2]; exact a3.symm
      rw [this]
      simp
    · have e1 : ((rd 0 0 b).2.2 != 0) = true := by simp [h]
      rw [e1, cond_true]

theorem byt_of {xs : List Int} (h : ∀ x ∈ xs, IntKind.u8.min ≤ x ∧ x ≤ IntKind.u8.max) : Byt xs := fun x hx => by
  have := h x hx
  simp only [IntKind.min, IntKind.max, IntKind.signed, IntKind.bits] at this
  simp at this
  omega

end Go.AE
