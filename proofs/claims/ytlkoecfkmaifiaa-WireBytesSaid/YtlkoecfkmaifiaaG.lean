/-
  Plain laws of the chapter Wire, part 6: one bit.
-/
import Derived.Test.YtlkoecfkmaifiaaD
namespace Go.AE
open Go.Proofs Go.RowKit
set_option maxRecDepth 100000

/-- One bit of a byte turned over. -/
theorem flip8 {c : Int} {k : Nat} (h1 : 0 ≤ c) (h2 : c < 256) (hk : k < 8) : 0 ≤ bits .xor .u8 c (IntKind.u8.wrap (1 * 2 ^ min k 8)) ∧ bits .xor .u8 c (IntKind.u8.wrap (1 * 2 ^ min k 8)) < 256 ∧ bits .xor .u8 c (IntKind.u8.wrap (1 * 2 ^ min k 8)) ≠ c := by
  have key : ∀ n : Fin 256, ∀ j : Fin 8, 0 ≤ bits .xor .u8 ((n.val : Nat) : Int) (IntKind.u8.wrap (1 * 2 ^ min j.val 8)) ∧ bits .xor .u8 ((n.val : Nat) : Int) (IntKind.u8.wrap (1 * 2 ^ min j.val 8)) < 256 ∧ bits .xor .u8 ((n.val : Nat) : Int) (IntKind.u8.wrap (1 * 2 ^ min j.val 8)) ≠ ((n.val : Nat) : Int) := by decide +kernel
  have := key ⟨c.toNat, by omega⟩ ⟨k, hk⟩
  simp only [Int.toNat_of_nonneg h1] at this
  exact this

theorem crc_other {l : List Int} {k : Nat} {c : Int} (hl : Byt l) (h1 : 0 ≤ c) (h2 : c < 256) (hk : k < l.length) (hne : l.getD k 0 ≠ c) : crc l ≠ crc (l.set k c) := by
  have := crcL_other k l (s := 4294967295) hl (by omega) (by omega) h1 h2 hk hne
  unfold crc; omega

theorem Byt.set {l : List Int} (hl : Byt l) {k : Nat} {c : Int} (h1 : 0 ≤ c) (h2 : c < 256) : Byt (l.set k c) := fun x hx => by
  rcases List.mem_or_eq_of_mem_set hx with h | h
  · exact hl x h
  · subst h; exact ⟨h1, h2⟩

theorem wireBits_plain {b : List Int} {i bit : Int} (hb : Byt b) (hi : 0 ≤ i) (hi2 : i ≤ 65535) (h1 : 0 ≤ bit) : f7 (b, i, bit, ()) = some (true, ()) := by
  unfold f7
  simp only [f13_spec, Option.bind_some, Bool.not_true, cond_false, Nat.zero_add, List.nil_append]
  by_cases h0 : b = []
  · subst h0; rfl
  · have hlp : 0 < b.length := List.length_pos_iff.2 h0
    have e0 : ((b.length : Int) == 0) = false := by simp; omega
    rw [e0]
    simp only [cond_false]
    cases hd : decide ((b.length : Int) > 5000) with
    | true => rfl
    | false =>
      have hl : b.length ≤ 5000 := by simp at hd; omega
      have w1 : IntKind.i64.wrap i = i := i64w (by omega) (by omega)
      have w2 : i.tmod (b.length : Int) = i % (b.length : Int) := Int.tmod_eq_emod_of_nonneg hi
      have m1 : 0 ≤ i % (b.length : Int) := Int.emod_nonneg _ (by omega)
      have m2 : i % (b.length : Int) < (b.length : Int) := Int.emod_lt_of_pos _ (by omega)
      have w3 : bit.tmod 8 = bit % 8 := Int.tmod_eq_emod_of_nonneg h1
      have w4 : IntKind.u64.wrap (bit % 8) = bit % 8 := u64w (by omega) (by omega)
      have n1 : ¬ bit % 8 < 0 := by omega
      generalize hk : (i % (b.length : Int)).toNat = k
      have hkl : k < b.length := by omega
      have hc : b[k]? = some b[k] := List.getElem?_eq_getElem hkl
      have hcb := hb b[k] (List.getElem_mem hkl)
      have hf := flip8 hcb.1 hcb.2 (k := (bit % 8).toNat) (by omega)
      have e1 : roomy b.length 1 = true := roomy_ok (by omega)
      have sb := hb.set (k := k) hf.1 hf.2.1
      have s1 := f22_spec hb (by omega)
      have s2 := f22_spec sb (by simp only [List.length_set]; omega)
      have e2 : List.take b.length (b.set k (bits .xor .u8 b[k] (IntKind.u8.wrap (1 * 2 ^ min (bit % 8).toNat 8)))) = b.set k (bits .xor .u8 b[k] (IntKind.u8.wrap (1 * 2 ^ min (bit % 8).toNat 8))) := List.take_of_length_le (by simp)
      have ne := crc_other hb hf.1 hf.2.1 hkl (by rw [List.getD_eq_getElem?_getD, hc]; exact hf.2.2.symm)
      simp only [e1, cond_true, cond_false, w1, w2, m1, m2, decide_true, Bool.and_self, hk, hc, Option.bind_some, w3, w4, n1, decide_false, s1, List.length_set, Nat.le_refl, List.drop_zero, e2, s2]
      simpa using ne

end Go.AE
