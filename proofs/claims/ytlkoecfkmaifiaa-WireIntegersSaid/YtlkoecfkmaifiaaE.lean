/-
  Plain laws of the chapter Wire, part 5: the laws of numbers and integers, and of bits.
-/
import Derived.Test.YtlkoecfkmaifiaaD
namespace Go.AE
open Go.Proofs Go.RowKit
set_option maxRecDepth 100000

theorem l3_spec : ∀ (k : Nat) (n sz : Int) (a : Int) (b : List Int) (c : Nat) (d : Int) (e : Nat) (g : Int) (h i : List Int), 0 ≤ n → n < 128 ^ (k + 1) → 0 ≤ sz → sz + k ≤ 1000 →
    l3_0 (a, b, c, d, e, g, sz, n, h, i, ()) = some (a, b, c, d, e, g, sz + ((uintF k n).length : Int) - 1, h, i, ()) := by
  intro k
  induction k with
  | zero =>
    intro n sz a b c d e g h i h1 h2 _ _
    simp at h2
    unfold l3_0
    rw [iterO_eq]
    have hr : r3_0 (a, b, c, d, e, g, sz, n, h, i, ()) = some (.inr (a, b, c, d, e, g, sz, h, i, ())) := by
      unfold r3_0
      have : ¬ n ≥ 128 := by omega
      simp only [this, decide_false, cond_false]
    rw [hr]
    simp [uintF]
  | succ k ih =>
    intro n sz a b c d e g h i h1 h2 h3 h4
    unfold l3_0
    rw [iterO_eq]
    by_cases hn : n < 128
    · have hr : r3_0 (a, b, c, d, e, g, sz, n, h, i, ()) = some (.inr (a, b, c, d, e, g, sz, h, i, ())) := by
        unfold r3_0
        have : ¬ n ≥ 128 := by omega
        simp only [this, decide_false, cond_false]
      rw [hr, uintF_small hn]
      simp
    · have hr : r3_0 (a, b, c, d, e, g, sz, n, h, i, ()) = some (.inl (a, b, c, d, e, g, sz + 1, n / 128, h, i, ())) := by
        unfold r3_0
        have e1 : n ≥ 128 := by omega
        have e3 : n.fdiv 128 = n / 128 := Int.fdiv_eq_ediv_of_nonneg _ (by omega)
        have e4 : IntKind.i64.wrap (sz + 1) = sz + 1 := i64w (by omega) (by omega)
        simp only [e1, e3, e4, decide_true, cond_true]
      rw [hr]
      have h2' : n / 128 < 128 ^ (k + 1) := by rw [Int.pow_succ] at h2; omega
      have := ih (n / 128) (sz + 1) a b c d e g h i (by omega) h2' (by omega) (by omega)
      show l3_0 _ = _
      rw [this]
      simp only [uintF, hn, if_false, List.length_cons]
      have : sz + 1 + ((uintF k (n / 128)).length : Int) - 1 = sz + (((uintF k (n / 128)).length + 1 : Nat) : Int) - 1 := by omega
      rw [this]

theorem wireNumbers_plain {n : Int} {b : List Int} (h1 : 0 ≤ n) (h2 : n ≤ 18446744073709551615) (hb : Byt b) : f3 (n, b, ()) = some (true, ()) := by
  unfold f3
  simp only [f13_spec, Option.bind_some, Bool.not_true, cond_false]
  cases hd : decide ((b.length : Int) > 100) with
  | true => rfl
  | false =>
    have hl : b.length ≤ 100 := by simp at hd; omega
    have hu := uint_len n
    have e1 : roomy (uint n).length 1 = true := roomy_ok (by omega)
    have e2 : roomy ((uint n).length + b.length) 1 = true := roomy_ok (by omega)
    have e3 : (uint n).length + b.length = (uint n ++ b).length := by simp
    have e4 : (uint n).length + b.length ≤ (uint n ++ b).length := by simp
    have s := f15_spec (b := uint n ++ b) ((uint_byt h1 h2).append hb) (by simp only [List.length_append]; omega)
    rw [rd_uint h1 h2] at s
    have l := l3_spec 9 n 1 n b (uint n).length n b.length 0 (uint n) b h1 (Int.lt_of_lt_of_le (Int.lt_add_one_of_le h2) (by decide)) (by omega) (by omega)
    simp only [cond_false, f14_spec h1 h2, Option.bind_some, Nat.zero_add, Nat.le_refl, decide_true, cond_true, take_len, e1, e2, e4, List.nil_append]
    simp only [e3, take_len, s, rdR, Option.bind_some, l]
    simp [f16, uint]
    omega

theorem wireIntegers_plain {n : Int} {b : List Int} (h1 : -9223372036854775808 ≤ n) (h2 : n ≤ 9223372036854775807) (hb : Byt b) : f5 (n, b, ()) = some (true, ()) := by
  unfold f5
  simp only [f13_spec, Option.bind_some, Bool.not_true, cond_false]
  cases hd : decide ((b.length : Int) > 100) with
  | true => rfl
  | false =>
    have hl : b.length ≤ 100 := by simp at hd; omega
    have hz := zig_lt h1 h2
    have hu := uint_len (zig n)
    have e1 : roomy (uint (zig n)).length 1 = true := roomy_ok (by omega)
    have e2 : roomy ((uint (zig n)).length + b.length) 1 = true := roomy_ok (by omega)
    have e3 : (uint (zig n)).length + b.length = (uint (zig n) ++ b).length := by simp
    have e4 : (uint (zig n)).length + b.length ≤ (uint (zig n) ++ b).length := by simp
    have s := f19_spec (b := uint (zig n) ++ b) ((uint_byt hz.1 hz.2).append hb) (by simp only [List.length_append]; omega)
    have s2 := f19_spec hb (by omega)
    have s3 := f20_spec hb (by omega)
    have e5 : rdi (uint (zig n) ++ b) = (n, b, 0) := by unfold rdi; rw [rd_uint hz.1 hz.2, unzig_zig]
    rw [e5] at s
    simp only [cond_false, f18_spec h1 h2, f21_spec h1 h2, Option.bind_some, Nat.zero_add, Nat.le_refl, decide_true, cond_true, take_len, e1, e2, e4, List.nil_append]
    simp only [e3, take_len, s, s2, s3, rdR, Option.bind_some]
    simp [f16]

end Go.AE
