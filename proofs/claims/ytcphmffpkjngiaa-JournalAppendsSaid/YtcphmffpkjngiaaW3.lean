/-
  Plain laws of the chapter Journal, part 3: integers, frames.
-/
import Derived.Test.YtcphmffpkjngiaaW2
namespace Go.AE
open Go.Proofs Go.RowKit
set_option maxRecDepth 100000

/-! ### Integers -/

theorem xor64_0 {x : Int} (h1 : 0 ≤ x) (h2 : x ≤ 18446744073709551615) : bits .xor .u64 x 0 = x := by
  obtain ⟨a, rfl⟩ := Int.eq_ofNat_of_zero_le h1
  show IntKind.u64.wrap ((BitVec.ofInt 64 (a : Int) ^^^ 0#64).toNat : Int) = _
  rw [BitVec.xor_zero, ofInt_nat _ (by omega)]
  simp only [Int.toNat_natCast]
  rw [Nat.mod_eq_of_lt (by omega), u64w (by omega) (by omega)]

theorem xor64_ff {x : Int} (h1 : 0 ≤ x) (h2 : x ≤ 18446744073709551615) : bits .xor .u64 x 18446744073709551615 = 18446744073709551615 - x := by
  obtain ⟨a, rfl⟩ := Int.eq_ofNat_of_zero_le h1
  show IntKind.u64.wrap ((BitVec.ofInt 64 (a : Int) ^^^ BitVec.allOnes 64).toNat : Int) = _
  rw [BitVec.xor_allOnes, BitVec.toNat_not, ofInt_nat _ (by omega)]
  simp only [Int.toNat_natCast]
  rw [Nat.mod_eq_of_lt (by omega), u64w (by omega) (by omega)]
  omega

theorem and64_1 {s : Int} (h1 : 0 ≤ s) (h2 : s ≤ 18446744073709551615) : bits .and .u64 s 1 = s % 2 := by
  obtain ⟨a, rfl⟩ := Int.eq_ofNat_of_zero_le h1
  show IntKind.u64.wrap ((BitVec.ofInt 64 (a : Int) &&& BitVec.ofInt 64 1).toNat : Int) = _
  rw [BitVec.toNat_and, ofInt_nat _ (by omega), ofInt_nat _ (by omega)]
  simp only [Int.toNat_natCast]
  rw [Nat.mod_eq_of_lt (by omega), show Int.toNat 1 % 2 ^ 64 = 1 from rfl, Nat.and_one_is_mod, u64w (by omega) (by omega)]
  omega

theorem xori_0 {x : Int} (h1 : 0 ≤ x) (h2 : x ≤ 9223372036854775807) : bits .xor .i64 x 0 = x := by
  obtain ⟨a, rfl⟩ := Int.eq_ofNat_of_zero_le h1
  show IntKind.i64.wrap ((BitVec.ofInt 64 (a : Int) ^^^ 0#64).toNat : Int) = _
  rw [BitVec.xor_zero, ofInt_nat _ (by omega)]
  simp only [Int.toNat_natCast]
  rw [Nat.mod_eq_of_lt (by omega), i64w (by omega) (by omega)]

theorem xori_ff {x : Int} (h1 : 0 ≤ x) (h2 : x ≤ 9223372036854775807) : bits .xor .i64 x (-1) = -x - 1 := by
  obtain ⟨a, rfl⟩ := Int.eq_ofNat_of_zero_le h1
  show IntKind.i64.wrap ((BitVec.ofInt 64 (a : Int) ^^^ BitVec.allOnes 64).toNat : Int) = _
  rw [BitVec.xor_allOnes, BitVec.toNat_not, ofInt_nat _ (by omega)]
  simp only [Int.toNat_natCast]
  rw [Nat.mod_eq_of_lt (by omega), IntKind.wrap_i64]
  omega

def zig (n : Int) : Int := if 0 ≤ n then 2 * n else -2 * n - 1
def unzig (u : Int) : Int := if u % 2 = 0 then u / 2 else -(u / 2) - 1

theorem unzig_zig (n : Int) : unzig (zig n) = n := by
  unfold unzig zig; split <;> split <;> omega

theorem zig_lt {n : Int} (h1 : -9223372036854775808 ≤ n) (h2 : n ≤ 9223372036854775807) : 0 ≤ zig n ∧ zig n ≤ 18446744073709551615 := by
  unfold zig; split <;> omega

theorem f66_spec {n : Int} (h1 : -9223372036854775808 ≤ n) (h2 : n ≤ 9223372036854775807) : f66 (n, ()) = some ((uint (zig n)).length, uint (zig n), ()) := by
  have hz := zig_lt h1 h2
  have e : bits .xor .u64 (IntKind.u64.wrap (IntKind.u64.wrap n * 2)) (IntKind.u64.wrap (n.fdiv 9223372036854775808)) = zig n := by
    have e1 : n.fdiv 9223372036854775808 = n / 9223372036854775808 := Int.fdiv_eq_ediv_of_nonneg _ (by omega)
    rw [e1]
    unfold zig
    by_cases h : 0 ≤ n
    · rw [if_pos h, u64w (n := n) h (by omega), u64w (by omega) (by omega)]
      have : n / 9223372036854775808 = 0 := by omega
      rw [this]
      have e0 : IntKind.u64.wrap 0 = 0 := by decide
      rw [e0, xor64_0 (by omega) (by omega)]
      omega
    · rw [if_neg h]
      have : n / 9223372036854775808 = -1 := by omega
      rw [this]
      have e0 : IntKind.u64.wrap (-1) = 18446744073709551615 := by decide
      have e2 : IntKind.u64.wrap (IntKind.u64.wrap n * 2) = 18446744073709551616 + 2 * n := by
        rw [IntKind.wrap_u64, IntKind.wrap_u64]; omega
      rw [e0, e2, xor64_ff (by omega) (by omega)]
      omega
  unfold f66
  simp only [e, f67_spec hz.1 hz.2, Option.bind_some]

theorem f45_spec {n : Int} (h1 : -9223372036854775808 ≤ n) (h2 : n ≤ 9223372036854775807) : f45 (n, ()) = some ((uint (zig n)).length, uint (zig n), ()) := by
  have hz := zig_lt h1 h2
  unfold f45
  by_cases h : n ≥ 0
  · have e : IntKind.u64.wrap (2 * IntKind.u64.wrap n) = zig n := by
      rw [u64w (n := n) h (by omega), u64w (by omega) (by omega)]; unfold zig; rw [if_pos h]
    simp only [h, decide_true, cond_true, e, f46_spec hz.1 hz.2]
    rfl
  · have e : IntKind.u64.wrap (IntKind.u64.wrap (2 * IntKind.u64.wrap (IntKind.i64.wrap (0 - IntKind.i64.wrap (n + 1)))) + 1) = zig n := by
      have h' : ¬ 0 ≤ n := h
      rw [i64w (n := n + 1) (by omega) (by omega), i64w (by omega) (by omega), u64w (n := 0 - (n + 1)) (by omega) (by omega), u64w (n := 2 * (0 - (n + 1))) (by omega) (by omega), u64w (by omega) (by omega)]
      unfold zig; rw [if_neg h']; omega
    simp only [h, decide_false, cond_false, e, f46_spec hz.1 hz.2]
    rfl

theorem rd_lt {b : List Int} (hb : Byt b) : 0 ≤ (rd 0 0 b).1 ∧ (rd 0 0 b).1 ≤ 18446744073709551615 := by
  by_cases h : (rd 0 0 b).2.2 = 0
  · obtain ⟨n, a1, a2, _, _, a5⟩ := rd_back b 0 0 (rd 0 0 b).1 (rd 0 0 b).2.1 hb (by omega) (Prod.ext rfl (Prod.ext rfl h))
    simp at a2 a5
    omega
  · rw [(rd_range b 0 0 h).1]; omega

/-- Bytes read as an integer. -/
def rdi (b : List Int) : Int × List Int × Int := (unzig (rd 0 0 b).1, (rd 0 0 b).2.1, (rd 0 0 b).2.2)

theorem f70_spec {b : List Int} (hb : Byt b) (hl : b.length ≤ 1000000) : f70 (b, ()) = rdQ (rdi b) := by
  have hv := rd_lt hb
  unfold f70
  simp only [f71_spec hb hl, rdQ, Option.bind_some, rdi]
  by_cases h : (rd 0 0 b).2.2 = 0
  · have e : ((rd 0 0 b).2.2 != 0) = false := by simp [h]
    rw [e, cond_false, h]
    have e1 : (rd 0 0 b).1.fdiv 2 = (rd 0 0 b).1 / 2 := Int.fdiv_eq_ediv_of_nonneg _ (by omega)
    have e2 : bits .xor .i64 (IntKind.i64.wrap ((rd 0 0 b).1.fdiv 2)) (IntKind.i64.wrap (0 - IntKind.i64.wrap (bits .and .u64 (rd 0 0 b).1 1))) = unzig (rd 0 0 b).1 := by
      rw [e1, and64_1 hv.1 hv.2, i64w (n := (rd 0 0 b).1 / 2) (by omega) (by omega)]
      unfold unzig
      by_cases hm : (rd 0 0 b).1 % 2 = 0
      · rw [if_pos hm, hm]
        have : IntKind.i64.wrap (0 - IntKind.i64.wrap 0) = 0 := by decide
        rw [this, xori_0 (by omega) (by omega)]
      · have hm1 : (rd 0 0 b).1 % 2 = 1 := by omega
        rw [if_neg hm, hm1]
        have : IntKind.i64.wrap (0 - IntKind.i64.wrap 1) = -1 := by decide
        rw [this, xori_ff (by omega) (by omega)]
    rw [e2]
  · obtain ⟨a1, a2⟩ := rd_range b 0 0 h
    have e : ((rd 0 0 b).2.2 != 0) = true := by simp [h]
    rw [e, cond_true, a1, a2]
    rfl

theorem f51_spec {b : List Int} (hb : Byt b) (hl : b.length ≤ 1000000) : f51 (b, ()) = rdQ (rdi b) := by
  have hv := rd_lt hb
  unfold f51
  simp only [f72_spec hb hl, rdQ, Option.bind_some, rdi]
  have e1 : (rd 0 0 b).1.tmod 2 = (rd 0 0 b).1 % 2 := Int.tmod_eq_emod_of_nonneg hv.1
  have e2 : (rd 0 0 b).1.tdiv 2 = (rd 0 0 b).1 / 2 := Int.tdiv_eq_ediv_of_nonneg hv.1
  rw [e1, e2, u64w (n := (rd 0 0 b).1 / 2) (by omega) (by omega), i64w (n := (rd 0 0 b).1 / 2) (by omega) (by omega)]
  unfold unzig
  by_cases hm : (rd 0 0 b).1 % 2 = 0
  · have e : ((rd 0 0 b).1 % 2 == 0) = true := by simp [hm]
    rw [e, if_pos hm, cond_true]
  · have e : ((rd 0 0 b).1 % 2 == 0) = false := by simp [hm]
    rw [e, if_neg hm, cond_false, i64w (n := 0 - (rd 0 0 b).1 / 2) (by omega) (by omega), i64w (by omega) (by omega)]
    simp

/-! ### Bytes with their length -/

def bytesF (b : List Int) : List Int := uint (b.length : Int) ++ b

theorem uint_len (n : Int) : (uint n).length ≤ 10 := uintF_len 9 n

theorem f74_spec {b : List Int} (hl : b.length ≤ 900000) : f74 (b, ()) = some ((bytesF b).length, bytesF b, ()) := by
  have hu := uint_len (b.length : Int)
  have e4 : roomy ((uint (b.length : Int)).length + b.length) 1 = true := roomy_ok (by omega)
  unfold f74 bytesF
  simp only [u64w (n := (b.length : Int)) (by omega) (by omega), f67_spec (n := (b.length : Int)) (by omega) (by omega), Option.bind_some, Nat.zero_add, Nat.le_refl, decide_true, cond_true, take_len, e4, List.length_append]

theorem f76_spec {b : List Int} (hl : b.length ≤ 900000) : f76 (b, ()) = some ((bytesF b).length, bytesF b, ()) := by
  have hu := uint_len (b.length : Int)
  have e4 : roomy ((uint (b.length : Int)).length + b.length) 1 = true := roomy_ok (by omega)
  unfold f76 bytesF
  rw [u64w (n := (b.length : Int)) (by omega) (by omega), f46_spec (n := (b.length : Int)) (by omega) (by omega)]
  show (cond (decide (0 + (uint (b.length : Int)).length ≤ (uint (b.length : Int)).length)) (cond (roomy ((uint (b.length : Int)).length + b.length) 1) (some ((uint (b.length : Int)).length + b.length, List.take (uint (b.length : Int)).length (List.drop 0 (uint (b.length : Int))) ++ b, ())) none) none : Option (Nat × List Int × Unit)) = _
  simp only [Nat.zero_add, Nat.le_refl, decide_true, cond_true, take_len, e4, List.length_append]

/-! ### Frames -/

def tail4 (s : Int) : List Int := [s % 256, s / 256 % 256, s / 65536 % 256, s / 16777216 % 256]

theorem f77_spec {s : Int} : f77 s = (4, tail4 s) := by
  unfold f77 tail4
  simp only [u8w]
  rw [Int.fdiv_eq_ediv_of_nonneg _ (by omega), Int.fdiv_eq_ediv_of_nonneg _ (by omega), Int.fdiv_eq_ediv_of_nonneg _ (by omega)]

def summed (b : List Int) : List Int := b ++ tail4 (crc b)

theorem f73_spec {b : List Int} (hb : Byt b) (hl : b.length ≤ 900000) : f73 (b.length, b, ()) = some ((summed b).length, summed b, ()) := by
  unfold f73
  simp only [Nat.zero_add, Nat.le_refl, decide_true, cond_true, take_len, f83_spec hb (by omega), Option.bind_some]
  have step : ∀ (s : Int) (i : Nat) (l : List Int), i < 4 → l.length ≤ 950000 → 0 ≤ s → r73_0 (l.length, s, (i : Int), l, ()) = some (.inl ((l ++ [s % 256]).length, s / 256, ((i + 1 : Nat) : Int), l ++ [s % 256], ())) := by
    intro s i l hi hl hs
    unfold r73_0
    have e1 : (i : Int) < 4 := by omega
    have e2 : IntKind.i64.wrap ((i : Int) + 1) = ((i + 1 : Nat) : Int) := by rw [i64w (by omega) (by omega)]; rfl
    have e3 : s.fdiv 256 = s / 256 := Int.fdiv_eq_ediv_of_nonneg _ (by omega)
    have e4 : roomy (l.length + 1) 1 = true := roomy_ok (by omega)
    simp only [e1, e2, e3, e4, u8w, decide_true, cond_true, Nat.zero_add, Nat.le_refl, take_len, List.length_append, List.length_singleton]
  have last : ∀ (s : Int) (l : List Int), r73_0 (l.length, s, 4, l, ()) = some (.inr (l.length, l, ())) := fun s l => rfl
  have hc := crc_lt b
  have h0 : l73_0 (b.length, crc b, 0, b, ()) = some ((summed b).length, summed b, ()) := by
    unfold l73_0
    have s0 := step (crc b) 0 b (by omega) (by omega) hc.1
    have s1 := step (crc b / 256) 1 (b ++ [crc b % 256]) (by omega) (by simp; omega) (by omega)
    have s2 := step (crc b / 256 / 256) 2 (b ++ [crc b % 256] ++ [crc b / 256 % 256]) (by omega) (by simp; omega) (by omega)
    have s3 := step (crc b / 256 / 256 / 256) 3 (b ++ [crc b % 256] ++ [crc b / 256 % 256] ++ [crc b / 256 / 256 % 256]) (by omega) (by simp; omega) (by omega)
    have s4 := last (crc b / 256 / 256 / 256 / 256) (b ++ [crc b % 256] ++ [crc b / 256 % 256] ++ [crc b / 256 / 256 % 256] ++ [crc b / 256 / 256 / 256 % 256])
    rw [iterO_eq, show ((b.length, crc b, (0 : Int), b, ()) : Nat × Int × Int × List Int × Unit) = (b.length, crc b, ((0 : Nat) : Int), b, ()) from rfl, s0]
    simp only
    rw [iterO_eq, s1]
    simp only
    rw [iterO_eq, s2]
    simp only
    rw [iterO_eq, s3]
    simp only
    rw [iterO_eq, show (((3 + 1 : Nat) : Int)) = 4 from rfl, s4]
    simp only
    have e1 : crc b / 256 / 256 = crc b / 65536 := by omega
    have e2 : crc b / 256 / 256 / 256 = crc b / 16777216 := by omega
    rw [e2, e1]
    simp [summed, tail4]
  rw [h0]
  rfl

theorem tail4_byt {s : Int} : Byt (tail4 s) := by
  intro x hx
  simp only [tail4, List.mem_cons, List.not_mem_nil, or_false] at hx
  rcases hx with rfl | rfl | rfl | rfl <;> omega

theorem Byt.append {a b : List Int} (ha : Byt a) (hb : Byt b) : Byt (a ++ b) := by
  intro x hx
  rcases List.mem_append.1 hx with h | h
  · exact ha x h
  · exact hb x h
theorem Byt.cons {a : Int} {b : List Int} (h1 : 0 ≤ a) (h2 : a < 256) (hb : Byt b) : Byt (a :: b) := by
  intro x hx
  rcases List.mem_cons.1 hx with rfl | h
  · exact ⟨h1, h2⟩
  · exact hb x h
theorem Byt.take {b : List Int} (hb : Byt b) (n : Nat) : Byt (b.take n) := fun x hx => hb x (List.mem_of_mem_take hx)
theorem Byt.drop {b : List Int} (hb : Byt b) (n : Nat) : Byt (b.drop n) := fun x hx => hb x (List.mem_of_mem_drop hx)
theorem uint_byt {n : Int} (h1 : 0 ≤ n) (h2 : n ≤ 18446744073709551615) : Byt (uint n) := uintF_byt 9 h1 (Int.lt_of_lt_of_le (Int.lt_add_one_of_le h2) (by decide))
theorem bytesF_byt {b : List Int} (hb : Byt b) (hl : b.length ≤ 1000000) : Byt (bytesF b) := (uint_byt (by omega) (by omega)).append hb

theorem tail4_len (s : Int) : (tail4 s).length = 4 := rfl
theorem bytesF_len (b : List Int) : (bytesF b).length ≤ b.length + 10 := by
  have := uint_len (b.length : Int)
  unfold bytesF; simp only [List.length_append]; omega

/-- A frame. -/
def frame (k : Int) (data : List Int) : List Int := summed (k :: bytesF data)

theorem f53_spec {k : Int} {b : List Int} (hk : 0 ≤ k) (hk2 : k < 256) (hb : Byt b) (hl : b.length ≤ 100000) : f53 (k, b, ()) = if 4096 < b.length then some (0, 6, [], ()) else some ((frame k b).length, 0, frame k b, ()) := by
  have hu := bytesF_len b
  unfold f53
  by_cases h : 4096 < b.length
  · have e : ((b.length : Int) > 4096) := by omega
    simp only [e, decide_true, cond_true, if_pos h]
  · have e : ¬ ((b.length : Int) > 4096) := by omega
    have e4 : roomy (1 + (bytesF b).length) 1 = true := roomy_ok (by omega)
    have e5 : (1 + (bytesF b).length) = (k :: bytesF b).length := by simp only [List.length_cons]; omega
    have e6 : (k :: List.append [] (bytesF b)) = k :: bytesF b := rfl
    have hf := f73_spec (b := k :: bytesF b) (Byt.cons hk hk2 (bytesF_byt hb (by omega))) (by simp only [List.length_cons]; omega)
    simp only [e, decide_false, cond_false, if_neg h, f74_spec (b := b) (by omega), Option.bind_some, Nat.zero_add, Nat.le_refl, decide_true, cond_true, take_len, e4]
    simp only [e6, e5, Nat.le_refl, decide_true, cond_true, List.take_length, hf, Option.bind_some]
    rfl

theorem f56_spec {k : Int} {b : List Int} (hk : 0 ≤ k) (hk2 : k < 256) (hb : Byt b) (hl : b.length ≤ 100000) : f56 (k, b, ()) = if 4096 < b.length then some (0, 6, [], ()) else some ((frame k b).length, 0, frame k b, ()) := by
  have hu := bytesF_len b
  unfold f56
  by_cases h : 4096 < b.length
  · have e : ((b.length : Int) > 4096) := by omega
    simp only [e, decide_true, cond_true, if_pos h]
  · have e : ¬ ((b.length : Int) > 4096) := by omega
    have e4 : roomy (1 + (bytesF b).length) 1 = true := roomy_ok (by omega)
    have e5 : (1 + (bytesF b).length) = (k :: bytesF b).length := by simp only [List.length_cons]; omega
    have e6 : (k :: List.append [] (bytesF b)) = k :: bytesF b := rfl
    have e7 : roomy ((k :: bytesF b).length + 4) 1 = true := roomy_ok (by simp only [List.length_cons]; omega)
    have hf := f78_spec (b := k :: bytesF b) (Byt.cons hk hk2 (bytesF_byt hb (by omega))) (by simp only [List.length_cons]; omega)
    have e8 : List.take 4 (List.drop 0 (tail4 (crc (k :: bytesF b)))) = tail4 (crc (k :: bytesF b)) := rfl
    simp only [e, decide_false, cond_false, if_neg h, f76_spec (b := b) (by omega), Option.bind_some, Nat.zero_add, Nat.le_refl, decide_true, cond_true, take_len, e4]
    simp only [e6, e5, Nat.le_refl, decide_true, cond_true, List.take_length, hf, Option.bind_some, f77_spec, tail4_len, e8, e7]
    simp [frame, summed, tail4_len]

/-! ### Equal slices -/

theorem l81_spec (a b : List Int) (hab : a.length = b.length) (hl : a.length ≤ 1000000) : ∀ (k i : Nat), a.length - i = k → i ≤ a.length →
    ∃ y, l81_0 (a, b, (a.length : Int), (i : Int), ()) = some y ∧ (Sum.elim (fun y14 => some (y14.fst, ())) (fun _x => some (true, ())) y : Option (Bool × Unit)) = some (decide (a.drop i = b.drop i), ()) := by
  intro k
  induction k with
  | zero =>
    intro i hk hi
    have e : i = a.length := by omega
    subst e
    unfold l81_0
    rw [iterO_eq]
    have hr : r81_0 (a, b, (a.length : Int), (a.length : Int), ()) = some (.inr (.inr ())) := by
      unfold r81_0; simp
    rw [hr]
    refine ⟨_, rfl, ?_⟩
    rw [List.drop_length, hab, List.drop_length]
    rfl
  | succ k ih =>
    intro i hk hi
    have hlt : i < a.length := by omega
    have hltb : i < b.length := by omega
    have hlt' : (i : Int) < (a.length : Int) := by omega
    have hw : IntKind.i64.wrap ((i : Int) + 1) = ((i + 1 : Nat) : Int) := by rw [i64w (by omega) (by omega)]; rfl
    unfold l81_0
    rw [iterO_eq]
    rw [List.drop_eq_getElem_cons hlt, List.drop_eq_getElem_cons hltb]
    by_cases h : a[i] = b[i]
    · have hr : r81_0 (a, b, (a.length : Int), (i : Int), ()) = some (.inl (a, b, (a.length : Int), ((i + 1 : Nat) : Int), ())) := by
        unfold r81_0
        have e1 : (a[i] != b[i]) = false := by simp [h]
        simp only [hlt', decide_true, cond_true, idxO_nat, List.getElem?_eq_getElem hlt, List.getElem?_eq_getElem hltb, Option.bind_some, e1, cond_false, hw]
      rw [hr]
      obtain ⟨y, h1, h2⟩ := ih (i + 1) (by omega) (by omega)
      refine ⟨y, h1, ?_⟩
      rw [h2, h]
      simp only [List.cons.injEq, true_and]
    · have hr : r81_0 (a, b, (a.length : Int), (i : Int), ()) = some (.inr (.inl (false, ()))) := by
        unfold r81_0
        have e1 : (a[i] != b[i]) = true := by simp [h]
        simp only [hlt', decide_true, cond_true, idxO_nat, List.getElem?_eq_getElem hlt, List.getElem?_eq_getElem hltb, Option.bind_some, e1]
      rw [hr]
      refine ⟨_, rfl, ?_⟩
      simp only [List.cons.injEq, h, false_and, decide_false]
      rfl

theorem f81_spec {a b : List Int} (hl : a.length ≤ 1000000) : f81 (a, b, ()) = some (decide (a = b), ()) := by
  unfold f81
  by_cases hab : a.length = b.length
  · have e : ((a.length : Int) != (b.length : Int)) = false := by simp [hab]
    obtain ⟨y, h1, h2⟩ := l81_spec a b hab hl a.length 0 rfl (by omega)
    have h1' : l81_0 (a, b, (a.length : Int), 0, ()) = some y := h1
    simp only [e, cond_false, h1', Option.bind_some]
    exact h2
  · have e : ((a.length : Int) != (b.length : Int)) = true := by simp; omega
    have e2 : ¬ a = b := fun h => hab (by rw [h])
    simp only [e, cond_true, e2, decide_false]

/-! ### Reading bytes with their length -/

theorem rd_len : ∀ (b : List Int) (i : Nat) (m : Int), (rd i m b).2.1.length ≤ b.length
  | [], _, _ => Nat.le_refl _
  | c :: r, i, m => by
    simp only [rd]
    split
    · simp
    · split
      · split
        · simp
        · simp
      · have := rd_len r (i + 1) (m + c % 128 * 128 ^ i)
        simp only [List.length_cons]; omega

/-! ### Reading frames -/

/-- Where a frame's data end. -/
def endOf (b : List Int) : Nat := b.length - (rd 0 0 (b.drop 1)).2.1.length + (rd 0 0 (b.drop 1)).1.toNat

def unf (b : List Int) : Int × List Int × List Int × Int :=
  if b = [] then (0, [], [], 4)
  else if (rd 0 0 (b.drop 1)).2.2 ≠ 0 then (0, [], [], (rd 0 0 (b.drop 1)).2.2)
  else if (rd 0 0 (b.drop 1)).1 > 4096 then (0, [], [], 6)
  else if ((rd 0 0 (b.drop 1)).2.1.length : Int) < (rd 0 0 (b.drop 1)).1 + 4 then (0, [], [], 4)
  else if summed (b.take (endOf b)) = b.take (endOf b + 4) then
    (b.headD 0, (rd 0 0 (b.drop 1)).2.1.take (rd 0 0 (b.drop 1)).1.toNat, (rd 0 0 (b.drop 1)).2.1.drop ((rd 0 0 (b.drop 1)).1.toNat + 4), 0)
  else (0, [], [], 5)

theorem f60_spec {b : List Int} (hb : Byt b) (hl : b.length ≤ 800000) :
    f60 (b, ()) = some ((unf b).1, (unf b).2.1, (unf b).2.2.1, (unf b).2.2.2, ()) := by
  unfold f60 unf
  by_cases h0 : b = []
  · subst h0
    rfl
  · obtain ⟨k, t, rfl⟩ := List.exists_cons_of_ne_nil h0
    have ht : Byt t := fun x hx => hb x (by simp [hx])
    have hlt : t.length + 1 ≤ 800000 := by simpa using hl
    have hv := rd_lt ht
    have hrl := rd_len t 0 0
    have hz : (((k :: t).length : Int) == 0) = false := by simp; omega
    have h1 : (1 : Int) ≤ ((k :: t).length : Int) := by simp only [List.length_cons]; omega
    have hd : List.drop 1 (List.take (((k :: t).length : Int)).toNat (k :: t)) = t := by simp
    have hd1 : (k :: t).drop 1 = t := rfl
    rw [if_neg h0]
    simp only [hz, cond_false, h1, Int.le_refl, decide_true, Bool.and_self, cond_true, hd, f71_spec ht (by omega), rdQ, Option.bind_some, hd1, endOf]
    generalize rd 0 0 t = r at *
    obtain ⟨v, rest, e⟩ := r
    simp only at *
    by_cases h : e = 0
    · have e1 : (e != 0) = false := by simp [h]
      have hn : ¬ e ≠ 0 := by simp [h]
      rw [e1, cond_false, if_neg hn]
      by_cases h2 : v > 4096
      · rw [if_pos h2]
        simp only [h2, decide_true, cond_true]
      · rw [if_neg h2]
        have w1 : IntKind.i64.wrap v = v := i64w (by omega) (by omega)
        have w2 : IntKind.i64.wrap (v + 4) = v + 4 := i64w (by omega) (by omega)
        simp only [h2, decide_false, cond_false, w1, w2]
        by_cases h3 : (rest.length : Int) < v + 4
        · rw [if_pos h3]
          simp only [h3, decide_true, cond_true]
        · rw [if_neg h3]
          have w3 : IntKind.i64.wrap (((k :: t).length : Int) - (rest.length : Int)) = ((k :: t).length : Int) - (rest.length : Int) := i64w (by simp only [List.length_cons]; omega) (by simp only [List.length_cons]; omega)
          have w4 : IntKind.i64.wrap (((k :: t).length : Int) - (rest.length : Int) + v) = (((k :: t).length - rest.length + v.toNat : Nat) : Int) := by
            rw [i64w (by simp only [List.length_cons]; omega) (by simp only [List.length_cons]; omega)]; simp only [List.length_cons]; omega
          generalize hE : (k :: t).length - rest.length + v.toNat = E at *
          have hE4 : E + 4 ≤ (k :: t).length := by simp only [List.length_cons] at *; omega
          have w5 : IntKind.i64.wrap ((E : Int) + 4) = ((E + 4 : Nat) : Int) := by rw [i64w (by simp only [List.length_cons] at *; omega) (by simp only [List.length_cons] at *; omega)]; rfl
          have c1 : (0 : Int) ≤ (E : Int) := by omega
          have c2 : (E : Int) ≤ ((k :: t).length : Int) := by omega
          have c3 : (0 : Int) ≤ ((E + 4 : Nat) : Int) := by omega
          have c4 : ((E + 4 : Nat) : Int) ≤ ((k :: t).length : Int) := by omega
          have tl : (List.take E (k :: t)).length ≤ 800000 := by simp only [List.length_take]; omega
          have q1 := f58_spec (l := List.take E (k :: t)) (by omega)
          have q2 := f73_spec (b := List.take E (k :: t)) (hb.take E) (by omega)
          have q3 := f81_spec (a := summed (List.take E (k :: t))) (b := List.take (E + 4) (k :: t)) (by simp only [summed, List.length_append, tail4_len]; omega)
          simp only [h3, decide_false, cond_false, w3, w4, w5, c1, c2, c3, c4, decide_true, Bool.and_self, cond_true, Int.toNat_natCast, List.drop_zero, q1, Option.bind_some, Nat.zero_add, Nat.le_refl, List.take_length, q2, q3]
          by_cases h4 : summed (List.take E (k :: t)) = List.take (E + 4) (k :: t)
          · rw [if_pos h4]
            have i0 : idxO (k :: t) 0 = some k := rfl
            have c5 : v ≤ (rest.length : Int) := by omega
            have c6 : (0 : Int) ≤ v + 4 := by omega
            have c7 : v + 4 ≤ (rest.length : Int) := by omega
            simp only [h4, decide_true, Bool.not_true, cond_false, i0, Option.bind_some, hv.1, c5, c6, c7, Bool.and_self, cond_true, List.headD_cons]
            have n1 : (v + 4).toNat = v.toNat + 4 := by omega
            rw [n1]
          · rw [if_neg h4]
            simp only [h4, decide_false, Bool.not_false, cond_true]
    · have e1 : (e != 0) = true := by simp [h]
      rw [e1, cond_true, if_pos h]

/-- Where the length is read without an error, the bytes ahead of the data's end are those of the frame of the data. -/
theorem take_end {k : Int} {t : List Int} (ht : Byt t) (h0 : (rd 0 0 t).2.2 = 0) (h : (rd 0 0 t).1.toNat ≤ (rd 0 0 t).2.1.length) :
    (k :: t).take (endOf (k :: t)) = k :: bytesF ((rd 0 0 t).2.1.take (rd 0 0 t).1.toNat) := by
  have hv := rd_lt ht
  obtain ⟨n, a1, a2, a3, _, _⟩ := rd_back t 0 0 (rd 0 0 t).1 (rd 0 0 t).2.1 ht (by omega) (Prod.ext rfl (Prod.ext rfl h0))
  have a2 : (rd 0 0 t).1 = n := by simpa using a2
  have a3 : t = uint n ++ (rd 0 0 t).2.1 := a3
  have e1 : endOf (k :: t) = 1 + (uint n).length + (rd 0 0 t).1.toNat := by
    unfold endOf
    have : (k :: t).drop 1 = t := rfl
    rw [this]
    have hlen := congrArg List.length a3
    simp only [List.length_append, List.length_cons] at hlen ⊢
    omega
  rw [e1]
  generalize rd 0 0 t = r at *
  obtain ⟨v, rest, e⟩ := r
  simp only at *
  subst a2
  have e2 : bytesF (rest.take v.toNat) = uint v ++ rest.take v.toNat := by
    unfold bytesF
    simp only [List.length_take]
    have : ((min v.toNat rest.length : Nat) : Int) = v := by omega
    rw [this]
  rw [e2, a3, show 1 + (uint v).length + v.toNat = ((uint v).length + v.toNat) + 1 by omega, List.take_succ_cons]
  congr 1
  rw [List.take_length_add_append]

theorem drop_end {k : Int} {t : List Int} (ht : Byt t) (h0 : (rd 0 0 t).2.2 = 0) :
    endOf (k :: t) + (rd 0 0 t).2.1.length = (k :: t).length + (rd 0 0 t).1.toNat ∧ (k :: t).drop (endOf (k :: t) + 4) = (rd 0 0 t).2.1.drop ((rd 0 0 t).1.toNat + 4) := by
  obtain ⟨n, a1, a2, a3, _, _⟩ := rd_back t 0 0 (rd 0 0 t).1 (rd 0 0 t).2.1 ht (by omega) (Prod.ext rfl (Prod.ext rfl h0))
  have a3 : t = uint n ++ (rd 0 0 t).2.1 := a3
  have hlen := congrArg List.length a3
  have e1 : endOf (k :: t) = 1 + (uint n).length + (rd 0 0 t).1.toNat := by
    unfold endOf
    have : (k :: t).drop 1 = t := rfl
    rw [this]
    simp only [List.length_append, List.length_cons] at hlen ⊢
    omega
  rw [e1]
  generalize rd 0 0 t = r at *
  obtain ⟨v, rest, e⟩ := r
  simp only at *
  simp only [List.length_append] at hlen
  refine ⟨by simp only [List.length_cons]; omega, ?_⟩
  rw [show 1 + (uint n).length + v.toNat + 4 = ((uint n).length + (v.toNat + 4)) + 1 by omega, List.drop_succ_cons, a3, List.drop_length_add_append]

theorem f61_spec {b : List Int} (hb : Byt b) (hl : b.length ≤ 800000) : f61 (b, ()) = some ((unf b).1, (unf b).2.1, (unf b).2.2.1, (unf b).2.2.2, ()) := by
  unfold f61 unf
  by_cases h0 : b = []
  · subst h0; rfl
  · obtain ⟨k, t, rfl⟩ := List.exists_cons_of_ne_nil h0
    have ht : Byt t := fun x hx => hb x (by simp [hx])
    have hk := hb k (by simp)
    have hlt : t.length + 1 ≤ 800000 := by simpa using hl
    have hv := rd_lt ht
    have hrl := rd_len t 0 0
    have hz : (((k :: t).length : Int) == 0) = false := by simp; omega
    have h1 : (1 : Int) ≤ ((k :: t).length : Int) := by simp only [List.length_cons]; omega
    have hd : List.drop 1 (List.take (((k :: t).length : Int)).toNat (k :: t)) = t := by simp
    have hd1 : (k :: t).drop 1 = t := rfl
    have hte := take_end (k := k) ht
    have hde := drop_end (k := k) ht
    rw [if_neg h0]
    simp only [hz, cond_false, h1, Int.le_refl, decide_true, Bool.and_self, cond_true, hd, f72_spec ht (by omega), rdQ, Option.bind_some, hd1]
    have hrb : Byt (rd 0 0 t).2.1 := by
      by_cases h : (rd 0 0 t).2.2 = 0
      · obtain ⟨n, _, _, a3, _, _⟩ := rd_back t 0 0 (rd 0 0 t).1 (rd 0 0 t).2.1 ht (by omega) (Prod.ext rfl (Prod.ext rfl h))
        intro x hx
        exact ht x (by rw [a3]; exact List.mem_append_right _ hx)
      · rw [(rd_range t 0 0 h).2]; intro x hx; cases hx
    generalize endOf (k :: t) = E at *
    generalize rd 0 0 t = r at *
    obtain ⟨v, rest, e⟩ := r
    simp only at *
    by_cases h : e = 0
    · have e1 : (e != 0) = false := by simp [h]
      have hn : ¬ e ≠ 0 := by simp [h]
      rw [e1, cond_false, if_neg hn]
      by_cases h2 : v > 4096
      · rw [if_pos h2]
        simp only [h2, decide_true, cond_true]
      · rw [if_neg h2]
        have w1 : IntKind.i64.wrap v = v := i64w (by omega) (by omega)
        have w2 : IntKind.i64.wrap (v + 4) = v + 4 := i64w (by omega) (by omega)
        simp only [h2, decide_false, cond_false, w1, w2]
        by_cases h3 : (rest.length : Int) < v + 4
        · rw [if_pos h3]
          simp only [h3, decide_true, cond_true]
        · rw [if_neg h3]
          have hvn : v.toNat ≤ rest.length := by omega
          have hte := hte h hvn
          obtain ⟨hde1, hde2⟩ := hde h
          have hdl : (rest.take v.toNat).length = v.toNat := by simp only [List.length_take]; omega
          have hf := f56_spec (k := k) (b := rest.take v.toNat) hk.1 hk.2 (hrb.take _) (by omega)
          rw [if_neg (by omega)] at hf
          have hfr : frame k (rest.take v.toNat) = summed ((k :: t).take E) := by unfold frame; rw [hte]
          have hEl : ((k :: t).take E).length = E := by simp only [List.length_take, List.length_cons] at *; omega
          have hfl : (summed ((k :: t).take E)).length = E + 4 := by simp only [summed, List.length_append, tail4_len, hEl]
          have hE4 : E + 4 ≤ (k :: t).length := by simp only [List.length_cons] at *; omega
          rw [hfr, hfl] at hf
          have c5 : v ≤ (rest.length : Int) := by omega
          have i0 : idxO (k :: t) 0 = some k := rfl
          have c1 : ((E + 4 : Nat) : Int) ≤ ((k :: t).length : Int) := by omega
          have e2 : List.take (E + 4) (summed (List.take E (k :: t))) = summed (List.take E (k :: t)) := List.take_of_length_le (by omega)
          simp only [h3, decide_false, cond_false, hv.1, c5, decide_true, Bool.and_self, cond_true, i0, Option.bind_some, Nat.zero_add, List.drop_zero, hf, hfl, Nat.le_refl, c1, Int.toNat_natCast, e2, List.take_length, List.nil_append, hde2]
          by_cases h4 : summed (List.take E (k :: t)) = List.take (E + 4) (k :: t)
          · rw [if_pos h4]
            have e3 : roomy (List.take v.toNat rest).length 1 = true := roomy_ok (by omega)
            have e4 : roomy (List.drop (v.toNat + 4) rest).length 1 = true := roomy_ok (by simp only [List.length_drop]; omega)
            simp only [h4, decide_true, Bool.not_true, cond_false, e3, e4, cond_true, List.headD_cons]
          · rw [if_neg h4]
            simp only [h4, decide_false, Bool.not_false, cond_true]
    · have e1 : (e != 0) = true := by simp [h]
      rw [e1, cond_true, if_pos h]

end Go.AE
