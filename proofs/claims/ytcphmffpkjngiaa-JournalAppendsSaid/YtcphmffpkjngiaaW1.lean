/-
  Plain laws of the chapter Journal, part 1: bits; the form of a number, and how it is read.
-/
import Derived.Test.YtcphmffpkjngiaaF
import Derived.IntWalk
namespace Go.AE
open Go.Proofs Go.RowKit
set_option maxRecDepth 100000

/-! ### Bits -/

theorem u64w {n : Int} (h1 : 0 ≤ n) (h2 : n ≤ 18446744073709551615) : IntKind.u64.wrap n = n := by
  simp only [IntKind.wrap, IntKind.signed, IntKind.bits]; simp; omega
theorem i64w {n : Int} (h1 : -9223372036854775808 ≤ n) (h2 : n ≤ 9223372036854775807) : IntKind.i64.wrap n = n := by
  rw [IntKind.wrap_i64]; omega
theorem u32w {n : Int} (h1 : 0 ≤ n) (h2 : n ≤ 4294967295) : IntKind.u32.wrap n = n := by
  simp only [IntKind.wrap, IntKind.signed, IntKind.bits]; simp; omega
theorem u8w {n : Int} : IntKind.u8.wrap n = n % 256 := by
  simp only [IntKind.wrap, IntKind.signed, IntKind.bits]; simp

theorem or128 {c : Int} (h1 : 0 ≤ c) (h2 : c < 256) : bits .or .u8 c 128 = c % 128 + 128 := by
  have key : ∀ n : Fin 256, bits .or .u8 ((n.val : Nat) : Int) 128 = ((n.val : Nat) : Int) % 128 + 128 := by decide +kernel
  have := key ⟨c.toNat, by omega⟩
  simp only [Int.toNat_of_nonneg h1] at this
  exact this

theorem andNot128 {c : Int} (h1 : 0 ≤ c) (h2 : c < 256) : bits .andNot .u8 c 128 = c % 128 := by
  have key : ∀ n : Fin 256, bits .andNot .u8 ((n.val : Nat) : Int) 128 = ((n.val : Nat) : Int) % 128 := by decide +kernel
  have := key ⟨c.toNat, by omega⟩
  simp only [Int.toNat_of_nonneg h1] at this
  exact this

theorem ofInt_nat (k : Nat) {n : Int} (h1 : 0 ≤ n) : (BitVec.ofInt k n).toNat = n.toNat % 2 ^ k := by
  obtain ⟨m, rfl⟩ := Int.eq_ofNat_of_zero_le h1
  simp [BitVec.ofInt_natCast]

theorem or64 {n m : Int} {k : Nat} (h1 : 0 ≤ n) (h2 : n < 2 ^ k) (h3 : 0 ≤ m) (h4 : m * 2 ^ k + n ≤ 18446744073709551615) : bits .or .u64 n (m * 2 ^ k) = n + m * 2 ^ k := by
  obtain ⟨a, rfl⟩ := Int.eq_ofNat_of_zero_le h1
  obtain ⟨b, rfl⟩ := Int.eq_ofNat_of_zero_le h3
  have e1 : ((b : Int) * 2 ^ k) = ((b * 2 ^ k : Nat) : Int) := by push_cast; rfl
  have h2' : a < 2 ^ k := by exact_mod_cast h2
  have h4' : b * 2 ^ k + a ≤ 18446744073709551615 := by
    have : ((b * 2 ^ k + a : Nat) : Int) ≤ 18446744073709551615 := by rw [Int.natCast_add, ← e1]; exact h4
    omega
  rw [e1]
  show IntKind.u64.wrap ((BitVec.ofInt 64 (a : Int) ||| BitVec.ofInt 64 ((b * 2 ^ k : Nat) : Int)).toNat : Int) = _
  rw [BitVec.toNat_or, ofInt_nat _ (by omega), ofInt_nat _ (by omega)]
  simp only [Int.toNat_natCast]
  rw [Nat.mod_eq_of_lt (by omega), Nat.mod_eq_of_lt (by omega), Nat.or_comm, Nat.mul_comm b, ← Nat.two_pow_add_eq_or_of_lt h2', u64w (by omega) (by rw [Nat.mul_comm] at h4'; omega)]
  push_cast
  omega

theorem and1 {s : Int} (h1 : 0 ≤ s) (h2 : s < 4294967296) : bits .and .u32 s 1 = s % 2 := by
  obtain ⟨a, rfl⟩ := Int.eq_ofNat_of_zero_le h1
  show IntKind.u32.wrap ((BitVec.ofInt 32 (a : Int) &&& BitVec.ofInt 32 1).toNat : Int) = _
  rw [BitVec.toNat_and, ofInt_nat _ (by omega), ofInt_nat _ (by omega)]
  simp only [Int.toNat_natCast]
  rw [Nat.mod_eq_of_lt (by omega), show Int.toNat 1 % 2 ^ 32 = 1 from rfl, Nat.and_one_is_mod, u32w (by omega) (by omega)]
  omega

theorem xor32_lt (x y : Int) : 0 ≤ bits .xor .u32 x y ∧ bits .xor .u32 x y < 4294967296 := by
  show 0 ≤ IntKind.u32.wrap _ ∧ IntKind.u32.wrap _ < _
  rw [IntKind.wrap_u32]
  omega

theorem xor32_nat {x y : Int} (hx : 0 ≤ x) (hx2 : x < 4294967296) (hy : 0 ≤ y) (hy2 : y < 4294967296) : bits .xor .u32 x y = ((x.toNat ^^^ y.toNat : Nat) : Int) := by
  show IntKind.u32.wrap ((BitVec.ofInt 32 x ^^^ BitVec.ofInt 32 y).toNat : Int) = _
  rw [BitVec.toNat_xor, ofInt_nat _ hx, ofInt_nat _ hy]
  have e1 : x.toNat % 2 ^ 32 = x.toNat := Nat.mod_eq_of_lt (by omega)
  have e2 : y.toNat % 2 ^ 32 = y.toNat := Nat.mod_eq_of_lt (by omega)
  rw [e1, e2]
  have : x.toNat ^^^ y.toNat < 2 ^ 32 := Nat.xor_lt_two_pow (by omega) (by omega)
  exact u32w (by omega) (by omega)

theorem xor32_0 {x : Int} (hx : 0 ≤ x) (hx2 : x < 4294967296) : bits .xor .u32 x 0 = x := by
  rw [xor32_nat hx hx2 (by omega) (by omega)]
  simp; omega

theorem xor32_ff {x : Int} (hx : 0 ≤ x) (hx2 : x < 4294967296) : bits .xor .u32 4294967295 x = 4294967295 - x := by
  obtain ⟨a, rfl⟩ := Int.eq_ofNat_of_zero_le hx
  show IntKind.u32.wrap ((BitVec.allOnes 32 ^^^ BitVec.ofInt 32 (a : Int)).toNat : Int) = _
  rw [BitVec.allOnes_xor, BitVec.toNat_not, ofInt_nat _ (by omega)]
  simp only [Int.toNat_natCast]
  rw [Nat.mod_eq_of_lt (by omega), u32w (by omega) (by omega)]
  omega

theorem xor_cancel {a b c : Nat} (h : a ^^^ c = b ^^^ c) : a = b := by
  have := congrArg (· ^^^ c) h
  simpa [Nat.xor_assoc, Nat.xor_self] using this

theorem xor32_inj {x y z : Int} (hx : 0 ≤ x) (hx2 : x < 4294967296) (hy : 0 ≤ y) (hy2 : y < 4294967296) (hz : 0 ≤ z) (hz2 : z < 4294967296) (h : bits .xor .u32 x z = bits .xor .u32 y z) : x = y := by
  rw [xor32_nat hx hx2 hz hz2, xor32_nat hy hy2 hz hz2] at h
  have h : x.toNat ^^^ z.toNat = y.toNat ^^^ z.toNat := by omega
  have := xor_cancel h
  omega

theorem xor32_inj' {x y z : Int} (hx : 0 ≤ x) (hx2 : x < 4294967296) (hy : 0 ≤ y) (hy2 : y < 4294967296) (hz : 0 ≤ z) (hz2 : z < 4294967296) (h : bits .xor .u32 z x = bits .xor .u32 z y) : x = y := by
  rw [xor32_nat hz hz2 hx hx2, xor32_nat hz hz2 hy hy2] at h
  have h : z.toNat ^^^ x.toNat = z.toNat ^^^ y.toNat := by omega
  have : x.toNat = y.toNat := xor_cancel (c := z.toNat) (by rw [Nat.xor_comm x.toNat, h, Nat.xor_comm z.toNat])
  omega

/-! ### Checksums -/

/-- One step of the checksum. -/
def stp (s : Int) : Int := bits .xor .u32 (s / 2) (if s % 2 = 1 then 3988292384 else 0)
def stps : Nat → Int → Int
  | 0, s => s
  | n + 1, s => stps n (stp s)
def crcB (s c : Int) : Int := stps 8 (bits .xor .u32 s c)
def crcL (s : Int) (l : List Int) : Int := l.foldl crcB s

theorem stp_lt (s : Int) : 0 ≤ stp s ∧ stp s < 4294967296 := xor32_lt _ _

theorem stp_top {s : Int} (h1 : 0 ≤ s) (h2 : s < 4294967296) : decide (2147483648 ≤ stp s) = decide (s % 2 = 1) := by
  unfold stp
  rw [xor32_nat (by omega) (by omega) (by split <;> omega) (by split <;> omega)]
  have key : ((s / 2).toNat ^^^ (if s % 2 = 1 then (3988292384 : Int) else 0).toNat).testBit 31 = decide (s % 2 = 1) := by
    rw [Nat.testBit_xor]
    have e1 : (s / 2).toNat.testBit 31 = false := Nat.testBit_lt_two_pow (by omega)
    rw [e1]
    split
    · rename_i h; simp [h]; decide
    · rename_i h; simp [h]
  have lt : ((s / 2).toNat ^^^ (if s % 2 = 1 then (3988292384 : Int) else 0).toNat) < 2 ^ 32 := Nat.xor_lt_two_pow (by omega) (by split <;> omega)
  generalize (s / 2).toNat ^^^ (if s % 2 = 1 then (3988292384 : Int) else 0).toNat = r at key lt
  rw [← key, Nat.testBit_eq_decide_div_mod_eq, decide_eq_decide]
  have : r / 2 ^ 31 < 2 := by omega
  omega

theorem stp_inj {s t : Int} (h1 : 0 ≤ s) (h2 : s < 4294967296) (h3 : 0 ≤ t) (h4 : t < 4294967296) (h : stp s = stp t) : s = t := by
  have a := stp_top h1 h2
  have b := stp_top h3 h4
  rw [h, b, decide_eq_decide] at a
  unfold stp at h
  by_cases hs : s % 2 = 1
  · have ht := a.2 hs
    rw [if_pos hs, if_pos ht] at h
    have := xor32_inj (by omega) (by omega) (by omega) (by omega) (by omega) (by omega) h
    omega
  · have ht : ¬ t % 2 = 1 := fun h => hs (a.1 h)
    rw [if_neg hs, if_neg ht] at h
    have := xor32_inj (by omega) (by omega) (by omega) (by omega) (by omega) (by omega) h
    omega

theorem stps_lt : ∀ (n : Nat) {s : Int}, 0 ≤ s → s < 4294967296 → 0 ≤ stps n s ∧ stps n s < 4294967296
  | 0, _, h1, h2 => ⟨h1, h2⟩
  | n + 1, s, _, _ => stps_lt n (stp_lt s).1 (stp_lt s).2

theorem stps_inj : ∀ (n : Nat) {s t : Int}, 0 ≤ s → s < 4294967296 → 0 ≤ t → t < 4294967296 → stps n s = stps n t → s = t
  | 0, _, _, _, _, _, _, h => h
  | n + 1, s, t, h1, h2, h3, h4, h => stp_inj h1 h2 h3 h4 (stps_inj n (stp_lt s).1 (stp_lt s).2 (stp_lt t).1 (stp_lt t).2 h)

theorem crcB_lt (s c : Int) : 0 ≤ crcB s c ∧ crcB s c < 4294967296 := stps_lt 8 (xor32_lt _ _).1 (xor32_lt _ _).2

theorem crcB_inj {s t c : Int} (h1 : 0 ≤ s) (h2 : s < 4294967296) (h3 : 0 ≤ t) (h4 : t < 4294967296) (h5 : 0 ≤ c) (h6 : c < 256) (h : crcB s c = crcB t c) : s = t :=
  xor32_inj h1 h2 h3 h4 h5 (by omega) (stps_inj 8 (xor32_lt _ _).1 (xor32_lt _ _).2 (xor32_lt _ _).1 (xor32_lt _ _).2 h)

theorem crcB_inj' {s c d : Int} (h1 : 0 ≤ s) (h2 : s < 4294967296) (h3 : 0 ≤ c) (h4 : c < 256) (h5 : 0 ≤ d) (h6 : d < 256) (h : crcB s c = crcB s d) : c = d :=
  xor32_inj' h3 (by omega) h5 (by omega) h1 h2 (stps_inj 8 (xor32_lt _ _).1 (xor32_lt _ _).2 (xor32_lt _ _).1 (xor32_lt _ _).2 h)

/-- Bytes. -/
def Byt (l : List Int) : Prop := ∀ x ∈ l, 0 ≤ x ∧ x < 256

theorem crcL_lt : ∀ (l : List Int) {s : Int}, 0 ≤ s → s < 4294967296 → 0 ≤ crcL s l ∧ crcL s l < 4294967296
  | [], _, h1, h2 => ⟨h1, h2⟩
  | c :: l, s, _, _ => crcL_lt l (crcB_lt s c).1 (crcB_lt s c).2

theorem crcL_inj : ∀ (l : List Int) {s t : Int}, Byt l → 0 ≤ s → s < 4294967296 → 0 ≤ t → t < 4294967296 → crcL s l = crcL t l → s = t
  | [], _, _, _, _, _, _, _, h => h
  | c :: l, s, t, hl, h1, h2, h3, h4, h =>
    crcB_inj h1 h2 h3 h4 (hl c (by simp)).1 (hl c (by simp)).2 (crcL_inj l (fun x hx => hl x (by simp [hx])) (crcB_lt s c).1 (crcB_lt s c).2 (crcB_lt t c).1 (crcB_lt t c).2 h)

/-- Another byte at one place: another checksum. -/
theorem crcL_other : ∀ (k : Nat) (l : List Int) {s c : Int}, Byt l → 0 ≤ s → s < 4294967296 → 0 ≤ c → c < 256 → k < l.length → l.getD k 0 ≠ c → crcL s l ≠ crcL s (l.set k c)
  | _, [], _, _, _, _, _, _, _, hk, _ => by cases hk
  | 0, d :: l, s, c, hl, h1, h2, h3, h4, _, hne => fun h => by
    have hd := hl d (by simp)
    have := crcL_inj l (fun x hx => hl x (by simp [hx])) (crcB_lt s d).1 (crcB_lt s d).2 (crcB_lt s c).1 (crcB_lt s c).2 h
    exact hne (crcB_inj' h1 h2 hd.1 hd.2 h3 h4 this)
  | k + 1, d :: l, s, c, hl, h1, h2, h3, h4, hk, hne =>
    crcL_other k l (fun x hx => hl x (by simp [hx])) (crcB_lt s d).1 (crcB_lt s d).2 h3 h4 (by simpa using hk) (by simpa using hne)

/-! ### Numbers -/

/-- The form of a number below 128 ^ (k + 1). -/
def uintF : Nat → Int → List Int
  | 0, n => [n]
  | k + 1, n => if n < 128 then [n] else (n % 128 + 128) :: uintF k (n / 128)
def uint (n : Int) : List Int := uintF 9 n

theorem uintF_small {k : Nat} {n : Int} (h : n < 128) : uintF k n = [n] := by
  cases k with
  | zero => rfl
  | succ k => simp [uintF, h]

theorem uintF_byt : ∀ (k : Nat) {n : Int}, 0 ≤ n → n < 128 ^ (k + 1) → Byt (uintF k n)
  | 0, n, h1, h2 => by
    intro x hx
    simp only [uintF, List.mem_singleton] at hx
    subst hx
    simp at h2
    omega
  | k + 1, n, h1, h2 => by
    intro x hx
    simp only [uintF] at hx
    split at hx
    · simp only [List.mem_singleton] at hx
      subst hx; omega
    · rcases List.mem_cons.1 hx with rfl | hx
      · omega
      · refine uintF_byt k (by omega) ?_ x hx
        rw [Int.pow_succ] at h2
        omega

/-- Bytes read as a number, from place i on, n being read so far: the number, the rest, the error. -/
def rd : Nat → Int → List Int → Int × List Int × Int
  | _, _, [] => (0, [], 4)
  | i, n, c :: r =>
    if i = 9 ∧ 1 < c then (0, [], 2)
    else if c < 128 then (if c = 0 ∧ 0 < i then (0, [], 3) else (n + c * 128 ^ i, r, 0))
    else rd (i + 1) (n + (c % 128) * 128 ^ i) r

theorem pow9 : (128 : Int) ^ 9 = 9223372036854775808 := by decide

theorem rd_uintF : ∀ (k i : Nat) (m n : Int) (rest : List Int), 0 ≤ n → n < 128 ^ (k + 1) → i + k ≤ 9 → n * 128 ^ i < 18446744073709551616 → (0 < i → 1 ≤ n) → rd i m (uintF k n ++ rest) = (m + n * 128 ^ i, rest, 0)
  | 0, i, m, n, rest, h1, h2, h3, h4, h5 => by
    simp at h2
    have e : ¬ (i = 9 ∧ 1 < n) := by
      rintro ⟨rfl, h⟩
      rw [pow9] at h4
      omega
    simp only [uintF, List.singleton_append, rd, if_neg e, h2, if_true]
    rw [if_neg (by omega)]
  | k + 1, i, m, n, rest, h1, h2, h3, h4, h5 => by
    simp only [uintF]
    split
    · rename_i hn
      have e : ¬ (i = 9 ∧ 1 < n) := by omega
      simp only [List.singleton_append, rd, if_neg e, hn, if_true]
      rw [if_neg (by omega)]
    · have e : ¬ (i = 9 ∧ 1 < n % 128 + 128) := by omega
      have e2 : ¬ (n % 128 + 128 < 128) := by omega
      rw [List.cons_append]
      simp only [rd, if_neg e, e2, if_false]
      have e3 : n / 128 * 128 ^ (i + 1) + (n % 128) * 128 ^ i = n * 128 ^ i := by
        have : n = n / 128 * 128 + n % 128 := by omega
        generalize n / 128 = q at *
        generalize n % 128 = r at *
        subst this
        rw [Int.pow_succ]
        grind
      have hp : (0 : Int) < 128 ^ i := Int.pow_pos (by omega)
      have e4 : 0 ≤ n % 128 * 128 ^ i := Int.mul_nonneg (by omega) (by omega)
      rw [rd_uintF k (i + 1) _ (n / 128) rest (by omega) (by rw [Int.pow_succ] at h2; omega) (by omega) (by omega) (by omega)]
      have e5 : (n % 128 + 128) % 128 = n % 128 := by omega
      rw [e5]
      simp only [Prod.mk.injEq, and_true]
      omega

theorem rd_uint {n : Int} (h1 : 0 ≤ n) (h2 : n ≤ 18446744073709551615) (rest : List Int) : rd 0 0 (uint n ++ rest) = (n, rest, 0) := by
  have := rd_uintF 9 0 0 n rest h1 (Int.lt_of_lt_of_le (Int.lt_add_one_of_le h2) (by decide)) (by omega) (by simp; omega) (by omega)
  simpa [uint] using this

/-- What is read without an error is its number's form and the rest. -/
theorem rd_back : ∀ (b : List Int) (i : Nat) (m v : Int) (rest : List Int), Byt b → i ≤ 9 → rd i m b = (v, rest, 0) →
    ∃ n, 0 ≤ n ∧ v = m + n * 128 ^ i ∧ b = uintF (9 - i) n ++ rest ∧ (0 < i → 1 ≤ n) ∧ n * 128 ^ i + 128 ^ i ≤ 18446744073709551616
  | [], i, m, v, rest, _, _, h => by simp [rd] at h
  | c :: r, i, m, v, rest, hb, hi, h => by
    have hc := hb c (by simp)
    have hp : (0 : Int) < 128 ^ i := Int.pow_pos (by omega)
    simp only [rd] at h
    split at h
    · simp at h
    · rename_i h9
      split at h
      · rename_i hlt
        split at h
        · simp at h
        · rename_i h0
          simp only [Prod.mk.injEq, and_true] at h
          obtain ⟨rfl, rfl⟩ := h
          refine ⟨c, hc.1, rfl, by rw [uintF_small hlt]; rfl, by omega, ?_⟩
          by_cases h : i = 9
          · subst h; rw [pow9]; omega
          · have hi8 : i ≤ 8 := by omega
            have : (128 : Int) ^ i ≤ 128 ^ 8 := by exact_mod_cast (Nat.pow_le_pow_right (by omega) hi8 : 128 ^ i ≤ 128 ^ 8)
            have e8 : (128 : Int) ^ 8 = 72057594037927936 := by decide
            have h1 : c * 128 ^ i ≤ 127 * 128 ^ i := Int.mul_le_mul_of_nonneg_right (by omega) (by omega)
            omega
      · rename_i hge
        have hi8 : i ≤ 8 := by omega
        obtain ⟨n, a1, a2, a3, a4, a5⟩ := rd_back r (i + 1) _ v rest (fun x hx => hb x (by simp [hx])) (by omega) h
        have hn := a4 (by omega)
        rw [Int.pow_succ] at a2 a5
        refine ⟨c % 128 + n * 128, by omega, ?_, ?_, by omega, ?_⟩
        · rw [a2]; grind
        · have e : 9 - i = (9 - (i + 1)) + 1 := by omega
          rw [e]
          simp only [uintF]
          rw [if_neg (by omega), a3]
          have e1 : (c % 128 + n * 128) % 128 + 128 = c := by omega
          have e2 : (c % 128 + n * 128) / 128 = n := by omega
          rw [e1, e2]
          rfl
        · have h1 : c % 128 * 128 ^ i ≤ 127 * 128 ^ i := Int.mul_le_mul_of_nonneg_right (by omega) (by omega)
          have e1 : (c % 128 + n * 128) * 128 ^ i = c % 128 * 128 ^ i + n * (128 ^ i * 128) := by grind
          omega

theorem rd_range : ∀ (b : List Int) (i : Nat) (m : Int), (rd i m b).2.2 ≠ 0 → (rd i m b).1 = 0 ∧ (rd i m b).2.1 = []
  | [], _, _, _ => ⟨rfl, rfl⟩
  | c :: r, i, m, h => by
    simp only [rd] at h ⊢
    split
    · exact ⟨rfl, rfl⟩
    · rename_i h9
      rw [if_neg h9] at h
      split
      · rename_i hlt
        rw [if_pos hlt] at h
        split
        · exact ⟨rfl, rfl⟩
        · rename_i h0
          rw [if_neg h0] at h
          exact absurd rfl h
      · rename_i hge
        rw [if_neg hge] at h
        exact rd_range r (i + 1) _ h

end Go.AE
