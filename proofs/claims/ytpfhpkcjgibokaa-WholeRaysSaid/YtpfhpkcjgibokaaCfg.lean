/-
  The configuration of this seat for the abstract executor: its types' table and its element types' codecs. Written by a program of the prover's own (cfg.py) off the translation.
-/
import Derived.Test.YtpfhpkcjgibokaaTy
import Derived.Test.YtpfhpkcjgibokaaAe
import Derived.Test.YtpfhpkcjgibokaaProg
import Derived.KernelRfl
namespace Go.AE
open Go.Proofs

@[reducible] def tE : Nat → Type
  | 3 => Int
  | 5 => Int
  | 41 => Bm
  | 51 => Pt
  | 61 => En
  | _ => Empty
theorem tE_else {e : Nat} (h3 : e ≠ 3) (h5 : e ≠ 5) (h41 : e ≠ 41) (h51 : e ≠ 51) (h61 : e ≠ 61) : tE e = Empty := by
  unfold tE
  split <;> first | rfl | contradiction
theorem tE_cases (e : Nat) : e = 3 ∨ e = 5 ∨ e = 41 ∨ e = 51 ∨ e = 61 ∨ tE e = Empty := by
  by_cases h3 : e = 3
  · exact .inl h3
  by_cases h5 : e = 5
  · exact .inr (.inl h5)
  by_cases h41 : e = 41
  · exact .inr (.inr (.inl h41))
  by_cases h51 : e = 51
  · exact .inr (.inr (.inr (.inl h51)))
  by_cases h61 : e = 61
  · exact .inr (.inr (.inr (.inr (.inl h61))))
  exact .inr (.inr (.inr (.inr (.inr (tE_else h3 h5 h41 h51 h61)))))
def enc3 : Int → List (AV tE) := fun x => [.int .i64 x]
def dec3 : List (AV tE) → Option Int
  | [.int .i64 x] => some x
  | _ => none
theorem dec3_ok {l : List (AV tE)} {x : Int} (h : dec3 l = some x) : enc3 x = l := by
  unfold dec3 at h
  split at h
  · cases h; rfl
  · cases h
def enc5 : Int → List (AV tE) := fun x => [.int .u8 x]
def dec5 : List (AV tE) → Option Int
  | [.int .u8 x] => some x
  | _ => none
theorem dec5_ok {l : List (AV tE)} {x : Int} (h : dec5 l = some x) : enc5 x = l := by
  unfold dec5 at h
  split at h
  · cases h; rfl
  · cases h
def enc41 : Bm → List (AV tE) := fun p => [.int .i64 p.M, .int .i64 p.R]
def dec41 : List (AV tE) → Option Bm
  | [.int .i64 m, .int .i64 r] => some ⟨m, r⟩
  | _ => none
theorem dec41_ok {l : List (AV tE)} {x : Bm} (h : dec41 l = some x) : enc41 x = l := by
  unfold dec41 at h
  split at h
  · cases h; rfl
  · cases h
def enc51 : Pt → List (AV tE) := fun p => [.int .i64 p.X, .int .i64 p.Y]
def dec51 : List (AV tE) → Option Pt
  | [.int .i64 x, .int .i64 y] => some ⟨x, y⟩
  | _ => none
theorem dec51_ok {l : List (AV tE)} {x : Pt} (h : dec51 l = some x) : enc51 x = l := by
  unfold dec51 at h
  split at h
  · cases h; rfl
  · cases h
def enc61 : En → List (AV tE) := fun p => [.int .i64 p.X, .int .i64 p.Y, .int .i64 p.A, .int .i64 p.B]
def dec61 : List (AV tE) → Option En
  | [.int .i64 x, .int .i64 y, .int .i64 a, .int .i64 b] => some ⟨x, y, a, b⟩
  | _ => none
theorem dec61_ok {l : List (AV tE)} {x : En} (h : dec61 l = some x) : enc61 x = l := by
  unfold dec61 at h
  split at h
  · cases h; rfl
  · cases h
def tEnc : (e : Nat) → tE e → List (AV tE)
  | 3 => enc3
  | 5 => enc5
  | 41 => enc41
  | 51 => enc51
  | 61 => enc61
  | _ => fun _ => []
def tDec : (e : Nat) → List (AV tE) → Option (tE e)
  | 3 => dec3
  | 5 => dec5
  | 41 => dec41
  | 51 => dec51
  | 61 => dec61
  | _ => fun _ => none
def tL : List (Option (TI tE)) := [
  none,
  none,
  some ⟨.int .i64, false, 1, 8, [.int .i64 0]⟩,
  some ⟨.int .i64, false, 1, 8, [.int .i64 0]⟩,
  some ⟨.bool, false, 1, 1, [.bool false]⟩,
  some ⟨.int .u8, false, 1, 1, [.int .u8 0]⟩,
  none,
  none,
  none,
  some ⟨.str, false, 1, 16, [.str []]⟩,
  none,
  none,
  some ⟨.int .u64, false, 1, 8, [.int .u64 0]⟩,
  some ⟨.struct [(9, 0), (12, 1)], false, 2, 24, [.str [], .int .u64 0]⟩,
  none,
  none,
  none,
  none,
  none,
  none,
  none,
  some ⟨.int .i32, false, 1, 4, [.int .i32 0]⟩,
  some ⟨.slice 5, false, 1, 24, [.nils]⟩,
  some ⟨.struct [(3, 0), (3, 1), (22, 2)], false, 3, 40, [.int .i64 0, .int .i64 0, .nils]⟩,
  some ⟨.struct [(3, 0), (3, 1), (22, 2)], false, 3, 40, [.int .i64 0, .int .i64 0, .nils]⟩,
  some ⟨.struct [(3, 0), (3, 1), (3, 2), (3, 3)], true, 4, 32, [.int .i64 0, .int .i64 0, .int .i64 0, .int .i64 0]⟩,
  some ⟨.struct [(3, 0), (3, 1), (3, 2), (3, 3)], true, 4, 32, [.int .i64 0, .int .i64 0, .int .i64 0, .int .i64 0]⟩,
  some ⟨.struct [(3, 0), (3, 1), (3, 2)], true, 3, 24, [.int .i64 0, .int .i64 0, .int .i64 0]⟩,
  some ⟨.struct [(3, 0), (3, 1), (3, 2)], true, 3, 24, [.int .i64 0, .int .i64 0, .int .i64 0]⟩,
  some ⟨.struct [(24, 0), (26, 3), (28, 7)], false, 10, 96, [.int .i64 0, .int .i64 0, .nils, .int .i64 0, .int .i64 0, .int .i64 0, .int .i64 0, .int .i64 0, .int .i64 0, .int .i64 0]⟩,
  some ⟨.struct [(24, 0), (26, 3), (28, 7)], false, 10, 96, [.int .i64 0, .int .i64 0, .nils, .int .i64 0, .int .i64 0, .int .i64 0, .int .i64 0, .int .i64 0, .int .i64 0, .int .i64 0]⟩,
  none,
  none,
  none,
  none,
  none,
  some ⟨.int .i64, false, 1, 8, [.int .i64 0]⟩,
  none,
  none,
  none,
  some ⟨.struct [(3, 0), (3, 1)], true, 2, 16, [.int .i64 0, .int .i64 0]⟩,
  some ⟨.struct [(3, 0), (3, 1)], true, 2, 16, [.int .i64 0, .int .i64 0]⟩,
  some ⟨.struct [(3, 0), (3, 1)], true, 2, 16, [.int .i64 0, .int .i64 0]⟩,
  some ⟨.struct [(3, 0), (3, 1)], true, 2, 16, [.int .i64 0, .int .i64 0]⟩,
  some ⟨.struct [(3, 0), (3, 1), (3, 2)], true, 3, 24, [.int .i64 0, .int .i64 0, .int .i64 0]⟩,
  some ⟨.struct [(3, 0), (3, 1), (3, 2)], true, 3, 24, [.int .i64 0, .int .i64 0, .int .i64 0]⟩,
  none,
  some ⟨.slice 51, false, 1, 24, [.nils]⟩,
  none,
  none,
  none,
  some ⟨.struct [(3, 0), (3, 1)], true, 2, 16, [.int .i64 0, .int .i64 0]⟩,
  some ⟨.struct [(3, 0), (3, 1)], true, 2, 16, [.int .i64 0, .int .i64 0]⟩,
  some ⟨.struct [(3, 0), (3, 1)], true, 2, 16, [.int .i64 0, .int .i64 0]⟩,
  none,
  none,
  some ⟨.slice 61, false, 1, 24, [.nils]⟩,
  none,
  none,
  some ⟨.slice 41, false, 1, 24, [.nils]⟩,
  some ⟨.struct [(51, 0), (3, 2), (3, 3)], false, 4, 32, [.int .i64 0, .int .i64 0, .int .i64 0, .int .i64 0]⟩,
  some ⟨.struct [(51, 0), (3, 2), (3, 3)], false, 4, 32, [.int .i64 0, .int .i64 0, .int .i64 0, .int .i64 0]⟩,
  none,
  none,
  none,
  none,
  none,
  none,
  none,
  none,
  none,
  none,
  none,
  none,
  none,
  none,
  some ⟨.struct [(3, 0), (3, 1), (3, 2), (3, 3)], true, 4, 32, [.int .i64 0, .int .i64 0, .int .i64 0, .int .i64 0]⟩,
  some ⟨.struct [(3, 0), (3, 1), (3, 2), (3, 3)], true, 4, 32, [.int .i64 0, .int .i64 0, .int .i64 0, .int .i64 0]⟩,
  none,
  none,
  none,
  none,
  none,
  none,
  some ⟨.map 51 61, false, 1, 8, [.bot]⟩,
  some ⟨.map 51 61, false, 1, 8, [.bot]⟩,
  none,
  none,
  none,
  none,
  none,
  none,
  none,
  none,
  none,
  none,
  none,
  none,
  none,
  none,
  none,
  none,
  none,
  none,
  some ⟨.struct [(53, 0), (53, 2)], false, 4, 32, [.int .i64 0, .int .i64 0, .int .i64 0, .int .i64 0]⟩,
  some ⟨.struct [(53, 0), (53, 2)], false, 4, 32, [.int .i64 0, .int .i64 0, .int .i64 0, .int .i64 0]⟩,
  none,
  none,
  none,
  none,
  none,
  none,
  none,
  none,
  none,
  none,
  none,
  none,
  none,
  some ⟨.int .u64, false, 1, 8, [.int .u64 0]⟩,
  none,
  some ⟨.array 2 3, false, 2, 16, [.int .i64 0, .int .i64 0]⟩,
  none,
  none,
  none,
  none,
  none,
  none,
  none,
  some ⟨.slice 3, false, 1, 24, [.nils]⟩,
  some ⟨.ptr, false, 1, 8, [.nilp]⟩,
  none,
  none,
  some ⟨.int .i64, false, 1, 8, [.int .i64 0]⟩,
  none,
  none,
  none,
  none,
  none,
  none,
  some ⟨.int .u32, false, 1, 4, [.int .u32 0]⟩,
  none,
  some ⟨.int .u64, false, 1, 8, [.int .u64 0]⟩,
  some ⟨.int .u64, false, 1, 8, [.int .u64 0]⟩,
  none,
  none,
  none,
  some ⟨.ptr, false, 1, 8, [.nilp]⟩,
  none,
  some ⟨.ptr, false, 1, 8, [.nilp]⟩,
  none,
  none,
  none,
  none,
  none,
  none,
  none,
  none,
  none,
  none,
  none,
  some ⟨.ptr, false, 1, 8, [.nilp]⟩]
def tT (t : Nat) : Option (TI tE) := match tL[t]? with
  | some x => x
  | none => none
def tBytes : (e : Nat) → List (tE e) → Option (List Int)
  | 5 => fun xs => some xs
  | _ => fun _ => none
def tGl (g : Nat) : Option (List (IntKind × Int)) := match g with
  | _ => none
noncomputable def tC : Cfg := { P := Try.prog, E := tE, enc := tEnc, dec := tDec, T := tT, bytes := tBytes, gl := tGl }
theorem tE_free (e : Nat) (x : tE e) : (tEnc e x).all AV.free = true := by
  rcases tE_cases e with rfl | rfl | rfl | rfl | rfl | h
  · rfl
  · rfl
  · rfl
  · rfl
  · rfl
  · exact (cast h x).elim
theorem tE_dec (e : Nat) (l : List (AV tE)) (x : tE e) (h : tDec e l = some x) : tEnc e x = l := by
  rcases tE_cases e with rfl | rfl | rfl | rfl | rfl | h1
  · exact dec3_ok h
  · exact dec5_ok h
  · exact dec41_ok h
  · exact dec51_ok h
  · exact dec61_ok h
  · exact (cast h1 x).elim
theorem tE_len (e : Nat) (x : tE e) : (tEnc e x).length = sizeT tC e := by
  rcases tE_cases e with rfl | rfl | rfl | rfl | rfl | h
  · kernel_rfl
  · kernel_rfl
  · kernel_rfl
  · kernel_rfl
  · kernel_rfl
  · exact (cast h x).elim
theorem tE_bytes (e : Nat) (xs : List (tE e)) (l : List Int) (h : tC.bytes e xs = some l) : l.length = xs.length ∧ ∀ i (h1 : i < xs.length) (h2 : i < l.length), tC.enc e xs[i] = [.int .u8 l[i]] := by
  have hb : tBytes e xs = some l := h
  unfold tBytes at hb
  split at hb
  · cases hb; exact ⟨rfl, fun i _ _ => rfl⟩
  · cases hb
theorem tE_tight (e : Nat) (x : tE e) : (tEnc e x).all AV.tight = true := by
  rcases tE_cases e with rfl | rfl | rfl | rfl | rfl | h
  · rfl
  · rfl
  · rfl
  · rfl
  · rfl
  · exact (cast h x).elim
def tEl (e : Nat) : Bool := match e with
  | 3 => true
  | 5 => true
  | 41 => true
  | 51 => true
  | 61 => true
  | _ => false
def tD : Nat := 4
end Go.AE
