/-
  The configuration of this seat for the abstract executor: its types' table and its element types' codecs. Written by a program of the prover's own (cfg.py) off the translation.
-/
import Derived.Test.YtcphmffpkjngiaaTy
import Derived.Test.YtcphmffpkjngiaaAe
import Derived.Test.YtcphmffpkjngiaaProg
import Derived.KernelRfl
namespace Go.AE
open Go.Proofs

@[reducible] def tE : Nat → Type
  | 5 => Int
  | 26 => Ev
  | 46 => Bm
  | _ => Empty
theorem tE_else {e : Nat} (h5 : e ≠ 5) (h26 : e ≠ 26) (h46 : e ≠ 46) : tE e = Empty := by
  unfold tE
  split <;> first | rfl | contradiction
theorem tE_cases (e : Nat) : e = 5 ∨ e = 26 ∨ e = 46 ∨ tE e = Empty := by
  by_cases h5 : e = 5
  · exact .inl h5
  by_cases h26 : e = 26
  · exact .inr (.inl h26)
  by_cases h46 : e = 46
  · exact .inr (.inr (.inl h46))
  exact .inr (.inr (.inr (tE_else h5 h26 h46)))
def enc5 : Int → List (AV tE) := fun x => [.int .u8 x]
def dec5 : List (AV tE) → Option Int
  | [.int .u8 x] => some x
  | _ => none
theorem dec5_ok {l : List (AV tE)} {x : Int} (h : dec5 l = some x) : enc5 x = l := by
  unfold dec5 at h
  split at h
  · cases h; rfl
  · cases h
def enc26 : Ev → List (AV tE) := fun p => [.int .i64 p.T, .int .i64 p.U, .int .i64 p.F, .bool p.B, .him 46 p.S]
def dec26 : List (AV tE) → Option Ev
  | [.int .i64 t, .int .i64 u, .int .i64 f, .bool b, .him 46 s] => some ⟨t, u, f, b, s⟩
  | _ => none
theorem dec26_ok {l : List (AV tE)} {x : Ev} (h : dec26 l = some x) : enc26 x = l := by
  unfold dec26 at h
  split at h
  · cases h; rfl
  · cases h
def enc46 : Bm → List (AV tE) := fun p => [.int .i64 p.M, .int .i64 p.R]
def dec46 : List (AV tE) → Option Bm
  | [.int .i64 m, .int .i64 r] => some ⟨m, r⟩
  | _ => none
theorem dec46_ok {l : List (AV tE)} {x : Bm} (h : dec46 l = some x) : enc46 x = l := by
  unfold dec46 at h
  split at h
  · cases h; rfl
  · cases h
def tEnc : (e : Nat) → tE e → List (AV tE)
  | 5 => enc5
  | 26 => enc26
  | 46 => enc46
  | _ => fun _ => []
def tDec : (e : Nat) → List (AV tE) → Option (tE e)
  | 5 => dec5
  | 26 => dec26
  | 46 => dec46
  | _ => fun _ => none
def tL : List (Option (TI tE)) := [
  none,
  none,
  some ⟨.int .i64, false, 1, 8, [.int .i64 0]⟩,
  some ⟨.int .i64, false, 1, 8, [.int .i64 0]⟩,
  some ⟨.bool, false, 1, 1, [.bool false]⟩,
  some ⟨.int .u8, false, 1, 1, [.int .u8 0]⟩,
  none,
  none,
  none,
  some ⟨.str, false, 1, 16, [.str []]⟩,
  none,
  none,
  some ⟨.int .u64, false, 1, 8, [.int .u64 0]⟩,
  some ⟨.struct [(9, 0), (12, 1)], false, 2, 24, [.str [], .int .u64 0]⟩,
  none,
  none,
  none,
  none,
  none,
  none,
  none,
  some ⟨.int .i32, false, 1, 4, [.int .i32 0]⟩,
  some ⟨.struct [(3, 0), (3, 1)], true, 2, 16, [.int .i64 0, .int .i64 0]⟩,
  some ⟨.struct [(3, 0), (3, 1)], true, 2, 16, [.int .i64 0, .int .i64 0]⟩,
  some ⟨.slice 46, false, 1, 24, [.nils]⟩,
  some ⟨.struct [(3, 0), (23, 1), (4, 3), (24, 4)], false, 5, 56, [.int .i64 0, .int .i64 0, .int .i64 0, .bool false, .nils]⟩,
  some ⟨.struct [(3, 0), (23, 1), (4, 3), (24, 4)], false, 5, 56, [.int .i64 0, .int .i64 0, .int .i64 0, .bool false, .nils]⟩,
  none,
  some ⟨.slice 5, false, 1, 24, [.nils]⟩,
  none,
  none,
  some ⟨.int .i64, false, 1, 8, [.int .i64 0]⟩,
  none,
  none,
  none,
  none,
  none,
  some ⟨.slice 26, false, 1, 24, [.nils]⟩,
  none,
  some ⟨.ptr, false, 1, 8, [.nilp]⟩,
  none,
  some ⟨.ptr, false, 1, 8, [.nilp]⟩,
  none,
  none,
  none,
  some ⟨.struct [(3, 0), (3, 1)], true, 2, 16, [.int .i64 0, .int .i64 0]⟩,
  some ⟨.struct [(3, 0), (3, 1)], true, 2, 16, [.int .i64 0, .int .i64 0]⟩,
  none,
  none,
  none,
  none,
  none,
  none,
  none,
  none,
  none,
  some ⟨.int .u16, false, 1, 2, [.int .u16 0]⟩,
  none,
  none,
  none,
  none,
  none,
  some ⟨.struct [(37, 0)], false, 1, 24, [.nils]⟩,
  some ⟨.struct [(37, 0)], false, 1, 24, [.nils]⟩,
  none,
  none,
  none,
  none,
  none,
  none,
  none,
  none,
  none,
  some ⟨.int .u64, false, 1, 8, [.int .u64 0]⟩,
  some ⟨.ptr, false, 1, 8, [.nilp]⟩,
  some ⟨.struct [(28, 0), (31, 1)], false, 2, 32, [.nils, .int .i64 0]⟩,
  some ⟨.struct [(28, 0), (31, 1)], false, 2, 32, [.nils, .int .i64 0]⟩,
  none,
  none,
  none,
  none,
  none,
  some ⟨.struct [(28, 0), (37, 1)], false, 2, 48, [.nils, .nils]⟩,
  some ⟨.struct [(28, 0), (37, 1)], false, 2, 48, [.nils, .nils]⟩,
  none,
  none,
  none,
  none,
  none,
  none,
  none,
  none,
  none,
  none,
  none,
  none,
  none,
  none,
  some ⟨.int .u32, false, 1, 4, [.int .u32 0]⟩,
  none,
  none,
  none,
  none,
  some ⟨.int .u64, false, 1, 8, [.int .u64 0]⟩,
  none,
  none,
  none,
  none,
  none,
  none,
  none,
  none,
  none,
  some ⟨.ptr, false, 1, 8, [.nilp]⟩]
def tT (t : Nat) : Option (TI tE) := match tL[t]? with
  | some x => x
  | none => none
def tBytes : (e : Nat) → List (tE e) → Option (List Int)
  | 5 => fun xs => some xs
  | _ => fun _ => none
def tGl (g : Nat) : Option (List (IntKind × Int)) := match g with
  | _ => none
noncomputable def tC : Cfg := { P := Try.prog, E := tE, enc := tEnc, dec := tDec, T := tT, bytes := tBytes, gl := tGl }
theorem tE_free (e : Nat) (x : tE e) : (tEnc e x).all AV.free = true := by
  rcases tE_cases e with rfl | rfl | rfl | h
  · rfl
  · rfl
  · rfl
  · exact (cast h x).elim
theorem tE_dec (e : Nat) (l : List (AV tE)) (x : tE e) (h : tDec e l = some x) : tEnc e x = l := by
  rcases tE_cases e with rfl | rfl | rfl | h1
  · exact dec5_ok h
  · exact dec26_ok h
  · exact dec46_ok h
  · exact (cast h1 x).elim
theorem tE_len (e : Nat) (x : tE e) : (tEnc e x).length = sizeT tC e := by
  rcases tE_cases e with rfl | rfl | rfl | h
  · kernel_rfl
  · kernel_rfl
  · kernel_rfl
  · exact (cast h x).elim
theorem tE_bytes (e : Nat) (xs : List (tE e)) (l : List Int) (h : tC.bytes e xs = some l) : l.length = xs.length ∧ ∀ i (h1 : i < xs.length) (h2 : i < l.length), tC.enc e xs[i] = [.int .u8 l[i]] := by
  have hb : tBytes e xs = some l := h
  unfold tBytes at hb
  split at hb
  · cases hb; exact ⟨rfl, fun i _ _ => rfl⟩
  · cases hb
theorem tE_tight (e : Nat) (x : tE e) : (tEnc e x).all AV.tight = true := by
  rcases tE_cases e with rfl | rfl | rfl | h
  · rfl
  · rfl
  · rfl
  · exact (cast h x).elim
def tEl (e : Nat) : Bool := match e with
  | 5 => true
  | 26 => true
  | 46 => true
  | _ => false
def tD : Nat := 4
end Go.AE
