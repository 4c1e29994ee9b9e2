/-
  The configuration of this seat for the abstract executor: its types' table and its element types' codecs. Written by a program of the prover's own (cfg.py) off the translation.
-/
import Derived.Test.YtkhnmonbielapaaTy
import Derived.Test.YtkhnmonbielapaaAe
import Derived.Test.YtkhnmonbielapaaProg
import Derived.KernelRfl
namespace Go.AE
open Go.Proofs

@[reducible] def tE : Nat → Type
  | 3 => Int
  | 23 => Pt
  | 29 => Rc
  | 37 => Int
  | _ => Empty
theorem tE_else {e : Nat} (h3 : e ≠ 3) (h23 : e ≠ 23) (h29 : e ≠ 29) (h37 : e ≠ 37) : tE e = Empty := by
  unfold tE
  split <;> first | rfl | contradiction
theorem tE_cases (e : Nat) : e = 3 ∨ e = 23 ∨ e = 29 ∨ e = 37 ∨ tE e = Empty := by
  by_cases h3 : e = 3
  · exact .inl h3
  by_cases h23 : e = 23
  · exact .inr (.inl h23)
  by_cases h29 : e = 29
  · exact .inr (.inr (.inl h29))
  by_cases h37 : e = 37
  · exact .inr (.inr (.inr (.inl h37)))
  exact .inr (.inr (.inr (.inr (tE_else h3 h23 h29 h37))))
def enc3 : Int → List (AV tE) := fun x => [.int .i64 x]
def dec3 : List (AV tE) → Option Int
  | [.int .i64 x] => some x
  | _ => none
theorem dec3_ok {l : List (AV tE)} {x : Int} (h : dec3 l = some x) : enc3 x = l := by
  unfold dec3 at h
  split at h
  · cases h; rfl
  · cases h
def enc23 : Pt → List (AV tE) := fun p => [.int .i64 p.X, .int .i64 p.Y]
def dec23 : List (AV tE) → Option Pt
  | [.int .i64 x, .int .i64 y] => some ⟨x, y⟩
  | _ => none
theorem dec23_ok {l : List (AV tE)} {x : Pt} (h : dec23 l = some x) : enc23 x = l := by
  unfold dec23 at h
  split at h
  · cases h; rfl
  · cases h
def enc29 : Rc → List (AV tE) := fun p => [.int .i64 p.X0, .int .i64 p.Y0, .int .i64 p.X1, .int .i64 p.Y1]
def dec29 : List (AV tE) → Option Rc
  | [.int .i64 a, .int .i64 b, .int .i64 c, .int .i64 d] => some ⟨a, b, c, d⟩
  | _ => none
theorem dec29_ok {l : List (AV tE)} {x : Rc} (h : dec29 l = some x) : enc29 x = l := by
  unfold dec29 at h
  split at h
  · cases h; rfl
  · cases h
def enc37 : Int → List (AV tE) := fun x => [.int .i16 x]
def dec37 : List (AV tE) → Option Int
  | [.int .i16 x] => some x
  | _ => none
theorem dec37_ok {l : List (AV tE)} {x : Int} (h : dec37 l = some x) : enc37 x = l := by
  unfold dec37 at h
  split at h
  · cases h; rfl
  · cases h
def tEnc : (e : Nat) → tE e → List (AV tE)
  | 3 => enc3
  | 23 => enc23
  | 29 => enc29
  | 37 => enc37
  | _ => fun _ => []
def tDec : (e : Nat) → List (AV tE) → Option (tE e)
  | 3 => dec3
  | 23 => dec23
  | 29 => dec29
  | 37 => dec37
  | _ => fun _ => none
def tL : List (Option (TI tE)) := [
  none,
  none,
  some ⟨.int .i64, false, 1, 8, [.int .i64 0]⟩,
  some ⟨.int .i64, false, 1, 8, [.int .i64 0]⟩,
  some ⟨.bool, false, 1, 1, [.bool false]⟩,
  some ⟨.int .u8, false, 1, 1, [.int .u8 0]⟩,
  none,
  none,
  none,
  some ⟨.str, false, 1, 16, [.str []]⟩,
  none,
  none,
  some ⟨.int .u64, false, 1, 8, [.int .u64 0]⟩,
  some ⟨.struct [(9, 0), (12, 1)], false, 2, 24, [.str [], .int .u64 0]⟩,
  none,
  none,
  none,
  none,
  none,
  none,
  none,
  some ⟨.int .i32, false, 1, 4, [.int .i32 0]⟩,
  some ⟨.struct [(3, 0), (3, 1)], true, 2, 16, [.int .i64 0, .int .i64 0]⟩,
  some ⟨.struct [(3, 0), (3, 1)], true, 2, 16, [.int .i64 0, .int .i64 0]⟩,
  some ⟨.struct [(3, 0), (3, 1), (3, 2)], true, 3, 24, [.int .i64 0, .int .i64 0, .int .i64 0]⟩,
  some ⟨.struct [(3, 0), (3, 1), (3, 2)], true, 3, 24, [.int .i64 0, .int .i64 0, .int .i64 0]⟩,
  some ⟨.struct [(23, 0), (25, 2)], false, 5, 40, [.int .i64 0, .int .i64 0, .int .i64 0, .int .i64 0, .int .i64 0]⟩,
  some ⟨.struct [(23, 0), (25, 2)], false, 5, 40, [.int .i64 0, .int .i64 0, .int .i64 0, .int .i64 0, .int .i64 0]⟩,
  some ⟨.struct [(3, 0), (3, 1), (3, 2), (3, 3)], true, 4, 32, [.int .i64 0, .int .i64 0, .int .i64 0, .int .i64 0]⟩,
  some ⟨.struct [(3, 0), (3, 1), (3, 2), (3, 3)], true, 4, 32, [.int .i64 0, .int .i64 0, .int .i64 0, .int .i64 0]⟩,
  none,
  some ⟨.struct [(3, 0), (3, 1)], true, 2, 16, [.int .i64 0, .int .i64 0]⟩,
  some ⟨.struct [(3, 0), (3, 1)], true, 2, 16, [.int .i64 0, .int .i64 0]⟩,
  none,
  none,
  none,
  none,
  some ⟨.int .i16, false, 1, 2, [.int .i16 0]⟩,
  some ⟨.array 2 37, false, 2, 4, [.int .i16 0, .int .i16 0]⟩,
  none,
  none,
  none,
  some ⟨.array 2 3, false, 2, 16, [.int .i64 0, .int .i64 0]⟩,
  none,
  none,
  none,
  some ⟨.array 2 29, false, 8, 64, [.int .i64 0, .int .i64 0, .int .i64 0, .int .i64 0, .int .i64 0, .int .i64 0, .int .i64 0, .int .i64 0]⟩,
  none,
  none,
  some ⟨.slice 23, false, 1, 24, [.nils]⟩,
  none,
  some ⟨.array 4 23, false, 8, 64, [.int .i64 0, .int .i64 0, .int .i64 0, .int .i64 0, .int .i64 0, .int .i64 0, .int .i64 0, .int .i64 0]⟩,
  none,
  none,
  none,
  some ⟨.array 2 23, false, 4, 32, [.int .i64 0, .int .i64 0, .int .i64 0, .int .i64 0]⟩,
  none,
  none,
  some ⟨.int .u16, false, 1, 2, [.int .u16 0]⟩,
  none,
  some ⟨.struct [(32, 0), (32, 2)], false, 4, 32, [.int .i64 0, .int .i64 0, .int .i64 0, .int .i64 0]⟩,
  some ⟨.struct [(32, 0), (32, 2)], false, 4, 32, [.int .i64 0, .int .i64 0, .int .i64 0, .int .i64 0]⟩,
  none,
  none,
  none,
  none,
  some ⟨.struct [(3, 0), (3, 1), (3, 2), (3, 3), (4, 4), (4, 5)], true, 6, 40, [.int .i64 0, .int .i64 0, .int .i64 0, .int .i64 0, .bool false, .bool false]⟩,
  some ⟨.struct [(3, 0), (3, 1), (3, 2), (3, 3), (4, 4), (4, 5)], true, 6, 40, [.int .i64 0, .int .i64 0, .int .i64 0, .int .i64 0, .bool false, .bool false]⟩,
  none,
  none,
  none,
  none,
  none,
  none,
  none,
  none,
  none,
  none,
  none,
  none,
  none,
  none,
  none,
  none,
  some ⟨.ptr, false, 1, 8, [.nilp]⟩,
  none,
  none,
  none,
  none,
  none,
  none,
  none,
  none,
  some ⟨.int .u32, false, 1, 4, [.int .u32 0]⟩,
  none,
  none,
  none,
  some ⟨.ptr, false, 1, 8, [.nilp]⟩]
def tT (t : Nat) : Option (TI tE) := match tL[t]? with
  | some x => x
  | none => none
def tBytes : (e : Nat) → List (tE e) → Option (List Int)
  | _ => fun _ => none
noncomputable def tC : Cfg := { P := Try.prog, E := tE, enc := tEnc, dec := tDec, T := tT, bytes := tBytes }
theorem tE_free (e : Nat) (x : tE e) : (tEnc e x).all AV.free = true := by
  rcases tE_cases e with rfl | rfl | rfl | rfl | h
  · rfl
  · rfl
  · rfl
  · rfl
  · exact (cast h x).elim
theorem tE_dec (e : Nat) (l : List (AV tE)) (x : tE e) (h : tDec e l = some x) : tEnc e x = l := by
  rcases tE_cases e with rfl | rfl | rfl | rfl | h1
  · exact dec3_ok h
  · exact dec23_ok h
  · exact dec29_ok h
  · exact dec37_ok h
  · exact (cast h1 x).elim
theorem tE_len (e : Nat) (x : tE e) : (tEnc e x).length = sizeT tC e := by
  rcases tE_cases e with rfl | rfl | rfl | rfl | h
  · kernel_rfl
  · kernel_rfl
  · kernel_rfl
  · kernel_rfl
  · exact (cast h x).elim
theorem tE_bytes (e : Nat) (xs : List (tE e)) (l : List Int) (h : tC.bytes e xs = some l) : l.length = xs.length ∧ ∀ i (h1 : i < xs.length) (h2 : i < l.length), tC.enc e xs[i] = [.int .u8 l[i]] := by
  have hb : tBytes e xs = some l := h
  unfold tBytes at hb
  split at hb
  · cases hb
theorem tE_flat (e : Nat) (h : flatB tC e = true) (x : tE e) : (tEnc e x).all AV.plain = true := by
  rcases tE_cases e with rfl | rfl | rfl | rfl | h1
  · rfl
  · rfl
  · rfl
  · rfl
  · exact (cast h1 x).elim
def tEl (e : Nat) : Bool := match e with
  | 3 => true
  | 23 => true
  | 29 => true
  | 37 => true
  | _ => false
def tD : Nat := 4
end Go.AE
