/-
  The configuration of this seat for the abstract executor: its types' table and its element types' codecs. Written by a program of the prover's own (cfg.py) off the translation.
-/
import Derived.Test.YthelgkjfdjnmeaaDoorTy
import Derived.Test.YthelgkjfdjnmeaaDoorAe
import Derived.Test.YthelgkjfdjnmeaaDoorProg
import Derived.KernelRfl
namespace Go.AE
open Go.Proofs

@[reducible] def tE : Nat → Type
  | 3 => Int
  | 5 => Int
  | 36 => Int
  | 39 => Pt
  | _ => Empty
theorem tE_else {e : Nat} (h3 : e ≠ 3) (h5 : e ≠ 5) (h36 : e ≠ 36) (h39 : e ≠ 39) : tE e = Empty := by
  unfold tE
  split <;> first | rfl | contradiction
theorem tE_cases (e : Nat) : e = 3 ∨ e = 5 ∨ e = 36 ∨ e = 39 ∨ tE e = Empty := by
  by_cases h3 : e = 3
  · exact .inl h3
  by_cases h5 : e = 5
  · exact .inr (.inl h5)
  by_cases h36 : e = 36
  · exact .inr (.inr (.inl h36))
  by_cases h39 : e = 39
  · exact .inr (.inr (.inr (.inl h39)))
  exact .inr (.inr (.inr (.inr (tE_else h3 h5 h36 h39))))
def enc3 : Int → List (AV tE) := fun x => [.int .i64 x]
def dec3 : List (AV tE) → Option Int
  | [.int .i64 x] => some x
  | _ => none
theorem dec3_ok {l : List (AV tE)} {x : Int} (h : dec3 l = some x) : enc3 x = l := by
  unfold dec3 at h
  split at h
  · cases h; rfl
  · cases h
def enc5 : Int → List (AV tE) := fun x => [.int .u8 x]
def dec5 : List (AV tE) → Option Int
  | [.int .u8 x] => some x
  | _ => none
theorem dec5_ok {l : List (AV tE)} {x : Int} (h : dec5 l = some x) : enc5 x = l := by
  unfold dec5 at h
  split at h
  · cases h; rfl
  · cases h
def enc36 : Int → List (AV tE) := fun x => [.int .u16 x]
def dec36 : List (AV tE) → Option Int
  | [.int .u16 x] => some x
  | _ => none
theorem dec36_ok {l : List (AV tE)} {x : Int} (h : dec36 l = some x) : enc36 x = l := by
  unfold dec36 at h
  split at h
  · cases h; rfl
  · cases h
def enc39 : Pt → List (AV tE) := fun p => [.int .i64 p.X, .int .i64 p.Y]
def dec39 : List (AV tE) → Option Pt
  | [.int .i64 x, .int .i64 y] => some ⟨x, y⟩
  | _ => none
theorem dec39_ok {l : List (AV tE)} {x : Pt} (h : dec39 l = some x) : enc39 x = l := by
  unfold dec39 at h
  split at h
  · cases h; rfl
  · cases h
def tEnc : (e : Nat) → tE e → List (AV tE)
  | 3 => enc3
  | 5 => enc5
  | 36 => enc36
  | 39 => enc39
  | _ => fun _ => []
def tDec : (e : Nat) → List (AV tE) → Option (tE e)
  | 3 => dec3
  | 5 => dec5
  | 36 => dec36
  | 39 => dec39
  | _ => fun _ => none
def tL : List (Option (TI tE)) := [
  none,
  none,
  some ⟨.int .i64, false, 1, 8, [.int .i64 0]⟩,
  some ⟨.int .i64, false, 1, 8, [.int .i64 0]⟩,
  some ⟨.bool, false, 1, 1, [.bool false]⟩,
  some ⟨.int .u8, false, 1, 1, [.int .u8 0]⟩,
  none,
  none,
  none,
  some ⟨.str, false, 1, 16, [.str []]⟩,
  none,
  none,
  some ⟨.int .u64, false, 1, 8, [.int .u64 0]⟩,
  some ⟨.struct [(9, 0), (12, 1)], false, 2, 24, [.str [], .int .u64 0]⟩,
  none,
  none,
  none,
  none,
  none,
  none,
  none,
  some ⟨.int .i32, false, 1, 4, [.int .i32 0]⟩,
  some ⟨.slice 5, false, 1, 24, [.nils]⟩,
  some ⟨.struct [(3, 0), (3, 1), (22, 2)], false, 3, 40, [.int .i64 0, .int .i64 0, .nils]⟩,
  some ⟨.struct [(3, 0), (3, 1), (22, 2)], false, 3, 40, [.int .i64 0, .int .i64 0, .nils]⟩,
  some ⟨.struct [(3, 0), (3, 1)], true, 2, 16, [.int .i64 0, .int .i64 0]⟩,
  some ⟨.struct [(3, 0), (3, 1)], true, 2, 16, [.int .i64 0, .int .i64 0]⟩,
  none,
  none,
  none,
  some ⟨.slice 3, false, 1, 24, [.nils]⟩,
  some ⟨.int .i64, false, 1, 8, [.int .i64 0]⟩,
  none,
  none,
  none,
  none,
  some ⟨.int .u16, false, 1, 2, [.int .u16 0]⟩,
  some ⟨.array 4 36, false, 4, 8, [.int .u16 0, .int .u16 0, .int .u16 0, .int .u16 0]⟩,
  none,
  some ⟨.struct [(3, 0), (3, 1)], true, 2, 16, [.int .i64 0, .int .i64 0]⟩,
  none,
  none,
  none,
  none,
  none,
  none,
  none,
  some ⟨.array 2 39, false, 4, 32, [.int .i64 0, .int .i64 0, .int .i64 0, .int .i64 0]⟩,
  none,
  none,
  none,
  none,
  none,
  none,
  none,
  some ⟨.struct [(3, 0), (3, 1), (3, 2), (3, 3)], true, 4, 32, [.int .i64 0, .int .i64 0, .int .i64 0, .int .i64 0]⟩,
  some ⟨.struct [(3, 0), (3, 1), (3, 2), (3, 3)], true, 4, 32, [.int .i64 0, .int .i64 0, .int .i64 0, .int .i64 0]⟩,
  none,
  none,
  none,
  none,
  none,
  none,
  none,
  some ⟨.array 4 39, false, 8, 64, [.int .i64 0, .int .i64 0, .int .i64 0, .int .i64 0, .int .i64 0, .int .i64 0, .int .i64 0, .int .i64 0]⟩,
  some ⟨.slice 39, false, 1, 24, [.nils]⟩,
  none,
  none,
  none,
  none,
  some ⟨.ptr, false, 1, 8, [.nilp]⟩,
  none,
  some ⟨.int .u64, false, 1, 8, [.int .u64 0]⟩,
  some ⟨.int .u64, false, 1, 8, [.int .u64 0]⟩,
  some ⟨.int .u64, false, 1, 8, [.int .u64 0]⟩,
  none,
  none,
  none,
  none,
  none,
  none,
  none,
  none,
  some ⟨.ptr, false, 1, 8, [.nilp]⟩,
  some ⟨.int .u32, false, 1, 4, [.int .u32 0]⟩]
def tT (t : Nat) : Option (TI tE) := match tL[t]? with
  | some x => x
  | none => none
def tBytes : (e : Nat) → List (tE e) → Option (List Int)
  | 5 => fun xs => some xs
  | _ => fun _ => none
def tGl (g : Nat) : Option (List (IntKind × Int)) := match g with
  | 0 => some [(.i64, 1), (.i64, 0), (.i64, 0), (.i64, 1), (.i64, (-1)), (.i64, 0), (.i64, 0), (.i64, (-1))]
  | _ => none
noncomputable def tC : Cfg := { P := Tryd.prog, E := tE, enc := tEnc, dec := tDec, T := tT, bytes := tBytes, gl := tGl }
theorem tE_free (e : Nat) (x : tE e) : (tEnc e x).all AV.free = true := by
  rcases tE_cases e with rfl | rfl | rfl | rfl | h
  · rfl
  · rfl
  · rfl
  · rfl
  · exact (cast h x).elim
theorem tE_dec (e : Nat) (l : List (AV tE)) (x : tE e) (h : tDec e l = some x) : tEnc e x = l := by
  rcases tE_cases e with rfl | rfl | rfl | rfl | h1
  · exact dec3_ok h
  · exact dec5_ok h
  · exact dec36_ok h
  · exact dec39_ok h
  · exact (cast h1 x).elim
theorem tE_len (e : Nat) (x : tE e) : (tEnc e x).length = sizeT tC e := by
  rcases tE_cases e with rfl | rfl | rfl | rfl | h
  · kernel_rfl
  · kernel_rfl
  · kernel_rfl
  · kernel_rfl
  · exact (cast h x).elim
theorem tE_bytes (e : Nat) (xs : List (tE e)) (l : List Int) (h : tC.bytes e xs = some l) : l.length = xs.length ∧ ∀ i (h1 : i < xs.length) (h2 : i < l.length), tC.enc e xs[i] = [.int .u8 l[i]] := by
  have hb : tBytes e xs = some l := h
  unfold tBytes at hb
  split at hb
  · cases hb; exact ⟨rfl, fun i _ _ => rfl⟩
  · cases hb
theorem tE_tight (e : Nat) (x : tE e) : (tEnc e x).all AV.tight = true := by
  rcases tE_cases e with rfl | rfl | rfl | rfl | h
  · rfl
  · rfl
  · rfl
  · rfl
  · exact (cast h x).elim
def tEl (e : Nat) : Bool := match e with
  | 3 => true
  | 5 => true
  | 36 => true
  | 39 => true
  | _ => false
def tD : Nat := 4
end Go.AE
