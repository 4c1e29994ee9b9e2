/-
  The configuration of this seat for the abstract executor: its types' table and its element types' codecs. Written by a program of the prover's own (cfg.py) off the translation.
-/
import Derived.Test.YtmhbjgelllhnbaaTy
import Derived.Test.YtmhbjgelllhnbaaAe
import Derived.Test.YtmhbjgelllhnbaaProg
import Derived.KernelRfl
namespace Go.AE
open Go.Proofs

@[reducible] def tE : Nat → Type
  | 3 => Int
  | 4 => Bool
  | 5 => Int
  | 26 => Pt
  | 75 => Vs
  | _ => Empty
theorem tE_else {e : Nat} (h3 : e ≠ 3) (h4 : e ≠ 4) (h5 : e ≠ 5) (h26 : e ≠ 26) (h75 : e ≠ 75) : tE e = Empty := by
  unfold tE
  split <;> first | rfl | contradiction
theorem tE_cases (e : Nat) : e = 3 ∨ e = 4 ∨ e = 5 ∨ e = 26 ∨ e = 75 ∨ tE e = Empty := by
  by_cases h3 : e = 3
  · exact .inl h3
  by_cases h4 : e = 4
  · exact .inr (.inl h4)
  by_cases h5 : e = 5
  · exact .inr (.inr (.inl h5))
  by_cases h26 : e = 26
  · exact .inr (.inr (.inr (.inl h26)))
  by_cases h75 : e = 75
  · exact .inr (.inr (.inr (.inr (.inl h75))))
  exact .inr (.inr (.inr (.inr (.inr (tE_else h3 h4 h5 h26 h75)))))
def enc3 : Int → List (AV tE) := fun x => [.int .i64 x]
def dec3 : List (AV tE) → Option Int
  | [.int .i64 x] => some x
  | _ => none
theorem dec3_ok {l : List (AV tE)} {x : Int} (h : dec3 l = some x) : enc3 x = l := by
  unfold dec3 at h
  split at h
  · cases h; rfl
  · cases h
def enc4 : Bool → List (AV tE) := fun x => [.bool x]
def dec4 : List (AV tE) → Option Bool
  | [.bool x] => some x
  | _ => none
theorem dec4_ok {l : List (AV tE)} {x : Bool} (h : dec4 l = some x) : enc4 x = l := by
  unfold dec4 at h
  split at h
  · cases h; rfl
  · cases h
def enc5 : Int → List (AV tE) := fun x => [.int .u8 x]
def dec5 : List (AV tE) → Option Int
  | [.int .u8 x] => some x
  | _ => none
theorem dec5_ok {l : List (AV tE)} {x : Int} (h : dec5 l = some x) : enc5 x = l := by
  unfold dec5 at h
  split at h
  · cases h; rfl
  · cases h
def enc26 : Pt → List (AV tE) := fun p => [.int .i64 p.X, .int .i64 p.Y]
def dec26 : List (AV tE) → Option Pt
  | [.int .i64 x, .int .i64 y] => some ⟨x, y⟩
  | _ => none
theorem dec26_ok {l : List (AV tE)} {x : Pt} (h : dec26 l = some x) : enc26 x = l := by
  unfold dec26 at h
  split at h
  · cases h; rfl
  · cases h
def enc75 : Vs → List (AV tE) := fun p => [.int .i64 p.X, .int .i64 p.Y, .int .i64 p.N]
def dec75 : List (AV tE) → Option Vs
  | [.int .i64 x, .int .i64 y, .int .i64 n] => some ⟨x, y, n⟩
  | _ => none
theorem dec75_ok {l : List (AV tE)} {x : Vs} (h : dec75 l = some x) : enc75 x = l := by
  unfold dec75 at h
  split at h
  · cases h; rfl
  · cases h
def tEnc : (e : Nat) → tE e → List (AV tE)
  | 3 => enc3
  | 4 => enc4
  | 5 => enc5
  | 26 => enc26
  | 75 => enc75
  | _ => fun _ => []
def tDec : (e : Nat) → List (AV tE) → Option (tE e)
  | 3 => dec3
  | 4 => dec4
  | 5 => dec5
  | 26 => dec26
  | 75 => dec75
  | _ => fun _ => none
def tL : List (Option (TI tE)) := [
  none,
  none,
  some ⟨.int .i64, false, 1, 8, [.int .i64 0]⟩,
  some ⟨.int .i64, false, 1, 8, [.int .i64 0]⟩,
  some ⟨.bool, false, 1, 1, [.bool false]⟩,
  some ⟨.int .u8, false, 1, 1, [.int .u8 0]⟩,
  none,
  none,
  none,
  some ⟨.str, false, 1, 16, [.str []]⟩,
  none,
  none,
  some ⟨.int .u64, false, 1, 8, [.int .u64 0]⟩,
  some ⟨.struct [(9, 0), (12, 1)], false, 2, 24, [.str [], .int .u64 0]⟩,
  none,
  none,
  none,
  none,
  none,
  none,
  none,
  some ⟨.int .i32, false, 1, 4, [.int .i32 0]⟩,
  some ⟨.slice 5, false, 1, 24, [.nils]⟩,
  some ⟨.struct [(3, 0), (3, 1), (22, 2)], false, 3, 40, [.int .i64 0, .int .i64 0, .nils]⟩,
  some ⟨.struct [(3, 0), (3, 1), (22, 2)], false, 3, 40, [.int .i64 0, .int .i64 0, .nils]⟩,
  some ⟨.struct [(3, 0), (3, 1)], true, 2, 16, [.int .i64 0, .int .i64 0]⟩,
  some ⟨.struct [(3, 0), (3, 1)], true, 2, 16, [.int .i64 0, .int .i64 0]⟩,
  some ⟨.array 2 26, false, 4, 32, [.int .i64 0, .int .i64 0, .int .i64 0, .int .i64 0]⟩,
  none,
  none,
  some ⟨.int .i64, false, 1, 8, [.int .i64 0]⟩,
  none,
  none,
  none,
  some ⟨.slice 3, false, 1, 24, [.nils]⟩,
  none,
  none,
  some ⟨.slice 26, false, 1, 24, [.nils]⟩,
  none,
  none,
  none,
  none,
  none,
  none,
  none,
  none,
  some ⟨.ptr, false, 1, 8, [.nilp]⟩,
  none,
  none,
  none,
  none,
  none,
  none,
  none,
  none,
  none,
  none,
  none,
  some ⟨.array 8 26, false, 16, 128, [.int .i64 0, .int .i64 0, .int .i64 0, .int .i64 0, .int .i64 0, .int .i64 0, .int .i64 0, .int .i64 0, .int .i64 0, .int .i64 0, .int .i64 0, .int .i64 0, .int .i64 0, .int .i64 0, .int .i64 0, .int .i64 0]⟩,
  none,
  none,
  none,
  none,
  none,
  none,
  none,
  none,
  some ⟨.struct [(24, 0), (26, 3), (34, 5)], false, 6, 80, [.int .i64 0, .int .i64 0, .nils, .int .i64 0, .int .i64 0, .nils]⟩,
  some ⟨.struct [(24, 0), (26, 3), (34, 5)], false, 6, 80, [.int .i64 0, .int .i64 0, .nils, .int .i64 0, .int .i64 0, .nils]⟩,
  none,
  none,
  none,
  none,
  none,
  some ⟨.struct [(26, 0), (3, 2)], false, 3, 24, [.int .i64 0, .int .i64 0, .int .i64 0]⟩,
  some ⟨.struct [(26, 0), (3, 2)], false, 3, 24, [.int .i64 0, .int .i64 0, .int .i64 0]⟩,
  some ⟨.slice 75, false, 1, 24, [.nils]⟩,
  some ⟨.slice 75, false, 1, 24, [.nils]⟩,
  none,
  some ⟨.ptr, false, 1, 8, [.nilp]⟩,
  none,
  none,
  none,
  some ⟨.int .u64, false, 1, 8, [.int .u64 0]⟩,
  some ⟨.slice 4, false, 1, 24, [.nils]⟩,
  none,
  none,
  none,
  none,
  none,
  some ⟨.ptr, false, 1, 8, [.nilp]⟩,
  some ⟨.array 2 3, false, 2, 16, [.int .i64 0, .int .i64 0]⟩,
  none,
  some ⟨.int .i64, false, 1, 8, [.int .i64 0]⟩,
  none,
  none,
  none,
  none,
  none,
  none,
  none,
  some ⟨.int .u32, false, 1, 4, [.int .u32 0]⟩,
  none,
  some ⟨.int .u64, false, 1, 8, [.int .u64 0]⟩,
  none,
  none,
  none,
  none,
  some ⟨.int .u64, false, 1, 8, [.int .u64 0]⟩,
  none,
  none,
  none,
  none,
  some ⟨.ptr, false, 1, 8, [.nilp]⟩,
  none,
  none,
  none,
  none,
  none,
  none,
  none,
  none,
  none,
  none,
  none,
  none,
  some ⟨.ptr, false, 1, 8, [.nilp]⟩]
def tT (t : Nat) : Option (TI tE) := match tL[t]? with
  | some x => x
  | none => none
def tBytes : (e : Nat) → List (tE e) → Option (List Int)
  | 5 => fun xs => some xs
  | _ => fun _ => none
def tGl (g : Nat) : Option (List (IntKind × Int)) := match g with
  | _ => none
noncomputable def tC : Cfg := { P := Try.prog, E := tE, enc := tEnc, dec := tDec, T := tT, bytes := tBytes, gl := tGl }
theorem tE_free (e : Nat) (x : tE e) : (tEnc e x).all AV.free = true := by
  rcases tE_cases e with rfl | rfl | rfl | rfl | rfl | h
  · rfl
  · rfl
  · rfl
  · rfl
  · rfl
  · exact (cast h x).elim
theorem tE_dec (e : Nat) (l : List (AV tE)) (x : tE e) (h : tDec e l = some x) : tEnc e x = l := by
  rcases tE_cases e with rfl | rfl | rfl | rfl | rfl | h1
  · exact dec3_ok h
  · exact dec4_ok h
  · exact dec5_ok h
  · exact dec26_ok h
  · exact dec75_ok h
  · exact (cast h1 x).elim
theorem tE_len (e : Nat) (x : tE e) : (tEnc e x).length = sizeT tC e := by
  rcases tE_cases e with rfl | rfl | rfl | rfl | rfl | h
  · kernel_rfl
  · kernel_rfl
  · kernel_rfl
  · kernel_rfl
  · kernel_rfl
  · exact (cast h x).elim
theorem tE_bytes (e : Nat) (xs : List (tE e)) (l : List Int) (h : tC.bytes e xs = some l) : l.length = xs.length ∧ ∀ i (h1 : i < xs.length) (h2 : i < l.length), tC.enc e xs[i] = [.int .u8 l[i]] := by
  have hb : tBytes e xs = some l := h
  unfold tBytes at hb
  split at hb
  · cases hb; exact ⟨rfl, fun i _ _ => rfl⟩
  · cases hb
theorem tE_tight (e : Nat) (x : tE e) : (tEnc e x).all AV.tight = true := by
  rcases tE_cases e with rfl | rfl | rfl | rfl | rfl | h
  · rfl
  · rfl
  · rfl
  · rfl
  · rfl
  · exact (cast h x).elim
def tEl (e : Nat) : Bool := match e with
  | 3 => true
  | 4 => true
  | 5 => true
  | 26 => true
  | 75 => true
  | _ => false
def tD : Nat := 4
end Go.AE
