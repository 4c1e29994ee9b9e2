/-
  The configuration of this seat for the abstract executor: its types' table and its element types' codecs. Written by a program of the prover's own (cfg.py) off the translation.
-/
import Derived.Test.YtadnppefidjhfaaGreatTy
import Derived.Test.YtadnppefidjhfaaGreatAe
import Derived.Test.YtadnppefidjhfaaGreatProg
import Derived.KernelRfl
namespace Go.AE
open Go.Proofs

@[reducible] def tE : Nat → Type
  | 3 => Int
  | 5 => Int
  | 26 => Pm
  | 33 => List Bm
  | 35 => Nt
  | 49 => Bm
  | 66 => Pt
  | 68 => En
  | 102 => Tl
  | _ => Empty
theorem tE_else {e : Nat} (h3 : e ≠ 3) (h5 : e ≠ 5) (h26 : e ≠ 26) (h33 : e ≠ 33) (h35 : e ≠ 35) (h49 : e ≠ 49) (h66 : e ≠ 66) (h68 : e ≠ 68) (h102 : e ≠ 102) : tE e = Empty := by
  unfold tE
  split <;> first | rfl | contradiction
theorem tE_cases (e : Nat) : e = 3 ∨ e = 5 ∨ e = 26 ∨ e = 33 ∨ e = 35 ∨ e = 49 ∨ e = 66 ∨ e = 68 ∨ e = 102 ∨ tE e = Empty := by
  by_cases h3 : e = 3
  · exact .inl h3
  by_cases h5 : e = 5
  · exact .inr (.inl h5)
  by_cases h26 : e = 26
  · exact .inr (.inr (.inl h26))
  by_cases h33 : e = 33
  · exact .inr (.inr (.inr (.inl h33)))
  by_cases h35 : e = 35
  · exact .inr (.inr (.inr (.inr (.inl h35))))
  by_cases h49 : e = 49
  · exact .inr (.inr (.inr (.inr (.inr (.inl h49)))))
  by_cases h66 : e = 66
  · exact .inr (.inr (.inr (.inr (.inr (.inr (.inl h66))))))
  by_cases h68 : e = 68
  · exact .inr (.inr (.inr (.inr (.inr (.inr (.inr (.inl h68)))))))
  by_cases h102 : e = 102
  · exact .inr (.inr (.inr (.inr (.inr (.inr (.inr (.inr (.inl h102))))))))
  exact .inr (.inr (.inr (.inr (.inr (.inr (.inr (.inr (.inr (tE_else h3 h5 h26 h33 h35 h49 h66 h68 h102)))))))))
def enc3 : Int → List (AV tE) := fun x => [.int .i64 x]
def dec3 : List (AV tE) → Option Int
  | [.int .i64 x] => some x
  | _ => none
theorem dec3_ok {l : List (AV tE)} {x : Int} (h : dec3 l = some x) : enc3 x = l := by
  unfold dec3 at h
  split at h
  · cases h; rfl
  · cases h
def enc5 : Int → List (AV tE) := fun x => [.int .u8 x]
def dec5 : List (AV tE) → Option Int
  | [.int .u8 x] => some x
  | _ => none
theorem dec5_ok {l : List (AV tE)} {x : Int} (h : dec5 l = some x) : enc5 x = l := by
  unfold dec5 at h
  split at h
  · cases h; rfl
  · cases h
def enc26 : Pm → List (AV tE) := fun p => [.int .i64 p.V, .bool p.G, .int .i64 p.X, .int .i64 p.Y, .int .i64 p.H]
def dec26 : List (AV tE) → Option Pm
  | [.int .i64 v, .bool g, .int .i64 x, .int .i64 y, .int .i64 h] => some ⟨v, g, x, y, h⟩
  | _ => none
theorem dec26_ok {l : List (AV tE)} {x : Pm} (h : dec26 l = some x) : enc26 x = l := by
  unfold dec26 at h
  split at h
  · cases h; rfl
  · cases h
def enc33 : List Bm → List (AV tE) := fun l => [.him 49 l]
def dec33 : List (AV tE) → Option (List Bm)
  | [.him 49 l] => some l
  | _ => none
theorem dec33_ok {l : List (AV tE)} {x : List Bm} (h : dec33 l = some x) : enc33 x = l := by
  unfold dec33 at h
  split at h
  · cases h; rfl
  · cases h
def enc35 : Nt → List (AV tE) := fun p => [.bool p.P, .int .i64 p.I, .him 49 p.S, .int .i64 p.V, .bool p.G, .int .i64 p.X, .int .i64 p.Y, .int .i64 p.H]
def dec35 : List (AV tE) → Option Nt
  | [.bool q, .int .i64 i, .him 49 s, .int .i64 v, .bool g, .int .i64 x, .int .i64 y, .int .i64 h] => some ⟨q, i, s, v, g, x, y, h⟩
  | _ => none
theorem dec35_ok {l : List (AV tE)} {x : Nt} (h : dec35 l = some x) : enc35 x = l := by
  unfold dec35 at h
  split at h
  · cases h; rfl
  · cases h
def enc49 : Bm → List (AV tE) := fun p => [.int .i64 p.M, .int .i64 p.R]
def dec49 : List (AV tE) → Option Bm
  | [.int .i64 m, .int .i64 r] => some ⟨m, r⟩
  | _ => none
theorem dec49_ok {l : List (AV tE)} {x : Bm} (h : dec49 l = some x) : enc49 x = l := by
  unfold dec49 at h
  split at h
  · cases h; rfl
  · cases h
def enc66 : Pt → List (AV tE) := fun p => [.int .i64 p.X, .int .i64 p.Y]
def dec66 : List (AV tE) → Option Pt
  | [.int .i64 x, .int .i64 y] => some ⟨x, y⟩
  | _ => none
theorem dec66_ok {l : List (AV tE)} {x : Pt} (h : dec66 l = some x) : enc66 x = l := by
  unfold dec66 at h
  split at h
  · cases h; rfl
  · cases h
def enc68 : En → List (AV tE) := fun p => [.int .i64 p.X, .int .i64 p.Y, .int .i64 p.A, .int .i64 p.B]
def dec68 : List (AV tE) → Option En
  | [.int .i64 x, .int .i64 y, .int .i64 a, .int .i64 b] => some ⟨x, y, a, b⟩
  | _ => none
theorem dec68_ok {l : List (AV tE)} {x : En} (h : dec68 l = some x) : enc68 x = l := by
  unfold dec68 at h
  split at h
  · cases h; rfl
  · cases h
def enc102 : Tl → List (AV tE) := fun p => [.int .i64 p.X, .int .i64 p.Y, .him 5 p.D]
def dec102 : List (AV tE) → Option Tl
  | [.int .i64 x, .int .i64 y, .him 5 d] => some ⟨x, y, d⟩
  | _ => none
theorem dec102_ok {l : List (AV tE)} {x : Tl} (h : dec102 l = some x) : enc102 x = l := by
  unfold dec102 at h
  split at h
  · cases h; rfl
  · cases h
def tEnc : (e : Nat) → tE e → List (AV tE)
  | 3 => enc3
  | 5 => enc5
  | 26 => enc26
  | 33 => enc33
  | 35 => enc35
  | 49 => enc49
  | 66 => enc66
  | 68 => enc68
  | 102 => enc102
  | _ => fun _ => []
def tDec : (e : Nat) → List (AV tE) → Option (tE e)
  | 3 => dec3
  | 5 => dec5
  | 26 => dec26
  | 33 => dec33
  | 35 => dec35
  | 49 => dec49
  | 66 => dec66
  | 68 => dec68
  | 102 => dec102
  | _ => fun _ => none
def tL : List (Option (TI tE)) := [
  none,
  none,
  some ⟨.int .i64, false, 1, 8, [.int .i64 0]⟩,
  some ⟨.int .i64, false, 1, 8, [.int .i64 0]⟩,
  some ⟨.bool, false, 1, 1, [.bool false]⟩,
  some ⟨.int .u8, false, 1, 1, [.int .u8 0]⟩,
  none,
  none,
  none,
  some ⟨.str, false, 1, 16, [.str []]⟩,
  none,
  none,
  some ⟨.int .u64, false, 1, 8, [.int .u64 0]⟩,
  some ⟨.struct [(9, 0), (12, 1)], false, 2, 24, [.str [], .int .u64 0]⟩,
  none,
  none,
  none,
  none,
  none,
  none,
  none,
  some ⟨.int .i32, false, 1, 4, [.int .i32 0]⟩,
  some ⟨.slice 35, false, 1, 24, [.nils]⟩,
  some ⟨.struct [(3, 0), (3, 1), (3, 2)], true, 3, 24, [.int .i64 0, .int .i64 0, .int .i64 0]⟩,
  some ⟨.struct [(3, 0), (3, 1), (3, 2)], true, 3, 24, [.int .i64 0, .int .i64 0, .int .i64 0]⟩,
  some ⟨.struct [(3, 0), (4, 1), (24, 2)], true, 5, 40, [.int .i64 0, .bool false, .int .i64 0, .int .i64 0, .int .i64 0]⟩,
  some ⟨.struct [(3, 0), (4, 1), (24, 2)], true, 5, 40, [.int .i64 0, .bool false, .int .i64 0, .int .i64 0, .int .i64 0]⟩,
  none,
  none,
  some ⟨.ptr, false, 1, 8, [.nilp]⟩,
  none,
  some ⟨.int .i64, false, 1, 8, [.int .i64 0]⟩,
  none,
  some ⟨.slice 49, false, 1, 24, [.nils]⟩,
  some ⟨.struct [(4, 0), (3, 1), (33, 2), (26, 3)], false, 8, 80, [.bool false, .int .i64 0, .nils, .int .i64 0, .bool false, .int .i64 0, .int .i64 0, .int .i64 0]⟩,
  some ⟨.struct [(4, 0), (3, 1), (33, 2), (26, 3)], false, 8, 80, [.bool false, .int .i64 0, .nils, .int .i64 0, .bool false, .int .i64 0, .int .i64 0, .int .i64 0]⟩,
  none,
  some ⟨.slice 68, false, 1, 24, [.nils]⟩,
  none,
  none,
  none,
  none,
  none,
  none,
  none,
  none,
  none,
  none,
  some ⟨.struct [(3, 0), (3, 1)], true, 2, 16, [.int .i64 0, .int .i64 0]⟩,
  some ⟨.struct [(3, 0), (3, 1)], true, 2, 16, [.int .i64 0, .int .i64 0]⟩,
  some ⟨.slice 102, false, 1, 24, [.nils]⟩,
  none,
  none,
  some ⟨.map 3 33, false, 1, 8, [.bot]⟩,
  some ⟨.map 3 26, false, 1, 8, [.bot]⟩,
  some ⟨.struct [(53, 0), (54, 1)], false, 2, 16, [.bot, .bot]⟩,
  some ⟨.struct [(53, 0), (54, 1)], false, 2, 16, [.bot, .bot]⟩,
  none,
  none,
  none,
  some ⟨.slice 3, false, 1, 24, [.nils]⟩,
  none,
  none,
  none,
  none,
  some ⟨.struct [(3, 0), (3, 1)], true, 2, 16, [.int .i64 0, .int .i64 0]⟩,
  some ⟨.struct [(3, 0), (3, 1)], true, 2, 16, [.int .i64 0, .int .i64 0]⟩,
  some ⟨.struct [(66, 0), (3, 2), (3, 3)], true, 4, 32, [.int .i64 0, .int .i64 0, .int .i64 0, .int .i64 0]⟩,
  some ⟨.struct [(66, 0), (3, 2), (3, 3)], true, 4, 32, [.int .i64 0, .int .i64 0, .int .i64 0, .int .i64 0]⟩,
  none,
  none,
  none,
  none,
  none,
  none,
  none,
  some ⟨.map 66 68, false, 1, 8, [.bot]⟩,
  some ⟨.map 66 68, false, 1, 8, [.bot]⟩,
  some ⟨.struct [(3, 0), (3, 1)], true, 2, 16, [.int .i64 0, .int .i64 0]⟩,
  some ⟨.struct [(3, 0), (3, 1), (3, 2)], true, 3, 24, [.int .i64 0, .int .i64 0, .int .i64 0]⟩,
  some ⟨.struct [(3, 0), (3, 1), (3, 2)], true, 3, 24, [.int .i64 0, .int .i64 0, .int .i64 0]⟩,
  none,
  some ⟨.slice 66, false, 1, 24, [.nils]⟩,
  none,
  none,
  none,
  none,
  none,
  none,
  none,
  none,
  none,
  none,
  none,
  none,
  none,
  some ⟨.map 66 37, false, 1, 8, [.bot]⟩,
  none,
  none,
  none,
  some ⟨.slice 5, false, 1, 24, [.nils]⟩,
  some ⟨.struct [(3, 0), (3, 1), (100, 2)], false, 3, 40, [.int .i64 0, .int .i64 0, .nils]⟩,
  some ⟨.struct [(3, 0), (3, 1), (100, 2)], false, 3, 40, [.int .i64 0, .int .i64 0, .nils]⟩,
  none,
  some ⟨.int .u64, false, 1, 8, [.int .u64 0]⟩,
  none,
  none,
  none,
  none,
  none,
  none,
  none,
  some ⟨.struct [(3, 0), (3, 1), (3, 2), (3, 3)], true, 4, 32, [.int .i64 0, .int .i64 0, .int .i64 0, .int .i64 0]⟩,
  some ⟨.struct [(3, 0), (3, 1), (3, 2), (3, 3)], true, 4, 32, [.int .i64 0, .int .i64 0, .int .i64 0, .int .i64 0]⟩,
  none,
  none,
  none,
  none,
  none,
  none,
  none,
  none,
  none,
  none,
  some ⟨.int .u64, false, 1, 8, [.int .u64 0]⟩,
  none,
  none,
  none,
  none,
  none,
  none,
  none,
  none,
  none,
  none,
  none,
  none,
  none,
  none,
  some ⟨.int .i64, false, 1, 8, [.int .i64 0]⟩,
  none,
  none,
  none,
  none,
  none,
  none,
  none,
  some ⟨.int .u32, false, 1, 4, [.int .u32 0]⟩,
  none,
  some ⟨.array 2 3, false, 2, 16, [.int .i64 0, .int .i64 0]⟩,
  none,
  some ⟨.struct [(3, 0), (3, 1)], true, 2, 16, [.int .i64 0, .int .i64 0]⟩,
  some ⟨.struct [(3, 0), (3, 1)], true, 2, 16, [.int .i64 0, .int .i64 0]⟩,
  some ⟨.struct [(152, 0), (152, 2)], true, 4, 32, [.int .i64 0, .int .i64 0, .int .i64 0, .int .i64 0]⟩,
  some ⟨.struct [(152, 0), (152, 2)], true, 4, 32, [.int .i64 0, .int .i64 0, .int .i64 0, .int .i64 0]⟩,
  none,
  none,
  none,
  none,
  none,
  none,
  none,
  some ⟨.int .u64, false, 1, 8, [.int .u64 0]⟩,
  none,
  none,
  none,
  some ⟨.ptr, false, 1, 8, [.nilp]⟩,
  none,
  none,
  none,
  none,
  some ⟨.ptr, false, 1, 8, [.nilp]⟩,
  none,
  some ⟨.ptr, false, 1, 8, [.nilp]⟩,
  none,
  none,
  none,
  none,
  none,
  none,
  none,
  none,
  none,
  none,
  none,
  none,
  some ⟨.ptr, false, 1, 8, [.nilp]⟩]
def tT (t : Nat) : Option (TI tE) := match tL[t]? with
  | some x => x
  | none => none
def tBytes : (e : Nat) → List (tE e) → Option (List Int)
  | 5 => fun xs => some xs
  | _ => fun _ => none
def tGl (g : Nat) : Option (List (IntKind × Int)) := match g with
  | _ => none
noncomputable def tC : Cfg := { P := Tryz.prog, E := tE, enc := tEnc, dec := tDec, T := tT, bytes := tBytes, gl := tGl }
theorem tE_free (e : Nat) (x : tE e) : (tEnc e x).all AV.free = true := by
  rcases tE_cases e with rfl | rfl | rfl | rfl | rfl | rfl | rfl | rfl | rfl | h
  · rfl
  · rfl
  · rfl
  · rfl
  · rfl
  · rfl
  · rfl
  · rfl
  · rfl
  · exact (cast h x).elim
theorem tE_dec (e : Nat) (l : List (AV tE)) (x : tE e) (h : tDec e l = some x) : tEnc e x = l := by
  rcases tE_cases e with rfl | rfl | rfl | rfl | rfl | rfl | rfl | rfl | rfl | h1
  · exact dec3_ok h
  · exact dec5_ok h
  · exact dec26_ok h
  · exact dec33_ok h
  · exact dec35_ok h
  · exact dec49_ok h
  · exact dec66_ok h
  · exact dec68_ok h
  · exact dec102_ok h
  · exact (cast h1 x).elim
theorem tE_len (e : Nat) (x : tE e) : (tEnc e x).length = sizeT tC e := by
  rcases tE_cases e with rfl | rfl | rfl | rfl | rfl | rfl | rfl | rfl | rfl | h
  · kernel_rfl
  · kernel_rfl
  · kernel_rfl
  · kernel_rfl
  · kernel_rfl
  · kernel_rfl
  · kernel_rfl
  · kernel_rfl
  · kernel_rfl
  · exact (cast h x).elim
theorem tE_bytes (e : Nat) (xs : List (tE e)) (l : List Int) (h : tC.bytes e xs = some l) : l.length = xs.length ∧ ∀ i (h1 : i < xs.length) (h2 : i < l.length), tC.enc e xs[i] = [.int .u8 l[i]] := by
  have hb : tBytes e xs = some l := h
  unfold tBytes at hb
  split at hb
  · cases hb; exact ⟨rfl, fun i _ _ => rfl⟩
  · cases hb
theorem tE_tight (e : Nat) (x : tE e) : (tEnc e x).all AV.tight = true := by
  rcases tE_cases e with rfl | rfl | rfl | rfl | rfl | rfl | rfl | rfl | rfl | h
  · rfl
  · rfl
  · rfl
  · rfl
  · rfl
  · rfl
  · rfl
  · rfl
  · rfl
  · exact (cast h x).elim
def tEl (e : Nat) : Bool := match e with
  | 3 => true
  | 5 => true
  | 26 => true
  | 33 => true
  | 35 => true
  | 49 => true
  | 66 => true
  | 68 => true
  | 102 => true
  | _ => false
def tD : Nat := 4
end Go.AE
