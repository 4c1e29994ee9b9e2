/-
  The configuration of this seat for the abstract executor: its types' table and its element types' codecs. Written by a program of the prover's own (cfg.py) off the translation.
-/
import Derived.Test.YtnoammkjjbbajaaGreatTy
import Derived.Test.YtnoammkjjbbajaaGreatAe
import Derived.Test.YtnoammkjjbbajaaGreatProg
import Derived.KernelRfl
namespace Go.AE
open Go.Proofs

@[reducible] def tE : Nat → Type
  | 3 => Int
  | 5 => Int
  | 28 => Po
  | 42 => Pa
  | 47 => Ev
  | 62 => Ax
  | 83 => Pt
  | 85 => Bm
  | 113 => Pt
  | _ => Empty
theorem tE_else {e : Nat} (h3 : e ≠ 3) (h5 : e ≠ 5) (h28 : e ≠ 28) (h42 : e ≠ 42) (h47 : e ≠ 47) (h62 : e ≠ 62) (h83 : e ≠ 83) (h85 : e ≠ 85) (h113 : e ≠ 113) : tE e = Empty := by
  unfold tE
  split <;> first | rfl | contradiction
theorem tE_cases (e : Nat) : e = 3 ∨ e = 5 ∨ e = 28 ∨ e = 42 ∨ e = 47 ∨ e = 62 ∨ e = 83 ∨ e = 85 ∨ e = 113 ∨ tE e = Empty := by
  by_cases h3 : e = 3
  · exact .inl h3
  by_cases h5 : e = 5
  · exact .inr (.inl h5)
  by_cases h28 : e = 28
  · exact .inr (.inr (.inl h28))
  by_cases h42 : e = 42
  · exact .inr (.inr (.inr (.inl h42)))
  by_cases h47 : e = 47
  · exact .inr (.inr (.inr (.inr (.inl h47))))
  by_cases h62 : e = 62
  · exact .inr (.inr (.inr (.inr (.inr (.inl h62)))))
  by_cases h83 : e = 83
  · exact .inr (.inr (.inr (.inr (.inr (.inr (.inl h83))))))
  by_cases h85 : e = 85
  · exact .inr (.inr (.inr (.inr (.inr (.inr (.inr (.inl h85)))))))
  by_cases h113 : e = 113
  · exact .inr (.inr (.inr (.inr (.inr (.inr (.inr (.inr (.inl h113))))))))
  exact .inr (.inr (.inr (.inr (.inr (.inr (.inr (.inr (.inr (tE_else h3 h5 h28 h42 h47 h62 h83 h85 h113)))))))))
def enc3 : Int → List (AV tE) := fun x => [.int .i64 x]
def dec3 : List (AV tE) → Option Int
  | [.int .i64 x] => some x
  | _ => none
theorem dec3_ok {l : List (AV tE)} {x : Int} (h : dec3 l = some x) : enc3 x = l := by
  unfold dec3 at h
  split at h
  · cases h; rfl
  · cases h
def enc5 : Int → List (AV tE) := fun x => [.int .u8 x]
def dec5 : List (AV tE) → Option Int
  | [.int .u8 x] => some x
  | _ => none
theorem dec5_ok {l : List (AV tE)} {x : Int} (h : dec5 l = some x) : enc5 x = l := by
  unfold dec5 at h
  split at h
  · cases h; rfl
  · cases h
def enc28 : Po → List (AV tE) := fun p => [.int .i64 p.X, .int .i64 p.Y, .int .i64 p.H]
def dec28 : List (AV tE) → Option Po
  | [.int .i64 x, .int .i64 y, .int .i64 h] => some ⟨x, y, h⟩
  | _ => none
theorem dec28_ok {l : List (AV tE)} {x : Po} (h : dec28 l = some x) : enc28 x = l := by
  unfold dec28 at h
  split at h
  · cases h; rfl
  · cases h
def enc42 : Pa → List (AV tE) := fun p => [.int .i64 p.X, .int .i64 p.Y, .int .i64 p.H, .int .i64 p.W]
def dec42 : List (AV tE) → Option Pa
  | [.int .i64 x, .int .i64 y, .int .i64 h, .int .i64 w] => some ⟨x, y, h, w⟩
  | _ => none
theorem dec42_ok {l : List (AV tE)} {x : Pa} (h : dec42 l = some x) : enc42 x = l := by
  unfold dec42 at h
  split at h
  · cases h; rfl
  · cases h
def enc47 : Ev → List (AV tE) := fun p => [.int .i64 p.T, .int .i64 p.U, .int .i64 p.F, .bool p.B, .him 85 p.S]
def dec47 : List (AV tE) → Option Ev
  | [.int .i64 t, .int .i64 u, .int .i64 f, .bool b, .him 85 s] => some ⟨t, u, f, b, s⟩
  | _ => none
theorem dec47_ok {l : List (AV tE)} {x : Ev} (h : dec47 l = some x) : enc47 x = l := by
  unfold dec47 at h
  split at h
  · cases h; rfl
  · cases h
def enc62 : Ax → List (AV tE) := fun p => [.int .i64 p.U, .int .i64 p.F, .int .i64 p.T, .int .i64 p.L, .int .i64 p.X, .int .i64 p.Y, .him 3 p.M, .him 3 p.E]
def dec62 : List (AV tE) → Option Ax
  | [.int .i64 u, .int .i64 f, .int .i64 t, .int .i64 l, .int .i64 x, .int .i64 y, .him 3 m, .him 3 e] => some ⟨u, f, t, l, x, y, m, e⟩
  | _ => none
theorem dec62_ok {l : List (AV tE)} {x : Ax} (h : dec62 l = some x) : enc62 x = l := by
  unfold dec62 at h
  split at h
  · cases h; rfl
  · cases h
def enc83 : Pt → List (AV tE) := fun p => [.int .i64 p.X, .int .i64 p.Y]
def dec83 : List (AV tE) → Option Pt
  | [.int .i64 x, .int .i64 y] => some ⟨x, y⟩
  | _ => none
theorem dec83_ok {l : List (AV tE)} {x : Pt} (h : dec83 l = some x) : enc83 x = l := by
  unfold dec83 at h
  split at h
  · cases h; rfl
  · cases h
def enc85 : Bm → List (AV tE) := fun p => [.int .i64 p.M, .int .i64 p.R]
def dec85 : List (AV tE) → Option Bm
  | [.int .i64 m, .int .i64 r] => some ⟨m, r⟩
  | _ => none
theorem dec85_ok {l : List (AV tE)} {x : Bm} (h : dec85 l = some x) : enc85 x = l := by
  unfold dec85 at h
  split at h
  · cases h; rfl
  · cases h
def enc113 : Pt → List (AV tE) := fun p => [.int .i64 p.X, .int .i64 p.Y]
def dec113 : List (AV tE) → Option Pt
  | [.int .i64 x, .int .i64 y] => some ⟨x, y⟩
  | _ => none
theorem dec113_ok {l : List (AV tE)} {x : Pt} (h : dec113 l = some x) : enc113 x = l := by
  unfold dec113 at h
  split at h
  · cases h; rfl
  · cases h
def tEnc : (e : Nat) → tE e → List (AV tE)
  | 3 => enc3
  | 5 => enc5
  | 28 => enc28
  | 42 => enc42
  | 47 => enc47
  | 62 => enc62
  | 83 => enc83
  | 85 => enc85
  | 113 => enc113
  | _ => fun _ => []
def tDec : (e : Nat) → List (AV tE) → Option (tE e)
  | 3 => dec3
  | 5 => dec5
  | 28 => dec28
  | 42 => dec42
  | 47 => dec47
  | 62 => dec62
  | 83 => dec83
  | 85 => dec85
  | 113 => dec113
  | _ => fun _ => none
def tL : List (Option (TI tE)) := [
  none,
  none,
  some ⟨.int .i64, false, 1, 8, [.int .i64 0]⟩,
  some ⟨.int .i64, false, 1, 8, [.int .i64 0]⟩,
  some ⟨.bool, false, 1, 1, [.bool false]⟩,
  some ⟨.int .u8, false, 1, 1, [.int .u8 0]⟩,
  none,
  none,
  none,
  some ⟨.str, false, 1, 16, [.str []]⟩,
  none,
  none,
  some ⟨.int .u64, false, 1, 8, [.int .u64 0]⟩,
  some ⟨.struct [(9, 0), (12, 1)], false, 2, 24, [.str [], .int .u64 0]⟩,
  none,
  none,
  none,
  none,
  none,
  none,
  none,
  some ⟨.int .i32, false, 1, 4, [.int .i32 0]⟩,
  some ⟨.slice 5, false, 1, 24, [.nils]⟩,
  some ⟨.struct [(3, 0), (3, 1), (22, 2)], false, 3, 40, [.int .i64 0, .int .i64 0, .nils]⟩,
  some ⟨.struct [(3, 0), (3, 1), (22, 2)], false, 3, 40, [.int .i64 0, .int .i64 0, .nils]⟩,
  some ⟨.struct [(3, 0), (3, 1), (3, 2), (3, 3)], true, 4, 32, [.int .i64 0, .int .i64 0, .int .i64 0, .int .i64 0]⟩,
  some ⟨.struct [(3, 0), (3, 1), (3, 2), (3, 3)], true, 4, 32, [.int .i64 0, .int .i64 0, .int .i64 0, .int .i64 0]⟩,
  some ⟨.struct [(3, 0), (3, 1), (3, 2)], true, 3, 24, [.int .i64 0, .int .i64 0, .int .i64 0]⟩,
  some ⟨.struct [(3, 0), (3, 1), (3, 2)], true, 3, 24, [.int .i64 0, .int .i64 0, .int .i64 0]⟩,
  some ⟨.struct [(24, 0), (26, 3), (28, 7)], false, 10, 96, [.int .i64 0, .int .i64 0, .nils, .int .i64 0, .int .i64 0, .int .i64 0, .int .i64 0, .int .i64 0, .int .i64 0, .int .i64 0]⟩,
  some ⟨.struct [(24, 0), (26, 3), (28, 7)], false, 10, 96, [.int .i64 0, .int .i64 0, .nils, .int .i64 0, .int .i64 0, .int .i64 0, .int .i64 0, .int .i64 0, .int .i64 0, .int .i64 0]⟩,
  some ⟨.slice 62, false, 1, 24, [.nils]⟩,
  some ⟨.slice 42, false, 1, 24, [.nils]⟩,
  none,
  none,
  none,
  some ⟨.slice 47, false, 1, 24, [.nils]⟩,
  some ⟨.slice 28, false, 1, 24, [.nils]⟩,
  some ⟨.int .i64, false, 1, 8, [.int .i64 0]⟩,
  none,
  none,
  some ⟨.struct [(28, 0), (3, 3)], false, 4, 32, [.int .i64 0, .int .i64 0, .int .i64 0, .int .i64 0]⟩,
  some ⟨.struct [(28, 0), (3, 3)], false, 4, 32, [.int .i64 0, .int .i64 0, .int .i64 0, .int .i64 0]⟩,
  some ⟨.struct [(3, 0), (3, 1)], true, 2, 16, [.int .i64 0, .int .i64 0]⟩,
  some ⟨.struct [(3, 0), (3, 1)], true, 2, 16, [.int .i64 0, .int .i64 0]⟩,
  some ⟨.slice 85, false, 1, 24, [.nils]⟩,
  some ⟨.struct [(3, 0), (44, 1), (4, 3), (45, 4)], false, 5, 56, [.int .i64 0, .int .i64 0, .int .i64 0, .bool false, .nils]⟩,
  some ⟨.struct [(3, 0), (44, 1), (4, 3), (45, 4)], false, 5, 56, [.int .i64 0, .int .i64 0, .int .i64 0, .bool false, .nils]⟩,
  some ⟨.int .u64, false, 1, 8, [.int .u64 0]⟩,
  none,
  none,
  none,
  none,
  none,
  none,
  none,
  none,
  none,
  some ⟨.struct [(3, 0), (3, 1), (3, 2), (3, 3)], true, 4, 32, [.int .i64 0, .int .i64 0, .int .i64 0, .int .i64 0]⟩,
  some ⟨.struct [(3, 0), (3, 1), (3, 2), (3, 3)], true, 4, 32, [.int .i64 0, .int .i64 0, .int .i64 0, .int .i64 0]⟩,
  some ⟨.slice 3, false, 1, 24, [.nils]⟩,
  some ⟨.struct [(44, 0), (59, 2), (60, 6), (60, 7)], false, 8, 96, [.int .i64 0, .int .i64 0, .int .i64 0, .int .i64 0, .int .i64 0, .int .i64 0, .nils, .nils]⟩,
  some ⟨.struct [(44, 0), (59, 2), (60, 6), (60, 7)], false, 8, 96, [.int .i64 0, .int .i64 0, .int .i64 0, .int .i64 0, .int .i64 0, .int .i64 0, .nils, .nils]⟩,
  some ⟨.ptr, false, 1, 8, [.nilp]⟩,
  none,
  none,
  none,
  none,
  none,
  none,
  none,
  none,
  some ⟨.ptr, false, 1, 8, [.nilp]⟩,
  some ⟨.struct [(48, 0)], true, 1, 8, [.int .u64 0]⟩,
  some ⟨.struct [(48, 0)], true, 1, 8, [.int .u64 0]⟩,
  none,
  none,
  none,
  none,
  none,
  none,
  none,
  some ⟨.struct [(3, 0), (3, 1)], true, 2, 16, [.int .i64 0, .int .i64 0]⟩,
  some ⟨.struct [(3, 0), (3, 1)], true, 2, 16, [.int .i64 0, .int .i64 0]⟩,
  some ⟨.struct [(3, 0), (3, 1)], true, 2, 16, [.int .i64 0, .int .i64 0]⟩,
  some ⟨.struct [(3, 0), (3, 1)], true, 2, 16, [.int .i64 0, .int .i64 0]⟩,
  none,
  none,
  none,
  none,
  none,
  some ⟨.struct [(24, 0), (26, 3), (28, 7), (3, 10), (3, 11)], false, 12, 112, [.int .i64 0, .int .i64 0, .nils, .int .i64 0, .int .i64 0, .int .i64 0, .int .i64 0, .int .i64 0, .int .i64 0, .int .i64 0, .int .i64 0, .int .i64 0]⟩,
  some ⟨.struct [(24, 0), (26, 3), (28, 7), (3, 10), (3, 11)], false, 12, 112, [.int .i64 0, .int .i64 0, .nils, .int .i64 0, .int .i64 0, .int .i64 0, .int .i64 0, .int .i64 0, .int .i64 0, .int .i64 0, .int .i64 0, .int .i64 0]⟩,
  none,
  none,
  none,
  none,
  none,
  none,
  none,
  none,
  none,
  none,
  none,
  none,
  none,
  none,
  none,
  none,
  none,
  none,
  none,
  some ⟨.slice 113, false, 1, 24, [.nils]⟩,
  some ⟨.struct [(3, 0), (3, 1)], true, 2, 16, [.int .i64 0, .int .i64 0]⟩,
  none,
  none,
  none,
  none,
  some ⟨.struct [(3, 0), (3, 1)], true, 2, 16, [.int .i64 0, .int .i64 0]⟩,
  some ⟨.struct [(3, 0), (3, 1)], true, 2, 16, [.int .i64 0, .int .i64 0]⟩,
  none,
  none,
  none,
  none,
  none,
  some ⟨.struct [(3, 0), (3, 1), (3, 2), (3, 3)], true, 4, 32, [.int .i64 0, .int .i64 0, .int .i64 0, .int .i64 0]⟩,
  some ⟨.struct [(3, 0), (3, 1), (3, 2), (3, 3)], true, 4, 32, [.int .i64 0, .int .i64 0, .int .i64 0, .int .i64 0]⟩,
  none,
  none,
  none,
  none,
  none,
  none,
  none,
  none,
  none,
  none,
  none,
  none,
  some ⟨.struct [(3, 0), (3, 1), (3, 2)], true, 3, 24, [.int .i64 0, .int .i64 0, .int .i64 0]⟩,
  some ⟨.struct [(3, 0), (3, 1), (3, 2)], true, 3, 24, [.int .i64 0, .int .i64 0, .int .i64 0]⟩,
  none,
  none,
  none,
  none,
  none,
  none,
  none,
  none,
  none,
  some ⟨.int .u64, false, 1, 8, [.int .u64 0]⟩,
  none,
  none,
  none,
  none,
  none,
  none,
  none,
  none,
  none,
  none,
  none,
  none,
  none,
  none,
  some ⟨.array 4 83, false, 8, 64, [.int .i64 0, .int .i64 0, .int .i64 0, .int .i64 0, .int .i64 0, .int .i64 0, .int .i64 0, .int .i64 0]⟩,
  none,
  none,
  some ⟨.array 2 3, false, 2, 16, [.int .i64 0, .int .i64 0]⟩,
  none,
  none,
  some ⟨.struct [(119, 0), (119, 2)], false, 4, 32, [.int .i64 0, .int .i64 0, .int .i64 0, .int .i64 0]⟩,
  some ⟨.struct [(119, 0), (119, 2)], false, 4, 32, [.int .i64 0, .int .i64 0, .int .i64 0, .int .i64 0]⟩,
  none,
  none,
  none,
  none,
  none,
  none,
  none,
  none,
  none,
  none,
  none,
  some ⟨.int .u32, false, 1, 4, [.int .u32 0]⟩,
  none,
  none,
  some ⟨.ptr, false, 1, 8, [.nilp]⟩,
  none,
  none,
  none,
  none,
  none,
  none,
  none,
  none,
  none,
  none,
  none,
  some ⟨.ptr, false, 1, 8, [.nilp]⟩]
def tT (t : Nat) : Option (TI tE) := match tL[t]? with
  | some x => x
  | none => none
def tBytes : (e : Nat) → List (tE e) → Option (List Int)
  | 5 => fun xs => some xs
  | _ => fun _ => none
def tGl (g : Nat) : Option (List (IntKind × Int)) := match g with
  | _ => none
noncomputable def tC : Cfg := { P := Tryz.prog, E := tE, enc := tEnc, dec := tDec, T := tT, bytes := tBytes, gl := tGl }
theorem tE_free (e : Nat) (x : tE e) : (tEnc e x).all AV.free = true := by
  rcases tE_cases e with rfl | rfl | rfl | rfl | rfl | rfl | rfl | rfl | rfl | h
  · rfl
  · rfl
  · rfl
  · rfl
  · rfl
  · rfl
  · rfl
  · rfl
  · rfl
  · exact (cast h x).elim
theorem tE_dec (e : Nat) (l : List (AV tE)) (x : tE e) (h : tDec e l = some x) : tEnc e x = l := by
  rcases tE_cases e with rfl | rfl | rfl | rfl | rfl | rfl | rfl | rfl | rfl | h1
  · exact dec3_ok h
  · exact dec5_ok h
  · exact dec28_ok h
  · exact dec42_ok h
  · exact dec47_ok h
  · exact dec62_ok h
  · exact dec83_ok h
  · exact dec85_ok h
  · exact dec113_ok h
  · exact (cast h1 x).elim
theorem tE_len (e : Nat) (x : tE e) : (tEnc e x).length = sizeT tC e := by
  rcases tE_cases e with rfl | rfl | rfl | rfl | rfl | rfl | rfl | rfl | rfl | h
  · kernel_rfl
  · kernel_rfl
  · kernel_rfl
  · kernel_rfl
  · kernel_rfl
  · kernel_rfl
  · kernel_rfl
  · kernel_rfl
  · kernel_rfl
  · exact (cast h x).elim
theorem tE_bytes (e : Nat) (xs : List (tE e)) (l : List Int) (h : tC.bytes e xs = some l) : l.length = xs.length ∧ ∀ i (h1 : i < xs.length) (h2 : i < l.length), tC.enc e xs[i] = [.int .u8 l[i]] := by
  have hb : tBytes e xs = some l := h
  unfold tBytes at hb
  split at hb
  · cases hb; exact ⟨rfl, fun i _ _ => rfl⟩
  · cases hb
theorem tE_tight (e : Nat) (x : tE e) : (tEnc e x).all AV.tight = true := by
  rcases tE_cases e with rfl | rfl | rfl | rfl | rfl | rfl | rfl | rfl | rfl | h
  · rfl
  · rfl
  · rfl
  · rfl
  · rfl
  · rfl
  · rfl
  · rfl
  · rfl
  · exact (cast h x).elim
def tEl (e : Nat) : Bool := match e with
  | 3 => true
  | 5 => true
  | 28 => true
  | 42 => true
  | 47 => true
  | 62 => true
  | 83 => true
  | 85 => true
  | 113 => true
  | _ => false
def tD : Nat := 4
end Go.AE
