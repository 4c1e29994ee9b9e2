/-
  Each element type of this seat that has a codec takes every row of cells of its kinds. Written by cfg.py.
-/
import Derived.Test.YthelgkjfdjnmeaaDoorSys
import Derived.Test.YthelgkjfdjnmeaaDoorAeW
import Derived.Test.YthelgkjfdjnmeaaDoorAeI
namespace Go.AE
open Go.Proofs Go.RowKit
set_option maxRecDepth 100000
theorem tE_sh3 (n : Nat) (hn : n ≤ 4) (h : okT tC tEl n 3 = true) : shC tC n 3 = [.int .i64] := by
  match n, hn, h with
  | 0, _, h => exact absurd h (by rw [show okT tC tEl 0 3 = false by kernel_rfl]; exact Bool.false_ne_true)
  | 1, _, _ => show shC tC 1 3 = [.int .i64]; kernel_rfl
  | 2, _, _ => show shC tC 2 3 = [.int .i64]; kernel_rfl
  | 3, _, _ => show shC tC 3 3 = [.int .i64]; kernel_rfl
  | 4, _, _ => show shC tC 4 3 = [.int .i64]; kernel_rfl
theorem tE_sh5 (n : Nat) (hn : n ≤ 4) (h : okT tC tEl n 5 = true) : shC tC n 5 = [.int .u8] := by
  match n, hn, h with
  | 0, _, h => exact absurd h (by rw [show okT tC tEl 0 5 = false by kernel_rfl]; exact Bool.false_ne_true)
  | 1, _, _ => show shC tC 1 5 = [.int .u8]; kernel_rfl
  | 2, _, _ => show shC tC 2 5 = [.int .u8]; kernel_rfl
  | 3, _, _ => show shC tC 3 5 = [.int .u8]; kernel_rfl
  | 4, _, _ => show shC tC 4 5 = [.int .u8]; kernel_rfl
theorem tE_sh36 (n : Nat) (hn : n ≤ 4) (h : okT tC tEl n 36 = true) : shC tC n 36 = [.int .u16] := by
  match n, hn, h with
  | 0, _, h => exact absurd h (by rw [show okT tC tEl 0 36 = false by kernel_rfl]; exact Bool.false_ne_true)
  | 1, _, _ => show shC tC 1 36 = [.int .u16]; kernel_rfl
  | 2, _, _ => show shC tC 2 36 = [.int .u16]; kernel_rfl
  | 3, _, _ => show shC tC 3 36 = [.int .u16]; kernel_rfl
  | 4, _, _ => show shC tC 4 36 = [.int .u16]; kernel_rfl
theorem tE_sh39 (n : Nat) (hn : n ≤ 4) (h : okT tC tEl n 39 = true) : shC tC n 39 = [.int .i64, .int .i64] := by
  match n, hn, h with
  | 0, _, h => exact absurd h (by rw [show okT tC tEl 0 39 = false by kernel_rfl]; exact Bool.false_ne_true)
  | 1, _, h => exact absurd h (by rw [show okT tC tEl 1 39 = false by kernel_rfl]; exact Bool.false_ne_true)
  | 2, _, _ => show shC tC 2 39 = [.int .i64, .int .i64]; kernel_rfl
  | 3, _, _ => show shC tC 3 39 = [.int .i64, .int .i64]; kernel_rfl
  | 4, _, _ => show shC tC 4 39 = [.int .i64, .int .i64]; kernel_rfl
theorem tE_total (e : Nat) (ys : List (AV tE)) (he : tEl e = true) (n : Nat) (hn : n ≤ tD) (h : okT tC tEl n e = true) (hf : fitsB (shC tC n e) ys = true) : ∃ x, tC.dec e ys = some x := by
  unfold tEl at he
  split at he
  · rw [tE_sh3 n hn h] at hf
    obtain ⟨y, hy⟩ := fitsB_un hf ()
    have hu := unC_ok hy
    obtain ⟨a0, ⟨⟩⟩ := y
    have : ys = (embC [.int .i64] (a0, ())).1 := by rw [hu]
    rw [this]
    exact ⟨_, rfl⟩
  · rw [tE_sh5 n hn h] at hf
    obtain ⟨y, hy⟩ := fitsB_un hf ()
    have hu := unC_ok hy
    obtain ⟨a0, ⟨⟩⟩ := y
    have : ys = (embC [.int .u8] (a0, ())).1 := by rw [hu]
    rw [this]
    exact ⟨_, rfl⟩
  · rw [tE_sh36 n hn h] at hf
    obtain ⟨y, hy⟩ := fitsB_un hf ()
    have hu := unC_ok hy
    obtain ⟨a0, ⟨⟩⟩ := y
    have : ys = (embC [.int .u16] (a0, ())).1 := by rw [hu]
    rw [this]
    exact ⟨_, rfl⟩
  · rw [tE_sh39 n hn h] at hf
    obtain ⟨y, hy⟩ := fitsB_un hf ()
    have hu := unC_ok hy
    obtain ⟨a0, a1, ⟨⟩⟩ := y
    have : ys = (embC [.int .i64, .int .i64] (a0, a1, ())).1 := by rw [hu]
    rw [this]
    exact ⟨_, rfl⟩
  · cases he
end Go.AE
