/-
  Each element type of this seat that has a codec takes every row of cells of its kinds. Written by cfg.py.
-/
import Derived.Test.YtmhbjgelllhnbaaSys
import Derived.Test.YtmhbjgelllhnbaaAeW
namespace Go.AE
open Go.Proofs Go.RowKit
set_option maxRecDepth 100000
theorem tE_sh3 (n : Nat) (hn : n ≤ 4) (h : okT tC tEl n 3 = true) : shC tC n 3 = [.int .i64] := by
  match n, hn, h with
  | 0, _, h => exact absurd h (by rw [show okT tC tEl 0 3 = false by kernel_rfl]; exact Bool.false_ne_true)
  | 1, _, _ => show shC tC 1 3 = [.int .i64]; kernel_rfl
  | 2, _, _ => show shC tC 2 3 = [.int .i64]; kernel_rfl
  | 3, _, _ => show shC tC 3 3 = [.int .i64]; kernel_rfl
  | 4, _, _ => show shC tC 4 3 = [.int .i64]; kernel_rfl
theorem tE_sh4 (n : Nat) (hn : n ≤ 4) (h : okT tC tEl n 4 = true) : shC tC n 4 = [.bool] := by
  match n, hn, h with
  | 0, _, h => exact absurd h (by rw [show okT tC tEl 0 4 = false by kernel_rfl]; exact Bool.false_ne_true)
  | 1, _, _ => show shC tC 1 4 = [.bool]; kernel_rfl
  | 2, _, _ => show shC tC 2 4 = [.bool]; kernel_rfl
  | 3, _, _ => show shC tC 3 4 = [.bool]; kernel_rfl
  | 4, _, _ => show shC tC 4 4 = [.bool]; kernel_rfl
theorem tE_sh5 (n : Nat) (hn : n ≤ 4) (h : okT tC tEl n 5 = true) : shC tC n 5 = [.int .u8] := by
  match n, hn, h with
  | 0, _, h => exact absurd h (by rw [show okT tC tEl 0 5 = false by kernel_rfl]; exact Bool.false_ne_true)
  | 1, _, _ => show shC tC 1 5 = [.int .u8]; kernel_rfl
  | 2, _, _ => show shC tC 2 5 = [.int .u8]; kernel_rfl
  | 3, _, _ => show shC tC 3 5 = [.int .u8]; kernel_rfl
  | 4, _, _ => show shC tC 4 5 = [.int .u8]; kernel_rfl
theorem tE_sh26 (n : Nat) (hn : n ≤ 4) (h : okT tC tEl n 26 = true) : shC tC n 26 = [.int .i64, .int .i64] := by
  match n, hn, h with
  | 0, _, h => exact absurd h (by rw [show okT tC tEl 0 26 = false by kernel_rfl]; exact Bool.false_ne_true)
  | 1, _, h => exact absurd h (by rw [show okT tC tEl 1 26 = false by kernel_rfl]; exact Bool.false_ne_true)
  | 2, _, _ => show shC tC 2 26 = [.int .i64, .int .i64]; kernel_rfl
  | 3, _, _ => show shC tC 3 26 = [.int .i64, .int .i64]; kernel_rfl
  | 4, _, _ => show shC tC 4 26 = [.int .i64, .int .i64]; kernel_rfl
theorem tE_sh75 (n : Nat) (hn : n ≤ 4) (h : okT tC tEl n 75 = true) : shC tC n 75 = [.int .i64, .int .i64, .int .i64] := by
  match n, hn, h with
  | 0, _, h => exact absurd h (by rw [show okT tC tEl 0 75 = false by kernel_rfl]; exact Bool.false_ne_true)
  | 1, _, h => exact absurd h (by rw [show okT tC tEl 1 75 = false by kernel_rfl]; exact Bool.false_ne_true)
  | 2, _, h => exact absurd h (by rw [show okT tC tEl 2 75 = false by kernel_rfl]; exact Bool.false_ne_true)
  | 3, _, _ => show shC tC 3 75 = [.int .i64, .int .i64, .int .i64]; kernel_rfl
  | 4, _, _ => show shC tC 4 75 = [.int .i64, .int .i64, .int .i64]; kernel_rfl
theorem tE_total (e : Nat) (ys : List (AV tE)) (he : tEl e = true) (n : Nat) (hn : n ≤ tD) (h : okT tC tEl n e = true) (hf : fitsB (shC tC n e) ys = true) : ∃ x, tC.dec e ys = some x := by
  unfold tEl at he
  split at he
  · rw [tE_sh3 n hn h] at hf
    obtain ⟨y, hy⟩ := fitsB_un hf ()
    have hu := unC_ok hy
    obtain ⟨a0, ⟨⟩⟩ := y
    have : ys = (embC [.int .i64] (a0, ())).1 := by rw [hu]
    rw [this]
    exact ⟨_, rfl⟩
  · rw [tE_sh4 n hn h] at hf
    obtain ⟨y, hy⟩ := fitsB_un hf ()
    have hu := unC_ok hy
    obtain ⟨a0, ⟨⟩⟩ := y
    have : ys = (embC [.bool] (a0, ())).1 := by rw [hu]
    rw [this]
    exact ⟨_, rfl⟩
  · rw [tE_sh5 n hn h] at hf
    obtain ⟨y, hy⟩ := fitsB_un hf ()
    have hu := unC_ok hy
    obtain ⟨a0, ⟨⟩⟩ := y
    have : ys = (embC [.int .u8] (a0, ())).1 := by rw [hu]
    rw [this]
    exact ⟨_, rfl⟩
  · rw [tE_sh26 n hn h] at hf
    obtain ⟨y, hy⟩ := fitsB_un hf ()
    have hu := unC_ok hy
    obtain ⟨a0, a1, ⟨⟩⟩ := y
    have : ys = (embC [.int .i64, .int .i64] (a0, a1, ())).1 := by rw [hu]
    rw [this]
    exact ⟨_, rfl⟩
  · rw [tE_sh75 n hn h] at hf
    obtain ⟨y, hy⟩ := fitsB_un hf ()
    have hu := unC_ok hy
    obtain ⟨a0, a1, a2, ⟨⟩⟩ := y
    have : ys = (embC [.int .i64, .int .i64, .int .i64] (a0, a1, a2, ())).1 := by rw [hu]
    rw [this]
    exact ⟨_, rfl⟩
  · cases he
end Go.AE
