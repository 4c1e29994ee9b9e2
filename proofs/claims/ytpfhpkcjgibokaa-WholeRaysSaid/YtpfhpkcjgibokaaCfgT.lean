/-
  Each element type of this seat that has a codec takes every row of cells of its kinds. Written by cfg.py.
-/
import Derived.Test.YtpfhpkcjgibokaaSys
import Derived.Test.YtpfhpkcjgibokaaAeW
namespace Go.AE
open Go.Proofs Go.RowKit
set_option maxRecDepth 100000
theorem tE_sh3 (n : Nat) (hn : n ≤ 4) (h : okT tC tEl n 3 = true) : shC tC n 3 = [.int .i64] := by
  match n, hn, h with
  | 0, _, h => exact absurd h (by rw [show okT tC tEl 0 3 = false by kernel_rfl]; exact Bool.false_ne_true)
  | 1, _, _ => show shC tC 1 3 = [.int .i64]; kernel_rfl
  | 2, _, _ => show shC tC 2 3 = [.int .i64]; kernel_rfl
  | 3, _, _ => show shC tC 3 3 = [.int .i64]; kernel_rfl
  | 4, _, _ => show shC tC 4 3 = [.int .i64]; kernel_rfl
theorem tE_sh5 (n : Nat) (hn : n ≤ 4) (h : okT tC tEl n 5 = true) : shC tC n 5 = [.int .u8] := by
  match n, hn, h with
  | 0, _, h => exact absurd h (by rw [show okT tC tEl 0 5 = false by kernel_rfl]; exact Bool.false_ne_true)
  | 1, _, _ => show shC tC 1 5 = [.int .u8]; kernel_rfl
  | 2, _, _ => show shC tC 2 5 = [.int .u8]; kernel_rfl
  | 3, _, _ => show shC tC 3 5 = [.int .u8]; kernel_rfl
  | 4, _, _ => show shC tC 4 5 = [.int .u8]; kernel_rfl
theorem tE_sh41 (n : Nat) (hn : n ≤ 4) (h : okT tC tEl n 41 = true) : shC tC n 41 = [.int .i64, .int .i64] := by
  match n, hn, h with
  | 0, _, h => exact absurd h (by rw [show okT tC tEl 0 41 = false by kernel_rfl]; exact Bool.false_ne_true)
  | 1, _, h => exact absurd h (by rw [show okT tC tEl 1 41 = false by kernel_rfl]; exact Bool.false_ne_true)
  | 2, _, _ => show shC tC 2 41 = [.int .i64, .int .i64]; kernel_rfl
  | 3, _, _ => show shC tC 3 41 = [.int .i64, .int .i64]; kernel_rfl
  | 4, _, _ => show shC tC 4 41 = [.int .i64, .int .i64]; kernel_rfl
theorem tE_sh51 (n : Nat) (hn : n ≤ 4) (h : okT tC tEl n 51 = true) : shC tC n 51 = [.int .i64, .int .i64] := by
  match n, hn, h with
  | 0, _, h => exact absurd h (by rw [show okT tC tEl 0 51 = false by kernel_rfl]; exact Bool.false_ne_true)
  | 1, _, h => exact absurd h (by rw [show okT tC tEl 1 51 = false by kernel_rfl]; exact Bool.false_ne_true)
  | 2, _, _ => show shC tC 2 51 = [.int .i64, .int .i64]; kernel_rfl
  | 3, _, _ => show shC tC 3 51 = [.int .i64, .int .i64]; kernel_rfl
  | 4, _, _ => show shC tC 4 51 = [.int .i64, .int .i64]; kernel_rfl
theorem tE_sh61 (n : Nat) (hn : n ≤ 4) (h : okT tC tEl n 61 = true) : shC tC n 61 = [.int .i64, .int .i64, .int .i64, .int .i64] := by
  match n, hn, h with
  | 0, _, h => exact absurd h (by rw [show okT tC tEl 0 61 = false by kernel_rfl]; exact Bool.false_ne_true)
  | 1, _, h => exact absurd h (by rw [show okT tC tEl 1 61 = false by kernel_rfl]; exact Bool.false_ne_true)
  | 2, _, h => exact absurd h (by rw [show okT tC tEl 2 61 = false by kernel_rfl]; exact Bool.false_ne_true)
  | 3, _, _ => show shC tC 3 61 = [.int .i64, .int .i64, .int .i64, .int .i64]; kernel_rfl
  | 4, _, _ => show shC tC 4 61 = [.int .i64, .int .i64, .int .i64, .int .i64]; kernel_rfl
theorem tE_total (e : Nat) (ys : List (AV tE)) (he : tEl e = true) (n : Nat) (hn : n ≤ tD) (h : okT tC tEl n e = true) (hf : fitsB (shC tC n e) ys = true) : ∃ x, tC.dec e ys = some x := by
  unfold tEl at he
  split at he
  · rw [tE_sh3 n hn h] at hf
    obtain ⟨y, hy⟩ := fitsB_un hf ()
    have hu := unC_ok hy
    obtain ⟨a0, ⟨⟩⟩ := y
    have : ys = (embC [.int .i64] (a0, ())).1 := by rw [hu]
    rw [this]
    exact ⟨_, rfl⟩
  · rw [tE_sh5 n hn h] at hf
    obtain ⟨y, hy⟩ := fitsB_un hf ()
    have hu := unC_ok hy
    obtain ⟨a0, ⟨⟩⟩ := y
    have : ys = (embC [.int .u8] (a0, ())).1 := by rw [hu]
    rw [this]
    exact ⟨_, rfl⟩
  · rw [tE_sh41 n hn h] at hf
    obtain ⟨y, hy⟩ := fitsB_un hf ()
    have hu := unC_ok hy
    obtain ⟨a0, a1, ⟨⟩⟩ := y
    have : ys = (embC [.int .i64, .int .i64] (a0, a1, ())).1 := by rw [hu]
    rw [this]
    exact ⟨_, rfl⟩
  · rw [tE_sh51 n hn h] at hf
    obtain ⟨y, hy⟩ := fitsB_un hf ()
    have hu := unC_ok hy
    obtain ⟨a0, a1, ⟨⟩⟩ := y
    have : ys = (embC [.int .i64, .int .i64] (a0, a1, ())).1 := by rw [hu]
    rw [this]
    exact ⟨_, rfl⟩
  · rw [tE_sh61 n hn h] at hf
    obtain ⟨y, hy⟩ := fitsB_un hf ()
    have hu := unC_ok hy
    obtain ⟨a0, a1, a2, a3, ⟨⟩⟩ := y
    have : ys = (embC [.int .i64, .int .i64, .int .i64, .int .i64] (a0, a1, a2, a3, ())).1 := by rw [hu]
    rw [this]
    exact ⟨_, rfl⟩
  · cases he
end Go.AE
