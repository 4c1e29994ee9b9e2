/-
  Each element type of this seat that has a codec takes every row of cells of its kinds. Written by cfg.py.
-/
import Derived.Test.YtnoammkjjbbajaaGreatSys
import Derived.Test.YtnoammkjjbbajaaGreatAeW
import Derived.Test.YtnoammkjjbbajaaGreatAeI
namespace Go.AE
open Go.Proofs Go.RowKit
set_option maxRecDepth 100000
theorem tE_sh3 (n : Nat) (hn : n ≤ 4) (h : okT tC tEl n 3 = true) : shC tC n 3 = [.int .i64] := by
  match n, hn, h with
  | 0, _, h => exact absurd h (by rw [show okT tC tEl 0 3 = false by kernel_rfl]; exact Bool.false_ne_true)
  | 1, _, _ => show shC tC 1 3 = [.int .i64]; kernel_rfl
  | 2, _, _ => show shC tC 2 3 = [.int .i64]; kernel_rfl
  | 3, _, _ => show shC tC 3 3 = [.int .i64]; kernel_rfl
  | 4, _, _ => show shC tC 4 3 = [.int .i64]; kernel_rfl
theorem tE_sh5 (n : Nat) (hn : n ≤ 4) (h : okT tC tEl n 5 = true) : shC tC n 5 = [.int .u8] := by
  match n, hn, h with
  | 0, _, h => exact absurd h (by rw [show okT tC tEl 0 5 = false by kernel_rfl]; exact Bool.false_ne_true)
  | 1, _, _ => show shC tC 1 5 = [.int .u8]; kernel_rfl
  | 2, _, _ => show shC tC 2 5 = [.int .u8]; kernel_rfl
  | 3, _, _ => show shC tC 3 5 = [.int .u8]; kernel_rfl
  | 4, _, _ => show shC tC 4 5 = [.int .u8]; kernel_rfl
theorem tE_sh28 (n : Nat) (hn : n ≤ 4) (h : okT tC tEl n 28 = true) : shC tC n 28 = [.int .i64, .int .i64, .int .i64] := by
  match n, hn, h with
  | 0, _, h => exact absurd h (by rw [show okT tC tEl 0 28 = false by kernel_rfl]; exact Bool.false_ne_true)
  | 1, _, h => exact absurd h (by rw [show okT tC tEl 1 28 = false by kernel_rfl]; exact Bool.false_ne_true)
  | 2, _, _ => show shC tC 2 28 = [.int .i64, .int .i64, .int .i64]; kernel_rfl
  | 3, _, _ => show shC tC 3 28 = [.int .i64, .int .i64, .int .i64]; kernel_rfl
  | 4, _, _ => show shC tC 4 28 = [.int .i64, .int .i64, .int .i64]; kernel_rfl
theorem tE_sh42 (n : Nat) (hn : n ≤ 4) (h : okT tC tEl n 42 = true) : shC tC n 42 = [.int .i64, .int .i64, .int .i64, .int .i64] := by
  match n, hn, h with
  | 0, _, h => exact absurd h (by rw [show okT tC tEl 0 42 = false by kernel_rfl]; exact Bool.false_ne_true)
  | 1, _, h => exact absurd h (by rw [show okT tC tEl 1 42 = false by kernel_rfl]; exact Bool.false_ne_true)
  | 2, _, h => exact absurd h (by rw [show okT tC tEl 2 42 = false by kernel_rfl]; exact Bool.false_ne_true)
  | 3, _, _ => show shC tC 3 42 = [.int .i64, .int .i64, .int .i64, .int .i64]; kernel_rfl
  | 4, _, _ => show shC tC 4 42 = [.int .i64, .int .i64, .int .i64, .int .i64]; kernel_rfl
theorem tE_sh47 (n : Nat) (hn : n ≤ 4) (h : okT tC tEl n 47 = true) : shC tC n 47 = [.int .i64, .int .i64, .int .i64, .bool, .him 85] := by
  match n, hn, h with
  | 0, _, h => exact absurd h (by rw [show okT tC tEl 0 47 = false by kernel_rfl]; exact Bool.false_ne_true)
  | 1, _, h => exact absurd h (by rw [show okT tC tEl 1 47 = false by kernel_rfl]; exact Bool.false_ne_true)
  | 2, _, h => exact absurd h (by rw [show okT tC tEl 2 47 = false by kernel_rfl]; exact Bool.false_ne_true)
  | 3, _, h => exact absurd h (by rw [show okT tC tEl 3 47 = false by kernel_rfl]; exact Bool.false_ne_true)
  | 4, _, _ => show shC tC 4 47 = [.int .i64, .int .i64, .int .i64, .bool, .him 85]; kernel_rfl
theorem tE_sh62 (n : Nat) (hn : n ≤ 4) (h : okT tC tEl n 62 = true) : shC tC n 62 = [.int .i64, .int .i64, .int .i64, .int .i64, .int .i64, .int .i64, .him 3, .him 3] := by
  match n, hn, h with
  | 0, _, h => exact absurd h (by rw [show okT tC tEl 0 62 = false by kernel_rfl]; exact Bool.false_ne_true)
  | 1, _, h => exact absurd h (by rw [show okT tC tEl 1 62 = false by kernel_rfl]; exact Bool.false_ne_true)
  | 2, _, h => exact absurd h (by rw [show okT tC tEl 2 62 = false by kernel_rfl]; exact Bool.false_ne_true)
  | 3, _, _ => show shC tC 3 62 = [.int .i64, .int .i64, .int .i64, .int .i64, .int .i64, .int .i64, .him 3, .him 3]; kernel_rfl
  | 4, _, _ => show shC tC 4 62 = [.int .i64, .int .i64, .int .i64, .int .i64, .int .i64, .int .i64, .him 3, .him 3]; kernel_rfl
theorem tE_sh83 (n : Nat) (hn : n ≤ 4) (h : okT tC tEl n 83 = true) : shC tC n 83 = [.int .i64, .int .i64] := by
  match n, hn, h with
  | 0, _, h => exact absurd h (by rw [show okT tC tEl 0 83 = false by kernel_rfl]; exact Bool.false_ne_true)
  | 1, _, h => exact absurd h (by rw [show okT tC tEl 1 83 = false by kernel_rfl]; exact Bool.false_ne_true)
  | 2, _, _ => show shC tC 2 83 = [.int .i64, .int .i64]; kernel_rfl
  | 3, _, _ => show shC tC 3 83 = [.int .i64, .int .i64]; kernel_rfl
  | 4, _, _ => show shC tC 4 83 = [.int .i64, .int .i64]; kernel_rfl
theorem tE_sh85 (n : Nat) (hn : n ≤ 4) (h : okT tC tEl n 85 = true) : shC tC n 85 = [.int .i64, .int .i64] := by
  match n, hn, h with
  | 0, _, h => exact absurd h (by rw [show okT tC tEl 0 85 = false by kernel_rfl]; exact Bool.false_ne_true)
  | 1, _, h => exact absurd h (by rw [show okT tC tEl 1 85 = false by kernel_rfl]; exact Bool.false_ne_true)
  | 2, _, _ => show shC tC 2 85 = [.int .i64, .int .i64]; kernel_rfl
  | 3, _, _ => show shC tC 3 85 = [.int .i64, .int .i64]; kernel_rfl
  | 4, _, _ => show shC tC 4 85 = [.int .i64, .int .i64]; kernel_rfl
theorem tE_sh113 (n : Nat) (hn : n ≤ 4) (h : okT tC tEl n 113 = true) : shC tC n 113 = [.int .i64, .int .i64] := by
  match n, hn, h with
  | 0, _, h => exact absurd h (by rw [show okT tC tEl 0 113 = false by kernel_rfl]; exact Bool.false_ne_true)
  | 1, _, h => exact absurd h (by rw [show okT tC tEl 1 113 = false by kernel_rfl]; exact Bool.false_ne_true)
  | 2, _, _ => show shC tC 2 113 = [.int .i64, .int .i64]; kernel_rfl
  | 3, _, _ => show shC tC 3 113 = [.int .i64, .int .i64]; kernel_rfl
  | 4, _, _ => show shC tC 4 113 = [.int .i64, .int .i64]; kernel_rfl
theorem tE_total (e : Nat) (ys : List (AV tE)) (he : tEl e = true) (n : Nat) (hn : n ≤ tD) (h : okT tC tEl n e = true) (hf : fitsB (shC tC n e) ys = true) : ∃ x, tC.dec e ys = some x := by
  unfold tEl at he
  split at he
  · rw [tE_sh3 n hn h] at hf
    obtain ⟨y, hy⟩ := fitsB_un hf ()
    have hu := unC_ok hy
    obtain ⟨a0, ⟨⟩⟩ := y
    have : ys = (embC [.int .i64] (a0, ())).1 := by rw [hu]
    rw [this]
    exact ⟨_, rfl⟩
  · rw [tE_sh5 n hn h] at hf
    obtain ⟨y, hy⟩ := fitsB_un hf ()
    have hu := unC_ok hy
    obtain ⟨a0, ⟨⟩⟩ := y
    have : ys = (embC [.int .u8] (a0, ())).1 := by rw [hu]
    rw [this]
    exact ⟨_, rfl⟩
  · rw [tE_sh28 n hn h] at hf
    obtain ⟨y, hy⟩ := fitsB_un hf ()
    have hu := unC_ok hy
    obtain ⟨a0, a1, a2, ⟨⟩⟩ := y
    have : ys = (embC [.int .i64, .int .i64, .int .i64] (a0, a1, a2, ())).1 := by rw [hu]
    rw [this]
    exact ⟨_, rfl⟩
  · rw [tE_sh42 n hn h] at hf
    obtain ⟨y, hy⟩ := fitsB_un hf ()
    have hu := unC_ok hy
    obtain ⟨a0, a1, a2, a3, ⟨⟩⟩ := y
    have : ys = (embC [.int .i64, .int .i64, .int .i64, .int .i64] (a0, a1, a2, a3, ())).1 := by rw [hu]
    rw [this]
    exact ⟨_, rfl⟩
  · rw [tE_sh47 n hn h] at hf
    obtain ⟨y, hy⟩ := fitsB_un hf ()
    have hu := unC_ok hy
    obtain ⟨a0, a1, a2, a3, a4, ⟨⟩⟩ := y
    have : ys = (embC [.int .i64, .int .i64, .int .i64, .bool, .him 85] (a0, a1, a2, a3, a4, ())).1 := by rw [hu]
    rw [this]
    exact ⟨_, rfl⟩
  · rw [tE_sh62 n hn h] at hf
    obtain ⟨y, hy⟩ := fitsB_un hf ()
    have hu := unC_ok hy
    obtain ⟨a0, a1, a2, a3, a4, a5, a6, a7, ⟨⟩⟩ := y
    have : ys = (embC [.int .i64, .int .i64, .int .i64, .int .i64, .int .i64, .int .i64, .him 3, .him 3] (a0, a1, a2, a3, a4, a5, a6, a7, ())).1 := by rw [hu]
    rw [this]
    exact ⟨_, rfl⟩
  · rw [tE_sh83 n hn h] at hf
    obtain ⟨y, hy⟩ := fitsB_un hf ()
    have hu := unC_ok hy
    obtain ⟨a0, a1, ⟨⟩⟩ := y
    have : ys = (embC [.int .i64, .int .i64] (a0, a1, ())).1 := by rw [hu]
    rw [this]
    exact ⟨_, rfl⟩
  · rw [tE_sh85 n hn h] at hf
    obtain ⟨y, hy⟩ := fitsB_un hf ()
    have hu := unC_ok hy
    obtain ⟨a0, a1, ⟨⟩⟩ := y
    have : ys = (embC [.int .i64, .int .i64] (a0, a1, ())).1 := by rw [hu]
    rw [this]
    exact ⟨_, rfl⟩
  · rw [tE_sh113 n hn h] at hf
    obtain ⟨y, hy⟩ := fitsB_un hf ()
    have hu := unC_ok hy
    obtain ⟨a0, a1, ⟨⟩⟩ := y
    have : ys = (embC [.int .i64, .int .i64] (a0, a1, ())).1 := by rw [hu]
    rw [this]
    exact ⟨_, rfl⟩
  · cases he
end Go.AE
