/-
  Each element type of this seat that has a codec takes every row of cells of its kinds. Written by cfg.py.
-/
import Derived.Test.YtadnppefidjhfaaGreatSys
import Derived.Test.YtadnppefidjhfaaGreatAeW
namespace Go.AE
open Go.Proofs Go.RowKit
set_option maxRecDepth 100000
theorem tE_sh3 (n : Nat) (hn : n ≤ 4) (h : okT tC tEl n 3 = true) : shC tC n 3 = [.int .i64] := by
  match n, hn, h with
  | 0, _, h => exact absurd h (by rw [show okT tC tEl 0 3 = false by kernel_rfl]; exact Bool.false_ne_true)
  | 1, _, _ => show shC tC 1 3 = [.int .i64]; kernel_rfl
  | 2, _, _ => show shC tC 2 3 = [.int .i64]; kernel_rfl
  | 3, _, _ => show shC tC 3 3 = [.int .i64]; kernel_rfl
  | 4, _, _ => show shC tC 4 3 = [.int .i64]; kernel_rfl
theorem tE_sh5 (n : Nat) (hn : n ≤ 4) (h : okT tC tEl n 5 = true) : shC tC n 5 = [.int .u8] := by
  match n, hn, h with
  | 0, _, h => exact absurd h (by rw [show okT tC tEl 0 5 = false by kernel_rfl]; exact Bool.false_ne_true)
  | 1, _, _ => show shC tC 1 5 = [.int .u8]; kernel_rfl
  | 2, _, _ => show shC tC 2 5 = [.int .u8]; kernel_rfl
  | 3, _, _ => show shC tC 3 5 = [.int .u8]; kernel_rfl
  | 4, _, _ => show shC tC 4 5 = [.int .u8]; kernel_rfl
theorem tE_sh26 (n : Nat) (hn : n ≤ 4) (h : okT tC tEl n 26 = true) : shC tC n 26 = [.int .i64, .bool, .int .i64, .int .i64, .int .i64] := by
  match n, hn, h with
  | 0, _, h => exact absurd h (by rw [show okT tC tEl 0 26 = false by kernel_rfl]; exact Bool.false_ne_true)
  | 1, _, h => exact absurd h (by rw [show okT tC tEl 1 26 = false by kernel_rfl]; exact Bool.false_ne_true)
  | 2, _, h => exact absurd h (by rw [show okT tC tEl 2 26 = false by kernel_rfl]; exact Bool.false_ne_true)
  | 3, _, _ => show shC tC 3 26 = [.int .i64, .bool, .int .i64, .int .i64, .int .i64]; kernel_rfl
  | 4, _, _ => show shC tC 4 26 = [.int .i64, .bool, .int .i64, .int .i64, .int .i64]; kernel_rfl
theorem tE_sh33 (n : Nat) (hn : n ≤ 4) (h : okT tC tEl n 33 = true) : shC tC n 33 = [.him 49] := by
  match n, hn, h with
  | 0, _, h => exact absurd h (by rw [show okT tC tEl 0 33 = false by kernel_rfl]; exact Bool.false_ne_true)
  | 1, _, h => exact absurd h (by rw [show okT tC tEl 1 33 = false by kernel_rfl]; exact Bool.false_ne_true)
  | 2, _, h => exact absurd h (by rw [show okT tC tEl 2 33 = false by kernel_rfl]; exact Bool.false_ne_true)
  | 3, _, _ => show shC tC 3 33 = [.him 49]; kernel_rfl
  | 4, _, _ => show shC tC 4 33 = [.him 49]; kernel_rfl
theorem tE_sh35 (n : Nat) (hn : n ≤ 4) (h : okT tC tEl n 35 = true) : shC tC n 35 = [.bool, .int .i64, .him 49, .int .i64, .bool, .int .i64, .int .i64, .int .i64] := by
  match n, hn, h with
  | 0, _, h => exact absurd h (by rw [show okT tC tEl 0 35 = false by kernel_rfl]; exact Bool.false_ne_true)
  | 1, _, h => exact absurd h (by rw [show okT tC tEl 1 35 = false by kernel_rfl]; exact Bool.false_ne_true)
  | 2, _, h => exact absurd h (by rw [show okT tC tEl 2 35 = false by kernel_rfl]; exact Bool.false_ne_true)
  | 3, _, h => exact absurd h (by rw [show okT tC tEl 3 35 = false by kernel_rfl]; exact Bool.false_ne_true)
  | 4, _, _ => show shC tC 4 35 = [.bool, .int .i64, .him 49, .int .i64, .bool, .int .i64, .int .i64, .int .i64]; kernel_rfl
theorem tE_sh49 (n : Nat) (hn : n ≤ 4) (h : okT tC tEl n 49 = true) : shC tC n 49 = [.int .i64, .int .i64] := by
  match n, hn, h with
  | 0, _, h => exact absurd h (by rw [show okT tC tEl 0 49 = false by kernel_rfl]; exact Bool.false_ne_true)
  | 1, _, h => exact absurd h (by rw [show okT tC tEl 1 49 = false by kernel_rfl]; exact Bool.false_ne_true)
  | 2, _, _ => show shC tC 2 49 = [.int .i64, .int .i64]; kernel_rfl
  | 3, _, _ => show shC tC 3 49 = [.int .i64, .int .i64]; kernel_rfl
  | 4, _, _ => show shC tC 4 49 = [.int .i64, .int .i64]; kernel_rfl
theorem tE_sh66 (n : Nat) (hn : n ≤ 4) (h : okT tC tEl n 66 = true) : shC tC n 66 = [.int .i64, .int .i64] := by
  match n, hn, h with
  | 0, _, h => exact absurd h (by rw [show okT tC tEl 0 66 = false by kernel_rfl]; exact Bool.false_ne_true)
  | 1, _, h => exact absurd h (by rw [show okT tC tEl 1 66 = false by kernel_rfl]; exact Bool.false_ne_true)
  | 2, _, _ => show shC tC 2 66 = [.int .i64, .int .i64]; kernel_rfl
  | 3, _, _ => show shC tC 3 66 = [.int .i64, .int .i64]; kernel_rfl
  | 4, _, _ => show shC tC 4 66 = [.int .i64, .int .i64]; kernel_rfl
theorem tE_sh68 (n : Nat) (hn : n ≤ 4) (h : okT tC tEl n 68 = true) : shC tC n 68 = [.int .i64, .int .i64, .int .i64, .int .i64] := by
  match n, hn, h with
  | 0, _, h => exact absurd h (by rw [show okT tC tEl 0 68 = false by kernel_rfl]; exact Bool.false_ne_true)
  | 1, _, h => exact absurd h (by rw [show okT tC tEl 1 68 = false by kernel_rfl]; exact Bool.false_ne_true)
  | 2, _, h => exact absurd h (by rw [show okT tC tEl 2 68 = false by kernel_rfl]; exact Bool.false_ne_true)
  | 3, _, _ => show shC tC 3 68 = [.int .i64, .int .i64, .int .i64, .int .i64]; kernel_rfl
  | 4, _, _ => show shC tC 4 68 = [.int .i64, .int .i64, .int .i64, .int .i64]; kernel_rfl
theorem tE_sh102 (n : Nat) (hn : n ≤ 4) (h : okT tC tEl n 102 = true) : shC tC n 102 = [.int .i64, .int .i64, .him 5] := by
  match n, hn, h with
  | 0, _, h => exact absurd h (by rw [show okT tC tEl 0 102 = false by kernel_rfl]; exact Bool.false_ne_true)
  | 1, _, h => exact absurd h (by rw [show okT tC tEl 1 102 = false by kernel_rfl]; exact Bool.false_ne_true)
  | 2, _, h => exact absurd h (by rw [show okT tC tEl 2 102 = false by kernel_rfl]; exact Bool.false_ne_true)
  | 3, _, _ => show shC tC 3 102 = [.int .i64, .int .i64, .him 5]; kernel_rfl
  | 4, _, _ => show shC tC 4 102 = [.int .i64, .int .i64, .him 5]; kernel_rfl
theorem tE_total (e : Nat) (ys : List (AV tE)) (he : tEl e = true) (n : Nat) (hn : n ≤ tD) (h : okT tC tEl n e = true) (hf : fitsB (shC tC n e) ys = true) : ∃ x, tC.dec e ys = some x := by
  unfold tEl at he
  split at he
  · rw [tE_sh3 n hn h] at hf
    obtain ⟨y, hy⟩ := fitsB_un hf ()
    have hu := unC_ok hy
    obtain ⟨a0, ⟨⟩⟩ := y
    have : ys = (embC [.int .i64] (a0, ())).1 := by rw [hu]
    rw [this]
    exact ⟨_, rfl⟩
  · rw [tE_sh5 n hn h] at hf
    obtain ⟨y, hy⟩ := fitsB_un hf ()
    have hu := unC_ok hy
    obtain ⟨a0, ⟨⟩⟩ := y
    have : ys = (embC [.int .u8] (a0, ())).1 := by rw [hu]
    rw [this]
    exact ⟨_, rfl⟩
  · rw [tE_sh26 n hn h] at hf
    obtain ⟨y, hy⟩ := fitsB_un hf ()
    have hu := unC_ok hy
    obtain ⟨a0, a1, a2, a3, a4, ⟨⟩⟩ := y
    have : ys = (embC [.int .i64, .bool, .int .i64, .int .i64, .int .i64] (a0, a1, a2, a3, a4, ())).1 := by rw [hu]
    rw [this]
    exact ⟨_, rfl⟩
  · rw [tE_sh33 n hn h] at hf
    obtain ⟨y, hy⟩ := fitsB_un hf ()
    have hu := unC_ok hy
    obtain ⟨a0, ⟨⟩⟩ := y
    have : ys = (embC [.him 49] (a0, ())).1 := by rw [hu]
    rw [this]
    exact ⟨_, rfl⟩
  · rw [tE_sh35 n hn h] at hf
    obtain ⟨y, hy⟩ := fitsB_un hf ()
    have hu := unC_ok hy
    obtain ⟨a0, a1, a2, a3, a4, a5, a6, a7, ⟨⟩⟩ := y
    have : ys = (embC [.bool, .int .i64, .him 49, .int .i64, .bool, .int .i64, .int .i64, .int .i64] (a0, a1, a2, a3, a4, a5, a6, a7, ())).1 := by rw [hu]
    rw [this]
    exact ⟨_, rfl⟩
  · rw [tE_sh49 n hn h] at hf
    obtain ⟨y, hy⟩ := fitsB_un hf ()
    have hu := unC_ok hy
    obtain ⟨a0, a1, ⟨⟩⟩ := y
    have : ys = (embC [.int .i64, .int .i64] (a0, a1, ())).1 := by rw [hu]
    rw [this]
    exact ⟨_, rfl⟩
  · rw [tE_sh66 n hn h] at hf
    obtain ⟨y, hy⟩ := fitsB_un hf ()
    have hu := unC_ok hy
    obtain ⟨a0, a1, ⟨⟩⟩ := y
    have : ys = (embC [.int .i64, .int .i64] (a0, a1, ())).1 := by rw [hu]
    rw [this]
    exact ⟨_, rfl⟩
  · rw [tE_sh68 n hn h] at hf
    obtain ⟨y, hy⟩ := fitsB_un hf ()
    have hu := unC_ok hy
    obtain ⟨a0, a1, a2, a3, ⟨⟩⟩ := y
    have : ys = (embC [.int .i64, .int .i64, .int .i64, .int .i64] (a0, a1, a2, a3, ())).1 := by rw [hu]
    rw [this]
    exact ⟨_, rfl⟩
  · rw [tE_sh102 n hn h] at hf
    obtain ⟨y, hy⟩ := fitsB_un hf ()
    have hu := unC_ok hy
    obtain ⟨a0, a1, a2, ⟨⟩⟩ := y
    have : ys = (embC [.int .i64, .int .i64, .him 5] (a0, a1, a2, ())).1 := by rw [hu]
    rw [this]
    exact ⟨_, rfl⟩
  · cases he
end Go.AE
