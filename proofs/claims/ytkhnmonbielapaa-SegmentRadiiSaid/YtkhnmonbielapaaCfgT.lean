/-
  Each element type of this seat that has a codec takes every row of cells of its kinds. Written by cfg.py.
-/
import Derived.Test.YtkhnmonbielapaaSys
import Derived.Test.YtkhnmonbielapaaAeW
namespace Go.AE
open Go.Proofs Go.RowKit
set_option maxRecDepth 100000
theorem tE_sh3 (n : Nat) (hn : n ≤ 4) (h : okT tC tEl n 3 = true) : shC tC n 3 = [.int .i64] := by
  match n, hn, h with
  | 0, _, h => exact absurd h (by rw [show okT tC tEl 0 3 = false by kernel_rfl]; exact Bool.false_ne_true)
  | 1, _, _ => show shC tC 1 3 = [.int .i64]; kernel_rfl
  | 2, _, _ => show shC tC 2 3 = [.int .i64]; kernel_rfl
  | 3, _, _ => show shC tC 3 3 = [.int .i64]; kernel_rfl
  | 4, _, _ => show shC tC 4 3 = [.int .i64]; kernel_rfl
theorem tE_sh23 (n : Nat) (hn : n ≤ 4) (h : okT tC tEl n 23 = true) : shC tC n 23 = [.int .i64, .int .i64] := by
  match n, hn, h with
  | 0, _, h => exact absurd h (by rw [show okT tC tEl 0 23 = false by kernel_rfl]; exact Bool.false_ne_true)
  | 1, _, h => exact absurd h (by rw [show okT tC tEl 1 23 = false by kernel_rfl]; exact Bool.false_ne_true)
  | 2, _, _ => show shC tC 2 23 = [.int .i64, .int .i64]; kernel_rfl
  | 3, _, _ => show shC tC 3 23 = [.int .i64, .int .i64]; kernel_rfl
  | 4, _, _ => show shC tC 4 23 = [.int .i64, .int .i64]; kernel_rfl
theorem tE_sh29 (n : Nat) (hn : n ≤ 4) (h : okT tC tEl n 29 = true) : shC tC n 29 = [.int .i64, .int .i64, .int .i64, .int .i64] := by
  match n, hn, h with
  | 0, _, h => exact absurd h (by rw [show okT tC tEl 0 29 = false by kernel_rfl]; exact Bool.false_ne_true)
  | 1, _, h => exact absurd h (by rw [show okT tC tEl 1 29 = false by kernel_rfl]; exact Bool.false_ne_true)
  | 2, _, _ => show shC tC 2 29 = [.int .i64, .int .i64, .int .i64, .int .i64]; kernel_rfl
  | 3, _, _ => show shC tC 3 29 = [.int .i64, .int .i64, .int .i64, .int .i64]; kernel_rfl
  | 4, _, _ => show shC tC 4 29 = [.int .i64, .int .i64, .int .i64, .int .i64]; kernel_rfl
theorem tE_sh37 (n : Nat) (hn : n ≤ 4) (h : okT tC tEl n 37 = true) : shC tC n 37 = [.int .i16] := by
  match n, hn, h with
  | 0, _, h => exact absurd h (by rw [show okT tC tEl 0 37 = false by kernel_rfl]; exact Bool.false_ne_true)
  | 1, _, _ => show shC tC 1 37 = [.int .i16]; kernel_rfl
  | 2, _, _ => show shC tC 2 37 = [.int .i16]; kernel_rfl
  | 3, _, _ => show shC tC 3 37 = [.int .i16]; kernel_rfl
  | 4, _, _ => show shC tC 4 37 = [.int .i16]; kernel_rfl
theorem tE_total (e : Nat) (ys : List (AV tE)) (he : tEl e = true) (n : Nat) (hn : n ≤ tD) (h : okT tC tEl n e = true) (hf : fitsB (shC tC n e) ys = true) : ∃ x, tC.dec e ys = some x := by
  unfold tEl at he
  split at he
  · rw [tE_sh3 n hn h] at hf
    obtain ⟨y, hy⟩ := fitsB_un hf ()
    have hu := unC_ok hy
    obtain ⟨a0, ⟨⟩⟩ := y
    have : ys = (embC [.int .i64] (a0, ())).1 := by rw [hu]
    rw [this]
    exact ⟨_, rfl⟩
  · rw [tE_sh23 n hn h] at hf
    obtain ⟨y, hy⟩ := fitsB_un hf ()
    have hu := unC_ok hy
    obtain ⟨a0, a1, ⟨⟩⟩ := y
    have : ys = (embC [.int .i64, .int .i64] (a0, a1, ())).1 := by rw [hu]
    rw [this]
    exact ⟨_, rfl⟩
  · rw [tE_sh29 n hn h] at hf
    obtain ⟨y, hy⟩ := fitsB_un hf ()
    have hu := unC_ok hy
    obtain ⟨a0, a1, a2, a3, ⟨⟩⟩ := y
    have : ys = (embC [.int .i64, .int .i64, .int .i64, .int .i64] (a0, a1, a2, a3, ())).1 := by rw [hu]
    rw [this]
    exact ⟨_, rfl⟩
  · rw [tE_sh37 n hn h] at hf
    obtain ⟨y, hy⟩ := fitsB_un hf ()
    have hu := unC_ok hy
    obtain ⟨a0, ⟨⟩⟩ := y
    have : ys = (embC [.int .i16] (a0, ())).1 := by rw [hu]
    rw [this]
    exact ⟨_, rfl⟩
  · cases he
end Go.AE
