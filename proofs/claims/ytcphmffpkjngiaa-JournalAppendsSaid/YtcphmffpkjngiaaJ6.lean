/-
  Plain laws of the chapter Journal, part 10: Encodes, Decodes.
-/
import Derived.Test.YtcphmffpkjngiaaJ5
import Derived.Test.YtcphmffpkjngiaaFc
import Derived.Test.YtcphmffpkjngiaaWf
namespace Go.AE
open Go.Proofs Go.RowKit
set_option maxRecDepth 100000

theorem journalEncodes_plain (x : Int × Int × Int × Bool × List Bm × Unit) : f3 x = some (true, ()) := by
  obtain ⟨t, u, f, B, s, ⟨⟩⟩ := x
  unfold f3
  simp only [f11_spec, Option.bind_some, Bool.not_true, cond_false]
  by_cases hs : (s.length : Int) > 500
  · simp only [hs, decide_true, cond_true]
  · have h12 := f12_spec ⟨t, u, f, B, s⟩ (show s.length ≤ 1000000 by omega)
    have h13 := f13_spec ⟨t, u, f, B, s⟩
    simp only at h12 h13
    have h15 := f15_spec (enc_byt ⟨t, u, f, B, s⟩) (by have := enc_len ⟨t, u, f, B, s⟩; omega)
    simp only [hs, decide_false, cond_false, h12, h13, Option.bind_some, f14, decide_true, Bool.not_true, h15]
    by_cases hok : evOK ⟨t, u, f, B, s⟩ = true
    · have h16 := f16_spec (a := ⟨t, u, f, B, s⟩) (b := ⟨t, u, f, B, s⟩) (show s.length ≤ 1000000 by omega)
      rw [decide_eq_true rfl] at h16
      simp only at h16
      have hne := List.length_pos_iff.2 (encE_ne ⟨t, u, f, B, s⟩)
      have q : (((encE ⟨t, u, f, B, s⟩).length : Int) == 0) = false := by rw [beq_eq_false_iff_ne]; omega
      rw [enc_yes hok, dec_enc hok]
      simp only [evR, Option.bind_some, q, cond_false, beq_self_eq_true, cond_true, h16]
    · rw [enc_no hok, dec_nil]
      rfl

theorem dec_scan {b : List Int} (hb : Byt b) : (dec b).1.S.length ≤ 1000000 := by
  by_cases h : (dec b).2 = 0
  · have := (scanOK_iff.1 (evOK_iff.1 (dec_back hb h).1).2.1).1
    omega
  · have : (dec b).1.S = [] := by
      unfold dec at h ⊢
      split
      · rfl
      · split
        · rfl
        · split
          · rfl
          · split
            · rfl
            · rename_i h1 h2 h3 h4
              rw [if_neg h1, if_neg h2, if_neg h3, if_neg h4] at h
              cases hv : (rdi (rdi (rdi b).2.1).2.1).2.1 with
              | nil => rfl
              | cons c r =>
                rw [hv, dec2_cons] at h
                rw [dec2_cons]
                split
                · rfl
                · rename_i h5
                  rw [if_neg h5] at h
                  unfold dec3 at h ⊢
                  split
                  · rfl
                  · split
                    · rfl
                    · split
                      · rfl
                      · split
                        · rename_i h6 h7 h8 h9
                          rw [if_neg h6, if_neg h7, if_neg h8, if_pos h9] at h
                          exact (h rfl).elim
                        · rfl
    rw [this]
    decide

theorem journalDecodes_plain {b : List Int} (hb : Byt b) : f4 (b, ()) = some (true, ()) := by
  unfold f4
  simp only [f11_spec, Option.bind_some, Bool.not_true, cond_false]
  by_cases hl : (b.length : Int) > 3000
  · simp only [hl, decide_true, cond_true]
  · have h16 := f16_spec (a := (dec b).1) (b := (dec b).1) (dec_scan hb)
    rw [decide_eq_true rfl] at h16
    simp only [hl, decide_false, cond_false, f15_spec hb (by omega), f17_spec' hb (by omega), evR, Option.bind_some, beq_self_eq_true, cond_true, h16]
    by_cases h : (dec b).2 = 0
    · have q : ((dec b).2 != 0) = false := by simp [h]
      obtain ⟨d1, d2⟩ := dec_back hb h
      simp only [q, cond_false, f12_spec (dec b).1 (dec_scan hb), enc_yes d1, d2, f14, decide_true, Option.bind_some]
    · have q : ((dec b).2 != 0) = true := by simp [h]
      simp only [q, cond_true]

theorem byt_of {b : List Int} (h : AV.wf tC 4 (.imm 5 b)) : Byt b := fun x hx => by
  have h1 : IntKind.u8.min ≤ x ∧ x ≤ IntKind.u8.max := wf_imm (C := tC) (n := 2) (e := 5) (xs := b) h (k := .u8) (fun x => x) (fun _ => rfl) x hx
  have h2 : (0 : Int) ≤ x ∧ x ≤ 255 := h1
  omega

end Go.AE
