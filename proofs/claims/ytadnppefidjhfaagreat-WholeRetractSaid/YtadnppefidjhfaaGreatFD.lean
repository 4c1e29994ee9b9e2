/-
  The chapter Floor, part 3: Fits, by both ways.
-/
import Derived.Test.YtadnppefidjhfaaGreatFC
namespace Go.AE
open Go.Proofs Go.RowKit
set_option maxRecDepth 100000

/-- The point lies in the closed rectangle of the plan. -/
def inRp (p : Pl) (a : Pt) : Prop := 0 ≤ a.X ∧ 0 ≤ a.Y ∧ a.X ≤ p.W * 64 ∧ a.Y ≤ p.H * 64
instance (p : Pl) (a : Pt) : Decidable (inRp p a) := by unfold inRp; infer_instance

theorem hit_out {p : Pl} (hp : p.Ok) {a : Pt} {r : Int} (h : ¬ inRp p a) : hit p a r ⟨a.X / 64, a.Y / 64⟩ := by
  have hw := hp.w1
  have hh := hp.h1
  refine ⟨?_, ?_⟩
  · unfold Pl.val
    rw [if_neg]
    intro hin
    unfold Pl.inP at hin
    unfold inRp at h
    simp only at hin
    omega
  · have g1 : gp a.X (a.X / 64) = 0 := by unfold gp; omega
    have g2 : gp a.Y (a.Y / 64) = 0 := by unfold gp; omega
    unfold gap2
    simp only [g1, g2]
    have := sq_nonneg' r
    omega

theorem hit_cell {p : Pl} {a c : Pt} {r : Int} (hr : 0 ≤ r) (h : hit p a r c) : ((a.X - r) / 64 - 1 ≤ c.X ∧ c.X ≤ (a.X + r) / 64 + 1) ∧ (a.Y - r) / 64 - 1 ≤ c.Y ∧ c.Y ≤ (a.Y + r) / 64 + 1 := by
  obtain ⟨h1, h2⟩ := hit_gp hr h
  unfold gp at h1 h2
  omega

section
variable {p : Pl} {a : Pt} {r : Int}

end
end Go.AE
