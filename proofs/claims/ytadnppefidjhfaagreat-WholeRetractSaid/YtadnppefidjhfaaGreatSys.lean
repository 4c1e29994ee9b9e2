/-
  AE: this seat's configuration is sound.
-/
import Derived.Test.YtadnppefidjhfaaGreatAeV
import Derived.Test.YtadnppefidjhfaaGreatCfg
import Derived.KernelRfl
namespace Go.AE
open Go.Proofs Go.RowKit

theorem tC_tab : tabB tC.P tC.T 0 tL = true := by kernel_rfl
theorem tC_mixed : tC.P.follows .mixedOrders = true := by kernel_rfl
theorem tC_T (t : Nat) (ti : TI tE) (h : tT t = some ti) : tL[t]? = some (some ti) := by
  unfold tT at h
  split at h
  · rename_i x hx
    rw [hx, h]
  · cases h
theorem tC_eqt : eqTabB tC.P 0 tL = true := by kernel_rfl
theorem tC_eq (t : Nat) (ti : TI tE) (h : tC.T t = some ti) (he : ti.eqf = true) : EqOK tC t ti := eq_ok (C := tC) (L := tL) tC_T tC_eqt t ti h he
theorem tC_ok : CfgOK tC := cfg_ok (C := tC) (L := tL) tC_T tC_tab tE_len tE_dec tE_free tE_tight tC_mixed tE_bytes
end Go.AE
