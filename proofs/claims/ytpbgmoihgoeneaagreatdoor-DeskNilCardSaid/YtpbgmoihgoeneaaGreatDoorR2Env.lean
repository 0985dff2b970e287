/- The abstract machine over this seat's program. -/
import Derived.Test.YtpbgmoihgoeneaaGreatDoorAMOracle
import Derived.Test.YtpbgmoihgoeneaaGreatDoorProg
import Derived.KernelRfl
namespace Go.Proofs.YtpbgmoihgoeneaaGreatDoor
open Go Go.AM
noncomputable def ext (f : Nat) : Option Ext := if f = 222 then some .indexByte else none
noncomputable def env : Env := envOf Tryz.prog ext
theorem env_ok : EnvOk Tryz.prog env := envOk (by kernel_rfl) (by kernel_rfl) fun f e h => by
  unfold ext at h
  split at h
  · rename_i hf
    subst hf
    exact ⟨_, Tryz.func222, by kernel_rfl, by kernel_rfl, fun _ => by kernel_rfl⟩
  · cases h
theorem env_deep : 100 ≤ Tryz.prog.types.size + Made.depth := by
  have : (decide (100 ≤ Tryz.prog.types.size)) = true := by kernel_rfl
  have := of_decide_eq_true this
  omega
theorem env_G : env.G = 4 := by kernel_rfl
end Go.Proofs.YtpbgmoihgoeneaaGreatDoor
