/- The runs of DeskNil: the chapter's facts; a nil desk. -/
import Derived.Test.YtpbgmoihgoeneaaGreatDoorR2Env
namespace Go.Proofs.YtpbgmoihgoeneaaGreatDoor
open Go Go.AM
theorem awake23_run : isTrue ((run env 100000).call 15 [] ⟨.leaf, 4⟩) = true := by kernel_rfl
/-- The chapter's facts. -/
def known (f : FuncId) (args : List Value) : Option Value :=
  match f with
  | 15 => match args with
    | [] => some (.bool true)
    | _ => none
  | _ => none
theorem known_ok : ∀ f args v, known f args = some v → Known Tryz.prog env f args v := by
  intro f args v h
  unfold known at h
  split at h
  · split at h
    · cases h
      obtain ⟨σ, hs⟩ := isTrue_ok awake23_run
      exact ⟨rfl, rfl, _, σ, sound env_ok env_deep 100000, by rw [env_G]; exact hs⟩
    · cases h
  · cases h
end Go.Proofs.YtpbgmoihgoeneaaGreatDoor
