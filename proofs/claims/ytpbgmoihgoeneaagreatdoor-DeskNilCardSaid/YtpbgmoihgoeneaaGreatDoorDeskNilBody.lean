/- DeskNil's own body, whatever its arguments. -/
import Derived.Test.YtpbgmoihgoeneaaGreatDoorDeskNilRun
namespace Go.Proofs.YtpbgmoihgoeneaaGreatDoor
open Go Go.AM
theorem desk_nil_run (s : ByteArray) (b : Value) (hb : b = .slice none 0 0 ∨ ∃ x n c, b = .slice (some ⟨4, x, none⟩) n c) (t u : Int) :
    isTrue ((runO env known 1000).call 7 [.int .i64 t, .int .i64 u, .string s, b] ⟨.leaf, 5⟩) = true := by
  revert t u
  rcases hb with rfl | ⟨x, n, c, rfl⟩
  · refine int_shapes ?_ (fun m => ?_) ?_ (fun m => ?_) <;> refine int_shapes ?_ (fun m => ?_) ?_ (fun m => ?_) <;> kernel_rfl
  · refine int_shapes ?_ (fun m => ?_) ?_ (fun m => ?_) <;> refine int_shapes ?_ (fun m => ?_) ?_ (fun m => ?_) <;> kernel_rfl
end Go.Proofs.YtpbgmoihgoeneaaGreatDoor
