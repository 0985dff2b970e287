/- What every law of this seat's asks besides its run: the types' closed facts, the witness' world, the plain card's facts. -/
import Derived.Test.YtpbgmoihgoeneaaGreatDoorR2Env
import Derived.Test.YtpbgmoihgoeneaaGreatDoorCards
import Derived.Test.YtpbgmoihgoeneaaGreatDoorTie
import Derived.LaidMore
namespace Go.Proofs.YtpbgmoihgoeneaaGreatDoor
open Go Go.AM
set_option maxRecDepth 100000
theorem own : ownKnob Tryz.prog.godebug = none := by kernel_rfl
theorem laid_out : laidOutB Tryz.prog = true := by kernel_rfl
theorem maps_rowed : mapsRowed Tryz.prog = true := by kernel_rfl
theorem stops_heard : Tryz.prog.stopsHeard = true := by kernel_rfl
theorem may_enter : Tryz.prog.mayEnter = true := by kernel_rfl
theorem plain_keys : Tryz.prog.plainKeys = Rows.deskNilRow.plainKeys := by kernel_rfl
theorem lifts_final : Tryz.prog.liftsFinal = Rows.deskNilRow.lifted := by kernel_rfl
theorem kids : Kids Tryz.prog (· < Tryz.prog.types.size) := kids_rows laid_out maps_rowed
theorem slices_sized : ((List.range Tryz.prog.types.size).all fun t => match Tryz.prog.underlying t with | some (.slice e) => decide (0 < Tryz.prog.cellsOf e) | _ => true) = true := by kernel_rfl
theorem slice_sized {t e : TypeId} (ht : t < Tryz.prog.types.size) (he : Tryz.prog.underlying t = some (.slice e)) : 0 < Tryz.prog.cellsOf e := by
  have := List.all_eq_true.1 slices_sized t (List.mem_range.2 ht)
  rw [he] at this
  simpa using this
theorem global_rows : ((List.range Tryz.prog.globals.size).all fun g => (((begin Tryz.prog (fun _ _ => 0) default).world.heap[g]?).bind Obj.row?).isSome) = true := by kernel_rfl
theorem laid_met (os : Os) (args : Array Value) : laidMet Tryz.prog Rows.deskNilRow.laid ((World.doorLaid Tryz.prog 4000 os).forCall (fun _ _ => 0) ⟨#[], args, []⟩).memory :=
  laidMet_of_run' 80 (by kernel_rfl) (by kernel_rfl)
end Go.Proofs.YtpbgmoihgoeneaaGreatDoor
