/- The door's own heap meets the row's condition. By an AI agent. -/
import Derived.Test.YtehkhkdpcgkckaaGreatDoorRows
import Derived.Test.YtehkhkdpcgkckaaGreatDoorMyTie
import Derived.SevenTiedAt
import Derived.LaidMore
import Derived.OpenShut
import Derived.Stop.Joined
import Derived.KernelRfl
namespace Go.Proofs.YtehkhkdpcgkckaaGreatDoor
open Go

noncomputable def doorW (os : Os) (args : Array Value) : World := (World.doorLaid Tryz.prog 400 os).forCall (fun _ _ => 0) ⟨#[], args, []⟩
def wArgs : Array Value := #[.int .i64 0, .int .i64 0, .string .empty]
theorem door1 (os : Os) : (DataW.laidRun Tryz.prog (doorW os wArgs).memory 8 ((myLaid.filter fun x => x.2.handleName?.isNone).map (·.1))).map (·.1) = some (myLaid.filter fun x => x.2.handleName?.isNone) := by kernel_rfl
theorem door2 (os : Os) : (DataW.laidRun Tryz.prog (doorW os wArgs).memory 8 ((myLaid.filter fun x => x.2.handleName?.isNone).map (·.1))).map (fun x => decide x.2.Nodup && laidRowsB Tryz.prog (doorW os wArgs).memory x.2) = some true := by kernel_rfl
theorem door3 (os : Os) : (myLaid.filter fun x => x.2.handleName?.isSome && x.2.funcsIn?.isNone).all (handleAtB Tryz.prog (doorW os wArgs).memory) = true := by kernel_rfl
theorem door4 (os : Os) : funcsRun Tryz.prog (doorW os wArgs).memory 8 ((funcsListed myLaid).map (·.1)) = some ((funcsListed myLaid).map (·.2.funcsOut)) := by kernel_rfl
theorem door_met (os : Os) : laidMetH Tryz.prog myLaid (doorW os wArgs).memory := laidMetH_of_parts3 (fuel := 8) (laidMet_of_run' 8 (door1 os) (door2 os)) (door3 os) (door4 os)
theorem shaped1 (os : Os) : (doorW os wArgs).Shaped Tryz.prog := World.shaped_of_RefB (by kernel_rfl) (by kernel_rfl)
theorem okw (os : Os) : Input.okWideB Tryz.prog (doorW os wArgs) 3 ⟨#[], wArgs, []⟩ = true := by kernel_rfl
theorem preb (os : Os) (H : Type) (enc : TypeId × Value → H) : Rows.nodeNilSpec.preB enc Tryz.prog Tryz.f3 Rows.nodeNilRow.domain false (doorW os wArgs).memory wArgs 8 = true := by kernel_rfl
theorem szb (os : Os) (H : Type) (enc : TypeId × Value → H) : Rows.nodeNilSpec.sizedB enc Tryz.prog Tryz.f3 false (doorW os wArgs).memory wArgs 8 = true := by kernel_rfl

end Go.Proofs.YtehkhkdpcgkckaaGreatDoor
