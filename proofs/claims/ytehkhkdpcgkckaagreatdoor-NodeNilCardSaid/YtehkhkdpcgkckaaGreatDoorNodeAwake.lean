/- The run of the layer's example: a datagram goes from one node to another one. By an AI agent. -/
import Derived.Test.YtehkhkdpcgkckaaGreatDoorEvG
import Derived.Test.YtehkhkdpcgkckaaGreatDoorProg
import Derived.KernelRfl
namespace Go.Proofs.YtehkhkdpcgkckaaGreatDoor
open Go Go.Eng

noncomputable def nilSums : Nat → Option (List Value → Heap → Option (Value × Heap))
  | 61 => some sumCmp
  | 217 => some sumMask4
  | 312 => some sumAddrCmp
  | 349 => some sumSame
  | 350 => some (sumMake 5)
  | _ => none
noncomputable def nilCtx : Ctx := { P := Tryz.prog, sums := nilSums }
theorem awake_runS : isTrue (evFast Tryz.prog true nilSums 1000 (.call 15 [] Heap.empty)) = true := by kernel_rfl
end Go.Proofs.YtehkhkdpcgkckaaGreatDoor
