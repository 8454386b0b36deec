/- awake draws a square. -/
import Derived.Test.YtkmdakampkfioaaGreatDoorA2
namespace Go.Proofs.YtkmdakampkfioaaGreatDoor.Ev
open Go Go.RowKit Go.Proofs
set_option maxRecDepth 100000
theorem awake_b : saysTrue Tryz.prog O2 100000 4 0 = true := by kernel_rfl
theorem awake_c (W : World) : Calls Tryz.prog 4 #[] W fun en W' => en = .returned (.bool true) ∧ Below W.heap.size W W' := saysTrue_ok named0 mixed0 awake_b W
end Go.Proofs.YtkmdakampkfioaaGreatDoor.Ev
