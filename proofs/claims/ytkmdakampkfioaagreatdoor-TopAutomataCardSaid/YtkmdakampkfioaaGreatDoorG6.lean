/- Closed facts of the program: no goroutine is begun. -/
import Derived.Test.YtkmdakampkfioaaGreatDoorG5
import Derived.SevenTiedAt
namespace Go.Proofs.YtkmdakampkfioaaGreatDoor
open Go.ChangeShapes Go.WideShapes Go.ChangeAt Go.RowKit
set_option maxRecDepth 100000
theorem go1 : (L0.any fun g => (Tryz.prog.funcs[g]?).any Func.goes) = false := by kernel_rfl
theorem go2 : Tryz.prog.funcs.any Func.goes = false := by kernel_rfl
theorem go3 : Tryz.prog.goes 3 = false := by
  unfold Program.goes;rw [clo, go1, go2, Bool.and_false];rfl
theorem pp : Tryz.pinned.checked.prog = Tryz.prog := rfl
theorem go4 : false = Rows.topAutomataRow.goesBy Tryz.pinned.checked.prog := by
  show false = (Program.goesFrom Tryz.pinned.checked.prog Rows.topAutomataRow.func || false)
  unfold Program.goesFrom;rw [ov1, Bool.or_false, Option.any_some, pp, go3]
end Go.Proofs.YtkmdakampkfioaaGreatDoor
