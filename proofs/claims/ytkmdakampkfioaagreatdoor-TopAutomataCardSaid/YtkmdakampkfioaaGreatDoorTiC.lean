/- The listed variable's tie to the program's text. -/
import Derived.Test.YtkmdakampkfioaaGreatDoorTiB
namespace Go.Proofs.YtkmdakampkfioaaGreatDoor
open Go
theorem tie8 : ∀ os tape, (DataW.laidRun Tryz.prog (varsWorld Tryz.prog 400 (varsId Tryz.prog) os tape).memory 8 (laidT.map (·.1))).map (·.1) = some laidT := fun _ _ => by kernel_rfl
theorem tie9 : ∀ os tape, (DataW.laidRun Tryz.prog (varsWorld Tryz.prog 400 (varsId Tryz.prog) os tape).memory 8 (laidT.map (·.1))).map (fun x => decide x.2.Nodup && laidRowsB Tryz.prog (varsWorld Tryz.prog 400 (varsId Tryz.prog) os tape).memory x.2) = some true := fun _ _ => by kernel_rfl
theorem tieT : Tryz.prog.laidByTextLater laidT [.data] true := Program.laidByTextLater_by_run 400 8 tie1 tie2 tie3 tie4 tie5 tie6 tie7 tie8 tie9
theorem rowT : Rows.topAutomataRow.laidByTextAt .later Tryz.pinned [.data] true := OpenClaim.laidByTextAt_later rfl rfl tieT tie0
end Go.Proofs.YtkmdakampkfioaaGreatDoor
