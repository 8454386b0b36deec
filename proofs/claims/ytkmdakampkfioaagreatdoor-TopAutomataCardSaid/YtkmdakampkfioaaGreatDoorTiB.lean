/- The listed variable's tie to the program's text: the run that lays it. -/
import Derived.Test.YtkmdakampkfioaaGreatDoorTiA
namespace Go.Proofs.YtkmdakampkfioaaGreatDoor
open Go
theorem tie6 : varsNamedLaterB Tryz.prog (varsId Tryz.prog) laidT = true := by kernel_rfl
theorem tie7 : ∀ os tape, varsDone Tryz.prog 400 (varsId Tryz.prog) os tape = true := fun _ _ => by kernel_rfl
end Go.Proofs.YtkmdakampkfioaaGreatDoor
