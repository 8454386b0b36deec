/- Closed facts of the program: what these functions are. -/
import Derived.Test.YtkmdakampkfioaaGreatDoorG1
namespace Go.Proofs.YtkmdakampkfioaaGreatDoor
open Go.ChangeShapes Go.WideShapes Go.ChangeAt Go.RowKit
set_option maxRecDepth 100000
theorem ip : Tryz.prog.inPlace 3 = ["math/bits.Add64", "math/bits.Sub64", "slices.overlaps[fleuron/api.Item]", "internal/bytealg.MakeNoZero", "internal/bytealg.IndexByteString"] := by
  unfold Program.inPlace;rw [clo];kernel_rfl
theorem uf : Tryz.prog.unfollowed 3 = true := by
  unfold Program.unfollowed;rw [clo];kernel_rfl
theorem rc : Tryz.prog.recurses 3 = true := by
  unfold Program.recurses;rw [uf];rfl
theorem vn : Tryz.prog.varsNamed 3 = ["math/bits.divideError", "math/bits.overflowError", "math/bits.deBruijn64tab"] := by
  unfold Program.varsNamed;rw [clo];kernel_rfl
end Go.Proofs.YtkmdakampkfioaaGreatDoor
