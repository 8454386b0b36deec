/- Closed facts of the program: how its types are laid out. -/
import Derived.Test.YtkmdakampkfioaaGreatDoorRows
import Derived.ProofKit
import Derived.OpenShut
import Derived.LaidLaws
import Derived.LaidMore
import Derived.JoinedOf
namespace Go.Proofs.YtkmdakampkfioaaGreatDoor
open Go.ChangeShapes Go.WideShapes Go.ChangeAt Go.RowKit
set_option maxRecDepth 100000
theorem lo0 : (List.range' 0 185).all (rowFine Tryz.prog) = true := by kernel_rfl
theorem lo1 : (List.range' 185 185).all (rowFine Tryz.prog) = true := by kernel_rfl
theorem lo2 : (List.range' 370 185).all (rowFine Tryz.prog) = true := by kernel_rfl
theorem lo3 : (List.range' 555 184).all (rowFine Tryz.prog) = true := by kernel_rfl
theorem loG : Tryz.prog.globals.all (fun g => decide (g.type < Tryz.prog.types.size)) = true := by kernel_rfl
theorem loF : (Tryz.prog.funcs.all fun f => f.params.all fun t => decide (t < Tryz.prog.types.size)) = true := by kernel_rfl
theorem loN : Tryz.prog.types.size = 739 := by kernel_rfl
theorem chunk {p : Nat → Bool} {a m : Nat} (h : (List.range' a m).all p = true) (i : Nat) (h1 : a ≤ i) (h2 : i < a + m) : p i = true := List.all_eq_true.1 h i (List.mem_range'_1.2 ⟨h1, h2⟩)
theorem laidOut : laidOutB Tryz.prog = true := by
  unfold laidOutB;rw [loG, loF, Bool.and_true, Bool.and_true, List.all_eq_true];intro i hi;have hi := List.mem_range.1 hi;rw [loN] at hi;by_cases k0 : i < 185
  · exact chunk lo0 i (by omega) (by omega)
  by_cases k1 : i < 370
  · exact chunk lo1 i (by omega) (by omega)
  by_cases k2 : i < 555
  · exact chunk lo2 i (by omega) (by omega)
  exact chunk lo3 i (by omega) (by omega)
end Go.Proofs.YtkmdakampkfioaaGreatDoor
