/- Closed facts of the program: the row's cells, together; a world that meets the row's condition. -/
import Derived.Test.YtkmdakampkfioaaGreatDoorG4
namespace Go.Proofs.YtkmdakampkfioaaGreatDoor
open Go.ChangeShapes Go.WideShapes Go.ChangeAt Go.RowKit
set_option maxRecDepth 100000
theorem band {a b : Bool} (h : a = true) (k : b = true) : (a && b) = true := by rw [h, k]; rfl
theorem ov2 : joinedFacts Tryz.pinned.checked.prog 3 Tryz.f3 Rows.topAutomataSpec Rows.topAutomataRow = true := (band (band (band (band (band (band (band (band (band (band (band (band (band (band (band (band (band (band (band (band (band (band (band (band (band (band (band (band (band (band (band j0 laidOut) j2) j3) j4) j5) j6) j7) j8) (beq_iff_eq.2 ip.symm)) (beq_iff_eq.2 uf.symm)) (beq_iff_eq.2 rc.symm)) (beq_iff_eq.2 vn.symm)) j13) j14) j15) j16) j17) j18) j19) j20) j21) j22) j23) j24) j25) j26) j27) j28) j29) j30) j31)
theorem ov1 : Tryz.pinned.checked.prog.funcNamed Rows.topAutomataRow.func = some 3 := by kernel_rfl
abbrev witT : Array Value := #[.slice none 0 0, .agg #[.int .i64 0, .int .i64 0, .int .i64 0, .int .i64 0], .agg #[.slice none 0 0, .slice none 0 0]]
noncomputable abbrev wldT (os : Os) : World := (World.doorLaid Tryz.prog 400 os).forCall (fun _ _ => 0) ⟨#[], witT, []⟩
theorem fa1 : Tryz.checked.prog.inits.idxOf? 3 = none := by kernel_rfl
theorem fa2 (os : Os) : World.variablesRefB Tryz.checked.prog (wldT os) = true := by kernel_rfl
theorem fa3 (os : Os) : ((wldT os).heap.toList.drop Tryz.checked.prog.globals.size).take ((begin Tryz.checked.prog (fun _ _ => 0) default).world.heap.size - Tryz.checked.prog.globals.size) = (begin Tryz.checked.prog (fun _ _ => 0) default).world.heap.toList.drop Tryz.checked.prog.globals.size := by kernel_rfl
theorem fa4 (os : Os) : Input.okWideB Tryz.checked.prog (wldT os) 3 ⟨#[], witT, []⟩ = true := by kernel_rfl
theorem fa5 (os : Os) {H : Type} (enc : TypeId × Value → H) : ChangeSpec.preB enc Tryz.checked.prog Tryz.f3 Rows.topAutomataSpec [] false (wldT os).memory witT 8 = true := by kernel_rfl
theorem fa6 (os : Os) {H : Type} (enc : TypeId × Value → H) : ChangeSpec.sizedB enc Tryz.checked.prog Tryz.f3 Rows.topAutomataSpec false (wldT os).memory witT 8 = true := by kernel_rfl
end Go.Proofs.YtkmdakampkfioaaGreatDoor
