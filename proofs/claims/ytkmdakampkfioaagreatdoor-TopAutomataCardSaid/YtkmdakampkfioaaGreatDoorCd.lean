/- The listed variable: what the rows' condition gives; a world that meets it. -/
import Derived.Test.YtkmdakampkfioaaGreatDoorRows
import Derived.Test.YtkmdakampkfioaaGreatDoorV3
import Derived.ProofKit
import Derived.LaidMore
import Derived.OpenShut
import Derived.LaidLaws
import Derived.MakeChecks
import Derived.LaidHandle
namespace Go.Proofs.YtkmdakampkfioaaGreatDoor
open Go.ChangeShapes Go.WideShapes Go.ChangeAt Go.RowKit
abbrev laidL : List (String × DataW Unit) := [("math/bits.deBruijn64tab", Rows.laid_math_bits_deBruijn64tab)]
theorem gTab : Tryz.prog.globalNamed "math/bits.deBruijn64tab" = some 0 := by kernel_rfl
theorem tTab : (Tryz.prog.globals[0]?).map (·.type) = some 154 := by kernel_rfl
theorem tabD : (Rows.laid_math_bits_deBruijn64tab : DataW Unit) = .agg (Lib.deBruijn64tab.map fun (n : Nat) => .lit (.int .u8 (n : Int))) := by kernel_rfl
theorem tab_of_laid {W : World} (h : laidMetH Tryz.prog laidL W) : Tab W := by
 rw [MakeChecks.laidMetH_plain _ _ _ (by kernel_rfl)] at h;obtain ⟨ps, ⟨g0, t0, cs0, f0, p0, q0, hg0, ht0, hv0, hd0, _, _⟩, _, _⟩ := h;obtain rfl := Option.some.inj (gTab.symm.trans hg0);obtain rfl := Option.some.inj (tTab.symm.trans ht0);rw [tabD] at hd0;obtain ⟨xs, m1, rfl, hx1, hlen, hn3, hel⟩ := DataW.trod_array Tryz.underlying154 hd0;have c5 : Tryz.prog.cellsOf 5 = 1 := by kernel_rfl
 simp only [Prod.mk.injEq, DataW.agg.injEq] at hx1;have h64 : Lib.deBruijn64tab.length = 64 := by decide
 show TabAt 0 Lib.deBruijn64tab W
 generalize Lib.deBruijn64tab = T at *;intro j hj;have h0 := hel j (by omega);have hxj := congrArg (fun l => l[j]?) hx1.1;simp only [List.getElem?_map] at hxj;have hcell := World.var?_cell hg0 hv0 j;cases hxs : xs[j]? with
 | none => rw [List.getElem?_eq_none_iff] at hxs; omega
 | some x =>
  rw [hxs] at hxj h0;rw [c5, Nat.mul_one] at h0;have hjt : j < T.length := hj;rw [List.getElem?_eq_getElem hjt] at hxj;simp only [Option.map_some, Option.some.injEq] at hxj;obtain ⟨k, e1, e2, _⟩ := DataW.trod_int Tryz.underlying5 h0;rw [e2] at hxj;dsimp only at hxj;simp only [DataW.lit.injEq, Lit.int.injEq, true_and] at hxj;subst hxj;have e3 : cs0.toList[j]? = some (.int .u8 ((T[j] : Nat) : Int)) := by
   have := congrArg (fun l => l[0]?) e1;simp only [List.getElem?_take, List.getElem?_drop] at this;simpa using this
  rw [hcell, ← Array.getElem?_toList, e3, List.getD_eq_getElem?_getD, List.getElem?_eq_getElem hjt];rfl
theorem door_met (os : Os) (args : Array Value) : laidMetH Tryz.prog laidL ((World.doorLaid Tryz.prog 400 os).forCall (fun _ _ => 0) ⟨#[], args, []⟩).memory :=
 laidMetH_of_parts (laidMet_of_run' 8 (by kernel_rfl) (by kernel_rfl)) (by kernel_rfl)
end Go.Proofs.YtkmdakampkfioaaGreatDoor
