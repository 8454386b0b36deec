/-
  DERIVED. GIVEN WITH THE SEED: THE CARDS: each row of YtkmdakampkfioaaGreatDoorRows.lean that lists a variable, with what it lists TIED to the program's text (the seventh form; the later family's looks); each row that meets fmt, with fmt's text TOLD by the authors' own Lean function (tested against real Go, not proved from fmt's source: count such statements apart). THE CARD IS WHAT COUNTS. Prove the row's statement (the work); the ties are given (YtkmdakampkfioaaGreatDoorTie.lean); close each card by the builder's one call (the guide's Derived/Test/ToyasCard.lean, 'card_holds'). Laid BY PROGRAM, IN A SANDBOX (cutbox-door.mjs). By AI agents, Wed Nov 11 2026. No macro, syntax, notation, axiom, sorry.
-/
import Derived.Test.YtkmdakampkfioaaGreatDoorRows
import GoSem.ClaimSeven
namespace Go.Proofs.YtkmdakampkfioaaGreatDoor
namespace Rows

/-- THE TIED CARD OF 'fleurontop.TopAutomata'. -/
def topAutomataCard : Claim7 := { stood := { row := topAutomataRow, standIns := [], harness := (true, "abf287590f591d72ce22034321d7d733e471144e3ff20b355c8a63aa0df60687"), looks := true }, kinds := [], alts := [], laidByText := true, laidKinds := [.data], laidTests := true, laidLooks := .later }
def TopAutomataCardSaid : Prop := Claim7.holds Tryz.pinned (.plain (OpenSpec.ofChange topAutomataSpec)) topAutomataCard

/-- THE SECOND FORM's CARD OF 'fleurontop.TopAutomata'. -/
def topAutomataUptoCard : Claim7 := { stood := { row := topAutomataUptoRow, standIns := [], harness := (true, "abf287590f591d72ce22034321d7d733e471144e3ff20b355c8a63aa0df60687"), looks := true }, kinds := [], alts := [], laidByText := true, laidKinds := [.data], laidTests := true, laidLooks := .later }
def TopAutomataUptoCardSaid : Prop := Claim7.holds Tryz.pinned (.plain (OpenSpec.upto topAutomataSpec)) topAutomataUptoCard
end Rows
end Go.Proofs.YtkmdakampkfioaaGreatDoor
