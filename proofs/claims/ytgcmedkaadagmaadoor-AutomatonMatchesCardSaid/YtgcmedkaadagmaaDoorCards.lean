/-
  DERIVED. GIVEN WITH THE SEED: THE CARDS: each row of YtgcmedkaadagmaaDoorRows.lean that lists a variable, with what it lists TIED to the program's text (the seventh form; the later family's looks); each row that meets fmt, with fmt's text TOLD by the authors' own Lean function (tested against real Go, not proved from fmt's source: count such statements apart). THE CARD IS WHAT COUNTS. Prove the row's statement (the work); the ties are given (YtgcmedkaadagmaaDoorTie.lean); close each card by the builder's one call (the guide's Derived/Test/ToyasCard.lean, 'card_holds'). Laid BY PROGRAM, IN A SANDBOX (cutbox-door.mjs). By AI agents, Wed Nov 11 2026. No macro, syntax, notation, axiom, sorry.
-/
import Derived.Test.YtgcmedkaadagmaaDoorRows
import GoSem.ClaimSeven
namespace Go.Proofs.YtgcmedkaadagmaaDoor
namespace Rows

/-- THE TIED CARD OF 'fleuronlaw12.AutomatonProved'. -/
def automatonProvedCard : Claim7 := { stood := { row := automatonProvedRow, standIns := [], harness := (true, "1e7a89b9ac0393962e9eebb3d9c3c7adc422051e52e0298358605b9086f387e7"), looks := false }, kinds := [], alts := [], laidByText := true, laidKinds := [.data], laidTests := true, laidLooks := .later }
def AutomatonProvedCardSaid : Prop := Claim7.holds Tryd.pinned (.plain (OpenSpec.ofChange automatonProvedSpec)) automatonProvedCard

/-- THE TIED CARD OF 'fleuronlaw12.AutomatonHolds'. -/
def automatonHoldsCard : Claim7 := { stood := { row := automatonHoldsRow, standIns := [], harness := (true, "1e7a89b9ac0393962e9eebb3d9c3c7adc422051e52e0298358605b9086f387e7"), looks := false }, kinds := [], alts := [], laidByText := true, laidKinds := [.data], laidTests := true, laidLooks := .later }
def AutomatonHoldsCardSaid : Prop := Claim7.holds Tryd.pinned (.plain (OpenSpec.ofChange automatonHoldsSpec)) automatonHoldsCard

/-- THE TIED CARD OF 'fleuronlaw12.AutomatonClasses'. -/
def automatonClassesCard : Claim7 := { stood := { row := automatonClassesRow, standIns := [], harness := (true, "1e7a89b9ac0393962e9eebb3d9c3c7adc422051e52e0298358605b9086f387e7"), looks := false }, kinds := [], alts := [], laidByText := true, laidKinds := [.data], laidTests := true, laidLooks := .later }
def AutomatonClassesCardSaid : Prop := Claim7.holds Tryd.pinned (.plain (OpenSpec.ofChange automatonClassesSpec)) automatonClassesCard

/-- THE TIED CARD OF 'fleuronlaw12.AutomatonMore'. -/
def automatonMoreCard : Claim7 := { stood := { row := automatonMoreRow, standIns := [], harness := (true, "1e7a89b9ac0393962e9eebb3d9c3c7adc422051e52e0298358605b9086f387e7"), looks := false }, kinds := [], alts := [], laidByText := true, laidKinds := [.data], laidTests := true, laidLooks := .later }
def AutomatonMoreCardSaid : Prop := Claim7.holds Tryd.pinned (.plain (OpenSpec.ofChange automatonMoreSpec)) automatonMoreCard

/-- THE TIED CARD OF 'fleuronlaw12.AutomatonMany'. -/
def automatonManyCard : Claim7 := { stood := { row := automatonManyRow, standIns := [], harness := (true, "1e7a89b9ac0393962e9eebb3d9c3c7adc422051e52e0298358605b9086f387e7"), looks := false }, kinds := [], alts := [], laidByText := true, laidKinds := [.data], laidTests := true, laidLooks := .later }
def AutomatonManyCardSaid : Prop := Claim7.holds Tryd.pinned (.plain (OpenSpec.ofChange automatonManySpec)) automatonManyCard

/-- THE TIED CARD OF 'fleuronlaw12.AutomatonBuilds'. -/
def automatonBuildsCard : Claim7 := { stood := { row := automatonBuildsRow, standIns := [], harness := (true, "1e7a89b9ac0393962e9eebb3d9c3c7adc422051e52e0298358605b9086f387e7"), looks := false }, kinds := [], alts := [], laidByText := true, laidKinds := [.data], laidTests := true, laidLooks := .later }
def AutomatonBuildsCardSaid : Prop := Claim7.holds Tryd.pinned (.plain (OpenSpec.ofChange automatonBuildsSpec)) automatonBuildsCard

/-- THE TIED CARD OF 'fleuronlaw12.AutomatonReads'. -/
def automatonReadsCard : Claim7 := { stood := { row := automatonReadsRow, standIns := [], harness := (true, "1e7a89b9ac0393962e9eebb3d9c3c7adc422051e52e0298358605b9086f387e7"), looks := false }, kinds := [], alts := [], laidByText := true, laidKinds := [.data], laidTests := true, laidLooks := .later }
def AutomatonReadsCardSaid : Prop := Claim7.holds Tryd.pinned (.plain (OpenSpec.ofChange automatonReadsSpec)) automatonReadsCard

/-- THE TIED CARD OF 'fleuronlaw12.AutomatonDoes'. -/
def automatonDoesCard : Claim7 := { stood := { row := automatonDoesRow, standIns := [], harness := (true, "1e7a89b9ac0393962e9eebb3d9c3c7adc422051e52e0298358605b9086f387e7"), looks := false }, kinds := [], alts := [], laidByText := true, laidKinds := [.data], laidTests := true, laidLooks := .later }
def AutomatonDoesCardSaid : Prop := Claim7.holds Tryd.pinned (.plain (OpenSpec.ofChange automatonDoesSpec)) automatonDoesCard

/-- THE TIED CARD OF 'fleuronlaw12.AutomatonSays'. -/
def automatonSaysCard : Claim7 := { stood := { row := automatonSaysRow, standIns := [], harness := (true, "1e7a89b9ac0393962e9eebb3d9c3c7adc422051e52e0298358605b9086f387e7"), looks := false }, kinds := [], alts := [], laidByText := true, laidKinds := [.data], laidTests := true, laidLooks := .later }
def AutomatonSaysCardSaid : Prop := Claim7.holds Tryd.pinned (.plain (OpenSpec.ofChange automatonSaysSpec)) automatonSaysCard

/-- THE TIED CARD OF 'fleuronlaw12.AutomatonMatches'. -/
def automatonMatchesCard : Claim7 := { stood := { row := automatonMatchesRow, standIns := [], harness := (true, "1e7a89b9ac0393962e9eebb3d9c3c7adc422051e52e0298358605b9086f387e7"), looks := false }, kinds := [], alts := [], laidByText := true, laidKinds := [.data], laidTests := true, laidLooks := .later }
def AutomatonMatchesCardSaid : Prop := Claim7.holds Tryd.pinned (.plain (OpenSpec.ofChange automatonMatchesSpec)) automatonMatchesCard

/-- THE SECOND FORM's CARD OF 'fleuronlaw12.AutomatonProved'. -/
def automatonProvedUptoCard : Claim7 := { stood := { row := automatonProvedUptoRow, standIns := [], harness := (true, "1e7a89b9ac0393962e9eebb3d9c3c7adc422051e52e0298358605b9086f387e7"), looks := false }, kinds := [], alts := [], laidByText := true, laidKinds := [.data], laidTests := true, laidLooks := .later }
def AutomatonProvedUptoCardSaid : Prop := Claim7.holds Tryd.pinned (.plain (OpenSpec.upto automatonProvedSpec)) automatonProvedUptoCard

/-- THE SECOND FORM's CARD OF 'fleuronlaw12.AutomatonHolds'. -/
def automatonHoldsUptoCard : Claim7 := { stood := { row := automatonHoldsUptoRow, standIns := [], harness := (true, "1e7a89b9ac0393962e9eebb3d9c3c7adc422051e52e0298358605b9086f387e7"), looks := false }, kinds := [], alts := [], laidByText := true, laidKinds := [.data], laidTests := true, laidLooks := .later }
def AutomatonHoldsUptoCardSaid : Prop := Claim7.holds Tryd.pinned (.plain (OpenSpec.upto automatonHoldsSpec)) automatonHoldsUptoCard

/-- THE SECOND FORM's CARD OF 'fleuronlaw12.AutomatonClasses'. -/
def automatonClassesUptoCard : Claim7 := { stood := { row := automatonClassesUptoRow, standIns := [], harness := (true, "1e7a89b9ac0393962e9eebb3d9c3c7adc422051e52e0298358605b9086f387e7"), looks := false }, kinds := [], alts := [], laidByText := true, laidKinds := [.data], laidTests := true, laidLooks := .later }
def AutomatonClassesUptoCardSaid : Prop := Claim7.holds Tryd.pinned (.plain (OpenSpec.upto automatonClassesSpec)) automatonClassesUptoCard

/-- THE SECOND FORM's CARD OF 'fleuronlaw12.AutomatonMore'. -/
def automatonMoreUptoCard : Claim7 := { stood := { row := automatonMoreUptoRow, standIns := [], harness := (true, "1e7a89b9ac0393962e9eebb3d9c3c7adc422051e52e0298358605b9086f387e7"), looks := false }, kinds := [], alts := [], laidByText := true, laidKinds := [.data], laidTests := true, laidLooks := .later }
def AutomatonMoreUptoCardSaid : Prop := Claim7.holds Tryd.pinned (.plain (OpenSpec.upto automatonMoreSpec)) automatonMoreUptoCard

/-- THE SECOND FORM's CARD OF 'fleuronlaw12.AutomatonMany'. -/
def automatonManyUptoCard : Claim7 := { stood := { row := automatonManyUptoRow, standIns := [], harness := (true, "1e7a89b9ac0393962e9eebb3d9c3c7adc422051e52e0298358605b9086f387e7"), looks := false }, kinds := [], alts := [], laidByText := true, laidKinds := [.data], laidTests := true, laidLooks := .later }
def AutomatonManyUptoCardSaid : Prop := Claim7.holds Tryd.pinned (.plain (OpenSpec.upto automatonManySpec)) automatonManyUptoCard

/-- THE SECOND FORM's CARD OF 'fleuronlaw12.AutomatonBuilds'. -/
def automatonBuildsUptoCard : Claim7 := { stood := { row := automatonBuildsUptoRow, standIns := [], harness := (true, "1e7a89b9ac0393962e9eebb3d9c3c7adc422051e52e0298358605b9086f387e7"), looks := false }, kinds := [], alts := [], laidByText := true, laidKinds := [.data], laidTests := true, laidLooks := .later }
def AutomatonBuildsUptoCardSaid : Prop := Claim7.holds Tryd.pinned (.plain (OpenSpec.upto automatonBuildsSpec)) automatonBuildsUptoCard

/-- THE SECOND FORM's CARD OF 'fleuronlaw12.AutomatonReads'. -/
def automatonReadsUptoCard : Claim7 := { stood := { row := automatonReadsUptoRow, standIns := [], harness := (true, "1e7a89b9ac0393962e9eebb3d9c3c7adc422051e52e0298358605b9086f387e7"), looks := false }, kinds := [], alts := [], laidByText := true, laidKinds := [.data], laidTests := true, laidLooks := .later }
def AutomatonReadsUptoCardSaid : Prop := Claim7.holds Tryd.pinned (.plain (OpenSpec.upto automatonReadsSpec)) automatonReadsUptoCard

/-- THE SECOND FORM's CARD OF 'fleuronlaw12.AutomatonDoes'. -/
def automatonDoesUptoCard : Claim7 := { stood := { row := automatonDoesUptoRow, standIns := [], harness := (true, "1e7a89b9ac0393962e9eebb3d9c3c7adc422051e52e0298358605b9086f387e7"), looks := false }, kinds := [], alts := [], laidByText := true, laidKinds := [.data], laidTests := true, laidLooks := .later }
def AutomatonDoesUptoCardSaid : Prop := Claim7.holds Tryd.pinned (.plain (OpenSpec.upto automatonDoesSpec)) automatonDoesUptoCard

/-- THE SECOND FORM's CARD OF 'fleuronlaw12.AutomatonSays'. -/
def automatonSaysUptoCard : Claim7 := { stood := { row := automatonSaysUptoRow, standIns := [], harness := (true, "1e7a89b9ac0393962e9eebb3d9c3c7adc422051e52e0298358605b9086f387e7"), looks := false }, kinds := [], alts := [], laidByText := true, laidKinds := [.data], laidTests := true, laidLooks := .later }
def AutomatonSaysUptoCardSaid : Prop := Claim7.holds Tryd.pinned (.plain (OpenSpec.upto automatonSaysSpec)) automatonSaysUptoCard

/-- THE SECOND FORM's CARD OF 'fleuronlaw12.AutomatonMatches'. -/
def automatonMatchesUptoCard : Claim7 := { stood := { row := automatonMatchesUptoRow, standIns := [], harness := (true, "1e7a89b9ac0393962e9eebb3d9c3c7adc422051e52e0298358605b9086f387e7"), looks := false }, kinds := [], alts := [], laidByText := true, laidKinds := [.data], laidTests := true, laidLooks := .later }
def AutomatonMatchesUptoCardSaid : Prop := Claim7.holds Tryd.pinned (.plain (OpenSpec.upto automatonMatchesSpec)) automatonMatchesUptoCard
end Rows
end Go.Proofs.YtgcmedkaadagmaaDoor
