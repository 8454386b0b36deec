/-
  No cell of these rows narrows 'for every input' (looked for: loops, veiled, ifaces, maps, wideKeys, modest, calm, conditions, laid).
  DERIVED. THE GIVEN ROWS OF THIS SEAT. 11 by the template 'for every input the law returns true; each argument reads behind the call as it read before'; 0 by the template 'total and deterministic' (their statements: YtkoocipagndclaaTotals.lean).
  GIVEN WITH THE SEED: the statements are not yours to turn. If you find one false, say at which input.
  Laid BY PROGRAM, IN A SANDBOX (cutbox-rows.mjs): the forced cells as the released guide's own fill.sh prints them over the translation 0017b2aa4ad1d454… (all of the seat's roots in one cut). By AI agents, Wed Nov 11 2026. No macro, syntax, notation, axiom, sorry.
-/
import Derived.Test.YtkoocipagndclaaChecked
import GoSem.Claim
import GoSem.ClaimJoined
import GoSem.ClaimMapViews
import Derived.JoinedTies
import Derived.KernelRfl
namespace Go.Proofs.Ytkoocipagndclaa
/- THE CELL 'sum', in the pinned program and in every row, IS THE sha256 OF THE DUMP (.gsa) THAT YtkoocipagndclaaProg.lean LOADS. Nothing in Lean hashes anything: it is a label: what it is worth is what the hold of that sum in a sandbox is worth. -/
noncomputable def Try.pinned : Pinned := { name := "ytkoocipagndclaa", sum := "0017b2aa4ad1d454455999beb2a49a0babff152ff7d49ffd90434b76b1df246d", checked := Try.checked }
namespace Rows
def none {H : Type} : Left H := { results := [], args := [] }

/-- 'fleuronlaw11.RulesMatch': WHATEVER THE INPUT: true; the input reads as it did. -/
def rulesMatchSpec : ChangeSpec := { name := "rulesMatch", fn := fun _ => fun
  | [d] => { results := [.lit (.bool true)], args := [d] }
  | _ => none }
def rulesMatchRow : OpenClaim := { program := "ytkoocipagndclaa", sum := "0017b2aa4ad1d454455999beb2a49a0babff152ff7d49ffd90434b76b1df246d", func := "fleuron/fleuronlaw11.RulesMatch", spec := "rulesMatch", inPlace := ["slices.overlaps[fleuron/api.Item]"], unfollowed := true, recurses := true, apart := false }
def RulesMatchSaid : Prop := rulesMatchRow.holds Try.pinned (OpenSpec.ofChange rulesMatchSpec)

/-- ITS FALSE NEIGHBOUR: 'it returns false'. Refute it at one input. -/
def rulesMatchWrong : ChangeSpec := { name := "rulesMatch", fn := fun _ => fun
  | [d] => { results := [.lit (.bool false)], args := [d] }
  | _ => none }
def RulesMatchWrongFalsely : Prop := rulesMatchRow.holds Try.pinned (OpenSpec.ofChange rulesMatchWrong)

/-- 'fleuronlaw11.RulesApply': WHATEVER THE INPUT: true; the input reads as it did. -/
def rulesApplySpec : ChangeSpec := { name := "rulesApply", fn := fun _ => fun
  | [d] => { results := [.lit (.bool true)], args := [d] }
  | _ => none }
def rulesApplyRow : OpenClaim := { program := "ytkoocipagndclaa", sum := "0017b2aa4ad1d454455999beb2a49a0babff152ff7d49ffd90434b76b1df246d", func := "fleuron/fleuronlaw11.RulesApply", spec := "rulesApply", inPlace := ["slices.overlaps[fleuron/api.Item]"], unfollowed := true, recurses := true, apart := false }
def RulesApplySaid : Prop := rulesApplyRow.holds Try.pinned (OpenSpec.ofChange rulesApplySpec)

/-- ITS FALSE NEIGHBOUR: 'it returns false'. Refute it at one input. -/
def rulesApplyWrong : ChangeSpec := { name := "rulesApply", fn := fun _ => fun
  | [d] => { results := [.lit (.bool false)], args := [d] }
  | _ => none }
def RulesApplyWrongFalsely : Prop := rulesApplyRow.holds Try.pinned (OpenSpec.ofChange rulesApplyWrong)

/-- 'fleuronlaw11.RulesPlaces': WHATEVER THE INPUT: true; the input reads as it did. -/
def rulesPlacesSpec : ChangeSpec := { name := "rulesPlaces", fn := fun _ => fun
  | [d] => { results := [.lit (.bool true)], args := [d] }
  | _ => none }
def rulesPlacesRow : OpenClaim := { program := "ytkoocipagndclaa", sum := "0017b2aa4ad1d454455999beb2a49a0babff152ff7d49ffd90434b76b1df246d", func := "fleuron/fleuronlaw11.RulesPlaces", spec := "rulesPlaces", inPlace := ["slices.overlaps[fleuron/api.Item]"], unfollowed := true, recurses := true, apart := false }
def RulesPlacesSaid : Prop := rulesPlacesRow.holds Try.pinned (OpenSpec.ofChange rulesPlacesSpec)

/-- ITS FALSE NEIGHBOUR: 'it returns false'. Refute it at one input. -/
def rulesPlacesWrong : ChangeSpec := { name := "rulesPlaces", fn := fun _ => fun
  | [d] => { results := [.lit (.bool false)], args := [d] }
  | _ => none }
def RulesPlacesWrongFalsely : Prop := rulesPlacesRow.holds Try.pinned (OpenSpec.ofChange rulesPlacesWrong)

/-- 'fleuronlaw11.RulesFirst': WHATEVER THE INPUT: true; the input reads as it did. -/
def rulesFirstSpec : ChangeSpec := { name := "rulesFirst", fn := fun _ => fun
  | [d] => { results := [.lit (.bool true)], args := [d] }
  | _ => none }
def rulesFirstRow : OpenClaim := { program := "ytkoocipagndclaa", sum := "0017b2aa4ad1d454455999beb2a49a0babff152ff7d49ffd90434b76b1df246d", func := "fleuron/fleuronlaw11.RulesFirst", spec := "rulesFirst", inPlace := ["slices.overlaps[fleuron/api.Item]"], unfollowed := true, recurses := true, apart := false }
def RulesFirstSaid : Prop := rulesFirstRow.holds Try.pinned (OpenSpec.ofChange rulesFirstSpec)

/-- ITS FALSE NEIGHBOUR: 'it returns false'. Refute it at one input. -/
def rulesFirstWrong : ChangeSpec := { name := "rulesFirst", fn := fun _ => fun
  | [d] => { results := [.lit (.bool false)], args := [d] }
  | _ => none }
def RulesFirstWrongFalsely : Prop := rulesFirstRow.holds Try.pinned (OpenSpec.ofChange rulesFirstWrong)

/-- 'fleuronlaw11.RulesShort': WHATEVER THE INPUT: true; the input reads as it did. -/
def rulesShortSpec : ChangeSpec := { name := "rulesShort", fn := fun _ => fun
  | [d] => { results := [.lit (.bool true)], args := [d] }
  | _ => none }
def rulesShortRow : OpenClaim := { program := "ytkoocipagndclaa", sum := "0017b2aa4ad1d454455999beb2a49a0babff152ff7d49ffd90434b76b1df246d", func := "fleuron/fleuronlaw11.RulesShort", spec := "rulesShort", inPlace := ["slices.overlaps[fleuron/api.Item]"], unfollowed := true, recurses := true, apart := false }
def RulesShortSaid : Prop := rulesShortRow.holds Try.pinned (OpenSpec.ofChange rulesShortSpec)

/-- ITS FALSE NEIGHBOUR: 'it returns false'. Refute it at one input. -/
def rulesShortWrong : ChangeSpec := { name := "rulesShort", fn := fun _ => fun
  | [d] => { results := [.lit (.bool false)], args := [d] }
  | _ => none }
def RulesShortWrongFalsely : Prop := rulesShortRow.holds Try.pinned (OpenSpec.ofChange rulesShortWrong)

/-- 'fleuronlaw11.RulesClusters': WHATEVER THE INPUT: true; the input reads as it did. -/
def rulesClustersSpec : ChangeSpec := { name := "rulesClusters", fn := fun _ => fun
  | [d] => { results := [.lit (.bool true)], args := [d] }
  | _ => none }
def rulesClustersRow : OpenClaim := { program := "ytkoocipagndclaa", sum := "0017b2aa4ad1d454455999beb2a49a0babff152ff7d49ffd90434b76b1df246d", func := "fleuron/fleuronlaw11.RulesClusters", spec := "rulesClusters", inPlace := ["slices.overlaps[fleuron/api.Item]"], unfollowed := true, recurses := true, apart := false }
def RulesClustersSaid : Prop := rulesClustersRow.holds Try.pinned (OpenSpec.ofChange rulesClustersSpec)

/-- ITS FALSE NEIGHBOUR: 'it returns false'. Refute it at one input. -/
def rulesClustersWrong : ChangeSpec := { name := "rulesClusters", fn := fun _ => fun
  | [d] => { results := [.lit (.bool false)], args := [d] }
  | _ => none }
def RulesClustersWrongFalsely : Prop := rulesClustersRow.holds Try.pinned (OpenSpec.ofChange rulesClustersWrong)

/-- 'fleuronlaw11.RulesNone': WHATEVER THE INPUT: true; the input reads as it did. -/
def rulesNoneSpec : ChangeSpec := { name := "rulesNone", fn := fun _ => fun
  | [d] => { results := [.lit (.bool true)], args := [d] }
  | _ => none }
def rulesNoneRow : OpenClaim := { program := "ytkoocipagndclaa", sum := "0017b2aa4ad1d454455999beb2a49a0babff152ff7d49ffd90434b76b1df246d", func := "fleuron/fleuronlaw11.RulesNone", spec := "rulesNone", inPlace := ["slices.overlaps[fleuron/api.Item]"], unfollowed := true, recurses := true, apart := false }
def RulesNoneSaid : Prop := rulesNoneRow.holds Try.pinned (OpenSpec.ofChange rulesNoneSpec)

/-- ITS FALSE NEIGHBOUR: 'it returns false'. Refute it at one input. -/
def rulesNoneWrong : ChangeSpec := { name := "rulesNone", fn := fun _ => fun
  | [d] => { results := [.lit (.bool false)], args := [d] }
  | _ => none }
def RulesNoneWrongFalsely : Prop := rulesNoneRow.holds Try.pinned (OpenSpec.ofChange rulesNoneWrong)

/-- 'fleuronlaw11.RulesReverse': WHATEVER THE INPUT: true; the input reads as it did. -/
def rulesReverseSpec : ChangeSpec := { name := "rulesReverse", fn := fun _ => fun
  | [d] => { results := [.lit (.bool true)], args := [d] }
  | _ => none }
def rulesReverseRow : OpenClaim := { program := "ytkoocipagndclaa", sum := "0017b2aa4ad1d454455999beb2a49a0babff152ff7d49ffd90434b76b1df246d", func := "fleuron/fleuronlaw11.RulesReverse", spec := "rulesReverse", inPlace := ["slices.overlaps[fleuron/api.Item]"], unfollowed := true, recurses := true, apart := false }
def RulesReverseSaid : Prop := rulesReverseRow.holds Try.pinned (OpenSpec.ofChange rulesReverseSpec)

/-- ITS FALSE NEIGHBOUR: 'it returns false'. Refute it at one input. -/
def rulesReverseWrong : ChangeSpec := { name := "rulesReverse", fn := fun _ => fun
  | [d] => { results := [.lit (.bool false)], args := [d] }
  | _ => none }
def RulesReverseWrongFalsely : Prop := rulesReverseRow.holds Try.pinned (OpenSpec.ofChange rulesReverseWrong)

/-- 'fleuronlaw11.RulesSplit': WHATEVER THE INPUT: true; the input reads as it did. -/
def rulesSplitSpec : ChangeSpec := { name := "rulesSplit", fn := fun _ => fun
  | [d] => { results := [.lit (.bool true)], args := [d] }
  | _ => none }
def rulesSplitRow : OpenClaim := { program := "ytkoocipagndclaa", sum := "0017b2aa4ad1d454455999beb2a49a0babff152ff7d49ffd90434b76b1df246d", func := "fleuron/fleuronlaw11.RulesSplit", spec := "rulesSplit", inPlace := ["slices.overlaps[fleuron/api.Item]"], unfollowed := true, recurses := true, apart := false }
def RulesSplitSaid : Prop := rulesSplitRow.holds Try.pinned (OpenSpec.ofChange rulesSplitSpec)

/-- ITS FALSE NEIGHBOUR: 'it returns false'. Refute it at one input. -/
def rulesSplitWrong : ChangeSpec := { name := "rulesSplit", fn := fun _ => fun
  | [d] => { results := [.lit (.bool false)], args := [d] }
  | _ => none }
def RulesSplitWrongFalsely : Prop := rulesSplitRow.holds Try.pinned (OpenSpec.ofChange rulesSplitWrong)

/-- 'fleuronlaw11.RulesMarks': WHATEVER THE INPUT: true; the input reads as it did. -/
def rulesMarksSpec : ChangeSpec := { name := "rulesMarks", fn := fun _ => fun
  | [d] => { results := [.lit (.bool true)], args := [d] }
  | _ => none }
def rulesMarksRow : OpenClaim := { program := "ytkoocipagndclaa", sum := "0017b2aa4ad1d454455999beb2a49a0babff152ff7d49ffd90434b76b1df246d", func := "fleuron/fleuronlaw11.RulesMarks", spec := "rulesMarks", inPlace := ["slices.overlaps[fleuron/api.Item]"], unfollowed := true, recurses := true, apart := false }
def RulesMarksSaid : Prop := rulesMarksRow.holds Try.pinned (OpenSpec.ofChange rulesMarksSpec)

/-- ITS FALSE NEIGHBOUR: 'it returns false'. Refute it at one input. -/
def rulesMarksWrong : ChangeSpec := { name := "rulesMarks", fn := fun _ => fun
  | [d] => { results := [.lit (.bool false)], args := [d] }
  | _ => none }
def RulesMarksWrongFalsely : Prop := rulesMarksRow.holds Try.pinned (OpenSpec.ofChange rulesMarksWrong)

/-- 'fleuronlaw11.RulesCalls': WHATEVER THE INPUT: true; the input reads as it did. -/
def rulesCallsSpec : ChangeSpec := { name := "rulesCalls", fn := fun _ => fun
  | [d] => { results := [.lit (.bool true)], args := [d] }
  | _ => none }
def rulesCallsRow : OpenClaim := { program := "ytkoocipagndclaa", sum := "0017b2aa4ad1d454455999beb2a49a0babff152ff7d49ffd90434b76b1df246d", func := "fleuron/fleuronlaw11.RulesCalls", spec := "rulesCalls", inPlace := ["slices.overlaps[fleuron/api.Item]"], unfollowed := true, recurses := true, apart := false }
def RulesCallsSaid : Prop := rulesCallsRow.holds Try.pinned (OpenSpec.ofChange rulesCallsSpec)

/-- ITS FALSE NEIGHBOUR: 'it returns false'. Refute it at one input. -/
def rulesCallsWrong : ChangeSpec := { name := "rulesCalls", fn := fun _ => fun
  | [d] => { results := [.lit (.bool false)], args := [d] }
  | _ => none }
def RulesCallsWrongFalsely : Prop := rulesCallsRow.holds Try.pinned (OpenSpec.ofChange rulesCallsWrong)

/- THE SECOND FORM. 'bulk': how many values and letters a reading holds, each counted each time it is reached (what is shared counts as often as it is met; a slice's spare places count too). A statement '..UptoSaid' is the law's where the arguments, and the package variables that the reading takes, are together of bulk at most 1048576: NARROWER than '..Said'. Prove '..Said' where nothing that the law and all that it calls make is longer than what came in: it says more and counts as full. Else prove '..UptoSaid'. A law counts once. -/
mutual
def uptoBulk {H : Type} : DataW H → Nat
  | .lit (.string bytes) => bytes.length + 1
  | .lit _ => 1
  | .nil => 1
  | .ptr d => uptoBulk d + 1
  | .slice elems spare => uptoBulkAll elems + uptoBulkAll spare + 1
  | .agg parts => uptoBulkAll parts + 1
  | .iface _ d => uptoBulk d + 1
  | .map entries => uptoBulkEntries entries + 1
  | .held _ => 1
def uptoBulkAll {H : Type} : List (DataW H) → Nat
  | [] => 0
  | d :: r => uptoBulk d + uptoBulkAll r
def uptoBulkEntries {H : Type} : List (Lit × DataW H) → Nat
  | [] => 0
  | x :: r => uptoBulkEntry x + uptoBulkEntries r
def uptoBulkEntry {H : Type} : Lit × DataW H → Nat
  | (.string bytes, d) => bytes.length + uptoBulk d + 1
  | (_, d) => uptoBulk d + 1
 end
def uptoSmall : (H : Type) → List (DataW H) → Bool := fun _ ds => decide (uptoBulkAll ds ≤ 1048576)
def OpenSpec.upto (s : _root_.Go.ChangeSpec) : _root_.Go.OpenSpec := { _root_.Go.OpenSpec.ofChange s with cond := some uptoSmall }

/-- 'fleuronlaw11.RulesMatch', WHERE WHAT IT READS IS OF BULK AT MOST 1048576: true; the input reads as it did. -/
def rulesMatchUptoRow : OpenClaim := { program := "ytkoocipagndclaa", sum := "0017b2aa4ad1d454455999beb2a49a0babff152ff7d49ffd90434b76b1df246d", func := "fleuron/fleuronlaw11.RulesMatch", spec := "rulesMatch", inPlace := ["slices.overlaps[fleuron/api.Item]"], unfollowed := true, recurses := true, apart := false, narrowed := true }
def RulesMatchUptoSaid : Prop := rulesMatchUptoRow.holds Try.pinned (OpenSpec.upto rulesMatchSpec)

/-- 'fleuronlaw11.RulesApply', WHERE WHAT IT READS IS OF BULK AT MOST 1048576: true; the input reads as it did. -/
def rulesApplyUptoRow : OpenClaim := { program := "ytkoocipagndclaa", sum := "0017b2aa4ad1d454455999beb2a49a0babff152ff7d49ffd90434b76b1df246d", func := "fleuron/fleuronlaw11.RulesApply", spec := "rulesApply", inPlace := ["slices.overlaps[fleuron/api.Item]"], unfollowed := true, recurses := true, apart := false, narrowed := true }
def RulesApplyUptoSaid : Prop := rulesApplyUptoRow.holds Try.pinned (OpenSpec.upto rulesApplySpec)

/-- 'fleuronlaw11.RulesPlaces', WHERE WHAT IT READS IS OF BULK AT MOST 1048576: true; the input reads as it did. -/
def rulesPlacesUptoRow : OpenClaim := { program := "ytkoocipagndclaa", sum := "0017b2aa4ad1d454455999beb2a49a0babff152ff7d49ffd90434b76b1df246d", func := "fleuron/fleuronlaw11.RulesPlaces", spec := "rulesPlaces", inPlace := ["slices.overlaps[fleuron/api.Item]"], unfollowed := true, recurses := true, apart := false, narrowed := true }
def RulesPlacesUptoSaid : Prop := rulesPlacesUptoRow.holds Try.pinned (OpenSpec.upto rulesPlacesSpec)

/-- 'fleuronlaw11.RulesFirst', WHERE WHAT IT READS IS OF BULK AT MOST 1048576: true; the input reads as it did. -/
def rulesFirstUptoRow : OpenClaim := { program := "ytkoocipagndclaa", sum := "0017b2aa4ad1d454455999beb2a49a0babff152ff7d49ffd90434b76b1df246d", func := "fleuron/fleuronlaw11.RulesFirst", spec := "rulesFirst", inPlace := ["slices.overlaps[fleuron/api.Item]"], unfollowed := true, recurses := true, apart := false, narrowed := true }
def RulesFirstUptoSaid : Prop := rulesFirstUptoRow.holds Try.pinned (OpenSpec.upto rulesFirstSpec)

/-- 'fleuronlaw11.RulesShort', WHERE WHAT IT READS IS OF BULK AT MOST 1048576: true; the input reads as it did. -/
def rulesShortUptoRow : OpenClaim := { program := "ytkoocipagndclaa", sum := "0017b2aa4ad1d454455999beb2a49a0babff152ff7d49ffd90434b76b1df246d", func := "fleuron/fleuronlaw11.RulesShort", spec := "rulesShort", inPlace := ["slices.overlaps[fleuron/api.Item]"], unfollowed := true, recurses := true, apart := false, narrowed := true }
def RulesShortUptoSaid : Prop := rulesShortUptoRow.holds Try.pinned (OpenSpec.upto rulesShortSpec)

/-- 'fleuronlaw11.RulesClusters', WHERE WHAT IT READS IS OF BULK AT MOST 1048576: true; the input reads as it did. -/
def rulesClustersUptoRow : OpenClaim := { program := "ytkoocipagndclaa", sum := "0017b2aa4ad1d454455999beb2a49a0babff152ff7d49ffd90434b76b1df246d", func := "fleuron/fleuronlaw11.RulesClusters", spec := "rulesClusters", inPlace := ["slices.overlaps[fleuron/api.Item]"], unfollowed := true, recurses := true, apart := false, narrowed := true }
def RulesClustersUptoSaid : Prop := rulesClustersUptoRow.holds Try.pinned (OpenSpec.upto rulesClustersSpec)

/-- 'fleuronlaw11.RulesNone', WHERE WHAT IT READS IS OF BULK AT MOST 1048576: true; the input reads as it did. -/
def rulesNoneUptoRow : OpenClaim := { program := "ytkoocipagndclaa", sum := "0017b2aa4ad1d454455999beb2a49a0babff152ff7d49ffd90434b76b1df246d", func := "fleuron/fleuronlaw11.RulesNone", spec := "rulesNone", inPlace := ["slices.overlaps[fleuron/api.Item]"], unfollowed := true, recurses := true, apart := false, narrowed := true }
def RulesNoneUptoSaid : Prop := rulesNoneUptoRow.holds Try.pinned (OpenSpec.upto rulesNoneSpec)

/-- 'fleuronlaw11.RulesReverse', WHERE WHAT IT READS IS OF BULK AT MOST 1048576: true; the input reads as it did. -/
def rulesReverseUptoRow : OpenClaim := { program := "ytkoocipagndclaa", sum := "0017b2aa4ad1d454455999beb2a49a0babff152ff7d49ffd90434b76b1df246d", func := "fleuron/fleuronlaw11.RulesReverse", spec := "rulesReverse", inPlace := ["slices.overlaps[fleuron/api.Item]"], unfollowed := true, recurses := true, apart := false, narrowed := true }
def RulesReverseUptoSaid : Prop := rulesReverseUptoRow.holds Try.pinned (OpenSpec.upto rulesReverseSpec)

/-- 'fleuronlaw11.RulesSplit', WHERE WHAT IT READS IS OF BULK AT MOST 1048576: true; the input reads as it did. -/
def rulesSplitUptoRow : OpenClaim := { program := "ytkoocipagndclaa", sum := "0017b2aa4ad1d454455999beb2a49a0babff152ff7d49ffd90434b76b1df246d", func := "fleuron/fleuronlaw11.RulesSplit", spec := "rulesSplit", inPlace := ["slices.overlaps[fleuron/api.Item]"], unfollowed := true, recurses := true, apart := false, narrowed := true }
def RulesSplitUptoSaid : Prop := rulesSplitUptoRow.holds Try.pinned (OpenSpec.upto rulesSplitSpec)

/-- 'fleuronlaw11.RulesMarks', WHERE WHAT IT READS IS OF BULK AT MOST 1048576: true; the input reads as it did. -/
def rulesMarksUptoRow : OpenClaim := { program := "ytkoocipagndclaa", sum := "0017b2aa4ad1d454455999beb2a49a0babff152ff7d49ffd90434b76b1df246d", func := "fleuron/fleuronlaw11.RulesMarks", spec := "rulesMarks", inPlace := ["slices.overlaps[fleuron/api.Item]"], unfollowed := true, recurses := true, apart := false, narrowed := true }
def RulesMarksUptoSaid : Prop := rulesMarksUptoRow.holds Try.pinned (OpenSpec.upto rulesMarksSpec)

/-- 'fleuronlaw11.RulesCalls', WHERE WHAT IT READS IS OF BULK AT MOST 1048576: true; the input reads as it did. -/
def rulesCallsUptoRow : OpenClaim := { program := "ytkoocipagndclaa", sum := "0017b2aa4ad1d454455999beb2a49a0babff152ff7d49ffd90434b76b1df246d", func := "fleuron/fleuronlaw11.RulesCalls", spec := "rulesCalls", inPlace := ["slices.overlaps[fleuron/api.Item]"], unfollowed := true, recurses := true, apart := false, narrowed := true }
def RulesCallsUptoSaid : Prop := rulesCallsUptoRow.holds Try.pinned (OpenSpec.upto rulesCallsSpec)

end Rows
end Go.Proofs.Ytkoocipagndclaa
