/-
  No cell of these rows narrows 'for every input' (looked for: loops, veiled, ifaces, maps, wideKeys, modest, calm, conditions, laid).
  DERIVED. THE GIVEN ROWS OF THIS SEAT. 9 by the template 'for every input the law returns true; each argument reads behind the call as it read before'; 0 by the template 'total and deterministic' (their statements: YtbjcbcdccekbkaaTotals.lean).
  GIVEN WITH THE SEED: the statements are not yours to turn. If you find one false, say at which input.
  Laid BY PROGRAM, IN A SANDBOX (cutbox-rows.mjs): the forced cells as the released guide's own fill.sh prints them over the translation 41bfcbc6be359a09… (all of the seat's roots in one cut). By AI agents, Wed Nov 11 2026. No macro, syntax, notation, axiom, sorry.
-/
import Derived.Test.YtbjcbcdccekbkaaChecked
import GoSem.Claim
import GoSem.ClaimJoined
import GoSem.ClaimMapViews
import Derived.JoinedTies
import Derived.KernelRfl
namespace Go.Proofs.Ytbjcbcdccekbkaa
/- THE CELL 'sum', in the pinned program and in every row, IS THE sha256 OF THE DUMP (.gsa) THAT YtbjcbcdccekbkaaProg.lean LOADS. Nothing in Lean hashes anything: it is a label: what it is worth is what the hold of that sum in a sandbox is worth. -/
noncomputable def Try.pinned : Pinned := { name := "ytbjcbcdccekbkaa", sum := "41bfcbc6be359a09b3bd0c17cc1f904b660c3040a101b44ee032fda138b5badc", checked := Try.checked }
namespace Rows
def none {H : Type} : Left H := { results := [], args := [] }

/-- 'fleuronlaw14.AttachCursive': WHATEVER THE INPUT: true; the input reads as it did. -/
def attachCursiveSpec : ChangeSpec := { name := "attachCursive", fn := fun _ => fun
  | [d1, d2, d3] => { results := [.lit (.bool true)], args := [d1, d2, d3] }
  | _ => none }
def attachCursiveRow : OpenClaim := { program := "ytbjcbcdccekbkaa", sum := "41bfcbc6be359a09b3bd0c17cc1f904b660c3040a101b44ee032fda138b5badc", func := "fleuron/fleuronlaw14.AttachCursive", spec := "attachCursive", inPlace := ["slices.overlaps[fleuron/api.Item]"], unfollowed := true, recurses := true, apart := false }
def AttachCursiveSaid : Prop := attachCursiveRow.holds Try.pinned (OpenSpec.ofChange attachCursiveSpec)

/-- ITS FALSE NEIGHBOUR: 'it returns false'. Refute it at one input. -/
def attachCursiveWrong : ChangeSpec := { name := "attachCursive", fn := fun _ => fun
  | [d1, d2, d3] => { results := [.lit (.bool false)], args := [d1, d2, d3] }
  | _ => none }
def AttachCursiveWrongFalsely : Prop := attachCursiveRow.holds Try.pinned (OpenSpec.ofChange attachCursiveWrong)

/-- 'fleuronlaw14.AttachMarks': WHATEVER THE INPUT: true; the input reads as it did. -/
def attachMarksSpec : ChangeSpec := { name := "attachMarks", fn := fun _ => fun
  | [d1, d2, d3] => { results := [.lit (.bool true)], args := [d1, d2, d3] }
  | _ => none }
def attachMarksRow : OpenClaim := { program := "ytbjcbcdccekbkaa", sum := "41bfcbc6be359a09b3bd0c17cc1f904b660c3040a101b44ee032fda138b5badc", func := "fleuron/fleuronlaw14.AttachMarks", spec := "attachMarks", inPlace := ["slices.overlaps[fleuron/api.Item]"], unfollowed := true, recurses := true, apart := false }
def AttachMarksSaid : Prop := attachMarksRow.holds Try.pinned (OpenSpec.ofChange attachMarksSpec)

/-- ITS FALSE NEIGHBOUR: 'it returns false'. Refute it at one input. -/
def attachMarksWrong : ChangeSpec := { name := "attachMarks", fn := fun _ => fun
  | [d1, d2, d3] => { results := [.lit (.bool false)], args := [d1, d2, d3] }
  | _ => none }
def AttachMarksWrongFalsely : Prop := attachMarksRow.holds Try.pinned (OpenSpec.ofChange attachMarksWrong)

/-- 'fleuronlaw14.AttachAnchors': WHATEVER THE INPUT: true; the input reads as it did. -/
def attachAnchorsSpec : ChangeSpec := { name := "attachAnchors", fn := fun _ => fun
  | [d1, d2, d3] => { results := [.lit (.bool true)], args := [d1, d2, d3] }
  | _ => none }
def attachAnchorsRow : OpenClaim := { program := "ytbjcbcdccekbkaa", sum := "41bfcbc6be359a09b3bd0c17cc1f904b660c3040a101b44ee032fda138b5badc", func := "fleuron/fleuronlaw14.AttachAnchors", spec := "attachAnchors", inPlace := ["slices.overlaps[fleuron/api.Item]"], unfollowed := true, recurses := true, apart := false }
def AttachAnchorsSaid : Prop := attachAnchorsRow.holds Try.pinned (OpenSpec.ofChange attachAnchorsSpec)

/-- ITS FALSE NEIGHBOUR: 'it returns false'. Refute it at one input. -/
def attachAnchorsWrong : ChangeSpec := { name := "attachAnchors", fn := fun _ => fun
  | [d1, d2, d3] => { results := [.lit (.bool false)], args := [d1, d2, d3] }
  | _ => none }
def AttachAnchorsWrongFalsely : Prop := attachAnchorsRow.holds Try.pinned (OpenSpec.ofChange attachAnchorsWrong)

/-- 'fleuronlaw14.AttachKeeps': WHATEVER THE INPUT: true; the input reads as it did. -/
def attachKeepsSpec : ChangeSpec := { name := "attachKeeps", fn := fun _ => fun
  | [d1, d2, d3] => { results := [.lit (.bool true)], args := [d1, d2, d3] }
  | _ => none }
def attachKeepsRow : OpenClaim := { program := "ytbjcbcdccekbkaa", sum := "41bfcbc6be359a09b3bd0c17cc1f904b660c3040a101b44ee032fda138b5badc", func := "fleuron/fleuronlaw14.AttachKeeps", spec := "attachKeeps", inPlace := ["slices.overlaps[fleuron/api.Item]"], unfollowed := true, recurses := true, apart := false }
def AttachKeepsSaid : Prop := attachKeepsRow.holds Try.pinned (OpenSpec.ofChange attachKeepsSpec)

/-- ITS FALSE NEIGHBOUR: 'it returns false'. Refute it at one input. -/
def attachKeepsWrong : ChangeSpec := { name := "attachKeeps", fn := fun _ => fun
  | [d1, d2, d3] => { results := [.lit (.bool false)], args := [d1, d2, d3] }
  | _ => none }
def AttachKeepsWrongFalsely : Prop := attachKeepsRow.holds Try.pinned (OpenSpec.ofChange attachKeepsWrong)

/-- 'fleuronlaw14.AttachTwice': WHATEVER THE INPUT: true; the input reads as it did. -/
def attachTwiceSpec : ChangeSpec := { name := "attachTwice", fn := fun _ => fun
  | [d1, d2, d3] => { results := [.lit (.bool true)], args := [d1, d2, d3] }
  | _ => none }
def attachTwiceRow : OpenClaim := { program := "ytbjcbcdccekbkaa", sum := "41bfcbc6be359a09b3bd0c17cc1f904b660c3040a101b44ee032fda138b5badc", func := "fleuron/fleuronlaw14.AttachTwice", spec := "attachTwice", inPlace := ["slices.overlaps[fleuron/api.Item]"], unfollowed := true, recurses := true, apart := false }
def AttachTwiceSaid : Prop := attachTwiceRow.holds Try.pinned (OpenSpec.ofChange attachTwiceSpec)

/-- ITS FALSE NEIGHBOUR: 'it returns false'. Refute it at one input. -/
def attachTwiceWrong : ChangeSpec := { name := "attachTwice", fn := fun _ => fun
  | [d1, d2, d3] => { results := [.lit (.bool false)], args := [d1, d2, d3] }
  | _ => none }
def AttachTwiceWrongFalsely : Prop := attachTwiceRow.holds Try.pinned (OpenSpec.ofChange attachTwiceWrong)

/-- 'fleuronlaw14.AttachJoins': WHATEVER THE INPUT: true; the input reads as it did. -/
def attachJoinsSpec : ChangeSpec := { name := "attachJoins", fn := fun _ => fun
  | [d1, d2, d3] => { results := [.lit (.bool true)], args := [d1, d2, d3] }
  | _ => none }
def attachJoinsRow : OpenClaim := { program := "ytbjcbcdccekbkaa", sum := "41bfcbc6be359a09b3bd0c17cc1f904b660c3040a101b44ee032fda138b5badc", func := "fleuron/fleuronlaw14.AttachJoins", spec := "attachJoins", inPlace := ["slices.overlaps[fleuron/api.Item]"], unfollowed := true, recurses := true, apart := false }
def AttachJoinsSaid : Prop := attachJoinsRow.holds Try.pinned (OpenSpec.ofChange attachJoinsSpec)

/-- ITS FALSE NEIGHBOUR: 'it returns false'. Refute it at one input. -/
def attachJoinsWrong : ChangeSpec := { name := "attachJoins", fn := fun _ => fun
  | [d1, d2, d3] => { results := [.lit (.bool false)], args := [d1, d2, d3] }
  | _ => none }
def AttachJoinsWrongFalsely : Prop := attachJoinsRow.holds Try.pinned (OpenSpec.ofChange attachJoinsWrong)

/-- 'fleuronlaw14.AttachHangs': WHATEVER THE INPUT: true; the input reads as it did. -/
def attachHangsSpec : ChangeSpec := { name := "attachHangs", fn := fun _ => fun
  | [d1, d2, d3] => { results := [.lit (.bool true)], args := [d1, d2, d3] }
  | _ => none }
def attachHangsRow : OpenClaim := { program := "ytbjcbcdccekbkaa", sum := "41bfcbc6be359a09b3bd0c17cc1f904b660c3040a101b44ee032fda138b5badc", func := "fleuron/fleuronlaw14.AttachHangs", spec := "attachHangs", inPlace := ["slices.overlaps[fleuron/api.Item]"], unfollowed := true, recurses := true, apart := false }
def AttachHangsSaid : Prop := attachHangsRow.holds Try.pinned (OpenSpec.ofChange attachHangsSpec)

/-- ITS FALSE NEIGHBOUR: 'it returns false'. Refute it at one input. -/
def attachHangsWrong : ChangeSpec := { name := "attachHangs", fn := fun _ => fun
  | [d1, d2, d3] => { results := [.lit (.bool false)], args := [d1, d2, d3] }
  | _ => none }
def AttachHangsWrongFalsely : Prop := attachHangsRow.holds Try.pinned (OpenSpec.ofChange attachHangsWrong)

/-- 'fleuronlaw14.AttachRises': WHATEVER THE INPUT: true; the input reads as it did. -/
def attachRisesSpec : ChangeSpec := { name := "attachRises", fn := fun _ => fun
  | [d1, d2, d3] => { results := [.lit (.bool true)], args := [d1, d2, d3] }
  | _ => none }
def attachRisesRow : OpenClaim := { program := "ytbjcbcdccekbkaa", sum := "41bfcbc6be359a09b3bd0c17cc1f904b660c3040a101b44ee032fda138b5badc", func := "fleuron/fleuronlaw14.AttachRises", spec := "attachRises", inPlace := ["slices.overlaps[fleuron/api.Item]"], unfollowed := true, recurses := true, apart := false }
def AttachRisesSaid : Prop := attachRisesRow.holds Try.pinned (OpenSpec.ofChange attachRisesSpec)

/-- ITS FALSE NEIGHBOUR: 'it returns false'. Refute it at one input. -/
def attachRisesWrong : ChangeSpec := { name := "attachRises", fn := fun _ => fun
  | [d1, d2, d3] => { results := [.lit (.bool false)], args := [d1, d2, d3] }
  | _ => none }
def AttachRisesWrongFalsely : Prop := attachRisesRow.holds Try.pinned (OpenSpec.ofChange attachRisesWrong)

/-- 'fleuronlaw14.AttachPairs': WHATEVER THE INPUT: true; the input reads as it did. -/
def attachPairsSpec : ChangeSpec := { name := "attachPairs", fn := fun _ => fun
  | [d1, d2, d3] => { results := [.lit (.bool true)], args := [d1, d2, d3] }
  | _ => none }
def attachPairsRow : OpenClaim := { program := "ytbjcbcdccekbkaa", sum := "41bfcbc6be359a09b3bd0c17cc1f904b660c3040a101b44ee032fda138b5badc", func := "fleuron/fleuronlaw14.AttachPairs", spec := "attachPairs", inPlace := ["slices.overlaps[fleuron/api.Item]"], unfollowed := true, recurses := true, apart := false }
def AttachPairsSaid : Prop := attachPairsRow.holds Try.pinned (OpenSpec.ofChange attachPairsSpec)

/-- ITS FALSE NEIGHBOUR: 'it returns false'. Refute it at one input. -/
def attachPairsWrong : ChangeSpec := { name := "attachPairs", fn := fun _ => fun
  | [d1, d2, d3] => { results := [.lit (.bool false)], args := [d1, d2, d3] }
  | _ => none }
def AttachPairsWrongFalsely : Prop := attachPairsRow.holds Try.pinned (OpenSpec.ofChange attachPairsWrong)

/- THE SECOND FORM. 'bulk': how many values and letters a reading holds, each counted each time it is reached (what is shared counts as often as it is met; a slice's spare places count too). A statement '..UptoSaid' is the law's where the arguments, and the package variables that the reading takes, are together of bulk at most 1048576: NARROWER than '..Said'. Prove '..Said' where nothing that the law and all that it calls make is longer than what came in: it says more and counts as full. Else prove '..UptoSaid'. A law counts once. -/
mutual
def uptoBulk {H : Type} : DataW H → Nat
  | .lit (.string bytes) => bytes.length + 1
  | .lit _ => 1
  | .nil => 1
  | .ptr d => uptoBulk d + 1
  | .slice elems spare => uptoBulkAll elems + uptoBulkAll spare + 1
  | .agg parts => uptoBulkAll parts + 1
  | .iface _ d => uptoBulk d + 1
  | .map entries => uptoBulkEntries entries + 1
  | .held _ => 1
def uptoBulkAll {H : Type} : List (DataW H) → Nat
  | [] => 0
  | d :: r => uptoBulk d + uptoBulkAll r
def uptoBulkEntries {H : Type} : List (Lit × DataW H) → Nat
  | [] => 0
  | x :: r => uptoBulkEntry x + uptoBulkEntries r
def uptoBulkEntry {H : Type} : Lit × DataW H → Nat
  | (.string bytes, d) => bytes.length + uptoBulk d + 1
  | (_, d) => uptoBulk d + 1
 end
def uptoSmall : (H : Type) → List (DataW H) → Bool := fun _ ds => decide (uptoBulkAll ds ≤ 1048576)
def OpenSpec.upto (s : _root_.Go.ChangeSpec) : _root_.Go.OpenSpec := { _root_.Go.OpenSpec.ofChange s with cond := some uptoSmall }

/-- 'fleuronlaw14.AttachCursive', WHERE WHAT IT READS IS OF BULK AT MOST 1048576: true; the input reads as it did. -/
def attachCursiveUptoRow : OpenClaim := { program := "ytbjcbcdccekbkaa", sum := "41bfcbc6be359a09b3bd0c17cc1f904b660c3040a101b44ee032fda138b5badc", func := "fleuron/fleuronlaw14.AttachCursive", spec := "attachCursive", inPlace := ["slices.overlaps[fleuron/api.Item]"], unfollowed := true, recurses := true, apart := false, narrowed := true }
def AttachCursiveUptoSaid : Prop := attachCursiveUptoRow.holds Try.pinned (OpenSpec.upto attachCursiveSpec)

/-- 'fleuronlaw14.AttachMarks', WHERE WHAT IT READS IS OF BULK AT MOST 1048576: true; the input reads as it did. -/
def attachMarksUptoRow : OpenClaim := { program := "ytbjcbcdccekbkaa", sum := "41bfcbc6be359a09b3bd0c17cc1f904b660c3040a101b44ee032fda138b5badc", func := "fleuron/fleuronlaw14.AttachMarks", spec := "attachMarks", inPlace := ["slices.overlaps[fleuron/api.Item]"], unfollowed := true, recurses := true, apart := false, narrowed := true }
def AttachMarksUptoSaid : Prop := attachMarksUptoRow.holds Try.pinned (OpenSpec.upto attachMarksSpec)

/-- 'fleuronlaw14.AttachAnchors', WHERE WHAT IT READS IS OF BULK AT MOST 1048576: true; the input reads as it did. -/
def attachAnchorsUptoRow : OpenClaim := { program := "ytbjcbcdccekbkaa", sum := "41bfcbc6be359a09b3bd0c17cc1f904b660c3040a101b44ee032fda138b5badc", func := "fleuron/fleuronlaw14.AttachAnchors", spec := "attachAnchors", inPlace := ["slices.overlaps[fleuron/api.Item]"], unfollowed := true, recurses := true, apart := false, narrowed := true }
def AttachAnchorsUptoSaid : Prop := attachAnchorsUptoRow.holds Try.pinned (OpenSpec.upto attachAnchorsSpec)

/-- 'fleuronlaw14.AttachKeeps', WHERE WHAT IT READS IS OF BULK AT MOST 1048576: true; the input reads as it did. -/
def attachKeepsUptoRow : OpenClaim := { program := "ytbjcbcdccekbkaa", sum := "41bfcbc6be359a09b3bd0c17cc1f904b660c3040a101b44ee032fda138b5badc", func := "fleuron/fleuronlaw14.AttachKeeps", spec := "attachKeeps", inPlace := ["slices.overlaps[fleuron/api.Item]"], unfollowed := true, recurses := true, apart := false, narrowed := true }
def AttachKeepsUptoSaid : Prop := attachKeepsUptoRow.holds Try.pinned (OpenSpec.upto attachKeepsSpec)

/-- 'fleuronlaw14.AttachTwice', WHERE WHAT IT READS IS OF BULK AT MOST 1048576: true; the input reads as it did. -/
def attachTwiceUptoRow : OpenClaim := { program := "ytbjcbcdccekbkaa", sum := "41bfcbc6be359a09b3bd0c17cc1f904b660c3040a101b44ee032fda138b5badc", func := "fleuron/fleuronlaw14.AttachTwice", spec := "attachTwice", inPlace := ["slices.overlaps[fleuron/api.Item]"], unfollowed := true, recurses := true, apart := false, narrowed := true }
def AttachTwiceUptoSaid : Prop := attachTwiceUptoRow.holds Try.pinned (OpenSpec.upto attachTwiceSpec)

/-- 'fleuronlaw14.AttachJoins', WHERE WHAT IT READS IS OF BULK AT MOST 1048576: true; the input reads as it did. -/
def attachJoinsUptoRow : OpenClaim := { program := "ytbjcbcdccekbkaa", sum := "41bfcbc6be359a09b3bd0c17cc1f904b660c3040a101b44ee032fda138b5badc", func := "fleuron/fleuronlaw14.AttachJoins", spec := "attachJoins", inPlace := ["slices.overlaps[fleuron/api.Item]"], unfollowed := true, recurses := true, apart := false, narrowed := true }
def AttachJoinsUptoSaid : Prop := attachJoinsUptoRow.holds Try.pinned (OpenSpec.upto attachJoinsSpec)

/-- 'fleuronlaw14.AttachHangs', WHERE WHAT IT READS IS OF BULK AT MOST 1048576: true; the input reads as it did. -/
def attachHangsUptoRow : OpenClaim := { program := "ytbjcbcdccekbkaa", sum := "41bfcbc6be359a09b3bd0c17cc1f904b660c3040a101b44ee032fda138b5badc", func := "fleuron/fleuronlaw14.AttachHangs", spec := "attachHangs", inPlace := ["slices.overlaps[fleuron/api.Item]"], unfollowed := true, recurses := true, apart := false, narrowed := true }
def AttachHangsUptoSaid : Prop := attachHangsUptoRow.holds Try.pinned (OpenSpec.upto attachHangsSpec)

/-- 'fleuronlaw14.AttachRises', WHERE WHAT IT READS IS OF BULK AT MOST 1048576: true; the input reads as it did. -/
def attachRisesUptoRow : OpenClaim := { program := "ytbjcbcdccekbkaa", sum := "41bfcbc6be359a09b3bd0c17cc1f904b660c3040a101b44ee032fda138b5badc", func := "fleuron/fleuronlaw14.AttachRises", spec := "attachRises", inPlace := ["slices.overlaps[fleuron/api.Item]"], unfollowed := true, recurses := true, apart := false, narrowed := true }
def AttachRisesUptoSaid : Prop := attachRisesUptoRow.holds Try.pinned (OpenSpec.upto attachRisesSpec)

/-- 'fleuronlaw14.AttachPairs', WHERE WHAT IT READS IS OF BULK AT MOST 1048576: true; the input reads as it did. -/
def attachPairsUptoRow : OpenClaim := { program := "ytbjcbcdccekbkaa", sum := "41bfcbc6be359a09b3bd0c17cc1f904b660c3040a101b44ee032fda138b5badc", func := "fleuron/fleuronlaw14.AttachPairs", spec := "attachPairs", inPlace := ["slices.overlaps[fleuron/api.Item]"], unfollowed := true, recurses := true, apart := false, narrowed := true }
def AttachPairsUptoSaid : Prop := attachPairsUptoRow.holds Try.pinned (OpenSpec.upto attachPairsSpec)

end Rows
end Go.Proofs.Ytbjcbcdccekbkaa
