/-
  No cell of these rows narrows 'for every input' (looked for: loops, veiled, ifaces, maps, wideKeys, modest, calm, conditions, laid).
  DERIVED. THE GIVEN ROWS OF THIS SEAT. 8 by the template 'for every input the law returns true; each argument reads behind the call as it read before'; 0 by the template 'total and deterministic' (their statements: YtdacfcfgikllpaaTotals.lean).
  GIVEN WITH THE SEED: the statements are not yours to turn. If you find one false, say at which input.
  Laid BY PROGRAM, IN A SANDBOX (cutbox-rows.mjs): the forced cells as the released guide's own fill.sh prints them over the translation 0ce7a5785237e6bc… (all of the seat's roots in one cut). By AI agents, Wed Nov 11 2026. No macro, syntax, notation, axiom, sorry.
-/
import Derived.Test.YtdacfcfgikllpaaChecked
import GoSem.Claim
import GoSem.ClaimJoined
import GoSem.ClaimMapViews
import Derived.JoinedTies
import Derived.KernelRfl
namespace Go.Proofs.Ytdacfcfgikllpaa
/- THE CELL 'sum', in the pinned program and in every row, IS THE sha256 OF THE DUMP (.gsa) THAT YtdacfcfgikllpaaProg.lean LOADS. Nothing in Lean hashes anything: it is a label: what it is worth is what the hold of that sum in a sandbox is worth. -/
noncomputable def Try.pinned : Pinned := { name := "ytdacfcfgikllpaa", sum := "0ce7a5785237e6bc06ee122354beac4c14ee0373f4dd42c98f0de71e0785b58c", checked := Try.checked }
namespace Rows
def none {H : Type} : Left H := { results := [], args := [] }

/-- 'fleuronlaw15.ScriptKinds': WHATEVER THE INPUT: true; the input reads as it did. -/
def scriptKindsSpec : ChangeSpec := { name := "scriptKinds", fn := fun _ => fun
  | [d] => { results := [.lit (.bool true)], args := [d] }
  | _ => none }
def scriptKindsRow : OpenClaim := { program := "ytdacfcfgikllpaa", sum := "0ce7a5785237e6bc06ee122354beac4c14ee0373f4dd42c98f0de71e0785b58c", func := "fleuron/fleuronlaw15.ScriptKinds", spec := "scriptKinds", unfollowed := true, recurses := true, apart := false }
def ScriptKindsSaid : Prop := scriptKindsRow.holds Try.pinned (OpenSpec.ofChange scriptKindsSpec)

/-- ITS FALSE NEIGHBOUR: 'it returns false'. Refute it at one input. -/
def scriptKindsWrong : ChangeSpec := { name := "scriptKinds", fn := fun _ => fun
  | [d] => { results := [.lit (.bool false)], args := [d] }
  | _ => none }
def ScriptKindsWrongFalsely : Prop := scriptKindsRow.holds Try.pinned (OpenSpec.ofChange scriptKindsWrong)

/-- 'fleuronlaw15.ScriptTells': WHATEVER THE INPUT: true; the input reads as it did. -/
def scriptTellsSpec : ChangeSpec := { name := "scriptTells", fn := fun _ => fun
  | [d] => { results := [.lit (.bool true)], args := [d] }
  | _ => none }
def scriptTellsRow : OpenClaim := { program := "ytdacfcfgikllpaa", sum := "0ce7a5785237e6bc06ee122354beac4c14ee0373f4dd42c98f0de71e0785b58c", func := "fleuron/fleuronlaw15.ScriptTells", spec := "scriptTells", unfollowed := true, recurses := true, apart := false }
def ScriptTellsSaid : Prop := scriptTellsRow.holds Try.pinned (OpenSpec.ofChange scriptTellsSpec)

/-- ITS FALSE NEIGHBOUR: 'it returns false'. Refute it at one input. -/
def scriptTellsWrong : ChangeSpec := { name := "scriptTells", fn := fun _ => fun
  | [d] => { results := [.lit (.bool false)], args := [d] }
  | _ => none }
def ScriptTellsWrongFalsely : Prop := scriptTellsRow.holds Try.pinned (OpenSpec.ofChange scriptTellsWrong)

/-- 'fleuronlaw15.ScriptPermutes': WHATEVER THE INPUT: true; the input reads as it did. -/
def scriptPermutesSpec : ChangeSpec := { name := "scriptPermutes", fn := fun _ => fun
  | [d] => { results := [.lit (.bool true)], args := [d] }
  | _ => none }
def scriptPermutesRow : OpenClaim := { program := "ytdacfcfgikllpaa", sum := "0ce7a5785237e6bc06ee122354beac4c14ee0373f4dd42c98f0de71e0785b58c", func := "fleuron/fleuronlaw15.ScriptPermutes", spec := "scriptPermutes", unfollowed := true, recurses := true, apart := false }
def ScriptPermutesSaid : Prop := scriptPermutesRow.holds Try.pinned (OpenSpec.ofChange scriptPermutesSpec)

/-- ITS FALSE NEIGHBOUR: 'it returns false'. Refute it at one input. -/
def scriptPermutesWrong : ChangeSpec := { name := "scriptPermutes", fn := fun _ => fun
  | [d] => { results := [.lit (.bool false)], args := [d] }
  | _ => none }
def ScriptPermutesWrongFalsely : Prop := scriptPermutesRow.holds Try.pinned (OpenSpec.ofChange scriptPermutesWrong)

/-- 'fleuronlaw15.ScriptJoined': WHATEVER THE INPUT: true; the input reads as it did. -/
def scriptJoinedSpec : ChangeSpec := { name := "scriptJoined", fn := fun _ => fun
  | [d] => { results := [.lit (.bool true)], args := [d] }
  | _ => none }
def scriptJoinedRow : OpenClaim := { program := "ytdacfcfgikllpaa", sum := "0ce7a5785237e6bc06ee122354beac4c14ee0373f4dd42c98f0de71e0785b58c", func := "fleuron/fleuronlaw15.ScriptJoined", spec := "scriptJoined", unfollowed := true, recurses := true, apart := false }
def ScriptJoinedSaid : Prop := scriptJoinedRow.holds Try.pinned (OpenSpec.ofChange scriptJoinedSpec)

/-- ITS FALSE NEIGHBOUR: 'it returns false'. Refute it at one input. -/
def scriptJoinedWrong : ChangeSpec := { name := "scriptJoined", fn := fun _ => fun
  | [d] => { results := [.lit (.bool false)], args := [d] }
  | _ => none }
def ScriptJoinedWrongFalsely : Prop := scriptJoinedRow.holds Try.pinned (OpenSpec.ofChange scriptJoinedWrong)

/-- 'fleuronlaw15.ScriptMarks': WHATEVER THE INPUT: true; the input reads as it did. -/
def scriptMarksSpec : ChangeSpec := { name := "scriptMarks", fn := fun _ => fun
  | [d1, d2, d3] => { results := [.lit (.bool true)], args := [d1, d2, d3] }
  | _ => none }
def scriptMarksRow : OpenClaim := { program := "ytdacfcfgikllpaa", sum := "0ce7a5785237e6bc06ee122354beac4c14ee0373f4dd42c98f0de71e0785b58c", func := "fleuron/fleuronlaw15.ScriptMarks", spec := "scriptMarks", unfollowed := true, recurses := true, apart := false }
def ScriptMarksSaid : Prop := scriptMarksRow.holds Try.pinned (OpenSpec.ofChange scriptMarksSpec)

/-- ITS FALSE NEIGHBOUR: 'it returns false'. Refute it at one input. -/
def scriptMarksWrong : ChangeSpec := { name := "scriptMarks", fn := fun _ => fun
  | [d1, d2, d3] => { results := [.lit (.bool false)], args := [d1, d2, d3] }
  | _ => none }
def ScriptMarksWrongFalsely : Prop := scriptMarksRow.holds Try.pinned (OpenSpec.ofChange scriptMarksWrong)

/-- 'fleuronlaw15.ScriptClasses': WHATEVER THE INPUT: true; the input reads as it did. -/
def scriptClassesSpec : ChangeSpec := { name := "scriptClasses", fn := fun _ => fun
  | [d1, d2] => { results := [.lit (.bool true)], args := [d1, d2] }
  | _ => none }
def scriptClassesRow : OpenClaim := { program := "ytdacfcfgikllpaa", sum := "0ce7a5785237e6bc06ee122354beac4c14ee0373f4dd42c98f0de71e0785b58c", func := "fleuron/fleuronlaw15.ScriptClasses", spec := "scriptClasses", unfollowed := true, recurses := true, apart := false }
def ScriptClassesSaid : Prop := scriptClassesRow.holds Try.pinned (OpenSpec.ofChange scriptClassesSpec)

/-- ITS FALSE NEIGHBOUR: 'it returns false'. Refute it at one input. -/
def scriptClassesWrong : ChangeSpec := { name := "scriptClasses", fn := fun _ => fun
  | [d1, d2] => { results := [.lit (.bool false)], args := [d1, d2] }
  | _ => none }
def ScriptClassesWrongFalsely : Prop := scriptClassesRow.holds Try.pinned (OpenSpec.ofChange scriptClassesWrong)

/-- 'fleuronlaw15.ScriptParts': WHATEVER THE INPUT: true; the input reads as it did. -/
def scriptPartsSpec : ChangeSpec := { name := "scriptParts", fn := fun _ => fun
  | [d1, d2, d3] => { results := [.lit (.bool true)], args := [d1, d2, d3] }
  | _ => none }
def scriptPartsRow : OpenClaim := { program := "ytdacfcfgikllpaa", sum := "0ce7a5785237e6bc06ee122354beac4c14ee0373f4dd42c98f0de71e0785b58c", func := "fleuron/fleuronlaw15.ScriptParts", spec := "scriptParts", unfollowed := true, recurses := true, apart := false }
def ScriptPartsSaid : Prop := scriptPartsRow.holds Try.pinned (OpenSpec.ofChange scriptPartsSpec)

/-- ITS FALSE NEIGHBOUR: 'it returns false'. Refute it at one input. -/
def scriptPartsWrong : ChangeSpec := { name := "scriptParts", fn := fun _ => fun
  | [d1, d2, d3] => { results := [.lit (.bool false)], args := [d1, d2, d3] }
  | _ => none }
def ScriptPartsWrongFalsely : Prop := scriptPartsRow.holds Try.pinned (OpenSpec.ofChange scriptPartsWrong)

/-- 'fleuronlaw15.ScriptVowels': WHATEVER THE INPUT: true; the input reads as it did. -/
def scriptVowelsSpec : ChangeSpec := { name := "scriptVowels", fn := fun _ => fun
  | [d1, d2] => { results := [.lit (.bool true)], args := [d1, d2] }
  | _ => none }
def scriptVowelsRow : OpenClaim := { program := "ytdacfcfgikllpaa", sum := "0ce7a5785237e6bc06ee122354beac4c14ee0373f4dd42c98f0de71e0785b58c", func := "fleuron/fleuronlaw15.ScriptVowels", spec := "scriptVowels", unfollowed := true, recurses := true, apart := false }
def ScriptVowelsSaid : Prop := scriptVowelsRow.holds Try.pinned (OpenSpec.ofChange scriptVowelsSpec)

/-- ITS FALSE NEIGHBOUR: 'it returns false'. Refute it at one input. -/
def scriptVowelsWrong : ChangeSpec := { name := "scriptVowels", fn := fun _ => fun
  | [d1, d2] => { results := [.lit (.bool false)], args := [d1, d2] }
  | _ => none }
def ScriptVowelsWrongFalsely : Prop := scriptVowelsRow.holds Try.pinned (OpenSpec.ofChange scriptVowelsWrong)

/- THE SECOND FORM. 'bulk': how many values and letters a reading holds, each counted each time it is reached (what is shared counts as often as it is met; a slice's spare places count too). A statement '..UptoSaid' is the law's where the arguments, and the package variables that the reading takes, are together of bulk at most 1048576: NARROWER than '..Said'. Prove '..Said' where nothing that the law and all that it calls make is longer than what came in: it says more and counts as full. Else prove '..UptoSaid'. A law counts once. -/
mutual
def uptoBulk {H : Type} : DataW H → Nat
  | .lit (.string bytes) => bytes.length + 1
  | .lit _ => 1
  | .nil => 1
  | .ptr d => uptoBulk d + 1
  | .slice elems spare => uptoBulkAll elems + uptoBulkAll spare + 1
  | .agg parts => uptoBulkAll parts + 1
  | .iface _ d => uptoBulk d + 1
  | .map entries => uptoBulkEntries entries + 1
  | .held _ => 1
def uptoBulkAll {H : Type} : List (DataW H) → Nat
  | [] => 0
  | d :: r => uptoBulk d + uptoBulkAll r
def uptoBulkEntries {H : Type} : List (Lit × DataW H) → Nat
  | [] => 0
  | x :: r => uptoBulkEntry x + uptoBulkEntries r
def uptoBulkEntry {H : Type} : Lit × DataW H → Nat
  | (.string bytes, d) => bytes.length + uptoBulk d + 1
  | (_, d) => uptoBulk d + 1
 end
def uptoSmall : (H : Type) → List (DataW H) → Bool := fun _ ds => decide (uptoBulkAll ds ≤ 1048576)
def OpenSpec.upto (s : _root_.Go.ChangeSpec) : _root_.Go.OpenSpec := { _root_.Go.OpenSpec.ofChange s with cond := some uptoSmall }

/-- 'fleuronlaw15.ScriptKinds', WHERE WHAT IT READS IS OF BULK AT MOST 1048576: true; the input reads as it did. -/
def scriptKindsUptoRow : OpenClaim := { program := "ytdacfcfgikllpaa", sum := "0ce7a5785237e6bc06ee122354beac4c14ee0373f4dd42c98f0de71e0785b58c", func := "fleuron/fleuronlaw15.ScriptKinds", spec := "scriptKinds", unfollowed := true, recurses := true, apart := false, narrowed := true }
def ScriptKindsUptoSaid : Prop := scriptKindsUptoRow.holds Try.pinned (OpenSpec.upto scriptKindsSpec)

/-- 'fleuronlaw15.ScriptTells', WHERE WHAT IT READS IS OF BULK AT MOST 1048576: true; the input reads as it did. -/
def scriptTellsUptoRow : OpenClaim := { program := "ytdacfcfgikllpaa", sum := "0ce7a5785237e6bc06ee122354beac4c14ee0373f4dd42c98f0de71e0785b58c", func := "fleuron/fleuronlaw15.ScriptTells", spec := "scriptTells", unfollowed := true, recurses := true, apart := false, narrowed := true }
def ScriptTellsUptoSaid : Prop := scriptTellsUptoRow.holds Try.pinned (OpenSpec.upto scriptTellsSpec)

/-- 'fleuronlaw15.ScriptPermutes', WHERE WHAT IT READS IS OF BULK AT MOST 1048576: true; the input reads as it did. -/
def scriptPermutesUptoRow : OpenClaim := { program := "ytdacfcfgikllpaa", sum := "0ce7a5785237e6bc06ee122354beac4c14ee0373f4dd42c98f0de71e0785b58c", func := "fleuron/fleuronlaw15.ScriptPermutes", spec := "scriptPermutes", unfollowed := true, recurses := true, apart := false, narrowed := true }
def ScriptPermutesUptoSaid : Prop := scriptPermutesUptoRow.holds Try.pinned (OpenSpec.upto scriptPermutesSpec)

/-- 'fleuronlaw15.ScriptJoined', WHERE WHAT IT READS IS OF BULK AT MOST 1048576: true; the input reads as it did. -/
def scriptJoinedUptoRow : OpenClaim := { program := "ytdacfcfgikllpaa", sum := "0ce7a5785237e6bc06ee122354beac4c14ee0373f4dd42c98f0de71e0785b58c", func := "fleuron/fleuronlaw15.ScriptJoined", spec := "scriptJoined", unfollowed := true, recurses := true, apart := false, narrowed := true }
def ScriptJoinedUptoSaid : Prop := scriptJoinedUptoRow.holds Try.pinned (OpenSpec.upto scriptJoinedSpec)

/-- 'fleuronlaw15.ScriptMarks', WHERE WHAT IT READS IS OF BULK AT MOST 1048576: true; the input reads as it did. -/
def scriptMarksUptoRow : OpenClaim := { program := "ytdacfcfgikllpaa", sum := "0ce7a5785237e6bc06ee122354beac4c14ee0373f4dd42c98f0de71e0785b58c", func := "fleuron/fleuronlaw15.ScriptMarks", spec := "scriptMarks", unfollowed := true, recurses := true, apart := false, narrowed := true }
def ScriptMarksUptoSaid : Prop := scriptMarksUptoRow.holds Try.pinned (OpenSpec.upto scriptMarksSpec)

/-- 'fleuronlaw15.ScriptClasses', WHERE WHAT IT READS IS OF BULK AT MOST 1048576: true; the input reads as it did. -/
def scriptClassesUptoRow : OpenClaim := { program := "ytdacfcfgikllpaa", sum := "0ce7a5785237e6bc06ee122354beac4c14ee0373f4dd42c98f0de71e0785b58c", func := "fleuron/fleuronlaw15.ScriptClasses", spec := "scriptClasses", unfollowed := true, recurses := true, apart := false, narrowed := true }
def ScriptClassesUptoSaid : Prop := scriptClassesUptoRow.holds Try.pinned (OpenSpec.upto scriptClassesSpec)

/-- 'fleuronlaw15.ScriptParts', WHERE WHAT IT READS IS OF BULK AT MOST 1048576: true; the input reads as it did. -/
def scriptPartsUptoRow : OpenClaim := { program := "ytdacfcfgikllpaa", sum := "0ce7a5785237e6bc06ee122354beac4c14ee0373f4dd42c98f0de71e0785b58c", func := "fleuron/fleuronlaw15.ScriptParts", spec := "scriptParts", unfollowed := true, recurses := true, apart := false, narrowed := true }
def ScriptPartsUptoSaid : Prop := scriptPartsUptoRow.holds Try.pinned (OpenSpec.upto scriptPartsSpec)

/-- 'fleuronlaw15.ScriptVowels', WHERE WHAT IT READS IS OF BULK AT MOST 1048576: true; the input reads as it did. -/
def scriptVowelsUptoRow : OpenClaim := { program := "ytdacfcfgikllpaa", sum := "0ce7a5785237e6bc06ee122354beac4c14ee0373f4dd42c98f0de71e0785b58c", func := "fleuron/fleuronlaw15.ScriptVowels", spec := "scriptVowels", unfollowed := true, recurses := true, apart := false, narrowed := true }
def ScriptVowelsUptoSaid : Prop := scriptVowelsUptoRow.holds Try.pinned (OpenSpec.upto scriptVowelsSpec)

end Rows
end Go.Proofs.Ytdacfcfgikllpaa
