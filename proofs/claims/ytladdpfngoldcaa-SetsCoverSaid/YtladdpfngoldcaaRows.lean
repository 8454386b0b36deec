/-
  No cell of these rows narrows 'for every input' (looked for: loops, veiled, ifaces, maps, wideKeys, modest, calm, conditions, laid).
  DERIVED. THE GIVEN ROWS OF THIS SEAT. 10 by the template 'for every input the law returns true; each argument reads behind the call as it read before'; 0 by the template 'total and deterministic' (their statements: YtladdpfngoldcaaTotals.lean).
  GIVEN WITH THE SEED: the statements are not yours to turn. If you find one false, say at which input.
  Laid BY PROGRAM, IN A SANDBOX (cutbox-rows.mjs): the forced cells as the released guide's own fill.sh prints them over the translation d4790c3db16a4fd8… (all of the seat's roots in one cut). By AI agents, Wed Nov 11 2026. No macro, syntax, notation, axiom, sorry.
-/
import Derived.Test.YtladdpfngoldcaaChecked
import GoSem.Claim
import GoSem.ClaimJoined
import GoSem.ClaimMapViews
import Derived.JoinedTies
import Derived.KernelRfl
namespace Go.Proofs.Ytladdpfngoldcaa
/- THE CELL 'sum', in the pinned program and in every row, IS THE sha256 OF THE DUMP (.gsa) THAT YtladdpfngoldcaaProg.lean LOADS. Nothing in Lean hashes anything: it is a label: what it is worth is what the hold of that sum in a sandbox is worth. -/
noncomputable def Try.pinned : Pinned := { name := "ytladdpfngoldcaa", sum := "d4790c3db16a4fd8ff9119eb916d90c73e70b709494607b2c4fee76a35899b86", checked := Try.checked }
namespace Rows
def none {H : Type} : Left H := { results := [], args := [] }

/-- 'fleuronlaw06.SetsRanges': WHATEVER THE INPUT: true; the input reads as it did. -/
def setsRangesSpec : ChangeSpec := { name := "setsRanges", fn := fun _ => fun
  | [d] => { results := [.lit (.bool true)], args := [d] }
  | _ => none }
def setsRangesRow : OpenClaim := { program := "ytladdpfngoldcaa", sum := "d4790c3db16a4fd8ff9119eb916d90c73e70b709494607b2c4fee76a35899b86", func := "fleuron/fleuronlaw06.SetsRanges", spec := "setsRanges", unfollowed := true, recurses := true, apart := false }
def SetsRangesSaid : Prop := setsRangesRow.holds Try.pinned (OpenSpec.ofChange setsRangesSpec)

/-- ITS FALSE NEIGHBOUR: 'it returns false'. Refute it at one input. -/
def setsRangesWrong : ChangeSpec := { name := "setsRanges", fn := fun _ => fun
  | [d] => { results := [.lit (.bool false)], args := [d] }
  | _ => none }
def SetsRangesWrongFalsely : Prop := setsRangesRow.holds Try.pinned (OpenSpec.ofChange setsRangesWrong)

/-- 'fleuronlaw06.SetsCover': WHATEVER THE INPUT: true; the input reads as it did. -/
def setsCoverSpec : ChangeSpec := { name := "setsCover", fn := fun _ => fun
  | [d1, d2] => { results := [.lit (.bool true)], args := [d1, d2] }
  | _ => none }
def setsCoverRow : OpenClaim := { program := "ytladdpfngoldcaa", sum := "d4790c3db16a4fd8ff9119eb916d90c73e70b709494607b2c4fee76a35899b86", func := "fleuron/fleuronlaw06.SetsCover", spec := "setsCover", unfollowed := true, recurses := true, apart := false }
def SetsCoverSaid : Prop := setsCoverRow.holds Try.pinned (OpenSpec.ofChange setsCoverSpec)

/-- ITS FALSE NEIGHBOUR: 'it returns false'. Refute it at one input. -/
def setsCoverWrong : ChangeSpec := { name := "setsCover", fn := fun _ => fun
  | [d1, d2] => { results := [.lit (.bool false)], args := [d1, d2] }
  | _ => none }
def SetsCoverWrongFalsely : Prop := setsCoverRow.holds Try.pinned (OpenSpec.ofChange setsCoverWrong)

/-- 'fleuronlaw06.SetsPartition': WHATEVER THE INPUT: true; the input reads as it did. -/
def setsPartitionSpec : ChangeSpec := { name := "setsPartition", fn := fun _ => fun
  | [d1, d2, d3] => { results := [.lit (.bool true)], args := [d1, d2, d3] }
  | _ => none }
def setsPartitionRow : OpenClaim := { program := "ytladdpfngoldcaa", sum := "d4790c3db16a4fd8ff9119eb916d90c73e70b709494607b2c4fee76a35899b86", func := "fleuron/fleuronlaw06.SetsPartition", spec := "setsPartition", unfollowed := true, recurses := true, apart := false }
def SetsPartitionSaid : Prop := setsPartitionRow.holds Try.pinned (OpenSpec.ofChange setsPartitionSpec)

/-- ITS FALSE NEIGHBOUR: 'it returns false'. Refute it at one input. -/
def setsPartitionWrong : ChangeSpec := { name := "setsPartition", fn := fun _ => fun
  | [d1, d2, d3] => { results := [.lit (.bool false)], args := [d1, d2, d3] }
  | _ => none }
def SetsPartitionWrongFalsely : Prop := setsPartitionRow.holds Try.pinned (OpenSpec.ofChange setsPartitionWrong)

/-- 'fleuronlaw06.SetsFiner': WHATEVER THE INPUT: true; the input reads as it did. -/
def setsFinerSpec : ChangeSpec := { name := "setsFiner", fn := fun _ => fun
  | [d1, d2, d3] => { results := [.lit (.bool true)], args := [d1, d2, d3] }
  | _ => none }
def setsFinerRow : OpenClaim := { program := "ytladdpfngoldcaa", sum := "d4790c3db16a4fd8ff9119eb916d90c73e70b709494607b2c4fee76a35899b86", func := "fleuron/fleuronlaw06.SetsFiner", spec := "setsFiner", unfollowed := true, recurses := true, apart := false }
def SetsFinerSaid : Prop := setsFinerRow.holds Try.pinned (OpenSpec.ofChange setsFinerSpec)

/-- ITS FALSE NEIGHBOUR: 'it returns false'. Refute it at one input. -/
def setsFinerWrong : ChangeSpec := { name := "setsFiner", fn := fun _ => fun
  | [d1, d2, d3] => { results := [.lit (.bool false)], args := [d1, d2, d3] }
  | _ => none }
def SetsFinerWrongFalsely : Prop := setsFinerRow.holds Try.pinned (OpenSpec.ofChange setsFinerWrong)

/-- 'fleuronlaw06.SetsClasses': WHATEVER THE INPUT: true; the input reads as it did. -/
def setsClassesSpec : ChangeSpec := { name := "setsClasses", fn := fun _ => fun
  | [d1, d2] => { results := [.lit (.bool true)], args := [d1, d2] }
  | _ => none }
def setsClassesRow : OpenClaim := { program := "ytladdpfngoldcaa", sum := "d4790c3db16a4fd8ff9119eb916d90c73e70b709494607b2c4fee76a35899b86", func := "fleuron/fleuronlaw06.SetsClasses", spec := "setsClasses", unfollowed := true, recurses := true, apart := false }
def SetsClassesSaid : Prop := setsClassesRow.holds Try.pinned (OpenSpec.ofChange setsClassesSpec)

/-- ITS FALSE NEIGHBOUR: 'it returns false'. Refute it at one input. -/
def setsClassesWrong : ChangeSpec := { name := "setsClasses", fn := fun _ => fun
  | [d1, d2] => { results := [.lit (.bool false)], args := [d1, d2] }
  | _ => none }
def SetsClassesWrongFalsely : Prop := setsClassesRow.holds Try.pinned (OpenSpec.ofChange setsClassesWrong)

/-- 'fleuronlaw06.SetsParts': WHATEVER THE INPUT: true; the input reads as it did. -/
def setsPartsSpec : ChangeSpec := { name := "setsParts", fn := fun _ => fun
  | [d1, d2, d3] => { results := [.lit (.bool true)], args := [d1, d2, d3] }
  | _ => none }
def setsPartsRow : OpenClaim := { program := "ytladdpfngoldcaa", sum := "d4790c3db16a4fd8ff9119eb916d90c73e70b709494607b2c4fee76a35899b86", func := "fleuron/fleuronlaw06.SetsParts", spec := "setsParts", unfollowed := true, recurses := true, apart := false }
def SetsPartsSaid : Prop := setsPartsRow.holds Try.pinned (OpenSpec.ofChange setsPartsSpec)

/-- ITS FALSE NEIGHBOUR: 'it returns false'. Refute it at one input. -/
def setsPartsWrong : ChangeSpec := { name := "setsParts", fn := fun _ => fun
  | [d1, d2, d3] => { results := [.lit (.bool false)], args := [d1, d2, d3] }
  | _ => none }
def SetsPartsWrongFalsely : Prop := setsPartsRow.holds Try.pinned (OpenSpec.ofChange setsPartsWrong)

/-- 'fleuronlaw06.SetsOwn': WHATEVER THE INPUT: true; the input reads as it did. -/
def setsOwnSpec : ChangeSpec := { name := "setsOwn", fn := fun _ => fun
  | [d1, d2, d3] => { results := [.lit (.bool true)], args := [d1, d2, d3] }
  | _ => none }
def setsOwnRow : OpenClaim := { program := "ytladdpfngoldcaa", sum := "d4790c3db16a4fd8ff9119eb916d90c73e70b709494607b2c4fee76a35899b86", func := "fleuron/fleuronlaw06.SetsOwn", spec := "setsOwn", unfollowed := true, recurses := true, apart := false }
def SetsOwnSaid : Prop := setsOwnRow.holds Try.pinned (OpenSpec.ofChange setsOwnSpec)

/-- ITS FALSE NEIGHBOUR: 'it returns false'. Refute it at one input. -/
def setsOwnWrong : ChangeSpec := { name := "setsOwn", fn := fun _ => fun
  | [d1, d2, d3] => { results := [.lit (.bool false)], args := [d1, d2, d3] }
  | _ => none }
def SetsOwnWrongFalsely : Prop := setsOwnRow.holds Try.pinned (OpenSpec.ofChange setsOwnWrong)

/-- 'fleuronlaw06.SetsSub': WHATEVER THE INPUT: true; the input reads as it did. -/
def setsSubSpec : ChangeSpec := { name := "setsSub", fn := fun _ => fun
  | [d1, d2] => { results := [.lit (.bool true)], args := [d1, d2] }
  | _ => none }
def setsSubRow : OpenClaim := { program := "ytladdpfngoldcaa", sum := "d4790c3db16a4fd8ff9119eb916d90c73e70b709494607b2c4fee76a35899b86", func := "fleuron/fleuronlaw06.SetsSub", spec := "setsSub", unfollowed := true, recurses := true, apart := false }
def SetsSubSaid : Prop := setsSubRow.holds Try.pinned (OpenSpec.ofChange setsSubSpec)

/-- ITS FALSE NEIGHBOUR: 'it returns false'. Refute it at one input. -/
def setsSubWrong : ChangeSpec := { name := "setsSub", fn := fun _ => fun
  | [d1, d2] => { results := [.lit (.bool false)], args := [d1, d2] }
  | _ => none }
def SetsSubWrongFalsely : Prop := setsSubRow.holds Try.pinned (OpenSpec.ofChange setsSubWrong)

/-- 'fleuronlaw06.SetsHave': WHATEVER THE INPUT: true; the input reads as it did. -/
def setsHaveSpec : ChangeSpec := { name := "setsHave", fn := fun _ => fun
  | [d1, d2, d3] => { results := [.lit (.bool true)], args := [d1, d2, d3] }
  | _ => none }
def setsHaveRow : OpenClaim := { program := "ytladdpfngoldcaa", sum := "d4790c3db16a4fd8ff9119eb916d90c73e70b709494607b2c4fee76a35899b86", func := "fleuron/fleuronlaw06.SetsHave", spec := "setsHave", unfollowed := true, recurses := true, apart := false }
def SetsHaveSaid : Prop := setsHaveRow.holds Try.pinned (OpenSpec.ofChange setsHaveSpec)

/-- ITS FALSE NEIGHBOUR: 'it returns false'. Refute it at one input. -/
def setsHaveWrong : ChangeSpec := { name := "setsHave", fn := fun _ => fun
  | [d1, d2, d3] => { results := [.lit (.bool false)], args := [d1, d2, d3] }
  | _ => none }
def SetsHaveWrongFalsely : Prop := setsHaveRow.holds Try.pinned (OpenSpec.ofChange setsHaveWrong)

/-- 'fleuronlaw06.SetsAll': WHATEVER THE INPUT: true; the input reads as it did. -/
def setsAllSpec : ChangeSpec := { name := "setsAll", fn := fun _ => fun
  | [d1, d2, d3] => { results := [.lit (.bool true)], args := [d1, d2, d3] }
  | _ => none }
def setsAllRow : OpenClaim := { program := "ytladdpfngoldcaa", sum := "d4790c3db16a4fd8ff9119eb916d90c73e70b709494607b2c4fee76a35899b86", func := "fleuron/fleuronlaw06.SetsAll", spec := "setsAll", unfollowed := true, recurses := true, apart := false }
def SetsAllSaid : Prop := setsAllRow.holds Try.pinned (OpenSpec.ofChange setsAllSpec)

/-- ITS FALSE NEIGHBOUR: 'it returns false'. Refute it at one input. -/
def setsAllWrong : ChangeSpec := { name := "setsAll", fn := fun _ => fun
  | [d1, d2, d3] => { results := [.lit (.bool false)], args := [d1, d2, d3] }
  | _ => none }
def SetsAllWrongFalsely : Prop := setsAllRow.holds Try.pinned (OpenSpec.ofChange setsAllWrong)

/- THE SECOND FORM. 'bulk': how many values and letters a reading holds, each counted each time it is reached (what is shared counts as often as it is met; a slice's spare places count too). A statement '..UptoSaid' is the law's where the arguments, and the package variables that the reading takes, are together of bulk at most 1048576: NARROWER than '..Said'. Prove '..Said' where nothing that the law and all that it calls make is longer than what came in: it says more and counts as full. Else prove '..UptoSaid'. A law counts once. -/
mutual
def uptoBulk {H : Type} : DataW H → Nat
  | .lit (.string bytes) => bytes.length + 1
  | .lit _ => 1
  | .nil => 1
  | .ptr d => uptoBulk d + 1
  | .slice elems spare => uptoBulkAll elems + uptoBulkAll spare + 1
  | .agg parts => uptoBulkAll parts + 1
  | .iface _ d => uptoBulk d + 1
  | .map entries => uptoBulkEntries entries + 1
  | .held _ => 1
def uptoBulkAll {H : Type} : List (DataW H) → Nat
  | [] => 0
  | d :: r => uptoBulk d + uptoBulkAll r
def uptoBulkEntries {H : Type} : List (Lit × DataW H) → Nat
  | [] => 0
  | x :: r => uptoBulkEntry x + uptoBulkEntries r
def uptoBulkEntry {H : Type} : Lit × DataW H → Nat
  | (.string bytes, d) => bytes.length + uptoBulk d + 1
  | (_, d) => uptoBulk d + 1
 end
def uptoSmall : (H : Type) → List (DataW H) → Bool := fun _ ds => decide (uptoBulkAll ds ≤ 1048576)
def OpenSpec.upto (s : _root_.Go.ChangeSpec) : _root_.Go.OpenSpec := { _root_.Go.OpenSpec.ofChange s with cond := some uptoSmall }

/-- 'fleuronlaw06.SetsRanges', WHERE WHAT IT READS IS OF BULK AT MOST 1048576: true; the input reads as it did. -/
def setsRangesUptoRow : OpenClaim := { program := "ytladdpfngoldcaa", sum := "d4790c3db16a4fd8ff9119eb916d90c73e70b709494607b2c4fee76a35899b86", func := "fleuron/fleuronlaw06.SetsRanges", spec := "setsRanges", unfollowed := true, recurses := true, apart := false, narrowed := true }
def SetsRangesUptoSaid : Prop := setsRangesUptoRow.holds Try.pinned (OpenSpec.upto setsRangesSpec)

/-- 'fleuronlaw06.SetsCover', WHERE WHAT IT READS IS OF BULK AT MOST 1048576: true; the input reads as it did. -/
def setsCoverUptoRow : OpenClaim := { program := "ytladdpfngoldcaa", sum := "d4790c3db16a4fd8ff9119eb916d90c73e70b709494607b2c4fee76a35899b86", func := "fleuron/fleuronlaw06.SetsCover", spec := "setsCover", unfollowed := true, recurses := true, apart := false, narrowed := true }
def SetsCoverUptoSaid : Prop := setsCoverUptoRow.holds Try.pinned (OpenSpec.upto setsCoverSpec)

/-- 'fleuronlaw06.SetsPartition', WHERE WHAT IT READS IS OF BULK AT MOST 1048576: true; the input reads as it did. -/
def setsPartitionUptoRow : OpenClaim := { program := "ytladdpfngoldcaa", sum := "d4790c3db16a4fd8ff9119eb916d90c73e70b709494607b2c4fee76a35899b86", func := "fleuron/fleuronlaw06.SetsPartition", spec := "setsPartition", unfollowed := true, recurses := true, apart := false, narrowed := true }
def SetsPartitionUptoSaid : Prop := setsPartitionUptoRow.holds Try.pinned (OpenSpec.upto setsPartitionSpec)

/-- 'fleuronlaw06.SetsFiner', WHERE WHAT IT READS IS OF BULK AT MOST 1048576: true; the input reads as it did. -/
def setsFinerUptoRow : OpenClaim := { program := "ytladdpfngoldcaa", sum := "d4790c3db16a4fd8ff9119eb916d90c73e70b709494607b2c4fee76a35899b86", func := "fleuron/fleuronlaw06.SetsFiner", spec := "setsFiner", unfollowed := true, recurses := true, apart := false, narrowed := true }
def SetsFinerUptoSaid : Prop := setsFinerUptoRow.holds Try.pinned (OpenSpec.upto setsFinerSpec)

/-- 'fleuronlaw06.SetsClasses', WHERE WHAT IT READS IS OF BULK AT MOST 1048576: true; the input reads as it did. -/
def setsClassesUptoRow : OpenClaim := { program := "ytladdpfngoldcaa", sum := "d4790c3db16a4fd8ff9119eb916d90c73e70b709494607b2c4fee76a35899b86", func := "fleuron/fleuronlaw06.SetsClasses", spec := "setsClasses", unfollowed := true, recurses := true, apart := false, narrowed := true }
def SetsClassesUptoSaid : Prop := setsClassesUptoRow.holds Try.pinned (OpenSpec.upto setsClassesSpec)

/-- 'fleuronlaw06.SetsParts', WHERE WHAT IT READS IS OF BULK AT MOST 1048576: true; the input reads as it did. -/
def setsPartsUptoRow : OpenClaim := { program := "ytladdpfngoldcaa", sum := "d4790c3db16a4fd8ff9119eb916d90c73e70b709494607b2c4fee76a35899b86", func := "fleuron/fleuronlaw06.SetsParts", spec := "setsParts", unfollowed := true, recurses := true, apart := false, narrowed := true }
def SetsPartsUptoSaid : Prop := setsPartsUptoRow.holds Try.pinned (OpenSpec.upto setsPartsSpec)

/-- 'fleuronlaw06.SetsOwn', WHERE WHAT IT READS IS OF BULK AT MOST 1048576: true; the input reads as it did. -/
def setsOwnUptoRow : OpenClaim := { program := "ytladdpfngoldcaa", sum := "d4790c3db16a4fd8ff9119eb916d90c73e70b709494607b2c4fee76a35899b86", func := "fleuron/fleuronlaw06.SetsOwn", spec := "setsOwn", unfollowed := true, recurses := true, apart := false, narrowed := true }
def SetsOwnUptoSaid : Prop := setsOwnUptoRow.holds Try.pinned (OpenSpec.upto setsOwnSpec)

/-- 'fleuronlaw06.SetsSub', WHERE WHAT IT READS IS OF BULK AT MOST 1048576: true; the input reads as it did. -/
def setsSubUptoRow : OpenClaim := { program := "ytladdpfngoldcaa", sum := "d4790c3db16a4fd8ff9119eb916d90c73e70b709494607b2c4fee76a35899b86", func := "fleuron/fleuronlaw06.SetsSub", spec := "setsSub", unfollowed := true, recurses := true, apart := false, narrowed := true }
def SetsSubUptoSaid : Prop := setsSubUptoRow.holds Try.pinned (OpenSpec.upto setsSubSpec)

/-- 'fleuronlaw06.SetsHave', WHERE WHAT IT READS IS OF BULK AT MOST 1048576: true; the input reads as it did. -/
def setsHaveUptoRow : OpenClaim := { program := "ytladdpfngoldcaa", sum := "d4790c3db16a4fd8ff9119eb916d90c73e70b709494607b2c4fee76a35899b86", func := "fleuron/fleuronlaw06.SetsHave", spec := "setsHave", unfollowed := true, recurses := true, apart := false, narrowed := true }
def SetsHaveUptoSaid : Prop := setsHaveUptoRow.holds Try.pinned (OpenSpec.upto setsHaveSpec)

/-- 'fleuronlaw06.SetsAll', WHERE WHAT IT READS IS OF BULK AT MOST 1048576: true; the input reads as it did. -/
def setsAllUptoRow : OpenClaim := { program := "ytladdpfngoldcaa", sum := "d4790c3db16a4fd8ff9119eb916d90c73e70b709494607b2c4fee76a35899b86", func := "fleuron/fleuronlaw06.SetsAll", spec := "setsAll", unfollowed := true, recurses := true, apart := false, narrowed := true }
def SetsAllUptoSaid : Prop := setsAllUptoRow.holds Try.pinned (OpenSpec.upto setsAllSpec)

end Rows
end Go.Proofs.Ytladdpfngoldcaa
