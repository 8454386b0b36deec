/-
  NARROWER THAN 'FOR EVERY INPUT', by the rows' own cells (each row's printed sentence says how): AutomatonProved: laid · AutomatonHolds: laid · AutomatonClasses: laid · AutomatonMore: laid · AutomatonMany: laid · AutomatonBuilds: laid · AutomatonReads: laid · AutomatonDoes: laid · AutomatonSays: laid · AutomatonMatches: laid.
  DERIVED. THE GIVEN ROWS OF THIS SEAT. 10 by the template 'for every input the law returns true; each argument reads behind the call as it read before'; 0 by the template 'total and deterministic' (their statements: YtgcmedkaadagmaaDoorTotals.lean).
  GIVEN WITH THE SEED: the statements are not yours to turn. If you find one false, say at which input.
  Laid BY PROGRAM, IN A SANDBOX (cutbox-rows.mjs): the forced cells as the released guide's own fill.sh prints them over the translation 46fe6cc65ff7d9b3… (all of the seat's roots in one cut). By AI agents, Wed Nov 11 2026. No macro, syntax, notation, axiom, sorry.
-/
import Derived.Test.YtgcmedkaadagmaaDoorChecked
import GoSem.Claim
import GoSem.ClaimJoined
import GoSem.ClaimMapViews
import Derived.JoinedTies
import Derived.KernelRfl
namespace Go.Proofs.YtgcmedkaadagmaaDoor
/- THE CELL 'sum', in the pinned program and in every row, IS THE sha256 OF THE DUMP (.gsa) THAT YtgcmedkaadagmaaDoorProg.lean LOADS. Nothing in Lean hashes anything: it is a label: what it is worth is what the hold of that sum in a sandbox is worth. -/
noncomputable def Tryd.pinned : Pinned := { name := "ytgcmedkaadagmaadoor", sum := "46fe6cc65ff7d9b3f3850fa73a9bde2042328322b080c0bf6e5739f5aa9030df", checked := Tryd.checked }
namespace Rows
def none {H : Type} : Left H := { results := [], args := [] }

/- WHAT THE LISTED PACKAGE-LEVEL VARIABLES READ AS WHEN THE CALL BEGINS. Each datum BY PROGRAM (the guide's laid-datum.mjs) off the statement by which the dump's own 'gosem.cut.vars' lays the variable. In a bare row this is a premise. The card (YtgcmedkaadagmaaDoorCards.lean) ties it to the program's text. -/
def laid_math_bits_deBruijn64tab {H : Type} : DataW H := .agg [.lit (.int .u8 0), .lit (.int .u8 1), .lit (.int .u8 56), .lit (.int .u8 2), .lit (.int .u8 57), .lit (.int .u8 49), .lit (.int .u8 28), .lit (.int .u8 3), .lit (.int .u8 61), .lit (.int .u8 58), .lit (.int .u8 42), .lit (.int .u8 50), .lit (.int .u8 38), .lit (.int .u8 29), .lit (.int .u8 17), .lit (.int .u8 4), .lit (.int .u8 62), .lit (.int .u8 47), .lit (.int .u8 59), .lit (.int .u8 36), .lit (.int .u8 45), .lit (.int .u8 43), .lit (.int .u8 51), .lit (.int .u8 22), .lit (.int .u8 53), .lit (.int .u8 39), .lit (.int .u8 33), .lit (.int .u8 30), .lit (.int .u8 24), .lit (.int .u8 18), .lit (.int .u8 12), .lit (.int .u8 5), .lit (.int .u8 63), .lit (.int .u8 55), .lit (.int .u8 48), .lit (.int .u8 27), .lit (.int .u8 60), .lit (.int .u8 41), .lit (.int .u8 37), .lit (.int .u8 16), .lit (.int .u8 46), .lit (.int .u8 35), .lit (.int .u8 44), .lit (.int .u8 21), .lit (.int .u8 52), .lit (.int .u8 32), .lit (.int .u8 23), .lit (.int .u8 11), .lit (.int .u8 54), .lit (.int .u8 26), .lit (.int .u8 40), .lit (.int .u8 15), .lit (.int .u8 34), .lit (.int .u8 20), .lit (.int .u8 31), .lit (.int .u8 10), .lit (.int .u8 25), .lit (.int .u8 14), .lit (.int .u8 19), .lit (.int .u8 9), .lit (.int .u8 13), .lit (.int .u8 8), .lit (.int .u8 7), .lit (.int .u8 6)]

/-- 'fleuronlaw12.AutomatonProved': WHATEVER THE INPUT: true; the input reads as it did. -/
def automatonProvedSpec : ChangeSpec := { name := "automatonProved", fn := fun _ => fun
  | [d1, d2, d3] => { results := [.lit (.bool true)], args := [d1, d2, d3] }
  | _ => none }
def automatonProvedRow : OpenClaim := { program := "ytgcmedkaadagmaadoor", sum := "46fe6cc65ff7d9b3f3850fa73a9bde2042328322b080c0bf6e5739f5aa9030df", func := "fleuron/fleuronlaw12.AutomatonProved", spec := "automatonProved", unfollowed := true, recurses := true, named := ["math/bits.deBruijn64tab"], plainKeys := false, apart := false, laid := [("math/bits.deBruijn64tab", laid_math_bits_deBruijn64tab)] }
def AutomatonProvedSaid : Prop := automatonProvedRow.holds Tryd.pinned (OpenSpec.ofChange automatonProvedSpec)

/-- ITS FALSE NEIGHBOUR: 'it returns false'. Refute it at one input. -/
def automatonProvedWrong : ChangeSpec := { name := "automatonProved", fn := fun _ => fun
  | [d1, d2, d3] => { results := [.lit (.bool false)], args := [d1, d2, d3] }
  | _ => none }
def AutomatonProvedWrongFalsely : Prop := automatonProvedRow.holds Tryd.pinned (OpenSpec.ofChange automatonProvedWrong)

/-- 'fleuronlaw12.AutomatonHolds': WHATEVER THE INPUT: true; the input reads as it did. -/
def automatonHoldsSpec : ChangeSpec := { name := "automatonHolds", fn := fun _ => fun
  | [d] => { results := [.lit (.bool true)], args := [d] }
  | _ => none }
def automatonHoldsRow : OpenClaim := { program := "ytgcmedkaadagmaadoor", sum := "46fe6cc65ff7d9b3f3850fa73a9bde2042328322b080c0bf6e5739f5aa9030df", func := "fleuron/fleuronlaw12.AutomatonHolds", spec := "automatonHolds", unfollowed := true, recurses := true, named := ["math/bits.deBruijn64tab"], plainKeys := false, apart := false, laid := [("math/bits.deBruijn64tab", laid_math_bits_deBruijn64tab)] }
def AutomatonHoldsSaid : Prop := automatonHoldsRow.holds Tryd.pinned (OpenSpec.ofChange automatonHoldsSpec)

/-- ITS FALSE NEIGHBOUR: 'it returns false'. Refute it at one input. -/
def automatonHoldsWrong : ChangeSpec := { name := "automatonHolds", fn := fun _ => fun
  | [d] => { results := [.lit (.bool false)], args := [d] }
  | _ => none }
def AutomatonHoldsWrongFalsely : Prop := automatonHoldsRow.holds Tryd.pinned (OpenSpec.ofChange automatonHoldsWrong)

/-- 'fleuronlaw12.AutomatonClasses': WHATEVER THE INPUT: true; the input reads as it did. -/
def automatonClassesSpec : ChangeSpec := { name := "automatonClasses", fn := fun _ => fun
  | [d1, d2, d3] => { results := [.lit (.bool true)], args := [d1, d2, d3] }
  | _ => none }
def automatonClassesRow : OpenClaim := { program := "ytgcmedkaadagmaadoor", sum := "46fe6cc65ff7d9b3f3850fa73a9bde2042328322b080c0bf6e5739f5aa9030df", func := "fleuron/fleuronlaw12.AutomatonClasses", spec := "automatonClasses", unfollowed := true, recurses := true, named := ["math/bits.deBruijn64tab"], plainKeys := false, apart := false, laid := [("math/bits.deBruijn64tab", laid_math_bits_deBruijn64tab)] }
def AutomatonClassesSaid : Prop := automatonClassesRow.holds Tryd.pinned (OpenSpec.ofChange automatonClassesSpec)

/-- ITS FALSE NEIGHBOUR: 'it returns false'. Refute it at one input. -/
def automatonClassesWrong : ChangeSpec := { name := "automatonClasses", fn := fun _ => fun
  | [d1, d2, d3] => { results := [.lit (.bool false)], args := [d1, d2, d3] }
  | _ => none }
def AutomatonClassesWrongFalsely : Prop := automatonClassesRow.holds Tryd.pinned (OpenSpec.ofChange automatonClassesWrong)

/-- 'fleuronlaw12.AutomatonMore': WHATEVER THE INPUT: true; the input reads as it did. -/
def automatonMoreSpec : ChangeSpec := { name := "automatonMore", fn := fun _ => fun
  | [d1, d2] => { results := [.lit (.bool true)], args := [d1, d2] }
  | _ => none }
def automatonMoreRow : OpenClaim := { program := "ytgcmedkaadagmaadoor", sum := "46fe6cc65ff7d9b3f3850fa73a9bde2042328322b080c0bf6e5739f5aa9030df", func := "fleuron/fleuronlaw12.AutomatonMore", spec := "automatonMore", unfollowed := true, recurses := true, named := ["math/bits.deBruijn64tab"], plainKeys := false, apart := false, laid := [("math/bits.deBruijn64tab", laid_math_bits_deBruijn64tab)] }
def AutomatonMoreSaid : Prop := automatonMoreRow.holds Tryd.pinned (OpenSpec.ofChange automatonMoreSpec)

/-- ITS FALSE NEIGHBOUR: 'it returns false'. Refute it at one input. -/
def automatonMoreWrong : ChangeSpec := { name := "automatonMore", fn := fun _ => fun
  | [d1, d2] => { results := [.lit (.bool false)], args := [d1, d2] }
  | _ => none }
def AutomatonMoreWrongFalsely : Prop := automatonMoreRow.holds Tryd.pinned (OpenSpec.ofChange automatonMoreWrong)

/-- 'fleuronlaw12.AutomatonMany': WHATEVER THE INPUT: true; the input reads as it did. -/
def automatonManySpec : ChangeSpec := { name := "automatonMany", fn := fun _ => fun
  | [d] => { results := [.lit (.bool true)], args := [d] }
  | _ => none }
def automatonManyRow : OpenClaim := { program := "ytgcmedkaadagmaadoor", sum := "46fe6cc65ff7d9b3f3850fa73a9bde2042328322b080c0bf6e5739f5aa9030df", func := "fleuron/fleuronlaw12.AutomatonMany", spec := "automatonMany", unfollowed := true, recurses := true, named := ["math/bits.deBruijn64tab"], plainKeys := false, apart := false, laid := [("math/bits.deBruijn64tab", laid_math_bits_deBruijn64tab)] }
def AutomatonManySaid : Prop := automatonManyRow.holds Tryd.pinned (OpenSpec.ofChange automatonManySpec)

/-- ITS FALSE NEIGHBOUR: 'it returns false'. Refute it at one input. -/
def automatonManyWrong : ChangeSpec := { name := "automatonMany", fn := fun _ => fun
  | [d] => { results := [.lit (.bool false)], args := [d] }
  | _ => none }
def AutomatonManyWrongFalsely : Prop := automatonManyRow.holds Tryd.pinned (OpenSpec.ofChange automatonManyWrong)

/-- 'fleuronlaw12.AutomatonBuilds': WHATEVER THE INPUT: true; the input reads as it did. -/
def automatonBuildsSpec : ChangeSpec := { name := "automatonBuilds", fn := fun _ => fun
  | [d1, d2, d3] => { results := [.lit (.bool true)], args := [d1, d2, d3] }
  | _ => none }
def automatonBuildsRow : OpenClaim := { program := "ytgcmedkaadagmaadoor", sum := "46fe6cc65ff7d9b3f3850fa73a9bde2042328322b080c0bf6e5739f5aa9030df", func := "fleuron/fleuronlaw12.AutomatonBuilds", spec := "automatonBuilds", unfollowed := true, recurses := true, named := ["math/bits.deBruijn64tab"], plainKeys := false, apart := false, laid := [("math/bits.deBruijn64tab", laid_math_bits_deBruijn64tab)] }
def AutomatonBuildsSaid : Prop := automatonBuildsRow.holds Tryd.pinned (OpenSpec.ofChange automatonBuildsSpec)

/-- ITS FALSE NEIGHBOUR: 'it returns false'. Refute it at one input. -/
def automatonBuildsWrong : ChangeSpec := { name := "automatonBuilds", fn := fun _ => fun
  | [d1, d2, d3] => { results := [.lit (.bool false)], args := [d1, d2, d3] }
  | _ => none }
def AutomatonBuildsWrongFalsely : Prop := automatonBuildsRow.holds Tryd.pinned (OpenSpec.ofChange automatonBuildsWrong)

/-- 'fleuronlaw12.AutomatonReads': WHATEVER THE INPUT: true; the input reads as it did. -/
def automatonReadsSpec : ChangeSpec := { name := "automatonReads", fn := fun _ => fun
  | [d1, d2, d3] => { results := [.lit (.bool true)], args := [d1, d2, d3] }
  | _ => none }
def automatonReadsRow : OpenClaim := { program := "ytgcmedkaadagmaadoor", sum := "46fe6cc65ff7d9b3f3850fa73a9bde2042328322b080c0bf6e5739f5aa9030df", func := "fleuron/fleuronlaw12.AutomatonReads", spec := "automatonReads", unfollowed := true, recurses := true, named := ["math/bits.deBruijn64tab"], plainKeys := false, apart := false, laid := [("math/bits.deBruijn64tab", laid_math_bits_deBruijn64tab)] }
def AutomatonReadsSaid : Prop := automatonReadsRow.holds Tryd.pinned (OpenSpec.ofChange automatonReadsSpec)

/-- ITS FALSE NEIGHBOUR: 'it returns false'. Refute it at one input. -/
def automatonReadsWrong : ChangeSpec := { name := "automatonReads", fn := fun _ => fun
  | [d1, d2, d3] => { results := [.lit (.bool false)], args := [d1, d2, d3] }
  | _ => none }
def AutomatonReadsWrongFalsely : Prop := automatonReadsRow.holds Tryd.pinned (OpenSpec.ofChange automatonReadsWrong)

/-- 'fleuronlaw12.AutomatonDoes': WHATEVER THE INPUT: true; the input reads as it did. -/
def automatonDoesSpec : ChangeSpec := { name := "automatonDoes", fn := fun _ => fun
  | [d1, d2, d3] => { results := [.lit (.bool true)], args := [d1, d2, d3] }
  | _ => none }
def automatonDoesRow : OpenClaim := { program := "ytgcmedkaadagmaadoor", sum := "46fe6cc65ff7d9b3f3850fa73a9bde2042328322b080c0bf6e5739f5aa9030df", func := "fleuron/fleuronlaw12.AutomatonDoes", spec := "automatonDoes", unfollowed := true, recurses := true, named := ["math/bits.deBruijn64tab"], plainKeys := false, apart := false, laid := [("math/bits.deBruijn64tab", laid_math_bits_deBruijn64tab)] }
def AutomatonDoesSaid : Prop := automatonDoesRow.holds Tryd.pinned (OpenSpec.ofChange automatonDoesSpec)

/-- ITS FALSE NEIGHBOUR: 'it returns false'. Refute it at one input. -/
def automatonDoesWrong : ChangeSpec := { name := "automatonDoes", fn := fun _ => fun
  | [d1, d2, d3] => { results := [.lit (.bool false)], args := [d1, d2, d3] }
  | _ => none }
def AutomatonDoesWrongFalsely : Prop := automatonDoesRow.holds Tryd.pinned (OpenSpec.ofChange automatonDoesWrong)

/-- 'fleuronlaw12.AutomatonSays': WHATEVER THE INPUT: true; the input reads as it did. -/
def automatonSaysSpec : ChangeSpec := { name := "automatonSays", fn := fun _ => fun
  | [d1, d2, d3] => { results := [.lit (.bool true)], args := [d1, d2, d3] }
  | _ => none }
def automatonSaysRow : OpenClaim := { program := "ytgcmedkaadagmaadoor", sum := "46fe6cc65ff7d9b3f3850fa73a9bde2042328322b080c0bf6e5739f5aa9030df", func := "fleuron/fleuronlaw12.AutomatonSays", spec := "automatonSays", unfollowed := true, recurses := true, named := ["math/bits.deBruijn64tab"], plainKeys := false, apart := false, laid := [("math/bits.deBruijn64tab", laid_math_bits_deBruijn64tab)] }
def AutomatonSaysSaid : Prop := automatonSaysRow.holds Tryd.pinned (OpenSpec.ofChange automatonSaysSpec)

/-- ITS FALSE NEIGHBOUR: 'it returns false'. Refute it at one input. -/
def automatonSaysWrong : ChangeSpec := { name := "automatonSays", fn := fun _ => fun
  | [d1, d2, d3] => { results := [.lit (.bool false)], args := [d1, d2, d3] }
  | _ => none }
def AutomatonSaysWrongFalsely : Prop := automatonSaysRow.holds Tryd.pinned (OpenSpec.ofChange automatonSaysWrong)

/-- 'fleuronlaw12.AutomatonMatches': WHATEVER THE INPUT: true; the input reads as it did. -/
def automatonMatchesSpec : ChangeSpec := { name := "automatonMatches", fn := fun _ => fun
  | [d1, d2, d3] => { results := [.lit (.bool true)], args := [d1, d2, d3] }
  | _ => none }
def automatonMatchesRow : OpenClaim := { program := "ytgcmedkaadagmaadoor", sum := "46fe6cc65ff7d9b3f3850fa73a9bde2042328322b080c0bf6e5739f5aa9030df", func := "fleuron/fleuronlaw12.AutomatonMatches", spec := "automatonMatches", unfollowed := true, recurses := true, named := ["math/bits.deBruijn64tab"], plainKeys := false, apart := false, laid := [("math/bits.deBruijn64tab", laid_math_bits_deBruijn64tab)] }
def AutomatonMatchesSaid : Prop := automatonMatchesRow.holds Tryd.pinned (OpenSpec.ofChange automatonMatchesSpec)

/-- ITS FALSE NEIGHBOUR: 'it returns false'. Refute it at one input. -/
def automatonMatchesWrong : ChangeSpec := { name := "automatonMatches", fn := fun _ => fun
  | [d1, d2, d3] => { results := [.lit (.bool false)], args := [d1, d2, d3] }
  | _ => none }
def AutomatonMatchesWrongFalsely : Prop := automatonMatchesRow.holds Tryd.pinned (OpenSpec.ofChange automatonMatchesWrong)

/- THE SECOND FORM. 'bulk': how many values and letters a reading holds, each counted each time it is reached (what is shared counts as often as it is met; a slice's spare places count too). A statement '..UptoSaid' is the law's where the arguments, and the package variables that the reading takes, are together of bulk at most 1048576: NARROWER than '..Said'. Prove '..Said' where nothing that the law and all that it calls make is longer than what came in: it says more and counts as full. Else prove '..UptoSaid'. A law counts once. -/
mutual
def uptoBulk {H : Type} : DataW H → Nat
  | .lit (.string bytes) => bytes.length + 1
  | .lit _ => 1
  | .nil => 1
  | .ptr d => uptoBulk d + 1
  | .slice elems spare => uptoBulkAll elems + uptoBulkAll spare + 1
  | .agg parts => uptoBulkAll parts + 1
  | .iface _ d => uptoBulk d + 1
  | .map entries => uptoBulkEntries entries + 1
  | .held _ => 1
def uptoBulkAll {H : Type} : List (DataW H) → Nat
  | [] => 0
  | d :: r => uptoBulk d + uptoBulkAll r
def uptoBulkEntries {H : Type} : List (Lit × DataW H) → Nat
  | [] => 0
  | x :: r => uptoBulkEntry x + uptoBulkEntries r
def uptoBulkEntry {H : Type} : Lit × DataW H → Nat
  | (.string bytes, d) => bytes.length + uptoBulk d + 1
  | (_, d) => uptoBulk d + 1
 end
def uptoSmall : (H : Type) → List (DataW H) → Bool := fun _ ds => decide (uptoBulkAll ds ≤ 1048576)
def OpenSpec.upto (s : _root_.Go.ChangeSpec) : _root_.Go.OpenSpec := { _root_.Go.OpenSpec.ofChange s with cond := some uptoSmall }

/-- 'fleuronlaw12.AutomatonProved', WHERE WHAT IT READS IS OF BULK AT MOST 1048576: true; the input reads as it did. -/
def automatonProvedUptoRow : OpenClaim := { program := "ytgcmedkaadagmaadoor", sum := "46fe6cc65ff7d9b3f3850fa73a9bde2042328322b080c0bf6e5739f5aa9030df", func := "fleuron/fleuronlaw12.AutomatonProved", spec := "automatonProved", unfollowed := true, recurses := true, named := ["math/bits.deBruijn64tab"], plainKeys := false, apart := false, laid := [("math/bits.deBruijn64tab", laid_math_bits_deBruijn64tab)], narrowed := true }
def AutomatonProvedUptoSaid : Prop := automatonProvedUptoRow.holds Tryd.pinned (OpenSpec.upto automatonProvedSpec)

/-- 'fleuronlaw12.AutomatonHolds', WHERE WHAT IT READS IS OF BULK AT MOST 1048576: true; the input reads as it did. -/
def automatonHoldsUptoRow : OpenClaim := { program := "ytgcmedkaadagmaadoor", sum := "46fe6cc65ff7d9b3f3850fa73a9bde2042328322b080c0bf6e5739f5aa9030df", func := "fleuron/fleuronlaw12.AutomatonHolds", spec := "automatonHolds", unfollowed := true, recurses := true, named := ["math/bits.deBruijn64tab"], plainKeys := false, apart := false, laid := [("math/bits.deBruijn64tab", laid_math_bits_deBruijn64tab)], narrowed := true }
def AutomatonHoldsUptoSaid : Prop := automatonHoldsUptoRow.holds Tryd.pinned (OpenSpec.upto automatonHoldsSpec)

/-- 'fleuronlaw12.AutomatonClasses', WHERE WHAT IT READS IS OF BULK AT MOST 1048576: true; the input reads as it did. -/
def automatonClassesUptoRow : OpenClaim := { program := "ytgcmedkaadagmaadoor", sum := "46fe6cc65ff7d9b3f3850fa73a9bde2042328322b080c0bf6e5739f5aa9030df", func := "fleuron/fleuronlaw12.AutomatonClasses", spec := "automatonClasses", unfollowed := true, recurses := true, named := ["math/bits.deBruijn64tab"], plainKeys := false, apart := false, laid := [("math/bits.deBruijn64tab", laid_math_bits_deBruijn64tab)], narrowed := true }
def AutomatonClassesUptoSaid : Prop := automatonClassesUptoRow.holds Tryd.pinned (OpenSpec.upto automatonClassesSpec)

/-- 'fleuronlaw12.AutomatonMore', WHERE WHAT IT READS IS OF BULK AT MOST 1048576: true; the input reads as it did. -/
def automatonMoreUptoRow : OpenClaim := { program := "ytgcmedkaadagmaadoor", sum := "46fe6cc65ff7d9b3f3850fa73a9bde2042328322b080c0bf6e5739f5aa9030df", func := "fleuron/fleuronlaw12.AutomatonMore", spec := "automatonMore", unfollowed := true, recurses := true, named := ["math/bits.deBruijn64tab"], plainKeys := false, apart := false, laid := [("math/bits.deBruijn64tab", laid_math_bits_deBruijn64tab)], narrowed := true }
def AutomatonMoreUptoSaid : Prop := automatonMoreUptoRow.holds Tryd.pinned (OpenSpec.upto automatonMoreSpec)

/-- 'fleuronlaw12.AutomatonMany', WHERE WHAT IT READS IS OF BULK AT MOST 1048576: true; the input reads as it did. -/
def automatonManyUptoRow : OpenClaim := { program := "ytgcmedkaadagmaadoor", sum := "46fe6cc65ff7d9b3f3850fa73a9bde2042328322b080c0bf6e5739f5aa9030df", func := "fleuron/fleuronlaw12.AutomatonMany", spec := "automatonMany", unfollowed := true, recurses := true, named := ["math/bits.deBruijn64tab"], plainKeys := false, apart := false, laid := [("math/bits.deBruijn64tab", laid_math_bits_deBruijn64tab)], narrowed := true }
def AutomatonManyUptoSaid : Prop := automatonManyUptoRow.holds Tryd.pinned (OpenSpec.upto automatonManySpec)

/-- 'fleuronlaw12.AutomatonBuilds', WHERE WHAT IT READS IS OF BULK AT MOST 1048576: true; the input reads as it did. -/
def automatonBuildsUptoRow : OpenClaim := { program := "ytgcmedkaadagmaadoor", sum := "46fe6cc65ff7d9b3f3850fa73a9bde2042328322b080c0bf6e5739f5aa9030df", func := "fleuron/fleuronlaw12.AutomatonBuilds", spec := "automatonBuilds", unfollowed := true, recurses := true, named := ["math/bits.deBruijn64tab"], plainKeys := false, apart := false, laid := [("math/bits.deBruijn64tab", laid_math_bits_deBruijn64tab)], narrowed := true }
def AutomatonBuildsUptoSaid : Prop := automatonBuildsUptoRow.holds Tryd.pinned (OpenSpec.upto automatonBuildsSpec)

/-- 'fleuronlaw12.AutomatonReads', WHERE WHAT IT READS IS OF BULK AT MOST 1048576: true; the input reads as it did. -/
def automatonReadsUptoRow : OpenClaim := { program := "ytgcmedkaadagmaadoor", sum := "46fe6cc65ff7d9b3f3850fa73a9bde2042328322b080c0bf6e5739f5aa9030df", func := "fleuron/fleuronlaw12.AutomatonReads", spec := "automatonReads", unfollowed := true, recurses := true, named := ["math/bits.deBruijn64tab"], plainKeys := false, apart := false, laid := [("math/bits.deBruijn64tab", laid_math_bits_deBruijn64tab)], narrowed := true }
def AutomatonReadsUptoSaid : Prop := automatonReadsUptoRow.holds Tryd.pinned (OpenSpec.upto automatonReadsSpec)

/-- 'fleuronlaw12.AutomatonDoes', WHERE WHAT IT READS IS OF BULK AT MOST 1048576: true; the input reads as it did. -/
def automatonDoesUptoRow : OpenClaim := { program := "ytgcmedkaadagmaadoor", sum := "46fe6cc65ff7d9b3f3850fa73a9bde2042328322b080c0bf6e5739f5aa9030df", func := "fleuron/fleuronlaw12.AutomatonDoes", spec := "automatonDoes", unfollowed := true, recurses := true, named := ["math/bits.deBruijn64tab"], plainKeys := false, apart := false, laid := [("math/bits.deBruijn64tab", laid_math_bits_deBruijn64tab)], narrowed := true }
def AutomatonDoesUptoSaid : Prop := automatonDoesUptoRow.holds Tryd.pinned (OpenSpec.upto automatonDoesSpec)

/-- 'fleuronlaw12.AutomatonSays', WHERE WHAT IT READS IS OF BULK AT MOST 1048576: true; the input reads as it did. -/
def automatonSaysUptoRow : OpenClaim := { program := "ytgcmedkaadagmaadoor", sum := "46fe6cc65ff7d9b3f3850fa73a9bde2042328322b080c0bf6e5739f5aa9030df", func := "fleuron/fleuronlaw12.AutomatonSays", spec := "automatonSays", unfollowed := true, recurses := true, named := ["math/bits.deBruijn64tab"], plainKeys := false, apart := false, laid := [("math/bits.deBruijn64tab", laid_math_bits_deBruijn64tab)], narrowed := true }
def AutomatonSaysUptoSaid : Prop := automatonSaysUptoRow.holds Tryd.pinned (OpenSpec.upto automatonSaysSpec)

/-- 'fleuronlaw12.AutomatonMatches', WHERE WHAT IT READS IS OF BULK AT MOST 1048576: true; the input reads as it did. -/
def automatonMatchesUptoRow : OpenClaim := { program := "ytgcmedkaadagmaadoor", sum := "46fe6cc65ff7d9b3f3850fa73a9bde2042328322b080c0bf6e5739f5aa9030df", func := "fleuron/fleuronlaw12.AutomatonMatches", spec := "automatonMatches", unfollowed := true, recurses := true, named := ["math/bits.deBruijn64tab"], plainKeys := false, apart := false, laid := [("math/bits.deBruijn64tab", laid_math_bits_deBruijn64tab)], narrowed := true }
def AutomatonMatchesUptoSaid : Prop := automatonMatchesUptoRow.holds Tryd.pinned (OpenSpec.upto automatonMatchesSpec)

end Rows
end Go.Proofs.YtgcmedkaadagmaaDoor
