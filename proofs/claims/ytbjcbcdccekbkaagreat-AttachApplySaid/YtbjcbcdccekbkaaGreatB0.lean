/- Words for the laws of chapter 14: what they find first; small fonts and runs. -/
import Derived.Test.YtbjcbcdccekbkaaGreatA15
import Derived.Test.YtbjcbcdccekbkaaGreatP1
namespace Go.Proofs.YtbjcbcdccekbkaaGreat
open Go.RowKit Go.Shelf

/-- The font in a variable, and the run. -/
structure LS (w W : World) (bf : Nat) (f : FV) (F : Fnt) (RA : Option Addr) (rn : Nat) (run : List Itm) : Prop where
  kf : Bk W bf 31 f.cells
  hf : IsF W (lo W.heap.size) f F
  hI : RdI W (lo W.heap.size) RA rn run
  bw : Below w.heap.size w W
theorem LS.call {w W W' : World} {bf : Nat} {f : FV} {F : Fnt} {RA : Option Addr} {rn : Nat} {run : List Itm} (h : LS w W bf f F RA rn run) (b : Below W.heap.size W W') : LS w W' bf f F RA rn run :=
  ⟨h.kf.call b, h.hf.call b, h.hI.call b, below_call h.bw b⟩
theorem LS.new {w : World} {f : FV} {F : Fnt} {RA : Option Addr} {rn : Nat} {run : List Itm} (hf : IsF w (lo w.heap.size) f F) (hI : RdI w (lo w.heap.size) RA rn run) : LS w (w.alloc (.cells f.cells 31)) w.heap.size f F RA rn run :=
  have b : Below w.heap.size w (w.alloc (.cells f.cells 31)) := (Below.refl _ _).alloc (Nat.le_refl _) _
  ⟨Bk.new _ _ _, hf.call b, hI.call b, b⟩
theorem small14 {F : Fnt} {run : List Itm} (h : big14 F run = false) : run.length ≤ 100 ∧ SmF F := by
  unfold big14 at h
  simp only [Bool.or_eq_false_iff, decide_eq_false_iff_not] at h
  obtain ⟨_, _, h3, h4⟩ := h
  refine ⟨by omega, fun lk hlk => ?_⟩
  unfold big11 at h4
  simp only [Bool.or_eq_false_iff, List.any_eq_false] at h4
  have h5 := h4.2.2 lk hlk
  unfold bigLk at h5
  simp only [Bool.or_eq_true, decide_eq_true_eq, not_or, Bool.not_eq_true, List.any_eq_false] at h5
  refine ⟨by omega, fun r hr => ?_⟩
  have h6 := h5.2 r hr
  unfold bigR wideB at h6
  simp only [Bool.or_eq_false_iff, decide_eq_false_iff_not, List.any_eq_false, decide_eq_true_eq] at h6
  obtain ⟨q1, q2, q3, _, _, q6, q7, q8⟩ := h6
  exact ⟨⟨by omega, fun s hs => by have := q8 s hs; omega⟩, ⟨by omega, fun s hs => by have := q6 s hs; omega⟩, ⟨by omega, fun s hs => by have := q7 s hs; omega⟩⟩
theorem wr64 : Wr w64 := ⟨fun x => ⟨-((x + 9223372036854775808) / 18446744073709551616), by unfold w64 wrap64; omega⟩, fun x y k h => by unfold w64 wrap64; omega⟩
/-- What a law is to tell. -/
def TP (w : World) (e : Ending) (w' : World) : Prop := e = .returned (.bool true) ∧ Below w.heap.size w w'

end Go.Proofs.YtbjcbcdccekbkaaGreat
