/- Words for the laws of chapter 11: what they find first; small fonts and runs. -/
import Derived.Test.YtkoocipagndclaaE4
namespace Go.Proofs.Ytkoocipagndclaa
open Go.RowKit Go.Shelf

/-- The cells of an Ask. -/
abbrev askC (f : FV) (n : Int) (RA : Option Addr) (rn rc : Nat) (k : Int) (FA : Option Addr) (fn fc : Nat) : Array Value := #[.int .i64 f.u0, .slice f.ga f.gn f.gc, .slice f.ca f.cn f.cc, .slice f.la f.ln f.lc, .slice f.a4 f.n4 f.c4, .slice f.a5 f.n5 f.c5, .slice f.a6 f.n6 f.c6, .slice f.a7 f.n7 f.c7, .slice f.a8 f.n8 f.c8, .int .i64 n, .slice RA rn rc, .int .i64 k, .slice FA fn fc]
structure AS (w W : World) (bf : Nat) (f : FV) (F : Fnt) (n : Int) (RA : Option Addr) (rn rc : Nat) (run : List Itm) (k : Int) (FA : Option Addr) (fn fc : Nat) (forms : List Int) : Prop where
  kf : Bk W bf 34 (askC f n RA rn rc k FA fn fc)
  hf : IsF W (lo W.heap.size) f F
  hI : RdI W (lo W.heap.size) RA rn run
  hF : Rd W (lo W.heap.size) FA fn forms
  bw : Below w.heap.size w W
section
variable {w W W' : World} {bf : Nat} {f : FV} {F : Fnt} {n : Int} {RA : Option Addr} {rn rc : Nat} {run : List Itm} {k : Int} {FA : Option Addr} {fn fc : Nat} {forms : List Int}
theorem AS.call (h : AS w W bf f F n RA rn rc run k FA fn fc forms) (b : Below W.heap.size W W') : AS w W' bf f F n RA rn rc run k FA fn fc forms := ⟨h.kf.call b, h.hf.call b, h.hI.call b, h.hF.call b, below_call h.bw b⟩
theorem AS.new (hf : IsF w (lo w.heap.size) f F) (hI : RdI w (lo w.heap.size) RA rn run) (hF : Rd w (lo w.heap.size) FA fn forms) : AS w (w.alloc (.cells (askC f n RA rn rc k FA fn fc) 34)) w.heap.size f F n RA rn rc run k FA fn fc forms :=
  have b : Below w.heap.size w (w.alloc (.cells (askC f n RA rn rc k FA fn fc) 34)) := (Below.refl _ _).alloc (Nat.le_refl _) _
  ⟨Bk.new _ _ _, hf.call b, hI.call b, hF.call b, b⟩
theorem AS.cells (h : AS w W bf f F n RA rn rc run k FA fn fc forms) : W.cell? ⟨bf, 0, none⟩ = some (.int .i64 f.u0) ∧ W.cell? ⟨bf, 1, none⟩ = some (.slice f.ga f.gn f.gc) ∧ W.cell? ⟨bf, 2, none⟩ = some (.slice f.ca f.cn f.cc) ∧ W.cell? ⟨bf, 3, none⟩ = some (.slice f.la f.ln f.lc) ∧ W.cell? ⟨bf, 4, none⟩ = some (.slice f.a4 f.n4 f.c4) ∧ W.cell? ⟨bf, 5, none⟩ = some (.slice f.a5 f.n5 f.c5) ∧ W.cell? ⟨bf, 6, none⟩ = some (.slice f.a6 f.n6 f.c6) ∧ W.cell? ⟨bf, 7, none⟩ = some (.slice f.a7 f.n7 f.c7) ∧ W.cell? ⟨bf, 8, none⟩ = some (.slice f.a8 f.n8 f.c8) ∧ W.cell? ⟨bf, 9, none⟩ = some (.int .i64 n) ∧ W.cell? ⟨bf, 10, none⟩ = some (.slice RA rn rc) ∧ W.cell? ⟨bf, 11, none⟩ = some (.int .i64 k) ∧ W.cell? ⟨bf, 12, none⟩ = some (.slice FA fn fc) := ⟨h.kf.cell 0, h.kf.cell 1, h.kf.cell 2, h.kf.cell 3, h.kf.cell 4, h.kf.cell 5, h.kf.cell 6, h.kf.cell 7, h.kf.cell 8, h.kf.cell 9, h.kf.cell 10, h.kf.cell 11, h.kf.cell 12⟩
end
/-- What is not too big. -/
structure Sm11 (F : Fnt) (run : List Itm) : Prop where
  run : run.length ≤ 300
  lks : F.lks.length ≤ 40
  sm : SmF F
  so : ∀ lk ∈ F.lks, ∀ r ∈ lk.rules, r.out.length ≤ 8
  rl : ∀ lk ∈ F.lks, lk.rules.length ≤ 12
theorem Sm11.o {F : Fnt} {run : List Itm} (h : Sm11 F run) : SmO F := fun lk hlk r hr => by have := h.so lk hlk r hr; omega
theorem small11 {F : Fnt} {run : List Itm} (h : big11 F run = false) : Sm11 F run := by
  unfold big11 at h
  simp only [Bool.or_eq_false_iff, decide_eq_false_iff_not, List.any_eq_false] at h
  obtain ⟨h1, h2, h3⟩ := h
  have key : ∀ lk ∈ F.lks, lk.rules.length ≤ 12 ∧ ∀ r ∈ lk.rules, bigR r = false := fun lk hlk => by
    have h5 := h3 lk hlk
    unfold bigLk at h5
    simp only [Bool.or_eq_true, decide_eq_true_eq, not_or, Bool.not_eq_true, List.any_eq_false] at h5
    exact ⟨by omega, fun r hr => h5.2 r hr⟩
  refine ⟨by omega, by omega, fun lk hlk => ⟨by have := (key lk hlk).1; omega, fun r hr => ?_⟩, fun lk hlk r hr => ?_, fun lk hlk => (key lk hlk).1⟩
  · have h6 := (key lk hlk).2 r hr
    unfold bigR wideB at h6
    simp only [Bool.or_eq_false_iff, decide_eq_false_iff_not, List.any_eq_false, decide_eq_true_eq] at h6
    obtain ⟨q1, q2, q3, _, _, q6, q7, q8⟩ := h6
    exact ⟨⟨by omega, fun s hs => by have := q8 s hs; omega⟩, ⟨by omega, fun s hs => by have := q6 s hs; omega⟩, ⟨by omega, fun s hs => by have := q7 s hs; omega⟩⟩
  · have h6 := (key lk hlk).2 r hr
    unfold bigR at h6
    simp only [Bool.or_eq_false_iff, decide_eq_false_iff_not] at h6
    omega
/-- What a law is to tell. -/
def TP (w : World) (e : Ending) (w' : World) : Prop := e = .returned (.bool true) ∧ Below w.heap.size w w'
theorem sol_lo {w : World} {A : Option Addr} {n : Nat} {xs : List Int} (h : Rd w (Sol w) A n xs) : Rd w (lo w.heap.size) A n xs := h.mono (fun b hb => by obtain ⟨cs, t, fr, h, _⟩ := hb; exact (Array.getElem?_eq_some_iff.1 h).1) (Kept.refl _ _)

end Go.Proofs.Ytkoocipagndclaa
