/- Walks: ScriptVowels. -/
import Derived.Test.YtdacfcfgikllpaaW20
namespace Go.Proofs.Ytdacfcfgikllpaa
open Go.RowKit

def mkV (m : Int) : Int := 58368 + m % 256
theorem kind_mkV (m : Int) : kind (mkV m) = 5 := by unfold kind mkV; omega
theorem kind_mkC (m : Int) (h1 : 0 ≤ m) (h2 : m ≤ 255) : kind (58112 + m) = 4 := by unfold kind; omega
theorem ow_far {w w' : World} {base n c g : Nat} {A : Option Addr} {xs : List Int} (h : Ow w base (some ⟨g, 0, none⟩) n c xs) (hg : w.grownBy w' (A.map (·.block))) (hne : ∀ b, A.map (·.block) = some b → b ≠ g) : Ow w' base (some ⟨g, 0, none⟩) n c xs :=
  h.keep fun b e => by
    injection e with e; injection e with e1; subst e1
    exact hg.block g (h.lt g 0 none rfl).2 (fun e2 => hne g e2.symm rfl)

/-- The three rows that ScriptVowels makes: each in a block of its own. -/
structure V3 (w : World) (base : Nat) (g1 n1 c1 : Nat) (x1 : List Int) (g2 n2 c2 : Nat) (x2 : List Int) (g3 n3 c3 : Nat) (x3 : List Int) : Prop where
  o1 : Ow w base (some ⟨g1, 0, none⟩) n1 c1 x1
  o2 : Ow w base (some ⟨g2, 0, none⟩) n2 c2 x2
  o3 : Ow w base (some ⟨g3, 0, none⟩) n3 c3 x3
  d12 : g1 ≠ g2
  d13 : g1 ≠ g3
  d23 : g2 ≠ g3
theorem V3.app1 {w w' : World} {base g1 n1 c1 g2 n2 c2 g3 n3 c3 : Nat} {x1 x2 x3 : List Int} (h : V3 w base g1 n1 c1 x1 g2 n2 c2 x2 g3 n3 c3 x3) {g n c : Nat} {x : List Int}
    (ho : Ow w' base (some ⟨g, 0, none⟩) n c x) (hg : w.grownBy w' (some g1)) (hat : some g1 = some g ∨ w.heap.size ≤ g) : V3 w' base g n c x g2 n2 c2 x2 g3 n3 c3 x3 := by
  have l2 := h.o2.lt g2 0 none rfl
  have l3 := h.o3.lt g3 0 none rfl
  have e12 := h.d12
  have e13 := h.d13
  refine ⟨ho, h.o2.keep (fun b e => ?_), h.o3.keep (fun b e => ?_), ?_, ?_, h.d23⟩
  · injection e with e; injection e with e1; subst e1; exact hg.block g2 l2.2 (by simp; omega)
  · injection e with e; injection e with e1; subst e1; exact hg.block g3 l3.2 (by simp; omega)
  · rcases hat with e | e
    · injection e with e; omega
    · omega
  · rcases hat with e | e
    · injection e with e; omega
    · omega
theorem V3.rot {w : World} {base g1 n1 c1 g2 n2 c2 g3 n3 c3 : Nat} {x1 x2 x3 : List Int} (h : V3 w base g1 n1 c1 x1 g2 n2 c2 x2 g3 n3 c3 x3) : V3 w base g2 n2 c2 x2 g3 n3 c3 x3 g1 n1 c1 x1 := ⟨h.o2, h.o3, h.o1, h.d23, h.d12.symm, h.d13.symm⟩

theorem ints_range (k : Nat) : ints (List.range' 1 (k + 1)) = ints (List.range' 1 k) ++ [((k : Int) + 1)] := by
  rw [range'_snoc, ints_app]; simp [ints]; omega
theorem ints_range0 (k : Nat) : ints (List.range (k + 1 + 1)) = ints (List.range (k + 1)) ++ [((k : Int) + 1)] := by
  rw [List.range_succ, ints_app]; simp [ints]

end Go.Proofs.Ytdacfcfgikllpaa
