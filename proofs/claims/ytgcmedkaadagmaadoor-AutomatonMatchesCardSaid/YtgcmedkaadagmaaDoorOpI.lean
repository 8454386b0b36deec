/- Opening the arguments: automata, rules and rows, as they are handed in. -/
import Derived.Test.YtgcmedkaadagmaaDoorV3
import Derived.Deep.Slices
import Derived.ChangeArms
import Derived.WideShapes
import Derived.ChangeShapes
import Derived.OpenShut
namespace Go.Proofs.YtgcmedkaadagmaaDoor
open Go.ChangeShapes Go.WideShapes Go.RowKit
theorem addr_plain {w : World} {x : Addr} {v : Value} (h : w.cell? (x.add 0) = some v) : ∃ b o, x = ⟨b, o, none⟩ ∧ b < w.heap.size := by
 obtain ⟨b, o, sp⟩ := x
 have hsp : sp = none := by
  cases sp with
  | none => rfl
  | some s =>
   simp [Addr.add, World.cell?] at h
   split at h <;> simp_all
 subst hsp
 refine ⟨b, o, rfl, ?_⟩
 simp only [Addr.add, if_true] at h
 unfold World.cell? at h
 rcases Nat.lt_or_ge b w.heap.size with hlt | hge
 ·exact hlt
 ·rw [Array.getElem?_eq_none hge] at h; simp at h
theorem add_plain (b o i : Nat) : (⟨b, o, none⟩ : Addr).add i = ⟨b, o + i, none⟩ := by
 unfold Addr.add; split
 ·rename_i h; subst h; rfl
 ·rfl
section
variable {H : Type} {enc : TypeId × Value → H} {w : World} {base : Nat} {spare : Nat → Bool} {held : Bool}
theorem sle_open {α : Type} [Inhabited α] {t e : TypeId} {k : Nat} {E : List Value → α → Prop} {fuel : Nat} {cs : List Value} {x : DataW H × List MemPlace} (ht : Tryd.prog.underlying t = some (.slice e)) (hk : Tryd.prog.cellsOf e = k) (hk0 : 0 < k)
  (hE : ∀ n cs x, DataW.trod enc Tryd.prog w base spare held n e cs = some x → ∃ a : α, E cs a)
  (h : DataW.trod enc Tryd.prog w base spare held fuel t cs = some x) : ∃ A n c xs, cs = [.slice A n c] ∧ SlE k E w (lo w.heap.size) A n xs ∧ Hd n c := by
 rcases Deep.open_slice ht h with ⟨rfl, _⟩ | ⟨a, len, cap, m, n, D, Pl, rfl, _, hl, hm, hmm, _, hi⟩
 ·exact ⟨none, 0, 0, [], rfl, SlE.nil, ⟨Nat.le_refl _, by omega⟩⟩
 ·have hlm : len ≤ m := by rw [hmm]; split <;> omega
  rw [hk] at hi
  have hch : ∀ i, i < len → ∃ y : α, ∃ cs', E cs' y ∧ cs'.length = k ∧ ∀ j, j < k → w.cell? (a.add (i * k + j)) = cs'[j]? := fun i hi' => by
   obtain ⟨cs', h1, h2⟩ := hi i (by omega)
   obtain ⟨y, hy⟩ := hE _ _ _ h2
   obtain ⟨_, h3, h4⟩ := World.cells?_some h1
   exact ⟨y, cs', hy, h3, fun j hj => by rw [← Deep.add_add]; exact h4 j hj⟩
  obtain ⟨g, hg⟩ := Deep.choose_lt hch
  refine ⟨some a, len, cap, (List.range len).map g, rfl, ⟨by simp, fun hn => ?_⟩, hl, by unfold maxLen at hm; omega⟩
  obtain ⟨cs0, _, hl0, hc0⟩ := hg 0 (by omega)
  have h00 := hc0 0 hk0
  rw [List.getElem?_eq_getElem (by omega)] at h00
  simp only [Nat.zero_mul, Nat.add_zero] at h00
  obtain ⟨b, o, rfl, hb⟩ := addr_plain h00
  refine ⟨b, o, rfl, hb, fun i y hy => ?_⟩
  have hil : i < len := by have := (List.getElem?_eq_some_iff.1 hy).1; simpa using this
  simp [hil] at hy
  subst hy
  obtain ⟨cs', h1, h2, h3⟩ := hg i hil
  refine ⟨cs', h1, fun j v hv => ?_⟩
  have hj : j < k := by have := (List.getElem?_eq_some_iff.1 hv).1; omega
  have := h3 j hj
  rw [add_plain, ← Nat.add_assoc] at this
  rw [this]; exact hv
theorem op_ints {n : Nat} {cs : List Value} {x : DataW H × List MemPlace} (h : DataW.trod enc Tryd.prog w base spare held n 23 cs = some x) : ∃ xs, ERow w (lo w.heap.size) cs xs := by
 obtain ⟨A, m, c, xs, e1, h1, h2⟩ := sle_open (α := Int) (E := EInt) (k := 1) Tryd.underlying23 (by kernel_rfl) (by omega) (fun n cs x h => by
  obtain ⟨a, h1, _⟩ := DataW.trod_int Tryd.underlying3 h
  exact ⟨a, h1⟩) h
 exact ⟨xs, A, m, c, e1, h1, h2⟩
end
end Go.Proofs.YtgcmedkaadagmaaDoor
