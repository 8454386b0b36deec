/- Words: automata of the laws' own: rows in the making, several at once. -/
import Derived.Test.YtgcmedkaadagmaaDoorL5
namespace Go.Proofs.YtgcmedkaadagmaaDoor
open Go.RowKit Go.Shelf Go.Maps

/-- Of an automaton the first twelve glyphs, eight states of eight classes, nine ends. -/
def fewA (a : Au) : Au := ⟨a.cls.take 12, (a.fore.take 8).map (·.take 8), (a.back.take 8).map (·.take 8), a.fe.take 9, a.be.take 9⟩
theorem rd_news {w : World} {S : Nat → Prop} {A : Option Addr} {n : Nat} {xs : List Int} (h : Rd w S A n xs) : 0 < n → ∃ b o, A = some ⟨b, o, none⟩ ∧ ∀ j u, (ic xs)[j]? = some u → w.cell? ⟨b, o + j, none⟩ = some u := fun hn => by
 obtain ⟨b, o, e, _, hc⟩ := h.pos hn
 refine ⟨b, o, e, fun j u hu => ?_⟩
 unfold ic at hu
 rw [List.getElem?_map] at hu
 cases hx : xs[j]? with
 | none => rw [hx] at hu; cases hu
 | some x =>
  rw [hx] at hu; injection hu with hu; subst hu
  obtain ⟨cs, rfl, h2⟩ := hc j x hx
  have := h2 0 _ rfl
  rw [Nat.mul_one, Nat.add_zero] at this
  exact this
theorem rdU_news {w : World} {S : Nat → Prop} {A : Option Addr} {n : Nat} {xs : List Nat} (h : RdU w S A n xs) : 0 < n → ∃ b o, A = some ⟨b, o, none⟩ ∧ ∀ j u, (uc xs)[j]? = some u → w.cell? ⟨b, o + j, none⟩ = some u := fun hn => by
 obtain ⟨b, o, e, _, hc⟩ := h.pos hn
 refine ⟨b, o, e, fun j u hu => ?_⟩
 unfold uc at hu
 rw [List.getElem?_map] at hu
 cases hx : xs[j]? with
 | none => rw [hx] at hu; cases hu
 | some x =>
  rw [hx] at hu; injection hu with hu; subst hu
  obtain ⟨cs, ⟨rfl, _⟩, h2⟩ := hc j x hx
  have := h2 0 _ rfl
  rw [Nat.mul_one, Nat.add_zero] at this
  exact this
theorem Ow.ne_types {e e' k k' : Nat} {w : World} {base base' n n' c c' : Nat} {A B : Option Addr} {cs ds : List Value} (h : Ow e k w base A n c cs) (h' : Ow e' k' w base' B n' c' ds) (hne : e ≠ e') : ∀ b, A = some ⟨b, 0, none⟩ → B.map (·.block) ≠ some b := fun b ea eb => by
 exact tag_ne (h.tag (b := b) (by rw [ea]; rfl)) (h'.tag eb) (fun e2 => hne (by omega))
/-- A block of cells that can be stored to. -/
def Plain (w : World) (b : Nat) : Prop := ∃ cur e, w.heap[b]? = some (.cells cur e (0, 0))
theorem Plain.eq {w w' : World} {b : Nat} (h : Plain w b) (e : w'.heap[b]? = w.heap[b]?) : Plain w' b := by
 obtain ⟨cur, t, h1⟩ := h
 exact ⟨cur, t, e.trans h1⟩
theorem Ow.plain {e k : Nat} {w : World} {base n c : Nat} {A : Option Addr} {cs : List Value} (h : Ow e k w base A n c cs) {b : Nat} (hb : A.map (·.block) = some b) : Plain w b := by
 obtain ⟨cur, h1⟩ := (h.blk b hb).2.2.2
 exact ⟨cur, e, h1⟩
/-- Rows of rows in the making. -/
structure FwL (w W : World) (B gA : Nat) (D : Nat → Prop) (A : Option Addr) (n c : Nat) (css : List (List Value)) (xss : List (List Int)) : Prop where
 ow : Ow 23 1 W B A n c css.flatten
 rw : RowOf 1 (ERow W D) css xss
 dl : ∀ b, D b → b < W.heap.size ∧ A.map (·.block) ≠ some b ∧ b ≠ gA
 bl : Below B w W
 pl : ∀ b, D b → Plain W b
section
variable {w W W2 : World} {B gA : Nat} {D : Nat → Prop} {A : Option Addr} {n c : Nat} {css : List (List Value)} {xss : List (List Int)}
theorem FwL.call (h : FwL w W B gA D A n c css xss) (hB : B ≤ W.heap.size) (hb : Below W.heap.size W W2) : FwL w W2 B gA D A n c css xss :=
 ⟨h.ow.call hb, h.rw.mono fun _ _ hx => hx.mono (fun _ h => h) (fun b hd => hb.block b (h.dl b hd).1), fun b hd => ⟨Nat.lt_of_lt_of_le (h.dl b hd).1 hb.size, (h.dl b hd).2⟩, h.bl.trans (hb.mono hB), fun b hd => (h.pl b hd).eq (hb.block b (h.dl b hd).1)⟩
theorem FwL.rd (h : FwL w W B gA D A n c css xss) : RdV W (lo W.heap.size) A n xss := h.ow.row (h.rw.mono fun cs x hx => hx.mono (fun b hd => (h.dl b hd).1) (Kept.refl _ _)) (by omega)
/-- One row more. -/
theorem FwL.push (h : FwL w W B gA D A n c css xss) (hB : B ≤ W.heap.size) (hgB : B ≤ gA) (hgA : gA < W.heap.size) (hgt : A.map (·.block) ≠ some gA) (hb : Below W.heap.size W W2) {Ar : Option Addr} {m cr : Nat} {xs : List Int} (hr : Ow 3 1 W2 W.heap.size Ar m cr (ic xs)) {o : Obj} {W4 : World} {A' : Option Addr} {c' i : Nat}
  (ho : Ow 23 1 W4 B A' (n + 1) c' (css.flatten ++ [.slice Ar m cr])) (hg : (W2.alloc o).grownBy W4 (A.map (·.block))) (hb4 : Below B (W2.alloc o) W4) (hat : A'.map (·.block) = A.map (·.block) ∨ A'.map (·.block) = some (W2.alloc o).heap.size) (u : Value) :
  FwL w (W4.setCell ⟨gA, i, none⟩ u) B gA (fun b => D b ∨ Ar.map (·.block) = some b) A' (n + 1) c' (css ++ [[.slice Ar m cr]]) (xss ++ [xs]) ∧ (∀ b, b < W.heap.size → A.map (·.block) ≠ some b → b ≠ gA → (W4.setCell ⟨gA, i, none⟩ u).heap[b]? = W.heap[b]?) ∧ (∀ b, b < W.heap.size → A.map (·.block) ≠ some b → W4.heap[b]? = W.heap[b]?) ∧ (∀ b, A'.map (·.block) = some b → b ≠ gA) := by
 have s1 := hb.size
 have s4 := hg.size
 rw [World.size_alloc] at s4
 have al : ∀ b, A.map (·.block) = some b → b < W.heap.size := fun b e => (h.ow.blk b e).2.1
 have kk : ∀ b, b < W2.heap.size → A.map (·.block) ≠ some b → W4.heap[b]? = W2.heap[b]? := fun b h1 h2 => by
  rw [hg.block b (by rw [World.size_alloc]; omega) (fun e => h2 e.symm), Below.heap_alloc W2 o b h1]
 have k0 : ∀ b, b < W.heap.size → A.map (·.block) ≠ some b → W4.heap[b]? = W.heap[b]? := fun b h1 h2 => (kk b (by omega) h2).trans (hb.block b h1)
 have kg : ∀ b, b ≠ gA → (W4.setCell ⟨gA, i, none⟩ u).heap[b]? = W4.heap[b]? := fun b hb => Below.heap_setCell W4 ⟨gA, i, none⟩ u b hb
 have hD2 : ∀ b, Ar.map (·.block) = some b → W.heap.size ≤ b ∧ b < W2.heap.size := fun b e => ⟨(hr.blk b e).1, (hr.blk b e).2.1⟩
 have k1 : Kept D W (W4.setCell ⟨gA, i, none⟩ u) := fun b hd => (kg b (h.dl b hd).2.2).trans (k0 b (h.dl b hd).1 (h.dl b hd).2.1)
 have k2 : Kept (fun b => Ar.map (·.block) = some b) W2 (W4.setCell ⟨gA, i, none⟩ u) := fun b e => by
  obtain ⟨h1, h2⟩ := hD2 b e
  exact (kg b (by omega)).trans (kk b h2 (fun e2 => by have := al b e2; omega))
 have hA' : ∀ b, A'.map (·.block) = some b → b ≠ gA := fun b e => by
  rcases hat with e2 | e2
  ·exact fun e3 => hgt (by rw [← e2, e, e3])
  ·rw [e2, World.size_alloc] at e; injection e with e; omega
 have hrd := hr.rd
 have hrs : Rd W2 (fun b => Ar.map (·.block) = some b) Ar m xs := by
  refine ⟨hrd.1, fun hm => ?_⟩
  obtain ⟨b, o2, e, _, hc⟩ := hrd.2 hm
  exact ⟨b, o2, e, by rw [e]; rfl, hc⟩
 have hcap := hr.cap
 refine ⟨⟨?_, (h.rw.mono fun cs x hx => hx.mono (fun b hb => .inl hb) k1).app (RowOf.one ⟨Ar, m, cr, rfl, hrs.mono (fun b hb => .inr hb) k2, hcap⟩ rfl), fun b hd => ?_, ?_, fun b hd => ?_⟩, fun b h1 h2 h3 => (kg b h3).trans (k0 b h1 h2), k0, hA'⟩
 ·rw [List.flatten_append]
  exact (show Ow 23 1 W4 B A' (n + 1) c' (css.flatten ++ [.slice Ar m cr]) from ho).setOther (p := ⟨gA, i, none⟩) (fun b e => hA' b (by rw [e]; rfl)) u
 ·have h3 : b < W2.heap.size ∧ A.map (·.block) ≠ some b ∧ b ≠ gA := by
   rcases hd with hd | hd
   ·exact ⟨by have := (h.dl b hd).1; omega, (h.dl b hd).2⟩
   ·obtain ⟨h1, h2⟩ := hD2 b hd
    exact ⟨h2, fun e => by have := al b e; omega, by omega⟩
  refine ⟨by simp; omega, fun e => ?_, h3.2.2⟩
  rcases hat with e2 | e2
  ·exact h3.2.1 (by rw [← e2]; exact e)
  ·rw [e2, World.size_alloc] at e; injection e with e; omega
 ·exact (((h.bl.trans (hb.mono hB)).trans (((Below.refl W2.heap.size W2).alloc (Nat.le_refl _) o).mono (by omega))).trans hb4).setCell (p := ⟨gA, i, none⟩) hgB u
 ·rcases hd with hd | hd
  ·exact (h.pl b hd).eq (k1 b hd)
  ·exact (hr.plain hd).eq (k2 b hd)
end

end Go.Proofs.YtgcmedkaadagmaaDoor
