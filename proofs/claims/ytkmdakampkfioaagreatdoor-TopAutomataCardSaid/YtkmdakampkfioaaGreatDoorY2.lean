/- Words: a maker of fonts in memory. Walks: next. -/
import Derived.Test.YtkmdakampkfioaaGreatDoorRw
import Derived.LoopTactic
import Derived.RegionTactic
import Derived.BigRegion
import Derived.OwnWalk
import Derived.Deep.DeepCutAuto
namespace Go.Proofs.YtkmdakampkfioaaGreatDoor
open Go.RowKit Go.Shelf
structure MSt where
 sA : Option Addr
 sn : Nat
 sc : Nat
 xs : List Int
 f : FV
abbrev MSt.cells (s : MSt) (a : Nat) (l : Int) : Array Value := #[.slice s.sA s.sn s.sc, .int .i64 (a : Int), .int .i64 s.f.u0, .slice s.f.ga s.f.gn s.f.gc, .slice s.f.ca s.f.cn s.f.cc, .slice s.f.la s.f.ln s.f.lc, .slice s.f.a4 s.f.n4 s.f.c4, .slice s.f.a5 s.f.n5 s.f.c5, .slice s.f.a6 s.f.n6 s.f.c6, .slice s.f.a7 s.f.n7 s.f.c7, .slice s.f.a8 s.f.n8 s.f.c8, .int .i64 l]
def Mk (w : World) (gm : Nat) (s : MSt) : Prop := ∃ (a : Nat) (l : Int), a ≤ s.sn ∧ Bk w gm 73 (s.cells a l) ∧ Rd w (lo gm) s.sA s.sn s.xs ∧ Hd s.sn s.sc ∧ 0 ≤ l ∧ l ≤ 2
theorem Mk.lt {w : World} {gm : Nat} {s : MSt} (h : Mk w gm s) : gm < w.heap.size := by
 obtain ⟨a, l, _, h1, _⟩ := h;exact h1.lt
theorem Mk.keep {w w' : World} {gm : Nat} {s : MSt} (h : Mk w gm s) (hk : ∀ b, b ≤ gm → w'.heap[b]? = w.heap[b]?) : Mk w' gm s := by
 obtain ⟨a, l, h0, h1, h2, h3⟩ := h;exact ⟨a, l, h0, (hk gm (Nat.le_refl _)).trans h1, h2.mono (fun _ h => h) (fun b hb => hk b (Nat.le_of_lt hb)), h3⟩
structure Up (gm : Nat) (w w' : World) : Prop where
 gr : w.grownBy w' (some gm)
 st : ∀ s, Mk w gm s → Mk w' gm s
theorem Up.refl (gm : Nat) (w : World) : Up gm w w := ⟨World.grownBy.refl _ _, fun _ h => h⟩
theorem Up.trans {gm : Nat} {a b c : World} (h : Up gm a b) (k : Up gm b c) : Up gm a c := ⟨h.gr.trans k.gr, fun s hs => k.st s (h.st s hs)⟩
theorem Up.size {gm : Nat} {w w' : World} (h : Up gm w w') : w.heap.size ≤ w'.heap.size := h.gr.size
theorem Up.block {gm : Nat} {w w' : World} (h : Up gm w w') {b : Nat} (hb : b < w.heap.size) (hne : b ≠ gm) : w'.heap[b]? = w.heap[b]? := h.gr.block b hb (fun e => hne (by injection e))
theorem Up.drewN {gm : Nat} {a w : World} (h : Up gm a w) (d : Nat) : Up gm a (w.drewN d) := ⟨⟨h.gr.os, h.gr.tape, h.gr.output, h.gr.size, h.gr.block⟩, fun s hs => h.st s hs⟩
theorem Up.drew {gm : Nat} {a w : World} (h : Up gm a w) : Up gm a w.drew := ⟨⟨h.gr.os, h.gr.tape, h.gr.output, h.gr.size, h.gr.block⟩, fun s hs => h.st s hs⟩
theorem Up.alloc {gm : Nat} {a w : World} (h : Up gm a w) (hg : gm < w.heap.size) (o : Obj) : Up gm a (w.alloc o) :=
 ⟨h.gr.trans (World.grownBy_alloc _ _ _), fun s hs => (h.st s hs).keep fun b hb => Below.heap_alloc w o b (by omega)⟩
theorem Up.below {gm B : Nat} {a w w' : World} (h : Up gm a w) (hb : Below B w w') (hB : w.heap.size ≤ B) (hg : gm < w.heap.size) : Up gm a w' :=
 ⟨h.gr.trans ⟨hb.os, hb.tape, hb.output, hb.size, fun k hk _ => hb.block k (by omega)⟩, fun s hs => (h.st s hs).keep fun b hbb => hb.block b (by omega)⟩
theorem Up.bk {gm g : Nat} {w w' : World} {t : TypeId} {cs : Array Value} (h : Up gm w w') (k : Bk w g t cs) (hne : g ≠ gm) : Bk w' g t cs := (h.block k.lt hne).trans k
theorem Up.ow {gm e k base n c : Nat} {w w' : World} {A : Option Addr} {cs : List Value} (h : Up gm w w') (ho : Ow e k w base A n c cs) (hb : gm < base) : Ow e k w' base A n c cs :=
 ho.keep fun b e1 => by
  obtain ⟨h1, h2⟩ := ho.lt b 0 none e1;exact h.block h2 (by omega)
theorem Up.cell {gm : Nat} {w w' : World} {p : Addr} {v : Value} (h : Up gm w w') (hc : w.cell? p = some v) (hne : p.block ≠ gm) : w'.cell? p = some v := (World.cell?_of_block (h.block (cell_lt hc) hne)).trans hc
theorem Mk.cell {w : World} {gm : Nat} {s : MSt} (h : Mk w gm s) (i : Nat) (hi : i ≠ 1 ∧ i < 11) {v : Value} (hv : (s.cells 0 0)[i]? = some v) : w.cell? ⟨gm, i, none⟩ = some v := by
 obtain ⟨a, l, _, h1, _⟩ := h;rw [h1.cell i, ← hv]
 match i, hi with
 | 0, _ => rfl
 | 2, _ => rfl
 | 3, _ => rfl
 | 4, _ => rfl
 | 5, _ => rfl
 | 6, _ => rfl
 | 7, _ => rfl
 | 8, _ => rfl
 | 9, _ => rfl
 | 10, _ => rfl
 | i + 11, h => omega
def Fz (B : Nat) (W : World) (X : List Nat) : Nat → Prop := fun b => B ≤ b ∧ b < W.heap.size ∧ b ∉ X
theorem Fz.up {B gm : Nat} {W W' : World} {X : List Nat} (h : Up gm W W') (hg : gm < B) : Kept (Fz B W X) W W' := fun b hb => h.block hb.2.1 (by have := hb.1; omega)
structure EM {α : Type} (k : Nat) (E : World → (Nat → Prop) → List Value → α → Prop) : Prop where
 mono : ∀ {w w' : World} {S S' : Nat → Prop} {cs : List Value} {x : α}, E w S cs x → (∀ b, S b → S' b) → Kept S w w' → E w' S' cs x
 len : ∀ {w : World} {S : Nat → Prop} {cs : List Value} {x : α}, E w S cs x → cs.length = k
 one : ∀ {w : World} {S : Nat → Prop} {cs : List Value} {x : α}, E w S cs x → ∀ u ∈ cs, u.oneCell' = true
 pos : 0 < k
structure Rg {α : Type} (e k : Nat) (E : World → (Nat → Prop) → List Value → α → Prop) (W : World) (B : Nat) (X : List Nat) (A : Option Addr) (n c : Nat) (css : List (List Value)) (xs : List α) : Prop where
 ow : Ow e k W B A n c css.flatten
 rw : RowOf k (E W (Fz B W X)) css xs
 inX : ∀ b, A.map (·.block) = some b → b ∈ X
section
variable {α : Type} {e k : Nat} {E : World → (Nat → Prop) → List Value → α → Prop} {W W2 W4 : World} {B gm : Nat} {X X' : List Nat} {A A' : Option Addr} {n c c' : Nat} {css : List (List Value)} {xs : List α}
theorem Rg.nil (e k : Nat) (E : World → (Nat → Prop) → List Value → α → Prop) (W : World) (B : Nat) (X : List Nat) : Rg e k E W B X none 0 0 [] [] := ⟨Ow.nil _ _ _ _, RowOf.nil, fun b e => by cases e⟩
theorem Rg.len (hE : EM k E) (h : Rg e k E W B X A n c css xs) : xs.length = n ∧ css.length = n := by
 have hl := h.ow.len;rw [flat_len h.rw.2.1] at hl;have := Nat.eq_of_mul_eq_mul_right hE.pos hl;exact ⟨by rw [← h.rw.1]; exact this, this⟩
theorem Rg.keep (hE : EM k E) (h : Rg e k E W B X A n c css xs) (hs : W.heap.size ≤ W2.heap.size) (hk : ∀ b, B ≤ b → b < W.heap.size → b ∉ X → W2.heap[b]? = W.heap[b]?) (hA : ∀ b, A.map (·.block) = some b → W2.heap[b]? = W.heap[b]?) : Rg e k E W2 B X A n c css xs :=
 ⟨h.ow.keep fun b e1 => hA b (by rw [e1]; rfl), h.rw.mono fun _ _ hx => hE.mono hx (fun b hb => ⟨hb.1, Nat.lt_of_lt_of_le hb.2.1 hs, hb.2.2⟩) (fun b hb => hk b hb.1 hb.2.1 hb.2.2), h.inX⟩
theorem Rg.up (hE : EM k E) (h : Rg e k E W B X A n c css xs) (hu : Up gm W W2) (hg : gm < B) : Rg e k E W2 B X A n c css xs :=
 h.keep hE hu.size (fun b h1 h2 _ => hu.block h2 (by omega)) (fun b e1 => by
  obtain ⟨h1, h2, _⟩ := h.ow.blk b e1;exact hu.block h2 (by omega))
theorem Rg.below (hE : EM k E) (h : Rg e k E W B X A n c css xs) (hb : Below W.heap.size W W2) : Rg e k E W2 B X A n c css xs :=
 h.keep hE hb.size (fun b _ h2 _ => hb.block b h2) (fun b e1 => hb.block b (h.ow.blk b e1).2.1)
theorem Rg.set (hE : EM k E) (h : Rg e k E W B X A n c css xs) {p : Addr} (hp : p.block ∈ X ∨ p.block < B) (hA : A.map (·.block) ≠ some p.block) (u : Value) : Rg e k E (W.setCell p u) B X A n c css xs :=
 h.keep hE (by rw [World.size_setCell]; exact Nat.le_refl _) (fun b h1 _ h3 => Below.heap_setCell _ _ _ _ (by
  intro e1;rcases hp with hp | hp
  ·exact h3 (by rw [e1]; exact hp)
  ·omega)) (fun b e1 => Below.heap_setCell _ _ _ _ (fun e2 => hA (by rw [e1, e2])))
theorem Rg.wide (hE : EM k E) (h : Rg e k E W B X A n c css xs) (hX : ∀ b, B ≤ b → b < W.heap.size → b ∈ X' → b ∈ X) (hA : ∀ b, A.map (·.block) = some b → b ∈ X') : Rg e k E W B X' A n c css xs :=
 ⟨h.ow, h.rw.mono fun _ _ hx => hE.mono hx (fun b hb => ⟨hb.1, hb.2.1, fun h1 => hb.2.2 (hX b hb.1 hb.2.1 h1)⟩) (Kept.refl _ _), hA⟩
theorem Rg.push (hE : EM k E) (h : Rg e k E W2 B X A n c css xs) {m : Nat} {ds : List (List Value)} {ys : List α} (hr : RowOf k (E W2 (Fz B W2 X)) ds ys)
  (ho : Ow e k W4 B A' (n + m) c' (css.flatten ++ ds.flatten)) (hg : W2.grownBy W4 (A.map (·.block))) (hX : ∀ b, B ≤ b → b < W2.heap.size → b ∈ X' → b ∈ X) (hA : ∀ b, A'.map (·.block) = some b → b ∈ X') :
  Rg e k E W4 B X' A' (n + m) c' (css ++ ds) (xs ++ ys) := by
 have kk : ∀ b, b < W2.heap.size → A.map (·.block) ≠ some b → W4.heap[b]? = W2.heap[b]? := fun b h1 h2 => hg.block b h1 (fun e => h2 e.symm);have k1 : Kept (Fz B W2 X) W2 W4 := fun b hb => kk b hb.2.1 (fun e1 => hb.2.2 (h.inX b e1));have hS : ∀ b, Fz B W2 X b → Fz B W4 X' b := fun b hb => ⟨hb.1, Nat.lt_of_lt_of_le hb.2.1 hg.size, fun h1 => hb.2.2 (hX b hb.1 hb.2.1 h1)⟩;refine ⟨by rw [List.flatten_append]; exact ho, (h.rw.mono fun cs x hx => hE.mono hx hS k1).app (hr.mono fun cs x hx => hE.mono hx hS k1), hA⟩
theorem Rg.rd (hE : EM k E) (h : Rg e k E W B X A n c css xs) (S : Nat → Prop) (hS : ∀ b, B ≤ b → b < W.heap.size → b ∉ X → S b) (hA : ∀ b, A.map (·.block) = some b → S b) : SlE k (E W S) W S A n xs := by
 have h1 := h.ow.row (h.rw.mono fun cs x hx => hE.mono hx (fun b hb => hS b hb.1 hb.2.1 hb.2.2) (Kept.refl _ _)) hE.pos;refine ⟨h1.1, fun hn => ?_⟩;obtain ⟨b, o, e1, _, hc⟩ := h1.2 hn;exact ⟨b, o, e1, hA b (by rw [e1]; rfl), hc⟩
end
theorem em_int : EM 1 (fun _ _ cs (x : Int) => EInt cs x) := ⟨fun h _ _ => h, fun h => by rw [h]; rfl, fun h u hu => by rw [h, List.mem_singleton] at hu; rw [hu]; rfl, by omega⟩
theorem em_rows : EM 1 ERow := ⟨fun h hS hk => by obtain ⟨A, n, c, e, h1, h2⟩ := h; exact ⟨A, n, c, e, h1.mono hS hk, h2⟩, fun ⟨_, _, _, e, _⟩ => by rw [e]; rfl, fun ⟨_, _, _, e, _⟩ u hu => by rw [e, List.mem_singleton] at hu; rw [hu]; rfl, by omega⟩
theorem em_rul : EM 6 ERul := ⟨fun h hS hk => h.mono hS hk, fun ⟨_, _, _, _, _, _, _, _, _, _, _, _, _, _, _, e, _⟩ => by rw [e]; rfl, fun ⟨_, _, _, _, _, _, _, _, _, _, _, _, _, _, _, e, _⟩ u hu => by
 rw [e] at hu; simp at hu; rcases hu with rfl | rfl | rfl | rfl | rfl | rfl <;> rfl, by omega⟩
theorem em_lk : EM 3 ELk := ⟨fun h hS hk => by obtain ⟨A, n, c, e, h1, h2⟩ := h; exact ⟨A, n, c, e, h1.mono hS hk, h2⟩, fun ⟨_, _, _, e, _⟩ => by rw [e]; rfl, fun ⟨_, _, _, e, _⟩ u hu => by
 rw [e] at hu; simp at hu; rcases hu with rfl | rfl | rfl <;> rfl, by omega⟩
def NextR (gm n : Nat) (w : World) (e : Ending) (w' : World) : Prop := ∃ r : Nat, e = .returned (.int .i64 (r : Int)) ∧ r < n ∧ Up gm w w'
theorem next_num {x : Int} {n : Nat} (h0 : 0 < n) (hn : n ≤ 1000000) : ∃ (y : Int) (r : Nat), x.tmod (n : Int) = y ∧ -1000000 ≤ y ∧ y ≤ 1000000 ∧ (y + (n : Int)).tmod (n : Int) = (r : Int) ∧ r < n := by
 have h1 : x.tmod (n : Int) < (n : Int) := Int.tmod_lt_of_pos _ (by omega);have h2 : -(n : Int) < x.tmod (n : Int) := Int.lt_tmod_of_pos _ (by omega);have h3 : (x.tmod (n : Int) + (n : Int)).tmod (n : Int) < (n : Int) := Int.tmod_lt_of_pos _ (by omega);have h4 : 0 ≤ (x.tmod (n : Int) + (n : Int)).tmod (n : Int) := Int.tmod_nonneg _ (by omega);exact ⟨_, ((x.tmod (n : Int) + (n : Int)).tmod (n : Int)).toNat, rfl, by omega, by omega, by omega, by omega⟩
theorem bx {w : World} {cs : Array Value} {t : TypeId} {g : Nat} (h : Bk w g t cs) (i : Nat) {v : Value} (hv : cs[i]? = some v) : w.cell? ⟨g, i, none⟩ = some v := (h.cell i).trans hv
theorem Mk.same {w : World} {gm a b : Nat} {l l2 : Int} {s s2 : MSt} (hk : Bk w gm 73 (s.cells a l)) (h1 : Bk w gm 73 (s2.cells b l2)) : s.sn = s2.sn ∧ a = b ∧ l = l2 := by
 have e : s.cells a l = s2.cells b l2 := by
  unfold Bk at hk h1;rw [hk] at h1;injection h1 with h1;injection h1
 injection e with e;simp only [List.cons.injEq, Value.slice.injEq, Value.int.injEq, and_true, true_and] at e;obtain ⟨⟨_, e1, _⟩, e2, _, _, _, _, _, _, _, _, _, e3⟩ := e;exact ⟨e1, by omega, e3⟩
theorem Up.went {w : World} {gm a a' : Nat} {l : Int} {s : MSt} (hk : Bk w gm 73 (s.cells a l)) (ha : a' ≤ s.sn) : Up gm w (w.setCell ⟨gm, 1, none⟩ (.int .i64 (a' : Int))) :=
 ⟨⟨rfl, rfl, rfl, by rw [World.size_setCell]; exact Nat.le_refl _, fun b _ hne => Below.heap_setCell _ _ _ _ (fun e => hne (by rw [e]))⟩, fun s2 h2 => by
  obtain ⟨b, l2, h0, h1, h3, h4⟩ := h2;have hsn := (Mk.same hk h1).1;refine ⟨a', l2, by omega, ?_, h3.mono (fun _ h => h) (fun x hx => Below.heap_setCell _ _ _ _ (Nat.ne_of_lt hx)), h4⟩;exact h1.set_ 1 _⟩
theorem Up.loops (w : World) (gm : Nat) (l : Int) (hl0 : 0 ≤ l) (hl2 : l ≤ 2) : Up gm w (w.setCell ⟨gm, 11, none⟩ (.int .i64 l)) :=
 ⟨⟨rfl, rfl, rfl, by rw [World.size_setCell]; exact Nat.le_refl _, fun b _ hne => Below.heap_setCell _ _ _ _ (fun e => hne (by rw [e]))⟩, fun s2 h2 => by
  obtain ⟨b, l2, h0, h1, h3, h4⟩ := h2;refine ⟨b, l, h0, ?_, h3.mono (fun _ h => h) (fun x hx => Below.heap_setCell _ _ _ _ (Nat.ne_of_lt hx)), h4.1, hl0, hl2⟩;exact h1.set_ 11 _⟩
set_option maxRecDepth 100000 in
set_option maxHeartbeats 1000000 in
theorem bnext_c (gm n : Nat) (s : MSt) (w : World) (h : Mk w gm s) (hn0 : 0 < n) (hn1 : n ≤ 1000000) : Calls Tryz.prog 14 #[.pointer (some ⟨gm, 0, none⟩), .int .i64 (n : Int)] w (NextR gm n w) := by
 obtain ⟨a, l, ha, hk, hx, hd, _⟩ := h;have hl := hx.len;have hd1 := hd.1;have hd2 := hd.2;have hk0 := hk;unfold MSt.cells at hk0;have c0 := bx hk0 0 rfl;have c1 := bx hk0 1 rfl;clear hk0;by_cases hlt : s.sn ≤ a
 ·have t0 : decide ((s.sn : Int) ≤ (a : Int)) = true := by simp; omega
  have t1 : decide (s.sn ≤ a) = true := by simp; omega
  clear hk hx hl ha hlt;go_enter Tryz.func14, Tryz.ntmps14;go_wp2;go_region;go_wp2;go_ret;exact ⟨0, rfl, hn0, (Up.refl _ _).drew⟩
 ·have t0 : decide ((s.sn : Int) ≤ (a : Int)) = false := by simp; omega
  have t1 : decide (s.sn ≤ a) = false := by simp; omega
  obtain ⟨x, hxa⟩ := at_some s.xs a (by omega);obtain ⟨b, o, ea, hb, hc⟩ := hx.pos (by omega);obtain ⟨cs, rfl, hcc⟩ := hc a x hxa;have c2 := hcc 0 _ rfl;rw [Nat.mul_one, Nat.add_zero] at c2;have f1 := hk.frozen 1;have az : (0 : Int) ≤ (a : Int) := by omega
  have an : (a : Int) < (s.sn : Int) := by omega
  have hup := Up.went (a' := a + 1) hk (by omega);rw [show ((a + 1 : Nat) : Int) = (a : Int) + 1 from rfl] at hup;obtain ⟨y, r, ey, y1, y2, er, hr⟩ := next_num (x := x) hn0 hn1;have nz : ¬ ((n : Int) = 0) := by omega
  have nz' : ¬ (n = 0) := by omega
  have HUP := Lib.hid hup;rw [ea] at c0;clear hk hx hc hcc hl ha hlt hup;go_enter Tryz.func14, Tryz.ntmps14;go_wp2;go_region;go_wp2;go_region;go_wp2;go_ret;exact ⟨r, rfl, hr, HUP.out.drew.drew⟩
def bl (A : Option Addr) : List Nat := (A.map (·.block)).toList
theorem bl_in {A : Option Addr} {b : Nat} : b ∈ bl A ↔ A.map (·.block) = some b := by unfold bl; simp
theorem Up.thru {gm B : Nat} {a w w' : World} (h : Up gm a w) (hb : Below B w w') (hB : a.heap.size ≤ B) (hg : gm < a.heap.size) : Up gm a w' :=
 ⟨⟨hb.os.trans h.gr.os, hb.tape.trans h.gr.tape, hb.output.trans h.gr.output, Nat.le_trans h.gr.size hb.size, fun k hk hne => (hb.block k (by omega)).trans (h.gr.block k hk hne)⟩, fun s hs => (h.st s hs).keep fun b hbb => hb.block b (by omega)⟩
theorem rdb {w : World} {base n c : Nat} {A : Option Addr} {xs : List Int} {D : Nat → Prop} (h : Ow 3 1 w base A n c (ic xs)) (hD : ∀ b, A.map (·.block) = some b → D b) : Rd w D A n xs := by
 refine ⟨h.rd.1, fun hn => ?_⟩;obtain ⟨b, o, e1, _, hc⟩ := h.rd.2 hn;exact ⟨b, o, e1, hD b (by rw [e1]; rfl), hc⟩
section
variable {α : Type} {e k : Nat} {E : World → (Nat → Prop) → List Value → α → Prop} {W W2 W4 : World} {B gm : Nat} {Y : List Nat} {A A' : Option Addr} {n c c' : Nat} {css : List (List Value)} {xs : List α}
theorem Rg.more (hE : EM k E) (h : Rg e k E W2 B (bl A ++ Y) A n c css xs) {m : Nat} {ds : List (List Value)} {ys : List α} (hr : RowOf k (E W2 (Fz B W2 (bl A ++ Y))) ds ys)
  (ho : Ow e k W4 B A' (n + m) c' (css.flatten ++ ds.flatten)) (hg : W2.grownBy W4 (A.map (·.block))) (hat : A'.map (·.block) = A.map (·.block) ∨ A'.map (·.block) = some W2.heap.size) :
  Rg e k E W4 B (bl A' ++ Y) A' (n + m) c' (css ++ ds) (xs ++ ys) :=
 h.push hE hr ho hg (fun b _ h2 h3 => by
  rcases List.mem_append.1 h3 with h3 | h3
  ·rw [bl_in] at h3;rcases hat with e1 | e1
   ·exact List.mem_append_left _ (bl_in.2 (e1.symm.trans h3))
   ·rw [h3] at e1; injection e1 with e1; omega
  ·exact List.mem_append_right _ h3) (fun b h1 => List.mem_append_left _ (bl_in.2 h1))
theorem Rg.push1 (hE : EM k E) (h : Rg e k E W2 B (bl A ++ Y) A n c css xs) {cs : List Value} {y : α} (hr : E W2 (Fz B W2 (bl A ++ Y)) cs y)
  (ho : Ow e k W4 B A' (n + 1) c' (css.flatten ++ cs)) (hg : W2.grownBy W4 (A.map (·.block))) (hat : A'.map (·.block) = A.map (·.block) ∨ A'.map (·.block) = some W2.heap.size) :
  Rg e k E W4 B (bl A' ++ Y) A' (n + 1) c' (css ++ [cs]) (xs ++ [y]) :=
 h.more hE (RowOf.one hr (hE.len hr)) (by simpa using ho) hg hat
end
theorem bl_lt {e k : Nat} {w : World} {base n c : Nat} {A : Option Addr} {cs : List Value} (h : Ow e k w base A n c cs) : ∀ b ∈ bl A, base ≤ b ∧ b < w.heap.size := fun b hb => by
 obtain ⟨h1, h2, _⟩ := h.blk b (bl_in.1 hb);exact ⟨h1, h2⟩
def SetR (gm : Nat) (w : World) (e : Ending) (w' : World) : Prop := ∃ A n c xs, e = .returned (.slice A n c) ∧ n ≤ 4 ∧ Ow 3 1 w' w.heap.size A n c (ic xs) ∧ Up gm w w'
theorem Ow.new (e k : Nat) (w : World) (base : Nat) (cs : List Value) (hl : cs.length = k) (hb : base ≤ w.heap.size) : Ow e k (w.alloc (.cells cs.toArray e)) base (some ⟨w.heap.size, 0, none⟩) 1 1 cs :=
 ⟨by omega, .inr ⟨w.heap.size, 1, cs.toArray, rfl, hb, heap_alloc_new w _, Nat.le_refl _, by unfold maxLen; omega, by simp [hl], by show cs.take (1 * k) = cs; rw [Nat.one_mul, ← hl, List.take_length]⟩⟩
set_option maxRecDepth 100000 in
set_option maxHeartbeats 1000000 in
theorem bset_c (gm : Nat) (s : MSt) (w : World) (h : Mk w gm s) (hn0 : 0 < s.f.gn) (hn1 : s.f.gn ≤ 1000) : Calls Tryz.prog 58 #[.pointer (some ⟨gm, 0, none⟩)] w (SetR gm w) := by
 have hg := h.lt;have c3 : w.cell? ⟨gm, 3, none⟩ = some (.slice s.f.ga s.f.gn s.f.gc) := h.cell 3 (by decide) rfl;have HN := Lib.hid (bnext_c gm s.f.gn s w h hn0 (by omega));have HK := Lib.hid fun (W : World) (hu : Up gm w W) => bnext_c gm 3 s W (hu.st s h) (by omega) (by omega);obtain ⟨gn, hgn⟩ : ∃ n, s.f.gn = n := ⟨_, rfl⟩;rw [hgn] at HN c3 hn0 hn1;clear h hgn;go_enter Tryz.func58, Tryz.ntmps58;go_wp2_with fail;refine HN.out.mono ?_;rintro e w1 ⟨a, rfl, ha, hu1⟩;clear HN c3;have ho1 : Ow 3 1 (w1.alloc (.cells #[.int .i64 (a : Int)] 3)) w.heap.size (some ⟨w1.heap.size, 0, none⟩) 1 1 (ic [(a : Int)]) := Ow.new 3 1 w1 w.heap.size [.int .i64 (a : Int)] rfl hu1.size;have hu2 : Up gm w (w1.alloc (.cells #[.int .i64 (a : Int)] 3)) := hu1.alloc (by have := hu1.size; omega) _;go_upto_region 5 with fail;generalize w1.alloc (.cells #[.int .i64 (a : Int)] 3) = w2 at *;generalize (some ⟨w1.heap.size, 0, none⟩ : Option Addr) = A0 at *;clear hu1;go_loopw [5, 6] (fun ov iv wr => ∃ (m : Nat) (A : Option Addr) (c : Nat) (xs : List Int) (i : Nat), ov = .slice A m c ∧ iv = .int .i64 (i : Int) ∧ m ≤ 4 ∧ i ≤ gn ∧ Ow 3 1 wr w.heap.size A m c (ic xs) ∧ Up gm w wr) (fun _ iv _ => gn - (intOf iv).toNat)
 case atStart => exact ⟨1, _, 1, _, a + 1, rfl, by go_num, by omega, by omega, ho1, hu2⟩
 case round =>
  clear ho1 hu2 ha;obtain ⟨m, A, c, xs, i, rfl, rfl, hm, hi, ho, hu⟩ := hrel;have hsz := hu.size;by_cases hlt : i < gn
  ·have in0 : (i : Int) < (gn : Int) := by omega
   by_cases hm4 : m < 4
   ·have m4 : (m : Int) < 4 := by omega
    have HN := Lib.hid (HK.out wr hu);go_wp2_with fail;refine HN.out.mono ?_;rintro e w3 ⟨r, rfl, hr, hu3⟩;have ho3 := hu3.ow ho hg;have hu4 := hu.trans hu3;clear HN ho hu hu3 hsz;by_cases hr0 : r = 0
    ·subst hr0;have hs3 : w.heap.size ≤ (w3.alloc (.cells #[.int .i64 (i : Int)] 3)).heap.size := by rw [World.size_alloc]; have := hu4.size; omega
     go_wp2_with (at_builtin; refine appP elt_int rfl _ _ rfl (w3.alloc (.cells #[.int .i64 (i : Int)] 3)) w.heap.size _ _ _ (ic xs) _ 1 1 [.int .i64 (i : Int)] (by rfl) (by rfl) (ho3.alloc _) rfl (fun _ => news_new _ _ _ (by omega)) (by simp [Value.oneCell']) (by omega) hs3 ?_; intro A' c' W4 ho4 hg4 hb4 hat4);have hu5 : Up gm w W4 := (hu4.alloc (by have := hu4.size; omega) _).thru hb4 (Nat.le_refl _) hg;clear hg4 hb4 hat4 ho3 hu4 hs3;go_roundw
     case rel => exact ⟨m + 1, A', c', xs ++ [(i : Int)], i + 1, rfl, by go_num, by omega, by omega, by rw [ic_app]; exact ho4, hu5⟩
     case measure => simp [intOf]; omega
    ·have r0 : ((r : Int) == 0) = false := by simp; omega
     have r0' : (r == 0) = false := by simpa using hr0
     clear hr0;go_wp2;go_roundw
     case rel => exact ⟨m, A, c, xs, i + 1, rfl, by go_num, by omega, by omega, ho3, hu4⟩
     case measure => simp [intOf]; omega
   ·have m4 : ¬ (m : Int) < 4 := by omega
    go_wp2;go_ret;exact ⟨A, m, c, xs, rfl, hm, ho, hu⟩
  ·have in0 : ¬ (i : Int) < (gn : Int) := by omega
   go_wp2;go_ret;exact ⟨A, m, c, xs, rfl, hm, ho, hu⟩
def RowR (gm most : Nat) (w : World) (e : Ending) (w' : World) : Prop := ∃ A n c css xss, e = .returned (.slice A n c) ∧ n ≤ most ∧ Rg 22 1 ERow w' w.heap.size (bl A ++ []) A n c css xss ∧ (∀ xs ∈ xss, xs.length ≤ 4) ∧ Up gm w w'
theorem erow_of {w w2 : World} {B : Nat} {X : List Nat} {A : Option Addr} {n c : Nat} {xs : List Int} (h : Ow 3 1 w2 w.heap.size A n c (ic xs)) (hB : B ≤ w.heap.size) (hX : ∀ b ∈ X, b < w.heap.size) : ERow w2 (Fz B w2 X) [.slice A n c] xs :=
 ⟨A, n, c, rfl, rdb h (fun b e1 => by
  obtain ⟨h1, h2, _⟩ := h.blk b e1;exact ⟨by omega, h2, fun h3 => by have := hX b h3; omega⟩), h.cap⟩
set_option maxRecDepth 100000 in
set_option maxHeartbeats 1000000 in
theorem brow_c (gm most : Nat) (s : MSt) (w : World) (h : Mk w gm s) (hn0 : 0 < s.f.gn) (hn1 : s.f.gn ≤ 1000) (hmo : most ≤ 1000) : Calls Tryz.prog 59 #[.pointer (some ⟨gm, 0, none⟩), .int .i64 (most : Int)] w (RowR gm most w) := by
 have hg := h.lt;have HN := Lib.hid (bnext_c gm (most + 1) s w h (by omega) (by omega));rw [show ((most + 1 : Nat) : Int) = (most : Int) + 1 from rfl] at HN;have HK := Lib.hid fun (W : World) (hu : Up gm w W) => bset_c gm s W (hu.st s h) hn0 hn1;clear h hn0 hn1;go_enter Tryz.func59, Tryz.ntmps59;go_wp2_with fail;refine HN.out.mono ?_;rintro e w1 ⟨a, rfl, ha, hu1⟩;clear HN;go_upto_region 4 with fail;go_loopw [5, 7] (fun ov iv wr => ∃ (i : Nat) (A : Option Addr) (c : Nat) (css : List (List Value)) (xss : List (List Int)), ov = .slice A i c ∧ iv = .int .i64 (i : Int) ∧ i ≤ a ∧ Rg 22 1 ERow wr w.heap.size (bl A ++ []) A i c css xss ∧ (∀ xs ∈ xss, xs.length ≤ 4) ∧ Up gm w wr) (fun _ iv _ => a - (intOf iv).toNat)
 case atStart => exact ⟨0, none, 0, [], [], rfl, rfl, by omega, Rg.nil _ _ _ _ _ _, (fun xs h => by cases h), hu1⟩
 case round =>
  clear hu1;obtain ⟨i, A, c, css, xss, rfl, rfl, hi, hrg, hl4, hu⟩ := hrel;by_cases hlt : i < a
  ·have in0 : (i : Int) < (a : Int) := by omega
   have HN := Lib.hid (HK.out wr hu);go_wp2_with fail;refine HN.out.mono ?_;rintro e w3 ⟨As, ms, cs, xs, rfl, hms, hos, hu3⟩;have hrg3 := hrg.up em_rows hu3 hg;have hX : ∀ b ∈ bl A ++ [], b < wr.heap.size := fun b hb => by rw [List.append_nil] at hb; exact (bl_lt hrg.ow b hb).2
   have her := erow_of hos hu.size hX;have hu4 := hu.trans hu3;have hxl : xs.length ≤ 4 := by have := hos.len; rw [ic_len] at this; omega
   clear HN hrg hu hu3 hos hX;have bz : Below w3.heap.size w3 (w3.alloc (.cells #[.slice As ms cs] 22)) := below_lit _ _ (Below.refl _ _) _;have hrg4 := hrg3.below em_rows bz;have her4 : ERow (w3.alloc (.cells #[.slice As ms cs] 22)) (Fz w.heap.size (w3.alloc (.cells #[.slice As ms cs] 22)) (bl A ++ [])) [.slice As ms cs] xs := em_rows.mono her (fun b hb => ⟨hb.1, Nat.lt_of_lt_of_le hb.2.1 bz.size, hb.2.2⟩) (fun b hb => bz.block b hb.2.1);have hs3 : w.heap.size ≤ (w3.alloc (.cells #[.slice As ms cs] 22)).heap.size := by have := hu4.size; have := bz.size; omega
   have HOW := Lib.hid hrg4.ow;go_wp2_with (at_builtin; refine appP elt_row rfl _ _ rfl (w3.alloc (.cells #[.slice As ms cs] 22)) w.heap.size _ _ _ css.flatten _ 1 1 [.slice As ms cs] (by rfl) (by rfl) HOW.out rfl (fun _ => news_new _ _ _ (by omega)) (by simp [Value.oneCell']) (by omega) hs3 ?_; intro A' c' W4 ho4 hg4 hb4 hat4);have hrg5 := hrg4.push1 em_rows her4 ho4 hg4 hat4;have hu5 : Up gm w W4 := (hu4.alloc (by have := hu4.size; omega) _).thru hb4 (Nat.le_refl _) hg;clear ho4 hg4 hb4 hat4 hrg3 hrg4 her her4 hu4 hs3 HOW bz;go_roundw
   case rel => exact ⟨i + 1, A', c', _, xss ++ [xs], rfl, by go_num, by omega, hrg5, (fun y hy => by
    rcases List.mem_append.1 hy with hy | hy
    ·exact hl4 y hy
    ·rw [List.mem_singleton] at hy; rw [hy]; exact hxl), hu5⟩
   case measure => simp [intOf]; omega
  ·have in0 : ¬ (i : Int) < (a : Int) := by omega
   go_wp2;go_ret;exact ⟨A, i, c, css, xss, rfl, by omega, hrg, hl4, hu⟩
end Go.Proofs.YtkmdakampkfioaaGreatDoor
