/- Words: in the midst of agree: the rows, the map of what is open, what is yet to be gone on with. -/
import Derived.Test.YtkmdakampkfioaaGreatDoorV14
import Derived.Test.YtkmdakampkfioaaGreatDoorV15
namespace Go.Proofs.YtkmdakampkfioaaGreatDoor
open Go.RowKit Go.Shelf Go.Maps
theorem Ow.shrink {e k : Nat} {w : World} {base n m c : Nat} {A : Option Addr} {cs ds : List Value} (h : Ow e k w base A (n + m) c (cs ++ ds)) (hl : cs.length = n * k) (hA : A ≠ none) : Ow e k w base A n c cs := by
 refine ⟨hl, ?_⟩;rcases h.2 with ⟨e1, _⟩ | ⟨g, cap, cur, e1, hg, hh, hle, hm, hs, ht⟩
 ·injection e1 with e1; exact absurd e1 hA
 ·injection e1 with e2 e3 e4;refine .inr ⟨g, cap, cur, by rw [e2, e4], hg, hh, by omega, hm, hs, ?_⟩;have h1 := congrArg (List.take (n * k)) ht;rw [List.take_take, Nat.min_eq_left (Nat.mul_le_mul_right k (by omega)), List.take_left' hl] at h1;exact h1
def stC (todo : List (PS × Nat)) : List (List Value) := todo.map fun x => [.int .i64 (x.1.1.1 : Int), .int .u64 (x.1.1.2 : Int), .int .i64 x.1.2, .int .u64 (x.2 : Int)]
theorem stC_four (todo : List (PS × Nat)) : ∀ cs ∈ stC todo, cs.length = 4 := by intro cs h; obtain ⟨p, _, rfl⟩ := List.mem_map.1 h; rfl
theorem stC_len (todo : List (PS × Nat)) : (stC todo).length = todo.length := by simp [stC]
theorem stC_flat (todo : List (PS × Nat)) : (stC todo).flatten.length = todo.length * 4 := by rw [flat_len (stC_four todo), stC_len]
theorem stC_snoc (todo : List (PS × Nat)) (x : PS × Nat) : (stC (todo ++ [x])).flatten = (stC todo).flatten ++ [.int .i64 (x.1.1.1 : Int), .int .u64 (x.1.1.2 : Int), .int .i64 x.1.2, .int .u64 (x.2 : Int)] := by
 unfold stC; rw [List.map_append, List.flatten_append]; rfl
theorem stC_at {todo : List (PS × Nat)} {i : Nat} {x : PS × Nat} (h : todo[i]? = some x) : (stC todo)[i]? = some [.int .i64 (x.1.1.1 : Int), .int .u64 (x.1.1.2 : Int), .int .i64 x.1.2, .int .u64 (x.2 : Int)] := by unfold stC; rw [List.getElem?_map, h]; rfl
structure GV where
 D : Nat → Prop
 la : Option Addr
 ln : Nat
 lc : Nat
 fl : List (PS × Value)
 f : PS → Nat
 ta : Option Addr
 tc : Nat
 todo : List (PS × Nat)
structure GB where
 P : Nat
 RB : Nat
 AB : Nat
 OB : Nat
 TB : Nat
 mb : Nat
structure AG (W : World) (B : Nat) (r : WV) (rows : List (List (List Int))) (cls : List Int) (rv : RV) (g : GB) (s : GV) : Prop where
 ro : RO W B s.D g.P r rows cls s.la s.ln s.lc
 kr : Bk W g.RB 126 #[.pointer (some ⟨g.P, 0, none⟩)]
 ka : Bk W g.AB 100 rv.cells
 ko : Bk W g.OB 145 #[.map (some g.mb)]
 kt : Bk W g.TB 146 #[.slice s.ta s.todo.length s.tc]
 mp : MapK kvP W g.mb s.fl
 fl : ∀ x, (lkK s.fl x).getD (.int .u64 0) = .int .u64 (s.f x : Int)
 flt : ∀ x, s.f x < 18446744073709551616
 ot : Ow 151 4 W B s.ta s.todo.length s.tc (stC s.todo).flatten
 bT : B ≤ g.TB
 bm : B ≤ g.mb
 nT : ¬ s.D g.TB
 nm : ¬ s.D g.mb
 nt : ∀ b, s.ta.map (·.block) = some b → ¬ s.D b
def AG.use (g : GB) (s : GV) (b : Nat) : Prop := s.D b ∨ (b = g.P ∨ s.la.map (·.block) = some b) ∨ b = g.RB ∨ b = g.AB ∨ b = g.OB ∨ b = g.TB ∨ b = g.mb ∨ s.ta.map (·.block) = some b
section
variable {W W' : World} {B : Nat} {r : WV} {rows : List (List (List Int))} {cls : List Int} {rv : RV} {g : GB} {s : GV}
theorem AG.lt (h : AG W B r rows cls rv g s) {b : Nat} (hb : AG.use g s b) : b < W.heap.size := by
 rcases hb with hb | (rfl | hb) | rfl | rfl | rfl | rfl | rfl | hb
 ·exact h.ro.dl b hb
 ·exact h.ro.lt
 ·exact (h.ro.ltl b hb).1
 ·exact h.kr.lt
 ·exact h.ka.lt
 ·exact h.ko.lt
 ·exact h.kt.lt
 ·exact h.mp.lt
 ·exact (h.ot.blk b hb).2.1
theorem AG.tags (h : AG W B r rows cls rv g s) : tagOf W g.RB = some (126 + 1) ∧ tagOf W g.AB = some (100 + 1) ∧ tagOf W g.OB = some (145 + 1) ∧ tagOf W g.TB = some (146 + 1) ∧ tagOf W g.mb = some 0 ∧ (∀ b, s.ta.map (·.block) = some b → tagOf W b = some (151 + 1)) :=
 ⟨h.kr.tag, h.ka.tag, h.ko.tag, h.kt.tag, h.mp.tag, fun _ hb => h.ot.tag hb⟩
theorem AG.notL (h : AG W B r rows cls rv g s) {b : Nat} (hb : b = g.RB ∨ b = g.AB ∨ b = g.OB ∨ b = g.TB ∨ b = g.mb ∨ s.ta.map (·.block) = some b) : b ≠ g.P ∧ s.la.map (·.block) ≠ some b := by
 obtain ⟨t1, t2, t3, t4, t5, t6⟩ := h.tags;have key : ∃ t, tagOf W b = some t ∧ t ≠ 137 + 1 ∧ t ≠ 188 + 1 := by
  rcases hb with rfl | rfl | rfl | rfl | rfl | hb
  ·exact ⟨_, t1, by decide, by decide⟩
  ·exact ⟨_, t2, by decide, by decide⟩
  ·exact ⟨_, t3, by decide, by decide⟩
  ·exact ⟨_, t4, by decide, by decide⟩
  ·exact ⟨_, t5, by decide, by decide⟩
  ·exact ⟨_, t6 b hb, by decide, by decide⟩
 obtain ⟨t, ht, n1, n2⟩ := key;refine ⟨fun e => ?_, fun e => ?_⟩
 ·rcases h.ro.tags (.inl e) with h1 | h1
  ·exact tag_ne ht h1 n1
  ·exact tag_ne ht h1 n2
 ·rcases h.ro.tags (.inr e) with h1 | h1
  ·exact tag_ne ht h1 n1
  ·exact tag_ne ht h1 n2
theorem AG.keep (h : AG W B r rows cls rv g s) (hk : ∀ b, AG.use g s b → W'.heap[b]? = W.heap[b]?) (hs : W.heap.size ≤ W'.heap.size) : AG W' B r rows cls rv g s := by
 refine ⟨h.ro.keep (fun b hb => hk b ?_) (fun _ h => h) (fun b hd => ⟨Nat.lt_of_lt_of_le (h.ro.dl b hd) hs, fun e => h.ro.nP (e ▸ hd), fun e => h.ro.nl b e hd⟩), (hk _ (.inr (.inr (.inl rfl)))).trans h.kr, (hk _ (.inr (.inr (.inr (.inl rfl))))).trans h.ka, (hk _ (.inr (.inr (.inr (.inr (.inl rfl)))))).trans h.ko, (hk _ (.inr (.inr (.inr (.inr (.inr (.inl rfl))))))).trans h.kt, h.mp.keep (hk _ (.inr (.inr (.inr (.inr (.inr (.inr (.inl rfl)))))))), h.fl, h.flt, h.ot.keep fun b e => hk b (.inr (.inr (.inr (.inr (.inr (.inr (.inr (by rw [e]; rfl)))))))), h.bT, h.bm, h.nT, h.nm, h.nt⟩;rcases hb with h1 | h1
 ·exact .inl h1
 ·exact .inr (.inl h1)
theorem AG.call (h : AG W B r rows cls rv g s) (hb : Below W.heap.size W W') : AG W' B r rows cls rv g s := h.keep (fun b hu => hb.block b (h.lt hu)) hb.size
theorem AG.lev (h : AG W B r rows cls rv g s) {m : Nat} {D' : Nat → Prop} {la' : Option Addr} {ln' lc' : Nat} (k : LvPost W B s.D g.P r rows cls s.la s.ln m W' D' la' ln' lc') : AG W' B r rows cls rv g { s with D := D', la := la', ln := ln', lc := lc' } := by
 obtain ⟨k1, st, _, _⟩ := k;have kk : ∀ b, (b = g.RB ∨ b = g.AB ∨ b = g.OB ∨ b = g.TB ∨ b = g.mb ∨ s.ta.map (·.block) = some b) → W'.heap[b]? = W.heap[b]? := fun b hb => by
  obtain ⟨n1, n2⟩ := h.notL hb;exact st.oth b (h.lt (.inr (.inr hb))) n1 n2
 have nn : ∀ b, b < W.heap.size → ¬ s.D b → ¬ D' b := fun b hl hn hd => by
  rcases st.new b hd with h1 | h1
  ·exact hn h1
  ·omega
 exact ⟨k1, (kk _ (.inl rfl)).trans h.kr, (kk _ (.inr (.inl rfl))).trans h.ka, (kk _ (.inr (.inr (.inl rfl)))).trans h.ko, (kk _ (.inr (.inr (.inr (.inl rfl))))).trans h.kt, h.mp.keep (kk _ (.inr (.inr (.inr (.inr (.inl rfl)))))), h.fl, h.flt, h.ot.keep fun b e => kk b (.inr (.inr (.inr (.inr (.inr (by rw [e]; rfl)))))), h.bT, h.bm, nn _ h.kt.lt h.nT, nn _ h.mp.lt h.nm, fun b hb => nn b (h.ot.blk b hb).2.1 (h.nt b hb)⟩
theorem AG.pop (h : AG W B r rows cls rv g s) {t : List (PS × Nat)} {x : PS × Nat} (ht : s.todo = t ++ [x]) : AG (W.setCell ⟨g.TB, 0, none⟩ (.slice s.ta t.length s.tc)) B r rows cls rv g { s with todo := t } := by
 have h1 := h.ot;rw [ht, stC_snoc, List.length_append] at h1;have hA : s.ta ≠ none := fun e => by
  obtain ⟨g2, e2, _⟩ := h1.form (by simp);rw [e] at e2; cases e2
 have h2 := Ow.shrink (m := 1) h1 (stC_flat t) hA;obtain ⟨t1, t2, t3, t4, t5, t6⟩ := h.tags;have kk : ∀ b, b ≠ g.TB → (W.setCell ⟨g.TB, 0, none⟩ (.slice s.ta t.length s.tc)).heap[b]? = W.heap[b]? := fun b hb => Below.heap_setCell W ⟨g.TB, 0, none⟩ _ b hb;have kD : ∀ b, s.D b → b ≠ g.TB := fun b hd e => h.nT (e ▸ hd);obtain ⟨l1, l2⟩ := h.notL (.inr (.inr (.inr (.inl rfl))));refine ⟨h.ro.keep (fun b hb => kk b ?_) (fun _ h => h) (fun b hd => ⟨by simpa using h.ro.dl b hd, fun e => h.ro.nP (e ▸ hd), fun e => h.ro.nl b e hd⟩), (kk _ (fun e => tag_ne t1 (e ▸ t4) (by decide))).trans h.kr, (kk _ (fun e => tag_ne t2 (e ▸ t4) (by decide))).trans h.ka, (kk _ (fun e => tag_ne t3 (e ▸ t4) (by decide))).trans h.ko, h.kt.set_ 0 _, h.mp.keep (kk _ (fun e => tag_ne t5 (e ▸ t4) (by decide))), h.fl, h.flt, h2.keep fun b e => kk b (fun e2 => tag_ne (t6 b (by rw [e]; rfl)) (e2 ▸ t4) (by decide)), h.bT, h.bm, h.nT, h.nm, h.nt⟩;rcases hb with hb | hb | hb
 ·exact kD b hb
 ·exact fun e => l1 (e.symm.trans hb)
 ·exact fun e => l2 (e ▸ hb)
theorem getD_upd {l : List (PS × Value)} {f : PS → Nat} (hn : (l.map (·.1)).Nodup) (h : ∀ x, (lkK l x).getD (.int .u64 0) = .int .u64 (f x : Int)) (y : PS) (m : Nat) : ∀ x, (lkK (putK l y (.int .u64 ((f y ||| m : Nat) : Int))) x).getD (.int .u64 0) = .int .u64 (upd f y m x : Int) := fun x => by
 rw [lkK_put hn];unfold upd;by_cases e : x = y
 ·subst e; rw [if_pos rfl, if_pos rfl]; rfl
 ·rw [if_neg e, if_neg e]; exact h x
theorem AG.push {w3 w4 : World} (h : AG W B r rows cls rv g s) (hB : B ≤ W.heap.size) {y : PS} {m : Nat} (hm : m < 18446744073709551616) (hmp : MapK kvP w3 g.mb (putK s.fl y (.int .u64 ((s.f y ||| m : Nat) : Int)))) (hg3 : W.grownBy w3 (some g.mb)) {o : Obj} {ta' : Option Addr} {tc' : Nat}
  (ho4 : Ow 151 4 w4 B ta' (s.todo.length + 1) tc' ((stC s.todo).flatten ++ [.int .i64 (y.1.1 : Int), .int .u64 (y.1.2 : Int), .int .i64 y.2, .int .u64 (m : Int)])) (hg4 : (w3.alloc o).grownBy w4 (s.ta.map (·.block))) (hat : ta'.map (·.block) = s.ta.map (·.block) ∨ ta'.map (·.block) = some (w3.alloc o).heap.size) :
  AG (w4.setCell ⟨g.TB, 0, none⟩ (.slice ta' (s.todo.length + 1) tc')) B r rows cls rv g { s with fl := putK s.fl y (.int .u64 ((s.f y ||| m : Nat) : Int)), f := upd s.f y m, ta := ta', tc := tc', todo := s.todo ++ [(y, m)] } ∧ Below B W (w4.setCell ⟨g.TB, 0, none⟩ (.slice ta' (s.todo.length + 1) tc')) ∧ (∀ b, b < W.heap.size → b ≠ g.TB → b ≠ g.mb → s.ta.map (·.block) ≠ some b → (w4.setCell ⟨g.TB, 0, none⟩ (.slice ta' (s.todo.length + 1) tc')).heap[b]? = W.heap[b]?) ∧ (∀ b, ta'.map (·.block) = some b → s.ta.map (·.block) = some b ∨ W.heap.size ≤ b) := by
 obtain ⟨t1, t2, t3, t4, t5, t6⟩ := h.tags;have s3 := hg3.size;have s4 := hg4.size;rw [World.size_alloc] at s4;have far : ∀ b, b < W.heap.size → b ≠ g.TB → b ≠ g.mb → s.ta.map (·.block) ≠ some b → (w4.setCell ⟨g.TB, 0, none⟩ (.slice ta' (s.todo.length + 1) tc')).heap[b]? = W.heap[b]? := fun b h1 h2 h3 h4 => by
  rw [Below.heap_setCell w4 ⟨g.TB, 0, none⟩ _ b h2, hg4.block b (by rw [World.size_alloc]; omega) (fun e => h4 e.symm), Below.heap_alloc w3 o b (by omega), hg3.block b h1 (fun e => h3 (by injection e with e))]
 have hmT : g.mb ≠ g.TB := fun e => tag_ne t5 (e ▸ t4) (by decide);have hmt : s.ta.map (·.block) ≠ some g.mb := fun e => tag_ne (t6 _ e) t5 (by decide);have hTt : s.ta.map (·.block) ≠ some g.TB := fun e => tag_ne (t6 _ e) t4 (by decide);have lm := h.mp.lt;have lT := h.kt.lt;have hmbk : (w4.setCell ⟨g.TB, 0, none⟩ (.slice ta' (s.todo.length + 1) tc')).heap[g.mb]? = w3.heap[g.mb]? := by
  rw [Below.heap_setCell w4 ⟨g.TB, 0, none⟩ _ g.mb hmT, hg4.block g.mb (by rw [World.size_alloc]; omega) (fun e => hmt e.symm), Below.heap_alloc w3 o g.mb (by omega)]
 have kt4 : Bk w4 g.TB 146 #[.slice s.ta s.todo.length s.tc] := by
  have e : w4.heap[g.TB]? = W.heap[g.TB]? := by
   rw [hg4.block g.TB (by rw [World.size_alloc]; omega) (fun e => hTt e.symm), Below.heap_alloc w3 o g.TB (by omega), hg3.block g.TB lT (fun e => hmT (by injection e with e; exact e.symm))]
  exact e.trans h.kt
 have hta : ∀ b, ta'.map (·.block) = some b → s.ta.map (·.block) = some b ∨ W.heap.size ≤ b := fun b hb => by
  rcases hat with e | e
  ·left; rw [← e]; exact hb
  ·right; rw [e, World.size_alloc] at hb; injection hb with hb; omega
 have nTM : ∀ b, (b = g.RB ∨ b = g.AB ∨ b = g.OB) → b ≠ g.TB ∧ b ≠ g.mb ∧ s.ta.map (·.block) ≠ some b ∧ b < W.heap.size := fun b hb => by
  have key : ∃ t, tagOf W b = some t ∧ t ≠ 146 + 1 ∧ t ≠ 0 ∧ t ≠ 151 + 1 := by
   rcases hb with rfl | rfl | rfl
   ·exact ⟨_, t1, by decide, by decide, by decide⟩
   ·exact ⟨_, t2, by decide, by decide, by decide⟩
   ·exact ⟨_, t3, by decide, by decide, by decide⟩
  obtain ⟨t, ht, n1, n2, n3⟩ := key;refine ⟨fun e => tag_ne ht (e ▸ t4) n1, fun e => tag_ne ht (e ▸ t5) n2, fun e => tag_ne ht (t6 b e) n3, ?_⟩;rcases hb with rfl | rfl | rfl
  ·exact h.kr.lt
  ·exact h.ka.lt
  ·exact h.ko.lt
 have kk : ∀ b, (b = g.RB ∨ b = g.AB ∨ b = g.OB) → (w4.setCell ⟨g.TB, 0, none⟩ (.slice ta' (s.todo.length + 1) tc')).heap[b]? = W.heap[b]? := fun b hb => by
  obtain ⟨n1, n2, n3, n4⟩ := nTM b hb;exact far b n4 n1 n2 n3
 have hro : ∀ b, s.D b ∨ b = g.P ∨ s.la.map (·.block) = some b → (w4.setCell ⟨g.TB, 0, none⟩ (.slice ta' (s.todo.length + 1) tc')).heap[b]? = W.heap[b]? := fun b hb => by
  have l1 : b < W.heap.size := by
   rcases hb with h1 | h1
   ·exact h.ro.dl b h1
   ·exact h.lt (.inr (.inl h1))
  refine far b l1 (fun e => ?_) (fun e => ?_) (fun e => ?_)
  ·rcases hb with h1 | h1 | h1
   ·exact h.nT (e ▸ h1)
   ·exact (h.notL (.inr (.inr (.inr (.inl rfl))))).1 (e.symm.trans h1)
   ·exact (h.notL (.inr (.inr (.inr (.inl rfl))))).2 (e ▸ h1)
  ·rcases hb with h1 | h1 | h1
   ·exact h.nm (e ▸ h1)
   ·exact (h.notL (.inr (.inr (.inr (.inr (.inl rfl)))))).1 (e.symm.trans h1)
   ·exact (h.notL (.inr (.inr (.inr (.inr (.inl rfl)))))).2 (e ▸ h1)
  ·rcases hb with h1 | h1 | h1
   ·exact h.nt b e h1
   ·exact (h.notL (.inr (.inr (.inr (.inr (.inr e)))))).1 h1
   ·exact (h.notL (.inr (.inr (.inr (.inr (.inr e)))))).2 h1
 have hsz : (w4.setCell ⟨g.TB, 0, none⟩ (.slice ta' (s.todo.length + 1) tc')).heap.size = w4.heap.size := by simp
 have hlen : (s.todo ++ [(y, m)]).length = s.todo.length + 1 := by simp
 refine ⟨⟨h.ro.keep hro (fun _ h => h) (fun b hd => ⟨by rw [hsz]; have := h.ro.dl b hd; omega, fun e => h.ro.nP (e ▸ hd), fun e => h.ro.nl b e hd⟩), (kk _ (.inl rfl)).trans h.kr, (kk _ (.inr (.inl rfl))).trans h.ka, (kk _ (.inr (.inr rfl))).trans h.ko, ?_, hmp.keep hmbk, ?_, fun x => ?_, ?_, h.bT, h.bm, h.nT, h.nm, fun b hb => ?_⟩, ?_, far, hta⟩
 ·show Bk _ _ _ #[.slice ta' (s.todo ++ [(y, m)]).length tc']
  rw [hlen]; exact kt4.set_ 0 _
 ·obtain ⟨_, _, _, _, hnd⟩ := h.mp;exact getD_upd hnd h.fl y m
 ·show upd s.f y m x < _
  unfold upd;split
  ·exact or_lt64 (h.flt y) hm
  ·exact h.flt x
 ·show Ow _ _ _ _ _ (s.todo ++ [(y, m)]).length _ (stC (s.todo ++ [(y, m)])).flatten
  rw [hlen, stC_snoc];exact ho4.setOther (p := ⟨g.TB, 0, none⟩) (fun b e => by
   rcases hta b (by rw [e]; rfl) with h1 | h1
   ·exact fun e2 => hTt (h1.trans (congrArg some e2))
   ·show b ≠ g.TB; omega) _
 ·rcases hta b hb with h1 | h1
  ·exact h.nt b h1
  ·exact fun hd => by have := h.ro.dl b hd; omega
 ·have b3 : Below B W w3 := (Below.refl _ _).grown hg3 hB (fun b e => by injection e with e; rw [← e]; exact h.bm);exact ((b3.alloc (by omega) o).grown hg4 (by rw [World.size_alloc]; omega) (fun b e => (h.ot.blk b e).1)).setCell (p := ⟨g.TB, 0, none⟩) h.bT _
def Bo (B : Nat) (w w' : World) (g : GB) (s : GV) : Prop := Below B w w' ∧ ∀ b, b < w.heap.size → b ≠ g.P → s.la.map (·.block) ≠ some b → b ≠ g.TB → b ≠ g.mb → s.ta.map (·.block) ≠ some b → w'.heap[b]? = w.heap[b]?
theorem Bo.push {w w3 w4 : World} {s : GV} (h : Bo B w w3 g s) (k : Below B w3 w4) (hs : w.heap.size ≤ w3.heap.size) (far : ∀ b, b < w3.heap.size → b ≠ g.TB → b ≠ g.mb → s.ta.map (·.block) ≠ some b → w4.heap[b]? = w3.heap[b]?) : Bo B w w4 g s :=
 ⟨h.1.trans k, fun b h1 h2 h3 h4 h5 h6 => (far b (by omega) h4 h5 h6).trans (h.2 b h1 h2 h3 h4 h5 h6)⟩
theorem elt_stepS : ElT 146 151 4 32 (.agg #[.int .i64 0, .int .u64 0, .int .i64 0, .int .u64 0]) := elt_step
end
end Go.Proofs.YtkmdakampkfioaaGreatDoor
