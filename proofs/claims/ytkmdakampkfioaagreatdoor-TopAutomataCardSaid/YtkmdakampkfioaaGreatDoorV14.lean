/- Words on what states has in memory in the midst. -/
import Derived.Test.YtkmdakampkfioaaGreatDoorV12
namespace Go.Proofs.YtkmdakampkfioaaGreatDoor
open Go.RowKit Go.Shelf Go.Maps
structure SV where
 D : Nat → Prop
 la : Option Addr
 ln : Nat
 lc : Nat
 met : List (Nat × Nat)
 ma : Option Addr
 mc : Nat
 ta : Option Addr
 tn : Nat
 tc : Nat
 css : List (List Value)
 tab : List (List Int)
 ea : Option Addr
 en : Nat
 ec : Nat
 ends : List Nat
structure ST (W : World) (B P : Nat) (r : WV) (rows : List (List (List Int))) (cls : List Int) (NB MB mb : Nat) (s : SV) : Prop where
 ro : RO W B s.D P r rows cls s.la s.ln s.lc
 mt : MT W B NB MB mb s.met s.ma s.mc
 ot : Ow 22 1 W B s.ta s.tn s.tc s.css.flatten
 rt : RowOf 1 (ERow W s.D) s.css s.tab
 oe : Ow 102 1 W B s.ea s.en s.ec (uc s.ends)
 nm : ∀ b, MT.blk NB MB mb s.ma b → ¬ s.D b
 nt : ∀ b, s.ta.map (·.block) = some b → ¬ s.D b
 ne : ∀ b, s.ea.map (·.block) = some b → ¬ s.D b
def ST.use (P NB MB mb : Nat) (s : SV) (b : Nat) : Prop := s.D b ∨ b = P ∨ s.la.map (·.block) = some b ∨ MT.blk NB MB mb s.ma b ∨ s.ta.map (·.block) = some b ∨ s.ea.map (·.block) = some b
def RW (W : World) (B g K : Nat) (D : Nat → Prop) (xs : List Int) : Prop := Ow 3 1 W B (some ⟨g, 0, none⟩) K K (ic xs) ∧ ¬ D g
theorem RO.tags {W : World} {B : Nat} {D : Nat → Prop} {P : Nat} {r : WV} {rows : List (List (List Int))} {cls : List Int} {la : Option Addr} {ln lc : Nat} (h : RO W B D P r rows cls la ln lc) {b : Nat} (hb : b = P ∨ la.map (·.block) = some b) : tagOf W b = some (137 + 1) ∨ tagOf W b = some (188 + 1) := by
 rcases hb with rfl | hb
 ·exact .inl h.hP.tag
 ·obtain ⟨css, h1, _⟩ := h.lv;exact .inr (h1.tag hb)
section
variable {W W' : World} {B P : Nat} {r : WV} {rows : List (List (List Int))} {cls : List Int} {NB MB mb : Nat} {s : SV}
theorem ST.lt (h : ST W B P r rows cls NB MB mb s) {b : Nat} (hb : ST.use P NB MB mb s b) : b < W.heap.size := by
 rcases hb with hb | rfl | hb | hb | hb | hb
 ·exact h.ro.dl b hb
 ·exact h.ro.lt
 ·exact (h.ro.ltl b hb).1
 ·exact (h.mt.lt hb).1
 ·exact (h.ot.blk b hb).2.1
 ·exact (h.oe.blk b hb).2.1
theorem ST.keep (h : ST W B P r rows cls NB MB mb s) (hk : ∀ b, ST.use P NB MB mb s b → W'.heap[b]? = W.heap[b]?) (hs : W.heap.size ≤ W'.heap.size) : ST W' B P r rows cls NB MB mb s := by
 have kD : Kept s.D W W' := fun b hb => hk b (.inl hb);refine ⟨h.ro.keep (fun b hb => hk b ?_) (fun _ h => h) (fun b hd => ⟨Nat.lt_of_lt_of_le (h.ro.dl b hd) hs, fun e => h.ro.nP (e ▸ hd), fun e => h.ro.nl b e hd⟩), h.mt.keep fun b hb => hk b (.inr (.inr (.inr (.inl hb)))), h.ot.keep fun b e => hk b (.inr (.inr (.inr (.inr (.inl (by rw [e]; rfl)))))), h.rt.mono fun cs x hx => hx.mono (fun _ h => h) kD, h.oe.keep fun b e => hk b (.inr (.inr (.inr (.inr (.inr (by rw [e]; rfl)))))), h.nm, h.nt, h.ne⟩;rcases hb with h1 | h1 | h1
 ·exact .inl h1
 ·exact .inr (.inl h1)
 ·exact .inr (.inr (.inl h1))
theorem ST.call (h : ST W B P r rows cls NB MB mb s) (hb : Below W.heap.size W W') : ST W' B P r rows cls NB MB mb s := h.keep (fun b hu => hb.block b (h.lt hu)) hb.size
theorem RW.call {g K : Nat} {D : Nat → Prop} {xs : List Int} (h : RW W B g K D xs) (hb : Below W.heap.size W W') : RW W' B g K D xs := ⟨h.1.call hb, h.2⟩
theorem ST.tagL (h : ST W B P r rows cls NB MB mb s) {b : Nat} (hb : b = P ∨ s.la.map (·.block) = some b) : ¬ MT.blk NB MB mb s.ma b ∧ s.ta.map (·.block) ≠ some b ∧ s.ea.map (·.block) ≠ some b := by
 have ht := h.ro.tags hb;refine ⟨fun hm => ?_, fun e => ?_, fun e => ?_⟩
 ·have hm := h.mt.tags hm;rcases ht with ht | ht <;> rcases hm with hm | hm | hm | hm <;> exact tag_ne ht hm (by decide)
 ·rcases ht with ht | ht <;> exact tag_ne ht (h.ot.tag e) (by decide)
 ·rcases ht with ht | ht <;> exact tag_ne ht (h.oe.tag e) (by decide)
theorem ST.tagM (h : ST W B P r rows cls NB MB mb s) {b : Nat} (hm : MT.blk NB MB mb s.ma b) : s.ta.map (·.block) ≠ some b ∧ s.ea.map (·.block) ≠ some b := by
 have hm := h.mt.tags hm;refine ⟨fun e => ?_, fun e => ?_⟩
 ·rcases hm with hm | hm | hm | hm <;> exact tag_ne hm (h.ot.tag e) (by decide)
 ·rcases hm with hm | hm | hm | hm <;> exact tag_ne hm (h.oe.tag e) (by decide)
theorem ST.tagT (h : ST W B P r rows cls NB MB mb s) {b : Nat} (hm : s.ta.map (·.block) = some b) : s.ea.map (·.block) ≠ some b := fun e => tag_ne (h.ot.tag hm) (h.oe.tag e) (by decide)
theorem ST.tagR (h : ST W B P r rows cls NB MB mb s) {g K : Nat} {D : Nat → Prop} {xs : List Int} (hr : RW W B g K D xs) : g ≠ P ∧ s.la.map (·.block) ≠ some g ∧ ¬ MT.blk NB MB mb s.ma g ∧ s.ta.map (·.block) ≠ some g ∧ s.ea.map (·.block) ≠ some g := by
 have hg : tagOf W g = some (3 + 1) := hr.1.tag rfl;refine ⟨fun e => ?_, fun e => ?_, fun e => ?_, fun e => ?_, fun e => ?_⟩
 ·have := h.ro.tags (.inl e);rcases this with ht | ht <;> exact tag_ne ht hg (by decide)
 ·have := h.ro.tags (.inr e);rcases this with ht | ht <;> exact tag_ne ht hg (by decide)
 ·have hm := h.mt.tags e;rcases hm with hm | hm | hm | hm <;> exact tag_ne hm hg (by decide)
 ·exact tag_ne (h.ot.tag e) hg (by decide)
 ·exact tag_ne (h.oe.tag e) hg (by decide)
theorem ST.lev (h : ST W B P r rows cls NB MB mb s) {m : Nat} {D' : Nat → Prop} {la' : Option Addr} {ln' lc' : Nat} (k : LvPost W B s.D P r rows cls s.la s.ln m W' D' la' ln' lc') : ST W' B P r rows cls NB MB mb { s with D := D', la := la', ln := ln', lc := lc' } := by
 obtain ⟨k1, st, _, _⟩ := k;have kM : ∀ b, MT.blk NB MB mb s.ma b → W'.heap[b]? = W.heap[b]? := fun b hb => st.oth b (h.mt.lt hb).1 (fun e => (h.tagL (.inl e)).1 hb) (fun e => (h.tagL (.inr e)).1 hb);refine ⟨k1, h.mt.keep kM, h.ot.keep fun b e => st.oth b (h.ot.blk b (by rw [e]; rfl)).2.1 (fun e2 => (h.tagL (.inl e2)).2.1 (by rw [e]; rfl)) (fun e2 => (h.tagL (.inr e2)).2.1 (by rw [e]; rfl)), h.rt.mono fun cs x hx => hx.mono st.up st.kd,
  h.oe.keep fun b e => st.oth b (h.oe.blk b (by rw [e]; rfl)).2.1 (fun e2 => (h.tagL (.inl e2)).2.2 (by rw [e]; rfl)) (fun e2 => (h.tagL (.inr e2)).2.2 (by rw [e]; rfl)), fun b hb hd => ?_, fun b hb hd => ?_, fun b hb hd => ?_⟩
 ·rcases st.new b hd with h1 | h1
  ·exact h.nm b hb h1
  ·have := (h.mt.lt hb).1; omega
 ·rcases st.new b hd with h1 | h1
  ·exact h.nt b hb h1
  ·have := (h.ot.blk b hb).2.1; omega
 ·rcases st.new b hd with h1 | h1
  ·exact h.ne b hb h1
  ·have := (h.oe.blk b hb).2.1; omega
theorem RW.lev {g K : Nat} {xs : List Int} (hr : RW W B g K s.D xs) (h : ST W B P r rows cls NB MB mb s) {m : Nat} {D' : Nat → Prop} {la' : Option Addr} {ln' lc' : Nat} (k : LvPost W B s.D P r rows cls s.la s.ln m W' D' la' ln' lc') : RW W' B g K D' xs := by
 obtain ⟨k1, st, _, _⟩ := k;obtain ⟨t1, t2, _⟩ := h.tagR hr;refine ⟨hr.1.keep fun b e => ?_, fun hd => ?_⟩
 ·injection e with e; injection e with e;subst e;exact st.oth _ (hr.1.lt _ _ _ rfl).2 t1 t2
 ·rcases st.new g hd with h1 | h1
  ·exact hr.2 h1
  ·have := (hr.1.lt _ _ _ rfl).2; omega
theorem ST.meet (h : ST W B P r rows cls NB MB mb s) {met' : List (Nat × Nat)} {ma' : Option Addr} {mc' : Nat} (k1 : MT W' B NB MB mb met' ma' mc') (k : MtPost W W' B NB MB mb s.ma ma') : ST W' B P r rows cls NB MB mb { s with met := met', ma := ma', mc := mc' } := by
 have kk : ∀ b, b < W.heap.size → ¬ MT.blk NB MB mb s.ma b → W'.heap[b]? = W.heap[b]? := k.oth;refine ⟨h.ro.keep (fun b hb => ?_) (fun _ h => h) (fun b hd => ⟨Nat.lt_of_lt_of_le (h.ro.dl b hd) k.bl.size, fun e => h.ro.nP (e ▸ hd), fun e => h.ro.nl b e hd⟩), k1, h.ot.keep fun b e => kk b (h.ot.blk b (by rw [e]; rfl)).2.1 (fun hm => (h.tagM hm).1 (by rw [e]; rfl)), h.rt.mono fun cs x hx => hx.mono (fun _ h => h) (fun b hb => kk b (h.ro.dl b hb) (fun hm => h.nm b hm hb)),
  h.oe.keep fun b e => kk b (h.oe.blk b (by rw [e]; rfl)).2.1 (fun hm => (h.tagM hm).2 (by rw [e]; rfl)), fun b hb hd => ?_, h.nt, h.ne⟩
 ·rcases hb with h1 | h1 | h1
  ·exact kk b (h.ro.dl b h1) (fun hm => h.nm b hm h1)
  ·subst h1; exact kk b h.ro.lt (h.tagL (.inl rfl)).1
  ·exact kk b (h.ro.ltl b h1).1 (h.tagL (.inr h1)).1
 ·rcases hb with h1 | h1 | h1 | h1
  ·exact h.nm b (.inl h1) hd
  ·exact h.nm b (.inr (.inl h1)) hd
  ·exact h.nm b (.inr (.inr (.inl h1))) hd
  ·rcases k.ab b h1 with h2 | h2
   ·exact h.nm b (.inr (.inr (.inr h2))) hd
   ·have := h.ro.dl b hd; omega
theorem RW.meet {g K : Nat} {xs : List Int} (hr : RW W B g K s.D xs) (h : ST W B P r rows cls NB MB mb s) {ma' : Option Addr} (k : MtPost W W' B NB MB mb s.ma ma') : RW W' B g K s.D xs := by
 obtain ⟨_, _, t3, _⟩ := h.tagR hr;refine ⟨hr.1.keep fun b e => ?_, hr.2⟩;injection e with e; injection e with e;subst e;exact k.oth _ (hr.1.lt _ _ _ rfl).2 t3
theorem ST.row {g K : Nat} {xs : List Int} (h : ST W B P r rows cls NB MB mb s) (hr : RW W B g K s.D xs) (i : Nat) (v : Int) : ST (W.setCell ⟨g, i, none⟩ (.int .i64 v)) B P r rows cls NB MB mb s ∧ RW (W.setCell ⟨g, i, none⟩ (.int .i64 v)) B g K s.D (xs.set i v) := by
 obtain ⟨t1, t2, t3, t4, t5⟩ := h.tagR hr;refine ⟨h.keep (fun b hu => Below.heap_setCell W ⟨g, i, none⟩ _ b (fun e => ?_)) (by simp), ?_, hr.2⟩
 ·subst e;rcases hu with hu | hu | hu | hu | hu | hu
  ·exact hr.2 hu
  ·exact t1 hu
  ·exact t2 hu
  ·exact t3 hu
  ·exact t4 hu
  ·exact t5 hu
 ·have := hr.1.stored i (.int .i64 v);rw [show (ic xs).set i (.int .i64 v) = ic (xs.set i v) by simp [ic, List.map_set]] at this;exact this
theorem ST.tabl {g K : Nat} {xs : List Int} (h : ST W B P r rows cls NB MB mb s) (hr : RW W B g K s.D xs) (hK : K ≤ 9223372036854775807) {o : Obj} {ta' : Option Addr} {tc' : Nat} (ho : Ow 22 1 W' B ta' (s.tn + 1) tc' (s.css.flatten ++ [.slice (some ⟨g, 0, none⟩) K K])) (hg : (W.alloc o).grownBy W' (s.ta.map (·.block))) (hat : ta'.map (·.block) = s.ta.map (·.block) ∨ ta'.map (·.block) = some (W.alloc o).heap.size) :
  ST W' B P r rows cls NB MB mb { s with D := fun b => s.D b ∨ b = g, ta := ta', tn := s.tn + 1, tc := tc', css := s.css ++ [[.slice (some ⟨g, 0, none⟩) K K]], tab := s.tab ++ [xs] } := by
 obtain ⟨t1, t2, t3, t4, t5⟩ := h.tagR hr;have sz := hg.size;rw [World.size_alloc] at sz;have hgl := (hr.1.lt _ _ _ rfl).2;have kk : ∀ b, b < W.heap.size → s.ta.map (·.block) ≠ some b → W'.heap[b]? = W.heap[b]? := fun b h1 h2 => by
  rw [hg.block b (by rw [World.size_alloc]; omega) (fun e => h2 e.symm), Below.heap_alloc W o b h1]
 have kg : W'.heap[g]? = W.heap[g]? := kk g hgl t4;have kD : Kept s.D W W' := fun b hb => kk b (h.ro.dl b hb) (fun e => h.nt b e hb);have hta : ∀ b, ta'.map (·.block) = some b → s.ta.map (·.block) = some b ∨ b = W.heap.size + 1 := fun b hb => by
  rcases hat with e | e
  ·left; rw [← e]; exact hb
  ·right; rw [e, World.size_alloc] at hb; injection hb with hb; exact hb.symm
 refine ⟨h.ro.keep (fun b hb => ?_) (fun b hb => .inl hb) (fun b hd => ?_), h.mt.keep fun b hb => kk b (h.mt.lt hb).1 (h.tagM hb).1, ?_, ?_, h.oe.keep fun b e => kk b (h.oe.blk b (by rw [e]; rfl)).2.1 (fun e2 => h.tagT e2 (by rw [e]; rfl)), ?_, ?_, ?_⟩
 ·rcases hb with h1 | h1 | h1
  ·exact kD b h1
  ·subst h1; exact kk b h.ro.lt (h.tagL (.inl rfl)).2.1
  ·exact kk b (h.ro.ltl b h1).1 (h.tagL (.inr h1)).2.1
 ·rcases hd with hd | hd
  ·exact ⟨by have := h.ro.dl b hd; omega, fun e => h.ro.nP (e ▸ hd), fun e => h.ro.nl b e hd⟩
  ·subst hd; exact ⟨by omega, t1, t2⟩
 ·rw [List.flatten_append]; exact ho
 ·refine (h.rt.mono fun cs x hx => hx.mono (fun b hb => .inl hb) kD).app (RowOf.one ⟨_, K, K, rfl, ?_, Nat.le_refl _, hK⟩ rfl);have hrd := hr.1.rd;refine ⟨hrd.1, fun h0 => ?_⟩;obtain ⟨b, o2, e, _, hc⟩ := hrd.2 h0;injection e with e; injection e with e1 e2;subst e1; subst e2;refine ⟨_, _, rfl, .inr rfl, fun i x hx => ?_⟩;obtain ⟨cs, h1, h2⟩ := hc i x hx;exact ⟨cs, h1, fun j v hv => (World.cell?_of_block (a := ⟨_, 0 + i * 1 + j, none⟩) kg).trans (h2 j v hv)⟩
 ·rintro b hb (hd | hd)
  ·exact h.nm b hb hd
  ·subst hd; exact t3 hb
 ·rintro b hb (hd | hd)
  ·rcases hta b hb with h1 | h1
   ·exact h.nt b h1 hd
   ·have := h.ro.dl b hd; omega
  ·subst hd;rcases hta b hb with h1 | h1
   ·exact t4 h1
   ·omega
 ·rintro b hb (hd | hd)
  ·exact h.ne b hb hd
  ·subst hd; exact t5 hb
theorem ST.endl (h : ST W B P r rows cls NB MB mb s) {o : Obj} {ea' : Option Addr} {ec' x : Nat} (ho : Ow 102 1 W' B ea' (s.en + 1) ec' (uc s.ends ++ [.int .u64 (x : Int)])) (hg : (W.alloc o).grownBy W' (s.ea.map (·.block))) (hat : ea'.map (·.block) = s.ea.map (·.block) ∨ ea'.map (·.block) = some (W.alloc o).heap.size) :
  ST W' B P r rows cls NB MB mb { s with ea := ea', en := s.en + 1, ec := ec', ends := s.ends ++ [x] } := by
 have sz := hg.size;rw [World.size_alloc] at sz;have kk : ∀ b, b < W.heap.size → s.ea.map (·.block) ≠ some b → W'.heap[b]? = W.heap[b]? := fun b h1 h2 => by
  rw [hg.block b (by rw [World.size_alloc]; omega) (fun e => h2 e.symm), Below.heap_alloc W o b h1]
 have kD : Kept s.D W W' := fun b hb => kk b (h.ro.dl b hb) (fun e => h.ne b e hb);refine ⟨h.ro.keep (fun b hb => ?_) (fun b hb => hb) (fun b hd => ⟨by have := h.ro.dl b hd; omega, fun e => h.ro.nP (e ▸ hd), fun e => h.ro.nl b e hd⟩), h.mt.keep fun b hb => kk b (h.mt.lt hb).1 (h.tagM hb).2, h.ot.keep fun b e => kk b (h.ot.blk b (by rw [e]; rfl)).2.1 (fun e2 => h.tagT (by rw [e]; rfl) e2), h.rt.mono fun cs x hx => hx.mono (fun _ h => h) kD, ?_, h.nm, h.nt, ?_⟩
 ·rcases hb with h1 | h1 | h1
  ·exact kD b h1
  ·subst h1; exact kk b h.ro.lt (h.tagL (.inl rfl)).2.2
  ·exact kk b (h.ro.ltl b h1).1 (h.tagL (.inr h1)).2.2
 ·show Ow _ _ _ _ _ _ _ (uc (s.ends ++ [x]))
  rw [uc_app]; exact ho
 ·intro b hb hd;rcases hat with e | e
  ·exact h.ne b (by rw [← e]; exact hb) hd
  ·change ea'.map (·.block) = some b at hb;rw [e, World.size_alloc] at hb; injection hb with hb;have := h.ro.dl b hd; omega
end
def StR (w : World) (rows : List (List (List Int))) (cls : List Int) (K : Nat) (p0 : Nat × Nat) (e : Ending) (w' : World) : Prop := Below w.heap.size w w' ∧
 match allL (nxP rows cls) K p0 with
 | none => e = .returned (.tuple #[.slice none 0 0, .slice none 0 0, .bool false])
 | some x => ∃ ta tn tc ea en ec, e = .returned (.tuple #[.slice ta tn tc, .slice ea en ec, .bool true]) ∧ RdV w' (lo w'.heap.size) ta tn x.1 ∧ RdU w' (lo w'.heap.size) ea en (x.2.map (endsP rows)) ∧ Hd tn tc ∧ Hd en ec
def Pl (p : Nat × Nat) : Prop := p.1 ≤ 800001 ∧ p.2 < 18446744073709551616
theorem Pl.ok {p : Nat × Nat} (h : Pl p) : Pok p := ⟨by have := h.1; omega, h.2⟩
theorem nx_pl {rows : List (List (List Int))} {cls : List Int} {p q : Nat × Nat} {c : Nat} (hr : ∀ row ∈ rows, row.length ≤ 800000) (h : nxP rows cls p c = some q) (hp : Pl p) : Pl q := by
 obtain ⟨h1, h2, h3, _⟩ := nxP_some h;refine ⟨?_, by rw [h3]; exact Nat.lt_of_le_of_lt Nat.and_le_left hp.2⟩;obtain ⟨b, hb⟩ := ne_zero_bit h2;rw [h3, Nat.testBit_and, Bool.and_eq_true] at hb;have hb2 := hb.2;unfold nextM at hb2;rw [bitsOf_bit] at hb2;simp only [Bool.and_eq_true, decide_eq_true_eq] at hb2;obtain ⟨hb3, hb4, _⟩ := hb2;have := hr (rows.getD b []) (by rw [List.getD_eq_getElem?_getD, List.getElem?_eq_getElem hb3]; exact List.getElem_mem hb3);omega
theorem take_set_succ {α : Type} {xs ys : List α} {c : Nat} (v : α) (h : xs.take c = ys) (hc : c < xs.length) : (xs.set c v).take (c + 1) = ys ++ [v] := by
 rw [List.take_succ_eq_append_getElem (by simpa using hc), List.take_set_of_le (Nat.le_refl _), h];simp
theorem rowL_pre (nx : Nat × Nat → Nat → Option (Nat × Nat)) (src : Nat × Nat) (met : List (Nat × Nat)) : ∀ c, ∃ t, (rowL nx src met c).2 = met ++ t
 | 0 => ⟨[], by simp [rowL]⟩
 | c + 1 => by
  obtain ⟨t, h⟩ := rowL_pre nx src met c;rw [rowL];cases nx src c with
  | none => exact ⟨t, h⟩
  | some q =>
   dsimp only;rw [meetL_pos];cases posK (rowL nx src met c).2 q with
   | some i => exact ⟨t, h⟩
   | none => exact ⟨t ++ [q], by dsimp only; rw [h, List.append_assoc]⟩
theorem rowL_at {nx : Nat × Nat → Nat → Option (Nat × Nat)} {src : Nat × Nat} {met : List (Nat × Nat)} {n : Nat} {p : Nat × Nat} (h : met[n]? = some p) (c : Nat) : (rowL nx src met c).2[n]? = some p := by
 obtain ⟨t, e⟩ := rowL_pre nx src met c;rw [e, List.getElem?_append_left (List.getElem?_eq_some_iff.1 h).1]; exact h
theorem rowL_none {nx : Nat × Nat → Nat → Option (Nat × Nat)} {src : Nat × Nat} {met : List (Nat × Nat)} {c : Nat} (h : nx src c = none) : rowL nx src met (c + 1) = ((rowL nx src met c).1 ++ [-1], (rowL nx src met c).2) := by
 rw [rowL, h]
theorem rowL_some {nx : Nat × Nat → Nat → Option (Nat × Nat)} {src : Nat × Nat} {met : List (Nat × Nat)} {c : Nat} {q : Nat × Nat} (h : nx src c = some q) : rowL nx src met (c + 1) = ((rowL nx src met c).1 ++ [((meetL (rowL nx src met c).2 q).1 : Int)], (meetL (rowL nx src met c).2 q).2) := by
 rw [rowL, h]
theorem meetL_pl {met : List (Nat × Nat)} {q : Nat × Nat} (h : ∀ x ∈ met, Pl x) (hq : Pl q) : ∀ x ∈ (meetL met q).2, Pl x := meetL_inv h hq
theorem meetL_len (met : List (Nat × Nat)) (q : Nat × Nat) : (meetL met q).2.length ≤ met.length + 1 := by
 rw [meetL_pos]; cases posK met q with
 | some i => exact Nat.le_succ _
 | none => simp
theorem nx_of (rows : List (List (List Int))) (cls : List Int) (p : Nat × Nat) (c : Nat) : nxP rows cls p c = if (behindP rows cls p (c : Int)).2 = 0 then none else some (behindP rows cls p (c : Int)) := by
 unfold nxP behindP;by_cases h : p.2 &&& nextM rows cls p.1 (c : Int) = 0
 ·rw [if_pos h, if_pos h, if_pos rfl]
 ·rw [if_neg h, if_neg h, if_neg h]
theorem MT.cells {W : World} {B NB MB mb : Nat} {met : List (Nat × Nat)} {ma : Option Addr} {mc : Nat} (h : MT W B NB MB mb met ma mc) {n : Nat} {p : Nat × Nat} (hp : met[n]? = some p) : ∃ gm, ma = some ⟨gm, 0, none⟩ ∧ W.cell? ⟨gm, n * 2, none⟩ = some (.int .i64 (p.1 : Int)) ∧ W.cell? ⟨gm, n * 2 + 1, none⟩ = some (.int .u64 (p.2 : Int)) ∧ W.cell? ⟨MB, 0, none⟩ = some (.slice (some ⟨gm, 0, none⟩) met.length mc) := by
 have hl := (List.getElem?_eq_some_iff.1 hp).1;obtain ⟨gm, rfl, _, _⟩ := h.ow.form (by omega);have y0 := h.ow.cell (j := n * 2 + 0) (flat_at (plC_two met) (plC_at hp) rfl);have y1 := h.ow.cell (j := n * 2 + 1) (flat_at (plC_two met) (plC_at hp) rfl);exact ⟨gm, rfl, y0, y1, box_cells h.km 0 rfl⟩
set_option maxRecDepth 100000 in
set_option maxHeartbeats 4000000 in
theorem states_c (h : FuncId) (f : Rul → List (List Int) × Bool) (hf : SrcFn h f) (qa : Option Addr) (qn qc : Nat) (ca : Option Addr) (cn cc : Nat) (rs : List Rul) (cls : List Int) (w : World) (hR : RdR w (lo w.heap.size) qa qn rs) (hC : Rd w (lo w.heap.size) ca cn cls) (hq : Hd qn qc) (hc : Hd cn cc)
  (hn : rs.length ≤ 64) (hs : ∀ r ∈ rs, r.inn.length + r.ahead.length ≤ 1000000) (hrw : ∀ row ∈ rowsF f rs, row.length ≤ 800000) (hcl : ∀ c ∈ cls, 0 ≤ c ∧ c ≤ 65536) (hG : GlyOK cls (maxC cls cls.length)) (hK : maxC cls cls.length ≤ 65536) :
  Calls Tryz.prog 21 #[.func (.func h) #[.agg #[.slice qa qn qc, .slice ca cn cc]] #[]] w (StR w (rowsF f rs) cls (maxC cls cls.length) (0, hvF f rs rs.length)) := by
 have hcf := hf.1;have HF := Lib.hid (hf.2 qa qn qc ca cn cc rs cls w hR hC hq hc hn hs hcl);have hmm := @run_makeMap Tryz.prog;have hrl : (rowsF f rs).length ≤ 64 := by unfold rowsF; simpa using hn
 have HRW := Lib.hid hrw;have HG := Lib.hid hG;have hhv : hvF f rs rs.length < 18446744073709551616 := bitsOf_lt64 _ hn;obtain ⟨K, hKe⟩ : ∃ K, maxC cls cls.length = K := ⟨_, rfl⟩;obtain ⟨hv, hve⟩ : ∃ hv, hvF f rs rs.length = hv := ⟨_, rfl⟩;rw [hKe] at HG hK ⊢;rw [hve] at hhv ⊢;have HKE := Lib.hid hKe;have HVE := Lib.hid hve;clear hf hR hC hq hc hs hrw hcl hG hKe hve hn;generalize rowsF f rs = rows at *;go_enter Tryz.func21, Tryz.ntmps21;go_wp2_with fail;refine HF.out.mono ?_;rintro e w1 ⟨B, P, r, D, rfl, hB, hr1, hr2, hro, hb1, hd0⟩;have hBl : B ≤ w1.heap.size := by have := hro.bP; have := hro.lt; omega
 have hrK : r.K = K := by rw [hr2, HKE.out]
 have hrH : r.hv = hv := by rw [hr1, HVE.out]
 clear hr1 hr2 HF hd0;go_wp2_with fail;obtain ⟨w2, hw2⟩ : ∃ w2, ((w1.alloc (.map #[] 0)).alloc (.cells #[.map (some w1.heap.size)] 127)).alloc (.cells #[.slice none 0 0] 128) = w2 := ⟨_, rfl⟩;have b2 : Below w1.heap.size w1 w2 := by rw [← hw2]; exact below_lit _ _ (below_lit _ _ (below_lit _ _ (Below.refl _ _) _) _) _
 have hmt2 : MT w2 B (w1.heap.size + 1) (w1.heap.size + 1 + 1) w1.heap.size [] none 0 := by
  rw [← hw2];have k1 := (Bk.new (w1.alloc (.map #[] 0)) 127 #[.map (some w1.heap.size)]).alloc (.cells #[.slice none 0 0] 128);have k2 := Bk.new ((w1.alloc (.map #[] 0)).alloc (.cells #[.map (some w1.heap.size)] 127)) 128 #[.slice none 0 0];simp only [World.size_alloc] at k1 k2;exact ⟨k1, k2, (MapK.new Value.string w1).keep ((Below.heap_alloc _ _ _ (by simp only [World.size_alloc]; omega)).trans (Below.heap_alloc _ _ _ (by simp only [World.size_alloc]; omega))), Ow.nil _ _ _ _, by omega, by omega, by omega, fun q hq => by cases hq⟩
 have hst2 : ST w2 B P r rows cls (w1.heap.size + 1) (w1.heap.size + 1 + 1) w1.heap.size ⟨D, none, 0, 0, [], none, 0, none, 0, 0, [], [], none, 0, 0, []⟩ := by
  refine ⟨hro.call b2, hmt2, Ow.nil _ _ _ _, RowOf.nil, Ow.nil _ _ _ _, fun b hb hd => ?_, (fun b hb => by cases hb), (fun b hb => by cases hb)⟩;have := hro.dl b hd;rcases hb with h1 | h1 | h1 | h1
  ·omega
  ·omega
  ·omega
  ·cases h1
 have bw2 := below_call hb1 b2;have hB2 : B ≤ w2.heap.size := Nat.le_trans hBl b2.size;clear hmt2 hro;generalize w1.heap.size = mb at *;rw [hw2];have HBW1 := Lib.hid hb1;clear b2 hw2 hBl hb1;generalize hNB : mb + 1 = NB at *;generalize hMB : NB + 1 = MB at *;clear hNB hMB hmm;refine (first_c' B D P r rows cls none 0 0 w2 hst2.ro).mono ?_;rintro e w3 ⟨rfl, b3⟩;rw [hrH];have hst3 := hst2.call b3;have bw3 := below_call bw2 b3;have hB3 := Nat.le_trans hB2 b3.size;have hp0 : Pl (0, hv) := ⟨by show 0 ≤ 800001; omega, hhv⟩;go_wp2_with fail;refine (meet_c B NB MB mb [] none 0 (0, hv) w3 hst3.mt hB3 hp0.ok (by simp)).mono ?_;rintro e w4 ⟨ma, mc, rfl, hmt4, hpo4⟩;have hst4 := hst3.meet hmt4 hpo4;have hm0 : meetL ([] : List (Nat × Nat)) (0, hv) = (0, [(0, hv)]) := rfl;rw [hm0] at hst4;dsimp only at hst4;have bw4 : Below w.heap.size w w4 := bw3.trans (hpo4.bl.mono hB);have hB4 := Nat.le_trans hB3 hpo4.bl.size;clear hst2 hst3 hmt4 hpo4 b3 bw2 bw3 hB2 hB3 hm0;go_wp2;go_loopw [2, 3, 9] (fun tv ev nv wr => ∃ (s : SV) (n : Nat), tv = .slice s.ta s.tn s.tc ∧ ev = .slice s.ea s.en s.ec ∧ nv = .int .i64 n ∧ ST wr B P r rows cls NB MB mb s ∧ Below w.heap.size w wr ∧ B ≤ wr.heap.size ∧ statesL (nxP rows cls) K (20002 - n) n s.met s.tab = allL (nxP rows cls) K (0, hv) ∧ s.tn = n ∧ s.en = n ∧ s.ends = (s.met.take n).map (endsP rows) ∧ s.met.length ≤ 20000 ∧ n ≤ s.met.length ∧ (∀ q ∈ s.met, Pl q) ∧ s.ln ≤ 900001) (fun _ _ nv _ => 20001 - (intOf nv).toNat)
 case atStart =>
  refine ⟨_, 0, rfl, rfl, rfl, hst4, bw4, hB4, rfl, rfl, rfl, rfl, by simp, by simp, fun q hq => ?_, by show 0 ≤ 900001; omega⟩;rw [List.mem_singleton] at hq; rw [hq]; exact hp0
 case round =>
  obtain ⟨s, n, rfl, rfl, rfl, hst, hbw, hBw, hsl, htn, hen, hee, hml, hnm, hpl, hln⟩ := hrel;clear hst4 bw4 hB4;have HSL := Lib.hid hsl; have HTN := Lib.hid htn; have HEN := Lib.hid hen; have HEE := Lib.hid hee; have HPL := Lib.hid hpl;clear hsl htn hen hee hpl;have hMBc := box_cells hst.mt.km 0 rfl;by_cases hlt : n < s.met.length
  ·obtain ⟨src, hsrc⟩ := at_some s.met n hlt;have hpsrc := HPL.out src (List.mem_of_getElem? hsrc);have HSRC := Lib.hid hsrc;have p3 : wr.cell? ⟨P, 3, none⟩ = some (.int .i64 (K : Int)) := by rw [← hrK]; exact box_cells hst.ro.hP 3 rfl
   have HST := Lib.hid hst;have hdl := hst.ro.dl;have nz : (0 : Int) ≤ (n : Int) := by omega
   clear hsrc hst;go_wp2_with (at_make; refine mkG elt_int rfl _ _ rfl _ B K _ _ (by rfl) (by rfl) (by rfl) (by rfl) (by omega) hBw ?_; intro w5 ho5 hb5 hlt5);have hrw5 : RW w5 B wr.heap.size K s.D (List.replicate K 0) := by
    refine ⟨?_, fun hd => by have := hdl _ hd; omega⟩;have e : (madeCells (Value.int .i64 0).cells (K * 1)).toList = ic (List.replicate K 0) := by
     rw [show (Value.int .i64 0).cells = #[Value.int .i64 0] from rfl, toList_madeCells_one];simp [ic]
    rw [← e]; exact ho5
   have hst5 : ST w5 B P r rows cls NB MB mb s := HST.out.call hb5;have hbw5 := below_call hbw hb5;have hB5 := Nat.le_trans hBw hb5.size;clear ho5 hb5 hlt5 hdl p3 HST hMBc hbw hBw;obtain ⟨g, hg⟩ : ∃ g, wr.heap.size = g := ⟨_, rfl⟩;rw [hg] at hrw5 ⊢;clear hg;go_wp2;go_loopw [34] (fun cv wr => ∃ (c : Nat) (D : Nat → Prop) (la : Option Addr) (ln lc : Nat) (met : List (Nat × Nat)) (ma : Option Addr) (mc : Nat) (xs : List Int), c ≤ K ∧ cv = .int .i64 c ∧ ST wr B P r rows cls NB MB mb { s with D := D, la := la, ln := ln, lc := lc, met := met, ma := ma, mc := mc } ∧ RW wr B g K D xs ∧ Below w.heap.size w wr ∧ B ≤ wr.heap.size ∧ xs.length = K ∧ xs.take c = (rowL (nxP rows cls) src s.met c).1 ∧ met = (rowL (nxP rows cls) src s.met c).2 ∧ (∀ q ∈ met, Pl q) ∧ ln ≤ 900001 ∧ met.length ≤ 20000 + c) (fun cv _ => K - (intOf cv).toNat)
   case atStart => exact ⟨0, s.D, s.la, s.ln, s.lc, s.met, s.ma, s.mc, _, by omega, rfl, hst5, hrw5, hbw5, hB5, by simp, rfl, rfl, HPL.out, hln, by omega⟩
   case round =>
    obtain ⟨c, D1, la1, ln1, lc1, met1, ma1, mc1, xs, hcK, rfl, hst1, hrw1, hbw1, hB1, hxl, hxt, hme, hpl1, hln1, hml1⟩ := hrel;clear hst5 hrw5 hbw5 hB5;have HME := Lib.hid hme; have HXL := Lib.hid hxl; have HXT := Lib.hid hxt; have HPL1 := Lib.hid hpl1;by_cases hlc : c < K
    ·obtain ⟨x0, hx0⟩ := at_some xs c (by omega);have r0 := hrw1.1.cell (j := c) (x := .int .i64 x0) (by simp [ic, hx0]);have rf := hrw1.1.frozen c;have cz : (0 : Int) ≤ (c : Int) := by omega
     have cn' : (c : Int) < (K : Int) := by omega
     have hmt1 : met1[n]? = some src := by rw [hme]; exact rowL_at HSRC.out c
     have hnl1 := (List.getElem?_eq_some_iff.1 hmt1).1;have nn : (n : Int) < (met1.length : Int) := by omega
     obtain ⟨hst2, hrw2⟩ := hst1.row hrw1 c (-1);have hbw2 : Below w.heap.size w (wr.setCell ⟨g, c, none⟩ (.int .i64 (-1))) := hbw1.setCell (p := ⟨g, c, none⟩) (Nat.le_trans hB (hrw1.1.lt _ _ _ rfl).1) _;have hB2 : B ≤ (wr.setCell ⟨g, c, none⟩ (.int .i64 (-1))).heap.size := by simpa using hB1
     obtain ⟨gm, hma, y0, y1, y2⟩ := hst2.mt.cells hmt1;dsimp only at hma;have hmcap := hst2.mt.ow.cap;have hmc1 := hmcap.1;have hmc2 := hmcap.2;dsimp only at hmc1 hmc2;have HX2 := Lib.hid (take_set_succ (-1) hxt (by rw [hxl]; exact hlc));have HS2 := Lib.hid hst2; have HR2 := Lib.hid hrw2;clear hme hxl hxt hpl1 hx0 hmt1 hst1 hrw1 hbw1 hB1 hst2 hrw2 hmcap;go_wp2_with fail;clear y0 y1 y2;generalize wr.setCell ⟨g, c, none⟩ (.int .i64 (-1)) = w6 at *;refine (behind_c B D1 P r rows cls la1 ln1 lc1 src.1 src.2 c w6 HS2.out.ro hB2 (by rw [hrK]; exact HG.out) hrl (by rw [hrK]; exact hK) (by have := hpsrc.1; omega) hpsrc.2 (by rw [hrK]; exact hlc)).mono ?_;rintro e w7 ⟨D', la', ln', lc', rfl, post⟩;have hst7 := HS2.out.lev post;have hrw7 := HR2.out.lev HS2.out post;have hbw7 : Below w.heap.size w w7 := hbw2.trans (post.2.1.bl.mono hB);have hB7 := Nat.le_trans hB2 post.2.1.bl.size;have hln7 : ln' ≤ 900001 := by have := post.2.2.2; have := hpsrc.1; omega
     have hnx := nx_of rows cls src c;have hpe : (src.1, src.2) = src := rfl;rw [hpe];clear HS2 HR2 hbw2 hB2 post hpe;dsimp only at hst7;obtain ⟨q, hq⟩ : ∃ q, behindP rows cls src (c : Int) = q := ⟨_, rfl⟩;rw [hq] at hnx ⊢;clear hq;have b8 : Below w7.heap.size w7 (w7.alloc (.cells #[.int .i64 (q.1 : Int), .int .u64 (q.2 : Int)] 130)) := (Below.refl _ _).alloc (Nat.le_refl _) _;have hst8 := hst7.call b8;have hrw8 := hrw7.call b8;have hbw8 := below_call hbw7 b8;have hB8 := Nat.le_trans hB7 b8.size;have k8 := Bk.new w7 130 #[.int .i64 (q.1 : Int), .int .u64 (q.2 : Int)];obtain ⟨q1, q2⟩ := q;dsimp only at hnx k8 ⊢;by_cases hq0 : q2 = 0
     ·subst hq0;rw [if_pos rfl] at hnx;have HR := Lib.hid (rowL_none (met := s.met) hnx);clear hnx k8 hst7 hrw7 b8;go_wp2;go_round
      case rel => exact ⟨c + 1, D', la', ln', lc', met1, ma1, mc1, xs.set c (-1), by omega, by go_num, hst8, hrw8, hbw8, hB8, by rw [List.length_set, HXL.out], by rw [HR.out]; exact HX2.out, by rw [HR.out]; exact HME.out, HPL1.out, hln7, by omega⟩
      case measure => simp [intOf]; omega
     ·rw [if_neg hq0] at hnx;have e0 : ((q2 : Int) == 0) = false := by simp; omega
      have e1 : (q2 == 0) = false := by simpa using hq0
      have HR := Lib.hid (rowL_some (met := s.met) hnx);have hqp : Pl (q1, q2) := nx_pl HRW.out hnx hpsrc;have z0 := box_cells k8 0 rfl;have z1 := box_cells k8 1 rfl;clear hnx k8 hst7 hrw7 b8 hq0;go_wp2_with fail;refine (meet_c B NB MB mb met1 ma1 mc1 (q1, q2) _ hst8.mt hB8 hqp.ok (by omega)).mono ?_;rintro e w9 ⟨ma', mc', rfl, hmt9, hpo9⟩;have hst9 := hst8.meet hmt9 hpo9;have hrw9 := RW.meet hrw8 hst8 hpo9;have hbw9 := hbw8.trans (hpo9.bl.mono hB);have hB9 := Nat.le_trans hB8 hpo9.bl.size;have hj := HME.out;have HML := Lib.hid (meetL_len met1 (q1, q2));have HPL9 := Lib.hid (meetL_pl HPL1.out hqp);have HR9 := Lib.hid (show rowL (nxP rows cls) src s.met (c + 1) = ((rowL (nxP rows cls) src s.met c).1 ++ [((meetL met1 (q1, q2)).1 : Int)], (meetL met1 (q1, q2)).2) by rw [HR.out, HME.out]);dsimp only at hst9 hrw9;obtain ⟨j, hje⟩ : ∃ j, (meetL met1 (q1, q2)).1 = j := ⟨_, rfl⟩;obtain ⟨met2, hm2e⟩ : ∃ m, (meetL met1 (q1, q2)).2 = m := ⟨_, rfl⟩;rw [hje, hm2e] at HR9;rw [hm2e] at HML HPL9 hst9;rw [hje];have s0 := hrw9.1.cell (j := c) (x := .int .i64 (-1)) (by simp [ic, hlc, HXL.out]);have sf := hrw9.1.frozen c;obtain ⟨hst10, hrw10⟩ := hst9.row hrw9 c (j : Int);have hbw10 : Below w.heap.size w (w9.setCell ⟨g, c, none⟩ (.int .i64 (j : Int))) := hbw9.setCell (p := ⟨g, c, none⟩) (Nat.le_trans hB (hrw9.1.lt _ _ _ rfl).1) _;have hB10 : B ≤ (w9.setCell ⟨g, c, none⟩ (.int .i64 (j : Int))).heap.size := by simpa using hB9
      have HX9 := Lib.hid (show ((xs.set c (-1)).set c (j : Int)).take (c + 1) = (rowL (nxP rows cls) src s.met c).1 ++ [(j : Int)] by rw [List.set_set]; exact take_set_succ (j : Int) HXT.out (by rw [HXL.out]; exact hlc));clear hje hm2e hj hst8 hrw8 hbw8 hB8 hmt9 hpo9 hst9 hrw9 hbw9 hB9 z0 z1 HR;go_wp2;go_round
      case rel => exact ⟨c + 1, D', la', ln', lc', met2, ma', mc', (xs.set c (-1)).set c (j : Int), by omega, by go_num, hst10, hrw10, hbw10, hB10, by rw [List.length_set, List.length_set, HXL.out], by rw [HR9.out]; exact HX9.out, by rw [HR9.out], HPL9.out, hln7, by have := HML.out; omega⟩
      case measure => simp [intOf]; omega
    ·have hcK2 : c = K := by omega
     have hxe : xs = (rowL (nxP rows cls) src s.met K).1 := by
      have h1 := HXT.out;rw [hcK2, List.take_of_length_le (by omega)] at h1;exact h1
     have hme2 : met1 = (rowL (nxP rows cls) src s.met K).2 := by rw [HME.out, hcK2]
     have hmb := box_cells hst1.mt.km 0 rfl;have hmt1 : met1[n]? = some src := by rw [hme2]; exact rowL_at HSRC.out K
     have hf1 : 20002 - n = (20001 - n) + 1 := by omega
     have h1 := HSL.out;rw [hf1, statesL, HSRC.out] at h1;dsimp only at h1;rw [← hme2, ← hxe] at h1;have HS1 := Lib.hid h1; have HMT1 := Lib.hid hmt1;clear hxe hme2 h1 hmt1 hme hxl hxt hpl1 hcK2;dsimp only at hmb;by_cases hmany : 20000 < met1.length
     ·have h2 := HS1.out;rw [if_pos hmany] at h2;have t0 : decide ((20000 : Int) < (met1.length : Int)) = true := by simp; omega
      have HS2 := Lib.hid h2;clear h2;go_wp2;refine bodyPost_ret (v := .tuple #[.slice none 0 0, .slice none 0 0, .bool false]) (by simp [results, Tryz.results21, go_sem]) rfl ⟨hbw1, ?_⟩;rw [← HS2.out]
     ·have h2 := HS1.out;rw [if_neg hmany] at h2;have t0 : decide ((20000 : Int) < (met1.length : Int)) = false := by simp; omega
      have t1 : decide (20000 < met1.length) = false := by simp; omega
      have HS2 := Lib.hid h2;clear h2 HS1;have HOT := Lib.hid (hst1.ot.alloc (.cells #[.slice (some ⟨g, 0, none⟩) K K] 22));have HST1 := Lib.hid hst1; have HRW1 := Lib.hid hrw1;have hBo : B ≤ (wr.alloc (.cells #[.slice (some ⟨g, 0, none⟩) K K] 22)).heap.size := by rw [World.size_alloc]; omega
      have htn : s.tn ≤ 20000 := by have := HTN.out; omega
      have hnl : n < met1.length := (List.getElem?_eq_some_iff.1 HMT1.out).1;have nn : (n : Int) < (met1.length : Int) := by omega
      dsimp only at HOT;clear hst1 hrw1;go_wp2_with (at_builtin; refine appP elt_row rfl _ _ rfl (wr.alloc (.cells #[.slice (some ⟨g, 0, none⟩) K K] 22)) B _ _ _ s.css.flatten _ 1 1 [.slice (some ⟨g, 0, none⟩) K K] (by rfl) (by rfl) HOT.out rfl (fun _ => news_new _ _ _ (by omega)) (by simp [Value.oneCell']) (by omega) hBo ?_; intro ta' tc' w8 ho8 hg8 hb8 hat8; have hst8 := HST1.out.tabl HRW1.out (by omega) ho8 hg8 hat8; obtain ⟨gm, hma, y0, y1, y2⟩ := hst8.mt.cells HMT1.out; have hmcap := hst8.mt.ow.cap; have hmc1 := hmcap.1; have hmc2 := hmcap.2; dsimp only at hma hmc1 hmc2; clear hmcap);have hbw8 : Below w.heap.size w w8 := hbw1.trans ((((Below.refl B wr).alloc hB1 _).trans hb8).mono hB);have hB8 : B ≤ w8.heap.size := Nat.le_trans hBo hb8.size;have HS8 := Lib.hid hst8;clear ho8 hg8 hb8 hat8 hBo HOT HST1 HRW1 hmb y0 y1 y2 hst8;refine (ends_c B (fun b => D1 b ∨ b = g) P r rows cls la1 ln1 lc1 src.1 src.2 w8 HS8.out.ro hB8 (by rw [hrK]; exact HG.out) hrl (by rw [hrK]; exact hK) (by have := hpsrc.1; omega) hpsrc.2).mono ?_;rintro e w9 ⟨D3, la3, ln3, lc3, rfl, post⟩;have hst9 := HS8.out.lev post;have hbw9 : Below w.heap.size w w9 := hbw8.trans (post.2.1.bl.mono hB);have hB9 := Nat.le_trans hB8 post.2.1.bl.size;have hln9 : ln3 ≤ 900001 := by have := post.2.2.2; have := hpsrc.1; omega
      have hpe : (src.1, src.2) = src := rfl;rw [hpe];clear HS8 hbw8 hB8 post hpe;dsimp only at hst9;have HXE := Lib.hid (rfl : endsP rows src = endsP rows src);obtain ⟨x, hx⟩ : ∃ x, endsP rows src = x := ⟨_, rfl⟩;rw [hx];have HX := Lib.hid hx;have HOE := Lib.hid (hst9.oe.alloc (.cells #[.int .u64 (x : Int)] 102));have HST9 := Lib.hid hst9;have hBo : B ≤ (w9.alloc (.cells #[.int .u64 (x : Int)] 102)).heap.size := by rw [World.size_alloc]; omega
      have hen : s.en ≤ 20000 := by have := HEN.out; omega
      dsimp only at HOE;clear hst9 hx HXE;go_wp2_with (at_builtin; refine appP elt_u64 rfl _ _ rfl (w9.alloc (.cells #[.int .u64 (x : Int)] 102)) B _ _ _ (uc s.ends) _ 1 1 [.int .u64 (x : Int)] (by rfl) (by rfl) HOE.out rfl (fun _ => news_new _ _ _ (by omega)) (by simp [Value.oneCell']) (by omega) hBo ?_; intro ea' ec' w10 ho10 hg10 hb10 hat10);have hst10 := HST9.out.endl ho10 hg10 hat10;have hbw10 : Below w.heap.size w w10 := hbw9.trans ((((Below.refl B w9).alloc hB9 _).trans hb10).mono hB);have hB10 : B ≤ w10.heap.size := Nat.le_trans hBo hb10.size;clear ho10 hg10 hb10 hat10 hBo HOE HST9 hbw9 hB9;go_roundw
      case rel =>
       refine ⟨_, n + 1, rfl, rfl, by go_num, hst10, hbw10, hB10, ?_, by show s.tn + 1 = n + 1; rw [HTN.out], by show s.en + 1 = n + 1; rw [HEN.out], ?_, by show met1.length ≤ 20000; omega, by show n + 1 ≤ met1.length; omega, HPL1.out, by show ln3 ≤ 900001; exact hln9⟩
       ·rw [show 20002 - (n + 1) = 20001 - n by omega]; exact HS2.out
       ·show s.ends ++ [x] = (met1.take (n + 1)).map (endsP rows)
        obtain ⟨t, ht⟩ := rowL_pre (nxP rows cls) src s.met c;rw [List.take_succ_eq_append_getElem hnl, List.map_append, HEE.out];have h1 : met1.take n = s.met.take n := by rw [HME.out, ht, List.take_append_of_le_length hnm]
        have h2 : met1[n] = src := by have := HMT1.out; rw [List.getElem?_eq_getElem hnl] at this; injection this
        rw [h1, h2, ← HX.out]; rfl
      case measure => simp [intOf]; omega
  ·have t0 : decide ((n : Int) < (s.met.length : Int)) = false := by simp; omega
   have t1 : decide (n < s.met.length) = false := by simp; omega
   go_wp2;refine bodyPost_ret (v := .tuple #[.slice s.ta s.tn s.tc, .slice s.ea s.en s.ec, .bool true]) (by simp [results, Tryz.results21, go_sem]) rfl ⟨hbw, ?_⟩;have hf1 : 20002 - n = (20001 - n) + 1 := by omega
   have h1 := HSL.out;rw [hf1, statesL, List.getElem?_eq_none (by omega)] at h1;dsimp only at h1;rw [← h1];dsimp only;have hen2 : s.ends = s.met.map (endsP rows) := by rw [HEE.out, List.take_of_length_le (by omega)]
   refine ⟨_, _, _, _, _, _, rfl, hst.ot.rowS (hst.rt.mono fun cs x hx => hx.mono (fun b hb => hst.ro.dl b hb) (Kept.refl _ _)) (by omega) _ (fun b _ h2 _ => h2), ?_, hst.ot.cap, hst.oe.cap⟩;have h2 := hst.oe.rdU (fun x hx => ?_) (lo wr.heap.size) (fun b e => (hst.oe.lt b 0 none e).2)
   ·rw [hen2] at h2; exact h2
   ·rw [hen2] at hx;obtain ⟨q, hq, rfl⟩ := List.mem_map.1 hx;exact Nat.lt_of_le_of_lt Nat.and_le_left (HPL.out q hq).2
end Go.Proofs.YtkmdakampkfioaaGreatDoor
