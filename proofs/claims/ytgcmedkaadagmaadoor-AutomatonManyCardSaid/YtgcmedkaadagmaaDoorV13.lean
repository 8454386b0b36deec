/- Words on what states has in memory in the midst. -/
import Derived.Test.YtgcmedkaadagmaaDoorV12
namespace Go.Proofs.YtgcmedkaadagmaaDoor
open Go.RowKit Go.Shelf Go.Maps

structure SV where
  D : Nat → Prop
  la : Option Addr
  ln : Nat
  lc : Nat
  met : List (Nat × Nat)
  ma : Option Addr
  mc : Nat
  ta : Option Addr
  tn : Nat
  tc : Nat
  css : List (List Value)
  tab : List (List Int)
  ea : Option Addr
  en : Nat
  ec : Nat
  ends : List Nat
structure ST (W : World) (B P : Nat) (r : WV) (rows : List (List (List Int))) (cls : List Int) (NB MB mb : Nat) (s : SV) : Prop where
  ro : RO W B s.D P r rows cls s.la s.ln s.lc
  mt : MT W B NB MB mb s.met s.ma s.mc
  ot : Ow 23 1 W B s.ta s.tn s.tc s.css.flatten
  rt : RowOf 1 (ERow W s.D) s.css s.tab
  oe : Ow 50 1 W B s.ea s.en s.ec (uc s.ends)
  nm : ∀ b, MT.blk NB MB mb s.ma b → ¬ s.D b
  nt : ∀ b, s.ta.map (·.block) = some b → ¬ s.D b
  ne : ∀ b, s.ea.map (·.block) = some b → ¬ s.D b
def ST.use (P NB MB mb : Nat) (s : SV) (b : Nat) : Prop := s.D b ∨ b = P ∨ s.la.map (·.block) = some b ∨ MT.blk NB MB mb s.ma b ∨ s.ta.map (·.block) = some b ∨ s.ea.map (·.block) = some b
/-- The row in the making. -/
def RW (W : World) (B g K : Nat) (D : Nat → Prop) (xs : List Int) : Prop := Ow 3 1 W B (some ⟨g, 0, none⟩) K K (ic xs) ∧ ¬ D g
theorem RO.tags {W : World} {B : Nat} {D : Nat → Prop} {P : Nat} {r : WV} {rows : List (List (List Int))} {cls : List Int} {la : Option Addr} {ln lc : Nat} (h : RO W B D P r rows cls la ln lc) {b : Nat} (hb : b = P ∨ la.map (·.block) = some b) : tagOf W b = some (150 + 1) ∨ tagOf W b = some (205 + 1) := by
  rcases hb with rfl | hb
  · exact .inl h.hP.tag
  · obtain ⟨css, h1, _⟩ := h.lv
    exact .inr (h1.tag hb)
section
variable {W W' : World} {B P : Nat} {r : WV} {rows : List (List (List Int))} {cls : List Int} {NB MB mb : Nat} {s : SV}
theorem ST.lt (h : ST W B P r rows cls NB MB mb s) {b : Nat} (hb : ST.use P NB MB mb s b) : b < W.heap.size := by
  rcases hb with hb | rfl | hb | hb | hb | hb
  · exact h.ro.dl b hb
  · exact h.ro.lt
  · exact (h.ro.ltl b hb).1
  · exact (h.mt.lt hb).1
  · exact (h.ot.blk b hb).2.1
  · exact (h.oe.blk b hb).2.1
theorem ST.keep (h : ST W B P r rows cls NB MB mb s) (hk : ∀ b, ST.use P NB MB mb s b → W'.heap[b]? = W.heap[b]?) (hs : W.heap.size ≤ W'.heap.size) : ST W' B P r rows cls NB MB mb s := by
  have kD : Kept s.D W W' := fun b hb => hk b (.inl hb)
  refine ⟨h.ro.keep (fun b hb => hk b ?_) (fun _ h => h) (fun b hd => ⟨Nat.lt_of_lt_of_le (h.ro.dl b hd) hs, fun e => h.ro.nP (e ▸ hd), fun e => h.ro.nl b e hd⟩), h.mt.keep fun b hb => hk b (.inr (.inr (.inr (.inl hb)))), h.ot.keep fun b e => hk b (.inr (.inr (.inr (.inr (.inl (by rw [e]; rfl)))))), h.rt.mono fun cs x hx => hx.mono (fun _ h => h) kD, h.oe.keep fun b e => hk b (.inr (.inr (.inr (.inr (.inr (by rw [e]; rfl)))))), h.nm, h.nt, h.ne⟩
  rcases hb with h1 | h1 | h1
  · exact .inl h1
  · exact .inr (.inl h1)
  · exact .inr (.inr (.inl h1))
theorem ST.call (h : ST W B P r rows cls NB MB mb s) (hb : Below W.heap.size W W') : ST W' B P r rows cls NB MB mb s := h.keep (fun b hu => hb.block b (h.lt hu)) hb.size
theorem RW.call {g K : Nat} {D : Nat → Prop} {xs : List Int} (h : RW W B g K D xs) (hb : Below W.heap.size W W') : RW W' B g K D xs := ⟨h.1.call hb, h.2⟩
/-- Tags of those that are written. -/
theorem ST.tagL (h : ST W B P r rows cls NB MB mb s) {b : Nat} (hb : b = P ∨ s.la.map (·.block) = some b) : ¬ MT.blk NB MB mb s.ma b ∧ s.ta.map (·.block) ≠ some b ∧ s.ea.map (·.block) ≠ some b := by
  have ht := h.ro.tags hb
  refine ⟨fun hm => ?_, fun e => ?_, fun e => ?_⟩
  · have hm := h.mt.tags hm
    rcases ht with ht | ht <;> rcases hm with hm | hm | hm | hm <;> exact tag_ne ht hm (by decide)
  · rcases ht with ht | ht <;> exact tag_ne ht (h.ot.tag e) (by decide)
  · rcases ht with ht | ht <;> exact tag_ne ht (h.oe.tag e) (by decide)
theorem ST.tagM (h : ST W B P r rows cls NB MB mb s) {b : Nat} (hm : MT.blk NB MB mb s.ma b) : s.ta.map (·.block) ≠ some b ∧ s.ea.map (·.block) ≠ some b := by
  have hm := h.mt.tags hm
  refine ⟨fun e => ?_, fun e => ?_⟩
  · rcases hm with hm | hm | hm | hm <;> exact tag_ne hm (h.ot.tag e) (by decide)
  · rcases hm with hm | hm | hm | hm <;> exact tag_ne hm (h.oe.tag e) (by decide)
theorem ST.tagT (h : ST W B P r rows cls NB MB mb s) {b : Nat} (hm : s.ta.map (·.block) = some b) : s.ea.map (·.block) ≠ some b := fun e => tag_ne (h.ot.tag hm) (h.oe.tag e) (by decide)
theorem ST.tagR (h : ST W B P r rows cls NB MB mb s) {g K : Nat} {D : Nat → Prop} {xs : List Int} (hr : RW W B g K D xs) : g ≠ P ∧ s.la.map (·.block) ≠ some g ∧ ¬ MT.blk NB MB mb s.ma g ∧ s.ta.map (·.block) ≠ some g ∧ s.ea.map (·.block) ≠ some g := by
  have hg : tagOf W g = some (3 + 1) := hr.1.tag rfl
  refine ⟨fun e => ?_, fun e => ?_, fun e => ?_, fun e => ?_, fun e => ?_⟩
  · have := h.ro.tags (.inl e)
    rcases this with ht | ht <;> exact tag_ne ht hg (by decide)
  · have := h.ro.tags (.inr e)
    rcases this with ht | ht <;> exact tag_ne ht hg (by decide)
  · have hm := h.mt.tags e
    rcases hm with hm | hm | hm | hm <;> exact tag_ne hm hg (by decide)
  · exact tag_ne (h.ot.tag e) hg (by decide)
  · exact tag_ne (h.oe.tag e) hg (by decide)
/-- Behind a step with the rows. -/
theorem ST.lev (h : ST W B P r rows cls NB MB mb s) {m : Nat} {D' : Nat → Prop} {la' : Option Addr} {ln' lc' : Nat} (k : LvPost W B s.D P r rows cls s.la s.ln m W' D' la' ln' lc') : ST W' B P r rows cls NB MB mb { s with D := D', la := la', ln := ln', lc := lc' } := by
  obtain ⟨k1, st, _, _⟩ := k
  have kM : ∀ b, MT.blk NB MB mb s.ma b → W'.heap[b]? = W.heap[b]? := fun b hb => st.oth b (h.mt.lt hb).1 (fun e => (h.tagL (.inl e)).1 hb) (fun e => (h.tagL (.inr e)).1 hb)
  refine ⟨k1, h.mt.keep kM, h.ot.keep fun b e => st.oth b (h.ot.blk b (by rw [e]; rfl)).2.1 (fun e2 => (h.tagL (.inl e2)).2.1 (by rw [e]; rfl)) (fun e2 => (h.tagL (.inr e2)).2.1 (by rw [e]; rfl)), h.rt.mono fun cs x hx => hx.mono st.up st.kd,
    h.oe.keep fun b e => st.oth b (h.oe.blk b (by rw [e]; rfl)).2.1 (fun e2 => (h.tagL (.inl e2)).2.2 (by rw [e]; rfl)) (fun e2 => (h.tagL (.inr e2)).2.2 (by rw [e]; rfl)), fun b hb hd => ?_, fun b hb hd => ?_, fun b hb hd => ?_⟩
  · rcases st.new b hd with h1 | h1
    · exact h.nm b hb h1
    · have := (h.mt.lt hb).1; omega
  · rcases st.new b hd with h1 | h1
    · exact h.nt b hb h1
    · have := (h.ot.blk b hb).2.1; omega
  · rcases st.new b hd with h1 | h1
    · exact h.ne b hb h1
    · have := (h.oe.blk b hb).2.1; omega
theorem RW.lev {g K : Nat} {xs : List Int} (hr : RW W B g K s.D xs) (h : ST W B P r rows cls NB MB mb s) {m : Nat} {D' : Nat → Prop} {la' : Option Addr} {ln' lc' : Nat} (k : LvPost W B s.D P r rows cls s.la s.ln m W' D' la' ln' lc') : RW W' B g K D' xs := by
  obtain ⟨k1, st, _, _⟩ := k
  obtain ⟨t1, t2, _⟩ := h.tagR hr
  refine ⟨hr.1.keep fun b e => ?_, fun hd => ?_⟩
  · injection e with e; injection e with e
    subst e
    exact st.oth _ (hr.1.lt _ _ _ rfl).2 t1 t2
  · rcases st.new g hd with h1 | h1
    · exact hr.2 h1
    · have := (hr.1.lt _ _ _ rfl).2; omega
/-- Behind a state that was met. -/
theorem ST.meet (h : ST W B P r rows cls NB MB mb s) {met' : List (Nat × Nat)} {ma' : Option Addr} {mc' : Nat} (k1 : MT W' B NB MB mb met' ma' mc') (k : MtPost W W' B NB MB mb s.ma ma') : ST W' B P r rows cls NB MB mb { s with met := met', ma := ma', mc := mc' } := by
  have kk : ∀ b, b < W.heap.size → ¬ MT.blk NB MB mb s.ma b → W'.heap[b]? = W.heap[b]? := k.oth
  refine ⟨h.ro.keep (fun b hb => ?_) (fun _ h => h) (fun b hd => ⟨Nat.lt_of_lt_of_le (h.ro.dl b hd) k.bl.size, fun e => h.ro.nP (e ▸ hd), fun e => h.ro.nl b e hd⟩), k1, h.ot.keep fun b e => kk b (h.ot.blk b (by rw [e]; rfl)).2.1 (fun hm => (h.tagM hm).1 (by rw [e]; rfl)), h.rt.mono fun cs x hx => hx.mono (fun _ h => h) (fun b hb => kk b (h.ro.dl b hb) (fun hm => h.nm b hm hb)),
    h.oe.keep fun b e => kk b (h.oe.blk b (by rw [e]; rfl)).2.1 (fun hm => (h.tagM hm).2 (by rw [e]; rfl)), fun b hb hd => ?_, h.nt, h.ne⟩
  · rcases hb with h1 | h1 | h1
    · exact kk b (h.ro.dl b h1) (fun hm => h.nm b hm h1)
    · subst h1; exact kk b h.ro.lt (h.tagL (.inl rfl)).1
    · exact kk b (h.ro.ltl b h1).1 (h.tagL (.inr h1)).1
  · rcases hb with h1 | h1 | h1 | h1
    · exact h.nm b (.inl h1) hd
    · exact h.nm b (.inr (.inl h1)) hd
    · exact h.nm b (.inr (.inr (.inl h1))) hd
    · rcases k.ab b h1 with h2 | h2
      · exact h.nm b (.inr (.inr (.inr h2))) hd
      · have := h.ro.dl b hd; omega
theorem RW.meet {g K : Nat} {xs : List Int} (hr : RW W B g K s.D xs) (h : ST W B P r rows cls NB MB mb s) {ma' : Option Addr} (k : MtPost W W' B NB MB mb s.ma ma') : RW W' B g K s.D xs := by
  obtain ⟨_, _, t3, _⟩ := h.tagR hr
  refine ⟨hr.1.keep fun b e => ?_, hr.2⟩
  injection e with e; injection e with e
  subst e
  exact k.oth _ (hr.1.lt _ _ _ rfl).2 t3
/-- A number of the row is stored. -/
theorem ST.row {g K : Nat} {xs : List Int} (h : ST W B P r rows cls NB MB mb s) (hr : RW W B g K s.D xs) (i : Nat) (v : Int) : ST (W.setCell ⟨g, i, none⟩ (.int .i64 v)) B P r rows cls NB MB mb s ∧ RW (W.setCell ⟨g, i, none⟩ (.int .i64 v)) B g K s.D (xs.set i v) := by
  obtain ⟨t1, t2, t3, t4, t5⟩ := h.tagR hr
  refine ⟨h.keep (fun b hu => Below.heap_setCell W ⟨g, i, none⟩ _ b (fun e => ?_)) (by simp), ?_, hr.2⟩
  · subst e
    rcases hu with hu | hu | hu | hu | hu | hu
    · exact hr.2 hu
    · exact t1 hu
    · exact t2 hu
    · exact t3 hu
    · exact t4 hu
    · exact t5 hu
  · have := hr.1.stored i (.int .i64 v)
    rw [show (ic xs).set i (.int .i64 v) = ic (xs.set i v) by simp [ic, List.map_set]] at this
    exact this
/-- The row is put into the table. -/
theorem ST.tabl {g K : Nat} {xs : List Int} (h : ST W B P r rows cls NB MB mb s) (hr : RW W B g K s.D xs) (hK : K ≤ 9223372036854775807) {o : Obj} {ta' : Option Addr} {tc' : Nat} (ho : Ow 23 1 W' B ta' (s.tn + 1) tc' (s.css.flatten ++ [.slice (some ⟨g, 0, none⟩) K K])) (hg : (W.alloc o).grownBy W' (s.ta.map (·.block))) (hat : ta'.map (·.block) = s.ta.map (·.block) ∨ ta'.map (·.block) = some (W.alloc o).heap.size) :
    ST W' B P r rows cls NB MB mb { s with D := fun b => s.D b ∨ b = g, ta := ta', tn := s.tn + 1, tc := tc', css := s.css ++ [[.slice (some ⟨g, 0, none⟩) K K]], tab := s.tab ++ [xs] } := by
  obtain ⟨t1, t2, t3, t4, t5⟩ := h.tagR hr
  have sz := hg.size
  rw [World.size_alloc] at sz
  have hgl := (hr.1.lt _ _ _ rfl).2
  have kk : ∀ b, b < W.heap.size → s.ta.map (·.block) ≠ some b → W'.heap[b]? = W.heap[b]? := fun b h1 h2 => by
    rw [hg.block b (by rw [World.size_alloc]; omega) (fun e => h2 e.symm), Below.heap_alloc W o b h1]
  have kg : W'.heap[g]? = W.heap[g]? := kk g hgl t4
  have kD : Kept s.D W W' := fun b hb => kk b (h.ro.dl b hb) (fun e => h.nt b e hb)
  have hta : ∀ b, ta'.map (·.block) = some b → s.ta.map (·.block) = some b ∨ b = W.heap.size + 1 := fun b hb => by
    rcases hat with e | e
    · left; rw [← e]; exact hb
    · right; rw [e, World.size_alloc] at hb; injection hb with hb; exact hb.symm
  refine ⟨h.ro.keep (fun b hb => ?_) (fun b hb => .inl hb) (fun b hd => ?_), h.mt.keep fun b hb => kk b (h.mt.lt hb).1 (h.tagM hb).1, ?_, ?_, h.oe.keep fun b e => kk b (h.oe.blk b (by rw [e]; rfl)).2.1 (fun e2 => h.tagT e2 (by rw [e]; rfl)), ?_, ?_, ?_⟩
  · rcases hb with h1 | h1 | h1
    · exact kD b h1
    · subst h1; exact kk b h.ro.lt (h.tagL (.inl rfl)).2.1
    · exact kk b (h.ro.ltl b h1).1 (h.tagL (.inr h1)).2.1
  · rcases hd with hd | hd
    · exact ⟨by have := h.ro.dl b hd; omega, fun e => h.ro.nP (e ▸ hd), fun e => h.ro.nl b e hd⟩
    · subst hd; exact ⟨by omega, t1, t2⟩
  · rw [List.flatten_append]; exact ho
  · refine (h.rt.mono fun cs x hx => hx.mono (fun b hb => .inl hb) kD).app (RowOf.one ⟨_, K, K, rfl, ?_, Nat.le_refl _, hK⟩ rfl)
    have hrd := hr.1.rd
    refine ⟨hrd.1, fun h0 => ?_⟩
    obtain ⟨b, o2, e, _, hc⟩ := hrd.2 h0
    injection e with e; injection e with e1 e2
    subst e1; subst e2
    refine ⟨_, _, rfl, .inr rfl, fun i x hx => ?_⟩
    obtain ⟨cs, h1, h2⟩ := hc i x hx
    exact ⟨cs, h1, fun j v hv => (World.cell?_of_block (a := ⟨_, 0 + i * 1 + j, none⟩) kg).trans (h2 j v hv)⟩
  · rintro b hb (hd | hd)
    · exact h.nm b hb hd
    · subst hd; exact t3 hb
  · rintro b hb (hd | hd)
    · rcases hta b hb with h1 | h1
      · exact h.nt b h1 hd
      · have := h.ro.dl b hd; omega
    · subst hd
      rcases hta b hb with h1 | h1
      · exact t4 h1
      · omega
  · rintro b hb (hd | hd)
    · exact h.ne b hb hd
    · subst hd; exact t5 hb
/-- Ends are put behind the others. -/
theorem ST.endl (h : ST W B P r rows cls NB MB mb s) {o : Obj} {ea' : Option Addr} {ec' x : Nat} (ho : Ow 50 1 W' B ea' (s.en + 1) ec' (uc s.ends ++ [.int .u64 (x : Int)])) (hg : (W.alloc o).grownBy W' (s.ea.map (·.block))) (hat : ea'.map (·.block) = s.ea.map (·.block) ∨ ea'.map (·.block) = some (W.alloc o).heap.size) :
    ST W' B P r rows cls NB MB mb { s with ea := ea', en := s.en + 1, ec := ec', ends := s.ends ++ [x] } := by
  have sz := hg.size
  rw [World.size_alloc] at sz
  have kk : ∀ b, b < W.heap.size → s.ea.map (·.block) ≠ some b → W'.heap[b]? = W.heap[b]? := fun b h1 h2 => by
    rw [hg.block b (by rw [World.size_alloc]; omega) (fun e => h2 e.symm), Below.heap_alloc W o b h1]
  have kD : Kept s.D W W' := fun b hb => kk b (h.ro.dl b hb) (fun e => h.ne b e hb)
  refine ⟨h.ro.keep (fun b hb => ?_) (fun b hb => hb) (fun b hd => ⟨by have := h.ro.dl b hd; omega, fun e => h.ro.nP (e ▸ hd), fun e => h.ro.nl b e hd⟩), h.mt.keep fun b hb => kk b (h.mt.lt hb).1 (h.tagM hb).2, h.ot.keep fun b e => kk b (h.ot.blk b (by rw [e]; rfl)).2.1 (fun e2 => h.tagT (by rw [e]; rfl) e2), h.rt.mono fun cs x hx => hx.mono (fun _ h => h) kD, ?_, h.nm, h.nt, ?_⟩
  · rcases hb with h1 | h1 | h1
    · exact kD b h1
    · subst h1; exact kk b h.ro.lt (h.tagL (.inl rfl)).2.2
    · exact kk b (h.ro.ltl b h1).1 (h.tagL (.inr h1)).2.2
  · show Ow _ _ _ _ _ _ _ (uc (s.ends ++ [x]))
    rw [uc_app]; exact ho
  · intro b hb hd
    rcases hat with e | e
    · exact h.ne b (by rw [← e]; exact hb) hd
    · change ea'.map (·.block) = some b at hb
      rw [e, World.size_alloc] at hb; injection hb with hb
      have := h.ro.dl b hd; omega
end

end Go.Proofs.YtgcmedkaadagmaaDoor
