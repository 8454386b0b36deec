/- Words on tags of blocks and on states that were met; walks: meet. -/
import Derived.Test.YtgcmedkaadagmaaDoorV11
namespace Go.Proofs.YtgcmedkaadagmaaDoor
open Go.RowKit Go.Shelf Go.Maps

/-- Of which kind a block is. -/
def tagOf (w : World) (b : Nat) : Option Nat := match w.heap[b]? with | some (.cells _ t _) => some (t + 1) | some (.map _ _) => some 0 | _ => none
theorem tag_ne {w : World} {b x y : Nat} (h1 : tagOf w b = some x) (h2 : tagOf w b = some y) (hne : x ≠ y) : False := by
 rw [h1] at h2; injection h2 with h2; exact hne h2
theorem Bk.tag {w : World} {g t : Nat} {cs : Array Value} (h : Bk w g t cs) : tagOf w g = some (t + 1) := by unfold tagOf; rw [show w.heap[g]? = _ from h]
theorem Ow.tag {w : World} {base e k n c : Nat} {A : Option Addr} {cs : List Value} (h : Ow e k w base A n c cs) {b : Nat} (hb : A.map (·.block) = some b) : tagOf w b = some (e + 1) := by
 obtain ⟨_, _, _, cur, h4⟩ := h.blk b hb
 unfold tagOf; rw [h4]
theorem MapK.tag {κ : Type} {kv : κ → Value} {w : World} {b : Nat} {l : List (κ × Value)} (h : MapK kv w b l) : tagOf w b = some 0 := by
 obtain ⟨es, h1, _⟩ := h
 unfold tagOf; rw [h1]
theorem tag_keep {w w' : World} {b : Nat} (h : w'.heap[b]? = w.heap[b]?) : tagOf w' b = tagOf w b := by unfold tagOf; rw [h]

theorem beq_dec (a b : ByteArray) : (a == b) = decide (a = b) := by
 rw [Bool.eq_iff_iff, MapKept.bytes_beq]; simp
theorem keyS : KeyOK (κ := ByteArray) 9 Value.string := KeyOK.ofNow Tryd.underlying9 (fun a b => by rw [← beq_dec a b]; rfl) (fun em k w => by
 unfold Instr.checkKey; simp [run_underlying Tryd.underlying9]) (fun k => by unfold Instr.sameBits; exact (MapKept.bytes_beq k k).2 rfl)
def plC (met : List (Nat × Nat)) : List (List Value) := met.map fun p => [.int .i64 (p.1 : Int), .int .u64 (p.2 : Int)]
theorem plC_two (met : List (Nat × Nat)) : ∀ cs ∈ plC met, cs.length = 2 := by intro cs h; obtain ⟨p, _, rfl⟩ := List.mem_map.1 h; rfl
theorem plC_app (met ms : List (Nat × Nat)) : plC (met ++ ms) = plC met ++ plC ms := by simp [plC]
theorem plC_at {met : List (Nat × Nat)} {i : Nat} {p : Nat × Nat} (h : met[i]? = some p) : (plC met)[i]? = some [.int .i64 (p.1 : Int), .int .u64 (p.2 : Int)] := by unfold plC; rw [List.getElem?_map, h]; rfl
/-- The map's entries: a state's text, its number. -/
def numL (met : List (Nat × Nat)) : List (ByteArray × Value) := met.zipIdx.map fun x => (textS x.1, .int .i64 (x.2 : Int))
theorem numL_keys (met : List (Nat × Nat)) : (numL met).map (·.1) = met.map textS := by
 unfold numL
 rw [List.map_map]
 apply List.ext_getElem?
 intro i
 rw [List.getElem?_map, List.getElem?_map, List.getElem?_zipIdx]
 cases met[i]? <;> rfl
theorem numL_at {met : List (Nat × Nat)} {i : Nat} {p : Nat × Nat} (h : met[i]? = some p) : (numL met)[i]? = some (textS p, .int .i64 (i : Int)) := by
 unfold numL; rw [List.getElem?_map, List.getElem?_zipIdx, h]; simp
theorem numL_snoc (met : List (Nat × Nat)) (p : Nat × Nat) : numL (met ++ [p]) = numL met ++ [(textS p, .int .i64 (met.length : Int))] := by
 unfold numL; rw [List.zipIdx_append, List.map_append]; simp
/-- A state of bounded numbers. -/
def Pok (p : Nat × Nat) : Prop := p.1 < 18446744073709551616 ∧ p.2 < 18446744073709551616
theorem num_pos {met : List (Nat × Nat)} {p : Nat × Nat} (hm : ∀ q ∈ met, Pok q) (hp : Pok p) : posK ((numL met).map (·.1)) (textS p) = posK met p := by
 rw [numL_keys]
 exact idxOf_map (fun a b ha hb e => textS_inj ha.1 ha.2 hb.1 hb.2 e) hm hp
theorem meetL_pos (met : List (Nat × Nat)) (p : Nat × Nat) : meetL met p = match posK met p with | some i => (i, met) | none => (met.length, met ++ [p]) := rfl
theorem zeroI (w : World) : (zeroValue 3).run Tryd.prog w = .ok (.int .i64 0) w := by kernel_rfl
/-- What was met so far. -/
structure MT (W : World) (B NB MB mb : Nat) (met : List (Nat × Nat)) (ma : Option Addr) (mc : Nat) : Prop where
 kn : Bk W NB 140 #[.map (some mb)]
 km : Bk W MB 141 #[.slice ma met.length mc]
 mp : MapK Value.string W mb (numL met)
 ow : Ow 143 2 W B ma met.length mc (plC met).flatten
 bn : B ≤ NB
 bm : B ≤ MB
 bb : B ≤ mb
 ok : ∀ q ∈ met, Pok q
/-- Its blocks. -/
def MT.blk (NB MB mb : Nat) (ma : Option Addr) (b : Nat) : Prop := b = NB ∨ b = MB ∨ b = mb ∨ ma.map (·.block) = some b
section
variable {W W' : World} {B NB MB mb : Nat} {met : List (Nat × Nat)} {ma : Option Addr} {mc : Nat}
theorem MT.tags (h : MT W B NB MB mb met ma mc) {b : Nat} (hb : MT.blk NB MB mb ma b) : tagOf W b = some (140 + 1) ∨ tagOf W b = some (141 + 1) ∨ tagOf W b = some 0 ∨ tagOf W b = some (143 + 1) := by
 rcases hb with rfl | rfl | rfl | hb
 ·exact .inl h.kn.tag
 ·exact .inr (.inl h.km.tag)
 ·exact .inr (.inr (.inl h.mp.tag))
 ·exact .inr (.inr (.inr (h.ow.tag hb)))
theorem MT.lt (h : MT W B NB MB mb met ma mc) {b : Nat} (hb : MT.blk NB MB mb ma b) : b < W.heap.size ∧ B ≤ b := by
 rcases hb with rfl | rfl | rfl | hb
 ·exact ⟨h.kn.lt, h.bn⟩
 ·exact ⟨h.km.lt, h.bm⟩
 ·exact ⟨h.mp.lt, h.bb⟩
 ·exact ⟨(h.ow.blk b hb).2.1, (h.ow.blk b hb).1⟩
theorem MT.keep (h : MT W B NB MB mb met ma mc) (hk : ∀ b, MT.blk NB MB mb ma b → W'.heap[b]? = W.heap[b]?) : MT W' B NB MB mb met ma mc :=
 ⟨(hk NB (.inl rfl)).trans h.kn, (hk MB (.inr (.inl rfl))).trans h.km, h.mp.keep (hk mb (.inr (.inr (.inl rfl)))), h.ow.keep fun b e => hk b (.inr (.inr (.inr (by rw [e]; rfl)))), h.bn, h.bm, h.bb, h.ok⟩
theorem MT.call (h : MT W B NB MB mb met ma mc) (hb : Below W.heap.size W W') : MT W' B NB MB mb met ma mc := h.keep fun b hb' => hb.block b (h.lt hb').1
end
/-- What meeting a state does beside. -/
structure MtPost (W W' : World) (B NB MB mb : Nat) (ma ma' : Option Addr) : Prop where
 bl : Below B W W'
 oth : ∀ b, b < W.heap.size → ¬ MT.blk NB MB mb ma b → W'.heap[b]? = W.heap[b]?
 ab : ∀ b, ma'.map (·.block) = some b → ma.map (·.block) = some b ∨ W.heap.size ≤ b

def MeetR (w : World) (B NB MB mb : Nat) (met : List (Nat × Nat)) (ma : Option Addr) (p : Nat × Nat) (e : Ending) (w' : World) : Prop := ∃ ma' mc', e = .returned (.int .i64 ((meetL met p).1 : Int)) ∧ MT w' B NB MB mb (meetL met p).2 ma' mc' ∧ MtPost w w' B NB MB mb ma ma'
theorem MT.push {w w2 w3 w4 : World} {B NB MB mb : Nat} {met : List (Nat × Nat)} {ma ma' : Option Addr} {mc mc' : Nat} {p : Nat × Nat} (hB : B ≤ w.heap.size) (hp : Pok p) (b2 : Below w.heap.size w w2) (h2 : MT w2 B NB MB mb met ma mc) (hw : ∀ b, MT.blk NB MB mb ma b → b < w.heap.size) (hg3 : w2.grownBy w3 (some mb)) (hmp : MapK Value.string w3 mb (numL (met ++ [p]))) {o : Obj}
  (ho4 : Ow 143 2 w4 B ma' (met.length + 1) mc' ((plC met).flatten ++ [.int .i64 (p.1 : Int), .int .u64 (p.2 : Int)])) (hg4 : (w3.alloc o).grownBy w4 (ma.map (·.block))) (hat : ma'.map (·.block) = ma.map (·.block) ∨ ma'.map (·.block) = some (w3.alloc o).heap.size) :
  MT (w4.setCell ⟨MB, 0, none⟩ (.slice ma' (met.length + 1) mc')) B NB MB mb (met ++ [p]) ma' mc' ∧ MtPost w (w4.setCell ⟨MB, 0, none⟩ (.slice ma' (met.length + 1) mc')) B NB MB mb ma ma' := by
 have s2 := b2.size
 have s3 := hg3.size
 have s4 := hg4.size
 rw [World.size_alloc] at s4
 have t1 : MB ≠ mb := fun e => by subst e; exact tag_ne h2.km.tag h2.mp.tag (by decide)
 have t2 : NB ≠ mb := fun e => by subst e; exact tag_ne h2.kn.tag h2.mp.tag (by decide)
 have t3 : NB ≠ MB := fun e => by subst e; exact tag_ne h2.km.tag h2.kn.tag (by decide)
 have t4 : ∀ b, ma.map (·.block) = some b → b ≠ mb ∧ b ≠ NB ∧ b ≠ MB := fun b hb => ⟨fun e => by subst e; exact tag_ne (h2.ow.tag hb) h2.mp.tag (by decide), fun e => by subst e; exact tag_ne (h2.ow.tag hb) h2.kn.tag (by decide), fun e => by subst e; exact tag_ne (h2.ow.tag hb) h2.km.tag (by decide)⟩
 have l1 := (h2.lt (.inl rfl)).1
 have l2 := (h2.lt (.inr (.inl rfl))).1
 have l3 := (h2.lt (.inr (.inr (.inl rfl)))).1
 have far : ∀ b, b < w2.heap.size → b ≠ MB → b ≠ mb → ma.map (·.block) ≠ some b → (w4.setCell ⟨MB, 0, none⟩ (.slice ma' (met.length + 1) mc')).heap[b]? = w2.heap[b]? := fun b h1 h2 h3 h4 => by
  rw [Below.heap_setCell w4 ⟨MB, 0, none⟩ _ b h2, hg4.block b (by rw [World.size_alloc]; omega) (fun e => h4 e.symm), Below.heap_alloc w3 o b (by omega), hg3.block b h1 (fun e => h3 (by injection e with e))]
 have hmbk : (w4.setCell ⟨MB, 0, none⟩ (.slice ma' (met.length + 1) mc')).heap[mb]? = w3.heap[mb]? := by
  rw [Below.heap_setCell w4 ⟨MB, 0, none⟩ _ mb (fun e => t1 e.symm), hg4.block mb (by rw [World.size_alloc]; omega) (fun e => (t4 mb e.symm).1 rfl), Below.heap_alloc w3 o mb (by omega)]
 have km4 : Bk w4 MB 141 #[.slice ma met.length mc] := by
  have e : w4.heap[MB]? = w2.heap[MB]? := by
   rw [hg4.block MB (by rw [World.size_alloc]; omega) (fun e => (t4 MB e.symm).2.2 rfl), Below.heap_alloc w3 o MB (by omega), hg3.block MB l2 (fun e => t1 (by injection e with e))]
  exact e.trans h2.km
 have hma' : ∀ b, ma'.map (·.block) = some b → ma.map (·.block) = some b ∨ w3.heap.size + 1 = b := fun b hb => by
  rcases hat with e | e
  ·left; rw [← e]; exact hb
  ·right; rw [e, World.size_alloc] at hb; injection hb with hb
 have hlen : (met ++ [p]).length = met.length + 1 := by simp
 refine ⟨⟨(far NB l1 t3 t2 (fun e => (t4 NB e).2.1 rfl)).trans h2.kn, by rw [hlen]; exact km4.set_ 0 _, hmp.keep hmbk, ?_, h2.bn, h2.bm, h2.bb, fun q hq => ?_⟩, ?_, fun b hb hn => ?_, fun b hb => ?_⟩
 ·rw [hlen, plC_app, List.flatten_append]
  exact ho4.setOther (p := ⟨MB, 0, none⟩) (fun b e => by
   rcases hma' b (by rw [e]; rfl) with h | h
   ·exact (t4 b h).2.2
   ·show b ≠ MB; omega) _
 ·rcases List.mem_append.1 hq with hq | hq
  ·exact h2.ok q hq
  ·rw [List.mem_singleton] at hq; rw [hq]; exact hp
 ·have b3 : Below B w w3 := (b2.mono hB).grown hg3 (by omega) (fun b e => by injection e with e; rw [← e]; exact h2.bb)
  exact ((b3.alloc (by omega) o).grown hg4 (by rw [World.size_alloc]; omega) (fun b e => (h2.ow.blk b e).1)).setCell (p := ⟨MB, 0, none⟩) h2.bm _
 ·rw [far b (by omega) (fun e => hn (.inr (.inl e))) (fun e => hn (.inr (.inr (.inl e)))) (fun e => hn (.inr (.inr (.inr e)))), b2.block b hb]
 ·rcases hma' b hb with h | h
  ·exact .inl h
  ·right; omega

set_option maxRecDepth 100000 in
set_option maxHeartbeats 1000000 in
theorem meet_c (B NB MB mb : Nat) (met : List (Nat × Nat)) (ma : Option Addr) (mc : Nat) (p : Nat × Nat) (w : World) (h : MT w B NB MB mb met ma mc) (hB : B ≤ w.heap.size) (hp : Pok p) (hl : met.length ≤ 1000000) :
  Calls Tryd.prog 58 #[.agg #[.int .i64 (p.1 : Int), .int .u64 (p.2 : Int)], .pointer (some ⟨NB, 0, none⟩), .pointer (some ⟨MB, 0, none⟩)] w (MeetR w B NB MB mb met ma p) := by
 have b1 : Below w.heap.size w (w.alloc (.cells #[.int .i64 (p.1 : Int), .int .u64 (p.2 : Int)] 143)) := (Below.refl _ _).alloc (Nat.le_refl _) _
 have k1 := Bk.new w 143 #[.int .i64 (p.1 : Int), .int .u64 (p.2 : Int)]
 have HT := Lib.hid (text_c p.1 p.2 (w.alloc (.cells #[.int .i64 (p.1 : Int), .int .u64 (p.2 : Int)] 143)))
 have HH := Lib.hid h
 have HPO := Lib.hid (num_pos h.ok hp)
 have x0 := box_cells k1 0 rfl
 have x1 := box_cells k1 1 rfl
 have mp1 : 0 < (1 : Nat) := by omega
 clear h
 go_enter Tryd.func58, Tryd.ntmps58
 go_wp2_with fail
 refine HT.out.mono ?_
 rintro e w2 ⟨rfl, hb2⟩
 have b2 := below_call b1 hb2
 have h2 := HH.out.call b2
 have k2 := k1.below hb2 k1.lt
 have y0 := box_cells k2 0 rfl
 have y1 := box_cells k2 1 rfl
 have n0 := box_cells h2.kn 0 rfl
 have m0 := box_cells h2.km 0 rfl
 have fm := h2.km.frozen 0
 have HK2 := Lib.hid h2
 have HKB := Lib.hid k2
 clear x0 x1 k1 HT hb2 b1 mp1
 cases hpos : posK met p with
 | some i =>
  have hi := posK_some hpos
  have hlk : lkK (numL met) (textS p) = some (.int .i64 (i : Int)) := by
   unfold lkK; rw [HPO.out, hpos, Option.bind_some, numL_at hi]; rfl
  have hlook := run_lookK Tryd.underlying140 keyS (.int .i64 0) zeroI h2.mp (textS p) true
  rw [hlk] at hlook
  simp only [if_true, Option.getD_some, Option.isSome_some] at hlook
  have hm : meetL met p = (i, met) := by rw [meetL_pos, hpos]
  have HM := Lib.hid hm
  clear hi hlk hpos hm h2 k2
  go_wp2
  go_ret
  exact ⟨ma, mc, by rw [HM.out]; rfl, by rw [HM.out]; exact HK2.out, b2.mono hB, fun b hb _ => b2.block b hb, fun b hb => .inl hb⟩
 | none =>
  have hnm := posK_none hpos
  have hlk : lkK (numL met) (textS p) = none := by
   unfold lkK; rw [HPO.out, hpos]; rfl
  have hlook := run_lookK Tryd.underlying140 keyS (.int .i64 0) zeroI h2.mp (textS p) true
  rw [hlk] at hlook
  simp only [if_true, Option.getD_none, Option.isSome_none] at hlook
  have hm : meetL met p = (met.length, met ++ [p]) := by rw [meetL_pos, hpos]
  have HM := Lib.hid hm
  obtain ⟨w3, hput, hmp3, hg3⟩ := run_putK Tryd.underlying140 keyS h2.mp (textS p) (.int .i64 (met.length : Int))
  have HMP := Lib.hid (show MapK Value.string w3 mb (numL (met ++ [p])) by
   rw [numL_snoc]
   have e : putK (numL met) (textS p) (.int .i64 (met.length : Int)) = numL met ++ [(textS p, .int .i64 (met.length : Int))] := by unfold putK; rw [HPO.out, hpos]
   rw [e] at hmp3; exact hmp3)
  have tm := h2.mp.tag
  have kn3 := h2.kn.grown hg3 (fun e => by injection e with e; subst e; exact tag_ne tm h2.kn.tag (by decide))
  have km3 := h2.km.grown hg3 (fun e => by injection e with e; subst e; exact tag_ne tm h2.km.tag (by decide))
  have k3 := k2.grown hg3 (fun e => by injection e with e; subst e; exact tag_ne tm k2.tag (by decide))
  have ow3 := h2.ow.grown hg3 (fun b e e2 => by injection e2 with e2; subst e2; exact tag_ne tm (h2.ow.tag (by rw [e]; rfl)) (by decide))
  have z0 := box_cells k3 0 rfl
  have z1 := box_cells k3 1 rfl
  have mm0 := box_cells km3 0 rfl
  have b3 : Below B w2 w3 := (Below.refl _ _).grown hg3 (by have := b2.size; omega) (fun b e => by injection e with e; rw [← e]; exact h2.bb)
  have hB3 : B ≤ w3.heap.size := by have := b2.size; have := hg3.size; omega
  have HOW := Lib.hid (ow3.alloc (.cells #[.int .i64 (p.1 : Int), .int .u64 (p.2 : Int)] 143))
  have k3 := km3
  clear hpos hlk hmp3 hm h2 k2 y0 y1
  go_wp2_with (at_builtin; refine appP elt_places rfl _ _ rfl (w3.alloc (.cells #[.int .i64 (p.1 : Int), .int .u64 (p.2 : Int)] 143)) B _ _ _ (plC met).flatten _ 1 1 [.int .i64 (p.1 : Int), .int .u64 (p.2 : Int)] (by rfl) (by rfl) HOW.out rfl (fun _ => news_new _ _ _ (by omega)) (by simp [Value.oneCell']) (by omega) (by rw [World.size_alloc]; omega) ?_; intro ma' mc' w4 ho4 hg4 hb4 hat4; have km4 := (km3.alloc (.cells #[.int .i64 (p.1 : Int), .int .u64 (p.2 : Int)] 143)).grown hg4 ((km3.alloc _).ne_own (by decide) HOW.out); have f4 := km4.frozen 0; have x4 := box_cells km4 0 rfl)
  go_ret
  obtain ⟨q1, q2⟩ := MT.push hB hp b2 HK2.out (fun b hb => (HH.out.lt hb).1) hg3 HMP.out ho4 hg4 hat4
  exact ⟨ma', mc', by rw [HM.out]; rfl, by rw [HM.out]; exact q1, q2⟩

end Go.Proofs.YtgcmedkaadagmaaDoor
