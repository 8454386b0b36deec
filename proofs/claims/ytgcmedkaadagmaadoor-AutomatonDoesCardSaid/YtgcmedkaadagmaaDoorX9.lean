/- Walks: the document's Does. -/
import Derived.Test.YtgcmedkaadagmaaDoorX8
namespace Go.Proofs.YtgcmedkaadagmaaDoor
open Go.RowKit Go.Shelf Go.Maps

set_option maxRecDepth 100000 in
set_option maxHeartbeats 4000000 in
theorem dDoes_c (f : FV) (F : Fnt) (k : Int) (v : AV) (a : Au) (w : World) (hf : IsF w (lo w.heap.size) f F) (hs : ∀ lk, lkAt F k = some lk → lk.rules.length ≤ 64 → SmB lk.rules) (hx : ∀ lk, lkAt F k = some lk → lk.rules.length ≤ 64 → ∃ a, autoL lk.rules F.gly.length = some a) (h3 : ∀ lk, lkAt F k = some lk → lk.rules.length ≤ 3) (ha : IsA w (lo w.heap.size) v a) (hfo : a.fore.length ≤ 20000) (hba : a.back.length ≤ 20000) :
  Calls Tryd.prog 30 #[.agg f.cells, .int .i64 k, .agg v.cells] w fun e w' => Below w.heap.size w w' ∧ ∃ b : Bool, e = .returned (.bool b) ∧ (b = true ↔ DoesF F k a) := by
 have b1 : Below w.heap.size w ((w.alloc (.cells f.cells 33)).alloc (.cells v.cells 38)) := below_lit _ _ (below_lit _ _ (Below.refl _ _) _) _
 have k1 := (Bk.new w 33 f.cells).alloc (.cells v.cells 38)
 have k2 := Bk.new (w.alloc (.cells f.cells 33)) 38 v.cells
 rw [World.size_alloc] at k2
 have HB := Lib.hid (dbuild_c f F k _ (hf.call b1) hs hx)
 have HF := Lib.hid hf; have HA := Lib.hid ha; have HS := Lib.hid hs; have H3 := Lib.hid h3
 have fc := fun i v hv => box_cells (v := v) k1 i hv
 have q0 := fc 0 _ rfl
 have q1 := fc 1 _ rfl
 have q2 := fc 2 _ rfl
 have q3 := fc 3 _ rfl
 have q4 := fc 4 _ rfl
 have q5 := fc 5 _ rfl
 have q6 := fc 6 _ rfl
 have q7 := fc 7 _ rfl
 have q8 := fc 8 _ rfl
 clear hf ha hs hx h3 fc
 unfold AV.cells at *
 go_enter Tryd.func30, Tryd.ntmps30
 go_wp2_with fail
 refine HB.out.mono ?_
 rintro e w3 ⟨hb3, hm⟩
 have k13 := k1.below hb3 k1.lt
 have k23 := k2.below hb3 k2.lt
 have bw3 := below_call b1 hb3
 clear q0 q1 q2 q3 q4 q5 q6 q7 q8 k1 k2 b1 hb3 HB
 obtain ⟨⟨ob, er⟩, hbl⟩ : ∃ x, buildL F k = x := ⟨_, rfl⟩
 rw [hbl] at hm
 cases ob with
 | none =>
  dsimp only at hm
  subst hm
  have her := buildL_none hbl
  have HN := Lib.hid (show ¬ DoesF F k a from fun h => by
   obtain ⟨_, _, _, _, h2, _⟩ := h
   rw [hbl] at h2; injection h2 with h2; cases h2)
  have hb4 := below_lit _ _ bw3 (.cells #[.slice none 0 0, .slice none 0 0, .slice none 0 0, .slice none 0 0, .slice none 0 0] 38)
  clear hbl
  rcases her with rfl | rfl
  ·go_wp2
   go_ret
   exact ⟨hb4, false, rfl, by simpa using HN.out⟩
  ·go_wp2
   go_ret
   exact ⟨hb4, false, rfl, by simpa using HN.out⟩
 | some b =>
  obtain ⟨v', rfl, hA'⟩ := hm
  obtain ⟨lk, hlk, hn1, hn2, hr64, hau, rfl⟩ := buildL_some hbl
  unfold AV.cells at *
  have hk0 : ¬ k < 0 := fun h => by unfold lkAt at hlk; rw [if_pos h] at hlk; cases hlk
  obtain ⟨j, rfl⟩ : ∃ j : Nat, k = j := ⟨k.toNat, by omega⟩
  have hlj : F.lks[j]? = some lk := by unfold lkAt at hlk; rw [if_neg hk0, Int.toNat_natCast] at hlk; exact hlk
  have hln := HF.out.2.1.len
  have hjl := (List.getElem?_eq_some_iff.1 hlj).1
  obtain ⟨bl, ol, hla, hbl2, hcc⟩ := HF.out.2.1.pos (by omega)
  obtain ⟨cs, ⟨qa, qn, qc, rfl, hR, hq⟩, hcc2⟩ := hcc j lk hlj
  have bw4 := below_lit _ _ bw3 (.cells #[.slice v'.ca v'.cn v'.cc, .slice v'.fa v'.fn v'.fc, .slice v'.ba v'.bn v'.bc, .slice v'.ea v'.en v'.ec, .slice v'.ga v'.gn v'.gc] 38)
  have hb34 : Below w3.heap.size w3 (w3.alloc (.cells #[.slice v'.ca v'.cn v'.cc, .slice v'.fa v'.fn v'.fc, .slice v'.ba v'.bn v'.bc, .slice v'.ea v'.en v'.ec, .slice v'.ga v'.gn v'.gc] 38)) := (Below.refl _ _).alloc (Nat.le_refl _) _
  have k14 := k13.below hb34 k13.lt
  have k24 := k23.below hb34 k23.lt
  have y0 := (bw4.cell (p := ⟨bl, ol + j * 3 + 0, none⟩) hbl2).trans (hcc2 0 _ rfl)
  rw [Nat.add_zero] at y0
  have y1 := (bw4.cell (p := ⟨bl, ol + j * 3 + 1, none⟩) hbl2).trans (hcc2 1 _ rfl)
  have y2 := (bw4.cell (p := ⟨bl, ol + j * 3 + 2, none⟩) hbl2).trans (hcc2 2 _ rfl)
  unfold FV.cells at k14
  have y3 := box_cells k14 3 rfl
  rw [hla] at y3
  obtain ⟨W4, hW4⟩ : ∃ W4, w3.alloc (.cells #[.slice v'.ca v'.cn v'.cc, .slice v'.fa v'.fn v'.fc, .slice v'.ba v'.bn v'.bc, .slice v'.ea v'.en v'.ec, .slice v'.ga v'.gn v'.gc] 38) = W4 := ⟨_, rfl⟩
  have HEL := Lib.hid (show ELk w (lo w.heap.size) [.int .i64 lk.kind, .bool lk.ign, .slice qa qn qc] lk from ⟨qa, qn, qc, rfl, hR, hq⟩)
  have HDF := Lib.hid (show DoesF F (j : Int) a ↔ DoesL lk.rules f.gn a from by
   have hgl := HF.out.1.len
   rw [← hgl]
   exact ⟨fun h => by
    obtain ⟨lk2, _, _, h1, _, h3⟩ := h
    rw [hlk] at h1; injection h1 with h1; subst h1; exact h3, fun h => ⟨lk, b, 0, hlk, hbl, h⟩⟩)
  have HSM := Lib.hid (HS.out lk hlk hr64)
  have hn3 := H3.out lk hlk
  obtain ⟨x, y, hx, hy, _⟩ := autoL_some hau
  have hgl := HF.out.1.len
  rw [hgl] at hx hy hn2
  have HX := Lib.hid hx; have HY := Lib.hid hy; have HN3 := Lib.hid hn3
  have jz : (0 : Int) ≤ (j : Int) := by omega
  have jn : (j : Int) < (f.ln : Int) := by omega
  clear hcc hcc2 hR hA' hlj hln hjl hau hbl hlk hk0 hb34 bw3 k13 k23 hx hy hn3 hgl hla hq
  go_upto_region 4 with fail
  rw [hW4] at bw4 k14 k24 y0 y1 y2 y3
  try rw [hW4]
  clear hW4
  have b5 := below_lit W4 W4 (Below.refl _ _) (.cells #[.int .i64 lk.kind, .bool lk.ign, .slice qa qn qc] 55)
  have k15 := k14.below b5 k14.lt
  have k25 := k24.below b5 k24.lt
  have kL := Bk.new W4 55 #[.int .i64 lk.kind, .bool lk.ign, .slice qa qn qc]
  have bw5 := below_call bw4 b5
  go_upto_region 5 with fail
  clear y0 y1 y2 y3 k14 k24 b5 bw4
  obtain ⟨W5, hW5⟩ : ∃ W5, W4.alloc (.cells #[.int .i64 lk.kind, .bool lk.ign, .slice qa qn qc] 55) = W5 := ⟨_, rfl⟩
  obtain ⟨gL, hgL⟩ : ∃ gL, W4.heap.size = gL := ⟨_, rfl⟩
  rw [hW5] at k15 k25 kL bw5
  rw [hgL] at kL
  try rw [hW5]
  try rw [hgL]
  clear hW5 hgL
  have HAW := Lib.hid fun (W : World) (bW : Below w.heap.size w W) => HA.out.call bW
  have HLW := Lib.hid fun (W : World) (bW : Below w.heap.size w W) => elk_mono HEL.out (lo_mono bW.size) (kept_below bW)
  have HG1 := Lib.hid (ddoes_c _ lk false v.rf a.cls a.fore a.fe f.gn x W5 (HLW.out _ bw5) HSM.out HN3.out (HAW.out _ bw5).1 hfo hn2 HX.out)
  unfold AV.rf at HG1
  have x0 := box_cells kL 0 rfl
  have x1 := box_cells kL 1 rfl
  have x2 := box_cells kL 2 rfl
  have c1 := box_cells k15 1 rfl
  have a0 := box_cells k25 0 rfl
  have a1 := box_cells k25 1 rfl
  have a2 := box_cells k25 2 rfl
  have a3 := box_cells k25 3 rfl
  have a4 := box_cells k25 4 rfl
  go_wp2_with fail
  refine HG1.out.mono ?_
  rintro e w9 ⟨bb1, rfl, hiff1, b9⟩
  have k19 := k15.below b9 k15.lt
  have k29 := k25.below b9 k25.lt
  have kL9 := kL.below b9 kL.lt
  have bw9 := below_call bw5 b9
  have HI1 := Lib.hid hiff1
  clear hiff1 HG1 x0 x1 x2 c1 a0 a1 a2 a3 a4 b9 k15 k25 kL bw5
  cases bb1 with
  | false =>
   go_wp2
   go_ret
   exact ⟨bw9, false, rfl, by rw [HDF.out]; exact ⟨fun h => (Bool.false_ne_true h).elim, fun h => absurd (HI1.out.2 h.1) (by simp)⟩⟩
  | true =>
   have HG2 := Lib.hid (ddoes_c _ lk true v.rb a.cls a.back a.be f.gn y w9 (HLW.out _ bw9) HSM.out HN3.out (HAW.out _ bw9).2 hba hn2 HY.out)
   unfold AV.rb at HG2
   have x0 := box_cells kL9 0 rfl
   have x1 := box_cells kL9 1 rfl
   have x2 := box_cells kL9 2 rfl
   have c1 := box_cells k19 1 rfl
   have a0 := box_cells k29 0 rfl
   have a1 := box_cells k29 1 rfl
   have a2 := box_cells k29 2 rfl
   have a3 := box_cells k29 3 rfl
   have a4 := box_cells k29 4 rfl
   go_wp2_with fail
   refine HG2.out.mono ?_
   rintro e w10 ⟨bb2, rfl, hiff2, b10⟩
   have bw10 := below_call bw9 b10
   have HI2 := Lib.hid hiff2
   clear hiff2 HG2 x0 x1 x2 c1 a0 a1 a2 a3 a4 b10
   go_wp2
   go_ret
   exact ⟨bw10, bb2, rfl, by rw [HDF.out]; exact ⟨fun h => ⟨by simpa using HI1.out, HI2.out.1 h⟩, fun h => HI2.out.2 h.2⟩⟩

end Go.Proofs.YtgcmedkaadagmaaDoor
