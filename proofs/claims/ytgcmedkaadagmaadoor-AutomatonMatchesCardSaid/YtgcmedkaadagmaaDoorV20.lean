/- Walks: Does. -/
import Derived.Test.YtgcmedkaadagmaaDoorB2
import Derived.Test.YtgcmedkaadagmaaDoorB3
import Derived.Test.YtgcmedkaadagmaaDoorV19
namespace Go.Proofs.YtgcmedkaadagmaaDoor
open Go.RowKit Go.Shelf Go.Maps

theorem buildL_none {F : Fnt} {k er : Int} (h : buildL F k = (none, er)) : er = 1 ∨ er = 2 := by
 unfold buildL at h
 split at h
 ·injection h with _ h; omega
 ·split at h
  ·injection h with _ h; omega
  ·split at h
   ·injection h with _ h; omega
   ·split at h
    ·injection h with h _; cases h
    ·injection h with _ h; omega
theorem buildL_some {F : Fnt} {k er : Int} {a : Au} (h : buildL F k = (some a, er)) : ∃ lk, lkAt F k = some lk ∧ 1 ≤ F.gly.length ∧ F.gly.length ≤ 65536 ∧ lk.rules.length ≤ 64 ∧ autoL lk.rules F.gly.length = some a ∧ er = 0 := by
 unfold buildL at h
 split at h
 ·injection h with h _; cases h
 ·rename_i lk hlk
  split at h
  ·injection h with h _; cases h
  ·split at h
   ·injection h with h _; cases h
   ·split at h
    ·rename_i h1 h2 _ h3
     injection h with h4 h5
     injection h4 with h4
     subst h4
     exact ⟨lk, hlk, by omega, by omega, by omega, h3, h5.symm⟩
    ·injection h with h _; cases h
/-- Does says so. -/
def DoesF (F : Fnt) (k : Int) (a : Au) : Prop := ∃ lk b er, lkAt F k = some lk ∧ buildL F k = (some b, er) ∧ DoesL lk.rules F.gly.length a
theorem repL_mem {cls acls : List Int} : ∀ g ∈ repL cls acls, 0 ≤ g ∧ g < (cls.length : Int) := fun g hg => by
 obtain ⟨i, hi, rfl⟩ := List.mem_map.1 hg
 have := apart_lt _ _ _ hi
 omega

set_option maxRecDepth 100000 in
set_option maxHeartbeats 4000000 in
theorem does_c (f : FV) (F : Fnt) (k : Int) (v : AV) (a : Au) (w : World) (hf : IsF w (lo w.heap.size) f F) (hs : ∀ lk, lkAt F k = some lk → lk.rules.length ≤ 64 → SmB lk.rules) (ha : IsA w (lo w.heap.size) v a) (hfo : a.fore.length ≤ 20000) (hba : a.back.length ≤ 20000) :
  Calls Tryd.prog 16 #[.agg f.cells, .int .i64 k, .agg v.cells] w fun e w' => Below w.heap.size w w' ∧ ∃ b : Bool, e = .returned (.bool b) ∧ (b = true ↔ DoesF F k a) := by
 have b1 : Below w.heap.size w ((w.alloc (.cells f.cells 33)).alloc (.cells v.cells 38)) := below_lit _ _ (below_lit _ _ (Below.refl _ _) _) _
 have k1 := (Bk.new w 33 f.cells).alloc (.cells v.cells 38)
 have k2 := Bk.new (w.alloc (.cells f.cells 33)) 38 v.cells
 rw [World.size_alloc] at k2
 have HB := Lib.hid (build_c f F k _ (hf.call b1) hs)
 have HF := Lib.hid hf; have HA := Lib.hid ha; have HS := Lib.hid hs
 have fc := fun i v hv => box_cells (v := v) k1 i hv
 have q0 := fc 0 _ rfl
 have q1 := fc 1 _ rfl
 have q2 := fc 2 _ rfl
 have q3 := fc 3 _ rfl
 have q4 := fc 4 _ rfl
 have q5 := fc 5 _ rfl
 have q6 := fc 6 _ rfl
 have q7 := fc 7 _ rfl
 have q8 := fc 8 _ rfl
 clear hf ha hs fc
 unfold AV.cells at *
 go_enter Tryd.func16, Tryd.ntmps16
 go_wp2_with fail
 refine HB.out.mono ?_
 rintro e w3 ⟨hb3, hm⟩
 have k13 := k1.below hb3 k1.lt
 have k23 := k2.below hb3 k2.lt
 have bw3 := below_call b1 hb3
 clear q0 q1 q2 q3 q4 q5 q6 q7 q8 k1 k2 b1 hb3 HB
 obtain ⟨⟨ob, er⟩, hbl⟩ : ∃ x, buildL F k = x := ⟨_, rfl⟩
 rw [hbl] at hm
 cases ob with
 | none =>
  dsimp only at hm
  subst hm
  have her := buildL_none hbl
  have HN := Lib.hid (show ¬ DoesF F k a from fun h => by
   obtain ⟨_, _, _, _, h2, _⟩ := h
   rw [hbl] at h2; injection h2 with h2; cases h2)
  have hb4 := below_lit _ _ bw3 (.cells #[.slice none 0 0, .slice none 0 0, .slice none 0 0, .slice none 0 0, .slice none 0 0] 38)
  clear hbl
  rcases her with rfl | rfl
  ·go_wp2
   go_ret
   exact ⟨hb4, false, rfl, by simpa using HN.out⟩
  ·go_wp2
   go_ret
   exact ⟨hb4, false, rfl, by simpa using HN.out⟩
 | some b =>
  obtain ⟨v', rfl, hA'⟩ := hm
  obtain ⟨lk, hlk, hn1, hn2, hr64, hau, rfl⟩ := buildL_some hbl
  unfold AV.cells at *
  have hk0 : ¬ k < 0 := fun h => by unfold lkAt at hlk; rw [if_pos h] at hlk; cases hlk
  obtain ⟨j, rfl⟩ : ∃ j : Nat, k = j := ⟨k.toNat, by omega⟩
  have hlj : F.lks[j]? = some lk := by unfold lkAt at hlk; rw [if_neg hk0, Int.toNat_natCast] at hlk; exact hlk
  have hln := HF.out.2.1.len
  have hjl := (List.getElem?_eq_some_iff.1 hlj).1
  obtain ⟨bl, ol, hla, hbl2, hcc⟩ := HF.out.2.1.pos (by omega)
  obtain ⟨cs, ⟨qa, qn, qc, rfl, hR, hq⟩, hcc2⟩ := hcc j lk hlj
  have bw4 := below_lit _ _ bw3 (.cells #[.slice v'.ca v'.cn v'.cc, .slice v'.fa v'.fn v'.fc, .slice v'.ba v'.bn v'.bc, .slice v'.ea v'.en v'.ec, .slice v'.ga v'.gn v'.gc] 38)
  have hb34 : Below w3.heap.size w3 (w3.alloc (.cells #[.slice v'.ca v'.cn v'.cc, .slice v'.fa v'.fn v'.fc, .slice v'.ba v'.bn v'.bc, .slice v'.ea v'.en v'.ec, .slice v'.ga v'.gn v'.gc] 38)) := (Below.refl _ _).alloc (Nat.le_refl _) _
  have hA4 := hA'.call hb34
  have kB := Bk.new w3 38 #[.slice v'.ca v'.cn v'.cc, .slice v'.fa v'.fn v'.fc, .slice v'.ba v'.bn v'.bc, .slice v'.ea v'.en v'.ec, .slice v'.ga v'.gn v'.gc]
  have k14 := k13.below hb34 k13.lt
  have k24 := k23.below hb34 k23.lt
  obtain ⟨gB, hgB⟩ : ∃ gB, w3.heap.size = gB := ⟨_, rfl⟩
  obtain ⟨W4, hW4⟩ : ∃ W4, w3.alloc (.cells #[.slice v'.ca v'.cn v'.cc, .slice v'.fa v'.fn v'.fc, .slice v'.ba v'.bn v'.bc, .slice v'.ea v'.en v'.ec, .slice v'.ga v'.gn v'.gc] 38) = W4 := ⟨_, rfl⟩
  rw [hW4] at bw4 hA4 kB k14 k24
  rw [hgB] at kB
  have hR4 := hR.mono (lo_mono bw4.size) (kept_below bw4)
  have HDF := Lib.hid (show DoesF F (j : Int) a ↔ DoesL lk.rules F.gly.length a from ⟨fun h => by
   obtain ⟨lk2, _, _, h1, _, h3⟩ := h
   rw [hlk] at h1; injection h1 with h1; subst h1; exact h3, fun h => ⟨lk, b, 0, hlk, hbl, h⟩⟩)
  have HSM := Lib.hid (HS.out lk hlk hr64)
  have HAU := Lib.hid hau
  have y2 : W4.drew.cell? ⟨bl, ol + j * 3 + 2, none⟩ = some (.slice qa qn qc) := (bw4.cell (p := ⟨bl, ol + j * 3 + 2, none⟩) hbl2).trans (hcc2 2 _ rfl)
  have y3 : W4.drew.cell? ⟨w.heap.size, 3, none⟩ = some (.slice (some ⟨bl, ol, none⟩) f.ln f.lc) := by rw [← hla]; exact box_cells k14 3 rfl
  have y4 : W4.drew.cell? ⟨gB, 0, none⟩ = some (.slice v'.ca v'.cn v'.cc) := box_cells kB 0 rfl
  have y2z := cell_alloc (w := W4) y2 (.cells #[.slice none 0 0, .slice none 0 0] 92)
  have y3z := cell_alloc (w := W4) y3 (.cells #[.slice none 0 0, .slice none 0 0] 92)
  have y4z := cell_alloc (w := W4) y4 (.cells #[.slice none 0 0, .slice none 0 0] 92)
  have jz : (0 : Int) ≤ (j : Int) := by omega
  have jn : (j : Int) < (f.ln : Int) := by omega
  clear hcc hcc2 hR hA' hlj hln hjl hla hau hbl hlk hk0 hb34 bw3 k13 k23
  go_wp2
  clear hW4 hgB
  go_region
  have b5 : Below W4.heap.size W4 (W4.alloc (.cells #[.slice qa qn qc, .slice v'.ca v'.cn v'.cc] 92)).drew := below_drewN ((Below.refl W4.heap.size W4).alloc (Nat.le_refl _) _) 1
  have kS : Bk (W4.alloc (.cells #[.slice qa qn qc, .slice v'.ca v'.cn v'.cc] 92)).drew W4.heap.size 92 #[.slice qa qn qc, .slice v'.ca v'.cn v'.cc] := Bk.new W4 _ _
  have k25 := k24.below b5 k24.lt
  have hA5 := hA4.call b5
  have hR5 := hR4.call b5
  have bw5 := below_call bw4 b5
  obtain ⟨gS, hgS⟩ : ∃ gS, W4.heap.size = gS := ⟨_, rfl⟩
  rw [hgS] at kS ⊢
  clear y2 y3 y4 y2z y3z y4z hA4 hR4 bw4 b5 k24 k14 kB hgS
  generalize (W4.alloc (.cells #[.slice qa qn qc, .slice v'.ca v'.cn v'.cc] 92)).drew = W5 at *
  obtain ⟨x, y, hx, hy, rfl⟩ := autoL_some HAU.out
  have s0 := box_cells kS 0 rfl
  have s1 := box_cells kS 1 rfl
  have a0 := box_cells k25 0 rfl
  have HC5 := Lib.hid hA5.1.c
  have HO5 := Lib.hid ((HA.out.call bw5).1.c)
  have hcn : v'.cn ≤ 65536 := by have h1 : (clsL lk.rules F.gly.length).length = v'.cn := hA5.1.c.len; rw [clsL_len] at h1; omega
  have hon : v.cn ≤ 9223372036854775807 := Nat.le_trans HA.out.1.hc.1 HA.out.1.hc.2
  have HAP := Lib.hid (apart_c v'.ca v.ca v'.cn v'.cc v.cn v.cc (clsL lk.rules F.gly.length) a.cls W5 HC5.out HO5.out hcn hon)
  have HQ := Lib.hid hq; have HHC := Lib.hid hA5.1.hc
  have HX := Lib.hid (half_ok hx); have HY := Lib.hid (half_ok hy)
  clear hx hy hq
  go_wp2_with fail
  refine HAP.out.mono ?_
  rintro e w6 ⟨A, c, rfl, hap, b6⟩
  have kS6 := kS.below b6 kS.lt
  have k26 := k25.below b6 k25.lt
  have hA6 := hA5.call b6
  have hR6 := hR5.call b6
  have bw6 := below_call bw5 b6
  have hG6 := hap.rd
  have HGC := Lib.hid hap.cap
  clear kS k25 hA5 hR5 bw5 b6 s0 s1 a0 HC5 HO5 HAP hap
  have b8 : Below w6.heap.size w6 ((w6.alloc (.cells #[.slice v.ca v.cn v.cc, .slice v.fa v.fn v.fc, .slice v.ea v.en v.ec] 98)).alloc (.cells #[.slice v.ca v.cn v.cc, .slice v.ba v.bn v.bc, .slice v.ga v.gn v.gc] 98)) := below_lit _ _ (below_lit _ _ (Below.refl _ _) _) _
  have kr1 := (Bk.new w6 98 #[.slice v.ca v.cn v.cc, .slice v.fa v.fn v.fc, .slice v.ea v.en v.ec]).alloc (.cells #[.slice v.ca v.cn v.cc, .slice v.ba v.bn v.bc, .slice v.ga v.gn v.gc] 98)
  have kr2 := Bk.new (w6.alloc (.cells #[.slice v.ca v.cn v.cc, .slice v.fa v.fn v.fc, .slice v.ea v.en v.ec] 98)) 98 #[.slice v.ca v.cn v.cc, .slice v.ba v.bn v.bc, .slice v.ga v.gn v.gc]
  rw [World.size_alloc] at kr2
  have kS8 := kS6.below b8 kS6.lt
  have hA8 := hA6.call b8
  have hR8 := hR6.call b8
  have bw8 := below_call bw6 b8
  have hG8 := hG6.call b8
  have a0 := box_cells k26 0 rfl
  have a1 := box_cells k26 1 rfl
  have a2 := box_cells k26 2 rfl
  have a3 := box_cells k26 3 rfl
  have a4 := box_cells k26 4 rfl
  have a10 := cell_alloc a0 (.cells #[.slice v.ca v.cn v.cc, .slice v.fa v.fn v.fc, .slice v.ea v.en v.ec] 98)
  have a12 := cell_alloc a2 (.cells #[.slice v.ca v.cn v.cc, .slice v.fa v.fn v.fc, .slice v.ea v.en v.ec] 98)
  have a14 := cell_alloc a4 (.cells #[.slice v.ca v.cn v.cc, .slice v.fa v.fn v.fc, .slice v.ea v.en v.ec] 98)
  have HA8 := Lib.hid (HA.out.call bw8)
  have HG1 := Lib.hid (agree_c 36 foreR fore_c qa qn qc v'.ca v'.cn v'.cc lk.rules (clsL lk.rules F.gly.length) _ hR8 hA8.1.c HQ.out HHC.out hr64 HSM.out.one (fun row hr => by have := fore_len row hr; have := HSM.out.s; omega) (fun c hc => by have := clsL_mem hc; omega) (clsL_gly lk.rules F.gly.length) (by have := KL_le lk.rules F.gly.length; unfold KL at this; omega) v.rf a.cls a.fore a.fe HA8.out.1 A (repL (clsL lk.rules F.gly.length) a.cls).length c (repL (clsL lk.rules F.gly.length) a.cls) hG8 (Nat.le_trans HGC.out.1 HGC.out.2) repL_mem x.2 x.1 HX.out hfo)
  unfold RV.cells AV.rf at HG1
  have s0 := box_cells kS8 0 rfl
  have s1 := box_cells kS8 1 rfl
  have r0 := box_cells kr1 0 rfl
  have r1 := box_cells kr1 1 rfl
  have r2 := box_cells kr1 2 rfl
  clear kS6 k26 hA6 hR6 bw6 hG6 b8
  go_wp2_with fail
  refine HG1.out.mono ?_
  rintro e w9 ⟨b9, bb1, rfl, hiff1⟩
  have kS9 := kS8.below b9 kS8.lt
  have kr9 := kr2.below b9 kr2.lt
  have hA9 := hA8.call b9
  have hR9 := hR8.call b9
  have bw9 := below_call bw8 b9
  have hG9 := hG8.call b9
  have HA9 := Lib.hid (HA8.out.call b9)
  have HI1 := Lib.hid (show bb1 = true ↔ HalfOK (rowsF (kindF false) lk.rules) (clsL lk.rules F.gly.length) (0, hvF (kindF false) lk.rules lk.rules.length) a.cls a.fore a.fe F.gly.length from by
   have h1 := halfOK_rep (rows := rowsF (kindF false) lk.rules) (cls := clsL lk.rules F.gly.length) (p0 := (0, hvF (kindF false) lk.rules lk.rules.length)) (acls := a.cls) (tab := a.fore) (ends := a.fe)
   rw [clsL_len] at h1
   exact hiff1.trans h1)
  clear kS8 kr1 kr2 hA8 hR8 bw8 hG8 b9 a0 a1 a2 a3 a4 a10 a12 a14 s0 s1 r0 r1 r2 HG1 HA8 hiff1
  cases bb1 with
  | false =>
   go_wp2
   go_ret
   exact ⟨bw9, false, rfl, by rw [HDF.out]; exact ⟨fun h => (Bool.false_ne_true h).elim, fun h => absurd (HI1.out.2 h.1) (by simp)⟩⟩
  | true =>
   have s0 := box_cells kS9 0 rfl
   have s1 := box_cells kS9 1 rfl
   have r0 := box_cells kr9 0 rfl
   have r1 := box_cells kr9 1 rfl
   have r2 := box_cells kr9 2 rfl
   have HG2 := Lib.hid (agree_c 37 backR back_c qa qn qc v'.ca v'.cn v'.cc lk.rules (clsL lk.rules F.gly.length) w9 hR9 hA9.1.c HQ.out HHC.out hr64 HSM.out.one (fun row hr => by have := back_len row hr; have := HSM.out.s; omega) (fun c hc => by have := clsL_mem hc; omega) (clsL_gly lk.rules F.gly.length) (by have := KL_le lk.rules F.gly.length; unfold KL at this; omega) v.rb a.cls a.back a.be HA9.out.2 A (repL (clsL lk.rules F.gly.length) a.cls).length c (repL (clsL lk.rules F.gly.length) a.cls) hG9 (Nat.le_trans HGC.out.1 HGC.out.2) repL_mem y.2 y.1 HY.out hba)
   unfold RV.cells AV.rb at HG2
   clear kS9 kr9 hA9 hR9 hG9 HA9
   go_wp2_with fail
   refine HG2.out.mono ?_
   rintro e w10 ⟨b10, bb2, rfl, hiff2⟩
   have bw10 := below_call bw9 b10
   have HI2 := Lib.hid (show bb2 = true ↔ HalfOK (rowsF (kindF true) lk.rules) (clsL lk.rules F.gly.length) (0, hvF (kindF true) lk.rules lk.rules.length) a.cls a.back a.be F.gly.length from by
    have h1 := halfOK_rep (rows := rowsF (kindF true) lk.rules) (cls := clsL lk.rules F.gly.length) (p0 := (0, hvF (kindF true) lk.rules lk.rules.length)) (acls := a.cls) (tab := a.back) (ends := a.be)
    rw [clsL_len] at h1
    exact hiff2.trans h1)
   clear hiff2 HG2 s0 s1 r0 r1 r2 b10
   go_wp2
   go_ret
   exact ⟨bw10, bb2, rfl, by rw [HDF.out]; exact ⟨fun h => ⟨by simpa using HI1.out, HI2.out.1 h⟩, fun h => HI2.out.2 h.2⟩⟩

end Go.Proofs.YtgcmedkaadagmaaDoor
