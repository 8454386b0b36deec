/- Walks: the document's First. -/
import Derived.Test.YtgcmedkaadagmaaDoorX0
namespace Go.Proofs.YtgcmedkaadagmaaDoor
open Go.RowKit Go.Shelf Go.Maps

set_option maxRecDepth 100000 in
set_option maxHeartbeats 1000000 in
theorem dFirst_c (cs : List Value) (lk : Lk) (back : Bool) (w : World) (h : ELk w (lo w.heap.size) cs lk) (hs : SmB lk.rules) :
  Calls Tryd.prog 75 #[.agg cs.toArray, .bool back] w (StatR w (firstD back lk.rules)) := by
 obtain ⟨qa, qn, qc, rfl, hR0, hq⟩ := h
 obtain ⟨rs, hrs⟩ : ∃ rs, lk.rules = rs := ⟨_, rfl⟩
 rw [hrs] at hR0 hs ⊢
 have LR := Lib.hid hR0.len
 have hfd : firstD back rs = (0, firstN back rs qn) := by unfold firstD; rw [hR0.len]; rfl
 rw [hfd]
 have qn64 : qn ≤ 64 := by have := hs.n; have := hR0.len; omega
 have HR := Lib.hid hR0
 have HSM := Lib.hid hs
 have hq1 := hq.1
 have hq2 := hq.2
 obtain ⟨W3, hW3⟩ : ∃ W3, ((w.alloc (.cells #[.int .i64 lk.kind, .bool lk.ign, .slice qa qn qc] 55)).alloc (.cells #[.int .i64 0, .slice none 0 0] 183)).alloc (.cells #[.int .i64 0, .slice none 0 0] 183) = W3 := ⟨_, rfl⟩
 have b3 : Below w.heap.size w W3 := by rw [← hW3]; exact below_lit _ _ (below_lit _ _ (below_lit _ _ (Below.refl _ _) _) _) _
 have kL3 : Bk W3 w.heap.size 55 #[.int .i64 lk.kind, .bool lk.ign, .slice qa qn qc] := by rw [← hW3]; exact ((Bk.new w 55 _).alloc _).alloc _
 have kR3 : Bk W3 (w.heap.size + 1) 183 #[.int .i64 0, .slice none 0 0] := by
  rw [← hW3]
  have := (Bk.new (w.alloc (.cells #[.int .i64 lk.kind, .bool lk.ign, .slice qa qn qc] 55)) 183 #[.int .i64 0, .slice none 0 0]).alloc (.cells #[.int .i64 0, .slice none 0 0] 183)
  rwa [World.size_alloc] at this
 have kS3 : Bk W3 (w.heap.size + 1 + 1) 183 #[.int .i64 0, .slice none 0 0] := by
  rw [← hW3]
  have := Bk.new ((w.alloc (.cells #[.int .i64 lk.kind, .bool lk.ign, .slice qa qn qc] 55)).alloc (.cells #[.int .i64 0, .slice none 0 0] 183)) 183 #[.int .i64 0, .slice none 0 0]
  simp only [World.size_alloc] at this
  exact this
 have hst0 : StM w W3 (w.heap.size + 1 + 1) 0 none 0 0 (firstN back rs 0) := ⟨kS3, Ow.nil _ _ _ _, b3, by omega⟩
 subst hW3
 have H0 := Lib.hid (And.intro hst0 (And.intro kL3 kR3))
 clear hR0 hs hq hrs hfd b3 kL3 kR3 kS3 hst0
 go_enter Tryd.func75, Tryd.ntmps75
 go_upto_region 3 with fail
 obtain ⟨hst0, kL0, kR0⟩ := H0.out
 clear H0
 generalize ((w.alloc (.cells #[.int .i64 lk.kind, .bool lk.ign, .slice qa qn qc] 55)).alloc (.cells #[.int .i64 0, .slice none 0 0] 183)).alloc (.cells #[.int .i64 0, .slice none 0 0] 183) = W4 at *
 obtain ⟨g, hg⟩ : ∃ g, w.heap.size = g := ⟨_, rfl⟩
 have HG := Lib.hid hg
 rw [hg] at hst0 kL0 kR0 ⊢
 clear hg
 go_loopw [6] (fun iv wr => ∃ (i : Nat) (A : Option Addr) (n c : Nat), i ≤ qn ∧ iv = .int .i64 i ∧ StM w wr (g + 1 + 1) 0 A n c (firstN back rs i) ∧ Bk wr g 55 #[.int .i64 lk.kind, .bool lk.ign, .slice qa qn qc] ∧ Bk wr (g + 1) 183 #[.int .i64 0, .slice none 0 0]) (fun iv _ => qn - (intOf iv).toNat)
 case atStart => exact ⟨0, none, 0, 0, by omega, rfl, hst0, kL0, kR0⟩
 case round =>
  clear hst0 kL0 kR0
  obtain ⟨i, A, n, c, hi, rfl, hst, kL, kR⟩ := hrel
  have x2 := box_cells kL 2 rfl
  have bw := hst.bl
  by_cases hlt : i < qn
  ·obtain ⟨r, hr⟩ := at_some rs i (by rw [LR.out]; omega)
   obtain ⟨bf, of', hfa, hbf, hcc⟩ := HR.out.pos (show 0 < qn by omega)
   obtain ⟨cs, hE0, hcc2⟩ := hcc i r hr
   have hE := hE0.mono (lo_mono bw.size) (kept_below bw)
   have hsm := HSM.out.row back (List.mem_of_getElem? hr)
   have HE := Lib.hid hE
   obtain ⟨A1, n1, c1, A2, n2, c2, A3, n3, c3, A4, n4, c4, A5, n5, c5, rfl, _⟩ := hE0
   have z0 := (bw.cell (p := ⟨bf, of' + i * 6 + 0, none⟩) hbf).trans (hcc2 0 _ rfl)
   have z1 := (bw.cell (p := ⟨bf, of' + i * 6 + 1, none⟩) hbf).trans (hcc2 1 _ rfl)
   have z2 := (bw.cell (p := ⟨bf, of' + i * 6 + 2, none⟩) hbf).trans (hcc2 2 _ rfl)
   have z3 := (bw.cell (p := ⟨bf, of' + i * 6 + 3, none⟩) hbf).trans (hcc2 3 _ rfl)
   have z4 := (bw.cell (p := ⟨bf, of' + i * 6 + 4, none⟩) hbf).trans (hcc2 4 _ rfl)
   have z5 := (bw.cell (p := ⟨bf, of' + i * 6 + 5, none⟩) hbf).trans (hcc2 5 _ rfl)
   rw [Nat.add_zero] at z0
   have HRO := Lib.hid (drow_c _ r back wr hE hsm.2.2.2)
   have iz : (0 : Int) ≤ (i : Int) := by omega
   have inn : (i : Int) < (qn : Int) := by omega
   subst hfa
   have HFN := Lib.hid (firstN_succ (back := back) hr)
   have HST := Lib.hid hst
   have hnl : n ≤ 64 := by have h1 := hst.len; have h2 := firstN_len back rs i; omega
   clear hcc hcc2 hr hE hsm HE hbf hst
   go_wp2_with fail
   refine HRO.out.mono ?_
   rintro e w2 ⟨R, rn, rc, rfl, hR2, hR2h, hb2⟩
   have kL2 := kL.below hb2 kL.lt
   have kR2 := kR.below hb2 kR.lt
   have hst2 := HST.out.call hb2
   clear HRO z0 z1 z2 z3 z4 z5 x2 hb2 bw kL kR HST hR2 hR2h
   cases hh : hasD back r with
   | false =>
    have HFN2 := Lib.hid (show firstN back rs (i + 1) = firstN back rs i by rw [HFN.out, hh]; simp)
    clear HFN hh
    go_wp2
    go_roundw
    case rel => exact ⟨i + 1, A, n, c, by omega, by go_num, by rw [HFN2.out]; exact hst2, kL2, kR2⟩
    case measure => simp [intOf]; omega
   | true =>
    have HFN2 := Lib.hid (show firstN back rs (i + 1) = firstN back rs i ++ [i] by rw [HFN.out, hh]; rfl)
    clear HFN hh
    have y1 := box_cells hst2.k 1 rfl
    have HST := Lib.hid hst2
    have HOW := Lib.hid (hst2.o.alloc (.cells #[.int .i64 (i : Int)] 3))
    have hs2 : g + 1 + 1 + 1 ≤ (w2.alloc (.cells #[.int .i64 (i : Int)] 3)).heap.size := by rw [World.size_alloc]; have := hst2.k.lt; omega
    clear hst2
    go_wp2_with (at_builtin; refine appP elt_int rfl _ _ rfl (w2.alloc (.cells #[.int .i64 (i : Int)] 3)) (g + 1 + 1 + 1) _ _ _ (ic (gls (firstN back rs i))) _ 1 1 [.int .i64 (i : Int)] (by rfl) (by rfl) HOW.out rfl (fun _ => news_new _ _ _ (by omega)) (by simp [Value.oneCell']) (by omega) hs2 ?_; intro A' c' W5 ho5 hg5 hb5 hat5; obtain ⟨k5, hst5, hfar5⟩ := HST.out.push ho5 hb5; have f5 := k5.frozen 1; have y5 := box_cells k5 1 rfl)
    have kL5 : Bk (W5.setCell ⟨g + 1 + 1, 1, none⟩ (.slice A' (n + 1) c')) g 55 _ := (hfar5 g (by omega)).trans kL2
    have kR5 : Bk (W5.setCell ⟨g + 1 + 1, 1, none⟩ (.slice A' (n + 1) c')) (g + 1) 183 _ := (hfar5 (g + 1) (by omega)).trans kR2
    clear ho5 hg5 hb5 hat5 k5 hfar5 f5 y5 kL2 kR2 hs2 HOW HST y1
    go_roundw
    case rel => exact ⟨i + 1, A', n + 1, c', by omega, by go_num, by rw [HFN2.out]; exact hst5, kL5, kR5⟩
    case measure => simp [intOf]; omega
  ·have hie : i = qn := by omega
   subst hie
   have inn : ¬ ((i : Int) < (i : Int)) := by omega
   have y0 := box_cells hst.k 0 rfl
   have y1 := box_cells hst.k 1 rfl
   have r0 := box_cells kR 0 rfl
   have r1 := box_cells kR 1 rfl
   have fR := kR.frozen
   have f0 := fR 0
   have f1 := fR 1
   obtain ⟨hrd, hcap⟩ := hst.rd
   have hk := store2_bk kR (.int .i64 0) (.slice A n c)
   obtain ⟨hfar, hsz⟩ := store2_far wr (g + 1) (.int .i64 0) (.slice A n c)
   have hbl := store2_below (g := g + 1) bw (by have := HG.out; omega) (.int .i64 0) (.slice A n c)
   have hrd2 : Rd (store2 wr (g + 1) (.int .i64 0) (.slice A n c)) (fun b => w.heap.size ≤ b ∧ b < (store2 wr (g + 1) (.int .i64 0) (.slice A n c)).heap.size) A n (gls (firstN back rs i)) := by
    have h1 := rd_own hst.o
    exact h1.mono (fun b hb => ⟨by have := HG.out; have := hb.1; omega, by rw [hsz]; exact hb.2⟩) (fun b hb => hfar b (by have := hb.1; omega))
   have HF := Lib.hid (And.intro hk (And.intro hbl (And.intro hrd2 hcap)))
   clear hst hk hbl hrd2 hcap hrd hfar hsz fR
   go_wp2
   obtain ⟨hk, hbl, hrd2, hcap⟩ := HF.out
   exact bodyPost_ret (results_cell_row rfl _ _ (g + 1) 183 _ (0, 0) _ rfl hk Tryd.underlying183 rfl (by kernel_rfl)) rfl ⟨A, n, c, rfl, hrd2, hcap, hbl⟩

end Go.Proofs.YtgcmedkaadagmaaDoor
