/- Walks: the document's Behind, Ends. -/
import Derived.Test.YtgcmedkaadagmaaDoorTk
import Derived.Test.YtgcmedkaadagmaaDoorX1
namespace Go.Proofs.YtgcmedkaadagmaaDoor
open Go.RowKit Go.Shelf Go.Maps

set_option maxRecDepth 100000 in
set_option maxHeartbeats 2000000 in
theorem dBehind_c (cs : List Value) (lk : Lk) (back : Bool) (ss : List Value) (s : Nat × List Nat) (gg : Int) (w : World) (h : ELk w (lo w.heap.size) cs lk) (hs : SmB lk.rules) (hS : ESt w (lo w.heap.size) ss s) (hG : GoodS back lk.rules s) :
  Calls Tryd.prog 76 #[.agg cs.toArray, .bool back, .agg ss.toArray, .int .i64 gg] w (StatR w (behindD (rowsD back lk.rules) s gg)) := by
 obtain ⟨qa, qn, qc, rfl, hR0, hq⟩ := h
 obtain ⟨sA, sn, sc, rfl, hS0, hsd⟩ := hS
 obtain ⟨rs, hrs⟩ : ∃ rs, lk.rules = rs := ⟨_, rfl⟩
 rw [hrs] at hR0 hs hG ⊢
 obtain ⟨s1, s2⟩ := s
 have hm1000 : s1 ≤ 1000 := hG.met
 have LR := Lib.hid hR0.len
 have LS := Lib.hid (show s2.length = sn by have := hS0.len; rw [gls_len] at this; exact this)
 have qn64 : qn ≤ 64 := by have := hs.n; have := hR0.len; omega
 have sn64 : sn ≤ 64 := by have := hG.len; have := hR0.len; have := LS.out; dsimp only at *; omega
 have HR := Lib.hid hR0
 have HS0 := Lib.hid hS0
 have HSM := Lib.hid hs
 have HGD := Lib.hid hG
 have hq1 := hq.1
 have hq2 := hq.2
 have hd1 := hsd.1
 have hd2 := hsd.2
 rw [behN_all back rs (s1, s2) gg (show s2.length ≤ sn by rw [LS.out]; exact Nat.le_refl _)]
 obtain ⟨W3, hW3⟩ : ∃ W3, (((w.alloc (.cells #[.int .i64 lk.kind, .bool lk.ign, .slice qa qn qc] 55)).alloc (.cells #[.int .i64 (s1 : Int), .slice sA sn sc] 183)).alloc (.cells #[.int .i64 0, .slice none 0 0] 183)).alloc (.cells #[.int .i64 ((s1 : Int) + 1), .slice none 0 0] 183) = W3 := ⟨_, rfl⟩
 have b3 : Below w.heap.size w W3 := by rw [← hW3]; exact below_lit _ _ (below_lit _ _ (below_lit _ _ (below_lit _ _ (Below.refl _ _) _) _) _) _
 have kL3 : Bk W3 w.heap.size 55 #[.int .i64 lk.kind, .bool lk.ign, .slice qa qn qc] := by rw [← hW3]; exact (((Bk.new w 55 _).alloc _).alloc _).alloc _
 have kP3 : Bk W3 (w.heap.size + 1) 183 #[.int .i64 (s1 : Int), .slice sA sn sc] := by
  rw [← hW3]
  have := ((Bk.new (w.alloc (.cells #[.int .i64 lk.kind, .bool lk.ign, .slice qa qn qc] 55)) 183 #[.int .i64 (s1 : Int), .slice sA sn sc]).alloc (.cells #[.int .i64 0, .slice none 0 0] 183)).alloc (.cells #[.int .i64 ((s1 : Int) + 1), .slice none 0 0] 183)
  rwa [World.size_alloc] at this
 have kR3 : Bk W3 (w.heap.size + 1 + 1) 183 #[.int .i64 0, .slice none 0 0] := by
  rw [← hW3]
  have := (Bk.new ((w.alloc (.cells #[.int .i64 lk.kind, .bool lk.ign, .slice qa qn qc] 55)).alloc (.cells #[.int .i64 (s1 : Int), .slice sA sn sc] 183)) 183 #[.int .i64 0, .slice none 0 0]).alloc (.cells #[.int .i64 ((s1 : Int) + 1), .slice none 0 0] 183)
  simp only [World.size_alloc] at this
  exact this
 have kS3 : Bk W3 (w.heap.size + 1 + 1 + 1) 183 #[.int .i64 ((s1 + 1 : Nat) : Int), .slice none 0 0] := by
  rw [← hW3]
  have := Bk.new (((w.alloc (.cells #[.int .i64 lk.kind, .bool lk.ign, .slice qa qn qc] 55)).alloc (.cells #[.int .i64 (s1 : Int), .slice sA sn sc] 183)).alloc (.cells #[.int .i64 0, .slice none 0 0] 183)) 183 #[.int .i64 ((s1 : Int) + 1), .slice none 0 0]
  simp only [World.size_alloc] at this
  exact this
 have hst0 : StM w W3 (w.heap.size + 1 + 1 + 1) (s1 + 1) none 0 0 (behN back rs (s1, s2) gg 0) := ⟨kS3, Ow.nil _ _ _ _, b3, by omega⟩
 have xm := box_cells kP3 0 rfl
 subst hW3
 have H0 := Lib.hid (And.intro hst0 (And.intro kL3 (And.intro kP3 kR3)))
 clear hR0 hs hS0 hG hsd hq hrs b3 kL3 kP3 kR3 kS3 hst0
 go_enter Tryd.func76, Tryd.ntmps76
 go_upto_region 3 with fail
 obtain ⟨hst0, kL0, kP0, kR0⟩ := H0.out
 clear H0 xm
 generalize (((w.alloc (.cells #[.int .i64 lk.kind, .bool lk.ign, .slice qa qn qc] 55)).alloc (.cells #[.int .i64 (s1 : Int), .slice sA sn sc] 183)).alloc (.cells #[.int .i64 0, .slice none 0 0] 183)).alloc (.cells #[.int .i64 ((s1 : Int) + 1), .slice none 0 0] 183) = W4 at *
 obtain ⟨g, hg⟩ : ∃ g, w.heap.size = g := ⟨_, rfl⟩
 have HG := Lib.hid hg
 rw [hg] at hst0 kL0 kP0 kR0 ⊢
 clear hg
 go_loopw [10] (fun iv wr => ∃ (i : Nat) (A : Option Addr) (n c : Nat), i ≤ sn ∧ iv = .int .i64 i ∧ StM w wr (g + 1 + 1 + 1) (s1 + 1) A n c (behN back rs (s1, s2) gg i) ∧ Bk wr g 55 #[.int .i64 lk.kind, .bool lk.ign, .slice qa qn qc] ∧ Bk wr (g + 1) 183 #[.int .i64 (s1 : Int), .slice sA sn sc] ∧ Bk wr (g + 1 + 1) 183 #[.int .i64 0, .slice none 0 0]) (fun iv _ => sn - (intOf iv).toNat)
 case atStart => exact ⟨0, none, 0, 0, by omega, rfl, hst0, kL0, kP0, kR0⟩
 case round =>
  clear hst0 kL0 kP0 kR0
  obtain ⟨i, A, n, c, hi, rfl, hst, kL, kP, kR⟩ := hrel
  have xl := box_cells kL 2 rfl
  have xs := box_cells kP 1 rfl
  have bw := hst.bl
  by_cases hlt : i < sn
  ·obtain ⟨k, hk⟩ := at_some s2 i (by rw [LS.out]; omega)
   have hkr : k < rs.length := HGD.out.lt (List.mem_of_getElem? hk)
   obtain ⟨r, hr⟩ := at_some rs k hkr
   obtain ⟨bs, os, hsa, hbs, hcs⟩ := HS0.out.pos (show 0 < sn by omega)
   obtain ⟨cs3, rfl, hcs2⟩ := hcs i _ (gls_at hk)
   have ye := (bw.cell (p := ⟨bs, os + i * 1 + 0, none⟩) hbs).trans (hcs2 0 _ rfl)
   rw [Nat.mul_one, Nat.add_zero] at ye
   obtain ⟨bf, of', hfa, hbf, hcc⟩ := HR.out.pos (show 0 < qn by have := LR.out; omega)
   obtain ⟨cs, hE0, hcc2⟩ := hcc k r hr
   have hE := hE0.mono (lo_mono bw.size) (kept_below bw)
   have hsm := HSM.out.row back (List.mem_of_getElem? hr)
   have HE := Lib.hid hE
   obtain ⟨A1, n1, c1, A2, n2, c2, A3, n3, c3, A4, n4, c4, A5, n5, c5, rfl, _⟩ := hE0
   have z0 := (bw.cell (p := ⟨bf, of' + k * 6 + 0, none⟩) hbf).trans (hcc2 0 _ rfl)
   have z1 := (bw.cell (p := ⟨bf, of' + k * 6 + 1, none⟩) hbf).trans (hcc2 1 _ rfl)
   have z2 := (bw.cell (p := ⟨bf, of' + k * 6 + 2, none⟩) hbf).trans (hcc2 2 _ rfl)
   have z3 := (bw.cell (p := ⟨bf, of' + k * 6 + 3, none⟩) hbf).trans (hcc2 3 _ rfl)
   have z4 := (bw.cell (p := ⟨bf, of' + k * 6 + 4, none⟩) hbf).trans (hcc2 4 _ rfl)
   have z5 := (bw.cell (p := ⟨bf, of' + k * 6 + 5, none⟩) hbf).trans (hcc2 5 _ rfl)
   rw [Nat.add_zero] at z0
   have HSR := Lib.hid hsm
   have HRO := Lib.hid fun (W : World) (bW : Below wr.heap.size wr W) => drow_c _ r back W (HE.out.call bW) HSR.out.2.2.2
   have iz : (0 : Int) ≤ (i : Int) := by omega
   have inn : (i : Int) < (sn : Int) := by omega
   have kz : (0 : Int) ≤ (k : Int) := by omega
   have kq : (k : Int) < (qn : Int) := by have := LR.out; omega
   have k64 : k < 64 := by have := LR.out; omega
   subst hfa
   subst hsa
   have HBS := Lib.hid hbs
   have HBN := Lib.hid (behN_succ (back := back) (rs := rs) (s := (s1, s2)) (g := gg) hk)
   have HBP := Lib.hid (behP_at (back := back) hr s1 gg)
   have HST := Lib.hid hst
   have hnl : n ≤ 64 := by have h1 := hst.len; have h2 := behN_len back rs (s1, s2) gg i; have h3 := LS.out; (try dsimp only at h2); omega
   clear hcs hcs2 hcc hcc2 hk hkr hr hE hsm HE hbf hbs hst
   go_upto_region 5 with fail
   have HS := Lib.hid fun (W : World) (bW : Below wr.heap.size wr W) => (show W.cell? ⟨g, 2, none⟩ = some (.slice (some ⟨bf, of', none⟩) qn qc) ∧ W.cell? ⟨g + 1, 1, none⟩ = some (.slice (some ⟨bs, os, none⟩) sn sc) ∧ W.cell? ⟨bs, os + i, none⟩ = some (.int .i64 (k : Int)) ∧ W.cell? ⟨bf, of' + k * 6, none⟩ = some (.slice A1 n1 c1) ∧ W.cell? ⟨bf, of' + k * 6 + 1, none⟩ = some (.slice A2 n2 c2) ∧ W.cell? ⟨bf, of' + k * 6 + 2, none⟩ = some (.slice A3 n3 c3) ∧ W.cell? ⟨bf, of' + k * 6 + 3, none⟩ = some (.slice A4 n4 c4) ∧ W.cell? ⟨bf, of' + k * 6 + 4, none⟩ = some (.slice A5 n5 c5) ∧ W.cell? ⟨bf, of' + k * 6 + 5, none⟩ = some (.int .i64 r.x) from ⟨cell_call xl bW, cell_call xs bW, cell_call ye bW, cell_call z0 bW, cell_call z1 bW, cell_call z2 bW, cell_call z3 bW, cell_call z4 bW, cell_call z5 bW⟩)
   have bb := Below.refl wr.heap.size wr
   refine wp_region_held_drew (S := fun w' => w'.cell? ⟨g, 2, none⟩ = some (.slice (some ⟨bf, of', none⟩) qn qc) ∧ w'.cell? ⟨g + 1, 1, none⟩ = some (.slice (some ⟨bs, os, none⟩) sn sc) ∧ w'.cell? ⟨bs, os + i, none⟩ = some (.int .i64 (k : Int)) ∧ w'.cell? ⟨bf, of' + k * 6, none⟩ = some (.slice A1 n1 c1) ∧ w'.cell? ⟨bf, of' + k * 6 + 1, none⟩ = some (.slice A2 n2 c2) ∧ w'.cell? ⟨bf, of' + k * 6 + 2, none⟩ = some (.slice A3 n3 c3) ∧ w'.cell? ⟨bf, of' + k * 6 + 3, none⟩ = some (.slice A4 n4 c4) ∧ w'.cell? ⟨bf, of' + k * 6 + 4, none⟩ = some (.slice A5 n5 c5) ∧ w'.cell? ⟨bf, of' + k * 6 + 5, none⟩ = some (.int .i64 r.x)) (by kernel_rfl) ?_ (fun hHeld => ?_)
   ·exact HS.out _ (below_drewN bb 1)
   replace bb := below_drewN bb 1
   change Below _ _ wr.drew at bb
   generalize hw0 : wr.drew = W0 at hHeld bb ⊢
   clear hw0
   refine tkB 0 (v := ?_) (by assumption) ?_ ?_
   rotate_left 1
   ·intro w hSw; (try dsimp only at hSw); go_simp; try with_reducible rfl
   refine tkB 1 (v := ?_) (by assumption) ?_ ?_
   rotate_left 1
   ·intro w hSw; (try dsimp only at hSw); go_simp; try with_reducible rfl
   refine tkB 2 (v := ?_) (by assumption) ?_ ?_
   rotate_left 1
   ·intro w hSw; (try dsimp only at hSw); go_simp; try with_reducible rfl
   refine tkB 3 (v := ?_) (by assumption) ?_ ?_
   rotate_left 1
   ·intro w hSw; (try dsimp only at hSw); go_simp; try with_reducible rfl
   refine tkB 4 (v := ?_) (by assumption) ?_ ?_
   rotate_left 1
   ·intro w hSw; (try dsimp only at hSw); go_simp; try with_reducible rfl
   refine tkB 5 (v := ?_) (by assumption) ?_ ?_
   rotate_left 1
   ·intro w hSw; (try dsimp only at hSw); go_simp; try with_reducible rfl
   refine tkB 6 (v := ?_) (by assumption) ?_ ?_
   rotate_left 1
   ·intro w hSw; (try dsimp only at hSw); go_simp; try with_reducible rfl
   refine tkB 7 (v := ?_) (by assumption) ?_ ?_
   rotate_left 1
   ·intro w hSw; (try dsimp only at hSw); go_simp; try with_reducible rfl
   refine tkB 8 (v := ?_) (by assumption) ?_ ?_
   rotate_left 1
   ·intro w hSw; (try dsimp only at hSw); go_simp; try with_reducible rfl
   refine tkB 9 (v := ?_) (by assumption) ?_ ?_
   rotate_left 1
   ·intro w hSw; (try dsimp only at hSw); go_simp; try with_reducible rfl
   refine wpAnyH_ready (rs := [10]) (by kernel_rfl) (by simp) ?_
   refine AllReadyH.cons (by simp only [List.getElem?_toArray]; rfl) (fun K hK => ?_) AllReadyH.nil
   refine wanted_pos (by kernel_rfl) ?_
   go_simp
   clear hHeld
   go_at_call 53
   (with_reducible refine (HRO.out _ bb).mono ?_)
   rintro e V1 ⟨R, rn, rc, rfl, hR2, hR2h, bn⟩
   go_wp2_with fail
   refine hK.out _ _ ?_ (fun hHeld => ?_)
   ·exact HS.out _ (bb.trans (bn.mono bb.size))
   clear hK K
   try conv => arg 8; simp only [Act.put, List.setIfInBounds_toArray, List.set_cons_zero, List.set_cons_succ]
   replace bb := bb.trans (bn.mono bb.size)
   clear bn
   refine tkB 11 (v := ?_) (by assumption) ?_ ?_
   rotate_left 1
   ·intro w hSw; (try dsimp only at hSw); go_simp; try with_reducible rfl
   refine tkB 12 (v := ?_) (by assumption) ?_ ?_
   rotate_left 1
   ·intro w hSw; (try dsimp only at hSw); go_simp; try with_reducible rfl
   refine tkB 13 (v := ?_) (by assumption) ?_ ?_
   rotate_left 1
   ·intro w hSw; (try dsimp only at hSw); go_simp; try with_reducible rfl
   refine tkB 14 (v := ?_) (by assumption) ?_ ?_
   rotate_left 1
   ·intro w hSw; (try dsimp only at hSw); go_simp; try with_reducible rfl
   refine tkB 15 (v := ?_) (by assumption) ?_ ?_
   rotate_left 1
   ·intro w hSw; (try dsimp only at hSw); go_simp; try with_reducible rfl
   refine wpAnyH_done (by kernel_rfl) ?_ _

   have kL2 := kL.below bb kL.lt
   have kP2 := kP.below bb kP.lt
   have kR2 := kR.below bb kR.lt
   have hst2 := HST.out.call bb
   have hrc1 := hR2h.1
   have hrc2 := hR2h.2
   have lrn : (rowD back r).length = rn := hR2.len
   have hrn : rn ≤ 100 := by have := HSR.out.1; omega
   replace ye := cell_call ye bb

   have xs2 := box_cells kP2 1 rfl
   have xm := box_cells kP2 0 rfl
   clear HRO z0 z1 z2 z3 z4 z5 xl xs kL kP kR HST HS hHeld bw bb
   obtain ⟨row, hrow⟩ : ∃ row, rowD back r = row := ⟨_, rfl⟩
   have HRB := Lib.hid HSR.out.2.1
   rw [hrow] at HBP lrn hR2 HRB
   have LRW := Lib.hid lrn
   clear hrow lrn HSR hR2h
   by_cases hml : s1 < rn
   ·obtain ⟨st, hst⟩ := at_some row s1 (by rw [LRW.out]; exact hml)
    obtain ⟨b1, o1, rfl, hb1, hc1⟩ := hR2.pos (show 0 < rn by omega)
    obtain ⟨cs1, ⟨Rk, rkn, rkc, rfl, hRk, hRkh⟩, hcc1⟩ := hc1 s1 st hst
    have y1 := hcc1 0 _ rfl
    rw [Nat.mul_one, Nat.add_zero] at y1
    have hrkn : rkn ≤ 1000000 := by have h1 := HRB.out st (List.mem_of_getElem? hst); have h2 := hRk.len; omega
    have HHA := Lib.hid (has_c Rk rkn rkc st gg V1 hRk hrkn)
    have mz : (0 : Int) ≤ (s1 : Int) := by omega
    have mn : (s1 : Int) < (rn : Int) := by omega
    have t1 : decide ((s1 : Int) < (rn : Int)) = true := by simp; omega
    have t2 : decide (s1 < rn) = true := by simp; omega
    have HBP2 := Lib.hid (show behP back rs s1 gg k = decide (gg ∈ st) by rw [HBP.out, LRW.out, t2, Bool.true_and, getD_of hst])
    clear hst hc1 hcc1 hRk hRkh HBP HRB LRW hR2
    go_wp2_with fail
    refine HHA.out.mono ?_
    rintro e V2 ⟨rfl, bn⟩
    have kL3 := kL2.below bn kL2.lt
    have kP3 := kP2.below bn kP2.lt
    have kR3 := kR2.below bn kR2.lt
    have hst3 := hst2.call bn
    have ye3 := cell_call ye bn
    have xs3 := box_cells kP3 1 rfl
    clear HHA y1 xs2 xm ye kL2 kP2 kR2 hst2 bn t1 t2 mn
    by_cases hmem : gg ∈ st
    ·have u1 : decide (gg ∈ st) = true := by simpa using hmem
     have HBN2 := Lib.hid (show behN back rs (s1, s2) gg (i + 1) = behN back rs (s1, s2) gg i ++ [k] by rw [HBN.out]; (try dsimp only); rw [HBP2.out, u1]; rfl)
     have yo := box_cells hst3.k 1 rfl
     have HST := Lib.hid hst3
     clear HBN HBP2 hmem
     rw [u1]
     clear u1
     go_upto_region 7 with fail
     have HS := Lib.hid fun (W : World) (bW : Below V2.heap.size V2 W) => (show W.cell? ⟨g + 1, 1, none⟩ = some (.slice (some ⟨bs, os, none⟩) sn sc) ∧ W.cell? ⟨bs, os + i, none⟩ = some (.int .i64 (k : Int)) from ⟨cell_call xs3 bW, cell_call ye3 bW⟩)
     have bb := Below.refl V2.heap.size V2
     refine wp_region_held_drew (S := fun w' => w'.cell? ⟨g + 1, 1, none⟩ = some (.slice (some ⟨bs, os, none⟩) sn sc) ∧ w'.cell? ⟨bs, os + i, none⟩ = some (.int .i64 (k : Int))) (by kernel_rfl) ?_ (fun hHeld => ?_)
     ·exact HS.out _ (below_drewN bb 1)
     replace bb := below_drewN bb 1
     change Below _ _ V2.drew at bb
     generalize hw0 : V2.drew = W0 at hHeld bb ⊢
     clear hw0
     refine tkB 0 (v := ?_) (by assumption) ?_ ?_
     rotate_left 1
     ·intro w hSw; (try dsimp only at hSw); go_simp; try with_reducible rfl
     refine tkB 2 (v := ?_) (by assumption) ?_ ?_
     rotate_left 1
     ·intro w hSw; (try dsimp only at hSw); go_simp; try with_reducible rfl
     refine tkB 3 (v := ?_) (by assumption) ?_ ?_
     rotate_left 1
     ·intro w hSw; (try dsimp only at hSw); go_simp; try with_reducible rfl
     refine tkB 4 (v := ?_) (by assumption) ?_ ?_
     rotate_left 1
     ·intro w hSw; (try dsimp only at hSw); go_simp; try with_reducible rfl
     refine tkB 5 (v := ?_) (by assumption) ?_ ?_
     rotate_left 1
     ·intro w hSw; (try dsimp only at hSw); go_simp; try with_reducible rfl
     refine tkB 6 (v := ?_) (by assumption) ?_ ?_
     rotate_left 1
     ·intro w hSw; (try dsimp only at hSw); go_simp; try with_reducible rfl
     refine wpAnyH_ready (rs := [1, 7]) (by kernel_rfl) (by simp) ?_
     refine AllReadyH.cons (by simp only [List.getElem?_toArray]; rfl) (fun K hK => ?_) (AllReadyH.cons (by simp only [List.getElem?_toArray]; rfl) (fun K hK => ?_) AllReadyH.nil)
     ·have yL := cell_call yo bb
      refine wanted_pos (by kernel_rfl) ?_
      go_simp
      clear hHeld
      refine hK.out _ _ ?_ (fun hHeld => ?_)
      ·exact HS.out _ bb
      clear hK K
      try conv => arg 8; simp only [Act.put, List.setIfInBounds_toArray, List.set_cons_zero, List.set_cons_succ]
      clear yL
      refine wpAnyH_ready (rs := [7]) (by kernel_rfl) (by simp) ?_
      refine AllReadyH.cons (by simp only [List.getElem?_toArray]; rfl) (fun K hK => ?_) AllReadyH.nil
      refine wanted_pos (by kernel_rfl) ?_
      go_simp
      clear hHeld
      refine hK.out _ _ ?_ (fun hHeld => ?_)
      ·exact HS.out _ (below_lit _ _ bb _)
      clear hK K
      try conv => arg 8; simp only [Act.put, List.setIfInBounds_toArray, List.set_cons_zero, List.set_cons_succ]
      refine wpAnyH_ready (rs := [8]) (by kernel_rfl) (by simp) ?_
      refine AllReadyH.cons (by simp only [List.getElem?_toArray]; rfl) (fun K hK => ?_) AllReadyH.nil
      clear hHeld
      have how := (HST.out.call bb).o.alloc (.cells #[.int .i64 (k : Int)] 3)
      have hst4 := HST.out.call bb
      have hnw := news_new W0 [.int .i64 (k : Int)] 3
      have hs2 : g + 1 + 1 + 1 + 1 ≤ (W0.alloc (.cells #[.int .i64 (k : Int)] 3)).heap.size := by rw [World.size_alloc]; have := hst4.k.lt; omega
      refine appStep elt_int (by kernel_rfl) _ _ rfl (W0.alloc (.cells #[.int .i64 (k : Int)] 3)) (g + 1 + 1 + 1 + 1) _ _ _ (ic (gls (behN back rs (s1, s2) gg i))) _ 1 1 [.int .i64 (k : Int)] (by rfl) (by rfl) how rfl hnw (by simp [Value.oneCell']) (by omega) hs2 ?_
      intro A' c' W5 ho5 hg5 hb5 hat5
      obtain ⟨k5, hst5, hfar5⟩ := hst4.push ho5 hb5
      have hlo : ∀ b, b < g + 1 + 1 + 1 → W5.heap[b]? = V2.heap[b]? := fun b hb => by
       have h1 := hst4.k.lt
       have h2 := HST.out.k.lt
       rw [hb5.block b (by omega), Below.heap_alloc W0 _ b (by omega)]
       exact bb.block b (by omega)
      have f5 := k5.frozen 1
      have y5 := box_cells k5 1 rfl
      have kP5 : Bk W5 (g + 1) 183 _ := (hlo (g + 1) (by omega)).trans kP3
      have hbs5 : bs < g + 1 + 1 + 1 := by have := HG.out; have : bs < w.heap.size := HBS.out; omega
      refine hK.out _ _ ?_ (fun hHeld => ?_)
      ·exact ⟨box_cells kP5 1 rfl, (World.cell?_of_block (a := ⟨bs, os + i, none⟩) (hlo bs hbs5)).trans ye3⟩
      clear hK K
      try conv => arg 8; simp only [Act.put, List.setIfInBounds_toArray, List.set_cons_zero, List.set_cons_succ]
      refine tkB 9 (v := ?_) (by assumption) ?_ ?_
      rotate_left 1
      ·intro w hSw; (try dsimp only at hSw); go_simp; try with_reducible rfl
      refine wpAnyH_ready (rs := [10]) (by kernel_rfl) (by simp) ?_
      refine AllReadyH.cons (by simp only [List.getElem?_toArray]; rfl) (fun K hK => ?_) AllReadyH.nil
      refine wanted_pos (by kernel_rfl) ?_
      go_simp
      clear hHeld
      refine hK.out _ _ ?_ (fun hHeld => ?_)
      ·exact ⟨box_cells (show Bk _ (g + 1) 183 _ from ((hfar5 (g + 1) (by omega)).trans (bb.block _ kP3.lt)).trans kP3) 1 rfl, (World.cell?_of_block (a := ⟨bs, os + i, none⟩) ((hfar5 bs hbs5).trans (bb.block _ (Nat.lt_trans hbs5 HST.out.k.lt)))).trans ye3⟩
      clear hK K
      try conv => arg 8; simp only [Act.put, List.setIfInBounds_toArray, List.set_cons_zero, List.set_cons_succ]
      refine wpAnyH_done (by kernel_rfl) ?_ _
      have kL5 : Bk (W5.setCell ⟨g + 1 + 1 + 1, 1, none⟩ (.slice A' (n + 1) c')) g 55 _ := ((hfar5 g (by omega)).trans (bb.block _ kL3.lt)).trans kL3
      have kP6 : Bk (W5.setCell ⟨g + 1 + 1 + 1, 1, none⟩ (.slice A' (n + 1) c')) (g + 1) 183 _ := ((hfar5 (g + 1) (by omega)).trans (bb.block _ kP3.lt)).trans kP3
      have kR6 : Bk (W5.setCell ⟨g + 1 + 1 + 1, 1, none⟩ (.slice A' (n + 1) c')) (g + 1 + 1) 183 _ := ((hfar5 (g + 1 + 1) (by omega)).trans (bb.block _ kR3.lt)).trans kR3
      clear hHeld ho5 hg5 hb5 hat5 k5 hfar5 f5 y5 kP5 hlo kL3 kP3 kR3 hs2 how hnw hst4 HST yo xs3 ye3 bb HS
      go_wp2_with fail
      go_roundw
      case rel => exact ⟨i + 1, A', n + 1, c', by omega, by go_num, by rw [HBN2.out]; exact hst5, kL5, kP6, kR6⟩
      case measure => simp [intOf]; omega

     ·refine wanted_pos (by kernel_rfl) ?_
      go_simp
      clear hHeld
      refine hK.out _ _ ?_ (fun hHeld => ?_)
      ·exact HS.out _ (below_lit _ _ bb _)
      clear hK K
      try conv => arg 8; simp only [Act.put, List.setIfInBounds_toArray, List.set_cons_zero, List.set_cons_succ]
      refine wpAnyH_ready (rs := [1]) (by kernel_rfl) (by simp) ?_
      refine AllReadyH.cons (by simp only [List.getElem?_toArray]; rfl) (fun K hK => ?_) AllReadyH.nil
      have yL := cell_alloc (cell_call yo bb) (.cells #[.int .i64 (k : Int)] 3)
      refine wanted_pos (by kernel_rfl) ?_
      go_simp
      clear hHeld
      refine hK.out _ _ ?_ (fun hHeld => ?_)
      ·exact HS.out _ (below_lit _ _ bb _)
      clear hK K
      try conv => arg 8; simp only [Act.put, List.setIfInBounds_toArray, List.set_cons_zero, List.set_cons_succ]
      clear yL
      refine wpAnyH_ready (rs := [8]) (by kernel_rfl) (by simp) ?_
      refine AllReadyH.cons (by simp only [List.getElem?_toArray]; rfl) (fun K hK => ?_) AllReadyH.nil
      clear hHeld
      have how := (HST.out.call bb).o.alloc (.cells #[.int .i64 (k : Int)] 3)
      have hst4 := HST.out.call bb
      have hnw := news_new W0 [.int .i64 (k : Int)] 3
      have hs2 : g + 1 + 1 + 1 + 1 ≤ (W0.alloc (.cells #[.int .i64 (k : Int)] 3)).heap.size := by rw [World.size_alloc]; have := hst4.k.lt; omega
      refine appStep elt_int (by kernel_rfl) _ _ rfl (W0.alloc (.cells #[.int .i64 (k : Int)] 3)) (g + 1 + 1 + 1 + 1) _ _ _ (ic (gls (behN back rs (s1, s2) gg i))) _ 1 1 [.int .i64 (k : Int)] (by rfl) (by rfl) how rfl hnw (by simp [Value.oneCell']) (by omega) hs2 ?_
      intro A' c' W5 ho5 hg5 hb5 hat5
      obtain ⟨k5, hst5, hfar5⟩ := hst4.push ho5 hb5
      have hlo : ∀ b, b < g + 1 + 1 + 1 → W5.heap[b]? = V2.heap[b]? := fun b hb => by
       have h1 := hst4.k.lt
       have h2 := HST.out.k.lt
       rw [hb5.block b (by omega), Below.heap_alloc W0 _ b (by omega)]
       exact bb.block b (by omega)
      have f5 := k5.frozen 1
      have y5 := box_cells k5 1 rfl
      have kP5 : Bk W5 (g + 1) 183 _ := (hlo (g + 1) (by omega)).trans kP3
      have hbs5 : bs < g + 1 + 1 + 1 := by have := HG.out; have : bs < w.heap.size := HBS.out; omega
      refine hK.out _ _ ?_ (fun hHeld => ?_)
      ·exact ⟨box_cells kP5 1 rfl, (World.cell?_of_block (a := ⟨bs, os + i, none⟩) (hlo bs hbs5)).trans ye3⟩
      clear hK K
      try conv => arg 8; simp only [Act.put, List.setIfInBounds_toArray, List.set_cons_zero, List.set_cons_succ]
      refine tkB 9 (v := ?_) (by assumption) ?_ ?_
      rotate_left 1
      ·intro w hSw; (try dsimp only at hSw); go_simp; try with_reducible rfl
      refine wpAnyH_ready (rs := [10]) (by kernel_rfl) (by simp) ?_
      refine AllReadyH.cons (by simp only [List.getElem?_toArray]; rfl) (fun K hK => ?_) AllReadyH.nil
      refine wanted_pos (by kernel_rfl) ?_
      go_simp
      clear hHeld
      refine hK.out _ _ ?_ (fun hHeld => ?_)
      ·exact ⟨box_cells (show Bk _ (g + 1) 183 _ from ((hfar5 (g + 1) (by omega)).trans (bb.block _ kP3.lt)).trans kP3) 1 rfl, (World.cell?_of_block (a := ⟨bs, os + i, none⟩) ((hfar5 bs hbs5).trans (bb.block _ (Nat.lt_trans hbs5 HST.out.k.lt)))).trans ye3⟩
      clear hK K
      try conv => arg 8; simp only [Act.put, List.setIfInBounds_toArray, List.set_cons_zero, List.set_cons_succ]
      refine wpAnyH_done (by kernel_rfl) ?_ _
      have kL5 : Bk (W5.setCell ⟨g + 1 + 1 + 1, 1, none⟩ (.slice A' (n + 1) c')) g 55 _ := ((hfar5 g (by omega)).trans (bb.block _ kL3.lt)).trans kL3
      have kP6 : Bk (W5.setCell ⟨g + 1 + 1 + 1, 1, none⟩ (.slice A' (n + 1) c')) (g + 1) 183 _ := ((hfar5 (g + 1) (by omega)).trans (bb.block _ kP3.lt)).trans kP3
      have kR6 : Bk (W5.setCell ⟨g + 1 + 1 + 1, 1, none⟩ (.slice A' (n + 1) c')) (g + 1 + 1) 183 _ := ((hfar5 (g + 1 + 1) (by omega)).trans (bb.block _ kR3.lt)).trans kR3
      clear hHeld ho5 hg5 hb5 hat5 k5 hfar5 f5 y5 kP5 hlo kL3 kP3 kR3 hs2 how hnw hst4 HST yo xs3 ye3 bb HS
      go_wp2_with fail
      go_roundw
      case rel => exact ⟨i + 1, A', n + 1, c', by omega, by go_num, by rw [HBN2.out]; exact hst5, kL5, kP6, kR6⟩
      case measure => simp [intOf]; omega

    ·have u1 : decide (gg ∈ st) = false := by simpa using hmem
     have HBN2 := Lib.hid (show behN back rs (s1, s2) gg (i + 1) = behN back rs (s1, s2) gg i by rw [HBN.out]; (try dsimp only); rw [HBP2.out, u1]; simp)
     clear HBN HBP2 hmem
     rw [u1]
     clear u1 xs3 ye3
     go_wp2
     go_roundw
     case rel => exact ⟨i + 1, A, n, c, by omega, by go_num, by rw [HBN2.out]; exact hst3, kL3, kP3, kR3⟩
     case measure => simp [intOf]; omega
   ·have t1 : decide ((s1 : Int) < (rn : Int)) = false := by simp; omega
    have t2 : decide (s1 < rn) = false := by simp; omega
    have t3 : ¬ ((s1 : Int) < (rn : Int)) := by omega
    have HBN2 := Lib.hid (show behN back rs (s1, s2) gg (i + 1) = behN back rs (s1, s2) gg i by rw [HBN.out]; (try dsimp only); rw [HBP.out, LRW.out, t2]; simp)
    clear HBN HBP HRB LRW hR2 ye xs2
    go_wp2
    go_roundw
    case rel => exact ⟨i + 1, A, n, c, by omega, by go_num, by rw [HBN2.out]; exact hst2, kL2, kP2, kR2⟩
    case measure => simp [intOf]; omega
  ·have hie : i = sn := by omega
   subst hie
   have inn : ¬ ((i : Int) < (i : Int)) := by omega
   have y0 := box_cells hst.k 0 rfl
   have y1 := box_cells hst.k 1 rfl
   have r0 := box_cells kR 0 rfl
   have r1 := box_cells kR 1 rfl
   have fR := kR.frozen
   have f0 := fR 0
   have f1 := fR 1
   have hcap := hst.rd.2
   have hk := store2_bk kR (.int .i64 ((s1 + 1 : Nat) : Int)) (.slice A n c)
   obtain ⟨hfar, hsz⟩ := store2_far wr (g + 1 + 1) (.int .i64 ((s1 + 1 : Nat) : Int)) (.slice A n c)
   have hbl := store2_below (g := g + 1 + 1) bw (by have := HG.out; omega) (.int .i64 ((s1 + 1 : Nat) : Int)) (.slice A n c)
   have hrd2 : Rd (store2 wr (g + 1 + 1) (.int .i64 ((s1 + 1 : Nat) : Int)) (.slice A n c)) (fun b => w.heap.size ≤ b ∧ b < (store2 wr (g + 1 + 1) (.int .i64 ((s1 + 1 : Nat) : Int)) (.slice A n c)).heap.size) A n (gls (behN back rs (s1, s2) gg i)) := by
    have h1 := rd_own hst.o
    exact h1.mono (fun b hb => ⟨by have := HG.out; have := hb.1; omega, by rw [hsz]; exact hb.2⟩) (fun b hb => hfar b (by have := hb.1; omega))
   obtain ⟨W9, hW9⟩ : ∃ W9, store2 wr (g + 1 + 1) (.int .i64 ((s1 + 1 : Nat) : Int)) (.slice A n c) = W9 := ⟨_, rfl⟩
   rw [hW9] at hk hbl hrd2
   have HF := Lib.hid (And.intro hk (And.intro hbl (And.intro hrd2 hcap)))
   have HW9 := Lib.hid hW9
   clear hst hk hbl hrd2 hcap hfar hsz fR hW9
   go_wp2
   obtain ⟨hk, hbl, hrd2, hcap⟩ := HF.out
   have hW9 := HW9.out
   unfold store2 at hW9
   first | rw [hW9] | (simp only [Nat.cast_add, Nat.cast_one] at hW9 ⊢; rw [hW9]) | (push_cast at hW9 ⊢; rw [hW9])
   exact bodyPost_ret (results_cell_row rfl _ _ (g + 1 + 1) 183 _ (0, 0) _ rfl hk Tryd.underlying183 rfl (by kernel_rfl)) rfl ⟨A, n, c, rfl, hrd2, hcap, hbl⟩


set_option maxRecDepth 100000 in
set_option maxHeartbeats 2000000 in
theorem dEnds_c (cs : List Value) (lk : Lk) (back : Bool) (ss : List Value) (s : Nat × List Nat) (w : World) (h : ELk w (lo w.heap.size) cs lk) (hs : SmB lk.rules) (hS : ESt w (lo w.heap.size) ss s) (hG : GoodS back lk.rules s) :
  Calls Tryd.prog 78 #[.agg cs.toArray, .bool back, .agg ss.toArray] w fun e w' => e = .returned (.int .u64 (endsD (rowsD back lk.rules) s : Int)) ∧ Below w.heap.size w w' := by
 obtain ⟨qa, qn, qc, rfl, hR0, hq⟩ := h
 obtain ⟨sA, sn, sc, rfl, hS0, hsd⟩ := hS
 obtain ⟨rs, hrs⟩ : ∃ rs, lk.rules = rs := ⟨_, rfl⟩
 rw [hrs] at hR0 hs hG ⊢
 obtain ⟨s1, s2⟩ := s
 have hm1000 : s1 ≤ 1000 := hG.met
 have LR := Lib.hid hR0.len
 have LS := Lib.hid (show s2.length = sn by have := hS0.len; rw [gls_len] at this; exact this)
 have qn64 : qn ≤ 64 := by have := hs.n; have := hR0.len; omega
 have sn64 : sn ≤ 64 := by have := hG.len; have := hR0.len; have := LS.out; dsimp only at *; omega
 have HR := Lib.hid hR0
 have HS0 := Lib.hid hS0
 have HSM := Lib.hid hs
 have HGD := Lib.hid hG
 have hq1 := hq.1
 have hq2 := hq.2
 have hd1 := hsd.1
 have hd2 := hsd.2
 have hE : endsD (rowsD back rs) (s1, s2) = endN back rs (s1, s2) sn := endN_all back rs (s1, s2) (by rw [LS.out]; exact Nat.le_refl _)
 rw [hE]
 have HLT := Lib.hid fun k => endN_lt hG (by have := LR.out; omega) k
 obtain ⟨W3, hW3⟩ : ∃ W3, (w.alloc (.cells #[.int .i64 lk.kind, .bool lk.ign, .slice qa qn qc] 55)).alloc (.cells #[.int .i64 (s1 : Int), .slice sA sn sc] 183) = W3 := ⟨_, rfl⟩
 have b3 : Below w.heap.size w W3 := by rw [← hW3]; exact below_lit _ _ (below_lit _ _ (Below.refl _ _) _) _
 have kL3 : Bk W3 w.heap.size 55 #[.int .i64 lk.kind, .bool lk.ign, .slice qa qn qc] := by rw [← hW3]; exact (Bk.new w 55 _).alloc _
 have kP3 : Bk W3 (w.heap.size + 1) 183 #[.int .i64 (s1 : Int), .slice sA sn sc] := by
  rw [← hW3]
  have := Bk.new (w.alloc (.cells #[.int .i64 lk.kind, .bool lk.ign, .slice qa qn qc] 55)) 183 #[.int .i64 (s1 : Int), .slice sA sn sc]
  rwa [World.size_alloc] at this
 subst hW3
 have H0 := Lib.hid (And.intro b3 (And.intro kL3 kP3))
 clear hR0 hs hS0 hG hsd hq hrs b3 kL3 kP3 hE
 go_enter Tryd.func78, Tryd.ntmps78
 go_upto_region 3 with fail
 obtain ⟨b0, kL0, kP0⟩ := H0.out
 clear H0
 generalize (w.alloc (.cells #[.int .i64 lk.kind, .bool lk.ign, .slice qa qn qc] 55)).alloc (.cells #[.int .i64 (s1 : Int), .slice sA sn sc] 183) = W4 at *
 obtain ⟨g, hg⟩ : ∃ g, w.heap.size = g := ⟨_, rfl⟩
 have HG := Lib.hid hg
 rw [hg] at kL0 kP0 ⊢
 clear hg
 go_loopw [7, 8] (fun ov iv wr => ∃ i : Nat, i ≤ sn ∧ iv = .int .i64 i ∧ ov = .int .u64 (endN back rs (s1, s2) i : Int) ∧ Below w.heap.size w wr ∧ Bk wr g 55 #[.int .i64 lk.kind, .bool lk.ign, .slice qa qn qc] ∧ Bk wr (g + 1) 183 #[.int .i64 (s1 : Int), .slice sA sn sc]) (fun _ iv _ => sn - (intOf iv).toNat)
 case atStart => exact ⟨0, by omega, rfl, rfl, b0, kL0, kP0⟩
 case round =>
  clear b0 kL0 kP0
  obtain ⟨i, hi, rfl, rfl, bw, kL, kP⟩ := hrel
  have xl := box_cells kL 2 rfl
  have xs := box_cells kP 1 rfl
  by_cases hlt : i < sn
  ·obtain ⟨k, hk⟩ := at_some s2 i (by rw [LS.out]; omega)
   have hkr : k < rs.length := HGD.out.lt (List.mem_of_getElem? hk)
   obtain ⟨r, hr⟩ := at_some rs k hkr
   obtain ⟨bs, os, hsa, hbs, hcs⟩ := HS0.out.pos (show 0 < sn by omega)
   obtain ⟨cs3, rfl, hcs2⟩ := hcs i _ (gls_at hk)
   have ye := (bw.cell (p := ⟨bs, os + i * 1 + 0, none⟩) hbs).trans (hcs2 0 _ rfl)
   rw [Nat.mul_one, Nat.add_zero] at ye
   obtain ⟨bf, of', hfa, hbf, hcc⟩ := HR.out.pos (show 0 < qn by have := LR.out; omega)
   obtain ⟨cs, hE0, hcc2⟩ := hcc k r hr
   have hE := hE0.mono (lo_mono bw.size) (kept_below bw)
   have hsm := HSM.out.row back (List.mem_of_getElem? hr)
   have HE := Lib.hid hE
   obtain ⟨A1, n1, c1, A2, n2, c2, A3, n3, c3, A4, n4, c4, A5, n5, c5, rfl, _⟩ := hE0
   have z0 := (bw.cell (p := ⟨bf, of' + k * 6 + 0, none⟩) hbf).trans (hcc2 0 _ rfl)
   have z1 := (bw.cell (p := ⟨bf, of' + k * 6 + 1, none⟩) hbf).trans (hcc2 1 _ rfl)
   have z2 := (bw.cell (p := ⟨bf, of' + k * 6 + 2, none⟩) hbf).trans (hcc2 2 _ rfl)
   have z3 := (bw.cell (p := ⟨bf, of' + k * 6 + 3, none⟩) hbf).trans (hcc2 3 _ rfl)
   have z4 := (bw.cell (p := ⟨bf, of' + k * 6 + 4, none⟩) hbf).trans (hcc2 4 _ rfl)
   have z5 := (bw.cell (p := ⟨bf, of' + k * 6 + 5, none⟩) hbf).trans (hcc2 5 _ rfl)
   rw [Nat.add_zero] at z0
   have HSR := Lib.hid hsm
   have HRO := Lib.hid fun (W : World) (bW : Below wr.heap.size wr W) => drow_c _ r back W (HE.out.call bW) HSR.out.2.2.2
   have iz : (0 : Int) ≤ (i : Int) := by omega
   have inn : (i : Int) < (sn : Int) := by omega
   have kz : (0 : Int) ≤ (k : Int) := by omega
   have kq : (k : Int) < (qn : Int) := by have := LR.out; omega
   have k64 : k < 64 := by have := LR.out; omega
   subst hfa
   subst hsa

   have HEN := Lib.hid (endN_succ (back := back) (rs := rs) (s := (s1, s2)) hk hr)
   clear hcs hcs2 hcc hcc2 hk hkr hr hE hsm HE hbf hbs
   go_upto_region 5 with fail
   have HS := Lib.hid fun (W : World) (bW : Below wr.heap.size wr W) => (show W.cell? ⟨g, 2, none⟩ = some (.slice (some ⟨bf, of', none⟩) qn qc) ∧ W.cell? ⟨g + 1, 1, none⟩ = some (.slice (some ⟨bs, os, none⟩) sn sc) ∧ W.cell? ⟨bs, os + i, none⟩ = some (.int .i64 (k : Int)) ∧ W.cell? ⟨bf, of' + k * 6, none⟩ = some (.slice A1 n1 c1) ∧ W.cell? ⟨bf, of' + k * 6 + 1, none⟩ = some (.slice A2 n2 c2) ∧ W.cell? ⟨bf, of' + k * 6 + 2, none⟩ = some (.slice A3 n3 c3) ∧ W.cell? ⟨bf, of' + k * 6 + 3, none⟩ = some (.slice A4 n4 c4) ∧ W.cell? ⟨bf, of' + k * 6 + 4, none⟩ = some (.slice A5 n5 c5) ∧ W.cell? ⟨bf, of' + k * 6 + 5, none⟩ = some (.int .i64 r.x) from ⟨cell_call xl bW, cell_call xs bW, cell_call ye bW, cell_call z0 bW, cell_call z1 bW, cell_call z2 bW, cell_call z3 bW, cell_call z4 bW, cell_call z5 bW⟩)
   have bb := Below.refl wr.heap.size wr
   refine wp_region_held_drew (S := fun w' => w'.cell? ⟨g, 2, none⟩ = some (.slice (some ⟨bf, of', none⟩) qn qc) ∧ w'.cell? ⟨g + 1, 1, none⟩ = some (.slice (some ⟨bs, os, none⟩) sn sc) ∧ w'.cell? ⟨bs, os + i, none⟩ = some (.int .i64 (k : Int)) ∧ w'.cell? ⟨bf, of' + k * 6, none⟩ = some (.slice A1 n1 c1) ∧ w'.cell? ⟨bf, of' + k * 6 + 1, none⟩ = some (.slice A2 n2 c2) ∧ w'.cell? ⟨bf, of' + k * 6 + 2, none⟩ = some (.slice A3 n3 c3) ∧ w'.cell? ⟨bf, of' + k * 6 + 3, none⟩ = some (.slice A4 n4 c4) ∧ w'.cell? ⟨bf, of' + k * 6 + 4, none⟩ = some (.slice A5 n5 c5) ∧ w'.cell? ⟨bf, of' + k * 6 + 5, none⟩ = some (.int .i64 r.x)) (by kernel_rfl) ?_ (fun hHeld => ?_)
   ·exact HS.out _ (below_drewN bb 1)
   replace bb := below_drewN bb 1
   change Below _ _ wr.drew at bb
   generalize hw0 : wr.drew = W0 at hHeld bb ⊢
   clear hw0
   refine tkB 0 (v := ?_) (by assumption) ?_ ?_
   rotate_left 1
   ·intro w hSw; (try dsimp only at hSw); go_simp; try with_reducible rfl
   refine tkB 1 (v := ?_) (by assumption) ?_ ?_
   rotate_left 1
   ·intro w hSw; (try dsimp only at hSw); go_simp; try with_reducible rfl
   refine tkB 2 (v := ?_) (by assumption) ?_ ?_
   rotate_left 1
   ·intro w hSw; (try dsimp only at hSw); go_simp; try with_reducible rfl
   refine tkB 3 (v := ?_) (by assumption) ?_ ?_
   rotate_left 1
   ·intro w hSw; (try dsimp only at hSw); go_simp; try with_reducible rfl
   refine tkB 4 (v := ?_) (by assumption) ?_ ?_
   rotate_left 1
   ·intro w hSw; (try dsimp only at hSw); go_simp; try with_reducible rfl
   refine tkB 5 (v := ?_) (by assumption) ?_ ?_
   rotate_left 1
   ·intro w hSw; (try dsimp only at hSw); go_simp; try with_reducible rfl
   refine tkB 6 (v := ?_) (by assumption) ?_ ?_
   rotate_left 1
   ·intro w hSw; (try dsimp only at hSw); go_simp; try with_reducible rfl
   refine tkB 7 (v := ?_) (by assumption) ?_ ?_
   rotate_left 1
   ·intro w hSw; (try dsimp only at hSw); go_simp; try with_reducible rfl
   refine tkB 8 (v := ?_) (by assumption) ?_ ?_
   rotate_left 1
   ·intro w hSw; (try dsimp only at hSw); go_simp; try with_reducible rfl
   refine tkB 9 (v := ?_) (by assumption) ?_ ?_
   rotate_left 1
   ·intro w hSw; (try dsimp only at hSw); go_simp; try with_reducible rfl
   refine wpAnyH_ready (rs := [10]) (by kernel_rfl) (by simp) ?_
   refine AllReadyH.cons (by simp only [List.getElem?_toArray]; rfl) (fun K hK => ?_) AllReadyH.nil
   refine wanted_pos (by kernel_rfl) ?_
   go_simp
   clear hHeld
   go_at_call 53
   (with_reducible refine (HRO.out _ bb).mono ?_)
   rintro e V1 ⟨R, rn, rc, rfl, hR2, hR2h, bn⟩
   go_wp2_with fail
   refine hK.out _ _ ?_ (fun hHeld => ?_)
   ·exact HS.out _ (bb.trans (bn.mono bb.size))
   clear hK K
   try conv => arg 8; simp only [Act.put, List.setIfInBounds_toArray, List.set_cons_zero, List.set_cons_succ]
   replace bb := bb.trans (bn.mono bb.size)
   clear bn
   refine tkB 11 (v := ?_) (by assumption) ?_ ?_
   rotate_left 1
   ·intro w hSw; (try dsimp only at hSw); go_simp; try with_reducible rfl
   refine tkB 12 (v := ?_) (by assumption) ?_ ?_
   rotate_left 1
   ·intro w hSw; (try dsimp only at hSw); go_simp; try with_reducible rfl
   refine tkB 13 (v := ?_) (by assumption) ?_ ?_
   rotate_left 1
   ·intro w hSw; (try dsimp only at hSw); go_simp; try with_reducible rfl
   refine tkB 14 (v := ?_) (by assumption) ?_ ?_
   rotate_left 1
   ·intro w hSw; (try dsimp only at hSw); go_simp; try with_reducible rfl
   refine tkB 15 (v := ?_) (by assumption) ?_ ?_
   rotate_left 1
   ·intro w hSw; (try dsimp only at hSw); go_simp; try with_reducible rfl
   refine wpAnyH_done (by kernel_rfl) ?_ _

   have kL2 := kL.below bb kL.lt
   have kP2 := kP.below bb kP.lt
   have bw2 := below_call bw bb
   have hrc1 := hR2h.1
   have hrc2 := hR2h.2
   have lrn : (rowD back r).length = rn := hR2.len
   have hrn : rn ≤ 100 := by have := HSR.out.1; omega
   replace ye := cell_call ye bb

   have xs2 := box_cells kP2 1 rfl
   have xm := box_cells kP2 0 rfl
   rw [lrn] at HEN
   clear HRO z0 z1 z2 z3 z4 z5 xl xs kL kP HS hHeld bw bb lrn HSR hR2h hR2
   by_cases hml : rn = s1
   ·have t1 : ((rn : Int) == (s1 : Int)) = true := by simp; omega
    have HEN2 := Lib.hid (show endN back rs (s1, s2) (i + 1) = endN back rs (s1, s2) i + 2 ^ k by rw [HEN.out]; (try dsimp only); rw [if_pos hml])
    have hlt64 : endN back rs (s1, s2) i + 2 ^ k < 18446744073709551616 := by rw [← HEN2.out]; exact HLT.out _
    obtain ⟨x, hx⟩ : ∃ x, endN back rs (s1, s2) i = x := ⟨_, rfl⟩
    have hsh := shl_one k64
    have hsh' := shl_one' k64
    obtain ⟨y, hy⟩ : ∃ y, 2 ^ k = y := ⟨_, rfl⟩
    rw [hy] at hsh hsh'
    rw [hx, hy] at HEN2 hlt64
    rw [hx]
    clear HEN hx hy hml
    have hxy : (x : Int) + (y : Int) < 18446744073709551616 := by omega
    have km : (k : Int) % 18446744073709551616 = (k : Int) := by omega
    go_wp2
    go_roundw
    case rel => exact ⟨i + 1, by omega, by go_num, by rw [HEN2.out]; first | rfl | (congr 1; omega), bw2, kL2, kP2⟩
    case measure => simp [intOf]; omega
   ·have t1 : ((rn : Int) == (s1 : Int)) = false := by simp; omega
    have t2 : (rn == s1) = false := by simpa using hml
    have HEN2 := Lib.hid (show endN back rs (s1, s2) (i + 1) = endN back rs (s1, s2) i by rw [HEN.out]; (try dsimp only); rw [if_neg hml])
    clear HEN ye xs2
    go_wp2
    go_roundw
    case rel => exact ⟨i + 1, by omega, by go_num, by rw [HEN2.out], bw2, kL2, kP2⟩
    case measure => simp [intOf]; omega
  ·have hie : i = sn := by omega
   subst hie
   have inn : ¬ ((i : Int) < (i : Int)) := by omega
   go_wp2
   go_ret
   exact ⟨rfl, bw⟩

end Go.Proofs.YtgcmedkaadagmaaDoor
