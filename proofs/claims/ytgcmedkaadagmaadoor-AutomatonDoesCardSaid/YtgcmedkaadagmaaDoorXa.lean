/- Walks: AutomatonDoes. -/
import Derived.Test.YtgcmedkaadagmaaDoorTk
import Derived.Test.YtgcmedkaadagmaaDoorX9
import Derived.Test.YtgcmedkaadagmaaDoorT2
import Derived.Test.YtgcmedkaadagmaaDoorL9
import Derived.Test.YtgcmedkaadagmaaDoorOpB
namespace Go.Proofs.YtgcmedkaadagmaaDoor
open Go.RowKit Go.Shelf Go.Maps

theorem rdR_take3 {w : World} {S : Nat → Prop} {A : Option Addr} {n m k : Nat} {xs : List Rul} (h : RdR w S A n xs) (hm : m = min n k) : RdR w S A m (xs.take k) := by
 have h1 : RdR w S A m (xs.take m) := SlE.take h m (by omega)
 have h2 : xs.take m = xs.take k := by
  have h3 := h.len
  by_cases h4 : k ≤ n
  ·rw [show m = k by omega]
  ·rw [List.take_of_length_le (by omega), List.take_of_length_le (by omega)]
 rwa [h2] at h1
theorem RdT.call {w w' : World} {A : Option Addr} {n : Nat} {xs : List (Int × Int × Int × Int)} (h : RdT w (lo w.heap.size) A n xs) (k : Below w.heap.size w w') : RdT w' (lo w'.heap.size) A n xs := SlE.mono h (lo_mono k.size) (kept_below k) fun _ _ h => h
/-- A font and an automaton, each in a block; the automaton changes. -/
structure DoS (w wr : World) (gF gA : Nat) (f : FV) (F : Fnt) (u : AV) (b : Au) : Prop where
 bl : Below w.heap.size w wr
 kf : Bk wr gF 33 f.cells
 ka : Bk wr gA 38 u.cells
 fF : IsF wr (lo gA) f F
 fA : IsA wr (fun x => x ≠ gA ∧ x < wr.heap.size) u b
 l1 : b.fore.length ≤ 20000
 l2 : b.back.length ≤ 20000
 lt : gF < gA ∧ w.heap.size ≤ gA
section
variable {w wr W : World} {gF gA : Nat} {f : FV} {F : Fnt} {u u' : AV} {b b' : Au}
theorem DoS.call (h : DoS w wr gF gA f F u b) (hb : Below wr.heap.size wr W) : DoS w W gF gA f F u b :=
 ⟨below_call h.bl hb, h.kf.below hb h.kf.lt, h.ka.below hb h.ka.lt, h.fF.mono (fun _ h => h) (fun x hx => hb.block x (Nat.lt_trans hx h.ka.lt)), h.fA.mono (fun _ hx => ⟨hx.1, Nat.lt_of_lt_of_le hx.2 hb.size⟩) (fun x hx => hb.block x hx.2), h.l1, h.l2, h.lt⟩
theorem DoS.fFw (h : DoS w wr gF gA f F u b) : IsF wr (lo wr.heap.size) f F := h.fF.mono (fun _ hb => Nat.lt_trans hb h.ka.lt) (Kept.refl _ _)
theorem DoS.fAw (h : DoS w wr gF gA f F u b) : IsA wr (lo wr.heap.size) u b := h.fA.mono (fun _ hb => hb.2) (Kept.refl _ _)
theorem DoS.put (h : DoS w wr gF gA f F u b) (hb : Below wr.heap.size wr W) (hA : IsA W (fun x => wr.heap.size ≤ x ∧ x < W.heap.size) u' b') (l1 : b'.fore.length ≤ 20000) (l2 : b'.back.length ≤ 20000) :
  DoS w (store5 W gA (.slice u'.ca u'.cn u'.cc) (.slice u'.fa u'.fn u'.fc) (.slice u'.ba u'.bn u'.bc) (.slice u'.ea u'.en u'.ec) (.slice u'.ga u'.gn u'.gc)) gF gA f F u' b' := by
 have h2 := h.call hb
 obtain ⟨hk, hs⟩ := store5_kept (S := fun _ => True) (W := W) gA (.slice u'.ca u'.cn u'.cc) (.slice u'.fa u'.fn u'.fc) (.slice u'.ba u'.bn u'.bc) (.slice u'.ea u'.en u'.ec) (.slice u'.ga u'.gn u'.gc)
 have hlt := h.ka.lt
 have hl := h.lt
 refine ⟨store5_below h2.bl hl.2 _ _ _ _ _, (hk gF ⟨trivial, by omega⟩).trans h2.kf, store5_bk h2.ka _ _ _ _ _, h2.fF.mono (fun _ h => h) (fun x hx => hk x ⟨trivial, Nat.ne_of_lt hx⟩), hA.mono (fun x hx => ⟨by have := hx.1; omega, by rw [hs]; exact hx.2⟩) (fun x hx => hk x ⟨trivial, by have := hx.1; omega⟩), l1, l2, hl⟩
end
theorem auto_len {rs : List Rul} {n : Nat} {a : Au} (h : autoL rs n = some a) : a.fore.length ≤ 20000 ∧ a.back.length ≤ 20000 := by
 obtain ⟨x, y, hx, hy, rfl⟩ := autoL_some h
 have h1 := half_ok hx
 have h2 := half_ok hy
 have e1 := h1.len
 have e2 := h2.len
 have m1 := h1.mx
 have m2 := h2.mx
 exact ⟨by show x.1.length ≤ _; omega, by show y.1.length ≤ _; omega⟩
theorem madeR_take3 (rs : List Rul) : (madeR (rs.take 3)).length ≤ 3 := by
 unfold madeR
 rw [List.length_map, List.length_take, List.length_take]
 omega

set_option maxRecDepth 100000 in
set_option maxHeartbeats 4000000 in
theorem automatonDoes_walk (g0 : Int) (A0 : Option Addr) (n0 c0 : Nat) (rs : List Rul) (A1 : Option Addr) (n1 c1 : Nat) (ts : List (Int × Int × Int × Int)) (w : World) (h : RdR w (lo w.heap.size) A0 n0 rs) (hh : Hd n0 c0) (h1 : RdT w (lo w.heap.size) A1 n1 ts) (_ : Hd n1 c1) (hT : Tab w) : Calls Tryd.prog 10 #[.int .i64 g0, .slice A0 n0 c0, .slice A1 n1 c1] w fun e w' => e = .returned (.bool true) ∧ Below w.heap.size w w' := by
 obtain ⟨m3, hm3⟩ : ∃ m : Nat, m = min n0 3 := ⟨_, rfl⟩
 have m3a : min (n0 : Int) 3 = (m3 : Int) := by omega
 have m3b : (if (3 : Int) < (n0 : Int) then (3 : Int) else (n0 : Int)) = (m3 : Int) := by split <;> omega
 have m3z : (0 : Int) ≤ (m3 : Int) := by omega
 have m3c : (m3 : Int) ≤ (c0 : Int) := by have := hh.1; omega
 have m3d : c0 ≤ 9223372036854775807 := hh.2
 have hh3 : Hd m3 c0 := ⟨by have := hh.1; omega, hh.2⟩
 have HM3 := Lib.hid hm3
 have HTS := Lib.hid fun (W : World) (bW : Below w.heap.size w W) => h1.call bW
 have L1 := Lib.hid h1.len
 clear h1 hm3
 have hTp := hT.pos
 have b0 : Below w.heap.size w w := Below.refl _ _
 have HSH := Lib.hid (shown_c w (hT.call b0 hTp))
 have HTT := Lib.hid fun (W : World) (bW : Below w.heap.size w W) => hT.call bW hTp
 have HR := Lib.hid fun (W : World) (bW : Below w.heap.size w W) => h.call bW
 clear h hT
 go_enter Tryd.func10, Tryd.ntmps10
 go_wp2_with fail
 refine HSH.out.mono ?_
 rintro e w1 ⟨rfl, bn⟩
 have b1 := below_call b0 bn
 have HM := Lib.hid (made_c g0 A0 m3 c0 (rs.take 3) w1 (rdR_take3 (HR.out w1 b1) HM3.out) hh3)
 clear HSH b0 bn
 go_wp2_with fail
 refine HM.out.mono ?_
 rintro e w2 ⟨f, rfl, hF, bn⟩
 have b2 := below_call b1 bn
 obtain ⟨gn, hgn⟩ : ∃ n : Nat, glyN g0 = n := ⟨_, rfl⟩
 have hgn8 : gn ≤ 8 := hgn ▸ glyN_le g0
 have hgn0 : 0 < gn := hgn ▸ glyN_pos g0
 rw [hgn] at hF
 clear hgn
 have b23 : Below w2.heap.size w2 (w2.alloc (.cells #[.int .i64 f.u0, .slice f.ga f.gn f.gc, .slice f.ca f.cn f.cc, .slice f.la f.ln f.lc, .slice f.a4 f.n4 f.c4, .slice f.a5 f.n5 f.c5, .slice f.a6 f.n6 f.c6, .slice f.a7 f.n7 f.c7, .slice f.a8 f.n8 f.c8] 33)) := (Below.refl _ _).alloc (Nat.le_refl _) _
 have hF2 : IsF w2 (lo w2.heap.size) f (fontF gn (madeR (rs.take 3))) := hF.mono (fun _ hb => hb.2) (Kept.refl _ _)
 have hF3 := hF2.call b23
 have kf3 := Bk.new w2 33 #[.int .i64 f.u0, .slice f.ga f.gn f.gc, .slice f.ca f.cn f.cc, .slice f.la f.ln f.lc, .slice f.a4 f.n4 f.c4, .slice f.a5 f.n5 f.c5, .slice f.a6 f.n6 f.c6, .slice f.a7 f.n7 f.c7, .slice f.a8 f.n8 f.c8]
 have b3 := below_call b2 b23
 obtain ⟨a, ha, hbl⟩ := made_build (rs.take 3) hgn0 hgn8
 have hbl2 : buildL (fontF gn (madeR (rs.take 3))) 0 = (some a, 0) := hbl
 have HB := Lib.hid (dbuild_c f (fontF gn (madeR (rs.take 3))) 0 _ hF3 (fun lk h _ => by rw [fontF_lk, if_pos rfl] at h; injection h with h; subst h; exact made_sm (rs.take 3)) (fun lk h _ => by rw [fontF_lk, if_pos rfl] at h; injection h with h; subst h; exact made_auto _ _))
 have HBL := Lib.hid hbl2; have HAU := Lib.hid ha
 unfold FV.cells at HB
 clear HM b1 b2 b23 bn hF hF2 hbl hbl2 ha
 go_wp2_with fail
 refine HB.out.mono ?_
 rintro e w4 ⟨bn, hm⟩
 rw [HBL.out] at hm
 obtain ⟨v, rfl, hA4⟩ := hm
 have b4 := below_call b3 bn
 have hF4 := hF3.call bn
 have kf4 := kf3.below bn kf3.lt
 clear HB b3 hF3 kf3 bn
 unfold AV.cells at *
 clear m3a m3b m3z m3c m3d hh3 HM3
 have HSM := Lib.hid (show ∀ lk, lkAt (fontF gn (madeR (rs.take 3))) 0 = some lk → lk.rules.length ≤ 64 → SmB lk.rules from fun lk h _ => by rw [fontF_lk, if_pos rfl] at h; injection h with h; subst h; exact made_sm (rs.take 3))
 have HXX := Lib.hid (show ∀ lk, lkAt (fontF gn (madeR (rs.take 3))) 0 = some lk → lk.rules.length ≤ 64 → ∃ a, autoL lk.rules (fontF gn (madeR (rs.take 3))).gly.length = some a from fun lk h _ => by rw [fontF_lk, if_pos rfl] at h; injection h with h; subst h; exact made_auto _ _)
 have HX3 := Lib.hid (show ∀ lk, lkAt (fontF gn (madeR (rs.take 3))) 0 = some lk → lk.rules.length ≤ 3 from fun lk h => by rw [fontF_lk, if_pos rfl] at h; injection h with h; subst h; exact madeR_take3 rs)
 have HK1 := Lib.hid (show lkAt (fontF gn (madeR (rs.take 3))) 1 = none by rw [fontF_lk, if_neg (by omega)])
 have hau2 := auto_len HAU.out
 have HDS : DoS w (w4.alloc (.cells #[.slice v.ca v.cn v.cc, .slice v.fa v.fn v.fc, .slice v.ba v.bn v.bc, .slice v.ea v.en v.ec, .slice v.ga v.gn v.gc] 38)) w2.heap.size w4.heap.size f (fontF gn (madeR (rs.take 3))) v a := by
  have bl := below_lit w4 w4 (Below.refl _ _) (.cells #[.slice v.ca v.cn v.cc, .slice v.fa v.fn v.fc, .slice v.ba v.bn v.bc, .slice v.ea v.en v.ec, .slice v.ga v.gn v.gc] 38)
  refine ⟨below_call b4 bl, kf4.below bl kf4.lt, Bk.new w4 _ _, hF4.mono (fun _ h => h) (fun x hx => bl.block x hx), hA4.mono (fun x hx => ⟨Nat.ne_of_lt hx, by rw [World.size_alloc]; exact Nat.lt_succ_of_lt hx⟩) (fun x hx => bl.block x hx), hau2.1, hau2.2, kf4.lt, b4.size⟩
 obtain ⟨gF, hgF⟩ : ∃ g, w2.heap.size = g := ⟨_, rfl⟩
 obtain ⟨gA, hgA⟩ : ∃ g, w4.heap.size = g := ⟨_, rfl⟩
 obtain ⟨w5, hw5⟩ : ∃ w5, w4.alloc (.cells #[.slice v.ca v.cn v.cc, .slice v.fa v.fn v.fc, .slice v.ba v.bn v.bc, .slice v.ea v.en v.ec, .slice v.ga v.gn v.gc] 38) = w5 := ⟨_, rfl⟩
 clear hA4 hF4 kf4 b4 hau2
 rw [hw5, hgF, hgA] at HDS
 go_upto_region 7 with fail
 try rw [hw5]
 try rw [hgA]
 try rw [hgF]
 clear hw5 hgA hgF
 have hd := HDS
 clear HDS
 go_loopw [11] (fun iv wr => ∃ (i : Nat) (u : AV) (b : Au), i ≤ 2 ∧ i ≤ n1 ∧ iv = .int .i64 i ∧ DoS w wr gF gA f (fontF gn (madeR (rs.take 3))) u b) (fun iv _ => n1 - (intOf iv).toNat)
 case atStart => exact ⟨0, v, a, by omega, by omega, rfl, hd⟩
 case round =>
  clear hd
  obtain ⟨i, u, b, hi2, hin, rfl, hd⟩ := hrel
  by_cases hlt : i < n1
  ·have inn : (i : Int) < (n1 : Int) := by omega
   by_cases hlt2 : i < 2
   ·have i2 : (i : Int) < 2 := by omega
    have iz : (0 : Int) ≤ (i : Int) := by omega
    obtain ⟨t, ht⟩ := at_some ts i (by rw [L1.out]; omega)
    obtain ⟨ba, oa, rfl, hba, hcc⟩ := (HTS.out w (Below.refl _ _)).pos (show 0 < n1 by omega)
    obtain ⟨cs, rfl, hcc2⟩ := hcc i t ht
    have t0 := (hd.bl.cell (p := ⟨ba, oa + i * 4 + 0, none⟩) hba).trans (hcc2 0 _ rfl)
    rw [Nat.add_zero] at t0
    have t1 := (hd.bl.cell (p := ⟨ba, oa + i * 4 + 1, none⟩) hba).trans (hcc2 1 _ rfl)
    have t2 := (hd.bl.cell (p := ⟨ba, oa + i * 4 + 2, none⟩) hba).trans (hcc2 2 _ rfl)
    have t3 := (hd.bl.cell (p := ⟨ba, oa + i * 4 + 3, none⟩) hba).trans (hcc2 3 _ rfl)
    have T0 := Lib.hid t0; have T1 := Lib.hid t1; have T2 := Lib.hid t2; have T3 := Lib.hid t3
    change ba < w.heap.size at hba
    have HTU := Lib.hid fun (W : World) (bW : Below wr.heap.size wr W) => turned_c u b t.1 t.2.1 t.2.2.1 t.2.2.2 W (hd.call bW).fAw
    unfold AV.cells at HTU
    have HD := Lib.hid hd
    have a0 := box_cells hd.ka 0 rfl
    have a1 := box_cells hd.ka 1 rfl
    have a2 := box_cells hd.ka 2 rfl
    have a3 := box_cells hd.ka 3 rfl
    have a4 := box_cells hd.ka 4 rfl

    clear hcc hcc2 ht hd
    go_upto_region 9 with fail
    have HS := Lib.hid fun (W : World) (bW : Below wr.heap.size wr W) => (show W.cell? ⟨ba, oa + i * 4, none⟩ = some (.int .i64 t.1) ∧ W.cell? ⟨ba, oa + i * 4 + 1, none⟩ = some (.int .i64 t.2.1) ∧ W.cell? ⟨ba, oa + i * 4 + 2, none⟩ = some (.int .i64 t.2.2.1) ∧ W.cell? ⟨ba, oa + i * 4 + 3, none⟩ = some (.int .i64 t.2.2.2) from ⟨cell_call t0 bW, cell_call t1 bW, cell_call t2 bW, cell_call t3 bW⟩)
    have bb := Below.refl wr.heap.size wr
    refine wp_region_held_drew (S := fun w' => w'.cell? ⟨ba, oa + i * 4, none⟩ = some (.int .i64 t.1) ∧ w'.cell? ⟨ba, oa + i * 4 + 1, none⟩ = some (.int .i64 t.2.1) ∧ w'.cell? ⟨ba, oa + i * 4 + 2, none⟩ = some (.int .i64 t.2.2.1) ∧ w'.cell? ⟨ba, oa + i * 4 + 3, none⟩ = some (.int .i64 t.2.2.2)) (by kernel_rfl) ?_ (fun hHeld => ?_)
    ·exact HS.out _ (below_drewN bb 1)
    replace bb := below_drewN bb 1
    change Below _ _ wr.drew at bb
    generalize hw0 : wr.drew = W0 at hHeld bb ⊢
    clear hw0
    refine tkB 1 (v := ?_) (by assumption) ?_ ?_
    rotate_left 1
    ·intro w hSw; (try dsimp only at hSw); go_simp; try with_reducible rfl
    refine tkB 2 (v := ?_) (by assumption) ?_ ?_
    rotate_left 1
    ·intro w hSw; (try dsimp only at hSw); go_simp; try with_reducible rfl
    refine tkB 3 (v := ?_) (by assumption) ?_ ?_
    rotate_left 1
    ·intro w hSw; (try dsimp only at hSw); go_simp; try with_reducible rfl
    refine tkB 4 (v := ?_) (by assumption) ?_ ?_
    rotate_left 1
    ·intro w hSw; (try dsimp only at hSw); go_simp; try with_reducible rfl
    have e0 := cell_call a0 bb
    have e1 := cell_call a1 bb
    have e2 := cell_call a2 bb
    have e3 := cell_call a3 bb
    have e4 := cell_call a4 bb
    refine wpAnyH_ready (rs := [0]) (by kernel_rfl) (by simp) ?_
    refine AllReadyH.cons (by simp only [List.getElem?_toArray]; rfl) (fun K hK => ?_) AllReadyH.nil
    refine wanted_pos (by kernel_rfl) ?_
    go_simp
    clear hHeld
    refine hK.out _ _ ?_ (fun hHeld => ?_)
    ·exact HS.out _ bb
    clear hK K
    try conv => arg 8; simp only [Act.put, List.setIfInBounds_toArray, List.set_cons_zero, List.set_cons_succ]
    clear e0 e1 e2 e3 e4
    refine wpAnyH_ready (rs := [5]) (by kernel_rfl) (by simp) ?_
    refine AllReadyH.cons (by simp only [List.getElem?_toArray]; rfl) (fun K hK => ?_) AllReadyH.nil
    refine wanted_pos (by kernel_rfl) ?_
    go_simp
    clear hHeld
    go_at_call 18
    (with_reducible refine (HTU.out _ bb).mono ?_)
    rintro e V1 ⟨u', b', rfl, hB, hl1, hl2, bn⟩
    unfold AV.cells
    go_wp2_with fail
    refine hK.out _ _ ?_ (fun hHeld => ?_)
    ·exact HS.out _ (bb.trans (bn.mono bb.size))
    clear hK K
    try conv => arg 8; simp only [Act.put, List.setIfInBounds_toArray, List.set_cons_zero, List.set_cons_succ]
    have hB1 : IsA V1 (fun x => wr.heap.size ≤ x ∧ x < V1.heap.size) u' b' := hB.mono (fun x hx => ⟨Nat.le_trans bb.size hx.1, hx.2⟩) (Kept.refl _ _)
    replace bb := bb.trans (bn.mono bb.size)
    clear bn hB
    have hput := HD.out.put bb hB1 (by omega) (by omega)
    have kV := HD.out.ka.below bb HD.out.ka.lt
    have g0 := box_cells kV 0 rfl
    have z0 := kV.frozen 0
    have g1 := box_cells kV 1 rfl
    have z1 := kV.frozen 1
    have g2 := box_cells kV 2 rfl
    have z2 := kV.frozen 2
    have g3 := box_cells kV 3 rfl
    have z3 := kV.frozen 3
    have g4 := box_cells kV 4 rfl
    have z4 := kV.frozen 4
    have bS := store5_below (g := gA) (w := wr) (B := w.heap.size) (bb.mono HD.out.bl.size) HD.out.lt.2 (.slice u'.ca u'.cn u'.cc) (.slice u'.fa u'.fn u'.fc) (.slice u'.ba u'.bn u'.bc) (.slice u'.ea u'.en u'.ec) (.slice u'.ga u'.gn u'.gc)
    unfold store5 at hput bS
    refine wpAnyH_ready (rs := [6]) (by kernel_rfl) (by simp) ?_
    refine AllReadyH.cons (by simp only [List.getElem?_toArray]; rfl) (fun K hK => ?_) AllReadyH.nil
    refine wanted_pos (by kernel_rfl) ?_
    go_simp
    clear hHeld
    refine hK.out _ _ ?_ (fun hHeld => ?_)
    ·exact ⟨(bS.cell (p := ⟨ba, oa + i * 4, none⟩) hba).trans t0, (bS.cell (p := ⟨ba, oa + i * 4 + 1, none⟩) hba).trans t1, (bS.cell (p := ⟨ba, oa + i * 4 + 2, none⟩) hba).trans t2, (bS.cell (p := ⟨ba, oa + i * 4 + 3, none⟩) hba).trans t3⟩
    clear hK K
    try conv => arg 8; simp only [Act.put, List.setIfInBounds_toArray, List.set_cons_zero, List.set_cons_succ]
    refine wpAnyH_done (by kernel_rfl) ?_ _
    clear hHeld g0 z0 a0 g1 z1 a1 g2 z2 a2 g3 z3 a3 g4 z4 a4 t0 t1 t2 t3 kV bS hB1 HS HTU HD bb
    go_wp2_with fail
    go_roundw
    case rel => exact ⟨i + 1, u', b', by omega, by omega, by go_num, hput⟩
    case measure => simp [intOf]; omega

   ·have i2 : ¬ (i : Int) < 2 := by omega
    have HD1 := Lib.hid fun (W : World) (bW : Below wr.heap.size wr W) => does_c f (fontF gn (madeR (rs.take 3))) 0 u b W (hd.call bW).fFw HSM.out (hd.call bW).fAw hd.l1 hd.l2
    have HD2 := Lib.hid fun (W : World) (bW : Below wr.heap.size wr W) => dDoes_c f (fontF gn (madeR (rs.take 3))) 0 u b W (hd.call bW).fFw HSM.out HXX.out HX3.out (hd.call bW).fAw hd.l1 hd.l2
    have HD3 := Lib.hid fun (W : World) (bW : Below wr.heap.size wr W) => does_c f (fontF gn (madeR (rs.take 3))) 1 u b W (hd.call bW).fFw (fun lk h => by rw [HK1.out] at h; cases h) (hd.call bW).fAw hd.l1 hd.l2
    have HN1 := Lib.hid (show ¬ DoesF (fontF gn (madeR (rs.take 3))) 1 b from fun h => by obtain ⟨_, _, _, h1, _⟩ := h; rw [HK1.out] at h1; cases h1)
    unfold AV.cells at HD1 HD2 HD3
    unfold FV.cells at HD1 HD2 HD3
    have a0 := box_cells hd.ka 0 rfl
    have a1 := box_cells hd.ka 1 rfl
    have a2 := box_cells hd.ka 2 rfl
    have a3 := box_cells hd.ka 3 rfl
    have a4 := box_cells hd.ka 4 rfl
    have v0 := box_cells hd.kf 0 rfl
    have v1 := box_cells hd.kf 1 rfl
    have v2 := box_cells hd.kf 2 rfl
    have v3 := box_cells hd.kf 3 rfl
    have v4 := box_cells hd.kf 4 rfl
    have v5 := box_cells hd.kf 5 rfl
    have v6 := box_cells hd.kf 6 rfl
    have v7 := box_cells hd.kf 7 rfl
    have v8 := box_cells hd.kf 8 rfl
    go_upto_region 10 with fail
    clear hi2 hin hlt inn i2 hlt2
    have HS := Lib.hid fun (W : World) (bW : Below wr.heap.size wr W) => (show W.cell? ⟨gA, 0, none⟩ = some (.slice u.ca u.cn u.cc) ∧ W.cell? ⟨gA, 1, none⟩ = some (.slice u.fa u.fn u.fc) ∧ W.cell? ⟨gA, 2, none⟩ = some (.slice u.ba u.bn u.bc) ∧ W.cell? ⟨gA, 3, none⟩ = some (.slice u.ea u.en u.ec) ∧ W.cell? ⟨gA, 4, none⟩ = some (.slice u.ga u.gn u.gc) ∧ W.cell? ⟨gF, 0, none⟩ = some (.int .i64 f.u0) ∧ W.cell? ⟨gF, 1, none⟩ = some (.slice f.ga f.gn f.gc) ∧ W.cell? ⟨gF, 2, none⟩ = some (.slice f.ca f.cn f.cc) ∧ W.cell? ⟨gF, 3, none⟩ = some (.slice f.la f.ln f.lc) ∧ W.cell? ⟨gF, 4, none⟩ = some (.slice f.a4 f.n4 f.c4) ∧ W.cell? ⟨gF, 5, none⟩ = some (.slice f.a5 f.n5 f.c5) ∧ W.cell? ⟨gF, 6, none⟩ = some (.slice f.a6 f.n6 f.c6) ∧ W.cell? ⟨gF, 7, none⟩ = some (.slice f.a7 f.n7 f.c7) ∧ W.cell? ⟨gF, 8, none⟩ = some (.slice f.a8 f.n8 f.c8) from ⟨cell_call a0 bW, cell_call a1 bW, cell_call a2 bW, cell_call a3 bW, cell_call a4 bW, cell_call v0 bW, cell_call v1 bW, cell_call v2 bW, cell_call v3 bW, cell_call v4 bW, cell_call v5 bW, cell_call v6 bW, cell_call v7 bW, cell_call v8 bW⟩)
    have bb := Below.refl wr.heap.size wr
    refine wp_region_held_drew (S := fun w' => w'.cell? ⟨gA, 0, none⟩ = some (.slice u.ca u.cn u.cc) ∧ w'.cell? ⟨gA, 1, none⟩ = some (.slice u.fa u.fn u.fc) ∧ w'.cell? ⟨gA, 2, none⟩ = some (.slice u.ba u.bn u.bc) ∧ w'.cell? ⟨gA, 3, none⟩ = some (.slice u.ea u.en u.ec) ∧ w'.cell? ⟨gA, 4, none⟩ = some (.slice u.ga u.gn u.gc) ∧ w'.cell? ⟨gF, 0, none⟩ = some (.int .i64 f.u0) ∧ w'.cell? ⟨gF, 1, none⟩ = some (.slice f.ga f.gn f.gc) ∧ w'.cell? ⟨gF, 2, none⟩ = some (.slice f.ca f.cn f.cc) ∧ w'.cell? ⟨gF, 3, none⟩ = some (.slice f.la f.ln f.lc) ∧ w'.cell? ⟨gF, 4, none⟩ = some (.slice f.a4 f.n4 f.c4) ∧ w'.cell? ⟨gF, 5, none⟩ = some (.slice f.a5 f.n5 f.c5) ∧ w'.cell? ⟨gF, 6, none⟩ = some (.slice f.a6 f.n6 f.c6) ∧ w'.cell? ⟨gF, 7, none⟩ = some (.slice f.a7 f.n7 f.c7) ∧ w'.cell? ⟨gF, 8, none⟩ = some (.slice f.a8 f.n8 f.c8)) (by kernel_rfl) ?_ (fun hHeld => ?_)
    ·exact HS.out _ (below_drewN bb 1)
    replace bb := below_drewN bb 1
    change Below _ _ wr.drew at bb
    generalize hw0 : wr.drew = W0 at hHeld bb ⊢
    clear hw0
    refine tkB 0 (v := ?_) (by assumption) ?_ ?_
    rotate_left 1
    ·intro w hSw; (try dsimp only at hSw); go_simp; try with_reducible rfl
    refine tkB 1 (v := ?_) (by assumption) ?_ ?_
    rotate_left 1
    ·intro w hSw; (try dsimp only at hSw); go_simp; try with_reducible rfl
    refine tkB 2 (v := ?_) (by assumption) ?_ ?_
    rotate_left 1
    ·intro w hSw; (try dsimp only at hSw); go_simp; try with_reducible rfl
    refine tkB 3 (v := ?_) (by assumption) ?_ ?_
    rotate_left 1
    ·intro w hSw; (try dsimp only at hSw); go_simp; try with_reducible rfl
    refine tkB 5 (v := ?_) (by assumption) ?_ ?_
    rotate_left 1
    ·intro w hSw; (try dsimp only at hSw); go_simp; try with_reducible rfl
    refine tkB 6 (v := ?_) (by assumption) ?_ ?_
    rotate_left 1
    ·intro w hSw; (try dsimp only at hSw); go_simp; try with_reducible rfl
    refine wpAnyH_ready (rs := [4]) (by kernel_rfl) (by simp) ?_
    refine AllReadyH.cons (by simp only [List.getElem?_toArray]; rfl) (fun K hK => ?_) AllReadyH.nil
    refine wanted_pos (by kernel_rfl) ?_
    go_simp
    clear hHeld
    go_at_call 16
    (with_reducible refine (HD1.out _ bb).mono ?_)
    rintro e V1 ⟨bn, bz1, rfl, hz1⟩
    go_wp2_with fail
    refine hK.out _ _ ?_ (fun hHeld => ?_)
    ·exact HS.out _ (bb.trans (bn.mono bb.size))
    clear hK K
    try conv => arg 8; simp only [Act.put, List.setIfInBounds_toArray, List.set_cons_zero, List.set_cons_succ]
    replace bb := bb.trans (bn.mono bb.size)
    clear bn
    refine wpAnyH_ready (rs := [7]) (by kernel_rfl) (by simp) ?_
    refine AllReadyH.cons (by simp only [List.getElem?_toArray]; rfl) (fun K hK => ?_) AllReadyH.nil
    refine wanted_pos (by kernel_rfl) ?_
    go_simp
    clear hHeld
    go_at_call 30
    (with_reducible refine (HD2.out _ bb).mono ?_)
    rintro e V2 ⟨bn, bz2, rfl, hz2⟩
    go_wp2_with fail
    refine hK.out _ _ ?_ (fun hHeld => ?_)
    ·exact HS.out _ (bb.trans (bn.mono bb.size))
    clear hK K
    try conv => arg 8; simp only [Act.put, List.setIfInBounds_toArray, List.set_cons_zero, List.set_cons_succ]
    replace bb := bb.trans (bn.mono bb.size)
    clear bn

    obtain rfl : bz1 = bz2 := Bool.eq_iff_iff.2 (hz1.trans hz2.symm)
    clear hz1 hz2
    cases bz1 with
    | false =>
     refine tkB 8 (v := ?_) (by assumption) ?_ ?_
     rotate_left 1
     ·intro w hSw; (try dsimp only at hSw); go_simp; try with_reducible rfl
     refine tkB 9 (v := ?_) (by assumption) ?_ ?_
     rotate_left 1
     ·intro w hSw; (try dsimp only at hSw); go_simp; try with_reducible rfl
     refine tkB 10 (v := ?_) (by assumption) ?_ ?_
     rotate_left 1
     ·intro w hSw; (try dsimp only at hSw); go_simp; try with_reducible rfl
     refine tkB 11 (v := ?_) (by assumption) ?_ ?_
     rotate_left 1
     ·intro w hSw; (try dsimp only at hSw); go_simp; try with_reducible rfl
     refine tkB 12 (v := ?_) (by assumption) ?_ ?_
     rotate_left 1
     ·intro w hSw; (try dsimp only at hSw); go_simp; try with_reducible rfl
     refine wpAnyH_ready (rs := [13]) (by kernel_rfl) (by simp) ?_
     refine AllReadyH.cons (by simp only [List.getElem?_toArray]; rfl) (fun K hK => ?_) AllReadyH.nil
     refine wanted_pos (by kernel_rfl) ?_
     go_simp
     clear hHeld
     go_at_call 16
     (with_reducible refine (HD3.out _ bb).mono ?_)
     rintro e V3 ⟨bn, bz3, rfl, hz3⟩
     go_wp2_with fail
     refine hK.out _ _ ?_ (fun hHeld => ?_)
     ·exact HS.out _ (bb.trans (bn.mono bb.size))
     clear hK K
     try conv => arg 8; simp only [Act.put, List.setIfInBounds_toArray, List.set_cons_zero, List.set_cons_succ]
     replace bb := bb.trans (bn.mono bb.size)
     clear bn

     obtain rfl : bz3 = false := by
      cases bz3 with
      | false => rfl
      | true => exact absurd (hz3.1 rfl) HN1.out
     refine tkB 14 (v := ?_) (by assumption) ?_ ?_
     rotate_left 1
     ·intro w hSw; (try dsimp only at hSw); go_simp; try with_reducible rfl
     refine tkB 15 (v := ?_) (by assumption) ?_ ?_
     rotate_left 1
     ·intro w hSw; (try dsimp only at hSw); go_simp; try with_reducible rfl
     refine tkB 16 (v := ?_) (by assumption) ?_ ?_
     rotate_left 1
     ·intro w hSw; (try dsimp only at hSw); go_simp; try with_reducible rfl
     refine wpAnyH_done (by kernel_rfl) ?_ _
     have hbl := hd.bl.trans (bb.mono hd.bl.size)
     clear hHeld HS HD1 HD2 HD3 a0 a1 a2 a3 a4 v0 v1 v2 v3 v4 v5 v6 v7 v8 bb hd
     go_wp2
     go_ret
     exact ⟨rfl, hbl⟩

    | true =>
     refine tkB 8 (v := ?_) (by assumption) ?_ ?_
     rotate_left 1
     ·intro w hSw; (try dsimp only at hSw); go_simp; try with_reducible rfl
     refine tkB 9 (v := ?_) (by assumption) ?_ ?_
     rotate_left 1
     ·intro w hSw; (try dsimp only at hSw); go_simp; try with_reducible rfl
     refine tkB 10 (v := ?_) (by assumption) ?_ ?_
     rotate_left 1
     ·intro w hSw; (try dsimp only at hSw); go_simp; try with_reducible rfl
     refine tkB 11 (v := ?_) (by assumption) ?_ ?_
     rotate_left 1
     ·intro w hSw; (try dsimp only at hSw); go_simp; try with_reducible rfl
     refine tkB 12 (v := ?_) (by assumption) ?_ ?_
     rotate_left 1
     ·intro w hSw; (try dsimp only at hSw); go_simp; try with_reducible rfl
     refine wpAnyH_ready (rs := [13]) (by kernel_rfl) (by simp) ?_
     refine AllReadyH.cons (by simp only [List.getElem?_toArray]; rfl) (fun K hK => ?_) AllReadyH.nil
     refine wanted_pos (by kernel_rfl) ?_
     go_simp
     clear hHeld
     go_at_call 16
     (with_reducible refine (HD3.out _ bb).mono ?_)
     rintro e V3 ⟨bn, bz3, rfl, hz3⟩
     go_wp2_with fail
     refine hK.out _ _ ?_ (fun hHeld => ?_)
     ·exact HS.out _ (bb.trans (bn.mono bb.size))
     clear hK K
     try conv => arg 8; simp only [Act.put, List.setIfInBounds_toArray, List.set_cons_zero, List.set_cons_succ]
     replace bb := bb.trans (bn.mono bb.size)
     clear bn

     obtain rfl : bz3 = false := by
      cases bz3 with
      | false => rfl
      | true => exact absurd (hz3.1 rfl) HN1.out
     refine tkB 14 (v := ?_) (by assumption) ?_ ?_
     rotate_left 1
     ·intro w hSw; (try dsimp only at hSw); go_simp; try with_reducible rfl
     refine tkB 15 (v := ?_) (by assumption) ?_ ?_
     rotate_left 1
     ·intro w hSw; (try dsimp only at hSw); go_simp; try with_reducible rfl
     refine tkB 16 (v := ?_) (by assumption) ?_ ?_
     rotate_left 1
     ·intro w hSw; (try dsimp only at hSw); go_simp; try with_reducible rfl
     refine wpAnyH_done (by kernel_rfl) ?_ _
     have hbl := hd.bl.trans (bb.mono hd.bl.size)
     clear hHeld HS HD1 HD2 HD3 a0 a1 a2 a3 a4 v0 v1 v2 v3 v4 v5 v6 v7 v8 bb hd
     go_wp2
     go_ret
     exact ⟨rfl, hbl⟩


  ·have inn : ¬ (i : Int) < (n1 : Int) := by omega
   have HD1 := Lib.hid fun (W : World) (bW : Below wr.heap.size wr W) => does_c f (fontF gn (madeR (rs.take 3))) 0 u b W (hd.call bW).fFw HSM.out (hd.call bW).fAw hd.l1 hd.l2
   have HD2 := Lib.hid fun (W : World) (bW : Below wr.heap.size wr W) => dDoes_c f (fontF gn (madeR (rs.take 3))) 0 u b W (hd.call bW).fFw HSM.out HXX.out HX3.out (hd.call bW).fAw hd.l1 hd.l2
   have HD3 := Lib.hid fun (W : World) (bW : Below wr.heap.size wr W) => does_c f (fontF gn (madeR (rs.take 3))) 1 u b W (hd.call bW).fFw (fun lk h => by rw [HK1.out] at h; cases h) (hd.call bW).fAw hd.l1 hd.l2
   have HN1 := Lib.hid (show ¬ DoesF (fontF gn (madeR (rs.take 3))) 1 b from fun h => by obtain ⟨_, _, _, h1, _⟩ := h; rw [HK1.out] at h1; cases h1)
   unfold AV.cells at HD1 HD2 HD3
   unfold FV.cells at HD1 HD2 HD3
   have a0 := box_cells hd.ka 0 rfl
   have a1 := box_cells hd.ka 1 rfl
   have a2 := box_cells hd.ka 2 rfl
   have a3 := box_cells hd.ka 3 rfl
   have a4 := box_cells hd.ka 4 rfl
   have v0 := box_cells hd.kf 0 rfl
   have v1 := box_cells hd.kf 1 rfl
   have v2 := box_cells hd.kf 2 rfl
   have v3 := box_cells hd.kf 3 rfl
   have v4 := box_cells hd.kf 4 rfl
   have v5 := box_cells hd.kf 5 rfl
   have v6 := box_cells hd.kf 6 rfl
   have v7 := box_cells hd.kf 7 rfl
   have v8 := box_cells hd.kf 8 rfl
   go_upto_region 10 with fail
   clear hi2 hin hlt inn 
   have HS := Lib.hid fun (W : World) (bW : Below wr.heap.size wr W) => (show W.cell? ⟨gA, 0, none⟩ = some (.slice u.ca u.cn u.cc) ∧ W.cell? ⟨gA, 1, none⟩ = some (.slice u.fa u.fn u.fc) ∧ W.cell? ⟨gA, 2, none⟩ = some (.slice u.ba u.bn u.bc) ∧ W.cell? ⟨gA, 3, none⟩ = some (.slice u.ea u.en u.ec) ∧ W.cell? ⟨gA, 4, none⟩ = some (.slice u.ga u.gn u.gc) ∧ W.cell? ⟨gF, 0, none⟩ = some (.int .i64 f.u0) ∧ W.cell? ⟨gF, 1, none⟩ = some (.slice f.ga f.gn f.gc) ∧ W.cell? ⟨gF, 2, none⟩ = some (.slice f.ca f.cn f.cc) ∧ W.cell? ⟨gF, 3, none⟩ = some (.slice f.la f.ln f.lc) ∧ W.cell? ⟨gF, 4, none⟩ = some (.slice f.a4 f.n4 f.c4) ∧ W.cell? ⟨gF, 5, none⟩ = some (.slice f.a5 f.n5 f.c5) ∧ W.cell? ⟨gF, 6, none⟩ = some (.slice f.a6 f.n6 f.c6) ∧ W.cell? ⟨gF, 7, none⟩ = some (.slice f.a7 f.n7 f.c7) ∧ W.cell? ⟨gF, 8, none⟩ = some (.slice f.a8 f.n8 f.c8) from ⟨cell_call a0 bW, cell_call a1 bW, cell_call a2 bW, cell_call a3 bW, cell_call a4 bW, cell_call v0 bW, cell_call v1 bW, cell_call v2 bW, cell_call v3 bW, cell_call v4 bW, cell_call v5 bW, cell_call v6 bW, cell_call v7 bW, cell_call v8 bW⟩)
   have bb := Below.refl wr.heap.size wr
   refine wp_region_held_drew (S := fun w' => w'.cell? ⟨gA, 0, none⟩ = some (.slice u.ca u.cn u.cc) ∧ w'.cell? ⟨gA, 1, none⟩ = some (.slice u.fa u.fn u.fc) ∧ w'.cell? ⟨gA, 2, none⟩ = some (.slice u.ba u.bn u.bc) ∧ w'.cell? ⟨gA, 3, none⟩ = some (.slice u.ea u.en u.ec) ∧ w'.cell? ⟨gA, 4, none⟩ = some (.slice u.ga u.gn u.gc) ∧ w'.cell? ⟨gF, 0, none⟩ = some (.int .i64 f.u0) ∧ w'.cell? ⟨gF, 1, none⟩ = some (.slice f.ga f.gn f.gc) ∧ w'.cell? ⟨gF, 2, none⟩ = some (.slice f.ca f.cn f.cc) ∧ w'.cell? ⟨gF, 3, none⟩ = some (.slice f.la f.ln f.lc) ∧ w'.cell? ⟨gF, 4, none⟩ = some (.slice f.a4 f.n4 f.c4) ∧ w'.cell? ⟨gF, 5, none⟩ = some (.slice f.a5 f.n5 f.c5) ∧ w'.cell? ⟨gF, 6, none⟩ = some (.slice f.a6 f.n6 f.c6) ∧ w'.cell? ⟨gF, 7, none⟩ = some (.slice f.a7 f.n7 f.c7) ∧ w'.cell? ⟨gF, 8, none⟩ = some (.slice f.a8 f.n8 f.c8)) (by kernel_rfl) ?_ (fun hHeld => ?_)
   ·exact HS.out _ (below_drewN bb 1)
   replace bb := below_drewN bb 1
   change Below _ _ wr.drew at bb
   generalize hw0 : wr.drew = W0 at hHeld bb ⊢
   clear hw0
   refine tkB 0 (v := ?_) (by assumption) ?_ ?_
   rotate_left 1
   ·intro w hSw; (try dsimp only at hSw); go_simp; try with_reducible rfl
   refine tkB 1 (v := ?_) (by assumption) ?_ ?_
   rotate_left 1
   ·intro w hSw; (try dsimp only at hSw); go_simp; try with_reducible rfl
   refine tkB 2 (v := ?_) (by assumption) ?_ ?_
   rotate_left 1
   ·intro w hSw; (try dsimp only at hSw); go_simp; try with_reducible rfl
   refine tkB 3 (v := ?_) (by assumption) ?_ ?_
   rotate_left 1
   ·intro w hSw; (try dsimp only at hSw); go_simp; try with_reducible rfl
   refine tkB 5 (v := ?_) (by assumption) ?_ ?_
   rotate_left 1
   ·intro w hSw; (try dsimp only at hSw); go_simp; try with_reducible rfl
   refine tkB 6 (v := ?_) (by assumption) ?_ ?_
   rotate_left 1
   ·intro w hSw; (try dsimp only at hSw); go_simp; try with_reducible rfl
   refine wpAnyH_ready (rs := [4]) (by kernel_rfl) (by simp) ?_
   refine AllReadyH.cons (by simp only [List.getElem?_toArray]; rfl) (fun K hK => ?_) AllReadyH.nil
   refine wanted_pos (by kernel_rfl) ?_
   go_simp
   clear hHeld
   go_at_call 16
   (with_reducible refine (HD1.out _ bb).mono ?_)
   rintro e V1 ⟨bn, bz1, rfl, hz1⟩
   go_wp2_with fail
   refine hK.out _ _ ?_ (fun hHeld => ?_)
   ·exact HS.out _ (bb.trans (bn.mono bb.size))
   clear hK K
   try conv => arg 8; simp only [Act.put, List.setIfInBounds_toArray, List.set_cons_zero, List.set_cons_succ]
   replace bb := bb.trans (bn.mono bb.size)
   clear bn
   refine wpAnyH_ready (rs := [7]) (by kernel_rfl) (by simp) ?_
   refine AllReadyH.cons (by simp only [List.getElem?_toArray]; rfl) (fun K hK => ?_) AllReadyH.nil
   refine wanted_pos (by kernel_rfl) ?_
   go_simp
   clear hHeld
   go_at_call 30
   (with_reducible refine (HD2.out _ bb).mono ?_)
   rintro e V2 ⟨bn, bz2, rfl, hz2⟩
   go_wp2_with fail
   refine hK.out _ _ ?_ (fun hHeld => ?_)
   ·exact HS.out _ (bb.trans (bn.mono bb.size))
   clear hK K
   try conv => arg 8; simp only [Act.put, List.setIfInBounds_toArray, List.set_cons_zero, List.set_cons_succ]
   replace bb := bb.trans (bn.mono bb.size)
   clear bn

   obtain rfl : bz1 = bz2 := Bool.eq_iff_iff.2 (hz1.trans hz2.symm)
   clear hz1 hz2
   cases bz1 with
   | false =>
    refine tkB 8 (v := ?_) (by assumption) ?_ ?_
    rotate_left 1
    ·intro w hSw; (try dsimp only at hSw); go_simp; try with_reducible rfl
    refine tkB 9 (v := ?_) (by assumption) ?_ ?_
    rotate_left 1
    ·intro w hSw; (try dsimp only at hSw); go_simp; try with_reducible rfl
    refine tkB 10 (v := ?_) (by assumption) ?_ ?_
    rotate_left 1
    ·intro w hSw; (try dsimp only at hSw); go_simp; try with_reducible rfl
    refine tkB 11 (v := ?_) (by assumption) ?_ ?_
    rotate_left 1
    ·intro w hSw; (try dsimp only at hSw); go_simp; try with_reducible rfl
    refine tkB 12 (v := ?_) (by assumption) ?_ ?_
    rotate_left 1
    ·intro w hSw; (try dsimp only at hSw); go_simp; try with_reducible rfl
    refine wpAnyH_ready (rs := [13]) (by kernel_rfl) (by simp) ?_
    refine AllReadyH.cons (by simp only [List.getElem?_toArray]; rfl) (fun K hK => ?_) AllReadyH.nil
    refine wanted_pos (by kernel_rfl) ?_
    go_simp
    clear hHeld
    go_at_call 16
    (with_reducible refine (HD3.out _ bb).mono ?_)
    rintro e V3 ⟨bn, bz3, rfl, hz3⟩
    go_wp2_with fail
    refine hK.out _ _ ?_ (fun hHeld => ?_)
    ·exact HS.out _ (bb.trans (bn.mono bb.size))
    clear hK K
    try conv => arg 8; simp only [Act.put, List.setIfInBounds_toArray, List.set_cons_zero, List.set_cons_succ]
    replace bb := bb.trans (bn.mono bb.size)
    clear bn

    obtain rfl : bz3 = false := by
     cases bz3 with
     | false => rfl
     | true => exact absurd (hz3.1 rfl) HN1.out
    refine tkB 14 (v := ?_) (by assumption) ?_ ?_
    rotate_left 1
    ·intro w hSw; (try dsimp only at hSw); go_simp; try with_reducible rfl
    refine tkB 15 (v := ?_) (by assumption) ?_ ?_
    rotate_left 1
    ·intro w hSw; (try dsimp only at hSw); go_simp; try with_reducible rfl
    refine tkB 16 (v := ?_) (by assumption) ?_ ?_
    rotate_left 1
    ·intro w hSw; (try dsimp only at hSw); go_simp; try with_reducible rfl
    refine wpAnyH_done (by kernel_rfl) ?_ _
    have hbl := hd.bl.trans (bb.mono hd.bl.size)
    clear hHeld HS HD1 HD2 HD3 a0 a1 a2 a3 a4 v0 v1 v2 v3 v4 v5 v6 v7 v8 bb hd
    go_wp2
    go_ret
    exact ⟨rfl, hbl⟩

   | true =>
    refine tkB 8 (v := ?_) (by assumption) ?_ ?_
    rotate_left 1
    ·intro w hSw; (try dsimp only at hSw); go_simp; try with_reducible rfl
    refine tkB 9 (v := ?_) (by assumption) ?_ ?_
    rotate_left 1
    ·intro w hSw; (try dsimp only at hSw); go_simp; try with_reducible rfl
    refine tkB 10 (v := ?_) (by assumption) ?_ ?_
    rotate_left 1
    ·intro w hSw; (try dsimp only at hSw); go_simp; try with_reducible rfl
    refine tkB 11 (v := ?_) (by assumption) ?_ ?_
    rotate_left 1
    ·intro w hSw; (try dsimp only at hSw); go_simp; try with_reducible rfl
    refine tkB 12 (v := ?_) (by assumption) ?_ ?_
    rotate_left 1
    ·intro w hSw; (try dsimp only at hSw); go_simp; try with_reducible rfl
    refine wpAnyH_ready (rs := [13]) (by kernel_rfl) (by simp) ?_
    refine AllReadyH.cons (by simp only [List.getElem?_toArray]; rfl) (fun K hK => ?_) AllReadyH.nil
    refine wanted_pos (by kernel_rfl) ?_
    go_simp
    clear hHeld
    go_at_call 16
    (with_reducible refine (HD3.out _ bb).mono ?_)
    rintro e V3 ⟨bn, bz3, rfl, hz3⟩
    go_wp2_with fail
    refine hK.out _ _ ?_ (fun hHeld => ?_)
    ·exact HS.out _ (bb.trans (bn.mono bb.size))
    clear hK K
    try conv => arg 8; simp only [Act.put, List.setIfInBounds_toArray, List.set_cons_zero, List.set_cons_succ]
    replace bb := bb.trans (bn.mono bb.size)
    clear bn

    obtain rfl : bz3 = false := by
     cases bz3 with
     | false => rfl
     | true => exact absurd (hz3.1 rfl) HN1.out
    refine tkB 14 (v := ?_) (by assumption) ?_ ?_
    rotate_left 1
    ·intro w hSw; (try dsimp only at hSw); go_simp; try with_reducible rfl
    refine tkB 15 (v := ?_) (by assumption) ?_ ?_
    rotate_left 1
    ·intro w hSw; (try dsimp only at hSw); go_simp; try with_reducible rfl
    refine tkB 16 (v := ?_) (by assumption) ?_ ?_
    rotate_left 1
    ·intro w hSw; (try dsimp only at hSw); go_simp; try with_reducible rfl
    refine wpAnyH_done (by kernel_rfl) ?_ _
    have hbl := hd.bl.trans (bb.mono hd.bl.size)
    clear hHeld HS HD1 HD2 HD3 a0 a1 a2 a3 a4 v0 v1 v2 v3 v4 v5 v6 v7 v8 bb hd
    go_wp2
    go_ret
    exact ⟨rfl, hbl⟩




end Go.Proofs.YtgcmedkaadagmaaDoor
