/- Walks: a font of plain numbers, what is behind its regions. -/
import Derived.Test.YtgcmedkaadagmaaDoorTk
import Derived.Test.YtgcmedkaadagmaaDoorYc1
namespace Go.Proofs.YtgcmedkaadagmaaDoor
open Go.RowKit Go.Shelf
abbrev NEW (V W : World) (n : Nat) : Prop := ∃ es : List Value, True ∧ es.length = n ∧ (∀ u ∈ es, u.oneCell' = true) ∧ (0 < 1 → ∃ b o, some (⟨V.heap.size, 0, none⟩ : Addr) = some ⟨b, o, none⟩ ∧ ∀ j u, es[j]? = some u → W.cell? ⟨b, o + j, none⟩ = some u)

set_option maxRecDepth 100000 in
set_option maxHeartbeats 40000000 in
theorem bmade_b (sA : Option Addr) (sn sc : Nat) (xs : List Int) (w : World) : (bmade_a sA sn sc xs w).S := by
 delta bmade_a
 dsimp only
 intro w2 gm rb hb0 kr0 hgr2 HW hg2 r u z0 w3 k1 hk1 z1 z2 z3 u5 u6 u34 u35 u36 u37 u38 u39 u40 u41 u42 u43 u44 u45 u46 u47 u48 u49 u50 u51 u52 u53 u54 u55 u56 u57 u58 u59 u60 u61 u62 u63 u64 A1 n1 c1 hn1 wr hm hgr z4 z5 wc u7 u8 u9 u10 u65 u66 u67 u68 u69 u70 u71 u72 u73 u74 u75 u76 u77 u78 u79 u80 u81 u82 u83 u84 u85 u86 u87 u88 u89 u90 u91 u92 u93 u94 u95 u96 u97 u98 u99 u100 u101 u102 u103 u104 u105 hcut
 obtain ⟨A2, n2, c2, hn2, hm, hgr⟩ := hcut
 generalize hwcr : wc = wr at *
 clear hwcr wc
 clear hk1 hn1
 have HC := Lib.hid (show Calls Tryd.prog 40 #[.pointer (some ⟨gm, 0, none⟩), .int .i64 3] wr (NextR gm 3 wr) from bnext_c gm 3 _ wr (hm) (by omega) (by omega))
 go_wp2_with fail
 refine HC.out.mono ?_
 rintro e w3 ⟨k3, rfl, hk3, hb⟩
 clear HC
 replace hm := hb.st _ hm
 replace hgr := hgr.trans hb.gr
 clear hb
 obtain ⟨wr, hwr⟩ : ∃ x, w3 = x := ⟨_, rfl⟩
 rw [hwr] at hm hgr ⊢
 clear hwr
 go_upto_block 6 with fail
 go_cut [11] from 108 to 129 (fun _ wx => ∃ (A : Option Addr) (n c : Nat), n ≤ k3 ∧ Mk wx gm ((((mz sA sn sc xs u).ax A1 n1 c1).rg A2 n2 c2).fn A n c) ∧ w2.grownBy wx (some gm))
 case first =>
  have hst : FldS 83 1 gm wr wr (((mz sA sn sc xs u).ax A1 n1 c1).rg A2 n2 c2) none 0 0 := FldS.new hm
  have HGRA := Lib.hid hgr
  have hg1 := hm.lt
  clear hm hgr
  obtain ⟨w1, hw1⟩ : ∃ x, wr = x := ⟨_, rfl⟩
  rw [hw1] at hst HGRA hg1 ⊢
  clear hw1 wr
  go_upto_region 22 with fail
  go_loopw [11] (fun iv wr => ∃ (A : Option Addr) (c i : Nat), iv = .int .i64 (i : Int) ∧ i ≤ k3 ∧ FldS 83 1 gm w1 wr ((((mz sA sn sc xs u).ax A1 n1 c1).rg A2 n2 c2).fn A i c) A i c) (fun iv _ => k3 - (intOf iv).toNat)
  case atStart => exact ⟨none, 0, 0, rfl, by omega, hst⟩
  case round =>
   clear hst
   obtain ⟨A, c, i, rfl, hi, hst⟩ := hrel
   by_cases hlt : i < k3
   ·have in0 : (i : Int) < (k3 : Int) := by omega
    go_upto_region 24 with fail
    obtain ⟨a', l', _, hkm, _⟩ := hst.hm
    have y11 := bx hkm 11 rfl
    have z11 := hkm.frozen 11
    have hst5 := hst.up hg1 (Up.loops wr gm 0 (by omega) (by omega))
    clear hkm hst
    go_upto_region 25 with fail
    clear y11 z11
    obtain ⟨wr', hwr'⟩ : ∃ x, wr.setCell ⟨gm, 11, none⟩ (.int .i64 0) = x := ⟨_, rfl⟩
    rw [hwr'] at hst5 ⊢
    clear hwr'
    obtain ⟨wr, hwr⟩ : ∃ x, wr' = x := ⟨_, rfl⟩
    rw [hwr] at hst5 ⊢
    clear hwr
    have hst := hst5
    clear hst5
    have HHX := Lib.hid fun (W : World) (bW : Up gm wr W) => (show Calls Tryd.prog 41 #[.pointer (some ⟨gm, 0, none⟩), .int .i64 6, .int .i64 (i : Int), .int .i64 4] W (InsR gm 36 W) from bhint_c gm 6 i 4 _ W (bW.st _ hst.hm) (by omega) (by omega) (by omega) (by omega))
    have HF := Lib.hid hst
    have hwl := hst.gr.size
    have hwg : gm < wr.heap.size := by omega
    clear hst
    have HS := Lib.hid fun (W : World) (bW : Up gm wr W) => (show Held1 W from held1 _)
    have bb := Up.refl gm wr
    refine wp_region_held_drew (S := fun w' => Held1 w') (by kernel_rfl) ?_ (fun hHeld => ?_)
    ·exact HS.out _ (bb.drewN 1)
    replace bb := bb.drewN 1
    change Up _ _ wr.drew at bb
    generalize hw0 : wr.drew = W0 at hHeld bb ⊢
    clear hw0
    refine tkC 0 ?_
    refine tkC 1 ?_
    refine tkC 2 ?_
    refine tkC 3 ?_
    refine tkC 4 ?_
    refine tkC 6 ?_
    refine tkC 7 ?_
    refine rd2 5 8 (fun K hK => ?_) (fun K hK => ?_)
    ·have yL := (HF.out.up hg1 bb).hm.cell 9 (by decide) rfl
     change W0.cell? ⟨gm, 9, none⟩ = some (.slice A i c) at yL
     refine wy ?_
     go_simp
     clear hHeld
     refine hK.out _ _ (held1 _) fun hHeld => ?_
     clear hK K
     clear yL
     refine rd1 8 fun K hK => ?_
     refine wy ?_
     go_simp
     clear hHeld
     go_at_call 41
     (with_reducible refine (HHX.out _ bb).mono ?_)
     rintro e V1 ⟨hA, hn, hc, hcs, rfl, hhn, hho, hh1, bn⟩
     go_wp2_with fail
     refine hK.out _ _ (HS.out _ (bb.trans bn)) fun hHeld => ?_
     clear hK K
     replace bb := bb.trans bn
     clear bn
     refine rd1 9 fun K hK => ?_
     refine wy ?_
     go_simp
     clear hHeld
     refine hK.out _ _ (HS.out _ (bb.alloc (by have := bb.size; omega) _)) fun hHeld => ?_
     clear hK K
     obtain ⟨V2, hV⟩ := world_of (hHeld)
     obtain ⟨es, hcP, hcl, hc1, hnw⟩ : NEW V1 V2 1 := by
      rw [hV]
      exact ⟨_, trivial, rfl, (by simp [Value.oneCell']), news_new _ _ _⟩
     have bb2 : Up gm wr V2 := by rw [hV]; exact bb.alloc (by have := bb.size; omega) _
     rw [← hV] at hHeld
     rw [← hV]
     clear hV bb
     have bb := bb2
     clear bb2
     refine rd1 10 fun K hK => ?_
     clear hHeld
     have how := (HF.out.up hg1 bb).row.choose_spec
     have hs4 : w1.heap.size ≤ V2.heap.size := by have := bb.size; omega
     refine appStep elt_insl (by kernel_rfl) _ _ rfl V2 (w1.heap.size) _ _ _ (_) _ 1 1 es (by rfl) (by rfl) how (by rw [hcl]) hnw hc1 (by omega) hs4 ?_
     intro A' c' W4 ho4 hg4 hb4 hat4
     obtain ⟨hm4, hp9⟩ := (HF.out.up hg1 bb).push (i := 9) (s' := (((mz sA sn sc xs u).ax A1 n1 c1).rg A2 n2 c2).fn A' (i + 1) c') hg1 ho4 hb4 (fun _ _ => rfl) ⟨rfl, rfl, rfl, rfl⟩
     have g0 := hm4.cell 9 (by decide) rfl
     change W4.cell? ⟨gm, 9, none⟩ = some (.slice A i c) at g0
     have z0 : W4.frozen? ⟨gm, 9, none⟩ = false := by obtain ⟨_, _, _, hk4, _⟩ := hm4; exact hk4.frozen 9
     clear ho4 hg4 hb4 hat4 how hs4 hnw hc1 hcl hcP
     refine hkG hK (held1 _) fun hHeld => ?_
     clear hK K
     refine tkC 11 ?_
     refine tkC 12 ?_
     refine tkC 13 ?_
     refine rd1 14 fun K hK => ?_
     refine wy ?_
     go_simp
     clear hHeld
     refine hK.out _ _ (held1 _) fun hHeld => ?_
     clear hK K
     refine wpAnyH_done (by kernel_rfl) ?_ _
     clear hHeld HS g0 z0 bb
     go_wp2_with fail
     go_roundw
     case rel => exact ⟨A', c', i + 1, by go_num, by omega, hp9⟩
     case measure => simp [intOf] <;> omega





    ·refine wy ?_
     go_simp
     clear hHeld
     go_at_call 41
     (with_reducible refine (HHX.out _ bb).mono ?_)
     rintro e V1 ⟨hA, hn, hc, hcs, rfl, hhn, hho, hh1, bn⟩
     go_wp2_with fail
     refine hK.out _ _ (HS.out _ (bb.trans bn)) fun hHeld => ?_
     clear hK K
     replace bb := bb.trans bn
     clear bn
     refine rd2 5 9 (fun K hK => ?_) (fun K hK => ?_)
     ·have yL := (HF.out.up hg1 bb).hm.cell 9 (by decide) rfl
      change V1.cell? ⟨gm, 9, none⟩ = some (.slice A i c) at yL
      refine wy ?_
      go_simp
      clear hHeld
      refine hK.out _ _ (held1 _) fun hHeld => ?_
      clear hK K
      clear yL
      refine rd1 9 fun K hK => ?_
      refine wy ?_
      go_simp
      clear hHeld
      refine hK.out _ _ (HS.out _ (bb.alloc (by have := bb.size; omega) _)) fun hHeld => ?_
      clear hK K
      obtain ⟨V2, hV⟩ := world_of (hHeld)
      obtain ⟨es, hcP, hcl, hc1, hnw⟩ : NEW V1 V2 1 := by
       rw [hV]
       exact ⟨_, trivial, rfl, (by simp [Value.oneCell']), news_new _ _ _⟩
      have bb2 : Up gm wr V2 := by rw [hV]; exact bb.alloc (by have := bb.size; omega) _
      rw [← hV] at hHeld
      rw [← hV]
      clear hV bb
      have bb := bb2
      clear bb2
      refine rd1 10 fun K hK => ?_
      clear hHeld
      have how := (HF.out.up hg1 bb).row.choose_spec
      have hs4 : w1.heap.size ≤ V2.heap.size := by have := bb.size; omega
      refine appStep elt_insl (by kernel_rfl) _ _ rfl V2 (w1.heap.size) _ _ _ (_) _ 1 1 es (by rfl) (by rfl) how (by rw [hcl]) hnw hc1 (by omega) hs4 ?_
      intro A' c' W4 ho4 hg4 hb4 hat4
      obtain ⟨hm4, hp9⟩ := (HF.out.up hg1 bb).push (i := 9) (s' := (((mz sA sn sc xs u).ax A1 n1 c1).rg A2 n2 c2).fn A' (i + 1) c') hg1 ho4 hb4 (fun _ _ => rfl) ⟨rfl, rfl, rfl, rfl⟩
      have g0 := hm4.cell 9 (by decide) rfl
      change W4.cell? ⟨gm, 9, none⟩ = some (.slice A i c) at g0
      have z0 : W4.frozen? ⟨gm, 9, none⟩ = false := by obtain ⟨_, _, _, hk4, _⟩ := hm4; exact hk4.frozen 9
      clear ho4 hg4 hb4 hat4 how hs4 hnw hc1 hcl hcP
      refine hkG hK (held1 _) fun hHeld => ?_
      clear hK K
      refine tkC 11 ?_
      refine tkC 12 ?_
      refine tkC 13 ?_
      refine rd1 14 fun K hK => ?_
      refine wy ?_
      go_simp
      clear hHeld
      refine hK.out _ _ (held1 _) fun hHeld => ?_
      clear hK K
      refine wpAnyH_done (by kernel_rfl) ?_ _
      clear hHeld HS g0 z0 bb
      go_wp2_with fail
      go_roundw
      case rel => exact ⟨A', c', i + 1, by go_num, by omega, hp9⟩
      case measure => simp [intOf] <;> omega




     ·refine wy ?_
      go_simp
      clear hHeld
      refine hK.out _ _ (HS.out _ (bb.alloc (by have := bb.size; omega) _)) fun hHeld => ?_
      clear hK K
      obtain ⟨V2, hV⟩ := world_of (hHeld)
      obtain ⟨es, hcP, hcl, hc1, hnw⟩ : NEW V1 V2 1 := by
       rw [hV]
       exact ⟨_, trivial, rfl, (by simp [Value.oneCell']), news_new _ _ _⟩
      have bb2 : Up gm wr V2 := by rw [hV]; exact bb.alloc (by have := bb.size; omega) _
      rw [← hV] at hHeld
      rw [← hV]
      clear hV bb
      have bb := bb2
      clear bb2
      refine rd1 5 fun K hK => ?_
      have yL := (HF.out.up hg1 bb).hm.cell 9 (by decide) rfl
      change V2.cell? ⟨gm, 9, none⟩ = some (.slice A i c) at yL
      refine wy ?_
      go_simp
      clear hHeld
      refine hK.out _ _ (held1 _) fun hHeld => ?_
      clear hK K
      clear yL
      refine rd1 10 fun K hK => ?_
      clear hHeld
      have how := (HF.out.up hg1 bb).row.choose_spec
      have hs4 : w1.heap.size ≤ V2.heap.size := by have := bb.size; omega
      refine appStep elt_insl (by kernel_rfl) _ _ rfl V2 (w1.heap.size) _ _ _ (_) _ 1 1 es (by rfl) (by rfl) how (by rw [hcl]) hnw hc1 (by omega) hs4 ?_
      intro A' c' W4 ho4 hg4 hb4 hat4
      obtain ⟨hm4, hp9⟩ := (HF.out.up hg1 bb).push (i := 9) (s' := (((mz sA sn sc xs u).ax A1 n1 c1).rg A2 n2 c2).fn A' (i + 1) c') hg1 ho4 hb4 (fun _ _ => rfl) ⟨rfl, rfl, rfl, rfl⟩
      have g0 := hm4.cell 9 (by decide) rfl
      change W4.cell? ⟨gm, 9, none⟩ = some (.slice A i c) at g0
      have z0 : W4.frozen? ⟨gm, 9, none⟩ = false := by obtain ⟨_, _, _, hk4, _⟩ := hm4; exact hk4.frozen 9
      clear ho4 hg4 hb4 hat4 how hs4 hnw hc1 hcl hcP
      refine hkG hK (held1 _) fun hHeld => ?_
      clear hK K
      refine tkC 11 ?_
      refine tkC 12 ?_
      refine tkC 13 ?_
      refine rd1 14 fun K hK => ?_
      refine wy ?_
      go_simp
      clear hHeld
      refine hK.out _ _ (held1 _) fun hHeld => ?_
      clear hK K
      refine wpAnyH_done (by kernel_rfl) ?_ _
      clear hHeld HS g0 z0 bb
      go_wp2_with fail
      go_roundw
      case rel => exact ⟨A', c', i + 1, by go_num, by omega, hp9⟩
      case measure => simp [intOf] <;> omega
   ·have in0 : ¬ (i : Int) < (k3 : Int) := by omega
    clear hlt
    go_wp2
    go_meet
    exact ⟨A, i, c, hi, hst.hm, HGRA.out.trans hst.gr⟩
 case rest =>
  obtain ⟨A3, n3, c3, hn3, hm, hgr⟩ := hcut
  generalize hwcr : wc = wr at *
  clear hwcr wc
  replace hn3 : n3 ≤ 3 := by omega
  clear hk3
  have HC := Lib.hid (show Calls Tryd.prog 40 #[.pointer (some ⟨gm, 0, none⟩), .int .i64 4] wr (NextR gm 4 wr) from bnext_c gm 4 _ wr (hm) (by omega) (by omega))
  go_wp2_with fail
  refine HC.out.mono ?_
  rintro e w3 ⟨k4, rfl, hk4, hb⟩
  clear HC
  replace hm := hb.st _ hm
  replace hgr := hgr.trans hb.gr
  clear hb
  obtain ⟨wr, hwr⟩ : ∃ x, w3 = x := ⟨_, rfl⟩
  rw [hwr] at hm hgr ⊢
  clear hwr
  go_upto_block 8 with fail
  go_cut [12] from 132 to 150 (fun _ wx => ∃ (A : Option Addr) (n c : Nat), n ≤ k4 ∧ Mk wx gm (((((mz sA sn sc xs u).ax A1 n1 c1).rg A2 n2 c2).fn A3 n3 c3).cv A n c) ∧ w2.grownBy wx (some gm))
  case first =>
   have hst : FldS 3 1 gm wr wr ((((mz sA sn sc xs u).ax A1 n1 c1).rg A2 n2 c2).fn A3 n3 c3) none 0 0 := FldS.new hm
   have HGRA := Lib.hid hgr
   have hg1 := hm.lt
   clear hm hgr
   obtain ⟨w1, hw1⟩ : ∃ x, wr = x := ⟨_, rfl⟩
   rw [hw1] at hst HGRA hg1 ⊢
   clear hw1 wr
   go_upto_region 28 with fail
   go_loopw [12] (fun iv wr => ∃ (A : Option Addr) (c i : Nat), iv = .int .i64 (i : Int) ∧ i ≤ k4 ∧ FldS 3 1 gm w1 wr (((((mz sA sn sc xs u).ax A1 n1 c1).rg A2 n2 c2).fn A3 n3 c3).cv A i c) A i c) (fun iv _ => k4 - (intOf iv).toNat)
   case atStart => exact ⟨none, 0, 0, rfl, by omega, hst⟩
   case round =>
    clear hst
    obtain ⟨A, c, i, rfl, hi, hst⟩ := hrel
    by_cases hlt : i < k4
    ·have in0 : (i : Int) < (k4 : Int) := by omega
     have H500 := Lib.hid fun (W : World) (bW : Up gm wr W) => (show Calls Tryd.prog 40 #[.pointer (some ⟨gm, 0, none⟩), .int .i64 500] W (NextR gm 500 W) from bnext_c gm 500 _ W (bW.st _ hst.hm) (by omega) (by omega))
     have HF := Lib.hid hst
     have hwl := hst.gr.size
     have hwg : gm < wr.heap.size := by omega
     clear hst
     go_upto_region 30 with fail
     have HS := Lib.hid fun (W : World) (bW : Up gm wr W) => (show Held1 W from held1 _)
     have bb := Up.refl gm wr
     refine wp_region_held_drew (S := fun w' => Held1 w') (by kernel_rfl) ?_ (fun hHeld => ?_)
     ·exact HS.out _ (bb.drewN 1)
     replace bb := bb.drewN 1
     change Up _ _ wr.drew at bb
     generalize hw0 : wr.drew = W0 at hHeld bb ⊢
     clear hw0
     refine tkC 0 ?_
     refine tkC 1 ?_
     refine tkC 2 ?_
     refine tkC 3 ?_
     refine tkC 4 ?_
     refine tkC 6 ?_
     refine rd2 5 7 (fun K hK => ?_) (fun K hK => ?_)
     ·have yL := (HF.out.up hg1 bb).hm.cell 10 (by decide) rfl
      change W0.cell? ⟨gm, 10, none⟩ = some (.slice A i c) at yL
      refine wy ?_
      go_simp
      clear hHeld
      refine hK.out _ _ (held1 _) fun hHeld => ?_
      clear hK K
      clear yL
      refine rd1 7 fun K hK => ?_
      refine wy ?_
      go_simp
      clear hHeld
      go_at_call 40
      (with_reducible refine (H500.out _ bb).mono ?_)
      rintro e V1 ⟨r2, rfl, hr2, bn⟩
      go_wp2_with fail
      refine hK.out _ _ (HS.out _ (bb.trans bn)) fun hHeld => ?_
      clear hK K
      replace bb := bb.trans bn
      clear bn
      refine tkC 8 ?_
      refine rd1 9 fun K hK => ?_
      refine wy ?_
      go_simp
      clear hHeld
      refine hK.out _ _ (HS.out _ (bb.alloc (by have := bb.size; omega) _)) fun hHeld => ?_
      clear hK K
      obtain ⟨V2, hV⟩ := world_of (hHeld)
      obtain ⟨es, hcP, hcl, hc1, hnw⟩ : NEW V1 V2 1 := by
       rw [hV]
       exact ⟨_, trivial, rfl, (by simp [Value.oneCell']), news_new _ _ _⟩
      have bb2 : Up gm wr V2 := by rw [hV]; exact bb.alloc (by have := bb.size; omega) _
      rw [← hV] at hHeld
      rw [← hV]
      clear hV bb
      have bb := bb2
      clear bb2
      refine rd1 10 fun K hK => ?_
      clear hHeld
      have how := (HF.out.up hg1 bb).row.choose_spec
      have hs4 : w1.heap.size ≤ V2.heap.size := by have := bb.size; omega
      refine appStep elt_int (by kernel_rfl) _ _ rfl V2 (w1.heap.size) _ _ _ (_) _ 1 1 es (by rfl) (by rfl) how (by rw [hcl]) hnw hc1 (by omega) hs4 ?_
      intro A' c' W4 ho4 hg4 hb4 hat4
      obtain ⟨hm4, hp9⟩ := (HF.out.up hg1 bb).push (i := 10) (s' := ((((mz sA sn sc xs u).ax A1 n1 c1).rg A2 n2 c2).fn A3 n3 c3).cv A' (i + 1) c') hg1 ho4 hb4 (fun _ _ => rfl) ⟨rfl, rfl, rfl, rfl⟩
      have g0 := hm4.cell 10 (by decide) rfl
      change W4.cell? ⟨gm, 10, none⟩ = some (.slice A i c) at g0
      have z0 : W4.frozen? ⟨gm, 10, none⟩ = false := by obtain ⟨_, _, _, hk4, _⟩ := hm4; exact hk4.frozen 10
      clear ho4 hg4 hb4 hat4 how hs4 hnw hc1 hcl hcP
      refine hkG hK (held1 _) fun hHeld => ?_
      clear hK K
      refine tkC 11 ?_
      refine tkC 12 ?_
      refine tkC 13 ?_
      refine rd1 14 fun K hK => ?_
      refine wy ?_
      go_simp
      clear hHeld
      refine hK.out _ _ (held1 _) fun hHeld => ?_
      clear hK K
      refine wpAnyH_done (by kernel_rfl) ?_ _
      clear hHeld HS g0 z0 bb
      go_wp2_with fail
      go_roundw
      case rel => exact ⟨A', c', i + 1, by go_num, by omega, hp9⟩
      case measure => simp [intOf] <;> omega





     ·refine wy ?_
      go_simp
      clear hHeld
      go_at_call 40
      (with_reducible refine (H500.out _ bb).mono ?_)
      rintro e V1 ⟨r2, rfl, hr2, bn⟩
      go_wp2_with fail
      refine hK.out _ _ (HS.out _ (bb.trans bn)) fun hHeld => ?_
      clear hK K
      replace bb := bb.trans bn
      clear bn
      refine tkC 8 ?_
      refine rd2 5 9 (fun K hK => ?_) (fun K hK => ?_)
      ·have yL := (HF.out.up hg1 bb).hm.cell 10 (by decide) rfl
       change V1.cell? ⟨gm, 10, none⟩ = some (.slice A i c) at yL
       refine wy ?_
       go_simp
       clear hHeld
       refine hK.out _ _ (held1 _) fun hHeld => ?_
       clear hK K
       clear yL
       refine rd1 9 fun K hK => ?_
       refine wy ?_
       go_simp
       clear hHeld
       refine hK.out _ _ (HS.out _ (bb.alloc (by have := bb.size; omega) _)) fun hHeld => ?_
       clear hK K
       obtain ⟨V2, hV⟩ := world_of (hHeld)
       obtain ⟨es, hcP, hcl, hc1, hnw⟩ : NEW V1 V2 1 := by
        rw [hV]
        exact ⟨_, trivial, rfl, (by simp [Value.oneCell']), news_new _ _ _⟩
       have bb2 : Up gm wr V2 := by rw [hV]; exact bb.alloc (by have := bb.size; omega) _
       rw [← hV] at hHeld
       rw [← hV]
       clear hV bb
       have bb := bb2
       clear bb2
       refine rd1 10 fun K hK => ?_
       clear hHeld
       have how := (HF.out.up hg1 bb).row.choose_spec
       have hs4 : w1.heap.size ≤ V2.heap.size := by have := bb.size; omega
       refine appStep elt_int (by kernel_rfl) _ _ rfl V2 (w1.heap.size) _ _ _ (_) _ 1 1 es (by rfl) (by rfl) how (by rw [hcl]) hnw hc1 (by omega) hs4 ?_
       intro A' c' W4 ho4 hg4 hb4 hat4
       obtain ⟨hm4, hp9⟩ := (HF.out.up hg1 bb).push (i := 10) (s' := ((((mz sA sn sc xs u).ax A1 n1 c1).rg A2 n2 c2).fn A3 n3 c3).cv A' (i + 1) c') hg1 ho4 hb4 (fun _ _ => rfl) ⟨rfl, rfl, rfl, rfl⟩
       have g0 := hm4.cell 10 (by decide) rfl
       change W4.cell? ⟨gm, 10, none⟩ = some (.slice A i c) at g0
       have z0 : W4.frozen? ⟨gm, 10, none⟩ = false := by obtain ⟨_, _, _, hk4, _⟩ := hm4; exact hk4.frozen 10
       clear ho4 hg4 hb4 hat4 how hs4 hnw hc1 hcl hcP
       refine hkG hK (held1 _) fun hHeld => ?_
       clear hK K
       refine tkC 11 ?_
       refine tkC 12 ?_
       refine tkC 13 ?_
       refine rd1 14 fun K hK => ?_
       refine wy ?_
       go_simp
       clear hHeld
       refine hK.out _ _ (held1 _) fun hHeld => ?_
       clear hK K
       refine wpAnyH_done (by kernel_rfl) ?_ _
       clear hHeld HS g0 z0 bb
       go_wp2_with fail
       go_roundw
       case rel => exact ⟨A', c', i + 1, by go_num, by omega, hp9⟩
       case measure => simp [intOf] <;> omega




      ·refine wy ?_
       go_simp
       clear hHeld
       refine hK.out _ _ (HS.out _ (bb.alloc (by have := bb.size; omega) _)) fun hHeld => ?_
       clear hK K
       obtain ⟨V2, hV⟩ := world_of (hHeld)
       obtain ⟨es, hcP, hcl, hc1, hnw⟩ : NEW V1 V2 1 := by
        rw [hV]
        exact ⟨_, trivial, rfl, (by simp [Value.oneCell']), news_new _ _ _⟩
       have bb2 : Up gm wr V2 := by rw [hV]; exact bb.alloc (by have := bb.size; omega) _
       rw [← hV] at hHeld
       rw [← hV]
       clear hV bb
       have bb := bb2
       clear bb2
       refine rd1 5 fun K hK => ?_
       have yL := (HF.out.up hg1 bb).hm.cell 10 (by decide) rfl
       change V2.cell? ⟨gm, 10, none⟩ = some (.slice A i c) at yL
       refine wy ?_
       go_simp
       clear hHeld
       refine hK.out _ _ (held1 _) fun hHeld => ?_
       clear hK K
       clear yL
       refine rd1 10 fun K hK => ?_
       clear hHeld
       have how := (HF.out.up hg1 bb).row.choose_spec
       have hs4 : w1.heap.size ≤ V2.heap.size := by have := bb.size; omega
       refine appStep elt_int (by kernel_rfl) _ _ rfl V2 (w1.heap.size) _ _ _ (_) _ 1 1 es (by rfl) (by rfl) how (by rw [hcl]) hnw hc1 (by omega) hs4 ?_
       intro A' c' W4 ho4 hg4 hb4 hat4
       obtain ⟨hm4, hp9⟩ := (HF.out.up hg1 bb).push (i := 10) (s' := ((((mz sA sn sc xs u).ax A1 n1 c1).rg A2 n2 c2).fn A3 n3 c3).cv A' (i + 1) c') hg1 ho4 hb4 (fun _ _ => rfl) ⟨rfl, rfl, rfl, rfl⟩
       have g0 := hm4.cell 10 (by decide) rfl
       change W4.cell? ⟨gm, 10, none⟩ = some (.slice A i c) at g0
       have z0 : W4.frozen? ⟨gm, 10, none⟩ = false := by obtain ⟨_, _, _, hk4, _⟩ := hm4; exact hk4.frozen 10
       clear ho4 hg4 hb4 hat4 how hs4 hnw hc1 hcl hcP
       refine hkG hK (held1 _) fun hHeld => ?_
       clear hK K
       refine tkC 11 ?_
       refine tkC 12 ?_
       refine tkC 13 ?_
       refine rd1 14 fun K hK => ?_
       refine wy ?_
       go_simp
       clear hHeld
       refine hK.out _ _ (held1 _) fun hHeld => ?_
       clear hK K
       refine wpAnyH_done (by kernel_rfl) ?_ _
       clear hHeld HS g0 z0 bb
       go_wp2_with fail
       go_roundw
       case rel => exact ⟨A', c', i + 1, by go_num, by omega, hp9⟩
       case measure => simp [intOf] <;> omega
    ·have in0 : ¬ (i : Int) < (k4 : Int) := by omega
     clear hlt
     go_wp2
     go_meet
     exact ⟨A, i, c, hi, hst.hm, HGRA.out.trans hst.gr⟩
  case rest =>
   obtain ⟨A4, n4, c4, hn4, hm, hgr⟩ := hcut
   generalize hwcr : wc = wr at *
   clear hwcr wc
   clear hk4 hn4
   have HC := Lib.hid (show Calls Tryd.prog 40 #[.pointer (some ⟨gm, 0, none⟩), .int .i64 9] wr (NextR gm 9 wr) from bnext_c gm 9 _ wr (hm) (by omega) (by omega))
   go_wp2_with fail
   refine HC.out.mono ?_
   rintro e w3 ⟨k5, rfl, hk5, hb⟩
   clear HC
   replace hm := hb.st _ hm
   replace hgr := hgr.trans hb.gr
   clear hb
   obtain ⟨wr, hwr⟩ : ∃ x, w3 = x := ⟨_, rfl⟩
   rw [hwr] at hm hgr ⊢
   clear hwr
   go_upto_block 10 with fail
   go_cut [13] from 154 to 161 (fun _ wx => ∃ (A : Option Addr) (n c : Nat) (gs : List Gly), 2 ≤ n ∧ n ≤ 10 ∧ Hd n c ∧ Mk wx gm ((((((mz sA sn sc xs u).ax A1 n1 c1).rg A2 n2 c2).fn A3 n3 c3).cv A4 n4 c4).gl A n c) ∧ RdG wx (fun b => gm < b ∧ b < wx.heap.size) A n gs ∧ w2.grownBy wx (some gm))
   case first =>
    have HGRA := Lib.hid hgr
    have hg1 := hm.lt
    obtain ⟨w1, hw1⟩ : ∃ x, wr = x := ⟨_, rfl⟩
    rw [hw1] at hm HGRA hg1 ⊢
    have hm0 := hm
    have hrow0 := Rg.nil 85 9 EGlb w1 w1.heap.size (bl none)
    have hgr0 := World.grownBy.refl w1 (some gm)
    clear hw1 hgr hm wr
    go_upto_region 33 with fail
    go_loopw [13] (fun iv wr => ∃ (A : Option Addr) (c i : Nat) (css : List (List Value)) (gs : List Gly), iv = .int .i64 (i : Int) ∧ i ≤ 2 + k5 ∧ Mk wr gm ((((((mz sA sn sc xs u).ax A1 n1 c1).rg A2 n2 c2).fn A3 n3 c3).cv A4 n4 c4).gl A i c) ∧ Rg 85 9 EGlb wr w1.heap.size (bl A) A i c css gs ∧ w1.grownBy wr (some gm)) (fun iv _ => 2 + k5 - (intOf iv).toNat)
    case atStart => exact ⟨none, 0, 0, [], [], rfl, by omega, hm0, hrow0, hgr0⟩
    case round =>
     clear hrow0 hm0 hgr0
     obtain ⟨A, c, i, css, gs, rfl, hi, hm, hrow, hgr⟩ := hrel
     by_cases hlt : i < 2 + k5
     ·have in0 : (i : Int) < 2 + (k5 : Int) := by omega
      have HC := Lib.hid (bglyph_c gm i ((((((mz sA sn sc xs u).ax A1 n1 c1).rg A2 n2 c2).fn A3 n3 c3).cv A4 n4 c4).gl A i c) w1 wr css gs hm hg1 hrow hgr (by omega) (by show n2 ≤ 1000; omega) (by show n3 ≤ 1000; omega) (by show i ≤ 1000; omega))
      clear hm hrow hgr
      go_wp2_with fail
      refine HC.out.mono ?_
      rintro e w5 ⟨A', c', css', gs', rfl, hm5, hrow5, hgr5⟩
      clear HC
      go_wp2_with fail
      go_roundw
      case rel => exact ⟨A', c', i + 1, css', gs', by go_num, by omega, hm5, hrow5, hgr5⟩
      case measure => simp [intOf] <;> omega
     ·have in0 : ¬ (i : Int) < 2 + (k5 : Int) := by omega
      have hi2 : 2 ≤ i ∧ i ≤ 10 := by omega
      clear hlt
      go_wp2
      go_meet
      exact ⟨A, i, c, gs, hi2.1, hi2.2, hrow.ow.cap, hm, (rdG_of hrow).mono (fun b hb => ⟨by have := hb.1; omega, hb.2⟩) (Kept.refl _ _), HGRA.out.trans hgr⟩
   case rest =>
    obtain ⟨A5, n5, c5, gs, hn5, hn5', hd5, hm, hgl, hgr⟩ := hcut
    generalize hwcr : wc = wr at *
    clear hwcr wc
    clear hk5
    have HC := Lib.hid (bRunes_c wr)
    go_wp2_with fail
    refine HC.out.mono ?_
    rintro e w3 ⟨rfl, e3⟩
    clear HC
    have hu3 : Up gm wr w3 := by rw [e3]; exact (Up.refl gm wr).alloc hm.lt _
    have kl : Bk w3 wr.heap.size 3 #[.int .i64 97, .int .i64 98, .int .i64 99, .int .i64 102, .int .i64 105, .int .i64 108, .int .i64 57345, .int .i64 57346, .int .i64 57601, .int .i64 57602, .int .i64 57603, .int .i64 57857, .int .i64 57861, .int .i64 58113, .int .i64 58114, .int .i64 58369] := by rw [e3]; exact Bk.new _ _ _
    have hlg := hm.lt
    replace hm := hu3.st _ hm
    replace hgl := rdG_gr hgl hu3.gr
    replace hgr := hgr.trans hu3.gr
    clear hu3 e3
    obtain ⟨lb, hlb⟩ : ∃ x, wr.heap.size = x := ⟨_, rfl⟩
    rw [hlb] at kl hlg ⊢
    clear hlb wr
    obtain ⟨wr, hwr⟩ : ∃ x, w3 = x := ⟨_, rfl⟩
    rw [hwr] at hm hgl hgr kl ⊢
    clear hwr w3
    go_upto_block 12 with fail
    go_cut [15] from 163 to 195 (fun _ wx => ∃ (A : Option Addr) (n c : Nat), Mk wx gm (((((((mz sA sn sc xs u).ax A1 n1 c1).rg A2 n2 c2).fn A3 n3 c3).cv A4 n4 c4).gl A5 n5 c5).ch A n c) ∧ RdG wx (fun b => gm < b ∧ b < wx.heap.size) A5 n5 gs ∧ w2.grownBy wx (some gm))
    case first =>
     have HGL := Lib.hid hgl
     have hst : FldS 116 2 gm wr wr ((((((mz sA sn sc xs u).ax A1 n1 c1).rg A2 n2 c2).fn A3 n3 c3).cv A4 n4 c4).gl A5 n5 c5) none 0 0 := FldS.new hm
     clear hgl
     have HGRA := Lib.hid hgr
     have hg1 := hm.lt
     clear hm hgr
     obtain ⟨w1, hw1⟩ : ∃ x, wr = x := ⟨_, rfl⟩
     rw [hw1] at hst kl HGL HGRA hg1 ⊢
     clear hw1 wr
     go_upto_region 38 with fail
     go_loopw [15] (fun iv wr => ∃ (A : Option Addr) (c n i : Nat), iv = .int .i64 (i : Int) ∧ i ≤ 16 ∧ n ≤ i ∧ FldS 116 2 gm w1 wr (((((((mz sA sn sc xs u).ax A1 n1 c1).rg A2 n2 c2).fn A3 n3 c3).cv A4 n4 c4).gl A5 n5 c5).ch A n c) A n c ∧ Bk wr lb 3 #[.int .i64 97, .int .i64 98, .int .i64 99, .int .i64 102, .int .i64 105, .int .i64 108, .int .i64 57345, .int .i64 57346, .int .i64 57601, .int .i64 57602, .int .i64 57603, .int .i64 57857, .int .i64 57861, .int .i64 58113, .int .i64 58114, .int .i64 58369]) (fun iv _ => 16 - (intOf iv).toNat)
     case atStart => exact ⟨none, 0, 0, 0, rfl, by omega, by omega, hst, kl⟩
     case round =>
      clear hst kl
      obtain ⟨A, c, n, i, rfl, hi, hni, hst, kl⟩ := hrel
      by_cases hlt : i < 16
      ·have in0 : (i : Int) < 16 := by omega
       obtain ⟨ru, hru⟩ := runes_at lb i hlt
       have HRU := Lib.hid hru
       clear hru
       have HC := Lib.hid (show Calls Tryd.prog 40 #[.pointer (some ⟨gm, 0, none⟩), .int .i64 4] wr (NextR gm 4 wr) from bnext_c gm 4 _ wr (hst.hm) (by omega) (by omega))
       go_wp2_with fail
       refine HC.out.mono ?_
       rintro e w3 ⟨r, rfl, hr, hb⟩
       clear HC
       replace hst := hst.up hg1 hb
       replace kl := hb.bk kl (by omega)
       clear hb
       obtain ⟨wr, hwr⟩ : ∃ x, w3 = x := ⟨_, rfl⟩
       rw [hwr] at hst kl ⊢
       clear hwr
       by_cases hr0 : 0 < r
       ·have r0 : (0 : Int) < (r : Int) := by omega
        have tr : decide ((0 : Int) < (r : Int)) = true := decide_eq_true r0
        have tr' : decide (0 < r) = true := decide_eq_true hr0
        go_upto_region 41 with fail
        clear tr tr' r0
        have HNG := Lib.hid fun (W : World) (bW : Up gm wr W) => (show Calls Tryd.prog 40 #[.pointer (some ⟨gm, 0, none⟩), .int .i64 (n5 : Int)] W (NextR gm n5 W) from bnext_c gm n5 _ W (bW.st _ hst.hm) (by omega) (by omega))
        have HKB := Lib.hid kl
        have HF := Lib.hid hst
        have hwl := hst.gr.size
        have hwg : gm < wr.heap.size := by omega
        clear hst kl
        have i00 : (0 : Int) ≤ (i : Int) := by omega
        have i16 : (i : Int) < 16 := by omega
        have HS := Lib.hid fun (W : World) (bW : Up gm wr W) => (show Held1 W ∧ W.cell? ⟨lb, i, none⟩ = some (.int .i64 ru) ∧ W.cell? ⟨gm, 3, none⟩ = some (.slice A5 n5 c5) from ⟨held1 _, HRU.out W (bW.bk HKB.out (by omega)), (bW.st _ HF.out.hm).cell 3 (by decide) rfl⟩)
        have bb := Up.refl gm wr
        refine wp_region_held_drew (S := fun w' => Held1 w' ∧ w'.cell? ⟨lb, i, none⟩ = some (.int .i64 ru) ∧ w'.cell? ⟨gm, 3, none⟩ = some (.slice A5 n5 c5)) (by kernel_rfl) ?_ (fun hHeld => ?_)
        ·exact HS.out _ (bb.drewN 1)
        replace bb := bb.drewN 1
        change Up _ _ wr.drew at bb
        generalize hw0 : wr.drew = W0 at hHeld bb ⊢
        clear hw0
        refine tkC 0 ?_
        refine tkC 1 ?_
        refine tkC 2 ?_
        refine tkC 3 ?_
        refine tkC 4 ?_
        refine tkC 6 ?_
        refine tkC 7 ?_
        refine tkC 8 ?_
        refine tkC 9 ?_
        refine tkC 10 ?_
        refine tkC 11 ?_
        refine tkC 12 ?_
        refine tkC 13 ?_
        refine tkC 14 ?_
        refine tkC 15 ?_
        refine tkC 16 ?_
        refine rd2 5 17 (fun K hK => ?_) (fun K hK => ?_)
        ·have yL := (HF.out.up hg1 bb).hm.cell 4 (by decide) rfl
         change W0.cell? ⟨gm, 4, none⟩ = some (.slice A n c) at yL
         refine wy ?_
         go_simp
         clear hHeld
         refine hK.out _ _ (HS.out _ bb) fun hHeld => ?_
         clear hK K
         clear yL
         refine rd1 17 fun K hK => ?_
         refine wy ?_
         go_simp
         clear hHeld
         go_at_call 40
         (with_reducible refine (HNG.out _ bb).mono ?_)
         rintro e V1 ⟨r2, rfl, hr2, bn⟩
         go_wp2_with fail
         refine hK.out _ _ (HS.out _ (bb.trans bn)) fun hHeld => ?_
         clear hK K
         replace bb := bb.trans bn
         clear bn
         refine tkC 18 ?_
         refine rd1 19 fun K hK => ?_
         refine wy ?_
         go_simp
         clear hHeld
         refine hK.out _ _ (HS.out _ (bb.alloc (by have := bb.size; omega) _)) fun hHeld => ?_
         clear hK K
         obtain ⟨V2, hV⟩ := world_of (hHeld.1)
         obtain ⟨es, hcP, hcl, hc1, hnw⟩ : NEW V1 V2 2 := by
          rw [hV]
          exact ⟨_, trivial, rfl, (by simp [Value.oneCell']), news_new _ _ _⟩
         have bb2 : Up gm wr V2 := by rw [hV]; exact bb.alloc (by have := bb.size; omega) _
         rw [← hV] at hHeld
         rw [← hV]
         clear hV bb
         have bb := bb2
         clear bb2
         refine rd1 20 fun K hK => ?_
         clear hHeld
         have how := (HF.out.up hg1 bb).row.choose_spec
         have hs4 : w1.heap.size ≤ V2.heap.size := by have := bb.size; omega
         refine appStep elt_char (by kernel_rfl) _ _ rfl V2 (w1.heap.size) _ _ _ (_) _ 1 1 es (by rfl) (by rfl) how (by rw [hcl]) hnw hc1 (by omega) hs4 ?_
         intro A' c' W4 ho4 hg4 hb4 hat4
         obtain ⟨hm4, hp9⟩ := (HF.out.up hg1 bb).push (i := 4) (s' := ((((((mz sA sn sc xs u).ax A1 n1 c1).rg A2 n2 c2).fn A3 n3 c3).cv A4 n4 c4).gl A5 n5 c5).ch A' (n + 1) c') hg1 ho4 hb4 (fun _ _ => rfl) ⟨rfl, rfl, rfl, rfl⟩
         have g0 := hm4.cell 4 (by decide) rfl
         change W4.cell? ⟨gm, 4, none⟩ = some (.slice A n c) at g0
         have z0 : W4.frozen? ⟨gm, 4, none⟩ = false := by obtain ⟨_, _, _, hk4, _⟩ := hm4; exact hk4.frozen 4
         have kb4 : Bk W4 lb 3 #[.int .i64 97, .int .i64 98, .int .i64 99, .int .i64 102, .int .i64 105, .int .i64 108, .int .i64 57345, .int .i64 57346, .int .i64 57601, .int .i64 57602, .int .i64 57603, .int .i64 57857, .int .i64 57861, .int .i64 58113, .int .i64 58114, .int .i64 58369] := (bb.bk HKB.out (by omega)).grown hg4 ((bb.bk HKB.out (by omega)).ne_own (by decide) how)
         clear ho4 hg4 hb4 hat4 how hs4 hnw hc1 hcl hcP
         refine hkG hK (⟨held1 _, HRU.out _ kb4, hm4.cell 3 (by decide) rfl⟩) fun hHeld => ?_
         clear hK K
         refine tkC 21 ?_
         refine tkC 22 ?_
         refine tkC 23 ?_
         refine rd1 24 fun K hK => ?_
         have kb5 := fun y => kb4.far (p := ⟨gm, 4, none⟩) (by show lb ≠ gm; omega) y
         refine wy ?_
         go_simp
         clear hHeld
         refine hK.out _ _ (⟨held1 _, HRU.out _ (kb5 _), hp9.hm.cell 3 (by decide) rfl⟩) fun hHeld => ?_
         clear hK K
         refine wpAnyH_done (by kernel_rfl) ?_ _
         clear hHeld HS g0 z0 bb kb4 hm4
         go_wp2_with fail
         go_roundw
         case rel => exact ⟨A', c', n + 1, i + 1, by go_num, by omega, by omega, hp9, kb5 _⟩
         case measure => simp [intOf] <;> omega





        ·refine wy ?_
         go_simp
         clear hHeld
         go_at_call 40
         (with_reducible refine (HNG.out _ bb).mono ?_)
         rintro e V1 ⟨r2, rfl, hr2, bn⟩
         go_wp2_with fail
         refine hK.out _ _ (HS.out _ (bb.trans bn)) fun hHeld => ?_
         clear hK K
         replace bb := bb.trans bn
         clear bn
         refine tkC 18 ?_
         refine rd2 5 19 (fun K hK => ?_) (fun K hK => ?_)
         ·have yL := (HF.out.up hg1 bb).hm.cell 4 (by decide) rfl
          change V1.cell? ⟨gm, 4, none⟩ = some (.slice A n c) at yL
          refine wy ?_
          go_simp
          clear hHeld
          refine hK.out _ _ (HS.out _ bb) fun hHeld => ?_
          clear hK K
          clear yL
          refine rd1 19 fun K hK => ?_
          refine wy ?_
          go_simp
          clear hHeld
          refine hK.out _ _ (HS.out _ (bb.alloc (by have := bb.size; omega) _)) fun hHeld => ?_
          clear hK K
          obtain ⟨V2, hV⟩ := world_of (hHeld.1)
          obtain ⟨es, hcP, hcl, hc1, hnw⟩ : NEW V1 V2 2 := by
           rw [hV]
           exact ⟨_, trivial, rfl, (by simp [Value.oneCell']), news_new _ _ _⟩
          have bb2 : Up gm wr V2 := by rw [hV]; exact bb.alloc (by have := bb.size; omega) _
          rw [← hV] at hHeld
          rw [← hV]
          clear hV bb
          have bb := bb2
          clear bb2
          refine rd1 20 fun K hK => ?_
          clear hHeld
          have how := (HF.out.up hg1 bb).row.choose_spec
          have hs4 : w1.heap.size ≤ V2.heap.size := by have := bb.size; omega
          refine appStep elt_char (by kernel_rfl) _ _ rfl V2 (w1.heap.size) _ _ _ (_) _ 1 1 es (by rfl) (by rfl) how (by rw [hcl]) hnw hc1 (by omega) hs4 ?_
          intro A' c' W4 ho4 hg4 hb4 hat4
          obtain ⟨hm4, hp9⟩ := (HF.out.up hg1 bb).push (i := 4) (s' := ((((((mz sA sn sc xs u).ax A1 n1 c1).rg A2 n2 c2).fn A3 n3 c3).cv A4 n4 c4).gl A5 n5 c5).ch A' (n + 1) c') hg1 ho4 hb4 (fun _ _ => rfl) ⟨rfl, rfl, rfl, rfl⟩
          have g0 := hm4.cell 4 (by decide) rfl
          change W4.cell? ⟨gm, 4, none⟩ = some (.slice A n c) at g0
          have z0 : W4.frozen? ⟨gm, 4, none⟩ = false := by obtain ⟨_, _, _, hk4, _⟩ := hm4; exact hk4.frozen 4
          have kb4 : Bk W4 lb 3 #[.int .i64 97, .int .i64 98, .int .i64 99, .int .i64 102, .int .i64 105, .int .i64 108, .int .i64 57345, .int .i64 57346, .int .i64 57601, .int .i64 57602, .int .i64 57603, .int .i64 57857, .int .i64 57861, .int .i64 58113, .int .i64 58114, .int .i64 58369] := (bb.bk HKB.out (by omega)).grown hg4 ((bb.bk HKB.out (by omega)).ne_own (by decide) how)
          clear ho4 hg4 hb4 hat4 how hs4 hnw hc1 hcl hcP
          refine hkG hK (⟨held1 _, HRU.out _ kb4, hm4.cell 3 (by decide) rfl⟩) fun hHeld => ?_
          clear hK K
          refine tkC 21 ?_
          refine tkC 22 ?_
          refine tkC 23 ?_
          refine rd1 24 fun K hK => ?_
          have kb5 := fun y => kb4.far (p := ⟨gm, 4, none⟩) (by show lb ≠ gm; omega) y
          refine wy ?_
          go_simp
          clear hHeld
          refine hK.out _ _ (⟨held1 _, HRU.out _ (kb5 _), hp9.hm.cell 3 (by decide) rfl⟩) fun hHeld => ?_
          clear hK K
          refine wpAnyH_done (by kernel_rfl) ?_ _
          clear hHeld HS g0 z0 bb kb4 hm4
          go_wp2_with fail
          go_roundw
          case rel => exact ⟨A', c', n + 1, i + 1, by go_num, by omega, by omega, hp9, kb5 _⟩
          case measure => simp [intOf] <;> omega




         ·refine wy ?_
          go_simp
          clear hHeld
          refine hK.out _ _ (HS.out _ (bb.alloc (by have := bb.size; omega) _)) fun hHeld => ?_
          clear hK K
          obtain ⟨V2, hV⟩ := world_of (hHeld.1)
          obtain ⟨es, hcP, hcl, hc1, hnw⟩ : NEW V1 V2 2 := by
           rw [hV]
           exact ⟨_, trivial, rfl, (by simp [Value.oneCell']), news_new _ _ _⟩
          have bb2 : Up gm wr V2 := by rw [hV]; exact bb.alloc (by have := bb.size; omega) _
          rw [← hV] at hHeld
          rw [← hV]
          clear hV bb
          have bb := bb2
          clear bb2
          refine rd1 5 fun K hK => ?_
          have yL := (HF.out.up hg1 bb).hm.cell 4 (by decide) rfl
          change V2.cell? ⟨gm, 4, none⟩ = some (.slice A n c) at yL
          refine wy ?_
          go_simp
          clear hHeld
          refine hK.out _ _ (HS.out _ bb) fun hHeld => ?_
          clear hK K
          clear yL
          refine rd1 20 fun K hK => ?_
          clear hHeld
          have how := (HF.out.up hg1 bb).row.choose_spec
          have hs4 : w1.heap.size ≤ V2.heap.size := by have := bb.size; omega
          refine appStep elt_char (by kernel_rfl) _ _ rfl V2 (w1.heap.size) _ _ _ (_) _ 1 1 es (by rfl) (by rfl) how (by rw [hcl]) hnw hc1 (by omega) hs4 ?_
          intro A' c' W4 ho4 hg4 hb4 hat4
          obtain ⟨hm4, hp9⟩ := (HF.out.up hg1 bb).push (i := 4) (s' := ((((((mz sA sn sc xs u).ax A1 n1 c1).rg A2 n2 c2).fn A3 n3 c3).cv A4 n4 c4).gl A5 n5 c5).ch A' (n + 1) c') hg1 ho4 hb4 (fun _ _ => rfl) ⟨rfl, rfl, rfl, rfl⟩
          have g0 := hm4.cell 4 (by decide) rfl
          change W4.cell? ⟨gm, 4, none⟩ = some (.slice A n c) at g0
          have z0 : W4.frozen? ⟨gm, 4, none⟩ = false := by obtain ⟨_, _, _, hk4, _⟩ := hm4; exact hk4.frozen 4
          have kb4 : Bk W4 lb 3 #[.int .i64 97, .int .i64 98, .int .i64 99, .int .i64 102, .int .i64 105, .int .i64 108, .int .i64 57345, .int .i64 57346, .int .i64 57601, .int .i64 57602, .int .i64 57603, .int .i64 57857, .int .i64 57861, .int .i64 58113, .int .i64 58114, .int .i64 58369] := (bb.bk HKB.out (by omega)).grown hg4 ((bb.bk HKB.out (by omega)).ne_own (by decide) how)
          clear ho4 hg4 hb4 hat4 how hs4 hnw hc1 hcl hcP
          refine hkG hK (⟨held1 _, HRU.out _ kb4, hm4.cell 3 (by decide) rfl⟩) fun hHeld => ?_
          clear hK K
          refine tkC 21 ?_
          refine tkC 22 ?_
          refine tkC 23 ?_
          refine rd1 24 fun K hK => ?_
          have kb5 := fun y => kb4.far (p := ⟨gm, 4, none⟩) (by show lb ≠ gm; omega) y
          refine wy ?_
          go_simp
          clear hHeld
          refine hK.out _ _ (⟨held1 _, HRU.out _ (kb5 _), hp9.hm.cell 3 (by decide) rfl⟩) fun hHeld => ?_
          clear hK K
          refine wpAnyH_done (by kernel_rfl) ?_ _
          clear hHeld HS g0 z0 bb kb4 hm4
          go_wp2_with fail
          go_roundw
          case rel => exact ⟨A', c', n + 1, i + 1, by go_num, by omega, by omega, hp9, kb5 _⟩
          case measure => simp [intOf] <;> omega
       ·have r0 : ¬ (0 : Int) < (r : Int) := by omega
        have tr : decide ((0 : Int) < (r : Int)) = false := decide_eq_false r0
        have tr' : decide (0 < r) = false := decide_eq_false hr0
        clear hr0
        go_wp2
        go_roundw
        case rel => exact ⟨A, c, n, i + 1, by go_num, by omega, by omega, hst, kl⟩
        case measure => simp [intOf] <;> omega
      ·have in0 : ¬ (i : Int) < 16 := by omega
       clear hlt
       go_wp2
       go_meet
       exact ⟨A, n, c, hst.hm, rdG_gr HGL.out hst.gr, HGRA.out.trans hst.gr⟩
    case rest =>
     clear kl hlg
     clear hm hgl hgr
     obtain ⟨A6, n6, c6, hm, hgl, hgr⟩ := hcut
     generalize hwcr : wc = wr at *
     clear hwcr wc
     have HGL := Lib.hid hgl
     have HGR := Lib.hid hgr
     have HC := Lib.hid (blookups_c gm (((((((mz sA sn sc xs u).ax A1 n1 c1).rg A2 n2 c2).fn A3 n3 c3).cv A4 n4 c4).gl A5 n5 c5).ch A6 n6 c6) wr hm (by show 0 < n5; omega) (by show n5 ≤ 1000; omega) rfl rfl rfl)
     have hlg := hm.lt
     clear hm hgl hgr
     go_wp2_with fail
     refine HC.out.mono ?_
     rintro e w3 ⟨A7, n7, c7, css7, lks, rfl, hn7, hm, hrow7, hlb, hgr7⟩
     have hgl := rdG_gr HGL.out hgr7
     have hgr := HGR.out.trans hgr7
     have hlk : RdL w3 (fun b => gm < b ∧ b < w3.heap.size) A7 n7 lks := (rdL_of hrow7).mono (fun b hb => ⟨by have := hb.1; omega, hb.2⟩) (Kept.refl _ _)
     have hd7 := hrow7.ow.cap
     have HLB := Lib.hid hlb
     clear HC HGL HGR hrow7 hgr7 hlg hlb
     obtain ⟨wr, hwr⟩ : ∃ x, w3 = x := ⟨_, rfl⟩
     rw [hwr] at hm hgl hgr hlk ⊢
     clear hwr w3
     have HC := Lib.hid (bNames_c wr)
     go_wp2_with fail
     refine HC.out.mono ?_
     rintro e w3 ⟨rfl, e3⟩
     clear HC
     have hu3 : Up gm wr w3 := by rw [e3]; exact (Up.refl gm wr).alloc hm.lt _
     have kn : Bk w3 wr.heap.size 9 #[.string ⟨#[108, 105, 103, 97]⟩, .string ⟨#[105, 115, 111, 108]⟩, .string ⟨#[105, 110, 105, 116]⟩, .string ⟨#[109, 101, 100, 105]⟩, .string ⟨#[102, 105, 110, 97]⟩, .string ⟨#[107, 101, 114, 110]⟩, .string ⟨#[109, 97, 114, 107]⟩, .string ⟨#[99, 97, 108, 116]⟩] := by rw [e3]; exact Bk.new _ _ _
     have hlg := hm.lt
     replace hm := hu3.st _ hm
     replace hgl := rdG_gr hgl hu3.gr
     replace hlk := rdL_gr hlk hu3.gr
     replace hgr := hgr.trans hu3.gr
     clear hu3 e3
     obtain ⟨nb, hnb⟩ : ∃ x, wr.heap.size = x := ⟨_, rfl⟩
     rw [hnb] at kn hlg ⊢
     clear hnb wr
     obtain ⟨wr, hwr⟩ : ∃ x, w3 = x := ⟨_, rfl⟩
     rw [hwr] at hm hgl hlk hgr kn ⊢
     clear hwr w3
     go_upto_block 14 with fail
     go_cut [17, 18, 19] from 199 to 241 (fun _ _ _ wx => ∃ (A : Option Addr) (n c : Nat), Mk wx gm (((((((((mz sA sn sc xs u).ax A1 n1 c1).rg A2 n2 c2).fn A3 n3 c3).cv A4 n4 c4).gl A5 n5 c5).ch A6 n6 c6).lk A7 n7 c7).ft A n c) ∧ RdG wx (fun b => gm < b ∧ b < wx.heap.size) A5 n5 gs ∧ RdL wx (fun b => gm < b ∧ b < wx.heap.size) A7 n7 lks ∧ w2.grownBy wx (some gm))
     case first =>
      have HGL := Lib.hid hgl
      have HLK := Lib.hid hlk
      have hst : FldS 120 2 gm wr wr ((((((((mz sA sn sc xs u).ax A1 n1 c1).rg A2 n2 c2).fn A3 n3 c3).cv A4 n4 c4).gl A5 n5 c5).ch A6 n6 c6).lk A7 n7 c7) none 0 0 := FldS.new hm
      clear hgl hlk
      have HGRA := Lib.hid hgr
      have hg1 := hm.lt
      clear hm hgr
      obtain ⟨w1, hw1⟩ : ∃ x, wr = x := ⟨_, rfl⟩
      rw [hw1] at hst kn HGL HLK HGRA hg1 ⊢
      clear hw1 wr
      go_upto_region 45 with fail
      go_loopw [17] (fun iv wr => ∃ (A : Option Addr) (c m i : Nat), iv = .int .i64 (i : Int) ∧ i ≤ 8 ∧ m ≤ i ∧ FldS 120 2 gm w1 wr (((((((((mz sA sn sc xs u).ax A1 n1 c1).rg A2 n2 c2).fn A3 n3 c3).cv A4 n4 c4).gl A5 n5 c5).ch A6 n6 c6).lk A7 n7 c7).ft A m c) A m c ∧ Bk wr nb 9 #[.string ⟨#[108, 105, 103, 97]⟩, .string ⟨#[105, 115, 111, 108]⟩, .string ⟨#[105, 110, 105, 116]⟩, .string ⟨#[109, 101, 100, 105]⟩, .string ⟨#[102, 105, 110, 97]⟩, .string ⟨#[107, 101, 114, 110]⟩, .string ⟨#[109, 97, 114, 107]⟩, .string ⟨#[99, 97, 108, 116]⟩]) (fun iv _ => 8 - (intOf iv).toNat)
      case atStart => exact ⟨none, 0, 0, 0, rfl, by omega, by omega, hst, kn⟩
      case round =>
       clear hst kn
       obtain ⟨A, c, m, i, rfl, hi, hmi, hst, kn⟩ := hrel
       by_cases hlt : i < 8
       ·have in0 : (i : Int) < 8 := by omega
        obtain ⟨nm, hnm⟩ := names_at nb i hlt
        have HNM := Lib.hid hnm
        clear hnm
        go_upto_region 49 with fail
        obtain ⟨w5, hw5⟩ : ∃ x, wr = x := ⟨_, rfl⟩
        rw [hw5] at hst kn ⊢
        clear hw5 wr
        have hrw0 : Ow 3 1 w5 w1.heap.size none 0 0 [] := Ow.nil _ _ _ _
        go_loopw [18, 19] (fun rv nv wr => ∃ (RA : Option Addr) (rn rc : Nat) (rcs : List Value) (q : Nat), rv = .slice RA rn rc ∧ nv = .int .i64 (q : Int) ∧ q ≤ n7 ∧ rn ≤ q ∧ Ow 3 1 wr w1.heap.size RA rn rc rcs ∧ FldS 120 2 gm w1 wr (((((((((mz sA sn sc xs u).ax A1 n1 c1).rg A2 n2 c2).fn A3 n3 c3).cv A4 n4 c4).gl A5 n5 c5).ch A6 n6 c6).lk A7 n7 c7).ft A m c) A m c ∧ Bk wr nb 9 #[.string ⟨#[108, 105, 103, 97]⟩, .string ⟨#[105, 115, 111, 108]⟩, .string ⟨#[105, 110, 105, 116]⟩, .string ⟨#[109, 101, 100, 105]⟩, .string ⟨#[102, 105, 110, 97]⟩, .string ⟨#[107, 101, 114, 110]⟩, .string ⟨#[109, 97, 114, 107]⟩, .string ⟨#[99, 97, 108, 116]⟩]) (fun _ nv _ => n7 - (intOf nv).toNat)
        case atStart => exact ⟨none, 0, 0, [], 0, rfl, rfl, by omega, by omega, hrw0, hst, kn⟩
        case round =>
         clear hst kn hrw0
         obtain ⟨RA, rn, rc, rcs, q, rfl, rfl, hq, hrn, hrw, hst, kn⟩ := hrel
         have y5 : wr.cell? ⟨gm, 5, none⟩ = some (.slice A7 n7 c7) := hst.hm.cell 5 (by decide) rfl
         by_cases hql : q < n7
         ·have q0 : (q : Int) < (n7 : Int) := by omega
          have HC := Lib.hid (show Calls Tryd.prog 40 #[.pointer (some ⟨gm, 0, none⟩), .int .i64 3] wr (NextR gm 3 wr) from bnext_c gm 3 _ wr (hst.hm) (by omega) (by omega))
          go_wp2_with fail
          refine HC.out.mono ?_
          rintro e w3 ⟨r, rfl, hr, hb⟩
          clear HC
          replace hst := hst.up hg1 hb
          replace kn := hb.bk kn (by omega)
          replace hrw := hb.ow hrw hg1
          clear hb y5
          obtain ⟨wr, hwr⟩ : ∃ x, w3 = x := ⟨_, rfl⟩
          rw [hwr] at hst kn hrw ⊢
          clear hwr
          by_cases hr0 : r = 0
          ·have tr : ((r : Int) == 0) = true := by simp; omega
           have tr' : (r == 0) = true := by simpa using hr0
           clear hr0
           have hu7 := (Up.refl gm wr).alloc (by have := hst.gr.size; omega) (.cells #[.int .i64 (q : Int)] 3)
           have hst7 := hst.up hg1 hu7
           have hrw7 := hu7.ow hrw hg1
           have kn7 := hu7.bk kn (by omega)
           have hs3 : w1.heap.size ≤ (wr.alloc (.cells #[.int .i64 (q : Int)] 3)).heap.size := hst7.gr.size
           clear hst hrw kn hu7
           go_wp2_with (at_builtin; refine appP elt_int rfl _ _ rfl (wr.alloc (.cells #[.int .i64 (q : Int)] 3)) w1.heap.size _ _ _ rcs _ 1 1 [.int .i64 (q : Int)] (by rfl) (by rfl) hrw7 rfl (fun _ => news_new _ _ _ (by omega)) (by simp [Value.oneCell']) (by omega) hs3 ?_; intro A' c' W4 ho4 hg4 hb4 hat4)
           have hst8 := hst7.other hg1 hrw7 (by decide) hg4 hb4
           have kn8 := kn7.grown hg4 (kn7.ne_own (by decide) hrw7)
           clear hst7 hrw7 kn7 hg4 hb4 hat4 hs3
           go_roundw
           case rel => exact ⟨A', rn + 1, c', _, q + 1, rfl, by go_num, by omega, by omega, ho4, hst8, kn8⟩
           case measure => simp [intOf] <;> omega
          ·have tr : ((r : Int) == 0) = false := by simp; omega
           have tr' : (r == 0) = false := by simpa using hr0
           clear hr0
           go_wp2
           go_roundw
           case rel => exact ⟨RA, rn, rc, rcs, q + 1, rfl, by go_num, by omega, by omega, hrw, hst, kn⟩
           case measure => simp [intOf] <;> omega
         ·have q0 : ¬ (q : Int) < (n7 : Int) := by omega
          go_upto_region 53 with fail
          clear y5 q0 hql
          have HC := Lib.hid (show Calls Tryd.prog 40 #[.pointer (some ⟨gm, 0, none⟩), .int .i64 2] wr (NextR gm 2 wr) from bnext_c gm 2 _ wr (hst.hm) (by omega) (by omega))
          go_wp2_with fail
          refine HC.out.mono ?_
          rintro e w3 ⟨r, rfl, hr, hb⟩
          clear HC
          replace hst := hst.up hg1 hb
          replace kn := hb.bk kn (by omega)
          clear hb
          obtain ⟨wr, hwr⟩ : ∃ x, w3 = x := ⟨_, rfl⟩
          rw [hwr] at hst kn ⊢
          clear hwr
          by_cases hr0 : r = 0
          ·have tr : ((r : Int) == 0) = true := by simp; omega
           have tr' : (r == 0) = true := by simpa using hr0
           clear hr0
           go_upto_region 54 with fail
           clear tr tr'
           have HKB := Lib.hid kn
           have HF := Lib.hid hst
           have hwl := hst.gr.size
           have hwg : gm < wr.heap.size := by omega
           clear hst kn hrw
           have i00 : (0 : Int) ≤ (i : Int) := by omega
           have i8 : (i : Int) < 8 := by omega
           have HS := Lib.hid fun (W : World) (bW : Up gm wr W) => (show Held1 W ∧ W.cell? ⟨nb, i, none⟩ = some (.string nm) from ⟨held1 _, HNM.out W (bW.bk HKB.out (by omega))⟩)
           have bb := Up.refl gm wr
           refine wp_region_held_drew (S := fun w' => Held1 w' ∧ w'.cell? ⟨nb, i, none⟩ = some (.string nm)) (by kernel_rfl) ?_ (fun hHeld => ?_)
           ·exact HS.out _ (bb.drewN 1)
           replace bb := bb.drewN 1
           change Up _ _ wr.drew at bb
           generalize hw0 : wr.drew = W0 at hHeld bb ⊢
           clear hw0
           refine tkC 0 ?_
           refine tkC 1 ?_
           refine tkC 2 ?_
           refine tkC 3 ?_
           refine tkC 4 ?_
           refine tkC 6 ?_
           refine tkC 7 ?_
           refine tkC 8 ?_
           refine tkC 9 ?_
           refine tkC 10 ?_
           refine tkC 11 ?_
           refine rd2 5 12 (fun K hK => ?_) (fun K hK => ?_)
           ·have yL := (HF.out.up hg1 bb).hm.cell 6 (by decide) rfl
            change W0.cell? ⟨gm, 6, none⟩ = some (.slice A m c) at yL
            refine wy ?_
            go_simp
            clear hHeld
            refine hK.out _ _ (HS.out _ bb) fun hHeld => ?_
            clear hK K
            clear yL
            refine rd1 12 fun K hK => ?_
            refine wy ?_
            go_simp
            clear hHeld
            refine hK.out _ _ (HS.out _ (bb.alloc (by have := bb.size; omega) _)) fun hHeld => ?_
            clear hK K
            obtain ⟨V1, hV⟩ := world_of (hHeld.1)
            obtain ⟨es, hcP, hcl, hc1, hnw⟩ : NEW W0 V1 2 := by
             rw [hV]
             exact ⟨_, trivial, rfl, (by simp [Value.oneCell']), news_new _ _ _⟩
            have bb2 : Up gm wr V1 := by rw [hV]; exact bb.alloc (by have := bb.size; omega) _
            rw [← hV] at hHeld
            rw [← hV]
            clear hV bb
            have bb := bb2
            clear bb2
            refine rd1 13 fun K hK => ?_
            clear hHeld
            have how := (HF.out.up hg1 bb).row.choose_spec
            have hs4 : w1.heap.size ≤ V1.heap.size := by have := bb.size; omega
            refine appStep elt_feat (by kernel_rfl) _ _ rfl V1 (w1.heap.size) _ _ _ (_) _ 1 1 es (by rfl) (by rfl) how (by rw [hcl]) hnw hc1 (by omega) hs4 ?_
            intro A' c' W4 ho4 hg4 hb4 hat4
            obtain ⟨hm4, hp9⟩ := (HF.out.up hg1 bb).push (i := 6) (s' := ((((((((mz sA sn sc xs u).ax A1 n1 c1).rg A2 n2 c2).fn A3 n3 c3).cv A4 n4 c4).gl A5 n5 c5).ch A6 n6 c6).lk A7 n7 c7).ft A' (m + 1) c') hg1 ho4 hb4 (fun _ _ => rfl) ⟨rfl, rfl, rfl, rfl⟩
            have g0 := hm4.cell 6 (by decide) rfl
            change W4.cell? ⟨gm, 6, none⟩ = some (.slice A m c) at g0
            have z0 : W4.frozen? ⟨gm, 6, none⟩ = false := by obtain ⟨_, _, _, hk4, _⟩ := hm4; exact hk4.frozen 6
            have kb4 : Bk W4 nb 9 #[.string ⟨#[108, 105, 103, 97]⟩, .string ⟨#[105, 115, 111, 108]⟩, .string ⟨#[105, 110, 105, 116]⟩, .string ⟨#[109, 101, 100, 105]⟩, .string ⟨#[102, 105, 110, 97]⟩, .string ⟨#[107, 101, 114, 110]⟩, .string ⟨#[109, 97, 114, 107]⟩, .string ⟨#[99, 97, 108, 116]⟩] := (bb.bk HKB.out (by omega)).grown hg4 ((bb.bk HKB.out (by omega)).ne_own (by decide) how)
            clear ho4 hg4 hb4 hat4 how hs4 hnw hc1 hcl hcP
            refine hkG hK (⟨held1 _, HNM.out _ kb4⟩) fun hHeld => ?_
            clear hK K
            refine tkC 14 ?_
            refine tkC 15 ?_
            refine tkC 16 ?_
            refine rd1 17 fun K hK => ?_
            have kb5 := fun y => kb4.far (p := ⟨gm, 6, none⟩) (by show nb ≠ gm; omega) y
            refine wy ?_
            go_simp
            clear hHeld
            refine hK.out _ _ (⟨held1 _, HNM.out _ (kb5 _)⟩) fun hHeld => ?_
            clear hK K
            refine wpAnyH_done (by kernel_rfl) ?_ _
            clear hHeld HS g0 z0 bb kb4
            go_wp2_with fail
            go_roundw
            case rel => exact ⟨A', c', m + 1, i + 1, by go_num, by omega, by omega, hp9, kb5 _⟩
            case measure => simp [intOf] <;> omega




           ·refine wy ?_
            go_simp
            clear hHeld
            refine hK.out _ _ (HS.out _ (bb.alloc (by have := bb.size; omega) _)) fun hHeld => ?_
            clear hK K
            obtain ⟨V1, hV⟩ := world_of (hHeld.1)
            obtain ⟨es, hcP, hcl, hc1, hnw⟩ : NEW W0 V1 2 := by
             rw [hV]
             exact ⟨_, trivial, rfl, (by simp [Value.oneCell']), news_new _ _ _⟩
            have bb2 : Up gm wr V1 := by rw [hV]; exact bb.alloc (by have := bb.size; omega) _
            rw [← hV] at hHeld
            rw [← hV]
            clear hV bb
            have bb := bb2
            clear bb2
            refine rd1 5 fun K hK => ?_
            have yL := (HF.out.up hg1 bb).hm.cell 6 (by decide) rfl
            change V1.cell? ⟨gm, 6, none⟩ = some (.slice A m c) at yL
            refine wy ?_
            go_simp
            clear hHeld
            refine hK.out _ _ (HS.out _ bb) fun hHeld => ?_
            clear hK K
            clear yL
            refine rd1 13 fun K hK => ?_
            clear hHeld
            have how := (HF.out.up hg1 bb).row.choose_spec
            have hs4 : w1.heap.size ≤ V1.heap.size := by have := bb.size; omega
            refine appStep elt_feat (by kernel_rfl) _ _ rfl V1 (w1.heap.size) _ _ _ (_) _ 1 1 es (by rfl) (by rfl) how (by rw [hcl]) hnw hc1 (by omega) hs4 ?_
            intro A' c' W4 ho4 hg4 hb4 hat4
            obtain ⟨hm4, hp9⟩ := (HF.out.up hg1 bb).push (i := 6) (s' := ((((((((mz sA sn sc xs u).ax A1 n1 c1).rg A2 n2 c2).fn A3 n3 c3).cv A4 n4 c4).gl A5 n5 c5).ch A6 n6 c6).lk A7 n7 c7).ft A' (m + 1) c') hg1 ho4 hb4 (fun _ _ => rfl) ⟨rfl, rfl, rfl, rfl⟩
            have g0 := hm4.cell 6 (by decide) rfl
            change W4.cell? ⟨gm, 6, none⟩ = some (.slice A m c) at g0
            have z0 : W4.frozen? ⟨gm, 6, none⟩ = false := by obtain ⟨_, _, _, hk4, _⟩ := hm4; exact hk4.frozen 6
            have kb4 : Bk W4 nb 9 #[.string ⟨#[108, 105, 103, 97]⟩, .string ⟨#[105, 115, 111, 108]⟩, .string ⟨#[105, 110, 105, 116]⟩, .string ⟨#[109, 101, 100, 105]⟩, .string ⟨#[102, 105, 110, 97]⟩, .string ⟨#[107, 101, 114, 110]⟩, .string ⟨#[109, 97, 114, 107]⟩, .string ⟨#[99, 97, 108, 116]⟩] := (bb.bk HKB.out (by omega)).grown hg4 ((bb.bk HKB.out (by omega)).ne_own (by decide) how)
            clear ho4 hg4 hb4 hat4 how hs4 hnw hc1 hcl hcP
            refine hkG hK (⟨held1 _, HNM.out _ kb4⟩) fun hHeld => ?_
            clear hK K
            refine tkC 14 ?_
            refine tkC 15 ?_
            refine tkC 16 ?_
            refine rd1 17 fun K hK => ?_
            have kb5 := fun y => kb4.far (p := ⟨gm, 6, none⟩) (by show nb ≠ gm; omega) y
            refine wy ?_
            go_simp
            clear hHeld
            refine hK.out _ _ (⟨held1 _, HNM.out _ (kb5 _)⟩) fun hHeld => ?_
            clear hK K
            refine wpAnyH_done (by kernel_rfl) ?_ _
            clear hHeld HS g0 z0 bb kb4
            go_wp2_with fail
            go_roundw
            case rel => exact ⟨A', c', m + 1, i + 1, by go_num, by omega, by omega, hp9, kb5 _⟩
            case measure => simp [intOf] <;> omega
          ·have tr : ((r : Int) == 0) = false := by simp; omega
           have tr' : (r == 0) = false := by simpa using hr0
           clear hr0
           go_wp2
           go_roundw
           case rel => exact ⟨A, c, m, i + 1, by go_num, by omega, by omega, hst, kn⟩
           case measure => simp [intOf] <;> omega
       ·have in0 : ¬ (i : Int) < 8 := by omega
        clear hlt
        go_wp2
        go_meet
        exact ⟨A, m, c, hst.hm, rdG_gr HGL.out hst.gr, rdL_gr HLK.out hst.gr, HGRA.out.trans hst.gr⟩
     case rest =>
      clear kn hlg hm hgl hlk hgr
      obtain ⟨A8, n8, c8, hm, hgl, hlk, hgr⟩ := hcut
      generalize hwcr : wc = wr at *
      clear hwcr wc
      have y0 : wr.cell? ⟨gm, 2, none⟩ = some (.int .i64 u) := hm.cell 2 (by decide) rfl
      have y1 : wr.cell? ⟨gm, 3, none⟩ = some (.slice A5 n5 c5) := hm.cell 3 (by decide) rfl
      have y2 : wr.cell? ⟨gm, 4, none⟩ = some (.slice A6 n6 c6) := hm.cell 4 (by decide) rfl
      have y3 : wr.cell? ⟨gm, 5, none⟩ = some (.slice A7 n7 c7) := hm.cell 5 (by decide) rfl
      have y4 : wr.cell? ⟨gm, 6, none⟩ = some (.slice A8 n8 c8) := hm.cell 6 (by decide) rfl
      have y5 : wr.cell? ⟨gm, 7, none⟩ = some (.slice A1 n1 c1) := hm.cell 7 (by decide) rfl
      have y6 : wr.cell? ⟨gm, 8, none⟩ = some (.slice A2 n2 c2) := hm.cell 8 (by decide) rfl
      have y7 : wr.cell? ⟨gm, 9, none⟩ = some (.slice A3 n3 c3) := hm.cell 9 (by decide) rfl
      have y8 : wr.cell? ⟨gm, 10, none⟩ = some (.slice A4 n4 c4) := hm.cell 10 (by decide) rfl
      have krf : Bk wr rb 33 #[.int .i64 0, .slice none 0 0, .slice none 0 0, .slice none 0 0, .slice none 0 0, .slice none 0 0, .slice none 0 0, .slice none 0 0, .slice none 0 0] := (hgr.block rb kr0.lt (fun e => by injection e with e; omega)).trans kr0
      have r0 := bx krf 0 rfl
      have f0 := krf.frozen 0
      have r1 := bx krf 1 rfl
      have f1 := krf.frozen 1
      have r2 := bx krf 2 rfl
      have f2 := krf.frozen 2
      have r3 := bx krf 3 rfl
      have f3 := krf.frozen 3
      have r4 := bx krf 4 rfl
      have f4 := krf.frozen 4
      have r5 := bx krf 5 rfl
      have f5 := krf.frozen 5
      have r6 := bx krf 6 rfl
      have f6 := krf.frozen 6
      have r7 := bx krf 7 rfl
      have f7 := krf.frozen 7
      have r8 := bx krf 8 rfl
      have f8 := krf.frozen 8
      have kf := store9g_bk krf (.int .i64 u) (.slice A5 n5 c5) (.slice A6 n6 c6) (.slice A7 n7 c7) (.slice A8 n8 c8) (.slice A1 n1 c1) (.slice A2 n2 c2) (.slice A3 n3 c3) (.slice A4 n4 c4)
      have hbw : Below rb w wr := ⟨hgr.os.trans hb0.os, hgr.tape.trans hb0.tape, hgr.output.trans hb0.output, Nat.le_trans hb0.size hgr.size, fun b hb => (hgr.block b (by have := hb0.size; have := HW.out; omega) (fun e => by injection e with e; omega)).trans (hb0.block b hb)⟩
      have hb9 : Below rb w (store9g wr rb (.int .i64 u) (.slice A5 n5 c5) (.slice A6 n6 c6) (.slice A7 n7 c7) (.slice A8 n8 c8) (.slice A1 n1 c1) (.slice A2 n2 c2) (.slice A3 n3 c3) (.slice A4 n4 c4)) := ((((((((hbw.setCell (p := ⟨rb, 0, none⟩) (Nat.le_refl _) _).setCell (p := ⟨rb, 1, none⟩) (Nat.le_refl _) _).setCell (p := ⟨rb, 2, none⟩) (Nat.le_refl _) _).setCell (p := ⟨rb, 3, none⟩) (Nat.le_refl _) _).setCell (p := ⟨rb, 4, none⟩) (Nat.le_refl _) _).setCell (p := ⟨rb, 5, none⟩) (Nat.le_refl _) _).setCell (p := ⟨rb, 6, none⟩) (Nat.le_refl _) _).setCell (p := ⟨rb, 7, none⟩) (Nat.le_refl _) _).setCell (p := ⟨rb, 8, none⟩) (Nat.le_refl _) _
      obtain ⟨hfar, hfs⟩ := store9g_far wr rb (.int .i64 u) (.slice A5 n5 c5) (.slice A6 n6 c6) (.slice A7 n7 c7) (.slice A8 n8 c8) (.slice A1 n1 c1) (.slice A2 n2 c2) (.slice A3 n3 c3) (.slice A4 n4 c4)
      have hisf : IsF (store9g wr rb (.int .i64 u) (.slice A5 n5 c5) (.slice A6 n6 c6) (.slice A7 n7 c7) (.slice A8 n8 c8) (.slice A1 n1 c1) (.slice A2 n2 c2) (.slice A3 n3 c3) (.slice A4 n4 c4)) (fun b => rb ≤ b ∧ b < (store9g wr rb (.int .i64 u) (.slice A5 n5 c5) (.slice A6 n6 c6) (.slice A7 n7 c7) (.slice A8 n8 c8) (.slice A1 n1 c1) (.slice A2 n2 c2) (.slice A3 n3 c3) (.slice A4 n4 c4)).heap.size) ⟨u, A5, n5, c5, A6, n6, c6, A7, n7, c7, A8, n8, c8, A1, n1, c1, A2, n2, c2, A3, n3, c3, A4, n4, c4⟩ ⟨gs, lks⟩ := ⟨hgl.mono (fun b hb => ⟨by have := hb.1; omega, by rw [hfs]; exact hb.2⟩) (fun b hb => hfar b (by have := hb.1; omega)), hlk.mono (fun b hb => ⟨by have := hb.1; omega, by rw [hfs]; exact hb.2⟩) (fun b hb => hfar b (by have := hb.1; omega)), hd5, hd7⟩
      have HE := Lib.hid (And.intro kf (And.intro hisf hb9))
      unfold store9g at HE
      clear kf hisf hb9 hbw krf hfar hfs hm hgl hlk hgr
      go_upto_region 55 with fail
      go_cut [] from 242 to 245 (fun wx => Bk wx rb 33 #[.int .i64 u, .slice A5 n5 c5, .slice A6 n6 c6, .slice A7 n7 c7, .slice A8 n8 c8, .slice A1 n1 c1, .slice A2 n2 c2, .slice A3 n3 c3, .slice A4 n4 c4] ∧ IsF wx (fun b => rb ≤ b ∧ b < wx.heap.size) ⟨u, A5, n5, c5, A6, n6, c6, A7, n7, c7, A8, n8, c8, A1, n1, c1, A2, n2, c2, A3, n3, c3, A4, n4, c4⟩ ⟨gs, lks⟩ ∧ Below rb w wx)
      case first =>
       go_wp2_with fail
       go_meet
       exact HE.out
      case rest =>
       clear HE
       obtain ⟨kf, hisf, hb9⟩ := hcut
       have q0 := bx kf 0 rfl
       have q1 := bx kf 1 rfl
       have q2 := bx kf 2 rfl
       have q3 := bx kf 3 rfl
       have q4 := bx kf 4 rfl
       have q5 := bx kf 5 rfl
       have q6 := bx kf 6 rfl
       have q7 := bx kf 7 rfl
       have q8 := bx kf 8 rfl
       clear kf
       have hwe := HW.out
       go_wp2_with (exact bodyPost_ret (v := .agg #[.int .i64 u, .slice A5 n5 c5, .slice A6 n6 c6, .slice A7 n7 c7, .slice A8 n8 c8, .slice A1 n1 c1, .slice A2 n2 c2, .slice A3 n3 c3, .slice A4 n4 c4]) (by simp [results, Tryd.results17, go_sem, q0, q1, q2, q3, q4, q5, q6, q7, q8]) rfl ⟨⟨u, A5, n5, c5, A6, n6, c6, A7, n7, c7, A8, n8, c8, A1, n1, c1, A2, n2, c2, A3, n3, c3, A4, n4, c4⟩, ⟨gs, lks⟩, rfl, by rw [hwe]; exact hisf, hn5, hn5', hn7, HLB.out, by rw [hwe]; exact hb9⟩)


theorem bmade_c (sA : Option Addr) (sn sc : Nat) (xs : List Int) (w : World) (hx : Rd w (lo w.heap.size) sA sn xs) (hd : Hd sn sc) : Calls Tryd.prog 17 #[.slice sA sn sc] w (MadeF w) := (bmade_a sA sn sc xs w).h ⟨bmade_b sA sn sc xs w⟩ hx hd

end Go.Proofs.YtgcmedkaadagmaaDoor
