/- Walks: a maker's lookups. -/
import Derived.Test.YtgcmedkaadagmaaDoorTk
import Derived.Test.YtgcmedkaadagmaaDoorY7
namespace Go.Proofs.YtgcmedkaadagmaaDoor
open Go.RowKit Go.Shelf

/-- What lookups leaves. -/
def LooksR (gm : Nat) (w : World) (s : MSt) (e : Ending) (w' : World) : Prop := ∃ A n c css lks, e = .returned (.tuple #[]) ∧ n ≤ 6 ∧ Mk w' gm (s.lk A n c) ∧ Rg 55 3 ELk w' w.heap.size (bl A) A n c css lks ∧ (∀ l ∈ lks, LkB l) ∧ w.grownBy w' (some gm)
theorem MSt.lk_same (s : MSt) (hA : s.f.la = none) (hN : s.f.ln = 0) (hC : s.f.lc = 0) : s.lk none 0 0 = s := by
 cases s with | mk sA sn sc xs f => cases f; simp_all [MSt.lk]
theorem kinds_at (w : World) (r : Nat) (h : r < 10) : ∃ k : Int, (w.alloc (.cells #[.int .i64 1, .int .i64 2, .int .i64 3, .int .i64 4, .int .i64 4, .int .i64 5, .int .i64 6, .int .i64 7, .int .i64 8, .int .i64 1] 3)).cell? ⟨w.heap.size, r, none⟩ = some (.int .i64 k) := by
 rw [World.cell?_alloc_new]
 obtain rfl | rfl | rfl | rfl | rfl | rfl | rfl | rfl | rfl | rfl : r = 0 ∨ r = 1 ∨ r = 2 ∨ r = 3 ∨ r = 4 ∨ r = 5 ∨ r = 6 ∨ r = 7 ∨ r = 8 ∨ r = 9 := by omega
 all_goals exact ⟨_, rfl⟩
/-- The rule that is told, its cells laid open. -/
theorem RuleR.open {gm : Nat} {w w' : World} {e : Ending} (h : RuleR gm w e w') : ∃ A1 n1 c1 A2 n2 c2 A3 n3 c3 A4 n4 c4 A5 n5 c5 u, e = .returned (.agg #[.slice A1 n1 c1, .slice A2 n2 c2, .slice A3 n3 c3, .slice A4 n4 c4, .slice A5 n5 c5, .int .i64 u.x]) ∧ ERul w' (fun b => w.heap.size ≤ b ∧ b < w'.heap.size) [.slice A1 n1 c1, .slice A2 n2 c2, .slice A3 n3 c3, .slice A4 n4 c4, .slice A5 n5 c5, .int .i64 u.x] u ∧ RulB u ∧ Up gm w w' := by
 obtain ⟨cs, u, rfl, hE, hB, hu⟩ := h
 have hE2 := hE
 obtain ⟨A1, n1, c1, A2, n2, c2, A3, n3, c3, A4, n4, c4, A5, n5, c5, e, _⟩ := hE2
 rw [e] at hE
 exact ⟨A1, n1, c1, A2, n2, c2, A3, n3, c3, A4, n4, c4, A5, n5, c5, u, by rw [← Array.toList_inj.1 (show cs.toList = (#[.slice A1 n1 c1, .slice A2 n2 c2, .slice A3 n3 c3, .slice A4 n4 c4, .slice A5 n5 c5, .int .i64 u.x] : Array Value).toList from e)], hE, hB, hu⟩

set_option maxRecDepth 100000 in
set_option maxHeartbeats 40000000 in
theorem blookups_c (gm : Nat) (s : MSt) (w : World) (h : Mk w gm s) (hn0 : 0 < s.f.gn) (hn1 : s.f.gn ≤ 1000) (hA0 : s.f.la = none) (hN0 : s.f.ln = 0) (hC0 : s.f.lc = 0) : Calls Tryd.prog 44 #[.pointer (some ⟨gm, 0, none⟩)] w (LooksR gm w s) := by
 have hg := h.lt
 have hl0 := MSt.lk_same s hA0 hN0 hC0
 have HGN := Lib.hid (And.intro hn0 hn1)
 have h7 := Lib.hid (show Calls Tryd.prog 40 #[.pointer (some ⟨gm, 0, none⟩), .int .i64 7] w (NextR gm 7 w) from bnext_c gm 7 s w h (by omega) (by omega))
 have HST := Lib.hid fun (W : World) (hu : Up gm w W) => (show LuS gm w W s none 0 0 [] [] none 0 0 [] 0 from ⟨by rw [hl0]; exact hu.st s h, Rg.nil _ _ _ _ _ _, Ow.nil _ _ _ _, hu.gr, (fun j _ cs hc => by simp at hc), (fun j _ l hc => by simp at hc), fun l hl => by cases hl⟩)
 clear h hl0 hn0 hn1 hA0 hN0 hC0
 go_enter Tryd.func44, Tryd.ntmps44
 go_wp2_with fail
 refine h7.out.mono ?_
 rintro e w1 ⟨m, rfl, hm, hu⟩
 have hst := HST.out w1 hu
 clear h7 hu HST
 go_upto_region 3 with fail
 go_loopw [3, 4] (fun ov iv wr => ∃ (i : Nat) (A : Option Addr) (c : Nat) (css : List (List Value)) (lks : List Lk) (CA : Option Addr) (cn cc : Nat) (cxs : List Int), ov = .slice CA cn cc ∧ iv = .int .i64 (i : Int) ∧ i ≤ m ∧ cn ≤ i ∧ LuS gm w wr s A i c css lks CA cn cc cxs 0) (fun _ iv _ => m - (intOf iv).toNat)
 case atStart => exact ⟨0, none, 0, [], [], none, 0, 0, [], rfl, rfl, by omega, by omega, hst⟩
 case round =>
  clear hst
  obtain ⟨n, A, c, css, lks, CA, cn, cc, cxs, rfl, rfl, hi, hcn, hst⟩ := hrel
  by_cases hlt : n < m
  ·have in0 : (n : Int) < (m : Int) := by omega
   have hu2 : Up gm wr (wr.alloc (.cells #[.int .i64 1, .int .i64 2, .int .i64 3, .int .i64 4, .int .i64 4, .int .i64 5, .int .i64 6, .int .i64 7, .int .i64 8, .int .i64 1] 3)) := (Up.refl gm wr).alloc (by have := hst.gr.size; omega) _
   have HC := Lib.hid (show Calls Tryd.prog 40 #[.pointer (some ⟨gm, 0, none⟩), .int .i64 10] _ (NextR gm 10 _) from bnext_c gm 10 _ _ (hu2.st _ hst.hm) (by omega) (by omega))
   go_wp2_with fail
   refine HC.out.mono ?_
   rintro e w3 ⟨r, rfl, hr, hu3⟩
   obtain ⟨kd, hkd⟩ := kinds_at wr r hr
   have yk := hu3.cell hkd (by show wr.heap.size ≠ gm; have := hst.gr.size; omega)
   have rz : (0 : Int) ≤ (r : Int) := by omega
   have rn : (r : Int) < 10 := by omega
   have hst3 := hst.upd hg (hu2.trans hu3)
   clear HC hu2 hu3 hkd hst
   go_upto_region 6 with fail
   clear yk rz rn hr
   obtain ⟨wr, hwr⟩ : ∃ x, w3 = x := ⟨_, rfl⟩
   rw [hwr] at hst3 ⊢
   clear hwr
   have HO := Lib.hid hst3
   have hwl := hst3.gr.size
   have hwg : gm < wr.heap.size := by omega
   have H3 := Lib.hid fun (W : World) (bW : Up gm wr W) => (show Calls Tryd.prog 40 #[.pointer (some ⟨gm, 0, none⟩), .int .i64 3] W (NextR gm 3 W) from bnext_c gm 3 _ W (bW.st _ HO.out.hm) (by omega) (by omega))
   clear hst3
   have HS := Lib.hid fun (W : World) (bW : Up gm wr W) => (show Held1 W from held1 _)
   have bb := Up.refl gm wr
   refine wp_region_held_drew (S := fun w' => Held1 w') (by kernel_rfl) ?_ (fun hHeld => ?_)
   ·exact HS.out _ (bb.drewN 1)
   replace bb := bb.drewN 1
   change Up _ _ wr.drew at bb
   generalize hw0 : wr.drew = W0 at hHeld bb ⊢
   clear hw0
   refine tkC 0 ?_
   refine tkC 1 ?_
   refine tkC 2 ?_
   refine tkC 3 ?_
   refine tkC 4 ?_
   refine tkC 6 ?_
   refine tkC 7 ?_
   refine rd2 5 8 (fun K hK => ?_) (fun K hK => ?_)
   ·have yL := (bb.st _ HO.out.hm).cell 5 (by decide) rfl
    change W0.cell? ⟨gm, 5, none⟩ = some (.slice A n c) at yL
    refine wy ?_
    go_simp
    clear hHeld
    refine hK.out _ _ (held1 _) fun hHeld => ?_
    clear hK K
    clear yL
    refine rd1 8 fun K hK => ?_
    refine wy ?_
    go_simp
    clear hHeld
    go_at_call 40
    (with_reducible refine (H3.out _ bb).mono ?_)
    rintro e V1 ⟨r, rfl, hr, bn⟩
    go_wp2_with fail
    refine hK.out _ _ (HS.out _ (bb.trans bn)) fun hHeld => ?_
    clear hK K
    replace bb := bb.trans bn
    clear bn
    refine tkC 9 ?_
    refine tkC 10 ?_
    refine rd1 11 fun K hK => ?_
    refine wy ?_
    go_simp
    clear hHeld
    refine hK.out _ _ (held1 _) fun hHeld => ?_
    clear hK K
    obtain ⟨V2, hV⟩ := world_of hHeld
    obtain ⟨ig, hnw⟩ : ∃ ig : Bool, (0 < 1 → ∃ b o, some (⟨V1.heap.size, 0, none⟩ : Addr) = some ⟨b, o, none⟩ ∧ ∀ j u, [Value.int .i64 kd, .bool ig, .slice none 0 0][j]? = some u → V2.cell? ⟨b, o + j, none⟩ = some u) := by
     rw [hV]
     exact ⟨_, news_new _ _ _⟩
    have bb2 : Up gm wr V2 := by rw [hV]; exact bb.alloc (by have := bb.size; omega) _
    rw [← hV] at hHeld
    rw [← hV]
    clear hV bb
    have bb := bb2
    clear bb2
    have hst := HO.out.upd hg bb
    refine rd1 12 fun K hK => ?_
    clear hHeld
    have how := hst.row.ow
    have hs4 : w.heap.size ≤ V2.heap.size := by have := bb.size; omega
    refine appStep elt_look (by kernel_rfl) _ _ rfl V2 (w.heap.size) _ _ _ (css.flatten) _ 1 1 [.int .i64 kd, .bool ig, .slice none 0 0] (by rfl) (by rfl) how rfl hnw (by simp [Value.oneCell']) (by omega) hs4 ?_
    intro A' c' W4 ho4 hg4 hb4 hat4
    obtain ⟨hm4, hp9⟩ := hst.push hg ho4 hg4 hb4 hat4
    have g0 := hm4.cell 5 (by decide) rfl
    change W4.cell? ⟨gm, 5, none⟩ = some (.slice A n c) at g0
    obtain ⟨a4, l4, _, hk4, _⟩ := hm4
    have z0 := hk4.frozen 5
    clear ho4 hg4 hb4 hat4 how hs4 hnw hst hk4
    refine hkG hK (held1 _) fun hHeld => ?_
    clear hK K
    refine tkC 13 ?_
    refine tkC 14 ?_
    refine tkC 15 ?_
    refine rd1 16 fun K hK => ?_
    refine wy ?_
    go_simp
    clear hHeld
    refine hK.out _ _ (held1 _) fun hHeld => ?_
    clear hK K
    refine wpAnyH_done (by kernel_rfl) ?_ _
    clear hHeld HS g0 z0 bb HO H3
    obtain ⟨w9, hw9⟩ : ∃ x : World, W4.setCell ⟨gm, 5, none⟩ (.slice A' (n + 1) c') = x := ⟨_, rfl⟩
    rw [hw9] at hp9 ⊢
    clear hw9
    go_upto_region 7 with fail
    by_cases hk4 : kd ≤ 4
    ·have k4 : decide (kd ≤ 4) = true := by simpa using hk4
     have bz : Below w9.heap.size w9 (w9.alloc (.cells #[.int .i64 (n : Int)] 3)) := below_lit _ _ (Below.refl _ _) _
     have hst2 := hp9.upd hg ((Up.refl gm w9).alloc (by have := hp9.gr.size; omega) (.cells #[.int .i64 (n : Int)] 3))
     have hs3 : w.heap.size ≤ (w9.alloc (.cells #[.int .i64 (n : Int)] 3)).heap.size := hst2.gr.size
     go_wp2_with (at_builtin; refine appP elt_int rfl _ _ rfl (w9.alloc (.cells #[.int .i64 (n : Int)] 3)) w.heap.size _ _ _ (ic cxs) _ 1 1 [.int .i64 (n : Int)] (by rfl) (by rfl) hst2.cal rfl (fun _ => news_new _ _ _ (by omega)) (by simp [Value.oneCell']) (by omega) hs3 ?_; intro A2 c2 W4 ho4 hg4 hb4 hat4)
     have hp10 := hst2.pushCal hg ho4 hg4 hb4 hat4
     clear ho4 hg4 hb4 hat4 hst2 hs3 bz hp9
     go_roundw
     case rel => exact ⟨n + 1, A', c', _, _, A2, cn + 1, c2, _, rfl, by go_num, by omega, by omega, hp10⟩
     case measure => simp [intOf] <;> omega
    ·have k4 : decide (kd ≤ 4) = false := by simpa using hk4
     go_wp2
     go_roundw
     case rel => exact ⟨n + 1, A', c', _, _, CA, cn, cc, _, rfl, by go_num, by omega, by omega, hp9⟩
     case measure => simp [intOf] <;> omega





   ·refine wy ?_
    go_simp
    clear hHeld
    go_at_call 40
    (with_reducible refine (H3.out _ bb).mono ?_)
    rintro e V1 ⟨r, rfl, hr, bn⟩
    go_wp2_with fail
    refine hK.out _ _ (HS.out _ (bb.trans bn)) fun hHeld => ?_
    clear hK K
    replace bb := bb.trans bn
    clear bn
    refine tkC 9 ?_
    refine tkC 10 ?_
    refine rd2 5 11 (fun K hK => ?_) (fun K hK => ?_)
    ·have yL := (bb.st _ HO.out.hm).cell 5 (by decide) rfl
     change V1.cell? ⟨gm, 5, none⟩ = some (.slice A n c) at yL
     refine wy ?_
     go_simp
     clear hHeld
     refine hK.out _ _ (held1 _) fun hHeld => ?_
     clear hK K
     clear yL
     refine rd1 11 fun K hK => ?_
     refine wy ?_
     go_simp
     clear hHeld
     refine hK.out _ _ (held1 _) fun hHeld => ?_
     clear hK K
     obtain ⟨V2, hV⟩ := world_of hHeld
     obtain ⟨ig, hnw⟩ : ∃ ig : Bool, (0 < 1 → ∃ b o, some (⟨V1.heap.size, 0, none⟩ : Addr) = some ⟨b, o, none⟩ ∧ ∀ j u, [Value.int .i64 kd, .bool ig, .slice none 0 0][j]? = some u → V2.cell? ⟨b, o + j, none⟩ = some u) := by
      rw [hV]
      exact ⟨_, news_new _ _ _⟩
     have bb2 : Up gm wr V2 := by rw [hV]; exact bb.alloc (by have := bb.size; omega) _
     rw [← hV] at hHeld
     rw [← hV]
     clear hV bb
     have bb := bb2
     clear bb2
     have hst := HO.out.upd hg bb
     refine rd1 12 fun K hK => ?_
     clear hHeld
     have how := hst.row.ow
     have hs4 : w.heap.size ≤ V2.heap.size := by have := bb.size; omega
     refine appStep elt_look (by kernel_rfl) _ _ rfl V2 (w.heap.size) _ _ _ (css.flatten) _ 1 1 [.int .i64 kd, .bool ig, .slice none 0 0] (by rfl) (by rfl) how rfl hnw (by simp [Value.oneCell']) (by omega) hs4 ?_
     intro A' c' W4 ho4 hg4 hb4 hat4
     obtain ⟨hm4, hp9⟩ := hst.push hg ho4 hg4 hb4 hat4
     have g0 := hm4.cell 5 (by decide) rfl
     change W4.cell? ⟨gm, 5, none⟩ = some (.slice A n c) at g0
     obtain ⟨a4, l4, _, hk4, _⟩ := hm4
     have z0 := hk4.frozen 5
     clear ho4 hg4 hb4 hat4 how hs4 hnw hst hk4
     refine hkG hK (held1 _) fun hHeld => ?_
     clear hK K
     refine tkC 13 ?_
     refine tkC 14 ?_
     refine tkC 15 ?_
     refine rd1 16 fun K hK => ?_
     refine wy ?_
     go_simp
     clear hHeld
     refine hK.out _ _ (held1 _) fun hHeld => ?_
     clear hK K
     refine wpAnyH_done (by kernel_rfl) ?_ _
     clear hHeld HS g0 z0 bb HO H3
     obtain ⟨w9, hw9⟩ : ∃ x : World, W4.setCell ⟨gm, 5, none⟩ (.slice A' (n + 1) c') = x := ⟨_, rfl⟩
     rw [hw9] at hp9 ⊢
     clear hw9
     go_upto_region 7 with fail
     by_cases hk4 : kd ≤ 4
     ·have k4 : decide (kd ≤ 4) = true := by simpa using hk4
      have bz : Below w9.heap.size w9 (w9.alloc (.cells #[.int .i64 (n : Int)] 3)) := below_lit _ _ (Below.refl _ _) _
      have hst2 := hp9.upd hg ((Up.refl gm w9).alloc (by have := hp9.gr.size; omega) (.cells #[.int .i64 (n : Int)] 3))
      have hs3 : w.heap.size ≤ (w9.alloc (.cells #[.int .i64 (n : Int)] 3)).heap.size := hst2.gr.size
      go_wp2_with (at_builtin; refine appP elt_int rfl _ _ rfl (w9.alloc (.cells #[.int .i64 (n : Int)] 3)) w.heap.size _ _ _ (ic cxs) _ 1 1 [.int .i64 (n : Int)] (by rfl) (by rfl) hst2.cal rfl (fun _ => news_new _ _ _ (by omega)) (by simp [Value.oneCell']) (by omega) hs3 ?_; intro A2 c2 W4 ho4 hg4 hb4 hat4)
      have hp10 := hst2.pushCal hg ho4 hg4 hb4 hat4
      clear ho4 hg4 hb4 hat4 hst2 hs3 bz hp9
      go_roundw
      case rel => exact ⟨n + 1, A', c', _, _, A2, cn + 1, c2, _, rfl, by go_num, by omega, by omega, hp10⟩
      case measure => simp [intOf] <;> omega
     ·have k4 : decide (kd ≤ 4) = false := by simpa using hk4
      go_wp2
      go_roundw
      case rel => exact ⟨n + 1, A', c', _, _, CA, cn, cc, _, rfl, by go_num, by omega, by omega, hp9⟩
      case measure => simp [intOf] <;> omega




    ·refine wy ?_
     go_simp
     clear hHeld
     refine hK.out _ _ (held1 _) fun hHeld => ?_
     clear hK K
     obtain ⟨V2, hV⟩ := world_of hHeld
     obtain ⟨ig, hnw⟩ : ∃ ig : Bool, (0 < 1 → ∃ b o, some (⟨V1.heap.size, 0, none⟩ : Addr) = some ⟨b, o, none⟩ ∧ ∀ j u, [Value.int .i64 kd, .bool ig, .slice none 0 0][j]? = some u → V2.cell? ⟨b, o + j, none⟩ = some u) := by
      rw [hV]
      exact ⟨_, news_new _ _ _⟩
     have bb2 : Up gm wr V2 := by rw [hV]; exact bb.alloc (by have := bb.size; omega) _
     rw [← hV] at hHeld
     rw [← hV]
     clear hV bb
     have bb := bb2
     clear bb2
     have hst := HO.out.upd hg bb
     refine rd1 5 fun K hK => ?_
     have yL := (bb.st _ HO.out.hm).cell 5 (by decide) rfl
     change V2.cell? ⟨gm, 5, none⟩ = some (.slice A n c) at yL
     refine wy ?_
     go_simp
     clear hHeld
     refine hK.out _ _ (held1 _) fun hHeld => ?_
     clear hK K
     clear yL
     refine rd1 12 fun K hK => ?_
     clear hHeld
     have how := hst.row.ow
     have hs4 : w.heap.size ≤ V2.heap.size := by have := bb.size; omega
     refine appStep elt_look (by kernel_rfl) _ _ rfl V2 (w.heap.size) _ _ _ (css.flatten) _ 1 1 [.int .i64 kd, .bool ig, .slice none 0 0] (by rfl) (by rfl) how rfl hnw (by simp [Value.oneCell']) (by omega) hs4 ?_
     intro A' c' W4 ho4 hg4 hb4 hat4
     obtain ⟨hm4, hp9⟩ := hst.push hg ho4 hg4 hb4 hat4
     have g0 := hm4.cell 5 (by decide) rfl
     change W4.cell? ⟨gm, 5, none⟩ = some (.slice A n c) at g0
     obtain ⟨a4, l4, _, hk4, _⟩ := hm4
     have z0 := hk4.frozen 5
     clear ho4 hg4 hb4 hat4 how hs4 hnw hst hk4
     refine hkG hK (held1 _) fun hHeld => ?_
     clear hK K
     refine tkC 13 ?_
     refine tkC 14 ?_
     refine tkC 15 ?_
     refine rd1 16 fun K hK => ?_
     refine wy ?_
     go_simp
     clear hHeld
     refine hK.out _ _ (held1 _) fun hHeld => ?_
     clear hK K
     refine wpAnyH_done (by kernel_rfl) ?_ _
     clear hHeld HS g0 z0 bb HO H3
     obtain ⟨w9, hw9⟩ : ∃ x : World, W4.setCell ⟨gm, 5, none⟩ (.slice A' (n + 1) c') = x := ⟨_, rfl⟩
     rw [hw9] at hp9 ⊢
     clear hw9
     go_upto_region 7 with fail
     by_cases hk4 : kd ≤ 4
     ·have k4 : decide (kd ≤ 4) = true := by simpa using hk4
      have bz : Below w9.heap.size w9 (w9.alloc (.cells #[.int .i64 (n : Int)] 3)) := below_lit _ _ (Below.refl _ _) _
      have hst2 := hp9.upd hg ((Up.refl gm w9).alloc (by have := hp9.gr.size; omega) (.cells #[.int .i64 (n : Int)] 3))
      have hs3 : w.heap.size ≤ (w9.alloc (.cells #[.int .i64 (n : Int)] 3)).heap.size := hst2.gr.size
      go_wp2_with (at_builtin; refine appP elt_int rfl _ _ rfl (w9.alloc (.cells #[.int .i64 (n : Int)] 3)) w.heap.size _ _ _ (ic cxs) _ 1 1 [.int .i64 (n : Int)] (by rfl) (by rfl) hst2.cal rfl (fun _ => news_new _ _ _ (by omega)) (by simp [Value.oneCell']) (by omega) hs3 ?_; intro A2 c2 W4 ho4 hg4 hb4 hat4)
      have hp10 := hst2.pushCal hg ho4 hg4 hb4 hat4
      clear ho4 hg4 hb4 hat4 hst2 hs3 bz hp9
      go_roundw
      case rel => exact ⟨n + 1, A', c', _, _, A2, cn + 1, c2, _, rfl, by go_num, by omega, by omega, hp10⟩
      case measure => simp [intOf] <;> omega
     ·have k4 : decide (kd ≤ 4) = false := by simpa using hk4
      go_wp2
      go_roundw
      case rel => exact ⟨n + 1, A', c', _, _, CA, cn, cc, _, rfl, by go_num, by omega, by omega, hp9⟩
      case measure => simp [intOf] <;> omega






  ·have in0 : ¬ (n : Int) < (m : Int) := by omega
   have hnm : n = m := by omega
   have hcn6 : cn ≤ 6 := by omega
   rw [hnm] at hst
   clear hnm hlt hi
   go_upto_region 10 with fail
   obtain ⟨w5, hw5⟩ : ∃ x, wr = x := ⟨_, rfl⟩
   rw [hw5] at hst ⊢
   clear hw5 wr in0
   go_loopw [6] (fun iv wr => ∃ (i : Nat) (A : Option Addr) (c : Nat) (css : List (List Value)) (lks : List Lk), iv = .int .i64 (i : Int) ∧ i ≤ m ∧ LuS gm w wr s A m c css lks CA cn cc cxs i) (fun iv _ => m - (intOf iv).toNat)
   case atStart => exact ⟨0, _, _, _, _, rfl, by omega, hst⟩
   case round =>
    clear hst A c css lks
    obtain ⟨i, A, c, css, lks, rfl, hi, hst⟩ := hrel
    by_cases hlt : i < m
    ·have in0 : (i : Int) < (m : Int) := by omega
     have iz : (0 : Int) ≤ (i : Int) := by omega
     obtain ⟨l, hl⟩ := at_some lks i (by have := hst.len.1; omega)
     have hlr := hst.start hl
     obtain ⟨gl, hAg, hgl, _, y0, _, _⟩ := hlr.at
     have y5 : wr.cell? ⟨gm, 5, none⟩ = some (.slice A m c) := hst.hm.cell 5 (by decide) rfl
     rw [hAg] at y5
     obtain ⟨kd, hkd⟩ : ∃ k, l.kind = k := ⟨_, rfl⟩
     rw [hkd] at y0
     by_cases hk7 : 7 ≤ kd
     ·have k7 : decide (7 ≤ kd) = true := by simpa using hk7
      have hp := hst.pass
      clear hlr hst hl hkd
      go_wp2
      go_roundw
      case rel => exact ⟨i + 1, A, c, css, lks, by go_num, by omega, hp⟩
      case measure => simp [intOf] <;> omega
     ·have k7 : decide (7 ≤ kd) = false := by simpa using hk7
      rw [hkd] at hlr
      clear hst hl hkd
      have HC := Lib.hid (show Calls Tryd.prog 40 #[.pointer (some ⟨gm, 0, none⟩), .int .i64 3] wr (NextR gm 3 wr) from bnext_c gm 3 _ wr hlr.hm (by omega) (by omega))
      go_wp2_with fail
      refine HC.out.mono ?_
      rintro e w6 ⟨r, rfl, hr, hu6⟩
      have hlr6 := hlr.upd hg hu6
      clear HC hlr hu6 y0 y5 k7
      go_upto_region 15 with fail
      obtain ⟨ig, hig⟩ : ∃ b, l.ign = b := ⟨_, rfl⟩
      rw [hig] at hlr6
      clear hig l hAg
      go_loopw [8] (fun rv wr => ∃ (A : Option Addr) (css : List (List Value)) (RA : Option Addr) (rn rc : Nat) (rcss : List (List Value)) (rs : List Rul), rv = .int .i64 (rn : Int) ∧ rn ≤ 1 + r ∧ LuR gm w wr s A m c css lks CA cn cc cxs i kd ig RA rn rc rcss rs) (fun rv _ => 1 + r - (intOf rv).toNat)
      case atStart => exact ⟨_, _, _, 0, _, _, _, rfl, by omega, hlr6⟩
      case round =>
       clear hlr6
       obtain ⟨A, css, RA, rn, rc, rcss, rs, rfl, hrn, hlr⟩ := hrel
       by_cases hlr2 : rn < 1 + r
       ·have rn0 : (rn : Int) < 1 + (r : Int) := by omega
        obtain ⟨gl, rfl, hgl, _, y0, y2, _⟩ := hlr.at
        have HRL := Lib.hid fun (W : World) (bW : Up gm wr W) => brule_c gm (s.lk (some ⟨gl, 0, none⟩) m c) kd CA cn cc cxs W (bW.st _ hlr.hm) HGN.out.1 HGN.out.2 (rdb (bW.ow hlr.cal hg) (fun b e => by
         obtain ⟨h1, h2, _⟩ := (bW.ow hlr.cal hg).blk b e
         exact ⟨h2, by omega⟩)) hlr.cal.cap (by omega)
        have HO := Lib.hid hlr
        have hwl := hlr.gr.size
        have hwg : gm < wr.heap.size := by omega
        clear hlr
        go_upto_region 17 with fail
        have HS := Lib.hid fun (W : World) (bW : Up gm wr W) => (show Held1 W ∧ W.cell? ⟨gm, 5, none⟩ = some (.slice (some ⟨gl, 0, none⟩) m c) ∧ W.cell? ⟨gl, i * 3, none⟩ = some (.int .i64 kd) from ⟨held1 _, ⟨(bW.st _ HO.out.hm).cell 5 (by decide) rfl, bW.cell y0 (by show gl ≠ gm; omega)⟩⟩)
        have bb := Up.refl gm wr
        refine wp_region_held_drew (S := fun w' => Held1 w' ∧ w'.cell? ⟨gm, 5, none⟩ = some (.slice (some ⟨gl, 0, none⟩) m c) ∧ w'.cell? ⟨gl, i * 3, none⟩ = some (.int .i64 kd)) (by kernel_rfl) ?_ (fun hHeld => ?_)
        ·exact HS.out _ (bb.drewN 1)
        replace bb := bb.drewN 1
        change Up _ _ wr.drew at bb
        generalize hw0 : wr.drew = W0 at hHeld bb ⊢
        clear hw0
        refine tkC 0 ?_
        refine tkC 1 ?_
        refine tkC 2 ?_
        refine tkC 3 ?_
        refine tkC 4 ?_
        refine tkC 5 ?_
        refine tkC 6 ?_
        refine tkC 7 ?_
        refine tkC 8 ?_
        refine tkC 9 ?_
        refine tkC 10 ?_
        refine tkC 11 ?_
        refine tkC 12 ?_
        refine tkC 13 ?_
        refine tkC 15 ?_
        refine tkC 16 ?_
        refine tkC 17 ?_
        refine tkC 18 ?_
        refine tkC 19 ?_
        refine tkC 20 ?_
        refine tkC 21 ?_
        refine tkC 22 ?_
        refine tkC 23 ?_
        refine tkC 24 ?_
        refine tkC 25 ?_
        refine rd2 14 26 (fun K hK => ?_) (fun K hK => ?_)
        ·have yL := bb.cell y2 (by show gl ≠ gm; omega)
         refine wy ?_
         go_simp
         clear hHeld
         refine hK.out _ _ (HS.out _ bb) fun hHeld => ?_
         clear hK K
         clear yL
         refine rd1 26 fun K hK => ?_
         refine wy ?_
         go_simp
         clear hHeld
         go_at_call 71
         (with_reducible refine (HRL.out _ bb).mono ?_)
         rintro e V1 hrr
         obtain ⟨A1, n1, c1, A2, n2, c2, A3, n3, c3, A4, n4, c4, A5, n5, c5, u, rfl, hE, hUB, bn⟩ := hrr.open
         clear hrr
         go_wp2_with fail
         refine hK.out _ _ (HS.out _ (bb.trans bn)) fun hHeld => ?_
         clear hK K
         have hE2 : ERul V1 (fun b => wr.heap.size ≤ b ∧ b < V1.heap.size) [.slice A1 n1 c1, .slice A2 n2 c2, .slice A3 n3 c3, .slice A4 n4 c4, .slice A5 n5 c5, .int .i64 u.x] u := em_rul.mono hE (fun b hb => ⟨Nat.le_trans bb.size hb.1, hb.2⟩) (Kept.refl _ _)
         replace bb := bb.trans bn
         clear bn hE
         refine rd1 27 fun K hK => ?_
         refine wy ?_
         go_simp
         clear hHeld
         refine hK.out _ _ (HS.out _ (bb.alloc (by have := bb.size; omega) _)) fun hHeld => ?_
         clear hK K
         have bz : Below V1.heap.size V1 (V1.alloc (.cells #[.slice A1 n1 c1, .slice A2 n2 c2, .slice A3 n3 c3, .slice A4 n4 c4, .slice A5 n5 c5, .int .i64 u.x] 58)) := below_lit _ _ (Below.refl _ _) _
         have bb2 := bb.alloc (by have := bb.size; omega) (.cells #[.slice A1 n1 c1, .slice A2 n2 c2, .slice A3 n3 c3, .slice A4 n4 c4, .slice A5 n5 c5, .int .i64 u.x] 58)
         have hnw := news_new V1 [.slice A1 n1 c1, .slice A2 n2 c2, .slice A3 n3 c3, .slice A4 n4 c4, .slice A5 n5 c5, .int .i64 u.x] 58
         have hst := HO.out.upd hg bb2
         have hXlt : ∀ b ∈ bl (some (⟨gl, 0, none⟩ : Addr)) ++ (bl CA ++ bl RA), b < wr.heap.size := fun b hb => by
          rcases List.mem_append.1 hb with hb | hb
          ·exact (bl_lt HO.out.ow b hb).2
          ·rcases List.mem_append.1 hb with hb | hb
           ·exact (bl_lt HO.out.cal b hb).2
           ·exact (bl_lt HO.out.rr.ow b hb).2
         have hE : ERul (V1.alloc (.cells #[.slice A1 n1 c1, .slice A2 n2 c2, .slice A3 n3 c3, .slice A4 n4 c4, .slice A5 n5 c5, .int .i64 u.x] 58)) (Fz w.heap.size (V1.alloc (.cells #[.slice A1 n1 c1, .slice A2 n2 c2, .slice A3 n3 c3, .slice A4 n4 c4, .slice A5 n5 c5, .int .i64 u.x] 58)) (bl (some (⟨gl, 0, none⟩ : Addr)) ++ (bl CA ++ bl RA))) [.slice A1 n1 c1, .slice A2 n2 c2, .slice A3 n3 c3, .slice A4 n4 c4, .slice A5 n5 c5, .int .i64 u.x] u := em_rul.mono hE2 (fun b hb => ⟨by omega, Nat.lt_of_lt_of_le hb.2 bz.size, fun h3 => by have := hXlt b h3; omega⟩) (fun b hb => bz.block b hb.2)
         clear bb bz hE2 hXlt
         have bb := bb2
         clear bb2
         change 0 < 1 → ∃ b o, _ ∧ ∀ j uu, _ → (V1.alloc (.cells #[.slice A1 n1 c1, .slice A2 n2 c2, .slice A3 n3 c3, .slice A4 n4 c4, .slice A5 n5 c5, .int .i64 u.x] 58)).cell? _ = _ at hnw
         obtain ⟨V2, hV⟩ : ∃ wN, V1.alloc (.cells #[.slice A1 n1 c1, .slice A2 n2 c2, .slice A3 n3 c3, .slice A4 n4 c4, .slice A5 n5 c5, .int .i64 u.x] 58) = wN := ⟨_, rfl⟩
         rw [hV] at hnw hst bb hHeld hE ⊢
         clear hV
         refine rd1 28 fun K hK => ?_
         clear hHeld
         have how := hst.rr.ow
         have hs4 : w.heap.size ≤ V2.heap.size := by have := bb.size; omega
         refine appStep elt_rule (by kernel_rfl) _ _ rfl V2 (w.heap.size) _ _ _ (rcss.flatten) _ 1 1 [.slice A1 n1 c1, .slice A2 n2 c2, .slice A3 n3 c3, .slice A4 n4 c4, .slice A5 n5 c5, .int .i64 u.x] (by rfl) (by rfl) how rfl hnw (by simp [Value.oneCell']) (by omega) hs4 ?_
         intro A' c' W4 ho4 hg4 hb4 hat4
         obtain ⟨g0, g2, z2, hm4, hp9⟩ := hst.push hg rfl hE hUB ho4 hg4 hb4 hat4
         have g5 := hm4.cell 5 (by decide) rfl
         change W4.cell? ⟨gm, 5, none⟩ = some (.slice (some ⟨gl, 0, none⟩) m c) at g5
         clear ho4 hg4 hb4 hat4 how hs4 hnw hst hE
         refine hkG hK (⟨held1 _, g5, g0⟩) fun hHeld => ?_
         clear hK K
         refine tkC 29 ?_
         refine tkC 30 ?_
         refine rd1 31 fun K hK => ?_
         have q0 : (W4.setCell ⟨gl, i * 3 + 2, none⟩ (.slice A' (rn + 1) c')).cell? ⟨gl, i * 3, none⟩ = some (.int .i64 kd) := by
          obtain ⟨gl2, e2, _, _, q0, _, _⟩ := hp9.at
          injection e2 with e2; injection e2 with e2
          rw [← e2] at q0; exact q0
         have q5 := hp9.hm.cell 5 (by decide) rfl
         refine wy ?_
         go_simp
         clear hHeld
         refine hK.out _ _ (⟨held1 _, q5, q0⟩) fun hHeld => ?_
         clear hK K
         refine wpAnyH_done (by kernel_rfl) ?_ _
         clear hHeld HS g0 g2 z2 g5 bb HO HRL
         go_wp2_with fail
         go_roundw
         case rel => exact ⟨_, _, A', rn + 1, c', _, _, by go_num, by omega, hp9⟩
         case measure => simp [intOf] <;> omega





        ·refine wy ?_
         go_simp
         clear hHeld
         go_at_call 71
         (with_reducible refine (HRL.out _ bb).mono ?_)
         rintro e V1 hrr
         obtain ⟨A1, n1, c1, A2, n2, c2, A3, n3, c3, A4, n4, c4, A5, n5, c5, u, rfl, hE, hUB, bn⟩ := hrr.open
         clear hrr
         go_wp2_with fail
         refine hK.out _ _ (HS.out _ (bb.trans bn)) fun hHeld => ?_
         clear hK K
         have hE2 : ERul V1 (fun b => wr.heap.size ≤ b ∧ b < V1.heap.size) [.slice A1 n1 c1, .slice A2 n2 c2, .slice A3 n3 c3, .slice A4 n4 c4, .slice A5 n5 c5, .int .i64 u.x] u := em_rul.mono hE (fun b hb => ⟨Nat.le_trans bb.size hb.1, hb.2⟩) (Kept.refl _ _)
         replace bb := bb.trans bn
         clear bn hE
         refine rd2 14 27 (fun K hK => ?_) (fun K hK => ?_)
         ·have yL := bb.cell y2 (by show gl ≠ gm; omega)
          refine wy ?_
          go_simp
          clear hHeld
          refine hK.out _ _ (HS.out _ bb) fun hHeld => ?_
          clear hK K
          clear yL
          refine rd1 27 fun K hK => ?_
          refine wy ?_
          go_simp
          clear hHeld
          refine hK.out _ _ (HS.out _ (bb.alloc (by have := bb.size; omega) _)) fun hHeld => ?_
          clear hK K
          have bz : Below V1.heap.size V1 (V1.alloc (.cells #[.slice A1 n1 c1, .slice A2 n2 c2, .slice A3 n3 c3, .slice A4 n4 c4, .slice A5 n5 c5, .int .i64 u.x] 58)) := below_lit _ _ (Below.refl _ _) _
          have bb2 := bb.alloc (by have := bb.size; omega) (.cells #[.slice A1 n1 c1, .slice A2 n2 c2, .slice A3 n3 c3, .slice A4 n4 c4, .slice A5 n5 c5, .int .i64 u.x] 58)
          have hnw := news_new V1 [.slice A1 n1 c1, .slice A2 n2 c2, .slice A3 n3 c3, .slice A4 n4 c4, .slice A5 n5 c5, .int .i64 u.x] 58
          have hst := HO.out.upd hg bb2
          have hXlt : ∀ b ∈ bl (some (⟨gl, 0, none⟩ : Addr)) ++ (bl CA ++ bl RA), b < wr.heap.size := fun b hb => by
           rcases List.mem_append.1 hb with hb | hb
           ·exact (bl_lt HO.out.ow b hb).2
           ·rcases List.mem_append.1 hb with hb | hb
            ·exact (bl_lt HO.out.cal b hb).2
            ·exact (bl_lt HO.out.rr.ow b hb).2
          have hE : ERul (V1.alloc (.cells #[.slice A1 n1 c1, .slice A2 n2 c2, .slice A3 n3 c3, .slice A4 n4 c4, .slice A5 n5 c5, .int .i64 u.x] 58)) (Fz w.heap.size (V1.alloc (.cells #[.slice A1 n1 c1, .slice A2 n2 c2, .slice A3 n3 c3, .slice A4 n4 c4, .slice A5 n5 c5, .int .i64 u.x] 58)) (bl (some (⟨gl, 0, none⟩ : Addr)) ++ (bl CA ++ bl RA))) [.slice A1 n1 c1, .slice A2 n2 c2, .slice A3 n3 c3, .slice A4 n4 c4, .slice A5 n5 c5, .int .i64 u.x] u := em_rul.mono hE2 (fun b hb => ⟨by omega, Nat.lt_of_lt_of_le hb.2 bz.size, fun h3 => by have := hXlt b h3; omega⟩) (fun b hb => bz.block b hb.2)
          clear bb bz hE2 hXlt
          have bb := bb2
          clear bb2
          change 0 < 1 → ∃ b o, _ ∧ ∀ j uu, _ → (V1.alloc (.cells #[.slice A1 n1 c1, .slice A2 n2 c2, .slice A3 n3 c3, .slice A4 n4 c4, .slice A5 n5 c5, .int .i64 u.x] 58)).cell? _ = _ at hnw
          obtain ⟨V2, hV⟩ : ∃ wN, V1.alloc (.cells #[.slice A1 n1 c1, .slice A2 n2 c2, .slice A3 n3 c3, .slice A4 n4 c4, .slice A5 n5 c5, .int .i64 u.x] 58) = wN := ⟨_, rfl⟩
          rw [hV] at hnw hst bb hHeld hE ⊢
          clear hV
          refine rd1 28 fun K hK => ?_
          clear hHeld
          have how := hst.rr.ow
          have hs4 : w.heap.size ≤ V2.heap.size := by have := bb.size; omega
          refine appStep elt_rule (by kernel_rfl) _ _ rfl V2 (w.heap.size) _ _ _ (rcss.flatten) _ 1 1 [.slice A1 n1 c1, .slice A2 n2 c2, .slice A3 n3 c3, .slice A4 n4 c4, .slice A5 n5 c5, .int .i64 u.x] (by rfl) (by rfl) how rfl hnw (by simp [Value.oneCell']) (by omega) hs4 ?_
          intro A' c' W4 ho4 hg4 hb4 hat4
          obtain ⟨g0, g2, z2, hm4, hp9⟩ := hst.push hg rfl hE hUB ho4 hg4 hb4 hat4
          have g5 := hm4.cell 5 (by decide) rfl
          change W4.cell? ⟨gm, 5, none⟩ = some (.slice (some ⟨gl, 0, none⟩) m c) at g5
          clear ho4 hg4 hb4 hat4 how hs4 hnw hst hE
          refine hkG hK (⟨held1 _, g5, g0⟩) fun hHeld => ?_
          clear hK K
          refine tkC 29 ?_
          refine tkC 30 ?_
          refine rd1 31 fun K hK => ?_
          have q0 : (W4.setCell ⟨gl, i * 3 + 2, none⟩ (.slice A' (rn + 1) c')).cell? ⟨gl, i * 3, none⟩ = some (.int .i64 kd) := by
           obtain ⟨gl2, e2, _, _, q0, _, _⟩ := hp9.at
           injection e2 with e2; injection e2 with e2
           rw [← e2] at q0; exact q0
          have q5 := hp9.hm.cell 5 (by decide) rfl
          refine wy ?_
          go_simp
          clear hHeld
          refine hK.out _ _ (⟨held1 _, q5, q0⟩) fun hHeld => ?_
          clear hK K
          refine wpAnyH_done (by kernel_rfl) ?_ _
          clear hHeld HS g0 g2 z2 g5 bb HO HRL
          go_wp2_with fail
          go_roundw
          case rel => exact ⟨_, _, A', rn + 1, c', _, _, by go_num, by omega, hp9⟩
          case measure => simp [intOf] <;> omega




         ·refine wy ?_
          go_simp
          clear hHeld
          refine hK.out _ _ (HS.out _ (bb.alloc (by have := bb.size; omega) _)) fun hHeld => ?_
          clear hK K
          have bz : Below V1.heap.size V1 (V1.alloc (.cells #[.slice A1 n1 c1, .slice A2 n2 c2, .slice A3 n3 c3, .slice A4 n4 c4, .slice A5 n5 c5, .int .i64 u.x] 58)) := below_lit _ _ (Below.refl _ _) _
          have bb2 := bb.alloc (by have := bb.size; omega) (.cells #[.slice A1 n1 c1, .slice A2 n2 c2, .slice A3 n3 c3, .slice A4 n4 c4, .slice A5 n5 c5, .int .i64 u.x] 58)
          have hnw := news_new V1 [.slice A1 n1 c1, .slice A2 n2 c2, .slice A3 n3 c3, .slice A4 n4 c4, .slice A5 n5 c5, .int .i64 u.x] 58
          have hst := HO.out.upd hg bb2
          have hXlt : ∀ b ∈ bl (some (⟨gl, 0, none⟩ : Addr)) ++ (bl CA ++ bl RA), b < wr.heap.size := fun b hb => by
           rcases List.mem_append.1 hb with hb | hb
           ·exact (bl_lt HO.out.ow b hb).2
           ·rcases List.mem_append.1 hb with hb | hb
            ·exact (bl_lt HO.out.cal b hb).2
            ·exact (bl_lt HO.out.rr.ow b hb).2
          have hE : ERul (V1.alloc (.cells #[.slice A1 n1 c1, .slice A2 n2 c2, .slice A3 n3 c3, .slice A4 n4 c4, .slice A5 n5 c5, .int .i64 u.x] 58)) (Fz w.heap.size (V1.alloc (.cells #[.slice A1 n1 c1, .slice A2 n2 c2, .slice A3 n3 c3, .slice A4 n4 c4, .slice A5 n5 c5, .int .i64 u.x] 58)) (bl (some (⟨gl, 0, none⟩ : Addr)) ++ (bl CA ++ bl RA))) [.slice A1 n1 c1, .slice A2 n2 c2, .slice A3 n3 c3, .slice A4 n4 c4, .slice A5 n5 c5, .int .i64 u.x] u := em_rul.mono hE2 (fun b hb => ⟨by omega, Nat.lt_of_lt_of_le hb.2 bz.size, fun h3 => by have := hXlt b h3; omega⟩) (fun b hb => bz.block b hb.2)
          clear bb bz hE2 hXlt
          have bb := bb2
          clear bb2
          change 0 < 1 → ∃ b o, _ ∧ ∀ j uu, _ → (V1.alloc (.cells #[.slice A1 n1 c1, .slice A2 n2 c2, .slice A3 n3 c3, .slice A4 n4 c4, .slice A5 n5 c5, .int .i64 u.x] 58)).cell? _ = _ at hnw
          obtain ⟨V2, hV⟩ : ∃ wN, V1.alloc (.cells #[.slice A1 n1 c1, .slice A2 n2 c2, .slice A3 n3 c3, .slice A4 n4 c4, .slice A5 n5 c5, .int .i64 u.x] 58) = wN := ⟨_, rfl⟩
          rw [hV] at hnw hst bb hHeld hE ⊢
          clear hV
          refine rd1 14 fun K hK => ?_
          have yL := bb.cell y2 (by show gl ≠ gm; omega)
          refine wy ?_
          go_simp
          clear hHeld
          refine hK.out _ _ (HS.out _ bb) fun hHeld => ?_
          clear hK K
          clear yL
          refine rd1 28 fun K hK => ?_
          clear hHeld
          have how := hst.rr.ow
          have hs4 : w.heap.size ≤ V2.heap.size := by have := bb.size; omega
          refine appStep elt_rule (by kernel_rfl) _ _ rfl V2 (w.heap.size) _ _ _ (rcss.flatten) _ 1 1 [.slice A1 n1 c1, .slice A2 n2 c2, .slice A3 n3 c3, .slice A4 n4 c4, .slice A5 n5 c5, .int .i64 u.x] (by rfl) (by rfl) how rfl hnw (by simp [Value.oneCell']) (by omega) hs4 ?_
          intro A' c' W4 ho4 hg4 hb4 hat4
          obtain ⟨g0, g2, z2, hm4, hp9⟩ := hst.push hg rfl hE hUB ho4 hg4 hb4 hat4
          have g5 := hm4.cell 5 (by decide) rfl
          change W4.cell? ⟨gm, 5, none⟩ = some (.slice (some ⟨gl, 0, none⟩) m c) at g5
          clear ho4 hg4 hb4 hat4 how hs4 hnw hst hE
          refine hkG hK (⟨held1 _, g5, g0⟩) fun hHeld => ?_
          clear hK K
          refine tkC 29 ?_
          refine tkC 30 ?_
          refine rd1 31 fun K hK => ?_
          have q0 : (W4.setCell ⟨gl, i * 3 + 2, none⟩ (.slice A' (rn + 1) c')).cell? ⟨gl, i * 3, none⟩ = some (.int .i64 kd) := by
           obtain ⟨gl2, e2, _, _, q0, _, _⟩ := hp9.at
           injection e2 with e2; injection e2 with e2
           rw [← e2] at q0; exact q0
          have q5 := hp9.hm.cell 5 (by decide) rfl
          refine wy ?_
          go_simp
          clear hHeld
          refine hK.out _ _ (⟨held1 _, q5, q0⟩) fun hHeld => ?_
          clear hK K
          refine wpAnyH_done (by kernel_rfl) ?_ _
          clear hHeld HS g0 g2 z2 g5 bb HO HRL
          go_wp2_with fail
          go_roundw
          case rel => exact ⟨_, _, A', rn + 1, c', _, _, by go_num, by omega, hp9⟩
          case measure => simp [intOf] <;> omega






       ·have rn0 : ¬ (rn : Int) < 1 + (r : Int) := by omega
        have hp := hlr.done (by omega)
        clear hlr
        go_wp2
        go_roundw
        case rel => exact ⟨i + 1, A, c, css, _, by go_num, by omega, hp⟩
        case measure => simp [intOf] <;> omega
    ·have in0 : ¬ (i : Int) < (m : Int) := by omega
     have HF := Lib.hid hst
     clear hst
     go_wp2
     go_end0
     exact ⟨A, m, c, css, lks, rfl, by omega, HF.out.hm, HF.out.row.wide em_lk (fun b _ _ h => List.mem_append_left _ h) (fun b e => bl_in.2 e), HF.out.lb, HF.out.gr⟩


end Go.Proofs.YtgcmedkaadagmaaDoor
