/- Walks: the document's Build. -/
import Derived.Test.YtgcmedkaadagmaaDoorX5
import Derived.Test.YtgcmedkaadagmaaDoorS6W17
import Derived.Test.YtgcmedkaadagmaaDoorV20
namespace Go.Proofs.YtgcmedkaadagmaaDoor
open Go.RowKit Go.Shelf Go.Maps

theorem rpartition_c (n : Nat) (A : Option Addr) (m c : Nat) (xss : List (List Int)) (w : World) (hR : RdV w (lo w.heap.size) A m xss) (hn1 : 1 ≤ n) (hn2 : n ≤ 65536) (hm : m ≤ 100) (hl : ∀ xs ∈ xss, xs.length ≤ 1000) :
  Calls Tryd.prog 49 #[.int .i64 n, .slice A m c] w fun e w' => ∃ A' c', e = .returned (.slice A' n c') ∧ Ow 3 1 w' w.heap.size A' n c' (ic (S6.partL xss n)) ∧ Below w.heap.size w w' :=
 (S6.rpart_c n A m c xss w (rds_of hR) hn1 hn2 hm hl).mono fun _ _ ⟨A', c', h1, h2, h3⟩ => ⟨A', c', h1, ow_of h2, h3⟩
theorem repG_succ (rs : List Rul) (n : Nat) : repG rs (n + 1) = if (S6.classOf (S6.sig (setsL rs)) n : Int) = (repG rs n).length then repG rs n ++ [(n : Int)] else repG rs n := repF_succ _ n
theorem repG_le (rs : List Rul) : ∀ n, (repG rs n).length ≤ n
 | 0 => by simp [repG, repF]
 | n + 1 => by
  have h := repG_le rs n
  rw [repG_succ]
  split
  ·rw [List.length_append]; simp; exact h
  ·omega
set_option maxRecDepth 100000 in
set_option maxHeartbeats 4000000 in
theorem dbuild_c (f : FV) (F : Fnt) (k : Int) (w : World) (hf : IsF w (lo w.heap.size) f F) (hs : ∀ lk, lkAt F k = some lk → lk.rules.length ≤ 64 → SmB lk.rules) (hx : ∀ lk, lkAt F k = some lk → lk.rules.length ≤ 64 → ∃ a, autoL lk.rules F.gly.length = some a) :
  Calls Tryd.prog 26 #[.agg f.cells, .int .i64 k] w (BuildR w F k) := by
 obtain ⟨u0, ga, gn, gc, ca, cn, cc, la, ln, lc, a4, n4, c4, a5, n5, c5, a6, n6, c6, a7, n7, c7, a8, n8, c8⟩ := f
 obtain ⟨hg, hl, dg, dl⟩ := hf
 unfold FV.cells
 dsimp only at hg hl dg dl ⊢
 have lg := hg.len
 have ll := hl.len
 have dg1 := dg.1
 have dg2 := dg.2
 have dl1 := dl.1
 have dl2 := dl.2
 have k0 := (Bk.new w 33 #[.int .i64 u0, .slice ga gn gc, .slice ca cn cc, .slice la ln lc, .slice a4 n4 c4, .slice a5 n5 c5, .slice a6 n6 c6, .slice a7 n7 c7, .slice a8 n8 c8]).alloc (.cells #[.slice none 0 0, .slice none 0 0, .slice none 0 0, .slice none 0 0, .slice none 0 0] 38)
 have b0 : Below w.heap.size w ((w.alloc (.cells #[.int .i64 u0, .slice ga gn gc, .slice ca cn cc, .slice la ln lc, .slice a4 n4 c4, .slice a5 n5 c5, .slice a6 n6 c6, .slice a7 n7 c7, .slice a8 n8 c8] 33)).alloc (.cells #[.slice none 0 0, .slice none 0 0, .slice none 0 0, .slice none 0 0, .slice none 0 0] 38)) := below_lit _ _ (below_lit _ _ (Below.refl _ _) _) _
 have bad1 : ∀ er, buildL F k = (none, er) → BuildR w F k (.returned (.tuple #[.agg #[.slice none 0 0, .slice none 0 0, .slice none 0 0, .slice none 0 0, .slice none 0 0], .int .i64 er])) ((w.alloc (.cells #[.int .i64 u0, .slice ga gn gc, .slice ca cn cc, .slice la ln lc, .slice a4 n4 c4, .slice a5 n5 c5, .slice a6 n6 c6, .slice a7 n7 c7, .slice a8 n8 c8] 33)).alloc (.cells #[.slice none 0 0, .slice none 0 0, .slice none 0 0, .slice none 0 0, .slice none 0 0] 38)) := fun er h => ⟨b0, by rw [h]⟩
 have HBAD := Lib.hid bad1
 have c1 : ((w.alloc (.cells #[.int .i64 u0, .slice ga gn gc, .slice ca cn cc, .slice la ln lc, .slice a4 n4 c4, .slice a5 n5 c5, .slice a6 n6 c6, .slice a7 n7 c7, .slice a8 n8 c8] 33)).alloc (.cells #[.slice none 0 0, .slice none 0 0, .slice none 0 0, .slice none 0 0, .slice none 0 0] 38)).cell? ⟨w.heap.size, 1, none⟩ = some (.slice ga gn gc) := box_cells k0 1 rfl
 have c3 : ((w.alloc (.cells #[.int .i64 u0, .slice ga gn gc, .slice ca cn cc, .slice la ln lc, .slice a4 n4 c4, .slice a5 n5 c5, .slice a6 n6 c6, .slice a7 n7 c7, .slice a8 n8 c8] 33)).alloc (.cells #[.slice none 0 0, .slice none 0 0, .slice none 0 0, .slice none 0 0, .slice none 0 0] 38)).cell? ⟨w.heap.size, 3, none⟩ = some (.slice la ln lc) := box_cells k0 3 rfl
 clear bad1
 by_cases h0 : k < 0
 ·have hb : buildL F k = (none, 1) := by unfold buildL lkAt; rw [if_pos h0]
  have t0 : decide (k < 0) = true := by simp; omega
  have HB := Lib.hid hb
  clear hg hl lg ll hs hb k0 hx
  go_enter Tryd.func26, Tryd.ntmps26
  go_wp2
  exact bodyPost_ret (v := .tuple #[.agg #[.slice none 0 0, .slice none 0 0, .slice none 0 0, .slice none 0 0, .slice none 0 0], .int .i64 1]) (by simp [results, Tryd.results26, go_sem]) rfl (HBAD.out 1 HB.out)

 have t0 : decide (k < 0) = false := by simp; omega
 by_cases h1 : (ln : Int) ≤ k
 ·have hb : buildL F k = (none, 1) := by unfold buildL lkAt; rw [if_neg h0, List.getElem?_eq_none (by omega)]
  have t1 : decide ((ln : Int) ≤ k) = true := by simp; omega
  have HB := Lib.hid hb
  clear hg hl lg ll hs hb k0 hx
  go_enter Tryd.func26, Tryd.ntmps26
  go_wp2
  exact bodyPost_ret (v := .tuple #[.agg #[.slice none 0 0, .slice none 0 0, .slice none 0 0, .slice none 0 0, .slice none 0 0], .int .i64 1]) (by simp [results, Tryd.results26, go_sem]) rfl (HBAD.out 1 HB.out)

 obtain ⟨j, rfl⟩ : ∃ j : Nat, k = j := ⟨k.toNat, by omega⟩
 have t1 : decide ((ln : Int) ≤ (j : Int)) = false := by simp; omega
 have t1' : decide (ln ≤ j) = false := by simp; omega
 obtain ⟨lk, hlk⟩ := at_some F.lks j (by omega)
 have hla : lkAt F (j : Int) = some lk := by unfold lkAt; rw [if_neg h0, Int.toNat_natCast]; exact hlk
 by_cases h2 : gn = 0
 ·have hb : buildL F (j : Int) = (none, 1) := by unfold buildL; rw [hla]; dsimp only; rw [if_pos (.inl (by omega))]
  have t2 : ((gn : Int) == 0) = true := by simp; omega
  have t2' : (gn == 0) = true := by simpa using h2
  have HB := Lib.hid hb
  clear hg hl lg ll hs hb k0 hx hla hlk h2
  go_enter Tryd.func26, Tryd.ntmps26
  go_wp2
  exact bodyPost_ret (v := .tuple #[.agg #[.slice none 0 0, .slice none 0 0, .slice none 0 0, .slice none 0 0, .slice none 0 0], .int .i64 1]) (by simp [results, Tryd.results26, go_sem]) rfl (HBAD.out 1 HB.out)

 have t2 : ((gn : Int) == 0) = false := by simp; omega
 have t2' : (gn == 0) = false := by simpa using h2
 by_cases h3 : 65536 < gn
 ·have hb : buildL F (j : Int) = (none, 1) := by unfold buildL; rw [hla]; dsimp only; rw [if_pos (.inr (by omega))]
  have t3 : decide ((65536 : Int) < (gn : Int)) = true := by simp; omega
  have t3' : decide (65536 < gn) = true := by simp; omega
  have HB := Lib.hid hb
  clear hg hl lg ll hs hb k0 hx hla hlk
  go_enter Tryd.func26, Tryd.ntmps26
  go_wp2
  exact bodyPost_ret (v := .tuple #[.agg #[.slice none 0 0, .slice none 0 0, .slice none 0 0, .slice none 0 0, .slice none 0 0], .int .i64 1]) (by simp [results, Tryd.results26, go_sem]) rfl (HBAD.out 1 HB.out)

 have t3 : decide ((65536 : Int) < (gn : Int)) = false := by simp; omega
 have t3' : decide (65536 < gn) = false := by simp; omega
 obtain ⟨b, o, hlaA, hbl, hcc⟩ := hl.pos (by omega)
 obtain ⟨cs, ⟨qa, qn, qc, rfl, hR, hq⟩, hcc2⟩ := hcc j lk hlk
 have lr := hR.len
 have x0 := (b0.cell (p := ⟨b, o + j * 3 + 0, none⟩) hbl).trans (hcc2 0 _ rfl)
 have x1 := (b0.cell (p := ⟨b, o + j * 3 + 1, none⟩) hbl).trans (hcc2 1 _ rfl)
 have x2 := (b0.cell (p := ⟨b, o + j * 3 + 2, none⟩) hbl).trans (hcc2 2 _ rfl)
 rw [Nat.add_zero] at x0
 have jz : (0 : Int) ≤ (j : Int) := by omega
 have jn : (j : Int) < (ln : Int) := by omega
 have hq1 := hq.1
 have hq2 := hq.2
 have kz := Bk.new (w.alloc (.cells #[.int .i64 u0, .slice ga gn gc, .slice ca cn cc, .slice la ln lc, .slice a4 n4 c4, .slice a5 n5 c5, .slice a6 n6 c6, .slice a7 n7 c7, .slice a8 n8 c8] 33)) 38 #[.slice none 0 0, .slice none 0 0, .slice none 0 0, .slice none 0 0, .slice none 0 0]
 rw [World.size_alloc] at kz
 have HEL := Lib.hid (show ELk w (lo w.heap.size) [.int .i64 lk.kind, .bool lk.ign, .slice qa qn qc] lk from ⟨qa, qn, qc, rfl, hR, hq⟩)
 clear hcc hcc2
 subst hlaA
 obtain ⟨w3, hw3⟩ : ∃ w3, ((w.alloc (.cells #[.int .i64 u0, .slice ga gn gc, .slice ca cn cc, .slice (some ⟨b, o, none⟩) ln lc, .slice a4 n4 c4, .slice a5 n5 c5, .slice a6 n6 c6, .slice a7 n7 c7, .slice a8 n8 c8] 33)).alloc (.cells #[.slice none 0 0, .slice none 0 0, .slice none 0 0, .slice none 0 0, .slice none 0 0] 38)).alloc (.cells #[.int .i64 lk.kind, .bool lk.ign, .slice qa qn qc] 55) = w3 := ⟨_, rfl⟩
 have bl3 := below_lit _ _ (Below.refl _ ((w.alloc (.cells #[.int .i64 u0, .slice ga gn gc, .slice ca cn cc, .slice (some ⟨b, o, none⟩) ln lc, .slice a4 n4 c4, .slice a5 n5 c5, .slice a6 n6 c6, .slice a7 n7 c7, .slice a8 n8 c8] 33)).alloc (.cells #[.slice none 0 0, .slice none 0 0, .slice none 0 0, .slice none 0 0, .slice none 0 0] 38))) (.cells #[.int .i64 lk.kind, .bool lk.ign, .slice qa qn qc] 55)
 have kf3 := k0.below bl3 k0.lt
 have kz3 := kz.below bl3 kz.lt
 have kl3 := Bk.new ((w.alloc (.cells #[.int .i64 u0, .slice ga gn gc, .slice ca cn cc, .slice (some ⟨b, o, none⟩) ln lc, .slice a4 n4 c4, .slice a5 n5 c5, .slice a6 n6 c6, .slice a7 n7 c7, .slice a8 n8 c8] 33)).alloc (.cells #[.slice none 0 0, .slice none 0 0, .slice none 0 0, .slice none 0 0, .slice none 0 0] 38)) 55 #[.int .i64 lk.kind, .bool lk.ign, .slice qa qn qc]
 have b3 := below_call b0 bl3
 rw [hw3] at kf3 kz3 kl3 b3
 have hs3 : w3.heap.size = w.heap.size + 1 + 1 + 1 := by rw [← hw3]; simp only [World.size_alloc]
 simp only [World.size_alloc] at kl3
 have y2 := box_cells kl3 2 rfl
 by_cases h4 : 64 < qn
 ·have t4 : decide ((64 : Int) < (qn : Int)) = true := by simp; omega
  have t4' : decide (64 < qn) = true := by simp; omega
  have hb : buildL F (j : Int) = (none, 2) := by unfold buildL; rw [hla]; dsimp only; rw [if_neg (by omega), if_pos (by omega)]
  have HB := Lib.hid hb
  have hkS := store5_bk kz3 (.slice none 0 0) (.slice none 0 0) (.slice none 0 0) (.slice none 0 0) (.slice none 0 0)
  have hbS := store5_below (g := w.heap.size + 1) b3 (by omega) (.slice none 0 0) (.slice none 0 0) (.slice none 0 0) (.slice none 0 0) (.slice none 0 0)
  have z0 := box_cells kz3 0 rfl
  have zf0 := kz3.frozen 0
  have z1 := box_cells kz3 1 rfl
  have zf1 := kz3.frozen 1
  have z2 := box_cells kz3 2 rfl
  have zf2 := kz3.frozen 2
  have z3 := box_cells kz3 3 rfl
  have zf3 := kz3.frozen 3
  have z4 := box_cells kz3 4 rfl
  have zf4 := kz3.frozen 4
  unfold store5 at hkS hbS
  have HS := Lib.hid (And.intro hkS hbS)
  have HW3 := Lib.hid hw3
  clear hg hl lg ll hs hb k0 hx hla hlk hR hq hkS hbS b3 kl3 kf3 kz3 kz hbl lr bl3 HBAD hw3
  go_enter Tryd.func26, Tryd.ntmps26
  go_upto_region 4 with fail
  rw [HW3.out]
  clear HW3 x0 x1 x2 c1 c3 b0
  go_wp2
  obtain ⟨hkS, hbS⟩ := HS.out
  have r0 := box_cells hkS 0 rfl
  have r1 := box_cells hkS 1 rfl
  have r2 := box_cells hkS 2 rfl
  have r3 := box_cells hkS 3 rfl
  have r4 := box_cells hkS 4 rfl
  refine bodyPost_ret (v := .tuple #[.agg #[.slice none 0 0, .slice none 0 0, .slice none 0 0, .slice none 0 0, .slice none 0 0], .int .i64 2]) (by simp [results, Tryd.results26, go_sem, r0, r1, r2, r3, r4]) rfl ⟨hbS, ?_⟩
  rw [HB.out]
 have t4 : decide ((64 : Int) < (qn : Int)) = false := by simp; omega
 have t4' : decide (64 < qn) = false := by simp; omega
 have hsm := hs lk hla (by omega)
 obtain ⟨au, hau⟩ := hx lk hla (by omega)
 have hbl2 : buildL F (j : Int) = (some au, 0) := by unfold buildL; rw [hla]; dsimp only; rw [if_neg (by omega), if_neg (by omega), hau]
 have HBL := Lib.hid hbl2
 rw [lg] at hau
 have HAU := Lib.hid hau
 have HR := Lib.hid hR; have HSM := Lib.hid hsm; have LR := Lib.hid lr
 have hgn1 : 1 ≤ gn := by omega
 have hgn2 : gn ≤ 65536 := by omega
 have HK3 := Lib.hid (And.intro kf3 (And.intro kz3 (And.intro kl3 (And.intro b3 hs3))))
 have HW3 := Lib.hid hw3
 clear hg hl ll hs hx hla hlk hR hq hbl2 hsm lr lg h2 h3 h4 hau hbl k0 kz kl3 kf3 kz3 b3 hs3 bl3 hw3 HBAD
 go_enter Tryd.func26, Tryd.ntmps26
 go_upto_region 4 with fail
 rw [HW3.out]
 clear HW3 x0 x1 x2 c1 c3 b0
 obtain ⟨g, hgw⟩ : ∃ g, w.heap.size = g := ⟨_, rfl⟩
 have HGW := Lib.hid hgw
 obtain ⟨kf3, kz3, kl3, b3, hs3⟩ := HK3.out
 rw [hgw] at kf3 kz3 kl3 hs3 y2 ⊢
 have HS3 := Lib.hid hs3
 clear HK3 hgw hs3
 obtain ⟨rs, hrs⟩ : ∃ rs, lk.rules = rs := ⟨_, rfl⟩
 have HRS := Lib.hid hrs
 rw [hrs] at HR HSM LR HAU
 clear hrs
 have hrow0 := Ow.empty 23 1 w3 w3.heap.size (Nat.le_refl _)
 have bl4 := below_lit w3 w3 (Below.refl _ _) (.cells #[] 23)
 go_upto_region 8 with fail
 clear y2
 obtain ⟨w4, hw4⟩ : ∃ w4, w3.alloc (.cells #[] 23) = w4 := ⟨_, rfl⟩
 rw [hw4] at hrow0 bl4 ⊢
 clear hw4
 generalize hm3 : w3.heap.size = m3 at *
 have HM3 := Lib.hid hm3
 go_loopw [7, 8] (fun av iv wr => ∃ (i : Nat) (A : Option Addr) (N c : Nat) (css : List (List Value)), i ≤ qn ∧ iv = .int .i64 i ∧ av = .slice A N c ∧ Ow 23 1 wr m3 A N c css.flatten ∧ RowOf 1 (ERow w (lo w.heap.size)) css (setsL (rs.take i)) ∧ Below m3 w3 wr) (fun _ iv _ => qn - (intOf iv).toNat)
 case atStart => exact ⟨0, _, 0, 0, [], by omega, rfl, rfl, hrow0, RowOf.nil, bl4⟩
 case round =>
  obtain ⟨i, A, N, c, css, hiq, rfl, rfl, how, hrow, hbw⟩ := hrel
  clear hrow0 bl4
  have hkl := kl3.below hbw (by rw [← HM3.out]; exact kl3.lt)
  have y2 := box_cells hkl 2 rfl
  have hbw0 : Below w.heap.size w wr := b3.trans (hbw.mono (by have := b3.size; have := HM3.out; omega))
  have hN : css.length = N := by have h1 := how.len; rw [flat_len hrow.2.1] at h1; omega
  have hNs : N = (setsL (rs.take i)).length := by rw [← hN, hrow.1]
  have HNS := Lib.hid hNs
  have hN100 : N ≤ 100 := by
   have h1 := setsL_take rs i
   have h2 := HSM.out.s
   omega
  clear hN hNs
  by_cases hlt : i < qn
  ·obtain ⟨r, hr⟩ := at_some rs i (by have := LR.out; omega)
   obtain ⟨b2, o2, hqa, hb2, hcc⟩ := HR.out.pos (by omega)
   obtain ⟨cs, hE, hcc2⟩ := hcc i r hr
   obtain ⟨A1, n1, c1, A2, n2, c2, A3, n3, c3, A4, n4', c4', A5, n5', c5', rfl, r1, r2, r3, hrest⟩ := hE
   clear hrest
   have z0 := (hbw0.cell (p := ⟨b2, o2 + i * 6 + 0, none⟩) hb2).trans (hcc2 0 _ rfl)
   have z1 := (hbw0.cell (p := ⟨b2, o2 + i * 6 + 1, none⟩) hb2).trans (hcc2 1 _ rfl)
   have z2 := (hbw0.cell (p := ⟨b2, o2 + i * 6 + 2, none⟩) hb2).trans (hcc2 2 _ rfl)
   rw [Nat.add_zero] at z0
   obtain ⟨cs1, hrow1, hnl1, hnw1⟩ := RowOf.news r1 erow_len
   obtain ⟨cs2, hrow2, hnl2, hnw2⟩ := RowOf.news r2 erow_len
   obtain ⟨cs3, hrow3, hnl3, hnw3⟩ := RowOf.news r3 erow_len
   have HN1 := Lib.hid (And.intro hnl1 (And.intro hnw1 (hrow1.one_cells erow_one)))
   have HN2 := Lib.hid (And.intro hnl2 (And.intro hnw2 (hrow2.one_cells erow_one)))
   have HN3 := Lib.hid (And.intro hnl3 (And.intro hnw3 (hrow3.one_cells erow_one)))
   have hsum : N + (n1 + (n2 + n3)) ≤ 100 := by
    have h1 := setsL_take rs (i + 1)
    have h2 := HSM.out.s
    have h3 := HNS.out
    rw [setsL_snoc hr] at h1
    simp only [List.length_append] at h1
    rw [r1.len, r2.len, r3.len] at h1
    omega
   have HRW := Lib.hid (show RowOf 1 (ERow w (lo w.heap.size)) (css ++ (cs1 ++ (cs2 ++ cs3))) (setsL (rs.take (i + 1))) by rw [setsL_snoc hr]; exact hrow.app (hrow1.app (hrow2.app hrow3)))
   subst hqa
   have iz : (0 : Int) ≤ (i : Int) := by omega
   have inn : (i : Int) < (qn : Int) := by omega
   have hB1 : m3 ≤ wr.heap.size := by have := hbw.size; have := HM3.out; omega
   have HB2 := Lib.hid hb2
   clear hr hcc hcc2 hb2 r1 r2 r3 hrow hrow1 hrow2 hrow3 hnl1 hnl2 hnl3 hnw1 hnw2 hnw3
   go_upto_region 11 with (at_builtin; refine appP elt_row rfl _ _ rfl wr m3 _ _ _ css.flatten _ _ _ cs1.flatten (by rfl) (by rfl) how HN1.out.1 (news_call HN1.out.2.1 hbw0) HN1.out.2.2 (by omega) hB1 ?_; intro Ax cx w5 o5 hg5 hb5 hat5)
   have hbw5 := hbw0.trans (hb5.mono (by have := HS3.out; have := HGW.out; omega))
   have hkl5 := hkl.grown hg5 (hkl.ne_own (by decide) how)
   have y25 := box_cells hkl5 2 rfl
   have hB5 := Nat.le_trans hB1 hb5.size
   have v1 : w5.cell? ⟨b2, o2 + i * 6 + 1, none⟩ = some (.slice A2 n2 c2) := (hb5.cell (p := ⟨b2, o2 + i * 6 + 1, none⟩) (by have h1 : b2 < w.heap.size := HB2.out; have h2 := HS3.out; have h3 := HGW.out; show b2 < m3; omega)).trans z1
   have v2 : w5.cell? ⟨b2, o2 + i * 6 + 2, none⟩ = some (.slice A3 n3 c3) := (hb5.cell (p := ⟨b2, o2 + i * 6 + 2, none⟩) (by have h1 : b2 < w.heap.size := HB2.out; have h2 := HS3.out; have h3 := HGW.out; show b2 < m3; omega)).trans z2
   clear how hg5 hat5 z0 hkl y2
   go_upto_region 12 with (at_builtin; refine appP elt_row rfl _ _ rfl w5 m3 _ _ _ (css.flatten ++ cs1.flatten) _ _ _ cs2.flatten (by rfl) (by rfl) o5 HN2.out.1 (news_call HN2.out.2.1 hbw5) HN2.out.2.2 (by omega) hB5 ?_; intro Ay cy w6 o6 hg6 hb6 hat6)
   have hbw6 := hbw5.trans (hb6.mono (by have := HS3.out; have := HGW.out; omega))
   have hkl6 := hkl5.grown hg6 (hkl5.ne_own (by decide) o5)
   have y26 := box_cells hkl6 2 rfl
   have hB6 := Nat.le_trans hB5 hb6.size
   have v26 : w6.cell? ⟨b2, o2 + i * 6 + 2, none⟩ = some (.slice A3 n3 c3) := (hb6.cell (p := ⟨b2, o2 + i * 6 + 2, none⟩) (by have h1 : b2 < w.heap.size := HB2.out; have h2 := HS3.out; have h3 := HGW.out; show b2 < m3; omega)).trans v2

   clear o5 hg6 hat6 v1 hkl5 y25
   go_wp2_with (at_builtin; refine appP elt_row rfl _ _ rfl w6 m3 _ _ _ ((css.flatten ++ cs1.flatten) ++ cs2.flatten) _ _ _ cs3.flatten (by rfl) (by rfl) o6 HN3.out.1 (news_call HN3.out.2.1 hbw6) HN3.out.2.2 (by omega) hB6 ?_; intro Az cz w7 o7 hg7 hb7 hat7)
   have bz := (hbw.trans (hb5.trans (hb6.trans hb7)))
   clear o6 hg7 hat7 hb5 hb6 hb7 v26 v2 hkl6 y26 z1 z2
   go_roundw
   case rel => exact ⟨i + 1, Az, N + n1 + n2 + n3, cz, css ++ (cs1 ++ (cs2 ++ cs3)), by omega, by go_num, rfl, by simpa [List.append_assoc] using o7, HRW.out, bz⟩
   case measure => simp [intOf]; omega
  ·obtain rfl : qn = i := by omega
   have hrow2 : RowOf 1 (ERow w (lo w.heap.size)) css (setsL rs) := by
    have h1 := hrow
    rw [List.take_of_length_le (by have := LR.out; omega)] at h1
    exact h1
   have hRV : RdV wr (lo wr.heap.size) A N (setsL rs) := how.row (hrow2.mono fun cs x h => h.mono (lo_mono hbw0.size) (kept_below hbw0)) (by omega)
   have HPA := Lib.hid (rpartition_c gn A N c (setsL rs) wr hRV hgn1 hgn2 (by omega) (fun xs hx => HSM.out.l xs hx))
   have hcls : S6.partL (setsL rs) gn = clsL rs gn := rfl
   rw [hcls] at HPA
   have hkf := kf3.below hbw (by rw [← HM3.out]; exact kf3.lt)
   have hkz := kz3.below hbw (by rw [← HM3.out]; exact kz3.lt)
   have f1 := box_cells hkf 1 rfl
   have hwg : g + 1 + 1 < wr.heap.size := hkl.lt
   clear hrow hrow2 hRV how hcls HNS hN100 kl3 kf3 kz3 b3
   go_wp2_with fail
   refine HPA.out.mono ?_
   rintro e w5 ⟨A', c', rfl, ho5, hb5⟩
   have HHC := Lib.hid ho5.cap
   have hc5 := ho5.cap
   have hc51 := hc5.1
   have hc52 := hc5.2
   have HOC := Lib.hid ho5
   have hkf5 := hkf.below hb5 hkf.lt
   have hkz5 := hkz.below hb5 hkz.lt
   have hkl5 := hkl.below hb5 hkl.lt
   have hbw5 := below_call hbw0 hb5
   have hrc5 : Rd w5 (fun b => g + 1 < b ∧ b < w5.heap.size) A' gn (clsL rs gn) := (rd_own ho5).mono (fun b hb => ⟨by have := hb.1; omega, hb.2⟩) (Kept.refl _ _)
   have hgl0 := Ow.empty 3 1 w5 w5.heap.size (Nat.le_refl _)
   have bl6 := below_lit w5 w5 (Below.refl _ _) (.cells #[] 3)
   clear HPA f1 hkf hkz hkl y2 hb5 hbw hbw0 ho5 hc5
   go_upto_region 16 with fail
   obtain ⟨w6, hw6⟩ : ∃ w6, w5.alloc (.cells #[] 3) = w6 := ⟨_, rfl⟩
   rw [hw6] at hgl0 bl6 ⊢
   clear hw6
   generalize hm5 : w5.heap.size = m5 at *
   have HM5 := Lib.hid hm5
   go_loopw [10, 11] (fun gv iv wr => ∃ (i : Nat) (A : Option Addr) (n c : Nat), i ≤ gn ∧ iv = .int .i64 i ∧ gv = .slice A n c ∧ Ow 3 1 wr m5 A n c (ic (repG rs i)) ∧ Below m5 w5 wr) (fun _ iv _ => gn - (intOf iv).toNat)
   case atStart => exact ⟨0, _, 0, 0, by omega, rfl, rfl, hgl0, bl6⟩
   case round =>
    clear hgl0 bl6
    obtain ⟨i, B, n, c, hi, rfl, rfl, how, hbw⟩ := hrel
    have hnl : n = (repG rs i).length := by have h1 := how.len; rw [ic_len] at h1; omega
    have hn6 : n ≤ 65536 := by have := repG_le rs i; omega
    have HNL := Lib.hid hnl
    have hB1 : m5 ≤ wr.heap.size := by have := hbw.size; have := HM5.out; omega
    clear hnl
    by_cases hlt : i < gn
    ·have hcl := clsL_at rs hlt
     obtain ⟨ba, oa, haa, hba, hcc⟩ := hrc5.pos (by omega)
     obtain ⟨cs, rfl, hcc2⟩ := hcc i _ hcl
     have ye := (hbw.cell (p := ⟨ba, oa + i * 1 + 0, none⟩) hba.2).trans (hcc2 0 _ rfl)
     rw [Nat.mul_one, Nat.add_zero] at ye
     have HRG := Lib.hid (repG_succ rs i)
     obtain ⟨cl, hcle⟩ : ∃ cl, S6.classOf (S6.sig (setsL rs)) i = cl := ⟨_, rfl⟩
     rw [hcle] at ye HRG
     have iz : (0 : Int) ≤ (i : Int) := by omega
     have inn : (i : Int) < (gn : Int) := by omega
     subst haa
     clear hcl hcc hcc2 hcle hba
     by_cases hcn : cl = n
     ·have t5 : ((cl : Int) == (n : Int)) = true := by simp; omega
      have HR2 := Lib.hid (show repG rs (i + 1) = repG rs i ++ [(i : Int)] by rw [HRG.out, if_pos (by rw [← HNL.out, hcn])])
      have HOX := Lib.hid (how.alloc (.cells #[.int .i64 (i : Int)] 3))
      have hsX : m5 ≤ (wr.alloc (.cells #[.int .i64 (i : Int)] 3)).heap.size := by rw [World.size_alloc]; omega
      have b7 := hbw.trans ((Below.refl m5 wr).alloc hB1 (.cells #[.int .i64 (i : Int)] 3))
      clear HRG hcn how
      go_wp2_with (at_builtin; refine appP elt_int rfl _ _ rfl (wr.alloc (.cells #[.int .i64 (i : Int)] 3)) m5 _ _ _ (ic (repG rs i)) _ 1 1 [.int .i64 (i : Int)] (by rfl) (by rfl) HOX.out rfl (fun _ => news_new _ _ _ (by omega)) (by simp [Value.oneCell']) (by omega) hsX ?_; intro B' c'' w7 ho7 hg7 hb7 hat7)
      have b8 := b7.trans hb7
      clear hg7 hb7 hat7 HOX hsX ye
      go_roundw
      case rel => exact ⟨i + 1, B', n + 1, c'', by omega, by go_num, rfl, by rw [HR2.out, ic_app]; exact ho7, b8⟩
      case measure => simp [intOf]; omega
     ·have t5 : ((cl : Int) == (n : Int)) = false := by simp; omega
      have t5' : (cl == n) = false := by simpa using hcn
      have HR2 := Lib.hid (show repG rs (i + 1) = repG rs i by rw [HRG.out, if_neg (by rw [← HNL.out]; omega)])
      clear HRG hcn
      go_wp2
      go_roundw
      case rel => exact ⟨i + 1, B, n, c, by omega, by go_num, rfl, by rw [HR2.out]; exact how, hbw⟩
      case measure => simp [intOf]; omega
    ·have hie : i = gn := by omega
     subst hie
     have inn : ¬ ((i : Int) < (i : Int)) := by omega
     obtain ⟨x, y, hx, hy, hae⟩ := autoL_some HAU.out
     obtain ⟨x', hx', hx1, hx2⟩ := docHalf HSM.out hx
     obtain ⟨y', hy', hy1, hy2⟩ := docHalf HSM.out hy
     have hnK : n = KL rs i := by rw [HNL.out]; exact (repG_ok rs i).1
     rw [← hnK] at hx' hy'
     have hkf6 := hkf5.below hbw (by rw [← HM5.out]; exact hkf5.lt)
     have hkz6 := hkz5.below hbw (by rw [← HM5.out]; exact hkz5.lt)
     have hkl6 := hkl5.below hbw (by rw [← HM5.out]; exact hkl5.lt)
     have hbw6 : Below w.heap.size w wr := hbw5.trans (hbw.mono (by have := hbw5.size; have := HM5.out; omega))
     have hrc6 : Rd wr (fun b => g + 1 < b ∧ b < wr.heap.size) A' i (clsL rs i) := hrc5.mono (fun b hb => ⟨hb.1, by have := hb.2; omega⟩) (fun b hb => hbw.block b hb.2)
     have hgr := how.rd
     have hgh := how.cap
     have hgh1 := hgh.1
     have hgh2 := hgh.2
     have HS1 := Lib.hid fun (W : World) (bW : Below wr.heap.size wr W) => dstates_c [.int .i64 lk.kind, .bool lk.ign, .slice qa qn qc] lk false B n c (repG rs i) x' W (elk_mono HEL.out (lo_mono (below_call hbw6 bW).size) (kept_below (below_call hbw6 bW))) (by rw [HRS.out]; exact HSM.out) (hgr.call bW) hgh hn6 (by rw [HRS.out]; exact hx')
     have HS2 := Lib.hid fun (W : World) (bW : Below wr.heap.size wr W) => dstates_c [.int .i64 lk.kind, .bool lk.ign, .slice qa qn qc] lk true B n c (repG rs i) y' W (elk_mono HEL.out (lo_mono (below_call hbw6 bW).size) (kept_below (below_call hbw6 bW))) (by rw [HRS.out]; exact HSM.out) (hgr.call bW) hgh hn6 (by rw [HRS.out]; exact hy')
     rw [HRS.out] at HS1 HS2
     have HAE := Lib.hid hae
     have HX := Lib.hid (And.intro (And.intro hx1 hx2) (And.intro hy1 hy2))
     have hmw := hbw6.size
     have hgw : g + 1 < wr.heap.size := by have := hkz6.lt; omega
     have y0 := box_cells hkl6 0 rfl
     have y1 := box_cells hkl6 1 rfl
     have y2 := box_cells hkl6 2 rfl
     clear hx hy hae hx' hy' hx1 hx2 hy1 hy2 hnK hkf5 hkz5 hkl5 hbw5 hrc5 hgr hgh HNL hbw how hkf6
     go_wp2_with fail
     refine (HS1.out wr (Below.refl _ _)).mono ?_
     rintro e w8 ⟨ta, tn, tc, ea, en, ec, rfl, ht, he, hth, heh, hb8⟩
     have hkl8 := hkl6.below hb8 hkl6.lt
     have hkz8 := hkz6.below hb8 hkz6.lt
     clear y0 y1 y2
     have y0 := box_cells hkl8 0 rfl
     have y1 := box_cells hkl8 1 rfl
     have y2 := box_cells hkl8 2 rfl
     have HT := Lib.hid (And.intro (And.intro ht he) (And.intro hth heh))
     clear ht he hth heh HS1 hkl6 hkz6
     go_wp2_with fail
     refine (HS2.out w8 hb8).mono ?_
     rintro e w9 ⟨ta', tn', tc', ea', en', ec', rfl, ht', he', hth', heh', hb9⟩
     have hkz9 := hkz8.below hb9 hkz8.lt
     have hb89 := below_call hb8 hb9
     have hbw9 := below_call hbw6 hb89
     have hsz8 := hb8.size
     have hsz9 := hb9.size
     have hI : IsA (store5 w9 (g + 1) (.slice A' i c') (.slice ta tn tc) (.slice ta' tn' tc') (.slice ea en ec) (.slice ea' en' ec')) (lo (store5 w9 (g + 1) (.slice A' i c') (.slice ta tn tc) (.slice ta' tn' tc') (.slice ea en ec) (.slice ea' en' ec')).heap.size) ⟨A', i, c', ta, tn, tc, ta', tn', tc', ea, en, ec, ea', en', ec'⟩ au := by
      obtain ⟨hkp, hsz⟩ := store5_kept (S := fun b => b < w9.heap.size) (W := w9) (g + 1) (.slice A' i c') (.slice ta tn tc) (.slice ta' tn' tc') (.slice ea en ec) (.slice ea' en' ec')
      obtain ⟨⟨ht, he⟩, ⟨hth, heh⟩⟩ := HT.out
      obtain ⟨⟨e1, e2⟩, ⟨e3, e4⟩⟩ := HX.out
      have k1 : ∀ b, b ≠ g + 1 → b < w9.heap.size → (store5 w9 (g + 1) (.slice A' i c') (.slice ta tn tc) (.slice ta' tn' tc') (.slice ea en ec) (.slice ea' en' ec')).heap[b]? = w9.heap[b]? := fun b h1 h2 => hkp b ⟨h2, h1⟩
      have S1 : ∀ b, (w8.heap.size ≤ b ∧ b < w9.heap.size) → lo (store5 w9 (g + 1) (.slice A' i c') (.slice ta tn tc) (.slice ta' tn' tc') (.slice ea en ec) (.slice ea' en' ec')).heap.size b := fun b hb => by rw [hsz]; exact hb.2
      have K1 : Kept (fun b => w8.heap.size ≤ b ∧ b < w9.heap.size) w9 (store5 w9 (g + 1) (.slice A' i c') (.slice ta tn tc) (.slice ta' tn' tc') (.slice ea en ec) (.slice ea' en' ec')) := fun b hb => k1 b (by have := hb.1; omega) hb.2
      have S2 : ∀ b, (wr.heap.size ≤ b ∧ b < w8.heap.size) → lo (store5 w9 (g + 1) (.slice A' i c') (.slice ta tn tc) (.slice ta' tn' tc') (.slice ea en ec) (.slice ea' en' ec')).heap.size b := fun b hb => by rw [hsz]; exact Nat.lt_of_lt_of_le hb.2 hsz9
      have K2 : Kept (fun b => wr.heap.size ≤ b ∧ b < w8.heap.size) w8 (store5 w9 (g + 1) (.slice A' i c') (.slice ta tn tc) (.slice ta' tn' tc') (.slice ea en ec) (.slice ea' en' ec')) := fun b hb => (k1 b (by have := hb.1; omega) (Nat.lt_of_lt_of_le hb.2 hsz9)).trans (hb9.block b hb.2)
      have hc : Rd (store5 w9 (g + 1) (.slice A' i c') (.slice ta tn tc) (.slice ta' tn' tc') (.slice ea en ec) (.slice ea' en' ec')) (lo (store5 w9 (g + 1) (.slice A' i c') (.slice ta tn tc) (.slice ta' tn' tc') (.slice ea en ec) (.slice ea' en' ec')).heap.size) A' i (clsL rs i) := hrc6.mono (fun b hb => by rw [hsz]; exact Nat.lt_of_lt_of_le hb.2 hb89.size) (fun b hb => (k1 b (by have := hb.1; omega) (Nat.lt_of_lt_of_le hb.2 hb89.size)).trans (hb89.block b hb.2))
      rw [HAE.out]
      rw [e1] at ht
      rw [e2] at he
      rw [e3] at ht'
      rw [e4] at he'
      exact ⟨⟨hc, ht.mono S2 K2, SlE.mono he S2 K2 (fun _ _ h => h), HHC.out, hth, heh⟩, ⟨hc, ht'.mono S1 K1, SlE.mono he' S1 K1 (fun _ _ h => h), HHC.out, hth', heh'⟩⟩
     have hkS := store5_bk hkz9 (.slice A' i c') (.slice ta tn tc) (.slice ta' tn' tc') (.slice ea en ec) (.slice ea' en' ec')
     have hbS := store5_below (g := g + 1) hbw9 (by have := HGW.out; omega) (.slice A' i c') (.slice ta tn tc) (.slice ta' tn' tc') (.slice ea en ec) (.slice ea' en' ec')
     have z0 := box_cells hkz9 0 rfl
     have zf0 := hkz9.frozen 0
     have z1 := box_cells hkz9 1 rfl
     have zf1 := hkz9.frozen 1
     have z2 := box_cells hkz9 2 rfl
     have zf2 := hkz9.frozen 2
     have z3 := box_cells hkz9 3 rfl
     have zf3 := hkz9.frozen 3
     have z4 := box_cells hkz9 4 rfl
     have zf4 := hkz9.frozen 4
     have HI := Lib.hid (And.intro hI (And.intro hkS hbS))
     unfold store5 at HI
     clear hI hkS hbS HT HX ht' he' hth' heh' y0 y1 y2 hkl8 hkz8 hrc6
     go_wp2
     obtain ⟨hI, hkS, hbS⟩ := HI.out
     have r0 := box_cells hkS 0 rfl
     have r1 := box_cells hkS 1 rfl
     have r2 := box_cells hkS 2 rfl
     have r3 := box_cells hkS 3 rfl
     have r4 := box_cells hkS 4 rfl
     refine bodyPost_ret (v := .tuple #[.agg #[.slice A' i c', .slice ta tn tc, .slice ta' tn' tc', .slice ea en ec, .slice ea' en' ec'], .int .i64 0]) (by simp [results, Tryd.results26, go_sem, r0, r1, r2, r3, r4]) rfl ⟨hbS, ?_⟩
     rw [HBL.out]
     exact ⟨_, rfl, hI⟩


end Go.Proofs.YtgcmedkaadagmaaDoor
