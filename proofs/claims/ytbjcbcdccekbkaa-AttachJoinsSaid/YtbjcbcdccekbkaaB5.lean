/- Walk: AttachJoins. -/
import Derived.Test.YtbjcbcdccekbkaaB4
import Derived.Deep.DeepCutAuto
import Derived.Deep.CutBlock
namespace Go.Proofs.Ytbjcbcdccekbkaa
open Go.RowKit Go.Shelf

theorem attachAll_seven {F : Fnt} {k : Nat} {lk : Lk} (h : F.lks[k]? = some lk) (hk : lk.kind = 7) (run : List Itm) : attachAll w64 F (k : Int) run = cursL w64 F lk.ign run := by
  have h' : lkAt F (k : Int) = some lk := by unfold lkAt; rw [if_neg (by omega), Int.toNat_natCast]; exact h
  unfold attachAll; rw [h']; dsimp only; rw [hk, attachL_seven h' hk]
theorem ax_some {o : Option (Int × Int)} (h : o.isSome = true) : o = some (ax o, ay o) := by
  cases o with
  | none => cases h
  | some p => rfl
theorem jst_next (F : Fnt) (ign : Bool) (l : List Itm) (i : Nat) (h : hidB F ign l i = false) : jst w64 F ign l (i + 1) = ⟨(anchorL F (gAt l i) 4 0).isSome, w64 (w64 (widthL w64 (l.take i) + (itAt l i).x) + ax (anchorL F (gAt l i) 4 0)), w64 ((itAt l i).y + ay (anchorL F (gAt l i) 4 0))⟩ := by
  rw [jst_seen h]
  cases anchorL F (gAt l i) 4 0 <;> rfl
theorem jst_zero (F : Fnt) (ign : Bool) (l : List Itm) : jst w64 F ign l 0 = ⟨false, 0, 0⟩ := by
  unfold jst; rw [if_pos (show (scan w64 F ign l 0).1 < 0 by show (-1 : Int) < 0; omega)]
theorem isMark_lt {F : Fnt} {n : Nat} (hl : F.gly.length = n) {g : Int} (h0 : g < 0 ∨ (n : Int) ≤ g) : isMark F g = false := isMark_out (by rcases h0 with h | h; exact .inl h; right; omega)

set_option maxRecDepth 100000 in
set_option maxHeartbeats 4000000 in
theorem attachJoins_walk (f : FV) (F : Fnt) (lookup : Int) (RA : Option Addr) (rn rc : Nat) (run : List Itm) (w : World) (hf : IsF w (lo w.heap.size) f F) (hI : RdI w (lo w.heap.size) RA rn run) (hd : Hd rn rc) :
    Calls Try.prog 8 #[.agg f.cells, .int .i64 lookup, .slice RA rn rc] w (TP w) := by
  have hrnM : rn ≤ 9223372036854775807 := Nat.le_trans hd.1 hd.2
  have hs_0 := LS.new hf hI
  unfold FV.cells at hs_0 ⊢
  go_enter Try.func8, Try.ntmps8
  go_wp2_with fail
  generalize w.alloc (.cells #[.int .i64 f.u0, .slice f.ga f.gn f.gc, .slice f.ca f.cn f.cc, .slice f.la f.ln f.lc, .slice f.a4 f.n4 f.c4, .slice f.a5 f.n5 f.c5, .slice f.a6 f.n6 f.c6, .slice f.a7 f.n7 f.c7, .slice f.a8 f.n8 f.c8] 31) = w0 at hs_0 ⊢
  generalize hbf : w.heap.size = bf at hs_0 ⊢
  clear hbf hf hI
  have HC := Lib.hid (big14_c f F RA rn rc run w0 hs_0.hf hs_0.hI hrnM)
  unfold FV.cells at HC
  refine HC.out.mono ?_
  rintro e w1 ⟨rfl, b1⟩
  clear HC
  have hs_1 := hs_0.call b1
  clear hs_0 b1
  obtain ⟨y0, y1, y2, y3, y4, y5, y6, y7, y8⟩ := font_cells hs_1.kf
  cases hbig : big14 F run with
  | true =>
    go_wp2_with fail
    refine (hung_c w1).mono ?_
    rintro e w2 ⟨rfl, b2⟩
    go_wp2
    go_ret
    exact ⟨rfl, below_call hs_1.bw b2⟩
  | false =>
    obtain ⟨hl, hsm⟩ := small14 hbig
    have hrl := hs_1.hI.len
    have hrn : rn ≤ 100 := by omega
    have HRL := Lib.hid hrl
    have hln := hs_1.hf.2.1.len
    have hld := hs_1.hf.2.2.2
    have hlnM : f.ln ≤ 9223372036854775807 := Nat.le_trans hld.1 hld.2
    have hgn := hs_1.hf.1.len
    have HGN := Lib.hid hgn
    have hgd := hs_1.hf.2.2.1
    have hgnM : f.gn ≤ 9223372036854775807 := Nat.le_trans hgd.1 hgd.2
    clear hbig hgn hgd
    by_cases h0 : lookup < 0
    · have t0 : decide (lookup < 0) = true := by simp; omega
      clear hl hrl hln
      go_wp2_with fail
      refine (hung_c w1).mono ?_
      rintro e w2 ⟨rfl, b2⟩
      go_wp2
      go_ret
      exact ⟨rfl, below_call hs_1.bw b2⟩
    · have t0 : decide (lookup < 0) = false := by simp; omega
      by_cases h1 : (f.ln : Int) ≤ lookup
      · have t1 : decide ((f.ln : Int) ≤ lookup) = true := by simp; omega
        clear hl hrl hln
        go_wp2_with fail
        refine (hung_c w1).mono ?_
        rintro e w2 ⟨rfl, b2⟩
        go_wp2
        go_ret
        exact ⟨rfl, below_call hs_1.bw b2⟩
      · have t1 : decide ((f.ln : Int) ≤ lookup) = false := by simp; omega
        obtain ⟨k, rfl⟩ : ∃ k : Nat, lookup = k := ⟨lookup.toNat, by omega⟩
        have t1' : decide (f.ln ≤ k) = false := by simp; omega
        obtain ⟨lk, hlk⟩ := at_some F.lks k (by omega)
        obtain ⟨lb, lo', hla2, hlb, hc⟩ := hs_1.hf.2.1.pos (by omega)
        obtain ⟨cs, ⟨A, n, c, rfl, hR, hdl⟩, hcc⟩ := hc k lk hlk
        have g0 := hcc 0 _ rfl
        have g1 := hcc 1 _ rfl
        rw [Nat.add_zero] at g0
        rw [hla2] at y3
        have kz : (0 : Int) ≤ (k : Int) := by omega
        have kn : (k : Int) < (f.ln : Int) := by omega
        have HLA := Lib.hid hla2; have HLK := Lib.hid hlk
        clear hla2 hlk hc hcc hR hdl hln
        by_cases h7 : lk.kind = 7
        · rw [h7] at g0
          have HC8 := Lib.hid (aApply_c f F (k : Int) RA rn rc run w1 hs_1.hf hs_1.hI (by omega) hsm)
          rw [attachAll_seven HLK.out h7] at HC8
          have hJ := cursL_jnd w64 F lk.ign run
          have hLl := cursL_len w64 F lk.ign run
          generalize cursL w64 F lk.ign run = l at *
          have HJ := Lib.hid hJ; have HLL := Lib.hid (hLl.trans hrl)
          unfold FV.cells at HC8
          rw [HLA.out] at HC8
          clear hJ hLl hl hrl hsm
          have e7 : ((7 : Int) != 7) = false := by simp
          go_wp2_with fail
          clear y0 y1 y2 y3 y4 y5 y6 y7 y8
          refine HC8.out.mono ?_
          rintro e w4 ⟨A4, n4, c4, rfl, o4, b4⟩
          clear HC8
          have hs_4 := hs_1.call b4
          have l_4 := o4.rdI
          have hn4 : n4 = rn := by have := l_4.len; have := HLL.out; omega
          subst hn4
          have ig_4 := cell_call g1 b4
          clear o4 hs_1 b4 g0 g1
          go_wp2
          go_loopw [8, 9, 11] (fun s8 s9 s11 wr => ∃ j : Nat, j ≤ n4 ∧ s11 = .int .i64 j ∧ s8 = .int .i64 (widthL w64 (l.take j)) ∧ s9 = .bool (jst w64 F lk.ign l j).opn ∧ Bk wr w4.heap.size 56 #[.int .i64 (jst w64 F lk.ign l j).wx, .int .i64 (jst w64 F lk.ign l j).wy] ∧ Below w4.heap.size w4 wr) (fun _ _ i _ => n4 - (intOf i).toNat)
          case atStart => exact ⟨0, by omega, rfl, rfl, by rw [jst_zero], by rw [jst_zero]; exact Bk.new _ _ _, (Below.refl _ _).alloc (Nat.le_refl _) _⟩
          case round =>
            obtain ⟨j, hj, rfl, rfl, rfl, hbk, hbr⟩ := hrel
            have hsr := hs_4.call hbr
            by_cases hlt : j < n4
            · obtain ⟨it, hit⟩ := at_some l j (by have := HLL.out; omega)
              obtain ⟨rb, ro, rfl, hrb, _⟩ := l_4.pos (by omega)
              obtain ⟨rb', ro', hrr, _, hc⟩ := (l_4.call hbr).pos (by omega)
              injection hrr with hrr
              injection hrr with hrr1 hrr2
              subst hrr1; subst hrr2
              obtain ⟨cs, rfl, hcc⟩ := hc j it hit
              have x0 := hcc 0 _ rfl
              have x3 := hcc 3 _ rfl
              have x4 := hcc 4 _ rfl
              have x5 := hcc 5 _ rfl
              rw [Nat.add_zero] at x0
              have ig := cell_call ig_4 hbr
              have jz : (0 : Int) ≤ (j : Int) := by omega
              have jn : (j : Int) < (n4 : Int) := by omega
              have hgl := gAt_some hit
              have hil := itAt_some hit
              have HWN := Lib.hid (widthL_next hit)
              obtain ⟨y0, y1, y2, y3, y4, y5, y6, y7, y8⟩ := font_cells hsr.kf
              rw [HLA.out] at y3
              clear hit hc hcc
              go_upto_region 11 with fail
              go_cut [13] (fun s wx => s = .bool (hidB F lk.ign l j) ∧ wx = wr)
              case first =>
                have hhb : hidB F lk.ign l j = (lk.ign && isMark F it.g) := by unfold hidB; rw [hgl]
                cases hig0 : lk.ign == true with
                | false =>
                  have hign : lk.ign = false := by simpa using hig0
                  rw [hign] at ig
                  have HHB := Lib.hid (show hidB F lk.ign l j = false by rw [hhb, hign]; rfl)
                  clear hhb hign hig0
                  go_wp2
                  go_meet
                  exact ⟨by rw [HHB.out], rfl⟩
                | true =>
                  have hign : lk.ign = true := by simpa using hig0
                  rw [hign] at ig
                  have hhb : hidB F lk.ign l j = isMark F it.g := by rw [hhb, hign]; rfl
                  clear hig0 hign
                  by_cases m0 : it.g < 0
                  · have u0 : decide (0 ≤ it.g) = false := by simp; omega
                    have HHB := Lib.hid (hhb.trans (isMark_lt HGN.out (.inl m0)))
                    clear hhb
                    go_wp2
                    go_meet
                    exact ⟨by rw [HHB.out], rfl⟩
                  · by_cases m1 : (f.gn : Int) ≤ it.g
                    · have u0 : decide (0 ≤ it.g) = true := by simp; omega
                      have u1 : decide (it.g < (f.gn : Int)) = false := by simp; omega
                      have HHB := Lib.hid (hhb.trans (isMark_lt HGN.out (.inr m1)))
                      clear hhb
                      go_wp2
                      go_meet
                      exact ⟨by rw [HHB.out], rfl⟩
                    · have hq : it.g = (it.g.toNat : Int) := by omega
                      obtain ⟨x, hx⟩ := at_some F.gly it.g.toNat (by have := HGN.out; omega)
                      obtain ⟨gb, go', hga, _, hcg⟩ := hsr.hf.1.pos (by omega)
                      obtain ⟨cs, ⟨u0, u1, u3, u4, u5, A, n, c, u7, u8, rfl, _⟩, hccg⟩ := hcg it.g.toNat x hx
                      have c2 := hccg 2 _ rfl
                      rw [hga] at y1
                      have HHB := Lib.hid (show hidB F lk.ign l j = x.mark by rw [hhb, hq, isMark_in hx])
                      have v0 : (0 : Int) ≤ it.g := by omega
                      have v1 : it.g < (f.gn : Int) := by omega
                      clear hhb hga hx hcg hccg hgl hil hq m0 m1
                      go_wp2
                      go_meet
                      exact ⟨by rw [HHB.out], rfl⟩
              obtain ⟨rfl, rfl⟩ := hcut
              have HO3 := Lib.hid (anchor_c f F it.g 3 0 wc hsr.hf)
              have HO4 := Lib.hid fun (W : World) (h : IsF W (lo W.heap.size) f F) => anchor_c f F it.g 4 0 W h
              simp only [ancV_u] at HO3 HO4
              unfold FV.cells at HO3 HO4
              rw [HLA.out] at HO3 HO4
              have hwid : widthL w64 (l.take (j + 1)) = wrap64 (widthL w64 (l.take j) + it.a) := HWN.out
              cases hhid : hidB F lk.ign l j with
              | true =>
                have HW := Lib.hid hwid; have HJH := Lib.hid (jst_hid (w := w64) hhid)
                clear hwid hhid HO3 HO4 y0 y1 y2 y3 y4 y5 y6 y7 y8
                go_wp2
                go_roundw
                case rel => exact ⟨j + 1, by omega, by go_num, by rw [HW.out], by rw [HJH.out], by rw [HJH.out]; exact hbk, hbr⟩
                case measure => simp [intOf]; omega
              | false =>
                have hjn := jst_next F lk.ign l j hhid
                rw [hgl, hil] at hjn
                have hok := fun (h1 : (jst w64 F lk.ign l j).opn = true) (h2 : (anchorL F it.g 3 0).isSome = true) => jst_ok wr64 HJ.out (by have := HLL.out; omega) hhid (by rw [hgl]; exact ax_some h2) h1
                rw [hil] at hok
                have HW := Lib.hid hwid; have HJN := Lib.hid hjn; have HOK := Lib.hid hok
                have pw0 : wc.cell? ⟨w4.heap.size, 0, none⟩ = some (.int .i64 (jst w64 F lk.ign l j).wx) := by have := hbk.cell 0; simpa using this
                have pw1 : wc.cell? ⟨w4.heap.size, 1, none⟩ = some (.int .i64 (jst w64 F lk.ign l j).wy) := by have := hbk.cell 1; simpa using this
                clear hwid hjn hok hhid HWN hgl hil
                generalize jst w64 F lk.ign l j = J at *
                generalize anchorL F it.g 3 0 = o3 at *
                go_wp2_with fail
                refine HO3.out.mono ?_
                rintro e w5 ⟨rfl, b5⟩
                clear HO3
                have x3' := cell_call x3 b5; have x4' := cell_call x4 b5; have x5' := cell_call x5 b5
                have pw0' := cell_call pw0 b5; have pw1' := cell_call pw1 b5
                have hbk5 := hbk.call b5
                have hbr5 := below_call hbr b5
                have hs5 := hsr.call b5
                clear x0 x3 x4 x5 pw0 pw1 hbk hbr hsr b5 y0 y1 y2 y3 y4 y5 y6 y7 y8 ig
                go_upto_if 120 with fail
                go_cut [9, 16, 120] (fun s t u wx => s = .bool J.opn ∧ t = .bool o3.isSome ∧ u = .bool false ∧ ∃ d, wx = w5.drewN d)
                case first =>
                  by_cases c1 : J.opn = true
                  · by_cases c2 : o3.isSome = true
                    · obtain ⟨k1, k2⟩ := HOK.out c1 c2
                      have q1 : (wrap64 (wrap64 (widthL w64 (l.take j) + it.x) + ax o3) != J.wx) = false := by
                        rw [← k1]; simp [w64]
                      have q2 : (wrap64 (it.y + ay o3) != J.wy) = false := by
                        rw [← k2]; simp [w64]
                      have C1 := Lib.hid c1; have C2 := Lib.hid c2
                      rw [c1, c2]
                      clear k1 k2 c1 c2
                      go_wp2
                      go_quiet (fail)
                      go_wp2
                      go_meet
                      exact ⟨by rw [C1.out], by rw [C2.out], rfl, _, rfl⟩
                    · have c2' : o3.isSome = false := by simpa using c2
                      have C1 := Lib.hid c1; have C2 := Lib.hid c2'
                      rw [c1, c2']
                      clear c2 c1 c2'
                      go_wp2
                      go_quiet (fail)
                      go_wp2
                      go_meet
                      exact ⟨by rw [C1.out], by rw [C2.out], rfl, _, rfl⟩
                  · have c1' : J.opn = false := by simpa using c1
                    have C1 := Lib.hid c1'
                    rw [c1']
                    clear c1 c1'
                    go_wp2
                    go_quiet (fail)
                    go_wp2
                    go_meet
                    exact ⟨by rw [C1.out], rfl, rfl, _, rfl⟩
                obtain ⟨rfl, rfl, rfl, d, rfl⟩ := hcut
                have bd : Below w5.heap.size w5 (w5.drewN d) := below_drewN (Below.refl _ _) d
                have hs6 := hs5.call bd
                have x3a := cell_call x3' bd; have x4a := cell_call x4' bd; have x5a := cell_call x5' bd
                have hbk6 := hbk5.call bd
                have hbr6 := below_call hbr5 bd
                clear hs5 x3' x4' x5' pw0' pw1' hbk5 hbr5 bd HOK
                generalize w5.drewN d = w6 at *
                have HC6 := Lib.hid (HO4.out w6 hs6.hf)
                obtain ⟨y0, y1, y2, y3, y4, y5, y6, y7, y8⟩ := font_cells hs6.kf
                rw [HLA.out] at y3
                generalize anchorL F it.g 4 0 = o4 at *
                go_wp2_with fail
                refine HC6.out.mono ?_
                rintro e w7 ⟨rfl, b7⟩
                clear HC6 HO4 y0 y1 y2 y3 y4 y5 y6 y7 y8
                have x3b := cell_call x3a b7; have x4b := cell_call x4a b7; have x5b := cell_call x5a b7
                have hbk7 := hbk6.call b7
                have hbr7 := below_call hbr6 b7
                have pw0 : w7.cell? ⟨w4.heap.size, 0, none⟩ = some (.int .i64 J.wx) := by have := hbk7.cell 0; simpa using this
                have pw1 : w7.cell? ⟨w4.heap.size, 1, none⟩ = some (.int .i64 J.wy) := by have := hbk7.cell 1; simpa using this
                have fw0 := hbk7.frozen 0
                have fw1 := hbk7.frozen 1
                have hrb' : rb ≠ w4.heap.size := Nat.ne_of_lt hrb
                clear hs6 x3a x4a x5a hbk6 hbr6 b7
                go_wp2
                go_region
                have hbk8 : Bk ((w7.setCell ⟨w4.heap.size, 0, none⟩ (.int .i64 (wrap64 (wrap64 (widthL w64 (l.take j) + it.x) + ax o4)))).setCell ⟨w4.heap.size, 1, none⟩ (.int .i64 (wrap64 (it.y + ay o4)))).drew w4.heap.size 56 #[.int .i64 (wrap64 (wrap64 (widthL w64 (l.take j) + it.x) + ax o4)), .int .i64 (wrap64 (it.y + ay o4))] := (hbk7.set_ 0 _).set_ 1 _
                have hbr8 : Below w4.heap.size w4 ((w7.setCell ⟨w4.heap.size, 0, none⟩ (.int .i64 (wrap64 (wrap64 (widthL w64 (l.take j) + it.x) + ax o4)))).setCell ⟨w4.heap.size, 1, none⟩ (.int .i64 (wrap64 (it.y + ay o4)))).drew := below_drewN ((hbr7.setCell (p := ⟨w4.heap.size, 0, none⟩) (Nat.le_refl _) _).setCell (p := ⟨w4.heap.size, 1, none⟩) (Nat.le_refl _) _) 1
                have x3c : ((w7.setCell ⟨w4.heap.size, 0, none⟩ (.int .i64 (wrap64 (wrap64 (widthL w64 (l.take j) + it.x) + ax o4)))).setCell ⟨w4.heap.size, 1, none⟩ (.int .i64 (wrap64 (it.y + ay o4)))).drew.cell? ⟨rb, ro + j * 6 + 3, none⟩ = some (.int .i64 it.a) :=
                  (World.cell?_of_block ((Below.heap_setCell _ ⟨w4.heap.size, 1, none⟩ _ rb hrb').trans (Below.heap_setCell w7 ⟨w4.heap.size, 0, none⟩ _ rb hrb'))).trans x3b
                clear x3b x4b x5b hbk7 hbr7 pw0 pw1 fw0 fw1
                generalize ((w7.setCell ⟨w4.heap.size, 0, none⟩ (.int .i64 (wrap64 (wrap64 (widthL w64 (l.take j) + it.x) + ax o4)))).setCell ⟨w4.heap.size, 1, none⟩ (.int .i64 (wrap64 (it.y + ay o4)))).drew = w8 at *
                go_wp2
                go_roundw
                case rel => exact ⟨j + 1, by omega, by go_num, by rw [HW.out], by rw [HJN.out], by rw [HJN.out]; exact hbk8, hbr8⟩
                case measure => simp [intOf]; omega
            · have hge : decide ((j : Int) < (n4 : Int)) = false := by simp; omega
              have hge2 : decide (j < n4) = false := by simp; omega
              clear hbk
              go_wp2_with fail
              refine (hung_c wr).mono ?_
              rintro e w5 ⟨rfl, b5⟩
              go_wp2
              go_ret
              exact ⟨rfl, below_call hsr.bw b5⟩
        · have e7 : (lk.kind != 7) = true := by simpa using h7
          clear hl hrl
          go_wp2_with fail
          refine (hung_c w1).mono ?_
          rintro e w2 ⟨rfl, b2⟩
          go_wp2
          go_ret
          exact ⟨rfl, below_call hs_1.bw b2⟩

end Go.Proofs.Ytbjcbcdccekbkaa
