/- Walk: RulesShort. -/
import Derived.Test.YtkoocipagndclaaN0
namespace Go.Proofs.Ytkoocipagndclaa
open Go.RowKit Go.Shelf

set_option maxRecDepth 100000 in
set_option maxHeartbeats 4000000 in
theorem rulesShort_walk (f : FV) (F : Fnt) (n : Int) (RA : Option Addr) (rn rc : Nat) (run : List Itm) (k : Int) (FA : Option Addr) (fn fc : Nat) (forms : List Int) (w : World) (hf : IsF w (lo w.heap.size) f F) (hI : RdI w (lo w.heap.size) RA rn run) (hd : Hd rn rc) (hF : Rd w (lo w.heap.size) FA fn forms) (hfd : Hd fn fc) :
    Calls Try.prog 7 #[.agg (askC f n RA rn rc k FA fn fc)] w (TP w) := by
  have hrnM : rn ≤ 9223372036854775807 := Nat.le_trans hd.1 hd.2
  have hfnM : fn ≤ 9223372036854775807 := Nat.le_trans hfd.1 hfd.2
  have hs_0 := AS.new (n := n) (k := k) (rc := rc) (fc := fc) hf hI hF
  unfold askC at hs_0 ⊢
  go_enter Try.func7, Try.ntmps7
  go_upto_region 1 with fail
  generalize w.alloc (.cells #[.int .i64 f.u0, .slice f.ga f.gn f.gc, .slice f.ca f.cn f.cc, .slice f.la f.ln f.lc, .slice f.a4 f.n4 f.c4, .slice f.a5 f.n5 f.c5, .slice f.a6 f.n6 f.c6, .slice f.a7 f.n7 f.c7, .slice f.a8 f.n8 f.c8, .int .i64 n, .slice RA rn rc, .int .i64 k, .slice FA fn fc] 34) = w0 at hs_0 ⊢
  generalize hbf : w.heap.size = bf at hs_0 ⊢
  clear hf hI hF
  have HC := Lib.hid (big11_c f F RA rn rc run w0 hs_0.hf hs_0.hI hrnM)
  unfold FV.cells at HC
  obtain ⟨y0, y1, y2, y3, y4, y5, y6, y7, y8, y9, y10, y11, y12⟩ := hs_0.cells
  go_wp2_with fail
  refine HC.out.mono ?_
  rintro e w1 ⟨rfl, b1⟩
  clear HC y0 y1 y2 y3 y4 y5 y6 y7 y8 y9 y10 y11 y12
  have hs_1 := hs_0.call b1
  clear hs_0 b1
  cases hbig : big11 F run with
  | true =>
    go_wp2
    go_ret
    exact ⟨rfl, hs_1.bw⟩
  | false =>
    have hsm := small11 hbig
    have hrn : rn ≤ 300 := by have := hs_1.hI.len; have := hsm.run; omega
    have HSM := Lib.hid hsm
    have HRL := Lib.hid hs_1.hI.len
    clear hbig hsm
    obtain ⟨y0, y1, y2, y3, y4, y5, y6, y7, y8, y9, y10, y11, y12⟩ := hs_1.cells
    go_upto_region 4 with fail
    clear y0 y1 y2 y3 y4 y5 y6 y7 y8 y9 y10 y11 y12
    have bE : Below w1.heap.size w1 (w1.alloc (.cells #[] 51)) := (Below.refl _ _).alloc (Nat.le_refl _) _
    have oE := own_empty w1 51 6
    go_loopw [3] (fun s3 wr => ∃ (m c : Nat) (A : Option Addr) (xs : List Itm), s3 = .slice A m c ∧ m ≤ 800 ∧ Ow 51 6 wr w1.heap.size A m c (itc xs) ∧ Below w1.heap.size w1 wr) (fun s _ => 490 - (match s with | .slice _ m _ => m | _ => 0))
    case atStart => exact ⟨0, 0, _, [], rfl, by omega, oE, bE⟩
    case round =>
      obtain ⟨m, c, A, xs, rfl, hm, ho, hbr⟩ := hrel
      have hsr := hs_1.call hbr
      clear bE oE
      have hxl := ho.rdI.len
      have HXL := Lib.hid hxl
      clear hxl
      by_cases h490 : m < 490
      · have t1 : decide ((m : Int) < 490) = true := by simp; omega
        by_cases h0 : 0 < rn
        · have t2 : decide ((0 : Int) < (rn : Int)) = true := by simp; omega
          have t2' : decide (0 < rn) = true := by simp; omega
          have HLR := Lib.hid (itc_lenN' hsr.hI.len)
          have hRR := news_itc hsr.hI
          have HRR := Lib.hid hRR
          have HBS := Lib.hid hbr.size
          obtain ⟨y0, y1, y2, y3, y4, y5, y6, y7, y8, y9, y10, y11, y12⟩ := hsr.cells
          clear hRR
          go_wp2_with (at_builtin; refine appP elt_item rfl _ _ rfl _ w1.heap.size _ _ _ (itc xs) _ _ _ (itc run) (by rfl) (by rfl) ho HLR.out HRR.out (itc_one _) (by omega) HBS.out ?_; intro A' c' w' ho' hg' hb' hat')
          go_roundw
          case rel => exact ⟨m + rn, c', A', xs ++ run, rfl, by omega, by rw [itc_app]; exact ho', hbr.trans hb'⟩
          case measure => simp; omega
        · have t2 : decide ((0 : Int) < (rn : Int)) = false := by simp; omega
          have t2' : decide (0 < rn) = false := by simp; omega
          obtain ⟨y0, y1, y2, y3, y4, y5, y6, y7, y8, y9, y10, y11, y12⟩ := hsr.cells
          go_upto_region 6 with fail
          clear y0 y1 y2 y3 y4 y5 y6 y7 y8 y9 y10 y11 y12
          have HC := Lib.hid (apply_all f F n RA rn rc run FA fn fc forms wr hsr.hf hsr.hI hsr.hF hfnM (by have := HRL.out; omega) HSM.out.sm HSM.out.o)
          unfold FV.cells at HC
          obtain ⟨y0, y1, y2, y3, y4, y5, y6, y7, y8, y9, y10, y11, y12⟩ := hsr.cells
          go_wp2_with fail
          refine HC.out.mono ?_
          rintro e w3 ⟨A3, n3, c3, rfl, o3, b3⟩
          clear HC y0 y1 y2 y3 y4 y5 y6 y7 y8 y9 y10 y11 y12
          have HN3 := Lib.hid (show n3 ≤ 500 by have h1 := o3.rdI.len; have h2 := apply_len w64 F n run forms; have := HRL.out; omega)
          have hs_3 := hsr.call b3
          have HC := Lib.hid (apply_all f F n A m c xs FA fn fc forms w3 hs_3.hf (ho.rdI.call b3) hs_3.hF hfnM (by have := HXL.out; omega) HSM.out.sm HSM.out.o)
          unfold FV.cells at HC
          obtain ⟨y0, y1, y2, y3, y4, y5, y6, y7, y8, y9, y10, y11, y12⟩ := hs_3.cells
          go_wp2_with fail
          refine HC.out.mono ?_
          rintro e w4 ⟨A4, n4, c4, rfl, o4, b4⟩
          clear HC y0 y1 y2 y3 y4 y5 y6 y7 y8 y9 y10 y11 y12
          have hn4 : n4 ≤ max m 500 := by have h1 := o4.rdI.len; have h2 := apply_len w64 F n xs forms; have := HXL.out; omega
          have hs_4 := hs_3.call b4
          have hn3 := HN3.out
          have t5 : decide ((n3 : Int) ≤ 500) = true := by simp; omega
          have t5' : decide (n3 ≤ 500) = true := by simp; omega
          clear hs_3 hsr ho o3 o4 b3 b4 hbr
          by_cases hm5 : 500 < m
          · have t6 : decide ((500 : Int) < (m : Int)) = true := by simp; omega
            have t6' : decide (500 < m) = true := by simp; omega
            have t7 : decide ((n4 : Int) ≤ (m : Int)) = true := by simp; omega
            have t7' : decide (n4 ≤ m) = true := by simp; omega
            clear hn4 hn3
            go_wp2_with fail
            refine (ruled_c _).mono ?_
            rintro e w5 ⟨rfl, b5⟩
            go_wp2
            go_ret
            exact ⟨rfl, below_call hs_4.bw b5⟩
          · have t6 : decide ((500 : Int) < (m : Int)) = false := by simp; omega
            have t6' : decide (500 < m) = false := by simp; omega
            have t7 : decide ((n4 : Int) ≤ 500) = true := by simp; omega
            have t7' : decide (n4 ≤ 500) = true := by simp; omega
            clear hn4 hn3
            go_wp2_with fail
            refine (ruled_c _).mono ?_
            rintro e w5 ⟨rfl, b5⟩
            go_wp2
            go_ret
            exact ⟨rfl, below_call hs_4.bw b5⟩
      · have t1 : decide ((m : Int) < 490) = false := by simp; omega
        obtain ⟨y0, y1, y2, y3, y4, y5, y6, y7, y8, y9, y10, y11, y12⟩ := hsr.cells
        go_upto_region 6 with fail
        clear y0 y1 y2 y3 y4 y5 y6 y7 y8 y9 y10 y11 y12
        have HC := Lib.hid (apply_all f F n RA rn rc run FA fn fc forms wr hsr.hf hsr.hI hsr.hF hfnM (by have := HRL.out; omega) HSM.out.sm HSM.out.o)
        unfold FV.cells at HC
        obtain ⟨y0, y1, y2, y3, y4, y5, y6, y7, y8, y9, y10, y11, y12⟩ := hsr.cells
        go_wp2_with fail
        refine HC.out.mono ?_
        rintro e w3 ⟨A3, n3, c3, rfl, o3, b3⟩
        clear HC y0 y1 y2 y3 y4 y5 y6 y7 y8 y9 y10 y11 y12
        have HN3 := Lib.hid (show n3 ≤ 500 by have h1 := o3.rdI.len; have h2 := apply_len w64 F n run forms; have := HRL.out; omega)
        have hs_3 := hsr.call b3
        have HC := Lib.hid (apply_all f F n A m c xs FA fn fc forms w3 hs_3.hf (ho.rdI.call b3) hs_3.hF hfnM (by have := HXL.out; omega) HSM.out.sm HSM.out.o)
        unfold FV.cells at HC
        obtain ⟨y0, y1, y2, y3, y4, y5, y6, y7, y8, y9, y10, y11, y12⟩ := hs_3.cells
        go_wp2_with fail
        refine HC.out.mono ?_
        rintro e w4 ⟨A4, n4, c4, rfl, o4, b4⟩
        clear HC y0 y1 y2 y3 y4 y5 y6 y7 y8 y9 y10 y11 y12
        have hn4 : n4 ≤ max m 500 := by have h1 := o4.rdI.len; have h2 := apply_len w64 F n xs forms; have := HXL.out; omega
        have hs_4 := hs_3.call b4
        have hn3 := HN3.out
        have t5 : decide ((n3 : Int) ≤ 500) = true := by simp; omega
        have t5' : decide (n3 ≤ 500) = true := by simp; omega
        clear hs_3 hsr ho o3 o4 b3 b4 hbr
        by_cases hm5 : 500 < m
        · have t6 : decide ((500 : Int) < (m : Int)) = true := by simp; omega
          have t6' : decide (500 < m) = true := by simp; omega
          have t7 : decide ((n4 : Int) ≤ (m : Int)) = true := by simp; omega
          have t7' : decide (n4 ≤ m) = true := by simp; omega
          clear hn4 hn3
          go_wp2_with fail
          refine (ruled_c _).mono ?_
          rintro e w5 ⟨rfl, b5⟩
          go_wp2
          go_ret
          exact ⟨rfl, below_call hs_4.bw b5⟩
        · have t6 : decide ((500 : Int) < (m : Int)) = false := by simp; omega
          have t6' : decide (500 < m) = false := by simp; omega
          have t7 : decide ((n4 : Int) ≤ 500) = true := by simp; omega
          have t7' : decide (n4 ≤ 500) = true := by simp; omega
          clear hn4 hn3
          go_wp2_with fail
          refine (ruled_c _).mono ?_
          rintro e w5 ⟨rfl, b5⟩
          go_wp2
          go_ret
          exact ⟨rfl, below_call hs_4.bw b5⟩

end Go.Proofs.Ytkoocipagndclaa
