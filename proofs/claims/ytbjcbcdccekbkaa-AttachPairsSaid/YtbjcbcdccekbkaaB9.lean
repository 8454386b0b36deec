/- Walk: AttachPairs. -/
import Derived.Test.YtbjcbcdccekbkaaR13
namespace Go.Proofs.Ytbjcbcdccekbkaa
open Go.RowKit Go.Shelf

set_option maxRecDepth 100000 in
set_option maxHeartbeats 4000000 in
theorem attachPairs_walk (f : FV) (F : Fnt) (lookup : Int) (RA : Option Addr) (rn rc : Nat) (run : List Itm) (w : World) (hf : IsF w (lo w.heap.size) f F) (hI : RdI w (lo w.heap.size) RA rn run) (hd : Hd rn rc) :
    Calls Try.prog 11 #[.agg f.cells, .int .i64 lookup, .slice RA rn rc] w (TP w) := by
  have hrnM : rn ≤ 9223372036854775807 := Nat.le_trans hd.1 hd.2
  have hs_0 := LS.new hf hI
  unfold FV.cells at hs_0 ⊢
  go_enter Try.func11, Try.ntmps11
  go_wp2_with fail
  generalize w.alloc (.cells #[.int .i64 f.u0, .slice f.ga f.gn f.gc, .slice f.ca f.cn f.cc, .slice f.la f.ln f.lc, .slice f.a4 f.n4 f.c4, .slice f.a5 f.n5 f.c5, .slice f.a6 f.n6 f.c6, .slice f.a7 f.n7 f.c7, .slice f.a8 f.n8 f.c8] 31) = w0 at hs_0 ⊢
  generalize hbf : w.heap.size = bf at hs_0 ⊢
  clear hbf hf hI
  have HC := Lib.hid (big14_c f F RA rn rc run w0 hs_0.hf hs_0.hI hrnM)
  unfold FV.cells at HC
  refine HC.out.mono ?_
  rintro e w1 ⟨rfl, b1⟩
  clear HC
  have hs_1 := hs_0.call b1
  clear hs_0 b1
  cases hbig : big14 F run with
  | true =>
    go_wp2
    go_ret
    exact ⟨rfl, hs_1.bw⟩
  | false =>
    obtain ⟨hl, hsm⟩ := small14 hbig
    have HSM := Lib.hid hsm
    have hrn : rn ≤ 100 := by have := hs_1.hI.len; omega
    have hln := hs_1.hf.2.1.len
    have hld := hs_1.hf.2.2.2
    have hlnM : f.ln ≤ 9223372036854775807 := Nat.le_trans hld.1 hld.2
    have HLN := Lib.hid hln
    have hR6 := (attachL_keeps w64 F lookup 6 run).1
    have HRL := Lib.hid hs_1.hI.len
    obtain ⟨R, hR⟩ : ∃ R, R = attachL w64 F lookup 6 run := ⟨_, rfl⟩
    have HA6 := Lib.hid hR.symm
    rw [← hR] at hR6
    have HRN := Lib.hid (show R.length ≤ 100 by rw [hR6]; omega)
    clear hl hsm hbig hld hln hR6 hR
    obtain ⟨y0, y1, y2, y3, y4, y5, y6, y7, y8⟩ := font_cells hs_1.kf
    go_wp2_with fail
    clear y0 y1 y2 y3 y4 y5 y6 y7 y8
    have HC := Lib.hid (aPairs_c f F lookup RA rn rc run w1 hs_1.hf hs_1.hI (by omega) HSM.out)
    rw [HA6.out] at HC
    unfold FV.cells at HC
    refine HC.out.mono ?_
    rintro e w2 ⟨A2, n2, c2, rfl, o2, b2⟩
    clear HC
    have hs2 := hs_1.call b2
    have l2 := o2.rdI
    have hn2 : n2 ≤ 100 := by have := l2.len; have := HRN.out; omega
    clear hs_1 o2 b2
    have y3 := (font_cells hs2.kf).2.2.2.1
    by_cases h0 : lookup < 0
    · have t0 : decide (0 ≤ lookup) = false := by simp; omega
      have hsB := hs2
      have lB := l2
      have HCh := Lib.hid fun (W : World) => hung_c W
      go_wp2_with fail
      refine (HCh.out _).mono ?_
      rintro e w5 ⟨rfl, b5⟩
      have hs5 := hsB.call b5
      have l5 := lB.call b5
      obtain ⟨y0, y1, y2, y3, y4, y5, y6, y7, y8⟩ := font_cells hs5.kf
      go_wp2_with fail
      clear y0 y1 y2 y3 y4 y5 y6 y7 y8
      have HC := Lib.hid (rpairs_c f F lookup RA rn rc run w5 hs5.hf hs5.hI (by omega) HSM.out)
      rw [HA6.out] at HC
      unfold FV.cells at HC
      refine HC.out.mono ?_
      rintro e w6 ⟨A6, n6, c6, rfl, h6, d6, b6⟩
      clear HC
      have hs6 := hs5.call b6
      have l6 := l5.call b6
      go_wp2_with fail
      have HC := Lib.hid (same_c A2 A6 n2 n6 c2 c6 R R w6 l6 h6 (by omega) (by have := h6.len; have := HRN.out; omega))
      rw [show decide (R = R) = true by simp] at HC
      refine HC.out.mono ?_
      rintro e w7 ⟨rfl, b7⟩
      clear HC
      have hs7 := hs6.call b7
      have l7 := l6.call b7
      go_wp2_with fail
      have HC := Lib.hid (width_c A2 n2 c2 R w7 l7 (by omega))
      refine HC.out.mono ?_
      rintro e w8 ⟨rfl, b8⟩
      clear HC
      have hs8 := hs7.call b8
      have l8 := l7.call b8
      go_wp2_with fail
      have HC := Lib.hid (rwidth_c A2 n2 c2 R w8 l8 (by omega))
      refine HC.out.mono ?_
      rintro e w9 ⟨rfl, rfl⟩
      clear HC
      go_wp2
      go_ret
      exact ⟨rfl, hs8.bw⟩
    · have t0 : decide (0 ≤ lookup) = true := by simp; omega
      by_cases h1 : (f.ln : Int) ≤ lookup
      · have t1 : decide (lookup < (f.ln : Int)) = false := by simp; omega
        have hsB := hs2
        have lB := l2
        have HCh := Lib.hid fun (W : World) => hung_c W
        go_wp2_with fail
        refine (HCh.out _).mono ?_
        rintro e w5 ⟨rfl, b5⟩
        have hs5 := hsB.call b5
        have l5 := lB.call b5
        obtain ⟨y0, y1, y2, y3, y4, y5, y6, y7, y8⟩ := font_cells hs5.kf
        go_wp2_with fail
        clear y0 y1 y2 y3 y4 y5 y6 y7 y8
        have HC := Lib.hid (rpairs_c f F lookup RA rn rc run w5 hs5.hf hs5.hI (by omega) HSM.out)
        rw [HA6.out] at HC
        unfold FV.cells at HC
        refine HC.out.mono ?_
        rintro e w6 ⟨A6, n6, c6, rfl, h6, d6, b6⟩
        clear HC
        have hs6 := hs5.call b6
        have l6 := l5.call b6
        go_wp2_with fail
        have HC := Lib.hid (same_c A2 A6 n2 n6 c2 c6 R R w6 l6 h6 (by omega) (by have := h6.len; have := HRN.out; omega))
        rw [show decide (R = R) = true by simp] at HC
        refine HC.out.mono ?_
        rintro e w7 ⟨rfl, b7⟩
        clear HC
        have hs7 := hs6.call b7
        have l7 := l6.call b7
        go_wp2_with fail
        have HC := Lib.hid (width_c A2 n2 c2 R w7 l7 (by omega))
        refine HC.out.mono ?_
        rintro e w8 ⟨rfl, b8⟩
        clear HC
        have hs8 := hs7.call b8
        have l8 := l7.call b8
        go_wp2_with fail
        have HC := Lib.hid (rwidth_c A2 n2 c2 R w8 l8 (by omega))
        refine HC.out.mono ?_
        rintro e w9 ⟨rfl, rfl⟩
        clear HC
        go_wp2
        go_ret
        exact ⟨rfl, hs8.bw⟩
      · have t1 : decide (lookup < (f.ln : Int)) = true := by simp; omega
        obtain ⟨k, rfl⟩ : ∃ k : Nat, lookup = k := ⟨lookup.toNat, by omega⟩
        have t1' : decide (k < f.ln) = true := by simp; omega
        obtain ⟨lk, hlk⟩ := at_some F.lks k (by have := HLN.out; omega)
        obtain ⟨lb, lo', hla2, hlb, hc⟩ := hs2.hf.2.1.pos (by omega)
        obtain ⟨cs, ⟨A, n, c, rfl, hR, hdl⟩, hcc⟩ := hc k lk hlk
        have g0 := hcc 0 _ rfl
        rw [Nat.add_zero] at g0
        rw [hla2] at y3
        have HLA := Lib.hid hla2; have HLK := Lib.hid hlk
        have kz : (0 : Int) ≤ (k : Int) := by omega
        have kn : (k : Int) < (f.ln : Int) := by omega
        clear hla2 hlk hc hcc hR hdl h0 h1
        by_cases h6 : lk.kind = 6
        · rw [h6] at g0
          have HC := Lib.hid (apply_c f F (k : Int) RA rn rc run none 0 0 [] w2 hs2.hf hs2.hI SlE.nil (by omega) (by have := HRL.out; omega) HSM.out (fun q lk' hn hlk' => by
            have hq : q = k := by omega
            subst hq
            have := HLK.out
            rw [hlk'] at this
            injection this with this
            subst this
            exact apOK_pair h6 hlk'))
          rw [show applyL w64 F (k : Int) run [] = R by rw [← HA6.out, ← attach_ki6, ki_some (lkAt_nat HLK.out), if_pos h6]] at HC
          unfold FV.cells at HC
          obtain ⟨y0, y1, y2, y3, y4, y5, y6, y7, y8⟩ := font_cells hs2.kf
          rw [HLA.out] at y3 HC
          go_wp2_with fail
          clear y0 y1 y2 y4 y5 y6 y7 y8
          refine HC.out.mono ?_
          rintro e w3 ⟨A3, n3, c3, rfl, o3, b3⟩
          clear HC
          have hs3 := hs2.call b3
          have l3 := l2.call b3
          have l3' := o3.rdI
          clear g0 y3
          go_wp2_with fail
          have HC := Lib.hid (same_c A2 A3 n2 n3 c2 c3 R R w3 l3 l3' (by omega) (by have := l3'.len; have := HRN.out; omega))
          rw [show decide (R = R) = true by simp] at HC
          refine HC.out.mono ?_
          rintro e w4 ⟨rfl, b4⟩
          clear HC
          have hsB := hs3.call b4
          have lB := l3.call b4
          have HCh := Lib.hid fun (W : World) => hung_c W
          go_wp2_with fail
          refine (HCh.out _).mono ?_
          rintro e w5 ⟨rfl, b5⟩
          have hs5 := hsB.call b5
          have l5 := lB.call b5
          obtain ⟨y0, y1, y2, y3, y4, y5, y6, y7, y8⟩ := font_cells hs5.kf
          go_wp2_with fail
          clear y0 y1 y2 y3 y4 y5 y6 y7 y8
          have HC := Lib.hid (rpairs_c f F (k : Int) RA rn rc run w5 hs5.hf hs5.hI (by omega) HSM.out)
          rw [HA6.out] at HC
          unfold FV.cells at HC
          refine HC.out.mono ?_
          rintro e w6 ⟨A6, n6, c6, rfl, h6, d6, b6⟩
          clear HC
          have hs6 := hs5.call b6
          have l6 := l5.call b6
          go_wp2_with fail
          have HC := Lib.hid (same_c A2 A6 n2 n6 c2 c6 R R w6 l6 h6 (by omega) (by have := h6.len; have := HRN.out; omega))
          rw [show decide (R = R) = true by simp] at HC
          refine HC.out.mono ?_
          rintro e w7 ⟨rfl, b7⟩
          clear HC
          have hs7 := hs6.call b7
          have l7 := l6.call b7
          go_wp2_with fail
          have HC := Lib.hid (width_c A2 n2 c2 R w7 l7 (by omega))
          refine HC.out.mono ?_
          rintro e w8 ⟨rfl, b8⟩
          clear HC
          have hs8 := hs7.call b8
          have l8 := l7.call b8
          go_wp2_with fail
          have HC := Lib.hid (rwidth_c A2 n2 c2 R w8 l8 (by omega))
          refine HC.out.mono ?_
          rintro e w9 ⟨rfl, rfl⟩
          clear HC
          go_wp2
          go_ret
          exact ⟨rfl, hs8.bw⟩
        · have e6 : (lk.kind == 6) = false := by simpa using h6
          have hsB := hs2
          have lB := l2
          have HCh := Lib.hid fun (W : World) => hung_c W
          go_wp2_with fail
          refine (HCh.out _).mono ?_
          rintro e w5 ⟨rfl, b5⟩
          have hs5 := hsB.call b5
          have l5 := lB.call b5
          obtain ⟨y0, y1, y2, y3, y4, y5, y6, y7, y8⟩ := font_cells hs5.kf
          go_wp2_with fail
          clear y0 y1 y2 y3 y4 y5 y6 y7 y8
          have HC := Lib.hid (rpairs_c f F (k : Int) RA rn rc run w5 hs5.hf hs5.hI (by omega) HSM.out)
          rw [HA6.out] at HC
          unfold FV.cells at HC
          refine HC.out.mono ?_
          rintro e w6 ⟨A6, n6, c6, rfl, h6, d6, b6⟩
          clear HC
          have hs6 := hs5.call b6
          have l6 := l5.call b6
          go_wp2_with fail
          have HC := Lib.hid (same_c A2 A6 n2 n6 c2 c6 R R w6 l6 h6 (by omega) (by have := h6.len; have := HRN.out; omega))
          rw [show decide (R = R) = true by simp] at HC
          refine HC.out.mono ?_
          rintro e w7 ⟨rfl, b7⟩
          clear HC
          have hs7 := hs6.call b7
          have l7 := l6.call b7
          go_wp2_with fail
          have HC := Lib.hid (width_c A2 n2 c2 R w7 l7 (by omega))
          refine HC.out.mono ?_
          rintro e w8 ⟨rfl, b8⟩
          clear HC
          have hs8 := hs7.call b8
          have l8 := l7.call b8
          go_wp2_with fail
          have HC := Lib.hid (rwidth_c A2 n2 c2 R w8 l8 (by omega))
          refine HC.out.mono ?_
          rintro e w9 ⟨rfl, rfl⟩
          clear HC
          go_wp2
          go_ret
          exact ⟨rfl, hs8.bw⟩

end Go.Proofs.Ytbjcbcdccekbkaa
