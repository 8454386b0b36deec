/- Walk: AttachApply. -/
import Derived.Test.YtbjcbcdccekbkaaGreatR14
namespace Go.Proofs.YtbjcbcdccekbkaaGreat
open Go.RowKit Go.Shelf

set_option maxRecDepth 100000 in
set_option maxHeartbeats 4000000 in
theorem attachApply_walk (f : FV) (F : Fnt) (lookup : Int) (RA : Option Addr) (rn rc : Nat) (run : List Itm) (w : World) (hf : IsF w (lo w.heap.size) f F) (hI : RdI w (lo w.heap.size) RA rn run) (hd : Hd rn rc) :
    Calls Tryz.prog 3 #[.agg f.cells, .int .i64 lookup, .slice RA rn rc] w (TP w) := by
  have hrnM : rn ≤ 9223372036854775807 := Nat.le_trans hd.1 hd.2
  have hs_0 := LS.new hf hI
  unfold FV.cells at hs_0 ⊢
  go_enter Tryz.func3, Tryz.ntmps3
  go_wp2_with fail
  generalize w.alloc (.cells #[.int .i64 f.u0, .slice f.ga f.gn f.gc, .slice f.ca f.cn f.cc, .slice f.la f.ln f.lc, .slice f.a4 f.n4 f.c4, .slice f.a5 f.n5 f.c5, .slice f.a6 f.n6 f.c6, .slice f.a7 f.n7 f.c7, .slice f.a8 f.n8 f.c8] 31) = w0 at hs_0 ⊢
  generalize hbf : w.heap.size = bf at hs_0 ⊢
  clear hbf hf hI
  have HC := Lib.hid (big14_c f F RA rn rc run w0 hs_0.hf hs_0.hI hrnM)
  unfold FV.cells at HC
  refine HC.out.mono ?_
  rintro e w1 ⟨rfl, b1⟩
  clear HC
  have hs_1 := hs_0.call b1
  clear hs_0 b1
  cases hbig : big14 F run with
  | true =>
    go_wp2
    go_ret
    exact ⟨rfl, hs_1.bw⟩
  | false =>
    obtain ⟨hl, hsm⟩ := small14 hbig
    have HSM := Lib.hid hsm
    have hrn : rn ≤ 100 := by have := hs_1.hI.len; omega
    have HRL := Lib.hid hs_1.hI.len
    have hR6 := (attachAll_keeps w64 F lookup run).1
    obtain ⟨R, hR⟩ : ∃ R, R = attachAll w64 F lookup run := ⟨_, rfl⟩
    have HA6 := Lib.hid hR.symm
    rw [← hR] at hR6
    have HRN := Lib.hid (show R.length ≤ 100 by rw [hR6]; omega)
    clear hl hsm hbig hR6 hR
    have bE : Below w1.heap.size w1 (w1.alloc (.cells #[] 57)) := (Below.refl _ _).alloc (Nat.le_refl _) _
    have hR0 := hs_1.hI.call bE
    have HLR := Lib.hid (itc_lenN hR0.len)
    go_upto_region 5 with (at_builtin; refine appP elt_item rfl _ _ rfl _ w1.heap.size _ _ _ [] _ _ _ (itc run) (by rfl) (by rfl) (own_empty w1 _ _) HLR.out (news_itc hR0) (itc_one _) (by omega) bE.size ?_; intro A1 c1 w2 o1 hg1 hb1 hat1)
    rw [List.nil_append, Nat.zero_add] at o1
    have b1 := bE.trans hb1
    have hs2 := hs_1.call b1
    have l2 := o1.rdI
    clear hs_1 bE hR0 hg1 hb1 hat1 b1 o1
    obtain ⟨y0, y1, y2, y3, y4, y5, y6, y7, y8⟩ := font_cells hs2.kf
    go_wp2_with fail
    clear y0 y1 y2 y3 y4 y5 y6 y7 y8
    have HC := Lib.hid (aApply_c f F lookup RA rn rc run w2 hs2.hf hs2.hI (by omega) HSM.out)
    rw [HA6.out] at HC
    unfold FV.cells at HC
    refine HC.out.mono ?_
    rintro e w3 ⟨A3, n3, c3, rfl, o3, b3⟩
    clear HC
    have hs3 := hs2.call b3
    have l3 := l2.call b3
    have q3 := o3.rdI
    have hn3 : n3 ≤ 100 := by have := q3.len; have := HRN.out; omega
    clear hs2 l2 o3 b3
    have HCh := Lib.hid fun (W : World) => hung_c W
    go_wp2_with fail
    refine (HCh.out _).mono ?_
    rintro e w5 ⟨rfl, b5⟩
    have hs5 := hs3.call b5
    have l5 := l3.call b5
    have q5 := q3.call b5
    obtain ⟨y0, y1, y2, y3, y4, y5, y6, y7, y8⟩ := font_cells hs5.kf
    go_wp2_with fail
    clear y0 y1 y2 y3 y4 y5 y6 y7 y8
    have HC := Lib.hid (rApply_c f F lookup RA rn rc run w5 hs5.hf hs5.hI (by omega) HSM.out)
    rw [HA6.out] at HC
    unfold FV.cells at HC
    refine HC.out.mono ?_
    rintro e w6 ⟨A6, n6, c6, rfl, h6, d6, b6⟩
    clear HC
    have hs6 := hs5.call b6
    have l6 := l5.call b6
    have q6 := q5.call b6
    go_wp2_with fail
    have HC := Lib.hid (same_c A3 A6 n3 n6 c3 c6 R R w6 q6 h6 (by omega) (by have := h6.len; have := HRN.out; omega))
    rw [show decide (R = R) = true by simp] at HC
    refine HC.out.mono ?_
    rintro e w7 ⟨rfl, b7⟩
    clear HC
    have hs7 := hs6.call b7
    have l7 := l6.call b7
    go_wp2_with fail
    have HC := Lib.hid (same_c RA A1 rn rn rc c1 run run w7 hs7.hI l7 (by omega) (by omega))
    rw [show decide (run = run) = true by simp] at HC
    refine HC.out.mono ?_
    rintro e w8 ⟨rfl, b8⟩
    clear HC
    have hs8 := hs7.call b8
    go_wp2
    go_ret
    exact ⟨rfl, hs8.bw⟩

end Go.Proofs.YtbjcbcdccekbkaaGreat
