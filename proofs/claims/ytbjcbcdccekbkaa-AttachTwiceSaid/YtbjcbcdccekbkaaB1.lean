/- Walk: AttachTwice. -/
import Derived.Test.YtbjcbcdccekbkaaB0
namespace Go.Proofs.Ytbjcbcdccekbkaa
open Go.RowKit Go.Shelf

set_option maxRecDepth 100000 in
set_option maxHeartbeats 4000000 in
theorem attachTwice_walk (f : FV) (F : Fnt) (lookup : Int) (RA : Option Addr) (rn rc : Nat) (run : List Itm) (w : World) (hf : IsF w (lo w.heap.size) f F) (hI : RdI w (lo w.heap.size) RA rn run) (hd : Hd rn rc) :
    Calls Try.prog 7 #[.agg f.cells, .int .i64 lookup, .slice RA rn rc] w (TP w) := by
  have hrnM : rn ≤ 9223372036854775807 := Nat.le_trans hd.1 hd.2
  have hs_0 := LS.new hf hI
  unfold FV.cells at hs_0 ⊢
  go_enter Try.func7, Try.ntmps7
  go_wp2_with fail
  generalize w.alloc (.cells #[.int .i64 f.u0, .slice f.ga f.gn f.gc, .slice f.ca f.cn f.cc, .slice f.la f.ln f.lc, .slice f.a4 f.n4 f.c4, .slice f.a5 f.n5 f.c5, .slice f.a6 f.n6 f.c6, .slice f.a7 f.n7 f.c7, .slice f.a8 f.n8 f.c8] 31) = w0 at hs_0 ⊢
  generalize hbf : w.heap.size = bf at hs_0 ⊢
  clear hbf hf hI
  have HC := Lib.hid (big14_c f F RA rn rc run w0 hs_0.hf hs_0.hI hrnM)
  unfold FV.cells at HC
  refine HC.out.mono ?_
  rintro e w1 ⟨rfl, b1⟩
  clear HC
  have hs_1 := hs_0.call b1
  clear hs_0 b1
  cases hbig : big14 F run with
  | true =>
    go_wp2
    go_ret
    exact ⟨rfl, hs_1.bw⟩
  | false =>
    obtain ⟨hl, hsm⟩ := small14 hbig
    have hrn : rn ≤ 100 := by have := hs_1.hI.len; omega
    have HL := Lib.hid hl
    have k7 := (attachL_keeps w64 F lookup 7 run).1
    have k8 := (attachL_keeps w64 F lookup 8 run).1
    have HT7 := Lib.hid (attachL_twice7 w64 F lookup run)
    have HT8 := Lib.hid (attachL_twice8 w64 F lookup run)
    have HC7 := Lib.hid fun (W : World) (h1 : IsF W (lo W.heap.size) f F) (h2 : RdI W (lo W.heap.size) RA rn run) => aCursive_c f F lookup RA rn rc run W h1 h2 (by omega)
    have HC8 := Lib.hid fun (W : World) (h1 : IsF W (lo W.heap.size) f F) (h2 : RdI W (lo W.heap.size) RA rn run) => aMarks_c f F lookup RA rn rc run W h1 h2 (by omega)
    generalize attachL w64 F lookup 7 run = R7 at *
    generalize attachL w64 F lookup 8 run = R8 at *
    have K7 := Lib.hid k7; have K8 := Lib.hid k8
    clear hl hsm hbig k7 k8
    obtain ⟨y0, y1, y2, y3, y4, y5, y6, y7, y8⟩ := font_cells hs_1.kf
    go_wp2_with fail
    clear y0 y1 y2 y3 y4 y5 y6 y7 y8
    have HC := Lib.hid (HC7.out w1 hs_1.hf hs_1.hI)
    unfold FV.cells at HC
    refine HC.out.mono ?_
    rintro e w2 ⟨A2, n2, c2, rfl, o2, b2⟩
    clear HC
    have hs_2 := hs_1.call b2
    clear hs_1 b2
    have q7_2 := o2.rdI
    have hn2 : n2 ≤ 100 := by have := q7_2.len; have := K7.out; have := HL.out; omega
    clear o2 HC7
    obtain ⟨y0, y1, y2, y3, y4, y5, y6, y7, y8⟩ := font_cells hs_2.kf
    go_wp2_with fail
    clear y0 y1 y2 y3 y4 y5 y6 y7 y8
    have HC := Lib.hid (HC8.out w2 hs_2.hf hs_2.hI)
    unfold FV.cells at HC
    refine HC.out.mono ?_
    rintro e w3 ⟨A3, n3, c3, rfl, o3, b3⟩
    clear HC
    have hs_3 := hs_2.call b3
    have q7_3 := q7_2.call b3
    clear hs_2 q7_2 b3
    have q8_3 := o3.rdI
    have hn3 : n3 ≤ 100 := by have := q8_3.len; have := K8.out; have := HL.out; omega
    clear o3 HC8
    go_wp2_with fail
    have HC := Lib.hid (hung_c w3)
    refine HC.out.mono ?_
    rintro e w4 ⟨rfl, b4⟩
    clear HC
    have hs_4 := hs_3.call b4
    have q7_4 := q7_3.call b4
    have q8_4 := q8_3.call b4
    clear hs_3 q7_3 q8_3 b4
    obtain ⟨y0, y1, y2, y3, y4, y5, y6, y7, y8⟩ := font_cells hs_4.kf
    go_wp2_with fail
    clear y0 y1 y2 y3 y4 y5 y6 y7 y8
    have HC := Lib.hid (aCursive_c f F lookup A2 n2 c2 R7 w4 hs_4.hf q7_4 (by omega))
    unfold FV.cells at HC
    rw [HT7.out] at HC
    refine HC.out.mono ?_
    rintro e w5 ⟨A5, n5, c5, rfl, o5, b5⟩
    clear HC
    have hs_5 := hs_4.call b5
    have q7_5 := q7_4.call b5
    have q8_5 := q8_4.call b5
    clear hs_4 q7_4 q8_4 b5
    have q9_5 := o5.rdI
    have hn5 : n5 ≤ 100 := by have := q9_5.len; have := K7.out; have := HL.out; omega
    clear o5
    go_wp2_with fail
    have HC := Lib.hid (same_c A5 A2 n5 n2 c5 c2 R7 R7 w5 q9_5 q7_5 (by omega) (by omega))
    rw [show decide (R7 = R7) = true by simp] at HC
    refine HC.out.mono ?_
    rintro e w6 ⟨rfl, b6⟩
    clear HC
    have hs_6 := hs_5.call b6
    have q7_6 := q7_5.call b6
    have q8_6 := q8_5.call b6
    have q9_6 := q9_5.call b6
    clear hs_5 q7_5 q8_5 q9_5 b6
    obtain ⟨y0, y1, y2, y3, y4, y5, y6, y7, y8⟩ := font_cells hs_6.kf
    go_wp2_with fail
    clear y0 y1 y2 y3 y4 y5 y6 y7 y8
    have HC := Lib.hid (aMarks_c f F lookup A3 n3 c3 R8 w6 hs_6.hf q8_6 (by omega))
    unfold FV.cells at HC
    rw [HT8.out] at HC
    refine HC.out.mono ?_
    rintro e w7 ⟨A7, n7, c7, rfl, o7, b7⟩
    clear HC
    have hs_7 := hs_6.call b7
    have q7_7 := q7_6.call b7
    have q8_7 := q8_6.call b7
    have q9_7 := q9_6.call b7
    clear hs_6 q7_6 q8_6 q9_6 b7
    have qa_7 := o7.rdI
    have hn7 : n7 ≤ 100 := by have := qa_7.len; have := K8.out; have := HL.out; omega
    clear o7
    go_wp2_with fail
    have HC := Lib.hid (same_c A7 A3 n7 n3 c7 c3 R8 R8 w7 qa_7 q8_7 (by omega) (by omega))
    rw [show decide (R8 = R8) = true by simp] at HC
    refine HC.out.mono ?_
    rintro e w8 ⟨rfl, b8⟩
    clear HC
    have hs_8 := hs_7.call b8
    have q7_8 := q7_7.call b8
    have q8_8 := q8_7.call b8
    have q9_8 := q9_7.call b8
    have qa_8 := qa_7.call b8
    clear hs_7 q7_7 q8_7 q9_7 qa_7 b8
    go_wp2
    go_ret
    exact ⟨rfl, hs_8.bw⟩

end Go.Proofs.Ytbjcbcdccekbkaa
