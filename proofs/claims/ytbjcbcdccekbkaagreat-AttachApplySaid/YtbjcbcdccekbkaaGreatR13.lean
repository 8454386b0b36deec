/- Walks: the document's Pairs. -/
import Derived.Test.YtbjcbcdccekbkaaGreatR12
import Derived.Test.YtbjcbcdccekbkaaGreatR1
namespace Go.Proofs.YtbjcbcdccekbkaaGreat
open Go.RowKit Go.Shelf

set_option maxRecDepth 100000 in
set_option maxHeartbeats 1000000 in
theorem rpairs_c (f : FV) (F : Fnt) (lookup : Int) (RA : Option Addr) (rn rc : Nat) (run : List Itm) (w : World) (hf : IsF w (lo w.heap.size) f F) (hI : RdI w (lo w.heap.size) RA rn run) (hrn : rn ≤ 1000) (hsm : SmF F) :
    Calls Tryz.prog 21 #[.agg f.cells, .int .i64 lookup, .slice RA rn rc] w (QRPost w (attachL w64 F lookup 6 run)) := by
  have hs0 := LS'.new hf hI
  obtain ⟨R, hR⟩ : ∃ R, R = attachL w64 F lookup 6 run := ⟨_, rfl⟩
  rw [← hR]
  rw [← attach_ki6] at hR
  have HR := Lib.hid hR
  have HSM := Lib.hid hsm
  have HK := Lib.hid (rkind_c f F lookup _ hs0.hf)
  unfold FV.cells at hs0 HK ⊢
  clear hR hsm
  go_enter Tryz.func21, Tryz.ntmps21
  go_wp2_with fail
  generalize w.alloc (.cells #[.int .i64 f.u0, .slice f.ga f.gn f.gc, .slice f.ca f.cn f.cc, .slice f.la f.ln f.lc, .slice f.a4 f.n4 f.c4, .slice f.a5 f.n5 f.c5, .slice f.a6 f.n6 f.c6, .slice f.a7 f.n7 f.c7, .slice f.a8 f.n8 f.c8] 31) = w0 at hs0 HK ⊢
  generalize hbf : w.heap.size = bf at hs0 ⊢
  clear hbf hf hI
  refine HK.out.mono ?_
  rintro e w1 ⟨rfl, b1⟩
  clear HK
  have hs1 := hs0.call b1
  clear hs0 b1
  by_cases h6 : (kiOf F lookup).1 = 6
  · have e1 : ((kiOf F lookup).1 != 6) = false := by simp [h6]
    have HRES := Lib.hid (show R = applyL w64 F lookup run [] by rw [HR.out, if_pos h6])
    have HC := Lib.hid (qApply_c f F lookup RA rn rc run none 0 0 [] w1 hs1.hf hs1.hI SlE.nil hrn (by omega) HSM.out (fun q lk hn hlk _ _ => ⟨qdone_pair f F q lk hlk (ki_kind h6 q hn lk hlk), lenOK_pair (ki_kind h6 q hn lk hlk)⟩))
    unfold FV.cells at HC
    obtain ⟨y0, y1, y2, y3, y4, y5, y6, y7, y8⟩ := font_cells hs1.kf
    go_wp2_with fail
    refine HC.out.mono ?_
    rintro e w2 ⟨A2, n2, c2, rfl, h2, d2, b2⟩
    clear HC y0 y1 y2 y3 y4 y5 y6 y7 y8
    go_wp2
    go_ret
    exact ⟨_, _, _, rfl, by rw [HRES.out]; exact h2, d2, below_call hs1.bw b2⟩
  · have e1 : ((kiOf F lookup).1 != 6) = true := by simpa using h6
    have HRES := Lib.hid (show R = run by rw [HR.out, if_neg h6])
    have HC := Lib.hid (rcopied_c RA rn rc run w1 hs1.hI (by omega))
    go_wp2_with fail
    refine HC.out.mono ?_
    rintro e w2 ⟨A2, n2, c2, rfl, o2, b2⟩
    clear HC
    go_wp2
    go_ret
    exact ⟨_, _, _, rfl, by rw [HRES.out]; exact o2.rdI, o2.hd, below_call hs1.bw b2⟩

end Go.Proofs.YtbjcbcdccekbkaaGreat
