/- Walk: AttachKeeps. -/
import Derived.Test.YtbjcbcdccekbkaaB0
namespace Go.Proofs.Ytbjcbcdccekbkaa
open Go.RowKit Go.Shelf

set_option maxRecDepth 100000 in
set_option maxHeartbeats 4000000 in
theorem attachKeeps_walk (f : FV) (F : Fnt) (lookup : Int) (RA : Option Addr) (rn rc : Nat) (run : List Itm) (w : World) (hf : IsF w (lo w.heap.size) f F) (hI : RdI w (lo w.heap.size) RA rn run) (hd : Hd rn rc) :
    Calls Try.prog 6 #[.agg f.cells, .int .i64 lookup, .slice RA rn rc] w (TP w) := by
  have hrnM : rn ≤ 9223372036854775807 := Nat.le_trans hd.1 hd.2
  have hs_0 := LS.new hf hI
  unfold FV.cells at hs_0 ⊢
  go_enter Try.func6, Try.ntmps6
  go_wp2_with fail
  generalize w.alloc (.cells #[.int .i64 f.u0, .slice f.ga f.gn f.gc, .slice f.ca f.cn f.cc, .slice f.la f.ln f.lc, .slice f.a4 f.n4 f.c4, .slice f.a5 f.n5 f.c5, .slice f.a6 f.n6 f.c6, .slice f.a7 f.n7 f.c7, .slice f.a8 f.n8 f.c8] 31) = w0 at hs_0 ⊢
  generalize hbf : w.heap.size = bf at hs_0 ⊢
  clear hbf hf hI
  have HC := Lib.hid (big14_c f F RA rn rc run w0 hs_0.hf hs_0.hI hrnM)
  unfold FV.cells at HC
  refine HC.out.mono ?_
  rintro e w1 ⟨rfl, b1⟩
  clear HC
  have hs_1 := hs_0.call b1
  clear hs_0 b1
  cases hbig : big14 F run with
  | true =>
    go_wp2
    go_ret
    exact ⟨rfl, hs_1.bw⟩
  | false =>
    obtain ⟨hl, hsm⟩ := small14 hbig
    have hrl := hs_1.hI.len
    have hrn : rn ≤ 100 := by omega
    have HRL := Lib.hid hrl
    have HC8 := Lib.hid fun (W : World) (h1 : IsF W (lo W.heap.size) f F) (h2 : RdI W (lo W.heap.size) RA rn run) => aApply_c f F lookup RA rn rc run W h1 h2 (by omega) hsm
    have hkeep := attachAll_keeps w64 F lookup run
    generalize attachAll w64 F lookup run = R at *
    have HK := Lib.hid hkeep
    clear hl hsm hbig hkeep hrl
    obtain ⟨y0, y1, y2, y3, y4, y5, y6, y7, y8⟩ := font_cells hs_1.kf
    go_wp2_with fail
    clear y0 y1 y2 y3 y4 y5 y6 y7 y8
    have HC := Lib.hid (HC8.out w1 hs_1.hf hs_1.hI)
    unfold FV.cells at HC
    refine HC.out.mono ?_
    rintro e w2 ⟨A2, n2, c2, rfl, o2, b2⟩
    clear HC
    have hs_2 := hs_1.call b2
    clear hs_1 b2
    have q_2 := o2.rdI
    have hn2 : n2 = rn := by have := q_2.len; have := HK.out.1; have := HRL.out; omega
    subst hn2
    clear o2 HC8
    have e1 : ((n2 : Int) != (n2 : Int)) = false := by simp
    go_wp2
    go_loopw [8] (fun i wr => ∃ j d : Nat, j ≤ n2 ∧ i = .int .i64 j ∧ wr = w2.drewN d) (fun i _ => n2 - (intOf i).toNat)
    case atStart => exact ⟨0, 0, by omega, rfl, rfl⟩
    case round =>
      obtain ⟨j, d, hj, rfl, rfl⟩ := hrel
      by_cases hlt : j < n2
      · obtain ⟨x, hx⟩ := at_some R j (by have := q_2.len; omega)
        obtain ⟨y, hy⟩ := at_some run j (by have := HRL.out; omega)
        obtain ⟨k1, k2, k3⟩ := HK.out.2 j (by have := HRL.out; omega)
        rw [itAt_some hx, itAt_some hy] at k1 k2 k3
        obtain ⟨b1, o1, rfl, _, hc1⟩ := q_2.pos (by omega)
        obtain ⟨b2, o2, rfl, _, hc2⟩ := hs_2.hI.pos (by omega)
        obtain ⟨cs, rfl, hcc⟩ := hc1 j x hx
        obtain ⟨cs, rfl, hdd⟩ := hc2 j y hy
        have g0 := hcc 0 _ rfl
        have g1 := hcc 1 _ rfl
        have g2 := hcc 2 _ rfl
        have l0 := hdd 0 _ rfl
        have l1 := hdd 1 _ rfl
        have l2 := hdd 2 _ rfl
        rw [k1] at g0
        rw [k2] at g1
        rw [k3] at g2
        rw [Nat.add_zero] at g0 l0
        have z1 : (y.g != y.g) = false := by simp
        have z2 : (y.c != y.c) = false := by simp
        have z3 : (y.f != y.f) = false := by simp
        have jz : (0 : Int) ≤ (j : Int) := by omega
        have jn : (j : Int) < (n2 : Int) := by omega
        clear hx hy hc1 hc2 hcc hdd k1 k2 k3
        go_wp2
        go_quiet (fail)
        go_wp2
        go_roundw
        case rel => exact ⟨j + 1, d + nq, by omega, by go_num, by simp⟩
        case measure => simp [intOf]; omega
      · have hge : decide ((j : Int) < (n2 : Int)) = false := by simp; omega
        have hge2 : decide (j < n2) = false := by simp; omega
        go_wp2_with fail
        refine (hung_c (w2.drewN d)).mono ?_
        rintro e w3 ⟨rfl, b3⟩
        go_wp2
        go_ret
        have b3' : Below w2.heap.size w2 w3 := ⟨b3.os, b3.tape, b3.output, b3.size, b3.block⟩
        exact ⟨rfl, below_call hs_2.bw b3'⟩

end Go.Proofs.Ytbjcbcdccekbkaa
