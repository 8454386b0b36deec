/- Walk: RulesMatch. -/
import Derived.Test.YtkoocipagndclaaN0
import Derived.Test.YtkoocipagndclaaR12
namespace Go.Proofs.Ytkoocipagndclaa
open Go.RowKit Go.Shelf

set_option maxRecDepth 100000 in
set_option maxHeartbeats 4000000 in
theorem rulesMatch_walk (f : FV) (F : Fnt) (n : Int) (RA : Option Addr) (rn rc : Nat) (run : List Itm) (k : Int) (FA : Option Addr) (fn fc : Nat) (forms : List Int) (w : World) (hf : IsF w (lo w.heap.size) f F) (hI : RdI w (lo w.heap.size) RA rn run) (hd : Hd rn rc) (hF : Rd w (lo w.heap.size) FA fn forms) (hfd : Hd fn fc) :
    Calls Try.prog 3 #[.agg (askC f n RA rn rc k FA fn fc)] w (TP w) := by
  have hrnM : rn ≤ 9223372036854775807 := Nat.le_trans hd.1 hd.2
  have hfnM : fn ≤ 9223372036854775807 := Nat.le_trans hfd.1 hfd.2
  have hs_0 := AS.new (n := n) (k := k) (rc := rc) (fc := fc) hf hI hF
  unfold askC at hs_0 ⊢
  go_enter Try.func3, Try.ntmps3
  go_upto_region 1 with fail
  generalize w.alloc (.cells #[.int .i64 f.u0, .slice f.ga f.gn f.gc, .slice f.ca f.cn f.cc, .slice f.la f.ln f.lc, .slice f.a4 f.n4 f.c4, .slice f.a5 f.n5 f.c5, .slice f.a6 f.n6 f.c6, .slice f.a7 f.n7 f.c7, .slice f.a8 f.n8 f.c8, .int .i64 n, .slice RA rn rc, .int .i64 k, .slice FA fn fc] 34) = w0 at hs_0 ⊢
  generalize hbf : w.heap.size = bf at hs_0 ⊢
  clear hf hI hF
  have HC := Lib.hid (big11_c f F RA rn rc run w0 hs_0.hf hs_0.hI hrnM)
  unfold FV.cells at HC
  obtain ⟨y0, y1, y2, y3, y4, y5, y6, y7, y8, y9, y10, y11, y12⟩ := hs_0.cells
  go_wp2_with fail
  refine HC.out.mono ?_
  rintro e w1 ⟨rfl, b1⟩
  clear HC y0 y1 y2 y3 y4 y5 y6 y7 y8 y9 y10 y11 y12
  have hs_1 := hs_0.call b1
  clear hs_0 b1
  cases hbig : big11 F run with
  | true =>
    go_wp2
    go_ret
    exact ⟨rfl, hs_1.bw⟩
  | false =>
    have hsm := small11 hbig
    have hrn : rn ≤ 300 := by have := hs_1.hI.len; have := hsm.run; omega
    have HC := Lib.hid (rMatch_c f F n RA rn rc run k FA fn fc forms w1 hs_1.hf hs_1.hI hs_1.hF (by omega) hfnM hsm.sm.rch)
    unfold FV.cells at HC
    obtain ⟨y0, y1, y2, y3, y4, y5, y6, y7, y8, y9, y10, y11, y12⟩ := hs_1.cells
    have HSM := Lib.hid hsm
    obtain ⟨ans, hans⟩ : ∃ x, x = matchQ F n run k forms := ⟨_, rfl⟩
    have HA := Lib.hid hans
    rw [← hans] at HC
    clear hbig hsm hans
    go_wp2_with fail
    refine HC.out.mono ?_
    intro e w2 hP
    clear HC y0 y1 y2 y3 y4 y5 y6 y7 y8 y9 y10 y11 y12
    rcases ans with _ | ⟨j, ps⟩
    · obtain ⟨rfl, b2⟩ := hP
      have hs_2 := hs_1.call b2
      clear hs_1 b2
      have HC := Lib.hid (qMatch_c f F n RA rn rc run k FA fn fc forms w2 hs_2.hf hs_2.hI hs_2.hF (by omega) hfnM HSM.out.sm)
      rw [← HA.out] at HC
      unfold FV.cells at HC
      obtain ⟨y0, y1, y2, y3, y4, y5, y6, y7, y8, y9, y10, y11, y12⟩ := hs_2.cells
      go_wp2_with fail
      refine HC.out.mono ?_
      rintro e w3 ⟨rfl, b3⟩
      clear HC y0 y1 y2 y3 y4 y5 y6 y7 y8 y9 y10 y11 y12
      have hs_3 := hs_2.call b3
      clear hs_2 b3
      go_wp2
      go_loopw [7] (fun i wr => ∃ d, i = .int .i64 0 ∧ wr = w3.drewN d) (fun _ _ => 0)
      case atStart => exact ⟨0, rfl, rfl⟩
      case round =>
        obtain ⟨d, rfl, rfl⟩ := hrel
        go_wp2_with fail
        refine (ruled_c _).mono ?_
        rintro e w4 ⟨rfl, b4⟩
        go_wp2
        go_ret
        exact ⟨rfl, below_call hs_3.bw (below_call (below_drewN (Below.refl w3.heap.size w3) d) b4)⟩
    · obtain ⟨PA, pc, rfl, p1, p2, b2⟩ := hP
      have hs_2 := hs_1.call b2
      have p1 := sol_lo p1
      clear hs_1 b2
      have HC := Lib.hid (qMatch_c f F n RA rn rc run k FA fn fc forms w2 hs_2.hf hs_2.hI hs_2.hF (by omega) hfnM HSM.out.sm)
      rw [← HA.out] at HC
      unfold FV.cells at HC
      obtain ⟨y0, y1, y2, y3, y4, y5, y6, y7, y8, y9, y10, y11, y12⟩ := hs_2.cells
      go_wp2_with fail
      refine HC.out.mono ?_
      rintro e w3 ⟨QA, qm, qc, rfl, o3, b3⟩
      clear HC y0 y1 y2 y3 y4 y5 y6 y7 y8 y9 y10 y11 y12
      have hs_3 := hs_2.call b3
      have p3 := p1.call b3
      have q3 := o3.rd
      have hqm := q3.len
      rw [natI_len] at hqm
      clear hs_2 b3 p1 o3
      subst hqm
      generalize hpl : ps.length = pl at *
      have HPL := Lib.hid hpl
      have hpM : pl ≤ 9223372036854775807 := Nat.le_trans p2.1 p2.2
      clear hpl
      go_wp2
      go_loopw [7] (fun i wr => ∃ j d : Nat, j ≤ pl ∧ i = .int .i64 (j : Int) ∧ wr = w3.drewN d) (fun i _ => pl - (intOf i).toNat)
      case atStart => exact ⟨0, 0, by omega, rfl, rfl⟩
      case round =>
        obtain ⟨j, d, hj, rfl, rfl⟩ := hrel
        by_cases hlt : j < pl
        · obtain ⟨x, hx⟩ := at_some (natI ps) j (by rw [natI_len, HPL.out]; exact hlt)
          obtain ⟨b1, o1, rfl, _, hc1⟩ := p3.pos (by omega)
          obtain ⟨cs, rfl, hcc1⟩ := hc1 j x hx
          have g1 := hcc1 0 _ rfl
          rw [Nat.mul_one, Nat.add_zero] at g1
          obtain ⟨b2, o2, rfl, _, hc2⟩ := q3.pos (by omega)
          obtain ⟨cs, rfl, hcc2⟩ := hc2 j x hx
          have g2 := hcc2 0 _ rfl
          rw [Nat.mul_one, Nat.add_zero] at g2
          have jz : (0 : Int) ≤ (j : Int) := by omega
          have jn : (j : Int) < (pl : Int) := by omega
          clear hx hc1 hc2 hcc1 hcc2
          go_wp2
          go_quiet (fail)
          go_wp2
          go_roundw
          case rel => exact ⟨j + 1, _, by omega, by go_num, rfl⟩
          case measure => simp [intOf]; omega
        · have jn : decide ((j : Int) < (pl : Int)) = false := by simp; omega
          have jn' : decide (j < pl) = false := by simp; omega
          go_wp2_with fail
          refine (ruled_c _).mono ?_
          rintro e w4 ⟨rfl, b4⟩
          go_wp2
          go_ret
          exact ⟨rfl, below_call hs_3.bw (below_call (below_drewN (Below.refl w3.heap.size w3) d) b4)⟩

end Go.Proofs.Ytkoocipagndclaa
