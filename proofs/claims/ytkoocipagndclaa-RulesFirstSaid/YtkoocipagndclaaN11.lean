/- Walk: RulesFirst. -/
import Derived.Test.YtkoocipagndclaaN10
import Derived.Test.YtkoocipagndclaaL4
import Derived.Test.YtkoocipagndclaaOpW
namespace Go.Proofs.Ytkoocipagndclaa
open Go.RowKit Go.Shelf

theorem matchQ_at {F : Fnt} {n : Int} {run : List Itm} {k : Int} {forms : List Int} {j : Nat} {ps : List Nat} (h : matchQ F n run k forms = some (j, ps)) : ∃ (q : Nat) (lk : Lk) (r : Rul), n = (q : Int) ∧ F.lks[q]? = some lk ∧ lk.rules[j]? = some r ∧ matchL F lk run k forms = some (j, ps) := by
  unfold matchQ at h
  split at h
  · cases h
  · rename_i lk hl
    obtain ⟨r, hr, _⟩ := matchL_some h
    unfold lkAt at hl
    split at hl
    · cases hl
    · exact ⟨n.toNat, lk, r, by omega, hl, hr, h⟩
theorem first_one {F : Fnt} {q : Nat} {lk : Lk} {run : List Itm} {k : Int} {forms : List Int} {j : Nat} {ps : List Nat} {r : Rul} (hq : F.lks[q]? = some lk) (hr : lk.rules[j]? = some r) (h : matchL F lk run k forms = some (j, ps)) :
    matchQ (putLk F q ⟨lk.kind, lk.ign, (lk.rules.take (j + 1)).drop j⟩) (q : Int) run k forms = some (0, ps) ∧ matchQ (putLk F q ⟨lk.kind, lk.ign, lk.rules.take j⟩) (q : Int) run k forms = none := by
  obtain ⟨h1, h2⟩ := first_law (F1 := putLk F q ⟨lk.kind, lk.ign, (lk.rules.take (j + 1)).drop j⟩) (F2 := putLk F q ⟨lk.kind, lk.ign, lk.rules.take j⟩) h hr rfl rfl
  rw [one_rule hr]
  rw [one_rule hr] at h1
  exact ⟨by rw [matchQ_some (putLk_at hq)]; exact h1, by rw [matchQ_some (putLk_at hq)]; exact h2⟩
theorem put_sm {F : Fnt} {q : Nat} {lk : Lk} {rs : List Rul} (h : SmF F) (hq : F.lks[q]? = some lk) (h1 : rs.length ≤ lk.rules.length) (h2 : ∀ r ∈ rs, r ∈ lk.rules) : SmF (putLk F q ⟨lk.kind, lk.ign, rs⟩) := by
  obtain ⟨a, b⟩ := h lk (List.mem_of_getElem? hq)
  exact putLk_sm h (Nat.le_trans h1 a) fun r hr => b r (h2 r hr)
set_option maxRecDepth 100000 in
set_option maxHeartbeats 4000000 in
theorem rulesFirst_walk (f : FV) (F : Fnt) (n : Int) (RA : Option Addr) (rn rc : Nat) (run : List Itm) (k : Int) (FA : Option Addr) (fn fc : Nat) (forms : List Int) (w : World) (hf : IsF w (lo w.heap.size) f F) (hI : RdI w (lo w.heap.size) RA rn run) (hd : Hd rn rc) (hF : Rd w (lo w.heap.size) FA fn forms) (hfd : Hd fn fc) (hq : QFnt F) (hrn0 : rn ≤ 2999999999999) :
    Calls Try.prog 6 #[.agg (askC f n RA rn rc k FA fn fc)] w (TP w) := by
  have hrnM : rn ≤ 9223372036854775807 := Nat.le_trans hd.1 hd.2
  have hfnM : fn ≤ 9223372036854775807 := Nat.le_trans hfd.1 hfd.2
  have hs_0 := AS.new (n := n) (k := k) (rc := rc) (fc := fc) hf hI hF
  unfold askC at hs_0 ⊢
  go_enter Try.func6, Try.ntmps6
  go_upto_region 1 with fail
  generalize w.alloc (.cells #[.int .i64 f.u0, .slice f.ga f.gn f.gc, .slice f.ca f.cn f.cc, .slice f.la f.ln f.lc, .slice f.a4 f.n4 f.c4, .slice f.a5 f.n5 f.c5, .slice f.a6 f.n6 f.c6, .slice f.a7 f.n7 f.c7, .slice f.a8 f.n8 f.c8, .int .i64 n, .slice RA rn rc, .int .i64 k, .slice FA fn fc] 34) = w0 at hs_0 ⊢
  generalize hbf : w.heap.size = bf at hs_0 ⊢
  clear hf hI hF
  have HC := Lib.hid (rMatch_c f F n RA rn rc run k FA fn fc forms w0 hs_0.hf hs_0.hI hs_0.hF hrn0 hfnM hq.rch)
  unfold FV.cells at HC
  obtain ⟨ans, hans⟩ : ∃ x, x = matchQ F n run k forms := ⟨_, rfl⟩
  have HA := Lib.hid hans
  rw [← hans] at HC
  clear hans
  obtain ⟨y0, y1, y2, y3, y4, y5, y6, y7, y8, y9, y10, y11, y12⟩ := hs_0.cells
  go_wp2_with fail
  refine HC.out.mono ?_
  intro e w1 hP
  clear HC y0 y1 y2 y3 y4 y5 y6 y7 y8 y9 y10 y11 y12
  rcases ans with _ | ⟨j, ps⟩
  · obtain ⟨rfl, b1⟩ := hP
    have hs_1 := hs_0.call b1
    clear hs_0 b1
    have HC := Lib.hid (big11_c f F RA rn rc run w1 hs_1.hf hs_1.hI hrnM)
    unfold FV.cells at HC
    obtain ⟨y0, y1, y2, y3, y4, y5, y6, y7, y8, y9, y10, y11, y12⟩ := hs_1.cells
    go_wp2_with fail
    refine HC.out.mono ?_
    rintro e w2 ⟨rfl, b2⟩
    clear HC y0 y1 y2 y3 y4 y5 y6 y7 y8 y9 y10 y11 y12
    have hs_2 := hs_1.call b2
    clear hs_1 b2
    cases hbig : big11 F run with
    | true =>
      obtain ⟨y0, y1, y2, y3, y4, y5, y6, y7, y8, y9, y10, y11, y12⟩ := hs_2.cells
      go_wp2_with fail
      refine (ruled_c _).mono ?_
      rintro e w9 ⟨rfl, b9⟩
      go_wp2
      go_ret
      exact ⟨rfl, below_call hs_2.bw b9⟩
    | false =>
      obtain ⟨y0, y1, y2, y3, y4, y5, y6, y7, y8, y9, y10, y11, y12⟩ := hs_2.cells
      go_wp2_with fail
      refine (ruled_c _).mono ?_
      rintro e w9 ⟨rfl, b9⟩
      go_wp2
      go_ret
      exact ⟨rfl, below_call hs_2.bw b9⟩
  · obtain ⟨PA, pc, rfl, p1, p2, b1⟩ := hP
    have hs_1 := hs_0.call b1
    replace p1 := sol_lo p1
    have jz : decide ((j : Int) < 0) = false := by simp
    clear hs_0 b1
    have HC := Lib.hid (big11_c f F RA rn rc run w1 hs_1.hf hs_1.hI hrnM)
    unfold FV.cells at HC
    obtain ⟨y0, y1, y2, y3, y4, y5, y6, y7, y8, y9, y10, y11, y12⟩ := hs_1.cells
    go_wp2_with fail
    refine HC.out.mono ?_
    rintro e w2 ⟨rfl, b2⟩
    clear HC y0 y1 y2 y3 y4 y5 y6 y7 y8 y9 y10 y11 y12
    have hs_2 := hs_1.call b2
    replace p1 := p1.call b2
    clear hs_1 b2
    cases hbig : big11 F run with
    | true =>
      obtain ⟨y0, y1, y2, y3, y4, y5, y6, y7, y8, y9, y10, y11, y12⟩ := hs_2.cells
      go_wp2_with fail
      refine (ruled_c _).mono ?_
      rintro e w3 ⟨rfl, b3⟩
      have hs_3 := hs_2.call b3
      clear hs_2 b3 y0 y1 y2 y3 y4 y5 y6 y7 y8 y9 y10 y11 y12 p1
      have HC := Lib.hid (big11_c f F RA rn rc run w3 hs_3.hf hs_3.hI hrnM)
      unfold FV.cells at HC
      obtain ⟨y0, y1, y2, y3, y4, y5, y6, y7, y8, y9, y10, y11, y12⟩ := hs_3.cells
      go_wp2_with fail
      refine HC.out.mono ?_
      rw [hbig]
      rintro e w4 ⟨rfl, b4⟩
      clear HC y0 y1 y2 y3 y4 y5 y6 y7 y8 y9 y10 y11 y12
      have hs_4 := hs_3.call b4
      clear hs_3 b4
      go_wp2
      go_ret
      exact ⟨rfl, hs_4.bw⟩
    | false =>
      have hsm := small11 hbig
      have hrn : rn ≤ 300 := by have := hs_2.hI.len; have := hsm.run; omega
      have HSM := Lib.hid hsm
      have HRL := Lib.hid hs_2.hI.len
      obtain ⟨q, lk, r, rfl, hlk, hr, hml⟩ := matchQ_at HA.out.symm
      have hqN : q < f.ln := by have := hs_2.hf.2.1.len; have := (List.getElem?_eq_some_iff.1 hlk).1; omega
      have tn : decide ((q : Int) < 0) = false := by simp
      have tb : decide ((f.ln : Int) ≤ (q : Int)) = false := by simp; omega
      have tb' : decide (f.ln ≤ q) = false := by simp; omega
      have qz : (0 : Int) ≤ (q : Int) := by omega
      have ql : (q : Int) < (f.ln : Int) := by omega
      obtain ⟨lb, lo', hla, _, hc⟩ := hs_2.hf.2.1.pos (by omega)
      obtain ⟨cs, ⟨LA, ln, lc, rfl, hRR, hRd⟩, hcc⟩ := hc q lk hlk
      have l2 := hcc 2 _ rfl
      have hjl : j < lk.rules.length := (List.getElem?_eq_some_iff.1 hr).1
      have hln := hRR.len
      have tj : decide ((ln : Int) ≤ (j : Int)) = false := by simp; omega
      have tj' : decide (ln ≤ j) = false := by simp; omega
      have h12 : lk.rules.length ≤ 12 := hsm.rl lk (List.mem_of_getElem? hlk)
      have h40 : f.ln ≤ 40 := by have := hs_2.hf.2.1.len; have := hsm.lks; omega
      obtain ⟨b, hb⟩ : ∃ b, b = j + 1 := ⟨_, rfl⟩
      have hwj : IntKind.i64.wrap ((j : Int) + 1) = (b : Int) := by rw [IntKind.wrap_i64]; omega
      obtain ⟨m1, m2⟩ := first_one hlk hr hml
      rw [← hb] at m1
      have HM1 := Lib.hid fun (W : World) (g c : Nat) (hf : IsF W (lo W.heap.size) ({ f with la := some ⟨g, 0, none⟩, ln := f.ln, lc := c } : FV) (putLk F q ⟨lk.kind, lk.ign, (lk.rules.take b).drop j⟩)) (h : AS w W bf f F (q : Int) RA rn rc run k FA fn fc forms) => (show Calls Try.prog 15 #[.agg #[.int .i64 f.u0, .slice f.ga f.gn f.gc, .slice f.ca f.cn f.cc, .slice (some ⟨g, 0, none⟩) f.ln c, .slice f.a4 f.n4 f.c4, .slice f.a5 f.n5 f.c5, .slice f.a6 f.n6 f.c6, .slice f.a7 f.n7 f.c7, .slice f.a8 f.n8 f.c8], .int .i64 (q : Int), .slice RA rn rc, .int .i64 k, .slice FA fn fc] W (fun e w' => ∃ PA pc, e = .returned (.tuple #[.int .i64 0, .slice PA ps.length pc]) ∧ Rd w' (lo w'.heap.size) PA ps.length (natI ps) ∧ Below W.heap.size W w') from by
        have h1 := rMatch_c ({ f with la := some ⟨g, 0, none⟩, ln := f.ln, lc := c } : FV) (putLk F q ⟨lk.kind, lk.ign, (lk.rules.take b).drop j⟩) (q : Int) RA rn rc run k FA fn fc forms W hf h.hI h.hF (by omega) hfnM (put_sm hsm.sm hlk (by simp; omega) (fun r hr => List.mem_of_mem_take (List.mem_of_mem_drop hr))).rch
        rw [m1] at h1
        refine h1.mono ?_
        rintro e w' ⟨PA, pc, rfl, p1, p2, b1⟩
        exact ⟨PA, pc, rfl, sol_lo p1, b1⟩)
      have HM2 := Lib.hid fun (W : World) (g c : Nat) (hf : IsF W (lo W.heap.size) ({ f with la := some ⟨g, 0, none⟩, ln := f.ln, lc := c } : FV) (putLk F q ⟨lk.kind, lk.ign, lk.rules.take j⟩)) (h : AS w W bf f F (q : Int) RA rn rc run k FA fn fc forms) => (show Calls Try.prog 15 #[.agg #[.int .i64 f.u0, .slice f.ga f.gn f.gc, .slice f.ca f.cn f.cc, .slice (some ⟨g, 0, none⟩) f.ln c, .slice f.a4 f.n4 f.c4, .slice f.a5 f.n5 f.c5, .slice f.a6 f.n6 f.c6, .slice f.a7 f.n7 f.c7, .slice f.a8 f.n8 f.c8], .int .i64 (q : Int), .slice RA rn rc, .int .i64 k, .slice FA fn fc] W (fun e w' => e = .returned (.tuple #[.int .i64 (-1), .slice none 0 0]) ∧ Below W.heap.size W w') from by
        have h1 := rMatch_c ({ f with la := some ⟨g, 0, none⟩, ln := f.ln, lc := c } : FV) (putLk F q ⟨lk.kind, lk.ign, lk.rules.take j⟩) (q : Int) RA rn rc run k FA fn fc forms W hf h.hI h.hF (by omega) hfnM (put_sm hsm.sm hlk (by simp; omega) (fun r hr => List.mem_of_mem_take hr)).rch
        rw [m2] at h1
        exact h1)
      have HO1 := Lib.hid fun (W : World) (h : AS w W bf f F (q : Int) RA rn rc run k FA fn fc forms) => (show Calls Try.prog 23 #[.agg #[.int .i64 f.u0, .slice f.ga f.gn f.gc, .slice f.ca f.cn f.cc, .slice f.la f.ln f.lc, .slice f.a4 f.n4 f.c4, .slice f.a5 f.n5 f.c5, .slice f.a6 f.n6 f.c6, .slice f.a7 f.n7 f.c7, .slice f.a8 f.n8 f.c8], .int .i64 (q : Int), .int .i64 (j : Int), .int .i64 (b : Int)] W (fun e w' => ∃ g c, e = .returned (.agg #[.int .i64 f.u0, .slice f.ga f.gn f.gc, .slice f.ca f.cn f.cc, .slice (some ⟨g, 0, none⟩) f.ln c, .slice f.a4 f.n4 f.c4, .slice f.a5 f.n5 f.c5, .slice f.a6 f.n6 f.c6, .slice f.a7 f.n7 f.c7, .slice f.a8 f.n8 f.c8]) ∧ IsF w' (lo w'.heap.size) ({ f with la := some ⟨g, 0, none⟩, ln := f.ln, lc := c } : FV) (putLk F q ⟨lk.kind, lk.ign, (lk.rules.take b).drop j⟩) ∧ Below W.heap.size W w') from only1_c f F q lk hlk j b (by omega) (by omega) h.hf h40 h12)
      have HO2 := Lib.hid fun (W : World) (h : AS w W bf f F (q : Int) RA rn rc run k FA fn fc forms) => (show Calls Try.prog 23 #[.agg #[.int .i64 f.u0, .slice f.ga f.gn f.gc, .slice f.ca f.cn f.cc, .slice f.la f.ln f.lc, .slice f.a4 f.n4 f.c4, .slice f.a5 f.n5 f.c5, .slice f.a6 f.n6 f.c6, .slice f.a7 f.n7 f.c7, .slice f.a8 f.n8 f.c8], .int .i64 (q : Int), .int .i64 0, .int .i64 (j : Int)] W (fun e w' => ∃ g c, e = .returned (.agg #[.int .i64 f.u0, .slice f.ga f.gn f.gc, .slice f.ca f.cn f.cc, .slice (some ⟨g, 0, none⟩) f.ln c, .slice f.a4 f.n4 f.c4, .slice f.a5 f.n5 f.c5, .slice f.a6 f.n6 f.c6, .slice f.a7 f.n7 f.c7, .slice f.a8 f.n8 f.c8]) ∧ IsF w' (lo w'.heap.size) ({ f with la := some ⟨g, 0, none⟩, ln := f.ln, lc := c } : FV) (putLk F q ⟨lk.kind, lk.ign, lk.rules.take j⟩) ∧ Below W.heap.size W w') from only0_c f F q lk hlk j (by omega) h.hf h40 h12)
      have HLA := Lib.hid hla
      have HPM := Lib.hid (show ps.length ≤ 9223372036854775807 from Nat.le_trans p2.1 p2.2)
      clear hc hcc hla hlk hr hml m1 m2 hbig hsm HA hln h12 h40 hRR hRd hb hjl
      obtain ⟨y0, y1, y2, y3, y4, y5, y6, y7, y8, y9, y10, y11, y12⟩ := hs_2.cells
      rw [HLA.out] at y3
      go_wp2
      clear y0 y1 y2 y3 y4 y5 y6 y7 y8 y9 y10 y11 y12 l2
      have hsX := hs_2
      clear hs_2
      have HS := Lib.hid fun (W : World) (bW : Below w2.heap.size w2 W) => (show W.cell? ⟨bf, 0, none⟩ = some (.int .i64 f.u0) ∧ W.cell? ⟨bf, 1, none⟩ = some (.slice f.ga f.gn f.gc) ∧ W.cell? ⟨bf, 2, none⟩ = some (.slice f.ca f.cn f.cc) ∧ W.cell? ⟨bf, 3, none⟩ = some (.slice f.la f.ln f.lc) ∧ W.cell? ⟨bf, 4, none⟩ = some (.slice f.a4 f.n4 f.c4) ∧ W.cell? ⟨bf, 5, none⟩ = some (.slice f.a5 f.n5 f.c5) ∧ W.cell? ⟨bf, 6, none⟩ = some (.slice f.a6 f.n6 f.c6) ∧ W.cell? ⟨bf, 7, none⟩ = some (.slice f.a7 f.n7 f.c7) ∧ W.cell? ⟨bf, 8, none⟩ = some (.slice f.a8 f.n8 f.c8) ∧ W.cell? ⟨bf, 9, none⟩ = some (.int .i64 (q : Int)) ∧ W.cell? ⟨bf, 10, none⟩ = some (.slice RA rn rc) ∧ W.cell? ⟨bf, 11, none⟩ = some (.int .i64 k) ∧ W.cell? ⟨bf, 12, none⟩ = some (.slice FA fn fc) from (hsX.call bW).cells)
      have bb := Below.refl w2.heap.size w2
      refine wp_region_held_drew (S := fun w' => w'.cell? ⟨bf, 0, none⟩ = some (.int .i64 f.u0) ∧ w'.cell? ⟨bf, 1, none⟩ = some (.slice f.ga f.gn f.gc) ∧ w'.cell? ⟨bf, 2, none⟩ = some (.slice f.ca f.cn f.cc) ∧ w'.cell? ⟨bf, 3, none⟩ = some (.slice f.la f.ln f.lc) ∧ w'.cell? ⟨bf, 4, none⟩ = some (.slice f.a4 f.n4 f.c4) ∧ w'.cell? ⟨bf, 5, none⟩ = some (.slice f.a5 f.n5 f.c5) ∧ w'.cell? ⟨bf, 6, none⟩ = some (.slice f.a6 f.n6 f.c6) ∧ w'.cell? ⟨bf, 7, none⟩ = some (.slice f.a7 f.n7 f.c7) ∧ w'.cell? ⟨bf, 8, none⟩ = some (.slice f.a8 f.n8 f.c8) ∧ w'.cell? ⟨bf, 9, none⟩ = some (.int .i64 (q : Int)) ∧ w'.cell? ⟨bf, 10, none⟩ = some (.slice RA rn rc) ∧ w'.cell? ⟨bf, 11, none⟩ = some (.int .i64 k) ∧ w'.cell? ⟨bf, 12, none⟩ = some (.slice FA fn fc)) (by kernel_rfl) ?_ (fun hHeld => ?_)
      · exact HS.out _ (below_drewN bb 1)
      replace bb := below_drewN bb 1
      change Below _ _ w2.drew at bb
      generalize hw0 : w2.drew = W0 at hHeld bb ⊢
      clear hw0
      refine wpAnyH_take (i := 0) (v := ?_) (by simp only [List.getElem?_toArray]; rfl) (by kernel_rfl) (by kernel_rfl) (by kernel_rfl) (by exact fun _ _ _ h => h) (Or.inl ⟨by rfl, ?_⟩) (by assumption) ?_
      rotate_left 1
      · intro w hSw; (try dsimp only at hSw); go_simp; try with_reducible rfl
      try conv => arg 8; simp only [Act.put, List.setIfInBounds_toArray, List.set_cons_zero, List.set_cons_succ]
      refine wpAnyH_take (i := 1) (v := ?_) (by simp only [List.getElem?_toArray]; rfl) (by kernel_rfl) (by kernel_rfl) (by kernel_rfl) (by exact fun _ _ _ h => h) (Or.inl ⟨by rfl, ?_⟩) (by assumption) ?_
      rotate_left 1
      · intro w hSw; (try dsimp only at hSw); go_simp; try with_reducible rfl
      try conv => arg 8; simp only [Act.put, List.setIfInBounds_toArray, List.set_cons_zero, List.set_cons_succ]
      refine wpAnyH_take (i := 2) (v := ?_) (by simp only [List.getElem?_toArray]; rfl) (by kernel_rfl) (by kernel_rfl) (by kernel_rfl) (by exact fun _ _ _ h => h) (Or.inl ⟨by rfl, ?_⟩) (by assumption) ?_
      rotate_left 1
      · intro w hSw; (try dsimp only at hSw); go_simp; try with_reducible rfl
      try conv => arg 8; simp only [Act.put, List.setIfInBounds_toArray, List.set_cons_zero, List.set_cons_succ]
      refine wpAnyH_take (i := 3) (v := ?_) (by simp only [List.getElem?_toArray]; rfl) (by kernel_rfl) (by kernel_rfl) (by kernel_rfl) (by exact fun _ _ _ h => h) (Or.inl ⟨by rfl, ?_⟩) (by assumption) ?_
      rotate_left 1
      · intro w hSw; (try dsimp only at hSw); go_simp; try with_reducible rfl
      try conv => arg 8; simp only [Act.put, List.setIfInBounds_toArray, List.set_cons_zero, List.set_cons_succ]
      refine wpAnyH_take (i := 4) (v := ?_) (by simp only [List.getElem?_toArray]; rfl) (by kernel_rfl) (by kernel_rfl) (by kernel_rfl) (by exact fun _ _ _ h => h) (Or.inl ⟨by rfl, ?_⟩) (by assumption) ?_
      rotate_left 1
      · intro w hSw; (try dsimp only at hSw); go_simp; try with_reducible rfl
      try conv => arg 8; simp only [Act.put, List.setIfInBounds_toArray, List.set_cons_zero, List.set_cons_succ]
      refine wpAnyH_take (i := 5) (v := ?_) (by simp only [List.getElem?_toArray]; rfl) (by kernel_rfl) (by kernel_rfl) (by kernel_rfl) (by exact fun _ _ _ h => h) (Or.inl ⟨by rfl, ?_⟩) (by assumption) ?_
      rotate_left 1
      · intro w hSw; (try dsimp only at hSw); go_simp; try with_reducible rfl
      try conv => arg 8; simp only [Act.put, List.setIfInBounds_toArray, List.set_cons_zero, List.set_cons_succ]
      refine wpAnyH_take (i := 6) (v := ?_) (by simp only [List.getElem?_toArray]; rfl) (by kernel_rfl) (by kernel_rfl) (by kernel_rfl) (by exact fun _ _ _ h => h) (Or.inl ⟨by rfl, ?_⟩) (by assumption) ?_
      rotate_left 1
      · intro w hSw; (try dsimp only at hSw); go_simp; try with_reducible rfl
      try conv => arg 8; simp only [Act.put, List.setIfInBounds_toArray, List.set_cons_zero, List.set_cons_succ]
      refine wpAnyH_take (i := 8) (v := ?_) (by simp only [List.getElem?_toArray]; rfl) (by kernel_rfl) (by kernel_rfl) (by kernel_rfl) (by exact fun _ _ _ h => h) (Or.inl ⟨by rfl, ?_⟩) (by assumption) ?_
      rotate_left 1
      · intro w hSw; (try dsimp only at hSw); go_simp; try with_reducible rfl
      try conv => arg 8; simp only [Act.put, List.setIfInBounds_toArray, List.set_cons_zero, List.set_cons_succ]
      refine wpAnyH_take (i := 9) (v := ?_) (by simp only [List.getElem?_toArray]; rfl) (by kernel_rfl) (by kernel_rfl) (by kernel_rfl) (by exact fun _ _ _ h => h) (Or.inl ⟨by rfl, ?_⟩) (by assumption) ?_
      rotate_left 1
      · intro w hSw; (try dsimp only at hSw); go_simp; try with_reducible rfl
      try conv => arg 8; simp only [Act.put, List.setIfInBounds_toArray, List.set_cons_zero, List.set_cons_succ]
      refine wpAnyH_take (i := 10) (v := ?_) (by simp only [List.getElem?_toArray]; rfl) (by kernel_rfl) (by kernel_rfl) (by kernel_rfl) (by exact fun _ _ _ h => h) (Or.inl ⟨by rfl, ?_⟩) (by assumption) ?_
      rotate_left 1
      · intro w hSw; (try dsimp only at hSw); go_simp; try with_reducible rfl
      try conv => arg 8; simp only [Act.put, List.setIfInBounds_toArray, List.set_cons_zero, List.set_cons_succ]
      refine wpAnyH_take (i := 11) (v := ?_) (by simp only [List.getElem?_toArray]; rfl) (by kernel_rfl) (by kernel_rfl) (by kernel_rfl) (by exact fun _ _ _ h => h) (Or.inl ⟨by rfl, ?_⟩) (by assumption) ?_
      rotate_left 1
      · intro w hSw; (try dsimp only at hSw); go_simp; try with_reducible rfl
      try conv => arg 8; simp only [Act.put, List.setIfInBounds_toArray, List.set_cons_zero, List.set_cons_succ]
      refine wpAnyH_take (i := 12) (v := ?_) (by simp only [List.getElem?_toArray]; rfl) (by kernel_rfl) (by kernel_rfl) (by kernel_rfl) (by exact fun _ _ _ h => h) (Or.inl ⟨by rfl, ?_⟩) (by assumption) ?_
      rotate_left 1
      · intro w hSw; (try dsimp only at hSw); go_simp; try with_reducible rfl
      try conv => arg 8; simp only [Act.put, List.setIfInBounds_toArray, List.set_cons_zero, List.set_cons_succ]
      refine wpAnyH_take (i := 13) (v := ?_) (by simp only [List.getElem?_toArray]; rfl) (by kernel_rfl) (by kernel_rfl) (by kernel_rfl) (by exact fun _ _ _ h => h) (Or.inl ⟨by rfl, ?_⟩) (by assumption) ?_
      rotate_left 1
      · intro w hSw; (try dsimp only at hSw); go_simp; try with_reducible rfl
      try conv => arg 8; simp only [Act.put, List.setIfInBounds_toArray, List.set_cons_zero, List.set_cons_succ]
      refine wpAnyH_take (i := 14) (v := ?_) (by simp only [List.getElem?_toArray]; rfl) (by kernel_rfl) (by kernel_rfl) (by kernel_rfl) (by exact fun _ _ _ h => h) (Or.inl ⟨by rfl, ?_⟩) (by assumption) ?_
      rotate_left 1
      · intro w hSw; (try dsimp only at hSw); go_simp; try with_reducible rfl
      try conv => arg 8; simp only [Act.put, List.setIfInBounds_toArray, List.set_cons_zero, List.set_cons_succ]
      refine wpAnyH_take (i := 15) (v := ?_) (by simp only [List.getElem?_toArray]; rfl) (by kernel_rfl) (by kernel_rfl) (by kernel_rfl) (by exact fun _ _ _ h => h) (Or.inl ⟨by rfl, ?_⟩) (by assumption) ?_
      rotate_left 1
      · intro w hSw; (try dsimp only at hSw); go_simp; try with_reducible rfl
      try conv => arg 8; simp only [Act.put, List.setIfInBounds_toArray, List.set_cons_zero, List.set_cons_succ]
      refine wpAnyH_ready (rs := [7]) (by kernel_rfl) (by simp) ?_
      refine AllReadyH.cons (by simp only [List.getElem?_toArray]; rfl) (fun K hK => ?_) AllReadyH.nil
      refine wanted_pos (by kernel_rfl) ?_
      go_simp
      clear hHeld
      go_at_call 23
      (with_reducible refine (HO1.out W0 (hsX.call bb)).mono ?_)
      rintro e W1 ⟨g5, c5, rfl, hf5, bn⟩
      go_wp2_with fail
      refine hK.out _ _ ?_ (fun hHeld => ?_)
      · exact HS.out _ (bb.trans (bn.mono bb.size))
      clear hK K
      try conv => arg 8; simp only [Act.put, List.setIfInBounds_toArray, List.set_cons_zero, List.set_cons_succ]
      replace bb := bb.trans (bn.mono bb.size)
      clear bn
      refine wpAnyH_ready (rs := [16]) (by kernel_rfl) (by simp) ?_
      refine AllReadyH.cons (by simp only [List.getElem?_toArray]; rfl) (fun K hK => ?_) AllReadyH.nil
      refine wanted_pos (by kernel_rfl) ?_
      go_simp
      clear hHeld
      go_at_call 15
      (with_reducible refine (HM1.out W1 g5 c5 hf5 (hsX.call bb)).mono ?_)
      rintro e W2 ⟨QA, qc, rfl, q1, bn⟩
      go_wp2_with fail
      refine hK.out _ _ ?_ (fun hHeld => ?_)
      · exact HS.out _ (bb.trans (bn.mono bb.size))
      clear hK K
      try conv => arg 8; simp only [Act.put, List.setIfInBounds_toArray, List.set_cons_zero, List.set_cons_succ]
      replace bb := bb.trans (bn.mono bb.size)
      clear bn hf5
      refine wpAnyH_take (i := 17) (v := ?_) (by simp only [List.getElem?_toArray]; rfl) (by kernel_rfl) (by kernel_rfl) (by kernel_rfl) (by exact fun _ _ _ h => h) (Or.inl ⟨by rfl, ?_⟩) (by assumption) ?_
      rotate_left 1
      · intro w hSw; (try dsimp only at hSw); go_simp; try with_reducible rfl
      try conv => arg 8; simp only [Act.put, List.setIfInBounds_toArray, List.set_cons_zero, List.set_cons_succ]
      refine wpAnyH_take (i := 18) (v := ?_) (by simp only [List.getElem?_toArray]; rfl) (by kernel_rfl) (by kernel_rfl) (by kernel_rfl) (by exact fun _ _ _ h => h) (Or.inl ⟨by rfl, ?_⟩) (by assumption) ?_
      rotate_left 1
      · intro w hSw; (try dsimp only at hSw); go_simp; try with_reducible rfl
      try conv => arg 8; simp only [Act.put, List.setIfInBounds_toArray, List.set_cons_zero, List.set_cons_succ]
      refine wpAnyH_take (i := 19) (v := ?_) (by simp only [List.getElem?_toArray]; rfl) (by kernel_rfl) (by kernel_rfl) (by kernel_rfl) (by exact fun _ _ _ h => h) (Or.inl ⟨by rfl, ?_⟩) (by assumption) ?_
      rotate_left 1
      · intro w hSw; (try dsimp only at hSw); go_simp; try with_reducible rfl
      try conv => arg 8; simp only [Act.put, List.setIfInBounds_toArray, List.set_cons_zero, List.set_cons_succ]
      refine wpAnyH_take (i := 20) (v := ?_) (by simp only [List.getElem?_toArray]; rfl) (by kernel_rfl) (by kernel_rfl) (by kernel_rfl) (by exact fun _ _ _ h => h) (Or.inl ⟨by rfl, ?_⟩) (by assumption) ?_
      rotate_left 1
      · intro w hSw; (try dsimp only at hSw); go_simp; try with_reducible rfl
      try conv => arg 8; simp only [Act.put, List.setIfInBounds_toArray, List.set_cons_zero, List.set_cons_succ]
      refine wpAnyH_take (i := 21) (v := ?_) (by simp only [List.getElem?_toArray]; rfl) (by kernel_rfl) (by kernel_rfl) (by kernel_rfl) (by exact fun _ _ _ h => h) (Or.inl ⟨by rfl, ?_⟩) (by assumption) ?_
      rotate_left 1
      · intro w hSw; (try dsimp only at hSw); go_simp; try with_reducible rfl
      try conv => arg 8; simp only [Act.put, List.setIfInBounds_toArray, List.set_cons_zero, List.set_cons_succ]
      refine wpAnyH_done (by kernel_rfl) ?_ _
      have p3 := p1.call bb
      have hsY := hsX.call bb
      clear hHeld HS bb hsX HM1 HO1 p1
      go_wp2
      have HS := Lib.hid fun (W : World) (bW : Below W2.heap.size W2 W) => (show W.cell? ⟨bf, 0, none⟩ = some (.int .i64 f.u0) ∧ W.cell? ⟨bf, 1, none⟩ = some (.slice f.ga f.gn f.gc) ∧ W.cell? ⟨bf, 2, none⟩ = some (.slice f.ca f.cn f.cc) ∧ W.cell? ⟨bf, 3, none⟩ = some (.slice f.la f.ln f.lc) ∧ W.cell? ⟨bf, 4, none⟩ = some (.slice f.a4 f.n4 f.c4) ∧ W.cell? ⟨bf, 5, none⟩ = some (.slice f.a5 f.n5 f.c5) ∧ W.cell? ⟨bf, 6, none⟩ = some (.slice f.a6 f.n6 f.c6) ∧ W.cell? ⟨bf, 7, none⟩ = some (.slice f.a7 f.n7 f.c7) ∧ W.cell? ⟨bf, 8, none⟩ = some (.slice f.a8 f.n8 f.c8) ∧ W.cell? ⟨bf, 9, none⟩ = some (.int .i64 (q : Int)) ∧ W.cell? ⟨bf, 10, none⟩ = some (.slice RA rn rc) ∧ W.cell? ⟨bf, 11, none⟩ = some (.int .i64 k) ∧ W.cell? ⟨bf, 12, none⟩ = some (.slice FA fn fc) from (hsY.call bW).cells)
      have bb := Below.refl W2.heap.size W2
      refine wp_region_held_drew (S := fun w' => w'.cell? ⟨bf, 0, none⟩ = some (.int .i64 f.u0) ∧ w'.cell? ⟨bf, 1, none⟩ = some (.slice f.ga f.gn f.gc) ∧ w'.cell? ⟨bf, 2, none⟩ = some (.slice f.ca f.cn f.cc) ∧ w'.cell? ⟨bf, 3, none⟩ = some (.slice f.la f.ln f.lc) ∧ w'.cell? ⟨bf, 4, none⟩ = some (.slice f.a4 f.n4 f.c4) ∧ w'.cell? ⟨bf, 5, none⟩ = some (.slice f.a5 f.n5 f.c5) ∧ w'.cell? ⟨bf, 6, none⟩ = some (.slice f.a6 f.n6 f.c6) ∧ w'.cell? ⟨bf, 7, none⟩ = some (.slice f.a7 f.n7 f.c7) ∧ w'.cell? ⟨bf, 8, none⟩ = some (.slice f.a8 f.n8 f.c8) ∧ w'.cell? ⟨bf, 9, none⟩ = some (.int .i64 (q : Int)) ∧ w'.cell? ⟨bf, 10, none⟩ = some (.slice RA rn rc) ∧ w'.cell? ⟨bf, 11, none⟩ = some (.int .i64 k) ∧ w'.cell? ⟨bf, 12, none⟩ = some (.slice FA fn fc)) (by kernel_rfl) ?_ (fun hHeld => ?_)
      · exact HS.out _ (below_drewN bb 1)
      replace bb := below_drewN bb 1
      change Below _ _ W2.drew at bb
      generalize hw0 : W2.drew = W0 at hHeld bb ⊢
      clear hw0
      refine wpAnyH_take (i := 0) (v := ?_) (by simp only [List.getElem?_toArray]; rfl) (by kernel_rfl) (by kernel_rfl) (by kernel_rfl) (by exact fun _ _ _ h => h) (Or.inl ⟨by rfl, ?_⟩) (by assumption) ?_
      rotate_left 1
      · intro w hSw; (try dsimp only at hSw); go_simp; try with_reducible rfl
      try conv => arg 8; simp only [Act.put, List.setIfInBounds_toArray, List.set_cons_zero, List.set_cons_succ]
      refine wpAnyH_take (i := 1) (v := ?_) (by simp only [List.getElem?_toArray]; rfl) (by kernel_rfl) (by kernel_rfl) (by kernel_rfl) (by exact fun _ _ _ h => h) (Or.inl ⟨by rfl, ?_⟩) (by assumption) ?_
      rotate_left 1
      · intro w hSw; (try dsimp only at hSw); go_simp; try with_reducible rfl
      try conv => arg 8; simp only [Act.put, List.setIfInBounds_toArray, List.set_cons_zero, List.set_cons_succ]
      refine wpAnyH_take (i := 2) (v := ?_) (by simp only [List.getElem?_toArray]; rfl) (by kernel_rfl) (by kernel_rfl) (by kernel_rfl) (by exact fun _ _ _ h => h) (Or.inl ⟨by rfl, ?_⟩) (by assumption) ?_
      rotate_left 1
      · intro w hSw; (try dsimp only at hSw); go_simp; try with_reducible rfl
      try conv => arg 8; simp only [Act.put, List.setIfInBounds_toArray, List.set_cons_zero, List.set_cons_succ]
      refine wpAnyH_take (i := 3) (v := ?_) (by simp only [List.getElem?_toArray]; rfl) (by kernel_rfl) (by kernel_rfl) (by kernel_rfl) (by exact fun _ _ _ h => h) (Or.inl ⟨by rfl, ?_⟩) (by assumption) ?_
      rotate_left 1
      · intro w hSw; (try dsimp only at hSw); go_simp; try with_reducible rfl
      try conv => arg 8; simp only [Act.put, List.setIfInBounds_toArray, List.set_cons_zero, List.set_cons_succ]
      refine wpAnyH_take (i := 4) (v := ?_) (by simp only [List.getElem?_toArray]; rfl) (by kernel_rfl) (by kernel_rfl) (by kernel_rfl) (by exact fun _ _ _ h => h) (Or.inl ⟨by rfl, ?_⟩) (by assumption) ?_
      rotate_left 1
      · intro w hSw; (try dsimp only at hSw); go_simp; try with_reducible rfl
      try conv => arg 8; simp only [Act.put, List.setIfInBounds_toArray, List.set_cons_zero, List.set_cons_succ]
      refine wpAnyH_take (i := 6) (v := ?_) (by simp only [List.getElem?_toArray]; rfl) (by kernel_rfl) (by kernel_rfl) (by kernel_rfl) (by exact fun _ _ _ h => h) (Or.inl ⟨by rfl, ?_⟩) (by assumption) ?_
      rotate_left 1
      · intro w hSw; (try dsimp only at hSw); go_simp; try with_reducible rfl
      try conv => arg 8; simp only [Act.put, List.setIfInBounds_toArray, List.set_cons_zero, List.set_cons_succ]
      refine wpAnyH_take (i := 7) (v := ?_) (by simp only [List.getElem?_toArray]; rfl) (by kernel_rfl) (by kernel_rfl) (by kernel_rfl) (by exact fun _ _ _ h => h) (Or.inl ⟨by rfl, ?_⟩) (by assumption) ?_
      rotate_left 1
      · intro w hSw; (try dsimp only at hSw); go_simp; try with_reducible rfl
      try conv => arg 8; simp only [Act.put, List.setIfInBounds_toArray, List.set_cons_zero, List.set_cons_succ]
      refine wpAnyH_take (i := 8) (v := ?_) (by simp only [List.getElem?_toArray]; rfl) (by kernel_rfl) (by kernel_rfl) (by kernel_rfl) (by exact fun _ _ _ h => h) (Or.inl ⟨by rfl, ?_⟩) (by assumption) ?_
      rotate_left 1
      · intro w hSw; (try dsimp only at hSw); go_simp; try with_reducible rfl
      try conv => arg 8; simp only [Act.put, List.setIfInBounds_toArray, List.set_cons_zero, List.set_cons_succ]
      refine wpAnyH_take (i := 9) (v := ?_) (by simp only [List.getElem?_toArray]; rfl) (by kernel_rfl) (by kernel_rfl) (by kernel_rfl) (by exact fun _ _ _ h => h) (Or.inl ⟨by rfl, ?_⟩) (by assumption) ?_
      rotate_left 1
      · intro w hSw; (try dsimp only at hSw); go_simp; try with_reducible rfl
      try conv => arg 8; simp only [Act.put, List.setIfInBounds_toArray, List.set_cons_zero, List.set_cons_succ]
      refine wpAnyH_take (i := 10) (v := ?_) (by simp only [List.getElem?_toArray]; rfl) (by kernel_rfl) (by kernel_rfl) (by kernel_rfl) (by exact fun _ _ _ h => h) (Or.inl ⟨by rfl, ?_⟩) (by assumption) ?_
      rotate_left 1
      · intro w hSw; (try dsimp only at hSw); go_simp; try with_reducible rfl
      try conv => arg 8; simp only [Act.put, List.setIfInBounds_toArray, List.set_cons_zero, List.set_cons_succ]
      refine wpAnyH_take (i := 11) (v := ?_) (by simp only [List.getElem?_toArray]; rfl) (by kernel_rfl) (by kernel_rfl) (by kernel_rfl) (by exact fun _ _ _ h => h) (Or.inl ⟨by rfl, ?_⟩) (by assumption) ?_
      rotate_left 1
      · intro w hSw; (try dsimp only at hSw); go_simp; try with_reducible rfl
      try conv => arg 8; simp only [Act.put, List.setIfInBounds_toArray, List.set_cons_zero, List.set_cons_succ]
      refine wpAnyH_take (i := 12) (v := ?_) (by simp only [List.getElem?_toArray]; rfl) (by kernel_rfl) (by kernel_rfl) (by kernel_rfl) (by exact fun _ _ _ h => h) (Or.inl ⟨by rfl, ?_⟩) (by assumption) ?_
      rotate_left 1
      · intro w hSw; (try dsimp only at hSw); go_simp; try with_reducible rfl
      try conv => arg 8; simp only [Act.put, List.setIfInBounds_toArray, List.set_cons_zero, List.set_cons_succ]
      refine wpAnyH_take (i := 13) (v := ?_) (by simp only [List.getElem?_toArray]; rfl) (by kernel_rfl) (by kernel_rfl) (by kernel_rfl) (by exact fun _ _ _ h => h) (Or.inl ⟨by rfl, ?_⟩) (by assumption) ?_
      rotate_left 1
      · intro w hSw; (try dsimp only at hSw); go_simp; try with_reducible rfl
      try conv => arg 8; simp only [Act.put, List.setIfInBounds_toArray, List.set_cons_zero, List.set_cons_succ]
      refine wpAnyH_ready (rs := [5]) (by kernel_rfl) (by simp) ?_
      refine AllReadyH.cons (by simp only [List.getElem?_toArray]; rfl) (fun K hK => ?_) AllReadyH.nil
      refine wanted_pos (by kernel_rfl) ?_
      go_simp
      clear hHeld
      go_at_call 23
      (with_reducible refine (HO2.out W0 (hsY.call bb)).mono ?_)
      rintro e W1 ⟨g6, c6, rfl, hf6, bn⟩
      go_wp2_with fail
      refine hK.out _ _ ?_ (fun hHeld => ?_)
      · exact HS.out _ (bb.trans (bn.mono bb.size))
      clear hK K
      try conv => arg 8; simp only [Act.put, List.setIfInBounds_toArray, List.set_cons_zero, List.set_cons_succ]
      replace bb := bb.trans (bn.mono bb.size)
      clear bn
      refine wpAnyH_ready (rs := [14]) (by kernel_rfl) (by simp) ?_
      refine AllReadyH.cons (by simp only [List.getElem?_toArray]; rfl) (fun K hK => ?_) AllReadyH.nil
      refine wanted_pos (by kernel_rfl) ?_
      go_simp
      clear hHeld
      go_at_call 15
      (with_reducible refine (HM2.out W1 g6 c6 hf6 (hsY.call bb)).mono ?_)
      rintro e W3 ⟨rfl, bn⟩
      go_wp2_with fail
      refine hK.out _ _ ?_ (fun hHeld => ?_)
      · exact HS.out _ (bb.trans (bn.mono bb.size))
      clear hK K
      try conv => arg 8; simp only [Act.put, List.setIfInBounds_toArray, List.set_cons_zero, List.set_cons_succ]
      replace bb := bb.trans (bn.mono bb.size)
      clear bn hf6
      refine wpAnyH_take (i := 15) (v := ?_) (by simp only [List.getElem?_toArray]; rfl) (by kernel_rfl) (by kernel_rfl) (by kernel_rfl) (by exact fun _ _ _ h => h) (Or.inl ⟨by rfl, ?_⟩) (by assumption) ?_
      rotate_left 1
      · intro w hSw; (try dsimp only at hSw); go_simp; try with_reducible rfl
      try conv => arg 8; simp only [Act.put, List.setIfInBounds_toArray, List.set_cons_zero, List.set_cons_succ]
      refine wpAnyH_take (i := 16) (v := ?_) (by simp only [List.getElem?_toArray]; rfl) (by kernel_rfl) (by kernel_rfl) (by kernel_rfl) (by exact fun _ _ _ h => h) (Or.inl ⟨by rfl, ?_⟩) (by assumption) ?_
      rotate_left 1
      · intro w hSw; (try dsimp only at hSw); go_simp; try with_reducible rfl
      try conv => arg 8; simp only [Act.put, List.setIfInBounds_toArray, List.set_cons_zero, List.set_cons_succ]
      refine wpAnyH_take (i := 17) (v := ?_) (by simp only [List.getElem?_toArray]; rfl) (by kernel_rfl) (by kernel_rfl) (by kernel_rfl) (by exact fun _ _ _ h => h) (Or.inl ⟨by rfl, ?_⟩) (by assumption) ?_
      rotate_left 1
      · intro w hSw; (try dsimp only at hSw); go_simp; try with_reducible rfl
      try conv => arg 8; simp only [Act.put, List.setIfInBounds_toArray, List.set_cons_zero, List.set_cons_succ]
      refine wpAnyH_take (i := 18) (v := ?_) (by simp only [List.getElem?_toArray]; rfl) (by kernel_rfl) (by kernel_rfl) (by kernel_rfl) (by exact fun _ _ _ h => h) (Or.inl ⟨by rfl, ?_⟩) (by assumption) ?_
      rotate_left 1
      · intro w hSw; (try dsimp only at hSw); go_simp; try with_reducible rfl
      try conv => arg 8; simp only [Act.put, List.setIfInBounds_toArray, List.set_cons_zero, List.set_cons_succ]
      refine wpAnyH_take (i := 19) (v := ?_) (by simp only [List.getElem?_toArray]; rfl) (by kernel_rfl) (by kernel_rfl) (by kernel_rfl) (by exact fun _ _ _ h => h) (Or.inl ⟨by rfl, ?_⟩) (by assumption) ?_
      rotate_left 1
      · intro w hSw; (try dsimp only at hSw); go_simp; try with_reducible rfl
      try conv => arg 8; simp only [Act.put, List.setIfInBounds_toArray, List.set_cons_zero, List.set_cons_succ]
      refine wpAnyH_done (by kernel_rfl) ?_ _
      replace p3 := p3.call bb
      replace q1 := q1.call bb
      have hsZ := hsY.call bb
      clear hHeld HS bb hsY HM2 HO2
      generalize hpl : ps.length = pl at *
      have HPL := Lib.hid hpl
      have hpM := HPM.out
      clear hpl
      go_wp2
      go_loopw [9] (fun i wr => ∃ j d : Nat, j ≤ pl ∧ i = .int .i64 (j : Int) ∧ wr = W3.drewN d) (fun i _ => pl - (intOf i).toNat)
      case atStart => exact ⟨0, 0, by omega, rfl, rfl⟩
      case round =>
        obtain ⟨i, d, hj, rfl, rfl⟩ := hrel
        by_cases hlt : i < pl
        · obtain ⟨x, hx⟩ := at_some (natI ps) i (by rw [natI_len, HPL.out]; exact hlt)
          obtain ⟨b1, o1, rfl, _, hc1⟩ := p3.pos (by omega)
          obtain ⟨cs, rfl, hcc1⟩ := hc1 i x hx
          have g1 := hcc1 0 _ rfl
          rw [Nat.mul_one, Nat.add_zero] at g1
          obtain ⟨b2, o2, rfl, _, hc2⟩ := q1.pos (by omega)
          obtain ⟨cs, rfl, hcc2⟩ := hc2 i x hx
          have g2 := hcc2 0 _ rfl
          rw [Nat.mul_one, Nat.add_zero] at g2
          have jz : (0 : Int) ≤ (i : Int) := by omega
          have jn : (i : Int) < (pl : Int) := by omega
          clear hx hc1 hc2 hcc1 hcc2
          go_wp2
          go_quiet (fail)
          go_wp2
          go_roundw
          case rel => exact ⟨i + 1, _, by omega, by go_num, rfl⟩
          case measure => simp [intOf]; omega
        · have jn : decide ((i : Int) < (pl : Int)) = false := by simp; omega
          have jn' : decide (i < pl) = false := by simp; omega
          go_wp2_with fail
          refine (ruled_c _).mono ?_
          rintro e w9 ⟨rfl, b9⟩
          go_wp2
          go_ret
          exact ⟨rfl, below_call hsZ.bw (below_call (below_drewN (Below.refl W3.heap.size W3) d) b9)⟩

end Go.Proofs.Ytkoocipagndclaa
