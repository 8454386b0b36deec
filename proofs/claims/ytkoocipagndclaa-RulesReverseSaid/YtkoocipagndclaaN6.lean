/- Walk: RulesSplit. -/
import Derived.Test.YtkoocipagndclaaN4
import Derived.Test.YtkoocipagndclaaL2
import Derived.Handy
namespace Go.Proofs.Ytkoocipagndclaa
open Go.RowKit Go.Shelf

theorem drop_rd {w : World} {S : Nat → Prop} {b o n : Nat} {xs : List Itm} (h : RdI w S (some ⟨b, o, none⟩) n xs) (p : Nat) (hp : p < n) : RdI w S (some ⟨b, o + p * 6, none⟩) (n - p) (xs.drop p) :=
  ⟨by rw [List.length_drop, h.1], fun _ => by
    obtain ⟨b', o', e, hb, hc⟩ := h.2 (by omega)
    injection e with e
    injection e with e1 e2
    subst e1; subst e2
    refine ⟨_, _, rfl, hb, fun i x hx => ?_⟩
    rw [List.getElem?_drop] at hx
    obtain ⟨cs, h1, h2⟩ := hc (p + i) x hx
    refine ⟨cs, h1, fun j v hv => ?_⟩
    have := h2 j v hv
    rw [show o + p * 6 + i * 6 + j = o + (p + i) * 6 + j by rw [Nat.add_mul]; omega]
    exact this⟩
theorem sl_nil {w : World} {S : Nat → Prop} {A : Option Addr} {n : Nat} {xs : List Itm} (h : n = 0) (hx : xs.length = 0) : RdI w S A n xs := ⟨by omega, fun h => absurd h (by omega)⟩
theorem rule_at {w : World} {A : Option Addr} {n : Nat} {rs : List Rul} {i : Nat} {r : Rul} (h : RdR w (lo w.heap.size) A n rs) (hr : rs[i]? = some r) : ∃ b o A1 n1 c1 A2 n2 c2 A3 n3 c3 A4 n4 c4 A5 n5 c5, A = some ⟨b, o, none⟩ ∧ w.cell? ⟨b, o + i * 6, none⟩ = some (.slice A1 n1 c1) ∧ w.cell? ⟨b, o + i * 6 + 1, none⟩ = some (.slice A2 n2 c2) ∧ w.cell? ⟨b, o + i * 6 + 2, none⟩ = some (.slice A3 n3 c3) ∧ w.cell? ⟨b, o + i * 6 + 3, none⟩ = some (.slice A4 n4 c4) ∧ w.cell? ⟨b, o + i * 6 + 4, none⟩ = some (.slice A5 n5 c5) ∧ w.cell? ⟨b, o + i * 6 + 5, none⟩ = some (.int .i64 r.x) ∧
    RdV w (lo w.heap.size) A1 n1 r.back ∧ RdV w (lo w.heap.size) A2 n2 r.inn ∧ RdV w (lo w.heap.size) A3 n3 r.ahead ∧ Rd w (lo w.heap.size) A4 n4 r.out ∧ RdC w (lo w.heap.size) A5 n5 r.calls ∧ Hd n1 c1 ∧ Hd n2 c2 ∧ Hd n3 c3 ∧ Hd n4 c4 ∧ Hd n5 c5 := by
  have hl := h.len
  have hil := (List.getElem?_eq_some_iff.1 hr).1
  obtain ⟨b, o, e, _, hc⟩ := h.pos (by omega)
  obtain ⟨cs, ⟨A1, n1, c1, A2, n2, c2, A3, n3, c3, A4, n4, c4, A5, n5, c5, rfl, h1, h2, h3, h4, h5, d1, d2, d3, d4, d5⟩, hcc⟩ := hc i r hr
  exact ⟨b, o, A1, n1, c1, A2, n2, c2, A3, n3, c3, A4, n4, c4, A5, n5, c5, e, hcc 0 _ rfl, hcc 1 _ rfl, hcc 2 _ rfl, hcc 3 _ rfl, hcc 4 _ rfl, hcc 5 _ rfl, h1, h2, h3, h4, h5, d1, d2, d3, d4, d5⟩
set_option maxRecDepth 100000 in
set_option maxHeartbeats 4000000 in
theorem rulesSplit_walk (f : FV) (F : Fnt) (n : Int) (RA : Option Addr) (rn rc : Nat) (run : List Itm) (k : Int) (FA : Option Addr) (fn fc : Nat) (forms : List Int) (w : World) (hf : IsF w (lo w.heap.size) f F) (hI : RdI w (lo w.heap.size) RA rn run) (hd : Hd rn rc) (hF : Rd w (lo w.heap.size) FA fn forms) (hfd : Hd fn fc) :
    Calls Try.prog 11 #[.agg (askC f n RA rn rc k FA fn fc)] w (TP w) := by
  have hrnM : rn ≤ 9223372036854775807 := Nat.le_trans hd.1 hd.2
  have hfnM : fn ≤ 9223372036854775807 := Nat.le_trans hfd.1 hfd.2
  have hs_0 := AS.new (n := n) (k := k) (rc := rc) (fc := fc) hf hI hF
  unfold askC at hs_0 ⊢
  go_enter Try.func11, Try.ntmps11
  go_upto_region 1 with fail
  generalize w.alloc (.cells #[.int .i64 f.u0, .slice f.ga f.gn f.gc, .slice f.ca f.cn f.cc, .slice f.la f.ln f.lc, .slice f.a4 f.n4 f.c4, .slice f.a5 f.n5 f.c5, .slice f.a6 f.n6 f.c6, .slice f.a7 f.n7 f.c7, .slice f.a8 f.n8 f.c8, .int .i64 n, .slice RA rn rc, .int .i64 k, .slice FA fn fc] 34) = w0 at hs_0 ⊢
  generalize hbf : w.heap.size = bf at hs_0 ⊢
  clear hf hI hF
  have HC := Lib.hid (big11_c f F RA rn rc run w0 hs_0.hf hs_0.hI hrnM)
  unfold FV.cells at HC
  obtain ⟨y0, y1, y2, y3, y4, y5, y6, y7, y8, y9, y10, y11, y12⟩ := hs_0.cells
  go_wp2_with fail
  refine HC.out.mono ?_
  rintro e w1 ⟨rfl, b1⟩
  clear HC y0 y1 y2 y3 y4 y5 y6 y7 y8 y9 y10 y11 y12
  have hs_1 := hs_0.call b1
  clear hs_0 b1
  cases hbig : big11 F run with
  | true =>
    obtain ⟨y0, y1, y2, y3, y4, y5, y6, y7, y8, y9, y10, y11, y12⟩ := hs_1.cells
    go_wp2_with fail
    refine (ruled_c _).mono ?_
    rintro e w9 ⟨rfl, b9⟩
    go_wp2
    go_ret
    exact ⟨rfl, below_call hs_1.bw b9⟩
  | false =>
    have hsm := small11 hbig
    have hrn : rn ≤ 300 := by have := hs_1.hI.len; have := hsm.run; omega
    have HSM := Lib.hid hsm
    have HRL := Lib.hid hs_1.hI.len
    clear hbig hsm
    by_cases hk0 : k < 0
    · have t0 : decide (k < 0) = true := by simp; omega
      obtain ⟨y0, y1, y2, y3, y4, y5, y6, y7, y8, y9, y10, y11, y12⟩ := hs_1.cells
      go_wp2_with fail
      refine (ruled_c _).mono ?_
      rintro e w9 ⟨rfl, b9⟩
      go_wp2
      go_ret
      exact ⟨rfl, below_call hs_1.bw b9⟩
    · have t0 : decide (k < 0) = false := by simp; omega
      by_cases hk1 : (rn : Int) < k
      · have t1 : decide ((rn : Int) < k) = true := by simp; omega
        obtain ⟨y0, y1, y2, y3, y4, y5, y6, y7, y8, y9, y10, y11, y12⟩ := hs_1.cells
        go_wp2_with fail
        refine (ruled_c _).mono ?_
        rintro e w9 ⟨rfl, b9⟩
        go_wp2
        go_ret
        exact ⟨rfl, below_call hs_1.bw b9⟩
      · obtain ⟨p, rfl⟩ : ∃ p : Nat, k = (p : Int) := ⟨k.toNat, by omega⟩
        have hpn : p ≤ rn := by omega
        have t1 : decide ((rn : Int) < (p : Int)) = false := by simp; omega
        have t1' : decide (rn < p) = false := by simp; omega
        by_cases h60 : 60 < rn
        · have t2 : decide ((60 : Int) < (rn : Int)) = true := by simp; omega
          have t2' : decide (60 < rn) = true := by simp; omega
          obtain ⟨y0, y1, y2, y3, y4, y5, y6, y7, y8, y9, y10, y11, y12⟩ := hs_1.cells
          go_wp2_with fail
          refine (ruled_c _).mono ?_
          rintro e w9 ⟨rfl, b9⟩
          go_wp2
          go_ret
          exact ⟨rfl, below_call hs_1.bw b9⟩
        · have t2 : decide ((60 : Int) < (rn : Int)) = false := by simp; omega
          have t2' : decide (60 < rn) = false := by simp; omega
          clear hk0 hk1
          by_cases hneg : n < 0
          · have tn : decide (n < 0) = true := by simp; omega
            obtain ⟨y0, y1, y2, y3, y4, y5, y6, y7, y8, y9, y10, y11, y12⟩ := hs_1.cells
            go_wp2_with fail
            refine (ruled_c _).mono ?_
            rintro e w9 ⟨rfl, b9⟩
            go_wp2
            go_ret
            exact ⟨rfl, below_call hs_1.bw b9⟩
          · have tn : decide (n < 0) = false := by simp; omega
            by_cases hbg : (f.ln : Int) ≤ n
            · have tb : decide ((f.ln : Int) ≤ n) = true := by simp; omega
              obtain ⟨y0, y1, y2, y3, y4, y5, y6, y7, y8, y9, y10, y11, y12⟩ := hs_1.cells
              go_wp2_with fail
              refine (ruled_c _).mono ?_
              rintro e w9 ⟨rfl, b9⟩
              go_wp2
              go_ret
              exact ⟨rfl, below_call hs_1.bw b9⟩
            · have tb : decide ((f.ln : Int) ≤ n) = false := by simp; omega
              obtain ⟨q, rfl⟩ : ∃ q : Nat, n = (q : Int) := ⟨n.toNat, by omega⟩
              have tb' : decide (f.ln ≤ q) = false := by simp; omega
              have qz : (0 : Int) ≤ (q : Int) := by omega
              have ql : (q : Int) < (f.ln : Int) := by omega
              obtain ⟨lk, hlk⟩ := at_some F.lks q (by have := hs_1.hf.2.1.len; omega)
              obtain ⟨lb, lo', hla, _, hc⟩ := hs_1.hf.2.1.pos (by omega)
              obtain ⟨cs, ⟨LA, ln, lc, rfl, hRR, hRd⟩, hcc⟩ := hc q lk hlk
              have l0 := hcc 0 _ rfl
              have l1 := hcc 1 _ rfl
              have l2 := hcc 2 _ rfl
              rw [Nat.add_zero] at l0
              have HLK := Lib.hid (lkAt_nat hlk)
              have HLKM := Lib.hid (List.mem_of_getElem? hlk)
              have HLA := Lib.hid hla
              have HRLN := Lib.hid hRR.len
              clear hc hcc hla hlk hneg hbg
              by_cases h4 : lk.kind = 4
              · have t4 : (lk.kind == 4) = true := by simp [h4]
                clear h4
                obtain ⟨y0, y1, y2, y3, y4, y5, y6, y7, y8, y9, y10, y11, y12⟩ := hs_1.cells
                rw [HLA.out] at y3
                go_wp2_with fail
                refine (ruled_c _).mono ?_
                rintro e w9 ⟨rfl, b9⟩
                go_wp2
                go_ret
                exact ⟨rfl, below_call hs_1.bw b9⟩
              · have t4 : (lk.kind == 4) = false := by simp [h4]
                have HK4 := Lib.hid h4
                clear h4
                obtain ⟨y0, y1, y2, y3, y4, y5, y6, y7, y8, y9, y10, y11, y12⟩ := hs_1.cells
                rw [HLA.out] at y3
                go_upto_region 4 with fail
                have kl := Bk.new w1 44 #[.int .i64 lk.kind, .bool lk.ign, .slice LA ln lc]
                have b2 : Below w1.heap.size w1 (w1.alloc (.cells #[.int .i64 lk.kind, .bool lk.ign, .slice LA ln lc] 44)) := (Below.refl _ _).alloc (Nat.le_refl _) _
                clear y0 y1 y2 y3 y4 y5 y6 y7 y8 y9 y10 y11 y12 l0 l1 l2
                have hs2 := hs_1.call b2
                have hRR2 := hRR.call b2
                generalize w1.alloc (.cells #[.int .i64 lk.kind, .bool lk.ign, .slice LA ln lc] 44) = w2 at *
                generalize w1.heap.size = gl at *
                have hln12 : ln ≤ 12 := by have := HSM.out.rl lk HLKM.out; have := HRLN.out; omega
                clear hs_1 hRR b2
                go_wp2
                go_loopw [4] (fun s4 wr => ∃ i : Nat, s4 = .int .i64 (i : Int) ∧ i ≤ ln ∧ (∀ (j : Nat) (r : Rul), j < i → lk.rules[j]? = some r → FlatR r ∧ r.out.length ≤ 8) ∧ Below w2.heap.size w2 wr) (fun s _ => ln - (intOf s).toNat)
                case atStart => exact ⟨0, rfl, by omega, (fun j r hj => by omega), Below.refl _ _⟩
                case round =>
                  obtain ⟨i, rfl, hi, hfl, hbr⟩ := hrel
                  have hsr := hs2.call hbr
                  have hRr := hRR2.call hbr
                  have klr := kl.call hbr
                  have HFL := Lib.hid hfl
                  have HBR := Lib.hid hbr
                  clear hfl hbr
                  have z2 : wr.cell? ⟨gl, 2, none⟩ = some (.slice LA ln lc) := klr.cell 2
                  by_cases hil : i < ln
                  · have iz : (0 : Int) ≤ (i : Int) := by omega
                    have il : (i : Int) < (ln : Int) := by omega
                    obtain ⟨r, hr⟩ := at_some lk.rules i (by have := HRLN.out; omega)
                    obtain ⟨rb, ro, A1, n1, c1, A2, n2, c2, A3, n3, c3, A4, n4, c4, A5, n5, c5, hLA, r0, r1, r2, r3, r4, r5, h1, h2, h3, h4, h5, d1, d2, d3, d4, d5⟩ := rule_at hRr hr
                    subst hLA
                    have HH := Lib.hid (And.intro h1.len (And.intro h2.len (And.intro h3.len h4.len)))
                    have HR := Lib.hid hr
                    clear h1 h2 h3 h4 h5 d1 d2 d3 d4 d5 r4 r5 hr
                    by_cases e2 : n2 = 1
                    · subst e2
                      by_cases e1 : n1 = 0
                      · subst e1
                        by_cases e3 : n3 = 0
                        · subst e3
                          by_cases e4 : n4 ≤ 8
                          · have t4 : decide ((8 : Int) < (n4 : Int)) = false := by simp; omega
                            have t4' : decide (8 < n4) = false := by simp; omega
                            have HE4 := Lib.hid e4
                            clear e4
                            go_wp2
                            go_roundw
                            case rel => exact ⟨i + 1, by go_num, by omega, fun j x hj hx => by
                              rcases Nat.lt_succ_iff_lt_or_eq.1 hj with h | h
                              · exact HFL.out j x h hx
                              · subst h; rw [HR.out] at hx; injection hx with hx; subst hx
                                obtain ⟨a1, a2, a3, a4⟩ := HH.out
                                exact ⟨⟨a2, List.eq_nil_of_length_eq_zero a1, List.eq_nil_of_length_eq_zero a3⟩, by rw [a4]; exact HE4.out⟩, HBR.out⟩
                            case measure => simp [intOf]; omega
                          · have t4 : decide ((8 : Int) < (n4 : Int)) = true := by simp; omega
                            have t4' : decide (8 < n4) = true := by simp; omega
                            go_wp2_with fail
                            refine (ruled_c _).mono ?_
                            rintro e w9 ⟨rfl, b9⟩
                            go_wp2
                            go_ret
                            exact ⟨rfl, below_call hsr.bw b9⟩
                        · have t3 : decide ((0 : Int) < (n3 : Int)) = true := by simp; omega
                          have t3' : decide (0 < n3) = true := by simp; omega
                          go_wp2_with fail
                          refine (ruled_c _).mono ?_
                          rintro e w9 ⟨rfl, b9⟩
                          go_wp2
                          go_ret
                          exact ⟨rfl, below_call hsr.bw b9⟩
                      · have t1 : decide ((0 : Int) < (n1 : Int)) = true := by simp; omega
                        have t1' : decide (0 < n1) = true := by simp; omega
                        go_wp2_with fail
                        refine (ruled_c _).mono ?_
                        rintro e w9 ⟨rfl, b9⟩
                        go_wp2
                        go_ret
                        exact ⟨rfl, below_call hsr.bw b9⟩
                    · have t2 : ((n2 : Int) == 1) = false := by simp; omega
                      have t2' : (n2 == 1) = false := by simp; omega
                      go_wp2_with fail
                      refine (ruled_c _).mono ?_
                      rintro e w9 ⟨rfl, b9⟩
                      go_wp2
                      go_ret
                      exact ⟨rfl, below_call hsr.bw b9⟩
                  · have il : decide ((i : Int) < (ln : Int)) = false := by simp; omega
                    have il' : decide (i < ln) = false := by simp; omega
                    have HALL := Lib.hid (show ∀ r ∈ lk.rules, FlatR r ∧ r.out.length ≤ 8 from fun r hr => by
                      obtain ⟨j, hj⟩ := List.mem_iff_getElem?.1 hr
                      exact HFL.out j r (by have := (List.getElem?_eq_some_iff.1 hj).1; have := HRLN.out; omega) hj)
                    clear HFL HBR hi hs2 hRR2 hRr klr kl
                    have hsX := hsr
                    clear hsr
                    have HAT := Lib.hid fun (W : World) (A : Option Addr) (c : Nat) (h : AS w W bf f F (q : Int) RA rn rc run (p : Int) FA fn fc forms) (hx : RdI W (lo W.heap.size) A p (run.take p)) => apply_all f F (q : Int) A p c (run.take p) FA fn fc forms W h.hf hx h.hF hfnM (by have := hx.len; omega) HSM.out.sm HSM.out.o
                    have HAD := Lib.hid fun (W : World) (A : Option Addr) (c : Nat) (h : AS w W bf f F (q : Int) RA rn rc run (p : Int) FA fn fc forms) (hx : RdI W (lo W.heap.size) A (rn - p) (run.drop p)) => apply_all f F (q : Int) A (rn - p) c (run.drop p) FA fn fc forms W h.hf hx h.hF hfnM (by have := hx.len; omega) HSM.out.sm HSM.out.o
                    obtain ⟨xs5, xs6, hx5, hx6⟩ : ∃ xs5 xs6, xs5 = applyL w64 F (q : Int) (run.take p) forms ∧ xs6 = applyL w64 F (q : Int) (run.drop p) forms := ⟨_, _, rfl, rfl⟩
                    have HXS := Lib.hid (And.intro hx5 hx6)
                    clear hx5 hx6
                    have HLAW := Lib.hid (show applyL w64 F (q : Int) run forms = applyL w64 F (q : Int) (run.take p) forms ++ applyL w64 F (q : Int) (run.drop p) forms from by
                      have := split_law (w := w64) (F := F) (n := (q : Int)) (lk := lk) (a := run.take p) (b := run.drop p) (forms := forms) HLK.out (fun r hr => (HALL.out r hr).1) HK4.out (fun r hr => (HALL.out r hr).2) (by rw [List.take_append_drop]; have := HRL.out; omega)
                      rw [List.take_append_drop] at this
                      exact this)
                    have HCAP := Lib.hid hd.1
                    have pc : (p : Int) ≤ (rc : Int) := by have := hd.1; omega
                    have pz : (0 : Int) ≤ (p : Int) := by omega
                    unfold FV.cells at HAT HAD
                    obtain ⟨y0, y1, y2, y3, y4, y5, y6, y7, y8, y9, y10, y11, y12⟩ := hsX.cells
                    go_wp2
                    clear y0 y1 y2 y3 y4 y5 y6 y7 y8 y9 y10 y11 y12
                    by_cases hpc : p = rc
                    · subst hpc
                      have HP0 := Lib.hid (show p = rn by have := hd.1; omega)
                      have HS := Lib.hid fun (W : World) (bW : Below wr.heap.size wr W) => (show W.cell? ⟨bf, 0, none⟩ = some (.int .i64 f.u0) ∧ W.cell? ⟨bf, 1, none⟩ = some (.slice f.ga f.gn f.gc) ∧ W.cell? ⟨bf, 2, none⟩ = some (.slice f.ca f.cn f.cc) ∧ W.cell? ⟨bf, 3, none⟩ = some (.slice f.la f.ln f.lc) ∧ W.cell? ⟨bf, 4, none⟩ = some (.slice f.a4 f.n4 f.c4) ∧ W.cell? ⟨bf, 5, none⟩ = some (.slice f.a5 f.n5 f.c5) ∧ W.cell? ⟨bf, 6, none⟩ = some (.slice f.a6 f.n6 f.c6) ∧ W.cell? ⟨bf, 7, none⟩ = some (.slice f.a7 f.n7 f.c7) ∧ W.cell? ⟨bf, 8, none⟩ = some (.slice f.a8 f.n8 f.c8) ∧ W.cell? ⟨bf, 9, none⟩ = some (.int .i64 (q : Int)) ∧ W.cell? ⟨bf, 10, none⟩ = some (.slice RA rn p) ∧ W.cell? ⟨bf, 11, none⟩ = some (.int .i64 (p : Int)) ∧ W.cell? ⟨bf, 12, none⟩ = some (.slice FA fn fc) from (hsX.call bW).cells)
                      have bb := Below.refl wr.heap.size wr
                      refine wp_region_held_drew (S := fun w' => w'.cell? ⟨bf, 0, none⟩ = some (.int .i64 f.u0) ∧ w'.cell? ⟨bf, 1, none⟩ = some (.slice f.ga f.gn f.gc) ∧ w'.cell? ⟨bf, 2, none⟩ = some (.slice f.ca f.cn f.cc) ∧ w'.cell? ⟨bf, 3, none⟩ = some (.slice f.la f.ln f.lc) ∧ w'.cell? ⟨bf, 4, none⟩ = some (.slice f.a4 f.n4 f.c4) ∧ w'.cell? ⟨bf, 5, none⟩ = some (.slice f.a5 f.n5 f.c5) ∧ w'.cell? ⟨bf, 6, none⟩ = some (.slice f.a6 f.n6 f.c6) ∧ w'.cell? ⟨bf, 7, none⟩ = some (.slice f.a7 f.n7 f.c7) ∧ w'.cell? ⟨bf, 8, none⟩ = some (.slice f.a8 f.n8 f.c8) ∧ w'.cell? ⟨bf, 9, none⟩ = some (.int .i64 (q : Int)) ∧ w'.cell? ⟨bf, 10, none⟩ = some (.slice RA rn p) ∧ w'.cell? ⟨bf, 11, none⟩ = some (.int .i64 (p : Int)) ∧ w'.cell? ⟨bf, 12, none⟩ = some (.slice FA fn fc)) (by kernel_rfl) ?_ (fun hHeld => ?_)
                      · exact HS.out _ (below_drewN bb 1)
                      replace bb := below_drewN bb 1
                      change Below _ _ wr.drew at bb
                      generalize hw0 : wr.drew = W0 at hHeld bb ⊢
                      clear hw0
                      refine wpAnyH_take (i := 0) (v := ?_) (by simp only [List.getElem?_toArray]; rfl) (by kernel_rfl) (by kernel_rfl) (by kernel_rfl) (by exact fun _ _ _ h => h) (Or.inl ⟨by rfl, ?_⟩) (by assumption) ?_
                      rotate_left 1
                      · intro w hSw; (try dsimp only at hSw); go_simp; try with_reducible rfl
                      try conv => arg 8; simp only [Act.put, List.setIfInBounds_toArray, List.set_cons_zero, List.set_cons_succ]
                      refine wpAnyH_take (i := 1) (v := ?_) (by simp only [List.getElem?_toArray]; rfl) (by kernel_rfl) (by kernel_rfl) (by kernel_rfl) (by exact fun _ _ _ h => h) (Or.inl ⟨by rfl, ?_⟩) (by assumption) ?_
                      rotate_left 1
                      · intro w hSw; (try dsimp only at hSw); go_simp; try with_reducible rfl
                      try conv => arg 8; simp only [Act.put, List.setIfInBounds_toArray, List.set_cons_zero, List.set_cons_succ]
                      refine wpAnyH_take (i := 2) (v := ?_) (by simp only [List.getElem?_toArray]; rfl) (by kernel_rfl) (by kernel_rfl) (by kernel_rfl) (by exact fun _ _ _ h => h) (Or.inl ⟨by rfl, ?_⟩) (by assumption) ?_
                      rotate_left 1
                      · intro w hSw; (try dsimp only at hSw); go_simp; try with_reducible rfl
                      try conv => arg 8; simp only [Act.put, List.setIfInBounds_toArray, List.set_cons_zero, List.set_cons_succ]
                      refine wpAnyH_take (i := 3) (v := ?_) (by simp only [List.getElem?_toArray]; rfl) (by kernel_rfl) (by kernel_rfl) (by kernel_rfl) (by exact fun _ _ _ h => h) (Or.inl ⟨by rfl, ?_⟩) (by assumption) ?_
                      rotate_left 1
                      · intro w hSw; (try dsimp only at hSw); go_simp; try with_reducible rfl
                      try conv => arg 8; simp only [Act.put, List.setIfInBounds_toArray, List.set_cons_zero, List.set_cons_succ]
                      refine wpAnyH_take (i := 4) (v := ?_) (by simp only [List.getElem?_toArray]; rfl) (by kernel_rfl) (by kernel_rfl) (by kernel_rfl) (by exact fun _ _ _ h => h) (Or.inl ⟨by rfl, ?_⟩) (by assumption) ?_
                      rotate_left 1
                      · intro w hSw; (try dsimp only at hSw); go_simp; try with_reducible rfl
                      try conv => arg 8; simp only [Act.put, List.setIfInBounds_toArray, List.set_cons_zero, List.set_cons_succ]
                      refine wpAnyH_take (i := 5) (v := ?_) (by simp only [List.getElem?_toArray]; rfl) (by kernel_rfl) (by kernel_rfl) (by kernel_rfl) (by exact fun _ _ _ h => h) (Or.inl ⟨by rfl, ?_⟩) (by assumption) ?_
                      rotate_left 1
                      · intro w hSw; (try dsimp only at hSw); go_simp; try with_reducible rfl
                      try conv => arg 8; simp only [Act.put, List.setIfInBounds_toArray, List.set_cons_zero, List.set_cons_succ]
                      refine wpAnyH_take (i := 6) (v := ?_) (by simp only [List.getElem?_toArray]; rfl) (by kernel_rfl) (by kernel_rfl) (by kernel_rfl) (by exact fun _ _ _ h => h) (Or.inl ⟨by rfl, ?_⟩) (by assumption) ?_
                      rotate_left 1
                      · intro w hSw; (try dsimp only at hSw); go_simp; try with_reducible rfl
                      try conv => arg 8; simp only [Act.put, List.setIfInBounds_toArray, List.set_cons_zero, List.set_cons_succ]
                      refine wpAnyH_take (i := 7) (v := ?_) (by simp only [List.getElem?_toArray]; rfl) (by kernel_rfl) (by kernel_rfl) (by kernel_rfl) (by exact fun _ _ _ h => h) (Or.inl ⟨by rfl, ?_⟩) (by assumption) ?_
                      rotate_left 1
                      · intro w hSw; (try dsimp only at hSw); go_simp; try with_reducible rfl
                      try conv => arg 8; simp only [Act.put, List.setIfInBounds_toArray, List.set_cons_zero, List.set_cons_succ]
                      refine wpAnyH_take (i := 8) (v := ?_) (by simp only [List.getElem?_toArray]; rfl) (by kernel_rfl) (by kernel_rfl) (by kernel_rfl) (by exact fun _ _ _ h => h) (Or.inl ⟨by rfl, ?_⟩) (by assumption) ?_
                      rotate_left 1
                      · intro w hSw; (try dsimp only at hSw); go_simp; try with_reducible rfl
                      try conv => arg 8; simp only [Act.put, List.setIfInBounds_toArray, List.set_cons_zero, List.set_cons_succ]
                      refine wpAnyH_take (i := 9) (v := ?_) (by simp only [List.getElem?_toArray]; rfl) (by kernel_rfl) (by kernel_rfl) (by kernel_rfl) (by exact fun _ _ _ h => h) (Or.inl ⟨by rfl, ?_⟩) (by assumption) ?_
                      rotate_left 1
                      · intro w hSw; (try dsimp only at hSw); go_simp; try with_reducible rfl
                      try conv => arg 8; simp only [Act.put, List.setIfInBounds_toArray, List.set_cons_zero, List.set_cons_succ]
                      refine wpAnyH_take (i := 10) (v := ?_) (by simp only [List.getElem?_toArray]; rfl) (by kernel_rfl) (by kernel_rfl) (by kernel_rfl) (by exact fun _ _ _ h => h) (Or.inl ⟨by rfl, ?_⟩) (by assumption) ?_
                      rotate_left 1
                      · intro w hSw; (try dsimp only at hSw); go_simp; try with_reducible rfl
                      try conv => arg 8; simp only [Act.put, List.setIfInBounds_toArray, List.set_cons_zero, List.set_cons_succ]
                      refine wpAnyH_ready (rs := [11]) (by kernel_rfl) (by simp) ?_
                      refine AllReadyH.cons (by simp only [List.getElem?_toArray]; rfl) (fun K hK => ?_) AllReadyH.nil
                      refine wanted_pos (by kernel_rfl) ?_
                      go_simp
                      clear hHeld
                      go_at_call 18
                      (with_reducible refine (HAT.out W0 _ _ (hsX.call bb) ?_).mono ?_)
                      · exact (hsX.call bb).hI.take p hpn
                      rintro e W1 ⟨A5, n5, c5, rfl, o5, bn⟩
                      go_wp2_with fail
                      refine hK.out _ _ ?_ (fun hHeld => ?_)
                      · exact HS.out _ (bb.trans (bn.mono bb.size))
                      clear hK K
                      try conv => arg 8; simp only [Act.put, List.setIfInBounds_toArray, List.set_cons_zero, List.set_cons_succ]
                      replace bb := bb.trans (bn.mono bb.size)
                      clear bn
                      refine wpAnyH_take (i := 12) (v := ?_) (by simp only [List.getElem?_toArray]; rfl) (by kernel_rfl) (by kernel_rfl) (by kernel_rfl) (by exact fun _ _ _ h => h) (Or.inl ⟨by rfl, ?_⟩) (by assumption) ?_
                      rotate_left 1
                      · intro w hSw; (try dsimp only at hSw); go_simp; try with_reducible rfl
                      try conv => arg 8; simp only [Act.put, List.setIfInBounds_toArray, List.set_cons_zero, List.set_cons_succ]
                      refine wpAnyH_done (by kernel_rfl) ?_ _
                      replace hsX := hsX.call bb
                      clear hHeld bb HS
                      have HL5 := Lib.hid (show n5 ≤ 500 by have h1 := o5.rdI.len; have h2 := apply_len w64 F (q : Int) (run.take p) forms; rw [List.length_take] at h2; omega)
                      go_wp2
                      have HS := Lib.hid fun (W : World) (bW : Below W1.heap.size W1 W) => (show W.cell? ⟨bf, 0, none⟩ = some (.int .i64 f.u0) ∧ W.cell? ⟨bf, 1, none⟩ = some (.slice f.ga f.gn f.gc) ∧ W.cell? ⟨bf, 2, none⟩ = some (.slice f.ca f.cn f.cc) ∧ W.cell? ⟨bf, 3, none⟩ = some (.slice f.la f.ln f.lc) ∧ W.cell? ⟨bf, 4, none⟩ = some (.slice f.a4 f.n4 f.c4) ∧ W.cell? ⟨bf, 5, none⟩ = some (.slice f.a5 f.n5 f.c5) ∧ W.cell? ⟨bf, 6, none⟩ = some (.slice f.a6 f.n6 f.c6) ∧ W.cell? ⟨bf, 7, none⟩ = some (.slice f.a7 f.n7 f.c7) ∧ W.cell? ⟨bf, 8, none⟩ = some (.slice f.a8 f.n8 f.c8) ∧ W.cell? ⟨bf, 9, none⟩ = some (.int .i64 (q : Int)) ∧ W.cell? ⟨bf, 10, none⟩ = some (.slice RA rn p) ∧ W.cell? ⟨bf, 11, none⟩ = some (.int .i64 (p : Int)) ∧ W.cell? ⟨bf, 12, none⟩ = some (.slice FA fn fc) from (hsX.call bW).cells)
                      have bb := Below.refl W1.heap.size W1
                      refine wp_region_held_drew (S := fun w' => w'.cell? ⟨bf, 0, none⟩ = some (.int .i64 f.u0) ∧ w'.cell? ⟨bf, 1, none⟩ = some (.slice f.ga f.gn f.gc) ∧ w'.cell? ⟨bf, 2, none⟩ = some (.slice f.ca f.cn f.cc) ∧ w'.cell? ⟨bf, 3, none⟩ = some (.slice f.la f.ln f.lc) ∧ w'.cell? ⟨bf, 4, none⟩ = some (.slice f.a4 f.n4 f.c4) ∧ w'.cell? ⟨bf, 5, none⟩ = some (.slice f.a5 f.n5 f.c5) ∧ w'.cell? ⟨bf, 6, none⟩ = some (.slice f.a6 f.n6 f.c6) ∧ w'.cell? ⟨bf, 7, none⟩ = some (.slice f.a7 f.n7 f.c7) ∧ w'.cell? ⟨bf, 8, none⟩ = some (.slice f.a8 f.n8 f.c8) ∧ w'.cell? ⟨bf, 9, none⟩ = some (.int .i64 (q : Int)) ∧ w'.cell? ⟨bf, 10, none⟩ = some (.slice RA rn p) ∧ w'.cell? ⟨bf, 11, none⟩ = some (.int .i64 (p : Int)) ∧ w'.cell? ⟨bf, 12, none⟩ = some (.slice FA fn fc)) (by kernel_rfl) ?_ (fun hHeld => ?_)
                      · exact HS.out _ (below_drewN bb 1)
                      replace bb := below_drewN bb 1
                      change Below _ _ W1.drew at bb
                      generalize hw0 : W1.drew = W0 at hHeld bb ⊢
                      clear hw0
                      refine wpAnyH_take (i := 0) (v := ?_) (by simp only [List.getElem?_toArray]; rfl) (by kernel_rfl) (by kernel_rfl) (by kernel_rfl) (by exact fun _ _ _ h => h) (Or.inl ⟨by rfl, ?_⟩) (by assumption) ?_
                      rotate_left 1
                      · intro w hSw; (try dsimp only at hSw); go_simp; try with_reducible rfl
                      try conv => arg 8; simp only [Act.put, List.setIfInBounds_toArray, List.set_cons_zero, List.set_cons_succ]
                      refine wpAnyH_take (i := 1) (v := ?_) (by simp only [List.getElem?_toArray]; rfl) (by kernel_rfl) (by kernel_rfl) (by kernel_rfl) (by exact fun _ _ _ h => h) (Or.inl ⟨by rfl, ?_⟩) (by assumption) ?_
                      rotate_left 1
                      · intro w hSw; (try dsimp only at hSw); go_simp; try with_reducible rfl
                      try conv => arg 8; simp only [Act.put, List.setIfInBounds_toArray, List.set_cons_zero, List.set_cons_succ]
                      refine wpAnyH_take (i := 2) (v := ?_) (by simp only [List.getElem?_toArray]; rfl) (by kernel_rfl) (by kernel_rfl) (by kernel_rfl) (by exact fun _ _ _ h => h) (Or.inl ⟨by rfl, ?_⟩) (by assumption) ?_
                      rotate_left 1
                      · intro w hSw; (try dsimp only at hSw); go_simp; try with_reducible rfl
                      try conv => arg 8; simp only [Act.put, List.setIfInBounds_toArray, List.set_cons_zero, List.set_cons_succ]
                      refine wpAnyH_take (i := 3) (v := ?_) (by simp only [List.getElem?_toArray]; rfl) (by kernel_rfl) (by kernel_rfl) (by kernel_rfl) (by exact fun _ _ _ h => h) (Or.inl ⟨by rfl, ?_⟩) (by assumption) ?_
                      rotate_left 1
                      · intro w hSw; (try dsimp only at hSw); go_simp; try with_reducible rfl
                      try conv => arg 8; simp only [Act.put, List.setIfInBounds_toArray, List.set_cons_zero, List.set_cons_succ]
                      refine wpAnyH_take (i := 4) (v := ?_) (by simp only [List.getElem?_toArray]; rfl) (by kernel_rfl) (by kernel_rfl) (by kernel_rfl) (by exact fun _ _ _ h => h) (Or.inl ⟨by rfl, ?_⟩) (by assumption) ?_
                      rotate_left 1
                      · intro w hSw; (try dsimp only at hSw); go_simp; try with_reducible rfl
                      try conv => arg 8; simp only [Act.put, List.setIfInBounds_toArray, List.set_cons_zero, List.set_cons_succ]
                      refine wpAnyH_take (i := 5) (v := ?_) (by simp only [List.getElem?_toArray]; rfl) (by kernel_rfl) (by kernel_rfl) (by kernel_rfl) (by exact fun _ _ _ h => h) (Or.inl ⟨by rfl, ?_⟩) (by assumption) ?_
                      rotate_left 1
                      · intro w hSw; (try dsimp only at hSw); go_simp; try with_reducible rfl
                      try conv => arg 8; simp only [Act.put, List.setIfInBounds_toArray, List.set_cons_zero, List.set_cons_succ]
                      refine wpAnyH_take (i := 6) (v := ?_) (by simp only [List.getElem?_toArray]; rfl) (by kernel_rfl) (by kernel_rfl) (by kernel_rfl) (by exact fun _ _ _ h => h) (Or.inl ⟨by rfl, ?_⟩) (by assumption) ?_
                      rotate_left 1
                      · intro w hSw; (try dsimp only at hSw); go_simp; try with_reducible rfl
                      try conv => arg 8; simp only [Act.put, List.setIfInBounds_toArray, List.set_cons_zero, List.set_cons_succ]
                      refine wpAnyH_take (i := 7) (v := ?_) (by simp only [List.getElem?_toArray]; rfl) (by kernel_rfl) (by kernel_rfl) (by kernel_rfl) (by exact fun _ _ _ h => h) (Or.inl ⟨by rfl, ?_⟩) (by assumption) ?_
                      rotate_left 1
                      · intro w hSw; (try dsimp only at hSw); go_simp; try with_reducible rfl
                      try conv => arg 8; simp only [Act.put, List.setIfInBounds_toArray, List.set_cons_zero, List.set_cons_succ]
                      refine wpAnyH_take (i := 8) (v := ?_) (by simp only [List.getElem?_toArray]; rfl) (by kernel_rfl) (by kernel_rfl) (by kernel_rfl) (by exact fun _ _ _ h => h) (Or.inl ⟨by rfl, ?_⟩) (by assumption) ?_
                      rotate_left 1
                      · intro w hSw; (try dsimp only at hSw); go_simp; try with_reducible rfl
                      try conv => arg 8; simp only [Act.put, List.setIfInBounds_toArray, List.set_cons_zero, List.set_cons_succ]
                      refine wpAnyH_take (i := 9) (v := ?_) (by simp only [List.getElem?_toArray]; rfl) (by kernel_rfl) (by kernel_rfl) (by kernel_rfl) (by exact fun _ _ _ h => h) (Or.inl ⟨by rfl, ?_⟩) (by assumption) ?_
                      rotate_left 1
                      · intro w hSw; (try dsimp only at hSw); go_simp; try with_reducible rfl
                      try conv => arg 8; simp only [Act.put, List.setIfInBounds_toArray, List.set_cons_zero, List.set_cons_succ]
                      refine wpAnyH_take (i := 10) (v := ?_) (by simp only [List.getElem?_toArray]; rfl) (by kernel_rfl) (by kernel_rfl) (by kernel_rfl) (by exact fun _ _ _ h => h) (Or.inl ⟨by rfl, ?_⟩) (by assumption) ?_
                      rotate_left 1
                      · intro w hSw; (try dsimp only at hSw); go_simp; try with_reducible rfl
                      try conv => arg 8; simp only [Act.put, List.setIfInBounds_toArray, List.set_cons_zero, List.set_cons_succ]
                      refine wpAnyH_ready (rs := [11]) (by kernel_rfl) (by simp) ?_
                      refine AllReadyH.cons (by simp only [List.getElem?_toArray]; rfl) (fun K hK => ?_) AllReadyH.nil
                      refine wanted_pos (by kernel_rfl) ?_
                      go_simp
                      clear hHeld
                      go_at_call 18
                      (with_reducible refine (HAD.out W0 _ _ (hsX.call bb) ?_).mono ?_)
                      · exact sl_nil (by have := HP0.out; omega) (by have := HP0.out; have := HRL.out; simp; omega)
                      rintro e W2 ⟨A6, n6, c6, rfl, o6, bn⟩
                      go_wp2_with fail
                      refine hK.out _ _ ?_ (fun hHeld => ?_)
                      · exact HS.out _ (bb.trans (bn.mono bb.size))
                      clear hK K
                      try conv => arg 8; simp only [Act.put, List.setIfInBounds_toArray, List.set_cons_zero, List.set_cons_succ]
                      replace bb := bb.trans (bn.mono bb.size)
                      clear bn
                      refine wpAnyH_take (i := 12) (v := ?_) (by simp only [List.getElem?_toArray]; rfl) (by kernel_rfl) (by kernel_rfl) (by kernel_rfl) (by exact fun _ _ _ h => h) (Or.inl ⟨by rfl, ?_⟩) (by assumption) ?_
                      rotate_left 1
                      · intro w hSw; (try dsimp only at hSw); go_simp; try with_reducible rfl
                      try conv => arg 8; simp only [Act.put, List.setIfInBounds_toArray, List.set_cons_zero, List.set_cons_succ]
                      refine wpAnyH_done (by kernel_rfl) ?_ _
                      have hb12 := bb
                      replace hsX := hsX.call bb
                      clear hHeld bb HS
                      have HL6 := Lib.hid (show n6 ≤ 500 by have h1 := o6.rdI.len; have h2 := apply_len w64 F (q : Int) (run.drop p) forms; rw [List.length_drop] at h2; have := HRL.out; omega)
                      have q5 := o5.rdI.call hb12
                      have q6 := o6.rdI
                      clear o5 o6 hb12 HAT HAD
                      rw [Eq.symm HXS.out.1] at q5 HLAW
                      rw [Eq.symm HXS.out.2] at q6 HLAW
                      clear HXS
                      obtain ⟨y0, y1, y2, y3, y4, y5, y6, y7, y8, y9, y10, y11, y12⟩ := hsX.cells
                      go_upto_region 12 with fail
                      clear y0 y1 y2 y3 y4 y5 y6 y7 y8 y9 y10 y11 y12
                      have bE : Below W2.heap.size W2 (W2.alloc (.cells #[] 51)) := (Below.refl _ _).alloc (Nat.le_refl _) _
                      have oE := own_empty W2 51 6
                      have q5e := q5.call bE
                      have HL := Lib.hid (itc_lenN' q5e.len)
                      have HR := Lib.hid (news_itc q5e)
                      have hn5 := HL5.out
                      go_upto_region 13 with (at_builtin; refine appP elt_item rfl _ _ rfl _ W2.heap.size _ _ _ (itc []) _ _ _ (itc xs5) (by rfl) (by rfl) oE HL.out HR.out (itc_one _) (by omega) bE.size ?_; intro A7 c7 w7 o7 hg7 hb7 hat7)
                      have b7 := bE.trans hb7
                      rw [Nat.zero_add] at o7
                      replace o7 : Ow 51 6 w7 W2.heap.size A7 n5 c7 (itc xs5) := o7
                      have q6e := q6.call b7
                      have HL' := Lib.hid (itc_lenN' q6e.len)
                      have HR' := Lib.hid (news_itc q6e)
                      have hn6 := HL6.out
                      clear hg7 hb7 hat7 bE oE q5e HL HR
                      go_upto_region 14 with (at_builtin; refine appP elt_item rfl _ _ rfl _ W2.heap.size _ _ _ _ _ _ _ (itc xs6) (by rfl) (by rfl) o7 HL'.out HR'.out (itc_one _) (by omega) b7.size ?_; intro A8 c8 w8 o8 hg8 hb8 hat8)
                      have b8 := b7.trans hb8
                      have hs8 := hsX.call b8
                      have q8 : RdI w8 (lo w8.heap.size) A8 (n5 + n6) (xs5 ++ xs6) := by
                        rw [← itc_app] at o8
                        exact o8.rdI
                      clear hg8 hb8 hat8 b7 o7 q6e HL' HR' b8 o8 q5 q6 hsX
                      go_wp2_with fail
                      refine (ruled_c _).mono ?_
                      rintro e w9 ⟨rfl, b9⟩
                      have hs9 := hs8.call b9
                      have q9 := q8.call b9
                      clear hs8 q8 b9
                      have HC := Lib.hid (apply_all f F (q : Int) RA rn p run FA fn fc forms w9 hs9.hf hs9.hI hs9.hF hfnM (by have := HRL.out; omega) HSM.out.sm HSM.out.o)
                      unfold FV.cells at HC
                      obtain ⟨y0, y1, y2, y3, y4, y5, y6, y7, y8, y9, y10, y11, y12⟩ := hs9.cells
                      go_wp2_with fail
                      refine HC.out.mono ?_
                      rintro e w10 ⟨A9, n9, c9, rfl, o9, b10⟩
                      clear HC y0 y1 y2 y3 y4 y5 y6 y7 y8 y9 y10 y11 y12
                      have hs10 := hs9.call b10
                      have q10 := q9.call b10
                      have HN9 := Lib.hid (show n9 ≤ 500 by have h1 := o9.rdI.len; have h2 := apply_len w64 F (q : Int) run forms; have := HRL.out; omega)
                      have HCS := Lib.hid (same_c A8 A9 (n5 + n6) n9 c8 c9 _ _ w10 q10 o9.rdI (by omega) (by have := HN9.out; omega))
                      rw [HLAW.out, show decide (xs5 ++ xs6 = xs5 ++ xs6) = true by simp] at HCS
                      clear q9 q10 o9 b10 hs9
                      go_wp2_with fail
                      refine HCS.out.mono ?_
                      rintro e w11 ⟨rfl, b11⟩
                      go_wp2
                      go_ret
                      exact ⟨rfl, below_call hs10.bw b11⟩
                    · have hrcp : ¬ rc = p := fun h => hpc h.symm
                      clear hpc
                      by_cases hpr : p = rn
                      · have HP0 := Lib.hid hpr
                        clear hpr
                        have HS := Lib.hid fun (W : World) (bW : Below wr.heap.size wr W) => (show W.cell? ⟨bf, 0, none⟩ = some (.int .i64 f.u0) ∧ W.cell? ⟨bf, 1, none⟩ = some (.slice f.ga f.gn f.gc) ∧ W.cell? ⟨bf, 2, none⟩ = some (.slice f.ca f.cn f.cc) ∧ W.cell? ⟨bf, 3, none⟩ = some (.slice f.la f.ln f.lc) ∧ W.cell? ⟨bf, 4, none⟩ = some (.slice f.a4 f.n4 f.c4) ∧ W.cell? ⟨bf, 5, none⟩ = some (.slice f.a5 f.n5 f.c5) ∧ W.cell? ⟨bf, 6, none⟩ = some (.slice f.a6 f.n6 f.c6) ∧ W.cell? ⟨bf, 7, none⟩ = some (.slice f.a7 f.n7 f.c7) ∧ W.cell? ⟨bf, 8, none⟩ = some (.slice f.a8 f.n8 f.c8) ∧ W.cell? ⟨bf, 9, none⟩ = some (.int .i64 (q : Int)) ∧ W.cell? ⟨bf, 10, none⟩ = some (.slice RA rn rc) ∧ W.cell? ⟨bf, 11, none⟩ = some (.int .i64 (p : Int)) ∧ W.cell? ⟨bf, 12, none⟩ = some (.slice FA fn fc) from (hsX.call bW).cells)
                        have bb := Below.refl wr.heap.size wr
                        refine wp_region_held_drew (S := fun w' => w'.cell? ⟨bf, 0, none⟩ = some (.int .i64 f.u0) ∧ w'.cell? ⟨bf, 1, none⟩ = some (.slice f.ga f.gn f.gc) ∧ w'.cell? ⟨bf, 2, none⟩ = some (.slice f.ca f.cn f.cc) ∧ w'.cell? ⟨bf, 3, none⟩ = some (.slice f.la f.ln f.lc) ∧ w'.cell? ⟨bf, 4, none⟩ = some (.slice f.a4 f.n4 f.c4) ∧ w'.cell? ⟨bf, 5, none⟩ = some (.slice f.a5 f.n5 f.c5) ∧ w'.cell? ⟨bf, 6, none⟩ = some (.slice f.a6 f.n6 f.c6) ∧ w'.cell? ⟨bf, 7, none⟩ = some (.slice f.a7 f.n7 f.c7) ∧ w'.cell? ⟨bf, 8, none⟩ = some (.slice f.a8 f.n8 f.c8) ∧ w'.cell? ⟨bf, 9, none⟩ = some (.int .i64 (q : Int)) ∧ w'.cell? ⟨bf, 10, none⟩ = some (.slice RA rn rc) ∧ w'.cell? ⟨bf, 11, none⟩ = some (.int .i64 (p : Int)) ∧ w'.cell? ⟨bf, 12, none⟩ = some (.slice FA fn fc)) (by kernel_rfl) ?_ (fun hHeld => ?_)
                        · exact HS.out _ (below_drewN bb 1)
                        replace bb := below_drewN bb 1
                        change Below _ _ wr.drew at bb
                        generalize hw0 : wr.drew = W0 at hHeld bb ⊢
                        clear hw0
                        refine wpAnyH_take (i := 0) (v := ?_) (by simp only [List.getElem?_toArray]; rfl) (by kernel_rfl) (by kernel_rfl) (by kernel_rfl) (by exact fun _ _ _ h => h) (Or.inl ⟨by rfl, ?_⟩) (by assumption) ?_
                        rotate_left 1
                        · intro w hSw; (try dsimp only at hSw); go_simp; try with_reducible rfl
                        try conv => arg 8; simp only [Act.put, List.setIfInBounds_toArray, List.set_cons_zero, List.set_cons_succ]
                        refine wpAnyH_take (i := 1) (v := ?_) (by simp only [List.getElem?_toArray]; rfl) (by kernel_rfl) (by kernel_rfl) (by kernel_rfl) (by exact fun _ _ _ h => h) (Or.inl ⟨by rfl, ?_⟩) (by assumption) ?_
                        rotate_left 1
                        · intro w hSw; (try dsimp only at hSw); go_simp; try with_reducible rfl
                        try conv => arg 8; simp only [Act.put, List.setIfInBounds_toArray, List.set_cons_zero, List.set_cons_succ]
                        refine wpAnyH_take (i := 2) (v := ?_) (by simp only [List.getElem?_toArray]; rfl) (by kernel_rfl) (by kernel_rfl) (by kernel_rfl) (by exact fun _ _ _ h => h) (Or.inl ⟨by rfl, ?_⟩) (by assumption) ?_
                        rotate_left 1
                        · intro w hSw; (try dsimp only at hSw); go_simp; try with_reducible rfl
                        try conv => arg 8; simp only [Act.put, List.setIfInBounds_toArray, List.set_cons_zero, List.set_cons_succ]
                        refine wpAnyH_take (i := 3) (v := ?_) (by simp only [List.getElem?_toArray]; rfl) (by kernel_rfl) (by kernel_rfl) (by kernel_rfl) (by exact fun _ _ _ h => h) (Or.inl ⟨by rfl, ?_⟩) (by assumption) ?_
                        rotate_left 1
                        · intro w hSw; (try dsimp only at hSw); go_simp; try with_reducible rfl
                        try conv => arg 8; simp only [Act.put, List.setIfInBounds_toArray, List.set_cons_zero, List.set_cons_succ]
                        refine wpAnyH_take (i := 4) (v := ?_) (by simp only [List.getElem?_toArray]; rfl) (by kernel_rfl) (by kernel_rfl) (by kernel_rfl) (by exact fun _ _ _ h => h) (Or.inl ⟨by rfl, ?_⟩) (by assumption) ?_
                        rotate_left 1
                        · intro w hSw; (try dsimp only at hSw); go_simp; try with_reducible rfl
                        try conv => arg 8; simp only [Act.put, List.setIfInBounds_toArray, List.set_cons_zero, List.set_cons_succ]
                        refine wpAnyH_take (i := 5) (v := ?_) (by simp only [List.getElem?_toArray]; rfl) (by kernel_rfl) (by kernel_rfl) (by kernel_rfl) (by exact fun _ _ _ h => h) (Or.inl ⟨by rfl, ?_⟩) (by assumption) ?_
                        rotate_left 1
                        · intro w hSw; (try dsimp only at hSw); go_simp; try with_reducible rfl
                        try conv => arg 8; simp only [Act.put, List.setIfInBounds_toArray, List.set_cons_zero, List.set_cons_succ]
                        refine wpAnyH_take (i := 6) (v := ?_) (by simp only [List.getElem?_toArray]; rfl) (by kernel_rfl) (by kernel_rfl) (by kernel_rfl) (by exact fun _ _ _ h => h) (Or.inl ⟨by rfl, ?_⟩) (by assumption) ?_
                        rotate_left 1
                        · intro w hSw; (try dsimp only at hSw); go_simp; try with_reducible rfl
                        try conv => arg 8; simp only [Act.put, List.setIfInBounds_toArray, List.set_cons_zero, List.set_cons_succ]
                        refine wpAnyH_take (i := 7) (v := ?_) (by simp only [List.getElem?_toArray]; rfl) (by kernel_rfl) (by kernel_rfl) (by kernel_rfl) (by exact fun _ _ _ h => h) (Or.inl ⟨by rfl, ?_⟩) (by assumption) ?_
                        rotate_left 1
                        · intro w hSw; (try dsimp only at hSw); go_simp; try with_reducible rfl
                        try conv => arg 8; simp only [Act.put, List.setIfInBounds_toArray, List.set_cons_zero, List.set_cons_succ]
                        refine wpAnyH_take (i := 8) (v := ?_) (by simp only [List.getElem?_toArray]; rfl) (by kernel_rfl) (by kernel_rfl) (by kernel_rfl) (by exact fun _ _ _ h => h) (Or.inl ⟨by rfl, ?_⟩) (by assumption) ?_
                        rotate_left 1
                        · intro w hSw; (try dsimp only at hSw); go_simp; try with_reducible rfl
                        try conv => arg 8; simp only [Act.put, List.setIfInBounds_toArray, List.set_cons_zero, List.set_cons_succ]
                        refine wpAnyH_take (i := 9) (v := ?_) (by simp only [List.getElem?_toArray]; rfl) (by kernel_rfl) (by kernel_rfl) (by kernel_rfl) (by exact fun _ _ _ h => h) (Or.inl ⟨by rfl, ?_⟩) (by assumption) ?_
                        rotate_left 1
                        · intro w hSw; (try dsimp only at hSw); go_simp; try with_reducible rfl
                        try conv => arg 8; simp only [Act.put, List.setIfInBounds_toArray, List.set_cons_zero, List.set_cons_succ]
                        refine wpAnyH_take (i := 10) (v := ?_) (by simp only [List.getElem?_toArray]; rfl) (by kernel_rfl) (by kernel_rfl) (by kernel_rfl) (by exact fun _ _ _ h => h) (Or.inl ⟨by rfl, ?_⟩) (by assumption) ?_
                        rotate_left 1
                        · intro w hSw; (try dsimp only at hSw); go_simp; try with_reducible rfl
                        try conv => arg 8; simp only [Act.put, List.setIfInBounds_toArray, List.set_cons_zero, List.set_cons_succ]
                        refine wpAnyH_ready (rs := [11]) (by kernel_rfl) (by simp) ?_
                        refine AllReadyH.cons (by simp only [List.getElem?_toArray]; rfl) (fun K hK => ?_) AllReadyH.nil
                        refine wanted_pos (by kernel_rfl) ?_
                        go_simp
                        clear hHeld
                        go_at_call 18
                        (with_reducible refine (HAT.out W0 _ _ (hsX.call bb) ?_).mono ?_)
                        · exact (hsX.call bb).hI.take p hpn
                        rintro e W1 ⟨A5, n5, c5, rfl, o5, bn⟩
                        go_wp2_with fail
                        refine hK.out _ _ ?_ (fun hHeld => ?_)
                        · exact HS.out _ (bb.trans (bn.mono bb.size))
                        clear hK K
                        try conv => arg 8; simp only [Act.put, List.setIfInBounds_toArray, List.set_cons_zero, List.set_cons_succ]
                        replace bb := bb.trans (bn.mono bb.size)
                        clear bn
                        refine wpAnyH_take (i := 12) (v := ?_) (by simp only [List.getElem?_toArray]; rfl) (by kernel_rfl) (by kernel_rfl) (by kernel_rfl) (by exact fun _ _ _ h => h) (Or.inl ⟨by rfl, ?_⟩) (by assumption) ?_
                        rotate_left 1
                        · intro w hSw; (try dsimp only at hSw); go_simp; try with_reducible rfl
                        try conv => arg 8; simp only [Act.put, List.setIfInBounds_toArray, List.set_cons_zero, List.set_cons_succ]
                        refine wpAnyH_done (by kernel_rfl) ?_ _
                        replace hsX := hsX.call bb
                        clear hHeld bb HS
                        have HL5 := Lib.hid (show n5 ≤ 500 by have h1 := o5.rdI.len; have h2 := apply_len w64 F (q : Int) (run.take p) forms; rw [List.length_take] at h2; omega)
                        go_wp2
                        have HS := Lib.hid fun (W : World) (bW : Below W1.heap.size W1 W) => (show W.cell? ⟨bf, 0, none⟩ = some (.int .i64 f.u0) ∧ W.cell? ⟨bf, 1, none⟩ = some (.slice f.ga f.gn f.gc) ∧ W.cell? ⟨bf, 2, none⟩ = some (.slice f.ca f.cn f.cc) ∧ W.cell? ⟨bf, 3, none⟩ = some (.slice f.la f.ln f.lc) ∧ W.cell? ⟨bf, 4, none⟩ = some (.slice f.a4 f.n4 f.c4) ∧ W.cell? ⟨bf, 5, none⟩ = some (.slice f.a5 f.n5 f.c5) ∧ W.cell? ⟨bf, 6, none⟩ = some (.slice f.a6 f.n6 f.c6) ∧ W.cell? ⟨bf, 7, none⟩ = some (.slice f.a7 f.n7 f.c7) ∧ W.cell? ⟨bf, 8, none⟩ = some (.slice f.a8 f.n8 f.c8) ∧ W.cell? ⟨bf, 9, none⟩ = some (.int .i64 (q : Int)) ∧ W.cell? ⟨bf, 10, none⟩ = some (.slice RA rn rc) ∧ W.cell? ⟨bf, 11, none⟩ = some (.int .i64 (p : Int)) ∧ W.cell? ⟨bf, 12, none⟩ = some (.slice FA fn fc) from (hsX.call bW).cells)
                        have bb := Below.refl W1.heap.size W1
                        refine wp_region_held_drew (S := fun w' => w'.cell? ⟨bf, 0, none⟩ = some (.int .i64 f.u0) ∧ w'.cell? ⟨bf, 1, none⟩ = some (.slice f.ga f.gn f.gc) ∧ w'.cell? ⟨bf, 2, none⟩ = some (.slice f.ca f.cn f.cc) ∧ w'.cell? ⟨bf, 3, none⟩ = some (.slice f.la f.ln f.lc) ∧ w'.cell? ⟨bf, 4, none⟩ = some (.slice f.a4 f.n4 f.c4) ∧ w'.cell? ⟨bf, 5, none⟩ = some (.slice f.a5 f.n5 f.c5) ∧ w'.cell? ⟨bf, 6, none⟩ = some (.slice f.a6 f.n6 f.c6) ∧ w'.cell? ⟨bf, 7, none⟩ = some (.slice f.a7 f.n7 f.c7) ∧ w'.cell? ⟨bf, 8, none⟩ = some (.slice f.a8 f.n8 f.c8) ∧ w'.cell? ⟨bf, 9, none⟩ = some (.int .i64 (q : Int)) ∧ w'.cell? ⟨bf, 10, none⟩ = some (.slice RA rn rc) ∧ w'.cell? ⟨bf, 11, none⟩ = some (.int .i64 (p : Int)) ∧ w'.cell? ⟨bf, 12, none⟩ = some (.slice FA fn fc)) (by kernel_rfl) ?_ (fun hHeld => ?_)
                        · exact HS.out _ (below_drewN bb 1)
                        replace bb := below_drewN bb 1
                        change Below _ _ W1.drew at bb
                        generalize hw0 : W1.drew = W0 at hHeld bb ⊢
                        clear hw0
                        refine wpAnyH_take (i := 0) (v := ?_) (by simp only [List.getElem?_toArray]; rfl) (by kernel_rfl) (by kernel_rfl) (by kernel_rfl) (by exact fun _ _ _ h => h) (Or.inl ⟨by rfl, ?_⟩) (by assumption) ?_
                        rotate_left 1
                        · intro w hSw; (try dsimp only at hSw); go_simp; try with_reducible rfl
                        try conv => arg 8; simp only [Act.put, List.setIfInBounds_toArray, List.set_cons_zero, List.set_cons_succ]
                        refine wpAnyH_take (i := 1) (v := ?_) (by simp only [List.getElem?_toArray]; rfl) (by kernel_rfl) (by kernel_rfl) (by kernel_rfl) (by exact fun _ _ _ h => h) (Or.inl ⟨by rfl, ?_⟩) (by assumption) ?_
                        rotate_left 1
                        · intro w hSw; (try dsimp only at hSw); go_simp; try with_reducible rfl
                        try conv => arg 8; simp only [Act.put, List.setIfInBounds_toArray, List.set_cons_zero, List.set_cons_succ]
                        refine wpAnyH_take (i := 2) (v := ?_) (by simp only [List.getElem?_toArray]; rfl) (by kernel_rfl) (by kernel_rfl) (by kernel_rfl) (by exact fun _ _ _ h => h) (Or.inl ⟨by rfl, ?_⟩) (by assumption) ?_
                        rotate_left 1
                        · intro w hSw; (try dsimp only at hSw); go_simp; try with_reducible rfl
                        try conv => arg 8; simp only [Act.put, List.setIfInBounds_toArray, List.set_cons_zero, List.set_cons_succ]
                        refine wpAnyH_take (i := 3) (v := ?_) (by simp only [List.getElem?_toArray]; rfl) (by kernel_rfl) (by kernel_rfl) (by kernel_rfl) (by exact fun _ _ _ h => h) (Or.inl ⟨by rfl, ?_⟩) (by assumption) ?_
                        rotate_left 1
                        · intro w hSw; (try dsimp only at hSw); go_simp; try with_reducible rfl
                        try conv => arg 8; simp only [Act.put, List.setIfInBounds_toArray, List.set_cons_zero, List.set_cons_succ]
                        refine wpAnyH_take (i := 4) (v := ?_) (by simp only [List.getElem?_toArray]; rfl) (by kernel_rfl) (by kernel_rfl) (by kernel_rfl) (by exact fun _ _ _ h => h) (Or.inl ⟨by rfl, ?_⟩) (by assumption) ?_
                        rotate_left 1
                        · intro w hSw; (try dsimp only at hSw); go_simp; try with_reducible rfl
                        try conv => arg 8; simp only [Act.put, List.setIfInBounds_toArray, List.set_cons_zero, List.set_cons_succ]
                        refine wpAnyH_take (i := 5) (v := ?_) (by simp only [List.getElem?_toArray]; rfl) (by kernel_rfl) (by kernel_rfl) (by kernel_rfl) (by exact fun _ _ _ h => h) (Or.inl ⟨by rfl, ?_⟩) (by assumption) ?_
                        rotate_left 1
                        · intro w hSw; (try dsimp only at hSw); go_simp; try with_reducible rfl
                        try conv => arg 8; simp only [Act.put, List.setIfInBounds_toArray, List.set_cons_zero, List.set_cons_succ]
                        refine wpAnyH_take (i := 6) (v := ?_) (by simp only [List.getElem?_toArray]; rfl) (by kernel_rfl) (by kernel_rfl) (by kernel_rfl) (by exact fun _ _ _ h => h) (Or.inl ⟨by rfl, ?_⟩) (by assumption) ?_
                        rotate_left 1
                        · intro w hSw; (try dsimp only at hSw); go_simp; try with_reducible rfl
                        try conv => arg 8; simp only [Act.put, List.setIfInBounds_toArray, List.set_cons_zero, List.set_cons_succ]
                        refine wpAnyH_take (i := 7) (v := ?_) (by simp only [List.getElem?_toArray]; rfl) (by kernel_rfl) (by kernel_rfl) (by kernel_rfl) (by exact fun _ _ _ h => h) (Or.inl ⟨by rfl, ?_⟩) (by assumption) ?_
                        rotate_left 1
                        · intro w hSw; (try dsimp only at hSw); go_simp; try with_reducible rfl
                        try conv => arg 8; simp only [Act.put, List.setIfInBounds_toArray, List.set_cons_zero, List.set_cons_succ]
                        refine wpAnyH_take (i := 8) (v := ?_) (by simp only [List.getElem?_toArray]; rfl) (by kernel_rfl) (by kernel_rfl) (by kernel_rfl) (by exact fun _ _ _ h => h) (Or.inl ⟨by rfl, ?_⟩) (by assumption) ?_
                        rotate_left 1
                        · intro w hSw; (try dsimp only at hSw); go_simp; try with_reducible rfl
                        try conv => arg 8; simp only [Act.put, List.setIfInBounds_toArray, List.set_cons_zero, List.set_cons_succ]
                        refine wpAnyH_take (i := 9) (v := ?_) (by simp only [List.getElem?_toArray]; rfl) (by kernel_rfl) (by kernel_rfl) (by kernel_rfl) (by exact fun _ _ _ h => h) (Or.inl ⟨by rfl, ?_⟩) (by assumption) ?_
                        rotate_left 1
                        · intro w hSw; (try dsimp only at hSw); go_simp; try with_reducible rfl
                        try conv => arg 8; simp only [Act.put, List.setIfInBounds_toArray, List.set_cons_zero, List.set_cons_succ]
                        refine wpAnyH_take (i := 10) (v := ?_) (by simp only [List.getElem?_toArray]; rfl) (by kernel_rfl) (by kernel_rfl) (by kernel_rfl) (by exact fun _ _ _ h => h) (Or.inl ⟨by rfl, ?_⟩) (by assumption) ?_
                        rotate_left 1
                        · intro w hSw; (try dsimp only at hSw); go_simp; try with_reducible rfl
                        try conv => arg 8; simp only [Act.put, List.setIfInBounds_toArray, List.set_cons_zero, List.set_cons_succ]
                        refine wpAnyH_ready (rs := [11]) (by kernel_rfl) (by simp) ?_
                        refine AllReadyH.cons (by simp only [List.getElem?_toArray]; rfl) (fun K hK => ?_) AllReadyH.nil
                        refine wanted_pos (by kernel_rfl) ?_
                        go_simp
                        clear hHeld
                        go_at_call 18
                        (with_reducible refine (HAD.out W0 _ _ (hsX.call bb) ?_).mono ?_)
                        · exact sl_nil (by have := HP0.out; omega) (by have := HP0.out; have := HRL.out; simp; omega)
                        rintro e W2 ⟨A6, n6, c6, rfl, o6, bn⟩
                        go_wp2_with fail
                        refine hK.out _ _ ?_ (fun hHeld => ?_)
                        · exact HS.out _ (bb.trans (bn.mono bb.size))
                        clear hK K
                        try conv => arg 8; simp only [Act.put, List.setIfInBounds_toArray, List.set_cons_zero, List.set_cons_succ]
                        replace bb := bb.trans (bn.mono bb.size)
                        clear bn
                        refine wpAnyH_take (i := 12) (v := ?_) (by simp only [List.getElem?_toArray]; rfl) (by kernel_rfl) (by kernel_rfl) (by kernel_rfl) (by exact fun _ _ _ h => h) (Or.inl ⟨by rfl, ?_⟩) (by assumption) ?_
                        rotate_left 1
                        · intro w hSw; (try dsimp only at hSw); go_simp; try with_reducible rfl
                        try conv => arg 8; simp only [Act.put, List.setIfInBounds_toArray, List.set_cons_zero, List.set_cons_succ]
                        refine wpAnyH_done (by kernel_rfl) ?_ _
                        have hb12 := bb
                        replace hsX := hsX.call bb
                        clear hHeld bb HS
                        have HL6 := Lib.hid (show n6 ≤ 500 by have h1 := o6.rdI.len; have h2 := apply_len w64 F (q : Int) (run.drop p) forms; rw [List.length_drop] at h2; have := HRL.out; omega)
                        have q5 := o5.rdI.call hb12
                        have q6 := o6.rdI
                        clear o5 o6 hb12 HAT HAD
                        rw [Eq.symm HXS.out.1] at q5 HLAW
                        rw [Eq.symm HXS.out.2] at q6 HLAW
                        clear HXS
                        obtain ⟨y0, y1, y2, y3, y4, y5, y6, y7, y8, y9, y10, y11, y12⟩ := hsX.cells
                        go_upto_region 12 with fail
                        clear y0 y1 y2 y3 y4 y5 y6 y7 y8 y9 y10 y11 y12
                        have bE : Below W2.heap.size W2 (W2.alloc (.cells #[] 51)) := (Below.refl _ _).alloc (Nat.le_refl _) _
                        have oE := own_empty W2 51 6
                        have q5e := q5.call bE
                        have HL := Lib.hid (itc_lenN' q5e.len)
                        have HR := Lib.hid (news_itc q5e)
                        have hn5 := HL5.out
                        go_upto_region 13 with (at_builtin; refine appP elt_item rfl _ _ rfl _ W2.heap.size _ _ _ (itc []) _ _ _ (itc xs5) (by rfl) (by rfl) oE HL.out HR.out (itc_one _) (by omega) bE.size ?_; intro A7 c7 w7 o7 hg7 hb7 hat7)
                        have b7 := bE.trans hb7
                        rw [Nat.zero_add] at o7
                        replace o7 : Ow 51 6 w7 W2.heap.size A7 n5 c7 (itc xs5) := o7
                        have q6e := q6.call b7
                        have HL' := Lib.hid (itc_lenN' q6e.len)
                        have HR' := Lib.hid (news_itc q6e)
                        have hn6 := HL6.out
                        clear hg7 hb7 hat7 bE oE q5e HL HR
                        go_upto_region 14 with (at_builtin; refine appP elt_item rfl _ _ rfl _ W2.heap.size _ _ _ _ _ _ _ (itc xs6) (by rfl) (by rfl) o7 HL'.out HR'.out (itc_one _) (by omega) b7.size ?_; intro A8 c8 w8 o8 hg8 hb8 hat8)
                        have b8 := b7.trans hb8
                        have hs8 := hsX.call b8
                        have q8 : RdI w8 (lo w8.heap.size) A8 (n5 + n6) (xs5 ++ xs6) := by
                          rw [← itc_app] at o8
                          exact o8.rdI
                        clear hg8 hb8 hat8 b7 o7 q6e HL' HR' b8 o8 q5 q6 hsX
                        go_wp2_with fail
                        refine (ruled_c _).mono ?_
                        rintro e w9 ⟨rfl, b9⟩
                        have hs9 := hs8.call b9
                        have q9 := q8.call b9
                        clear hs8 q8 b9
                        have HC := Lib.hid (apply_all f F (q : Int) RA rn rc run FA fn fc forms w9 hs9.hf hs9.hI hs9.hF hfnM (by have := HRL.out; omega) HSM.out.sm HSM.out.o)
                        unfold FV.cells at HC
                        obtain ⟨y0, y1, y2, y3, y4, y5, y6, y7, y8, y9, y10, y11, y12⟩ := hs9.cells
                        go_wp2_with fail
                        refine HC.out.mono ?_
                        rintro e w10 ⟨A9, n9, c9, rfl, o9, b10⟩
                        clear HC y0 y1 y2 y3 y4 y5 y6 y7 y8 y9 y10 y11 y12
                        have hs10 := hs9.call b10
                        have q10 := q9.call b10
                        have HN9 := Lib.hid (show n9 ≤ 500 by have h1 := o9.rdI.len; have h2 := apply_len w64 F (q : Int) run forms; have := HRL.out; omega)
                        have HCS := Lib.hid (same_c A8 A9 (n5 + n6) n9 c8 c9 _ _ w10 q10 o9.rdI (by omega) (by have := HN9.out; omega))
                        rw [HLAW.out, show decide (xs5 ++ xs6 = xs5 ++ xs6) = true by simp] at HCS
                        clear q9 q10 o9 b10 hs9
                        go_wp2_with fail
                        refine HCS.out.mono ?_
                        rintro e w11 ⟨rfl, b11⟩
                        go_wp2
                        go_ret
                        exact ⟨rfl, below_call hs10.bw b11⟩
                      · obtain ⟨b, o, hRA, _, _⟩ := hsX.hI.pos (by omega)
                        subst hRA
                        have HPR := Lib.hid (show p < rn by omega)
                        clear hpr
                        have HS := Lib.hid fun (W : World) (bW : Below wr.heap.size wr W) => (show W.cell? ⟨bf, 0, none⟩ = some (.int .i64 f.u0) ∧ W.cell? ⟨bf, 1, none⟩ = some (.slice f.ga f.gn f.gc) ∧ W.cell? ⟨bf, 2, none⟩ = some (.slice f.ca f.cn f.cc) ∧ W.cell? ⟨bf, 3, none⟩ = some (.slice f.la f.ln f.lc) ∧ W.cell? ⟨bf, 4, none⟩ = some (.slice f.a4 f.n4 f.c4) ∧ W.cell? ⟨bf, 5, none⟩ = some (.slice f.a5 f.n5 f.c5) ∧ W.cell? ⟨bf, 6, none⟩ = some (.slice f.a6 f.n6 f.c6) ∧ W.cell? ⟨bf, 7, none⟩ = some (.slice f.a7 f.n7 f.c7) ∧ W.cell? ⟨bf, 8, none⟩ = some (.slice f.a8 f.n8 f.c8) ∧ W.cell? ⟨bf, 9, none⟩ = some (.int .i64 (q : Int)) ∧ W.cell? ⟨bf, 10, none⟩ = some (.slice (some ⟨b, o, none⟩) rn rc) ∧ W.cell? ⟨bf, 11, none⟩ = some (.int .i64 (p : Int)) ∧ W.cell? ⟨bf, 12, none⟩ = some (.slice FA fn fc) from (hsX.call bW).cells)
                        have bb := Below.refl wr.heap.size wr
                        refine wp_region_held_drew (S := fun w' => w'.cell? ⟨bf, 0, none⟩ = some (.int .i64 f.u0) ∧ w'.cell? ⟨bf, 1, none⟩ = some (.slice f.ga f.gn f.gc) ∧ w'.cell? ⟨bf, 2, none⟩ = some (.slice f.ca f.cn f.cc) ∧ w'.cell? ⟨bf, 3, none⟩ = some (.slice f.la f.ln f.lc) ∧ w'.cell? ⟨bf, 4, none⟩ = some (.slice f.a4 f.n4 f.c4) ∧ w'.cell? ⟨bf, 5, none⟩ = some (.slice f.a5 f.n5 f.c5) ∧ w'.cell? ⟨bf, 6, none⟩ = some (.slice f.a6 f.n6 f.c6) ∧ w'.cell? ⟨bf, 7, none⟩ = some (.slice f.a7 f.n7 f.c7) ∧ w'.cell? ⟨bf, 8, none⟩ = some (.slice f.a8 f.n8 f.c8) ∧ w'.cell? ⟨bf, 9, none⟩ = some (.int .i64 (q : Int)) ∧ w'.cell? ⟨bf, 10, none⟩ = some (.slice (some ⟨b, o, none⟩) rn rc) ∧ w'.cell? ⟨bf, 11, none⟩ = some (.int .i64 (p : Int)) ∧ w'.cell? ⟨bf, 12, none⟩ = some (.slice FA fn fc)) (by kernel_rfl) ?_ (fun hHeld => ?_)
                        · exact HS.out _ (below_drewN bb 1)
                        replace bb := below_drewN bb 1
                        change Below _ _ wr.drew at bb
                        generalize hw0 : wr.drew = W0 at hHeld bb ⊢
                        clear hw0
                        refine wpAnyH_take (i := 0) (v := ?_) (by simp only [List.getElem?_toArray]; rfl) (by kernel_rfl) (by kernel_rfl) (by kernel_rfl) (by exact fun _ _ _ h => h) (Or.inl ⟨by rfl, ?_⟩) (by assumption) ?_
                        rotate_left 1
                        · intro w hSw; (try dsimp only at hSw); go_simp; try with_reducible rfl
                        try conv => arg 8; simp only [Act.put, List.setIfInBounds_toArray, List.set_cons_zero, List.set_cons_succ]
                        refine wpAnyH_take (i := 1) (v := ?_) (by simp only [List.getElem?_toArray]; rfl) (by kernel_rfl) (by kernel_rfl) (by kernel_rfl) (by exact fun _ _ _ h => h) (Or.inl ⟨by rfl, ?_⟩) (by assumption) ?_
                        rotate_left 1
                        · intro w hSw; (try dsimp only at hSw); go_simp; try with_reducible rfl
                        try conv => arg 8; simp only [Act.put, List.setIfInBounds_toArray, List.set_cons_zero, List.set_cons_succ]
                        refine wpAnyH_take (i := 2) (v := ?_) (by simp only [List.getElem?_toArray]; rfl) (by kernel_rfl) (by kernel_rfl) (by kernel_rfl) (by exact fun _ _ _ h => h) (Or.inl ⟨by rfl, ?_⟩) (by assumption) ?_
                        rotate_left 1
                        · intro w hSw; (try dsimp only at hSw); go_simp; try with_reducible rfl
                        try conv => arg 8; simp only [Act.put, List.setIfInBounds_toArray, List.set_cons_zero, List.set_cons_succ]
                        refine wpAnyH_take (i := 3) (v := ?_) (by simp only [List.getElem?_toArray]; rfl) (by kernel_rfl) (by kernel_rfl) (by kernel_rfl) (by exact fun _ _ _ h => h) (Or.inl ⟨by rfl, ?_⟩) (by assumption) ?_
                        rotate_left 1
                        · intro w hSw; (try dsimp only at hSw); go_simp; try with_reducible rfl
                        try conv => arg 8; simp only [Act.put, List.setIfInBounds_toArray, List.set_cons_zero, List.set_cons_succ]
                        refine wpAnyH_take (i := 4) (v := ?_) (by simp only [List.getElem?_toArray]; rfl) (by kernel_rfl) (by kernel_rfl) (by kernel_rfl) (by exact fun _ _ _ h => h) (Or.inl ⟨by rfl, ?_⟩) (by assumption) ?_
                        rotate_left 1
                        · intro w hSw; (try dsimp only at hSw); go_simp; try with_reducible rfl
                        try conv => arg 8; simp only [Act.put, List.setIfInBounds_toArray, List.set_cons_zero, List.set_cons_succ]
                        refine wpAnyH_take (i := 5) (v := ?_) (by simp only [List.getElem?_toArray]; rfl) (by kernel_rfl) (by kernel_rfl) (by kernel_rfl) (by exact fun _ _ _ h => h) (Or.inl ⟨by rfl, ?_⟩) (by assumption) ?_
                        rotate_left 1
                        · intro w hSw; (try dsimp only at hSw); go_simp; try with_reducible rfl
                        try conv => arg 8; simp only [Act.put, List.setIfInBounds_toArray, List.set_cons_zero, List.set_cons_succ]
                        refine wpAnyH_take (i := 6) (v := ?_) (by simp only [List.getElem?_toArray]; rfl) (by kernel_rfl) (by kernel_rfl) (by kernel_rfl) (by exact fun _ _ _ h => h) (Or.inl ⟨by rfl, ?_⟩) (by assumption) ?_
                        rotate_left 1
                        · intro w hSw; (try dsimp only at hSw); go_simp; try with_reducible rfl
                        try conv => arg 8; simp only [Act.put, List.setIfInBounds_toArray, List.set_cons_zero, List.set_cons_succ]
                        refine wpAnyH_take (i := 7) (v := ?_) (by simp only [List.getElem?_toArray]; rfl) (by kernel_rfl) (by kernel_rfl) (by kernel_rfl) (by exact fun _ _ _ h => h) (Or.inl ⟨by rfl, ?_⟩) (by assumption) ?_
                        rotate_left 1
                        · intro w hSw; (try dsimp only at hSw); go_simp; try with_reducible rfl
                        try conv => arg 8; simp only [Act.put, List.setIfInBounds_toArray, List.set_cons_zero, List.set_cons_succ]
                        refine wpAnyH_take (i := 8) (v := ?_) (by simp only [List.getElem?_toArray]; rfl) (by kernel_rfl) (by kernel_rfl) (by kernel_rfl) (by exact fun _ _ _ h => h) (Or.inl ⟨by rfl, ?_⟩) (by assumption) ?_
                        rotate_left 1
                        · intro w hSw; (try dsimp only at hSw); go_simp; try with_reducible rfl
                        try conv => arg 8; simp only [Act.put, List.setIfInBounds_toArray, List.set_cons_zero, List.set_cons_succ]
                        refine wpAnyH_take (i := 9) (v := ?_) (by simp only [List.getElem?_toArray]; rfl) (by kernel_rfl) (by kernel_rfl) (by kernel_rfl) (by exact fun _ _ _ h => h) (Or.inl ⟨by rfl, ?_⟩) (by assumption) ?_
                        rotate_left 1
                        · intro w hSw; (try dsimp only at hSw); go_simp; try with_reducible rfl
                        try conv => arg 8; simp only [Act.put, List.setIfInBounds_toArray, List.set_cons_zero, List.set_cons_succ]
                        refine wpAnyH_take (i := 10) (v := ?_) (by simp only [List.getElem?_toArray]; rfl) (by kernel_rfl) (by kernel_rfl) (by kernel_rfl) (by exact fun _ _ _ h => h) (Or.inl ⟨by rfl, ?_⟩) (by assumption) ?_
                        rotate_left 1
                        · intro w hSw; (try dsimp only at hSw); go_simp; try with_reducible rfl
                        try conv => arg 8; simp only [Act.put, List.setIfInBounds_toArray, List.set_cons_zero, List.set_cons_succ]
                        refine wpAnyH_ready (rs := [11]) (by kernel_rfl) (by simp) ?_
                        refine AllReadyH.cons (by simp only [List.getElem?_toArray]; rfl) (fun K hK => ?_) AllReadyH.nil
                        refine wanted_pos (by kernel_rfl) ?_
                        go_simp
                        clear hHeld
                        go_at_call 18
                        (with_reducible refine (HAT.out W0 _ _ (hsX.call bb) ?_).mono ?_)
                        · exact (hsX.call bb).hI.take p hpn
                        rintro e W1 ⟨A5, n5, c5, rfl, o5, bn⟩
                        go_wp2_with fail
                        refine hK.out _ _ ?_ (fun hHeld => ?_)
                        · exact HS.out _ (bb.trans (bn.mono bb.size))
                        clear hK K
                        try conv => arg 8; simp only [Act.put, List.setIfInBounds_toArray, List.set_cons_zero, List.set_cons_succ]
                        replace bb := bb.trans (bn.mono bb.size)
                        clear bn
                        refine wpAnyH_take (i := 12) (v := ?_) (by simp only [List.getElem?_toArray]; rfl) (by kernel_rfl) (by kernel_rfl) (by kernel_rfl) (by exact fun _ _ _ h => h) (Or.inl ⟨by rfl, ?_⟩) (by assumption) ?_
                        rotate_left 1
                        · intro w hSw; (try dsimp only at hSw); go_simp; try with_reducible rfl
                        try conv => arg 8; simp only [Act.put, List.setIfInBounds_toArray, List.set_cons_zero, List.set_cons_succ]
                        refine wpAnyH_done (by kernel_rfl) ?_ _
                        replace hsX := hsX.call bb
                        clear hHeld bb HS
                        have HL5 := Lib.hid (show n5 ≤ 500 by have h1 := o5.rdI.len; have h2 := apply_len w64 F (q : Int) (run.take p) forms; rw [List.length_take] at h2; omega)
                        go_wp2
                        have HS := Lib.hid fun (W : World) (bW : Below W1.heap.size W1 W) => (show W.cell? ⟨bf, 0, none⟩ = some (.int .i64 f.u0) ∧ W.cell? ⟨bf, 1, none⟩ = some (.slice f.ga f.gn f.gc) ∧ W.cell? ⟨bf, 2, none⟩ = some (.slice f.ca f.cn f.cc) ∧ W.cell? ⟨bf, 3, none⟩ = some (.slice f.la f.ln f.lc) ∧ W.cell? ⟨bf, 4, none⟩ = some (.slice f.a4 f.n4 f.c4) ∧ W.cell? ⟨bf, 5, none⟩ = some (.slice f.a5 f.n5 f.c5) ∧ W.cell? ⟨bf, 6, none⟩ = some (.slice f.a6 f.n6 f.c6) ∧ W.cell? ⟨bf, 7, none⟩ = some (.slice f.a7 f.n7 f.c7) ∧ W.cell? ⟨bf, 8, none⟩ = some (.slice f.a8 f.n8 f.c8) ∧ W.cell? ⟨bf, 9, none⟩ = some (.int .i64 (q : Int)) ∧ W.cell? ⟨bf, 10, none⟩ = some (.slice (some ⟨b, o, none⟩) rn rc) ∧ W.cell? ⟨bf, 11, none⟩ = some (.int .i64 (p : Int)) ∧ W.cell? ⟨bf, 12, none⟩ = some (.slice FA fn fc) from (hsX.call bW).cells)
                        have bb := Below.refl W1.heap.size W1
                        refine wp_region_held_drew (S := fun w' => w'.cell? ⟨bf, 0, none⟩ = some (.int .i64 f.u0) ∧ w'.cell? ⟨bf, 1, none⟩ = some (.slice f.ga f.gn f.gc) ∧ w'.cell? ⟨bf, 2, none⟩ = some (.slice f.ca f.cn f.cc) ∧ w'.cell? ⟨bf, 3, none⟩ = some (.slice f.la f.ln f.lc) ∧ w'.cell? ⟨bf, 4, none⟩ = some (.slice f.a4 f.n4 f.c4) ∧ w'.cell? ⟨bf, 5, none⟩ = some (.slice f.a5 f.n5 f.c5) ∧ w'.cell? ⟨bf, 6, none⟩ = some (.slice f.a6 f.n6 f.c6) ∧ w'.cell? ⟨bf, 7, none⟩ = some (.slice f.a7 f.n7 f.c7) ∧ w'.cell? ⟨bf, 8, none⟩ = some (.slice f.a8 f.n8 f.c8) ∧ w'.cell? ⟨bf, 9, none⟩ = some (.int .i64 (q : Int)) ∧ w'.cell? ⟨bf, 10, none⟩ = some (.slice (some ⟨b, o, none⟩) rn rc) ∧ w'.cell? ⟨bf, 11, none⟩ = some (.int .i64 (p : Int)) ∧ w'.cell? ⟨bf, 12, none⟩ = some (.slice FA fn fc)) (by kernel_rfl) ?_ (fun hHeld => ?_)
                        · exact HS.out _ (below_drewN bb 1)
                        replace bb := below_drewN bb 1
                        change Below _ _ W1.drew at bb
                        generalize hw0 : W1.drew = W0 at hHeld bb ⊢
                        clear hw0
                        refine wpAnyH_take (i := 0) (v := ?_) (by simp only [List.getElem?_toArray]; rfl) (by kernel_rfl) (by kernel_rfl) (by kernel_rfl) (by exact fun _ _ _ h => h) (Or.inl ⟨by rfl, ?_⟩) (by assumption) ?_
                        rotate_left 1
                        · intro w hSw; (try dsimp only at hSw); go_simp; try with_reducible rfl
                        try conv => arg 8; simp only [Act.put, List.setIfInBounds_toArray, List.set_cons_zero, List.set_cons_succ]
                        refine wpAnyH_take (i := 1) (v := ?_) (by simp only [List.getElem?_toArray]; rfl) (by kernel_rfl) (by kernel_rfl) (by kernel_rfl) (by exact fun _ _ _ h => h) (Or.inl ⟨by rfl, ?_⟩) (by assumption) ?_
                        rotate_left 1
                        · intro w hSw; (try dsimp only at hSw); go_simp; try with_reducible rfl
                        try conv => arg 8; simp only [Act.put, List.setIfInBounds_toArray, List.set_cons_zero, List.set_cons_succ]
                        refine wpAnyH_take (i := 2) (v := ?_) (by simp only [List.getElem?_toArray]; rfl) (by kernel_rfl) (by kernel_rfl) (by kernel_rfl) (by exact fun _ _ _ h => h) (Or.inl ⟨by rfl, ?_⟩) (by assumption) ?_
                        rotate_left 1
                        · intro w hSw; (try dsimp only at hSw); go_simp; try with_reducible rfl
                        try conv => arg 8; simp only [Act.put, List.setIfInBounds_toArray, List.set_cons_zero, List.set_cons_succ]
                        refine wpAnyH_take (i := 3) (v := ?_) (by simp only [List.getElem?_toArray]; rfl) (by kernel_rfl) (by kernel_rfl) (by kernel_rfl) (by exact fun _ _ _ h => h) (Or.inl ⟨by rfl, ?_⟩) (by assumption) ?_
                        rotate_left 1
                        · intro w hSw; (try dsimp only at hSw); go_simp; try with_reducible rfl
                        try conv => arg 8; simp only [Act.put, List.setIfInBounds_toArray, List.set_cons_zero, List.set_cons_succ]
                        refine wpAnyH_take (i := 4) (v := ?_) (by simp only [List.getElem?_toArray]; rfl) (by kernel_rfl) (by kernel_rfl) (by kernel_rfl) (by exact fun _ _ _ h => h) (Or.inl ⟨by rfl, ?_⟩) (by assumption) ?_
                        rotate_left 1
                        · intro w hSw; (try dsimp only at hSw); go_simp; try with_reducible rfl
                        try conv => arg 8; simp only [Act.put, List.setIfInBounds_toArray, List.set_cons_zero, List.set_cons_succ]
                        refine wpAnyH_take (i := 5) (v := ?_) (by simp only [List.getElem?_toArray]; rfl) (by kernel_rfl) (by kernel_rfl) (by kernel_rfl) (by exact fun _ _ _ h => h) (Or.inl ⟨by rfl, ?_⟩) (by assumption) ?_
                        rotate_left 1
                        · intro w hSw; (try dsimp only at hSw); go_simp; try with_reducible rfl
                        try conv => arg 8; simp only [Act.put, List.setIfInBounds_toArray, List.set_cons_zero, List.set_cons_succ]
                        refine wpAnyH_take (i := 6) (v := ?_) (by simp only [List.getElem?_toArray]; rfl) (by kernel_rfl) (by kernel_rfl) (by kernel_rfl) (by exact fun _ _ _ h => h) (Or.inl ⟨by rfl, ?_⟩) (by assumption) ?_
                        rotate_left 1
                        · intro w hSw; (try dsimp only at hSw); go_simp; try with_reducible rfl
                        try conv => arg 8; simp only [Act.put, List.setIfInBounds_toArray, List.set_cons_zero, List.set_cons_succ]
                        refine wpAnyH_take (i := 7) (v := ?_) (by simp only [List.getElem?_toArray]; rfl) (by kernel_rfl) (by kernel_rfl) (by kernel_rfl) (by exact fun _ _ _ h => h) (Or.inl ⟨by rfl, ?_⟩) (by assumption) ?_
                        rotate_left 1
                        · intro w hSw; (try dsimp only at hSw); go_simp; try with_reducible rfl
                        try conv => arg 8; simp only [Act.put, List.setIfInBounds_toArray, List.set_cons_zero, List.set_cons_succ]
                        refine wpAnyH_take (i := 8) (v := ?_) (by simp only [List.getElem?_toArray]; rfl) (by kernel_rfl) (by kernel_rfl) (by kernel_rfl) (by exact fun _ _ _ h => h) (Or.inl ⟨by rfl, ?_⟩) (by assumption) ?_
                        rotate_left 1
                        · intro w hSw; (try dsimp only at hSw); go_simp; try with_reducible rfl
                        try conv => arg 8; simp only [Act.put, List.setIfInBounds_toArray, List.set_cons_zero, List.set_cons_succ]
                        refine wpAnyH_take (i := 9) (v := ?_) (by simp only [List.getElem?_toArray]; rfl) (by kernel_rfl) (by kernel_rfl) (by kernel_rfl) (by exact fun _ _ _ h => h) (Or.inl ⟨by rfl, ?_⟩) (by assumption) ?_
                        rotate_left 1
                        · intro w hSw; (try dsimp only at hSw); go_simp; try with_reducible rfl
                        try conv => arg 8; simp only [Act.put, List.setIfInBounds_toArray, List.set_cons_zero, List.set_cons_succ]
                        refine wpAnyH_take (i := 10) (v := ?_) (by simp only [List.getElem?_toArray]; rfl) (by kernel_rfl) (by kernel_rfl) (by kernel_rfl) (by exact fun _ _ _ h => h) (Or.inl ⟨by rfl, ?_⟩) (by assumption) ?_
                        rotate_left 1
                        · intro w hSw; (try dsimp only at hSw); go_simp; try with_reducible rfl
                        try conv => arg 8; simp only [Act.put, List.setIfInBounds_toArray, List.set_cons_zero, List.set_cons_succ]
                        refine wpAnyH_ready (rs := [11]) (by kernel_rfl) (by simp) ?_
                        refine AllReadyH.cons (by simp only [List.getElem?_toArray]; rfl) (fun K hK => ?_) AllReadyH.nil
                        refine wanted_pos (by kernel_rfl) ?_
                        go_simp
                        clear hHeld
                        go_at_call 18
                        (with_reducible refine (HAD.out W0 _ _ (hsX.call bb) ?_).mono ?_)
                        · exact drop_rd (hsX.call bb).hI p HPR.out
                        rintro e W2 ⟨A6, n6, c6, rfl, o6, bn⟩
                        go_wp2_with fail
                        refine hK.out _ _ ?_ (fun hHeld => ?_)
                        · exact HS.out _ (bb.trans (bn.mono bb.size))
                        clear hK K
                        try conv => arg 8; simp only [Act.put, List.setIfInBounds_toArray, List.set_cons_zero, List.set_cons_succ]
                        replace bb := bb.trans (bn.mono bb.size)
                        clear bn
                        refine wpAnyH_take (i := 12) (v := ?_) (by simp only [List.getElem?_toArray]; rfl) (by kernel_rfl) (by kernel_rfl) (by kernel_rfl) (by exact fun _ _ _ h => h) (Or.inl ⟨by rfl, ?_⟩) (by assumption) ?_
                        rotate_left 1
                        · intro w hSw; (try dsimp only at hSw); go_simp; try with_reducible rfl
                        try conv => arg 8; simp only [Act.put, List.setIfInBounds_toArray, List.set_cons_zero, List.set_cons_succ]
                        refine wpAnyH_done (by kernel_rfl) ?_ _
                        have hb12 := bb
                        replace hsX := hsX.call bb
                        clear hHeld bb HS
                        have HL6 := Lib.hid (show n6 ≤ 500 by have h1 := o6.rdI.len; have h2 := apply_len w64 F (q : Int) (run.drop p) forms; rw [List.length_drop] at h2; have := HRL.out; omega)
                        have q5 := o5.rdI.call hb12
                        have q6 := o6.rdI
                        clear o5 o6 hb12 HAT HAD
                        rw [Eq.symm HXS.out.1] at q5 HLAW
                        rw [Eq.symm HXS.out.2] at q6 HLAW
                        clear HXS
                        obtain ⟨y0, y1, y2, y3, y4, y5, y6, y7, y8, y9, y10, y11, y12⟩ := hsX.cells
                        go_upto_region 12 with fail
                        clear y0 y1 y2 y3 y4 y5 y6 y7 y8 y9 y10 y11 y12
                        have bE : Below W2.heap.size W2 (W2.alloc (.cells #[] 51)) := (Below.refl _ _).alloc (Nat.le_refl _) _
                        have oE := own_empty W2 51 6
                        have q5e := q5.call bE
                        have HL := Lib.hid (itc_lenN' q5e.len)
                        have HR := Lib.hid (news_itc q5e)
                        have hn5 := HL5.out
                        go_upto_region 13 with (at_builtin; refine appP elt_item rfl _ _ rfl _ W2.heap.size _ _ _ (itc []) _ _ _ (itc xs5) (by rfl) (by rfl) oE HL.out HR.out (itc_one _) (by omega) bE.size ?_; intro A7 c7 w7 o7 hg7 hb7 hat7)
                        have b7 := bE.trans hb7
                        rw [Nat.zero_add] at o7
                        replace o7 : Ow 51 6 w7 W2.heap.size A7 n5 c7 (itc xs5) := o7
                        have q6e := q6.call b7
                        have HL' := Lib.hid (itc_lenN' q6e.len)
                        have HR' := Lib.hid (news_itc q6e)
                        have hn6 := HL6.out
                        clear hg7 hb7 hat7 bE oE q5e HL HR
                        go_upto_region 14 with (at_builtin; refine appP elt_item rfl _ _ rfl _ W2.heap.size _ _ _ _ _ _ _ (itc xs6) (by rfl) (by rfl) o7 HL'.out HR'.out (itc_one _) (by omega) b7.size ?_; intro A8 c8 w8 o8 hg8 hb8 hat8)
                        have b8 := b7.trans hb8
                        have hs8 := hsX.call b8
                        have q8 : RdI w8 (lo w8.heap.size) A8 (n5 + n6) (xs5 ++ xs6) := by
                          rw [← itc_app] at o8
                          exact o8.rdI
                        clear hg8 hb8 hat8 b7 o7 q6e HL' HR' b8 o8 q5 q6 hsX
                        go_wp2_with fail
                        refine (ruled_c _).mono ?_
                        rintro e w9 ⟨rfl, b9⟩
                        have hs9 := hs8.call b9
                        have q9 := q8.call b9
                        clear hs8 q8 b9
                        have HC := Lib.hid (apply_all f F (q : Int) _ rn rc run FA fn fc forms w9 hs9.hf hs9.hI hs9.hF hfnM (by have := HRL.out; omega) HSM.out.sm HSM.out.o)
                        unfold FV.cells at HC
                        obtain ⟨y0, y1, y2, y3, y4, y5, y6, y7, y8, y9, y10, y11, y12⟩ := hs9.cells
                        go_wp2_with fail
                        refine HC.out.mono ?_
                        rintro e w10 ⟨A9, n9, c9, rfl, o9, b10⟩
                        clear HC y0 y1 y2 y3 y4 y5 y6 y7 y8 y9 y10 y11 y12
                        have hs10 := hs9.call b10
                        have q10 := q9.call b10
                        have HN9 := Lib.hid (show n9 ≤ 500 by have h1 := o9.rdI.len; have h2 := apply_len w64 F (q : Int) run forms; have := HRL.out; omega)
                        have HCS := Lib.hid (same_c A8 A9 (n5 + n6) n9 c8 c9 _ _ w10 q10 o9.rdI (by omega) (by have := HN9.out; omega))
                        rw [HLAW.out, show decide (xs5 ++ xs6 = xs5 ++ xs6) = true by simp] at HCS
                        clear q9 q10 o9 b10 hs9
                        go_wp2_with fail
                        refine HCS.out.mono ?_
                        rintro e w11 ⟨rfl, b11⟩
                        go_wp2
                        go_ret
                        exact ⟨rfl, below_call hs10.bw b11⟩

end Go.Proofs.Ytkoocipagndclaa
