/- Walk: RulesCalls. -/
import Derived.Test.YtkoocipagndclaaX1
import Derived.Test.YtkoocipagndclaaN4
import Derived.Test.YtkoocipagndclaaL4
import Derived.Handy
namespace Go.Proofs.Ytkoocipagndclaa
open Go.RowKit Go.Shelf

theorem drop_rd' {w : World} {S : Nat → Prop} {b o n : Nat} {xs : List Itm} (h : RdI w S (some ⟨b, o, none⟩) n xs) (p : Nat) (hp : p < n) : RdI w S (some ⟨b, o + p * 6, none⟩) (n - p) (xs.drop p) :=
  ⟨by rw [List.length_drop, h.1], fun _ => by
    obtain ⟨b', o', e, hb, hc⟩ := h.2 (by omega)
    injection e with e
    injection e with e1 e2
    subst e1; subst e2
    refine ⟨_, _, rfl, hb, fun i x hx => ?_⟩
    rw [List.getElem?_drop] at hx
    obtain ⟨cs, h1, h2⟩ := hc (p + i) x hx
    refine ⟨cs, h1, fun j v hv => ?_⟩
    have := h2 j v hv
    rw [show o + p * 6 + i * 6 + j = o + (p + i) * 6 + j by rw [Nat.add_mul]; omega]
    exact this⟩
theorem font_own' {W : World} {f : FV} {F : Fnt} (h : IsF W (lo W.heap.size) f F) {A : Option Addr} {n c : Nat} {lks : List Lk} (h1 : RdL W (lo W.heap.size) A n lks) (h2 : Hd n c) : IsF W (lo W.heap.size) { f with la := A, ln := n, lc := c } ⟨F.gly, lks⟩ := ⟨h.1, h1, h.2.2.1, h2⟩
/-- A chain of one rule, of one glyph. -/
def chR (g : Int) (cs : List (Int × Int)) : Rul := ⟨[], [[g]], [], [], cs, 0⟩
def chL (g : Int) (cs : List (Int × Int)) : Lk := ⟨4, false, [chR g cs]⟩
def callF (F : Fnt) (g : Int) (q : Int) : Fnt := ⟨F.gly, F.lks ++ [chL g [(0, q)], chL g []]⟩
theorem callF_sm {F : Fnt} {g q : Int} (h : SmF F) : SmF (callF F g q) := fun l hl => by
  have key : ∀ cs, (chL g cs).rules.length ≤ 1000000 ∧ ∀ r ∈ (chL g cs).rules, SmR r := fun cs => ⟨by simp [chL], fun r hr => by
    simp [chL, chR] at hr; subst hr
    exact ⟨⟨by simp, fun s hs => by cases hs⟩, ⟨by simp, fun t ht => by rw [List.mem_singleton] at ht; rw [ht]; simp⟩, ⟨by simp, fun s hs => by cases hs⟩⟩⟩
  rcases List.mem_append.1 hl with hl | hl
  · exact h l hl
  · rcases List.mem_cons.1 hl with rfl | hl
    · exact key _
    · rw [List.mem_singleton] at hl; rw [hl]; exact key _
theorem callF_o {F : Fnt} {g q : Int} (h : SmO F) : SmO (callF F g q) := fun l hl => by
  have key : ∀ cs, ∀ r ∈ (chL g cs).rules, r.out.length ≤ 1000000 := fun cs r hr => by simp [chL, chR] at hr; subst hr; simp
  rcases List.mem_append.1 hl with hl | hl
  · exact h l hl
  · rcases List.mem_cons.1 hl with rfl | hl
    · exact key _
    · rw [List.mem_singleton] at hl; rw [hl]; exact key _
theorem callF_0 (F : Fnt) (g q : Int) : lkAt (callF F g q) (F.lks.length : Int) = some (chL g [(0, q)]) := by
  unfold lkAt callF; rw [if_neg (by omega), Int.toNat_natCast]; simp
theorem callF_1 (F : Fnt) (g q : Int) : lkAt (callF F g q) ((F.lks.length : Int) + 1) = some (chL g []) := by
  unfold lkAt callF; rw [if_neg (by omega), show ((F.lks.length : Int) + 1).toNat = F.lks.length + 1 by omega]; simp
theorem callF_q {F : Fnt} {g q : Int} {n : Int} {lk : Lk} (h : lkAt F n = some lk) : lkAt (callF F g q) n = some lk := lkAt_app F _ _ rfl n lk h
theorem ch_law {F : Fnt} {it : Itm} {q : Int} {lk : Lk} (hq : lkAt F q = some lk) (h1 : 1 ≤ lk.kind) (h3 : lk.kind ≤ 3) : applyL w64 (callF F it.g q) (F.lks.length : Int) [it] [] = applyL w64 (callF F it.g q) q [it] [] := calls_one (callF_0 F it.g q) (callF_q hq) h1 h3
theorem ch_none {F : Fnt} {g q : Int} {run : List Itm} {forms : List Int} : applyL w64 (callF F g q) ((F.lks.length : Int) + 1) run forms = run := calls_none (callF_1 F g q)
/-- The blocks that a chain lies in. -/
theorem ch_elk {W : World} {g : Int} {q : Int} {b1 b2 b3 b4 : Nat} (h1 : Bk W b1 3 #[.int .i64 g]) (h2 : Bk W b2 29 #[.slice (some ⟨b1, 0, none⟩) 1 1]) (h3 : Bk W b3 55 #[.int .i64 0, .int .i64 q]) (h4 : Bk W b4 48 #[.slice none 0 0, .slice (some ⟨b2, 0, none⟩) 1 1, .slice none 0 0, .slice none 0 0, .slice (some ⟨b3, 0, none⟩) 1 1, .int .i64 0]) :
    ELk W (lo W.heap.size) [.int .i64 4, .bool false, .slice (some ⟨b4, 0, none⟩) 1 1] (chL g [(0, q)]) := by
  have d1 : Hd 1 1 := hd_of (by omega)
  have d0 : Hd 0 0 := hd_of (by omega)
  exact ⟨_, _, _, rfl, sle_one h4 h4.lt _ ⟨none, 0, 0, some ⟨b2, 0, none⟩, 1, 1, none, 0, 0, none, 0, 0, some ⟨b3, 0, none⟩, 1, 1, rfl, SlE.nil, sle_one h2 h2.lt _ ⟨_, _, _, rfl, sle_one h1 h1.lt g rfl, d1⟩, SlE.nil, SlE.nil, sle_one h3 h3.lt (0, q) ⟨rfl, by show (-9223372036854775808 : Int) ≤ 0; omega, by show (0 : Int) ≤ 9223372036854775807; omega⟩, d0, d1, d0, d0, d1⟩, d1⟩
theorem ch_elk0 {W : World} {g : Int} {b1 b2 b4 : Nat} (h1 : Bk W b1 3 #[.int .i64 g]) (h2 : Bk W b2 29 #[.slice (some ⟨b1, 0, none⟩) 1 1]) (h4 : Bk W b4 48 #[.slice none 0 0, .slice (some ⟨b2, 0, none⟩) 1 1, .slice none 0 0, .slice none 0 0, .slice none 0 0, .int .i64 0]) :
    ELk W (lo W.heap.size) [.int .i64 4, .bool false, .slice (some ⟨b4, 0, none⟩) 1 1] (chL g []) := by
  have d1 : Hd 1 1 := hd_of (by omega)
  have d0 : Hd 0 0 := hd_of (by omega)
  exact ⟨_, _, _, rfl, sle_one h4 h4.lt _ ⟨none, 0, 0, some ⟨b2, 0, none⟩, 1, 1, none, 0, 0, none, 0, 0, none, 0, 0, rfl, SlE.nil, sle_one h2 h2.lt _ ⟨_, _, _, rfl, sle_one h1 h1.lt g rfl, d1⟩, SlE.nil, SlE.nil, SlE.nil, d0, d1, d0, d0, d0⟩, d1⟩
theorem rd_nil' {w : World} {S : Nat → Prop} {A : Option Addr} : Rd w S A 0 [] := SlE.nil
theorem ne_row2 {A : Option Addr} {g : Nat} (h : ∀ b o s, A = some ⟨b, o, s⟩ → g < b) : some g ≠ A.map (·.block) := by
  cases A with
  | none => simp
  | some a =>
    obtain ⟨b, o, s⟩ := a
    have := h b o s rfl
    simp; omega
theorem run_one {w : World} {S : Nat → Prop} {b o n : Nat} {run : List Itm} {p : Nat} {it : Itm} (h : RdI w S (some ⟨b, o, none⟩) n run) (hp : run[p]? = some it) : RdI w S (some ⟨b, o + p * 6, none⟩) 1 [it] := by
  have hl := h.len
  obtain ⟨hpl, rfl⟩ := List.getElem?_eq_some_iff.1 hp
  have h1 : RdI w S (some ⟨b, o + p * 6, none⟩) 1 _ := (drop_rd' h p (by omega)).take 1 (by omega)
  rw [List.drop_eq_getElem_cons hpl, List.take_succ_cons, List.take_zero] at h1
  exact h1
set_option maxRecDepth 100000 in
set_option maxHeartbeats 4000000 in
theorem rulesCalls_walk (f : FV) (F : Fnt) (n : Int) (RA : Option Addr) (rn rc : Nat) (run : List Itm) (k : Int) (FA : Option Addr) (fn fc : Nat) (forms : List Int) (w : World) (hf : IsF w (lo w.heap.size) f F) (hI : RdI w (lo w.heap.size) RA rn run) (hd : Hd rn rc) (hF : Rd w (lo w.heap.size) FA fn forms) (hfd : Hd fn fc) :
    Calls Try.prog 13 #[.agg (askC f n RA rn rc k FA fn fc)] w (TP w) := by
  have hrnM : rn ≤ 9223372036854775807 := Nat.le_trans hd.1 hd.2
  have hfnM : fn ≤ 9223372036854775807 := Nat.le_trans hfd.1 hfd.2
  have hs_0 := AS.new (n := n) (k := k) (rc := rc) (fc := fc) hf hI hF
  unfold askC at hs_0 ⊢
  go_enter Try.func13, Try.ntmps13
  go_upto_region 1 with fail
  generalize w.alloc (.cells #[.int .i64 f.u0, .slice f.ga f.gn f.gc, .slice f.ca f.cn f.cc, .slice f.la f.ln f.lc, .slice f.a4 f.n4 f.c4, .slice f.a5 f.n5 f.c5, .slice f.a6 f.n6 f.c6, .slice f.a7 f.n7 f.c7, .slice f.a8 f.n8 f.c8, .int .i64 n, .slice RA rn rc, .int .i64 k, .slice FA fn fc] 34) = w0 at hs_0 ⊢
  generalize hbf : w.heap.size = bf at hs_0 ⊢
  clear hf hI hF
  have HC := Lib.hid (big11_c f F RA rn rc run w0 hs_0.hf hs_0.hI hrnM)
  unfold FV.cells at HC
  obtain ⟨y0, y1, y2, y3, y4, y5, y6, y7, y8, y9, y10, y11, y12⟩ := hs_0.cells
  go_wp2_with fail
  refine HC.out.mono ?_
  rintro e w1 ⟨rfl, b1⟩
  clear HC y0 y1 y2 y3 y4 y5 y6 y7 y8 y9 y10 y11 y12
  have hs_1 := hs_0.call b1
  clear hs_0 b1
  cases hbig : big11 F run with
  | true =>
    obtain ⟨y0, y1, y2, y3, y4, y5, y6, y7, y8, y9, y10, y11, y12⟩ := hs_1.cells
    go_wp2_with fail
    refine (ruled_c _).mono ?_
    rintro e w9 ⟨rfl, b9⟩
    go_wp2
    go_ret
    exact ⟨rfl, below_call hs_1.bw b9⟩
  | false =>
    have hsm := small11 hbig
    have hrn : rn ≤ 300 := by have := hs_1.hI.len; have := hsm.run; omega
    have HSM := Lib.hid hsm
    have HRL := Lib.hid hs_1.hI.len
    clear hbig hsm
    by_cases hneg : n < 0
    · have tn : decide (n < 0) = true := by simp; omega
      obtain ⟨y0, y1, y2, y3, y4, y5, y6, y7, y8, y9, y10, y11, y12⟩ := hs_1.cells
      go_wp2_with fail
      refine (ruled_c _).mono ?_
      rintro e w9 ⟨rfl, b9⟩
      go_wp2
      go_ret
      exact ⟨rfl, below_call hs_1.bw b9⟩
    · have tn : decide (n < 0) = false := by simp; omega
      by_cases hbg : (f.ln : Int) ≤ n
      · have tb : decide ((f.ln : Int) ≤ n) = true := by simp; omega
        obtain ⟨y0, y1, y2, y3, y4, y5, y6, y7, y8, y9, y10, y11, y12⟩ := hs_1.cells
        go_wp2_with fail
        refine (ruled_c _).mono ?_
        rintro e w9 ⟨rfl, b9⟩
        go_wp2
        go_ret
        exact ⟨rfl, below_call hs_1.bw b9⟩
      · have tb : decide ((f.ln : Int) ≤ n) = false := by simp; omega
        obtain ⟨q, rfl⟩ : ∃ q : Nat, n = (q : Int) := ⟨n.toNat, by omega⟩
        have tb' : decide (f.ln ≤ q) = false := by simp; omega
        have qz : (0 : Int) ≤ (q : Int) := by omega
        have ql : (q : Int) < (f.ln : Int) := by omega
        obtain ⟨lk, hlk⟩ := at_some F.lks q (by have := hs_1.hf.2.1.len; omega)
        obtain ⟨lb, lo', hla, _, hc⟩ := hs_1.hf.2.1.pos (by omega)
        obtain ⟨cs, ⟨LA, ln, lc, rfl, hRR, hRd⟩, hcc⟩ := hc q lk hlk
        have l0 := hcc 0 _ rfl
        have l1 := hcc 1 _ rfl
        have l2 := hcc 2 _ rfl
        rw [Nat.add_zero] at l0
        have HLK := Lib.hid (lkAt_nat hlk)
        have HLKM := Lib.hid (List.mem_of_getElem? hlk)
        have HLA := Lib.hid hla
        have HRLN := Lib.hid hRR.len
        clear hc hcc hla hlk hneg hbg
        obtain ⟨y0, y1, y2, y3, y4, y5, y6, y7, y8, y9, y10, y11, y12⟩ := hs_1.cells
        rw [HLA.out] at y3
        go_upto_region 4 with fail
        have kl := Bk.new w1 44 #[.int .i64 lk.kind, .bool lk.ign, .slice LA ln lc]
        have b2 : Below w1.heap.size w1 (w1.alloc (.cells #[.int .i64 lk.kind, .bool lk.ign, .slice LA ln lc] 44)) := (Below.refl _ _).alloc (Nat.le_refl _) _
        have HFL := Lib.hid hs_1.hf.2.1.len
        clear y0 y1 y2 y3 y4 y5 y6 y7 y8 y9 y10 y11 y12 l0 l1 l2
        have hs2 := hs_1.call b2
        generalize w1.alloc (.cells #[.int .i64 lk.kind, .bool lk.ign, .slice LA ln lc] 44) = w2 at *
        generalize w1.heap.size = gl at *
        clear hs_1 hRR b2
        have z0 : w2.cell? ⟨gl, 0, none⟩ = some (.int .i64 lk.kind) := kl.cell 0
        by_cases hk1 : lk.kind < 1
        · have t0 : decide (lk.kind < 1) = true := by simp; omega
          clear hk1
          obtain ⟨y0, y1, y2, y3, y4, y5, y6, y7, y8, y9, y10, y11, y12⟩ := hs2.cells
          go_wp2_with fail
          refine (ruled_c _).mono ?_
          rintro e w9 ⟨rfl, b9⟩
          go_wp2
          go_ret
          exact ⟨rfl, below_call hs2.bw b9⟩
        · have t0 : decide (lk.kind < 1) = false := by simp; omega
          by_cases hk3 : 3 < lk.kind
          · have t1 : decide ((3 : Int) < lk.kind) = true := by simp; omega
            clear hk1 hk3
            obtain ⟨y0, y1, y2, y3, y4, y5, y6, y7, y8, y9, y10, y11, y12⟩ := hs2.cells
            go_wp2_with fail
            refine (ruled_c _).mono ?_
            rintro e w9 ⟨rfl, b9⟩
            go_wp2
            go_ret
            exact ⟨rfl, below_call hs2.bw b9⟩
          · have t1 : decide ((3 : Int) < lk.kind) = false := by simp; omega
            have HK := Lib.hid (show 1 ≤ lk.kind ∧ lk.kind ≤ 3 by omega)
            clear hk1 hk3
            by_cases hk0 : k < 0
            · have t2 : decide (k < 0) = true := by simp; omega
              obtain ⟨y0, y1, y2, y3, y4, y5, y6, y7, y8, y9, y10, y11, y12⟩ := hs2.cells
              go_wp2_with fail
              refine (ruled_c _).mono ?_
              rintro e w9 ⟨rfl, b9⟩
              go_wp2
              go_ret
              exact ⟨rfl, below_call hs2.bw b9⟩
            · have t2 : decide (k < 0) = false := by simp; omega
              by_cases hkr : (rn : Int) ≤ k
              · have t3 : decide ((rn : Int) ≤ k) = true := by simp; omega
                obtain ⟨y0, y1, y2, y3, y4, y5, y6, y7, y8, y9, y10, y11, y12⟩ := hs2.cells
                go_wp2_with fail
                refine (ruled_c _).mono ?_
                rintro e w9 ⟨rfl, b9⟩
                go_wp2
                go_ret
                exact ⟨rfl, below_call hs2.bw b9⟩
              · have t3 : decide ((rn : Int) ≤ k) = false := by simp; omega
                obtain ⟨p, rfl⟩ : ∃ p : Nat, k = (p : Int) := ⟨k.toNat, by omega⟩
                have t3' : decide (rn ≤ p) = false := by simp; omega
                have pz : (0 : Int) ≤ (p : Int) := by omega
                have pl : (p : Int) < (rn : Int) := by omega
                have hpn : p < rn := by omega
                obtain ⟨it, hit⟩ := at_some run p (by have := HRL.out; omega)
                have HIT := Lib.hid hit
                obtain ⟨b, o, hRA, _, _⟩ := hs2.hI.pos (by omega)
                subst hRA
                obtain ⟨g0, g1, g2, g3, g4, g5⟩ := item_at hs2.hI hit
                obtain ⟨y0, y1, y2, y3, y4, y5, y6, y7, y8, y9, y10, y11, y12⟩ := hs2.cells
                clear g1 g2 g3 g4 g5 hk0 hkr hit
                have ltb := cell_lt y9
                dsimp only at ltb
                go_upto_region 8 with fail
                clear y0 y1 y2 y3 y4 y5 y6 y7 y8 y9 y10 y11 y12 ltb g0 z0 t0 t1 t2 t3 t3'
                have bn : Below w2.heap.size w2 (((((w2.alloc (.cells #[.int .i64 it.g] 3)).alloc (.cells #[.slice (some ⟨w2.heap.size, 0, none⟩) 1 1] 29)).alloc (.cells #[.int .i64 0, .int .i64 (q : Int)] 55)).alloc (.cells #[.slice none 0 0, .slice (some ⟨w2.heap.size + 1, 0, none⟩) 1 1, .slice none 0 0, .slice none 0 0, .slice (some ⟨w2.heap.size + 1 + 1, 0, none⟩) 1 1, .int .i64 0] 48)).alloc (.cells #[.int .i64 4, .bool false, .slice (some ⟨w2.heap.size + 1 + 1 + 1, 0, none⟩) 1 1] 44)) := allocs_below [.cells #[.int .i64 it.g] 3, .cells #[.slice (some ⟨w2.heap.size, 0, none⟩) 1 1] 29, .cells #[.int .i64 0, .int .i64 (q : Int)] 55, .cells #[.slice none 0 0, .slice (some ⟨w2.heap.size + 1, 0, none⟩) 1 1, .slice none 0 0, .slice none 0 0, .slice (some ⟨w2.heap.size + 1 + 1, 0, none⟩) 1 1, .int .i64 0] 48, .cells #[.int .i64 4, .bool false, .slice (some ⟨w2.heap.size + 1 + 1 + 1, 0, none⟩) 1 1] 44] w2 w2 (Below.refl _ _)
                have ka0 : Bk (((((w2.alloc (.cells #[.int .i64 it.g] 3)).alloc (.cells #[.slice (some ⟨w2.heap.size, 0, none⟩) 1 1] 29)).alloc (.cells #[.int .i64 0, .int .i64 (q : Int)] 55)).alloc (.cells #[.slice none 0 0, .slice (some ⟨w2.heap.size + 1, 0, none⟩) 1 1, .slice none 0 0, .slice none 0 0, .slice (some ⟨w2.heap.size + 1 + 1, 0, none⟩) 1 1, .int .i64 0] 48)).alloc (.cells #[.int .i64 4, .bool false, .slice (some ⟨w2.heap.size + 1 + 1 + 1, 0, none⟩) 1 1] 44)) (w2.heap.size) 3 #[.int .i64 it.g] := allocs_at [.cells #[.int .i64 it.g] 3, .cells #[.slice (some ⟨w2.heap.size, 0, none⟩) 1 1] 29, .cells #[.int .i64 0, .int .i64 (q : Int)] 55, .cells #[.slice none 0 0, .slice (some ⟨w2.heap.size + 1, 0, none⟩) 1 1, .slice none 0 0, .slice none 0 0, .slice (some ⟨w2.heap.size + 1 + 1, 0, none⟩) 1 1, .int .i64 0] 48, .cells #[.int .i64 4, .bool false, .slice (some ⟨w2.heap.size + 1 + 1 + 1, 0, none⟩) 1 1] 44] w2 0 _ rfl
                have ka1 : Bk (((((w2.alloc (.cells #[.int .i64 it.g] 3)).alloc (.cells #[.slice (some ⟨w2.heap.size, 0, none⟩) 1 1] 29)).alloc (.cells #[.int .i64 0, .int .i64 (q : Int)] 55)).alloc (.cells #[.slice none 0 0, .slice (some ⟨w2.heap.size + 1, 0, none⟩) 1 1, .slice none 0 0, .slice none 0 0, .slice (some ⟨w2.heap.size + 1 + 1, 0, none⟩) 1 1, .int .i64 0] 48)).alloc (.cells #[.int .i64 4, .bool false, .slice (some ⟨w2.heap.size + 1 + 1 + 1, 0, none⟩) 1 1] 44)) (w2.heap.size + 1) 29 #[.slice (some ⟨w2.heap.size, 0, none⟩) 1 1] := allocs_at [.cells #[.int .i64 it.g] 3, .cells #[.slice (some ⟨w2.heap.size, 0, none⟩) 1 1] 29, .cells #[.int .i64 0, .int .i64 (q : Int)] 55, .cells #[.slice none 0 0, .slice (some ⟨w2.heap.size + 1, 0, none⟩) 1 1, .slice none 0 0, .slice none 0 0, .slice (some ⟨w2.heap.size + 1 + 1, 0, none⟩) 1 1, .int .i64 0] 48, .cells #[.int .i64 4, .bool false, .slice (some ⟨w2.heap.size + 1 + 1 + 1, 0, none⟩) 1 1] 44] w2 1 _ rfl
                have ka2 : Bk (((((w2.alloc (.cells #[.int .i64 it.g] 3)).alloc (.cells #[.slice (some ⟨w2.heap.size, 0, none⟩) 1 1] 29)).alloc (.cells #[.int .i64 0, .int .i64 (q : Int)] 55)).alloc (.cells #[.slice none 0 0, .slice (some ⟨w2.heap.size + 1, 0, none⟩) 1 1, .slice none 0 0, .slice none 0 0, .slice (some ⟨w2.heap.size + 1 + 1, 0, none⟩) 1 1, .int .i64 0] 48)).alloc (.cells #[.int .i64 4, .bool false, .slice (some ⟨w2.heap.size + 1 + 1 + 1, 0, none⟩) 1 1] 44)) (w2.heap.size + 1 + 1) 55 #[.int .i64 0, .int .i64 (q : Int)] := allocs_at [.cells #[.int .i64 it.g] 3, .cells #[.slice (some ⟨w2.heap.size, 0, none⟩) 1 1] 29, .cells #[.int .i64 0, .int .i64 (q : Int)] 55, .cells #[.slice none 0 0, .slice (some ⟨w2.heap.size + 1, 0, none⟩) 1 1, .slice none 0 0, .slice none 0 0, .slice (some ⟨w2.heap.size + 1 + 1, 0, none⟩) 1 1, .int .i64 0] 48, .cells #[.int .i64 4, .bool false, .slice (some ⟨w2.heap.size + 1 + 1 + 1, 0, none⟩) 1 1] 44] w2 2 _ rfl
                have ka3 : Bk (((((w2.alloc (.cells #[.int .i64 it.g] 3)).alloc (.cells #[.slice (some ⟨w2.heap.size, 0, none⟩) 1 1] 29)).alloc (.cells #[.int .i64 0, .int .i64 (q : Int)] 55)).alloc (.cells #[.slice none 0 0, .slice (some ⟨w2.heap.size + 1, 0, none⟩) 1 1, .slice none 0 0, .slice none 0 0, .slice (some ⟨w2.heap.size + 1 + 1, 0, none⟩) 1 1, .int .i64 0] 48)).alloc (.cells #[.int .i64 4, .bool false, .slice (some ⟨w2.heap.size + 1 + 1 + 1, 0, none⟩) 1 1] 44)) (w2.heap.size + 1 + 1 + 1) 48 #[.slice none 0 0, .slice (some ⟨w2.heap.size + 1, 0, none⟩) 1 1, .slice none 0 0, .slice none 0 0, .slice (some ⟨w2.heap.size + 1 + 1, 0, none⟩) 1 1, .int .i64 0] := allocs_at [.cells #[.int .i64 it.g] 3, .cells #[.slice (some ⟨w2.heap.size, 0, none⟩) 1 1] 29, .cells #[.int .i64 0, .int .i64 (q : Int)] 55, .cells #[.slice none 0 0, .slice (some ⟨w2.heap.size + 1, 0, none⟩) 1 1, .slice none 0 0, .slice none 0 0, .slice (some ⟨w2.heap.size + 1 + 1, 0, none⟩) 1 1, .int .i64 0] 48, .cells #[.int .i64 4, .bool false, .slice (some ⟨w2.heap.size + 1 + 1 + 1, 0, none⟩) 1 1] 44] w2 3 _ rfl
                have ka4 : Bk (((((w2.alloc (.cells #[.int .i64 it.g] 3)).alloc (.cells #[.slice (some ⟨w2.heap.size, 0, none⟩) 1 1] 29)).alloc (.cells #[.int .i64 0, .int .i64 (q : Int)] 55)).alloc (.cells #[.slice none 0 0, .slice (some ⟨w2.heap.size + 1, 0, none⟩) 1 1, .slice none 0 0, .slice none 0 0, .slice (some ⟨w2.heap.size + 1 + 1, 0, none⟩) 1 1, .int .i64 0] 48)).alloc (.cells #[.int .i64 4, .bool false, .slice (some ⟨w2.heap.size + 1 + 1 + 1, 0, none⟩) 1 1] 44)) (w2.heap.size + 1 + 1 + 1 + 1) 44 #[.int .i64 4, .bool false, .slice (some ⟨w2.heap.size + 1 + 1 + 1, 0, none⟩) 1 1] := allocs_at [.cells #[.int .i64 it.g] 3, .cells #[.slice (some ⟨w2.heap.size, 0, none⟩) 1 1] 29, .cells #[.int .i64 0, .int .i64 (q : Int)] 55, .cells #[.slice none 0 0, .slice (some ⟨w2.heap.size + 1, 0, none⟩) 1 1, .slice none 0 0, .slice none 0 0, .slice (some ⟨w2.heap.size + 1 + 1, 0, none⟩) 1 1, .int .i64 0] 48, .cells #[.int .i64 4, .bool false, .slice (some ⟨w2.heap.size + 1 + 1 + 1, 0, none⟩) 1 1] 44] w2 4 _ rfl
                have hs7 := hs2.call bn
                clear bn hs2
                generalize ((((w2.alloc (.cells #[.int .i64 it.g] 3)).alloc (.cells #[.slice (some ⟨w2.heap.size, 0, none⟩) 1 1] 29)).alloc (.cells #[.int .i64 0, .int .i64 (q : Int)] 55)).alloc (.cells #[.slice none 0 0, .slice (some ⟨w2.heap.size + 1, 0, none⟩) 1 1, .slice none 0 0, .slice none 0 0, .slice (some ⟨w2.heap.size + 1 + 1, 0, none⟩) 1 1, .int .i64 0] 48)).alloc (.cells #[.int .i64 4, .bool false, .slice (some ⟨w2.heap.size + 1 + 1 + 1, 0, none⟩) 1 1] 44) = w7 at *
                go_upto_region 9 with fail
                have bn : Below w7.heap.size w7 ((((w7.alloc (.cells #[.int .i64 it.g] 3)).alloc (.cells #[.slice (some ⟨w7.heap.size, 0, none⟩) 1 1] 29)).alloc (.cells #[.slice none 0 0, .slice (some ⟨w7.heap.size + 1, 0, none⟩) 1 1, .slice none 0 0, .slice none 0 0, .slice none 0 0, .int .i64 0] 48)).alloc (.cells #[.int .i64 4, .bool false, .slice (some ⟨w7.heap.size + 1 + 1, 0, none⟩) 1 1] 44)) := allocs_below [.cells #[.int .i64 it.g] 3, .cells #[.slice (some ⟨w7.heap.size, 0, none⟩) 1 1] 29, .cells #[.slice none 0 0, .slice (some ⟨w7.heap.size + 1, 0, none⟩) 1 1, .slice none 0 0, .slice none 0 0, .slice none 0 0, .int .i64 0] 48, .cells #[.int .i64 4, .bool false, .slice (some ⟨w7.heap.size + 1 + 1, 0, none⟩) 1 1] 44] w7 w7 (Below.refl _ _)
                have kb0 : Bk ((((w7.alloc (.cells #[.int .i64 it.g] 3)).alloc (.cells #[.slice (some ⟨w7.heap.size, 0, none⟩) 1 1] 29)).alloc (.cells #[.slice none 0 0, .slice (some ⟨w7.heap.size + 1, 0, none⟩) 1 1, .slice none 0 0, .slice none 0 0, .slice none 0 0, .int .i64 0] 48)).alloc (.cells #[.int .i64 4, .bool false, .slice (some ⟨w7.heap.size + 1 + 1, 0, none⟩) 1 1] 44)) (w7.heap.size) 3 #[.int .i64 it.g] := allocs_at [.cells #[.int .i64 it.g] 3, .cells #[.slice (some ⟨w7.heap.size, 0, none⟩) 1 1] 29, .cells #[.slice none 0 0, .slice (some ⟨w7.heap.size + 1, 0, none⟩) 1 1, .slice none 0 0, .slice none 0 0, .slice none 0 0, .int .i64 0] 48, .cells #[.int .i64 4, .bool false, .slice (some ⟨w7.heap.size + 1 + 1, 0, none⟩) 1 1] 44] w7 0 _ rfl
                have kb1 : Bk ((((w7.alloc (.cells #[.int .i64 it.g] 3)).alloc (.cells #[.slice (some ⟨w7.heap.size, 0, none⟩) 1 1] 29)).alloc (.cells #[.slice none 0 0, .slice (some ⟨w7.heap.size + 1, 0, none⟩) 1 1, .slice none 0 0, .slice none 0 0, .slice none 0 0, .int .i64 0] 48)).alloc (.cells #[.int .i64 4, .bool false, .slice (some ⟨w7.heap.size + 1 + 1, 0, none⟩) 1 1] 44)) (w7.heap.size + 1) 29 #[.slice (some ⟨w7.heap.size, 0, none⟩) 1 1] := allocs_at [.cells #[.int .i64 it.g] 3, .cells #[.slice (some ⟨w7.heap.size, 0, none⟩) 1 1] 29, .cells #[.slice none 0 0, .slice (some ⟨w7.heap.size + 1, 0, none⟩) 1 1, .slice none 0 0, .slice none 0 0, .slice none 0 0, .int .i64 0] 48, .cells #[.int .i64 4, .bool false, .slice (some ⟨w7.heap.size + 1 + 1, 0, none⟩) 1 1] 44] w7 1 _ rfl
                have kb2 : Bk ((((w7.alloc (.cells #[.int .i64 it.g] 3)).alloc (.cells #[.slice (some ⟨w7.heap.size, 0, none⟩) 1 1] 29)).alloc (.cells #[.slice none 0 0, .slice (some ⟨w7.heap.size + 1, 0, none⟩) 1 1, .slice none 0 0, .slice none 0 0, .slice none 0 0, .int .i64 0] 48)).alloc (.cells #[.int .i64 4, .bool false, .slice (some ⟨w7.heap.size + 1 + 1, 0, none⟩) 1 1] 44)) (w7.heap.size + 1 + 1) 48 #[.slice none 0 0, .slice (some ⟨w7.heap.size + 1, 0, none⟩) 1 1, .slice none 0 0, .slice none 0 0, .slice none 0 0, .int .i64 0] := allocs_at [.cells #[.int .i64 it.g] 3, .cells #[.slice (some ⟨w7.heap.size, 0, none⟩) 1 1] 29, .cells #[.slice none 0 0, .slice (some ⟨w7.heap.size + 1, 0, none⟩) 1 1, .slice none 0 0, .slice none 0 0, .slice none 0 0, .int .i64 0] 48, .cells #[.int .i64 4, .bool false, .slice (some ⟨w7.heap.size + 1 + 1, 0, none⟩) 1 1] 44] w7 2 _ rfl
                have kb3 : Bk ((((w7.alloc (.cells #[.int .i64 it.g] 3)).alloc (.cells #[.slice (some ⟨w7.heap.size, 0, none⟩) 1 1] 29)).alloc (.cells #[.slice none 0 0, .slice (some ⟨w7.heap.size + 1, 0, none⟩) 1 1, .slice none 0 0, .slice none 0 0, .slice none 0 0, .int .i64 0] 48)).alloc (.cells #[.int .i64 4, .bool false, .slice (some ⟨w7.heap.size + 1 + 1, 0, none⟩) 1 1] 44)) (w7.heap.size + 1 + 1 + 1) 44 #[.int .i64 4, .bool false, .slice (some ⟨w7.heap.size + 1 + 1, 0, none⟩) 1 1] := allocs_at [.cells #[.int .i64 it.g] 3, .cells #[.slice (some ⟨w7.heap.size, 0, none⟩) 1 1] 29, .cells #[.slice none 0 0, .slice (some ⟨w7.heap.size + 1, 0, none⟩) 1 1, .slice none 0 0, .slice none 0 0, .slice none 0 0, .int .i64 0] 48, .cells #[.int .i64 4, .bool false, .slice (some ⟨w7.heap.size + 1 + 1, 0, none⟩) 1 1] 44] w7 3 _ rfl
                have hs8 := hs7.call bn
                replace ka0 := ka0.call bn
                replace ka1 := ka1.call bn
                replace ka2 := ka2.call bn
                replace ka3 := ka3.call bn
                replace ka4 := ka4.call bn
                clear bn hs7
                generalize (((w7.alloc (.cells #[.int .i64 it.g] 3)).alloc (.cells #[.slice (some ⟨w7.heap.size, 0, none⟩) 1 1] 29)).alloc (.cells #[.slice none 0 0, .slice (some ⟨w7.heap.size + 1, 0, none⟩) 1 1, .slice none 0 0, .slice none 0 0, .slice none 0 0, .int .i64 0] 48)).alloc (.cells #[.int .i64 4, .bool false, .slice (some ⟨w7.heap.size + 1 + 1, 0, none⟩) 1 1] 44) = w8 at *
                obtain ⟨y0, y1, y2, y3, y4, y5, y6, y7, y8, y9, y10, y11, y12⟩ := hs8.cells
                go_upto_region 11 with fail
                clear y0 y1 y2 y3 y4 y5 y6 y7 y8 y9 y10 y11 y12
                have bn1 : Below w8.heap.size w8 (w8.alloc (.cells #[.int .i64 f.u0, .slice f.ga f.gn f.gc, .slice f.ca f.cn f.cc, .slice (some ⟨w8.heap.size + 1, 0, none⟩) 0 0, .slice f.a4 f.n4 f.c4, .slice f.a5 f.n5 f.c5, .slice f.a6 f.n6 f.c6, .slice f.a7 f.n7 f.c7, .slice f.a8 f.n8 f.c8] 31)) := (Below.refl _ _).alloc (Nat.le_refl _) _
                have kf := (Bk.new w8 31 #[.int .i64 f.u0, .slice f.ga f.gn f.gc, .slice f.ca f.cn f.cc, .slice (some ⟨w8.heap.size + 1, 0, none⟩) 0 0, .slice f.a4 f.n4 f.c4, .slice f.a5 f.n5 f.c5, .slice f.a6 f.n6 f.c6, .slice f.a7 f.n7 f.c7, .slice f.a8 f.n8 f.c8]).alloc (.cells #[] 44)
                have oE := own_empty (w8.alloc (.cells #[.int .i64 f.u0, .slice f.ga f.gn f.gc, .slice f.ca f.cn f.cc, .slice (some ⟨w8.heap.size + 1, 0, none⟩) 0 0, .slice f.a4 f.n4 f.c4, .slice f.a5 f.n5 f.c5, .slice f.a6 f.n6 f.c6, .slice f.a7 f.n7 f.c7, .slice f.a8 f.n8 f.c8] 31)) 44 3
                have b10 : Below w8.heap.size w8 ((w8.alloc (.cells #[.int .i64 f.u0, .slice f.ga f.gn f.gc, .slice f.ca f.cn f.cc, .slice (some ⟨w8.heap.size + 1, 0, none⟩) 0 0, .slice f.a4 f.n4 f.c4, .slice f.a5 f.n5 f.c5, .slice f.a6 f.n6 f.c6, .slice f.a7 f.n7 f.c7, .slice f.a8 f.n8 f.c8] 31)).alloc (.cells #[] 44)) := bn1.alloc bn1.size _
                rw [World.size_alloc] at oE
                have hs10 := hs8.call b10
                have HBS := Lib.hid (show w8.heap.size + 1 ≤ ((w8.alloc (.cells #[.int .i64 f.u0, .slice f.ga f.gn f.gc, .slice f.ca f.cn f.cc, .slice (some ⟨w8.heap.size + 1, 0, none⟩) 0 0, .slice f.a4 f.n4 f.c4, .slice f.a5 f.n5 f.c5, .slice f.a6 f.n6 f.c6, .slice f.a7 f.n7 f.c7, .slice f.a8 f.n8 f.c8] 31)).alloc (.cells #[] 44)).heap.size by simp)
                obtain ⟨css, hrow, hnl, hnews⟩ := RowOf.news (SlE.mono hs8.hf.2.1 (fun _ h => h) (kept_below b10) (fun _ _ h => h)) elk_len
                have HNL := Lib.hid hnl
                have HNW := Lib.hid hnews
                have HONE := Lib.hid (hrow.one_cells elk_one)
                have HWS := Lib.hid fun (W : World) (bW : Below w8.heap.size w8 W) => hs8.call bW
                have HRW := Lib.hid fun (W : World) (bW : Below w8.heap.size w8 W) => (show RowOf 3 (ELk W (lo W.heap.size)) (css ++ [[.int .i64 4, .bool false, .slice (some ⟨w2.heap.size + 1 + 1 + 1, 0, none⟩) 1 1], [.int .i64 4, .bool false, .slice (some ⟨w7.heap.size + 1 + 1, 0, none⟩) 1 1]]) (callF F it.g (q : Int)).lks from (hrow.mono fun cs x h => h.call bW).app ((RowOf.one (ch_elk (ka0.call bW) (ka1.call bW) (ka2.call bW) (ka3.call bW)) rfl).app (RowOf.one (ch_elk0 (kb0.call bW) (kb1.call bW) (kb2.call bW)) rfl)))
                have HKX := Lib.hid fun (W : World) (bW : Below w8.heap.size w8 W) => And.intro (ka4.call bW) (kb3.call bW)
                clear bn1 hrow hnl hnews hs8 ka0 ka1 ka2 ka3 ka4 kb0 kb1 kb2 kb3
                generalize (w8.alloc (.cells #[.int .i64 f.u0, .slice f.ga f.gn f.gc, .slice f.ca f.cn f.cc, .slice (some ⟨w8.heap.size + 1, 0, none⟩) 0 0, .slice f.a4 f.n4 f.c4, .slice f.a5 f.n5 f.c5, .slice f.a6 f.n6 f.c6, .slice f.a7 f.n7 f.c7, .slice f.a8 f.n8 f.c8] 31)).alloc (.cells #[] 44) = w10 at *
                generalize w8.heap.size = gf at *
                have hfl : f.ln ≤ 40 := by have := HFL.out; have := HSM.out.lks; omega
                have z3 : w10.cell? ⟨gf, 3, none⟩ = some (.slice (some ⟨gf + 1, 0, none⟩) 0 0) := kf.cell 3
                obtain ⟨y0, y1, y2, y3, y4, y5, y6, y7, y8, y9, y10, y11, y12⟩ := hs10.cells
                go_upto_region 12 with (at_builtin; refine appP elt_look rfl _ _ rfl _ (gf + 1) _ _ _ [] _ _ _ css.flatten (by rfl) (by rfl) oE HNL.out HNW.out HONE.out (by omega) HBS.out ?_; intro A11 c11 w11 o11 hg11 hb11 hat; have kf11 := kf.grown hg11 (by simp); have zz3 : w11.cell? ⟨gf, 3, none⟩ = some (.slice (some ⟨gf + 1, 0, none⟩) 0 0) := kf11.cell 3; have zzf := kf11.frozen 3)
                rw [Nat.zero_add] at o11
                replace o11 : Ow 44 3 w11 (gf + 1) A11 f.ln c11 css.flatten := o11
                have b12 : Below gf w8 (w11.setCell ⟨gf, 3, none⟩ (.slice A11 f.ln c11)) := (b10.trans (hb11.mono (Nat.le_succ gf))).setCell (p := ⟨gf, 3, none⟩) (Nat.le_refl gf) _
                have HNE := Lib.hid (show ∀ b o s, A11 = some ⟨b, o, s⟩ → gf < b from fun b o s e => (o11.lt b o s e).1)
                have o12 := o11.setOther (p := ⟨gf, 3, none⟩) (fun b e => by have := HNE.out b 0 none e; show b ≠ gf; omega) (.slice A11 f.ln c11)
                have kf12 : Bk (w11.setCell ⟨gf, 3, none⟩ (.slice A11 f.ln c11)) gf 31 #[.int .i64 f.u0, .slice f.ga f.gn f.gc, .slice f.ca f.cn f.cc, .slice A11 f.ln c11, .slice f.a4 f.n4 f.c4, .slice f.a5 f.n5 f.c5, .slice f.a6 f.n6 f.c6, .slice f.a7 f.n7 f.c7, .slice f.a8 f.n8 f.c8] := kf11.set_ 3 _
                have HBS2 := Lib.hid (show gf + 1 ≤ (w11.setCell ⟨gf, 3, none⟩ (.slice A11 f.ln c11)).heap.size from by have := kf12.lt; omega)
                clear y0 y1 y2 y3 y4 y5 y6 y7 y8 y9 y10 y11 y12 z3 zz3 zzf o11 kf kf11 hg11 hb11 hat oE HNL HNW HONE HBS b10 hs10
                generalize w11.setCell ⟨gf, 3, none⟩ (.slice A11 f.ln c11) = w12 at *
                obtain ⟨kx, ky⟩ := HKX.out w12 b12
                have z3 : w12.cell? ⟨gf, 3, none⟩ = some (.slice A11 f.ln c11) := kf12.cell 3
                have x0 : w12.cell? ⟨w2.heap.size + 1 + 1 + 1 + 1, 0, none⟩ = some (.int .i64 4) := kx.cell 0
                have x1 : w12.cell? ⟨w2.heap.size + 1 + 1 + 1 + 1, 1, none⟩ = some (.bool false) := kx.cell 1
                have x2 : w12.cell? ⟨w2.heap.size + 1 + 1 + 1 + 1, 2, none⟩ = some (.slice (some ⟨w2.heap.size + 1 + 1 + 1, 0, none⟩) 1 1) := kx.cell 2
                have v0 : w12.cell? ⟨w7.heap.size + 1 + 1 + 1, 0, none⟩ = some (.int .i64 4) := ky.cell 0
                have v1 : w12.cell? ⟨w7.heap.size + 1 + 1 + 1, 1, none⟩ = some (.bool false) := ky.cell 1
                have v2 : w12.cell? ⟨w7.heap.size + 1 + 1 + 1, 2, none⟩ = some (.slice (some ⟨w7.heap.size + 1 + 1, 0, none⟩) 1 1) := ky.cell 2
                have b13 : Below gf w8 (w12.alloc (.cells #[.int .i64 4, .bool false, .slice (some ⟨w2.heap.size + 1 + 1 + 1, 0, none⟩) 1 1, .int .i64 4, .bool false, .slice (some ⟨w7.heap.size + 1 + 1, 0, none⟩) 1 1] 44)) := b12.alloc (by have := HBS2.out; omega) _
                have o13 := o12.alloc (.cells #[.int .i64 4, .bool false, .slice (some ⟨w2.heap.size + 1 + 1 + 1, 0, none⟩) 1 1, .int .i64 4, .bool false, .slice (some ⟨w7.heap.size + 1 + 1, 0, none⟩) 1 1] 44)
                have kf13 := kf12.alloc (.cells #[.int .i64 4, .bool false, .slice (some ⟨w2.heap.size + 1 + 1 + 1, 0, none⟩) 1 1, .int .i64 4, .bool false, .slice (some ⟨w7.heap.size + 1 + 1, 0, none⟩) 1 1] 44)
                have hnw := (fun _ => news_new w12 [.int .i64 4, .bool false, .slice (some ⟨w2.heap.size + 1 + 1 + 1, 0, none⟩) 1 1, .int .i64 4, .bool false, .slice (some ⟨w7.heap.size + 1 + 1, 0, none⟩) 1 1] 44 (by omega) : 0 < 2 → _)
                have HBS3 := Lib.hid (show gf + 1 ≤ (w12.alloc (.cells #[.int .i64 4, .bool false, .slice (some ⟨w2.heap.size + 1 + 1 + 1, 0, none⟩) 1 1, .int .i64 4, .bool false, .slice (some ⟨w7.heap.size + 1 + 1, 0, none⟩) 1 1] 44)).heap.size from by have := HBS2.out; simp; omega)
                clear kx ky
                go_upto_region 13 with (at_builtin; refine appP elt_look rfl _ _ rfl (w12.alloc (.cells #[.int .i64 4, .bool false, .slice (some ⟨w2.heap.size + 1 + 1 + 1, 0, none⟩) 1 1, .int .i64 4, .bool false, .slice (some ⟨w7.heap.size + 1 + 1, 0, none⟩) 1 1] 44)) (gf + 1) _ _ _ _ _ _ _ [.int .i64 4, .bool false, .slice (some ⟨w2.heap.size + 1 + 1 + 1, 0, none⟩) 1 1, .int .i64 4, .bool false, .slice (some ⟨w7.heap.size + 1 + 1, 0, none⟩) 1 1] (by rfl) (by rfl) o13 rfl hnw (by simp [Value.oneCell']) (by omega) HBS3.out ?_; intro AL cL w14 o14 hg14 hb14 hat; have kf14 := kf13.grown hg14 (ne_row2 HNE.out); have zz3 : w14.cell? ⟨gf, 3, none⟩ = some (.slice A11 f.ln c11) := kf14.cell 3; have zzf := kf14.frozen 3)
                have e14 : css.flatten ++ ([.int .i64 4, .bool false, .slice (some ⟨w2.heap.size + 1 + 1 + 1, 0, none⟩) 1 1, .int .i64 4, .bool false, .slice (some ⟨w7.heap.size + 1 + 1, 0, none⟩) 1 1] : List Value) = (css ++ ([[.int .i64 4, .bool false, .slice (some ⟨w2.heap.size + 1 + 1 + 1, 0, none⟩) 1 1], [.int .i64 4, .bool false, .slice (some ⟨w7.heap.size + 1 + 1, 0, none⟩) 1 1]] : List (List Value))).flatten := by rw [List.flatten_append]; rfl
                rw [e14] at o14
                have bw14 : Below gf w8 (w14.setCell ⟨gf, 3, none⟩ (.slice AL (f.ln + 2) cL)) := (b13.trans (hb14.mono (Nat.le_succ gf))).setCell (p := ⟨gf, 3, none⟩) (Nat.le_refl gf) _
                have ow14 := o14.setOther (p := ⟨gf, 3, none⟩) (fun b e => by have := (o14.lt b 0 none e).1; show b ≠ gf; omega) (.slice AL (f.ln + 2) cL)
                have kfw14 : Bk (w14.setCell ⟨gf, 3, none⟩ (.slice AL (f.ln + 2) cL)) gf 31 #[.int .i64 f.u0, .slice f.ga f.gn f.gc, .slice f.ca f.cn f.cc, .slice AL (f.ln + 2) cL, .slice f.a4 f.n4 f.c4, .slice f.a5 f.n5 f.c5, .slice f.a6 f.n6 f.c6, .slice f.a7 f.n7 f.c7, .slice f.a8 f.n8 f.c8] := kf14.set_ 3 _
                clear z3 zz3 zzf x0 x1 x2 v0 v1 v2 o13 kf13 kf12 o12 b12 b13 hnw o14 hg14 hb14 hat kf14 e14 HBS2 HBS3 HKX
                generalize w14.setCell ⟨gf, 3, none⟩ (.slice AL (f.ln + 2) cL) = wu at *
                generalize hN : f.ln + 2 = N at *
                have hsu := HWS.out wu bw14
                have hfwu : IsF wu (lo wu.heap.size) ({ f with la := AL, ln := N, lc := cL } : FV) (callF F it.g (q : Int)) := font_own' hsu.hf (ow14.row (HRW.out wu bw14) (by omega)) ow14.hd
                have hw2 : IntKind.i64.wrap ((N : Int) - 2) = (f.ln : Int) := by rw [wrap_id (by omega) (by omega)]; omega
                have hw1 : IntKind.i64.wrap ((N : Int) - 1) = (f.ln : Int) + 1 := by rw [wrap_id (by omega) (by omega)]; omega
                have HN := Lib.hid hN
                have hrcp : ¬ rc = p := by have := hd.1; omega
                clear hN HWS HRW bw14 ow14
                have pr : (p : Int) ≤ (rn : Int) := by omega
                obtain ⟨y0, y1, y2, y3, y4, y5, y6, y7, y8, y9, y10, y11, y12⟩ := hsu.cells
                go_upto_region 14 with fail
                clear y0 y1 y2 y3 y4 y5 y6 y7 y8 y9 y10 y11 y12 pr
                have HCP : (1 : Int) ≤ ((rc - p : Nat) : Int) := by have := hd.1; omega
                generalize rc - p = rcp at *
                generalize rn - p = rnp at *
                have HAP := Lib.hid fun (W : World) (bW : Below wu.heap.size wu W) (x : Int) (A : Option Addr) (m c : Nat) (xs : List Itm) (GA : Option Addr) (gn gc : Nat) (gs : List Int) (hx : RdI W (lo W.heap.size) A m xs) (hm : m ≤ 300) (hg : Rd W (lo W.heap.size) GA gn gs) (hgn : gn ≤ 9223372036854775807) => apply_all ({ f with la := AL, ln := N, lc := cL } : FV) (callF F it.g (q : Int)) x A m c xs GA gn gc gs W (hfwu.call bW) hx hg hgn (by have := hx.len; omega) (callF_sm HSM.out.sm) (callF_o HSM.out.o)
                unfold FV.cells at HAP
                dsimp only at HAP
                have HS := Lib.hid fun (W : World) (bW : Below wu.heap.size wu W) => (show (W.cell? ⟨bf, 0, none⟩ = some (.int .i64 f.u0) ∧ W.cell? ⟨bf, 1, none⟩ = some (.slice f.ga f.gn f.gc) ∧ W.cell? ⟨bf, 2, none⟩ = some (.slice f.ca f.cn f.cc) ∧ W.cell? ⟨bf, 3, none⟩ = some (.slice f.la f.ln f.lc) ∧ W.cell? ⟨bf, 4, none⟩ = some (.slice f.a4 f.n4 f.c4) ∧ W.cell? ⟨bf, 5, none⟩ = some (.slice f.a5 f.n5 f.c5) ∧ W.cell? ⟨bf, 6, none⟩ = some (.slice f.a6 f.n6 f.c6) ∧ W.cell? ⟨bf, 7, none⟩ = some (.slice f.a7 f.n7 f.c7) ∧ W.cell? ⟨bf, 8, none⟩ = some (.slice f.a8 f.n8 f.c8) ∧ W.cell? ⟨bf, 9, none⟩ = some (.int .i64 (q : Int)) ∧ W.cell? ⟨bf, 10, none⟩ = some (.slice (some ⟨b, o, none⟩) rn rc) ∧ W.cell? ⟨bf, 11, none⟩ = some (.int .i64 (p : Int)) ∧ W.cell? ⟨bf, 12, none⟩ = some (.slice FA fn fc)) ∧ (W.cell? ⟨gf, 0, none⟩ = some (.int .i64 f.u0) ∧ W.cell? ⟨gf, 1, none⟩ = some (.slice f.ga f.gn f.gc) ∧ W.cell? ⟨gf, 2, none⟩ = some (.slice f.ca f.cn f.cc) ∧ W.cell? ⟨gf, 3, none⟩ = some (.slice AL N cL) ∧ W.cell? ⟨gf, 4, none⟩ = some (.slice f.a4 f.n4 f.c4) ∧ W.cell? ⟨gf, 5, none⟩ = some (.slice f.a5 f.n5 f.c5) ∧ W.cell? ⟨gf, 6, none⟩ = some (.slice f.a6 f.n6 f.c6) ∧ W.cell? ⟨gf, 7, none⟩ = some (.slice f.a7 f.n7 f.c7) ∧ W.cell? ⟨gf, 8, none⟩ = some (.slice f.a8 f.n8 f.c8)) from ⟨(hsu.call bW).cells, ⟨(kfw14.call bW).cell 0, (kfw14.call bW).cell 1, (kfw14.call bW).cell 2, (kfw14.call bW).cell 3, (kfw14.call bW).cell 4, (kfw14.call bW).cell 5, (kfw14.call bW).cell 6, (kfw14.call bW).cell 7, (kfw14.call bW).cell 8⟩⟩)
                have bb := Below.refl wu.heap.size wu
                have HCL := Lib.hid (show applyL w64 (callF F it.g (q : Int)) (f.ln : Int) [it] [] = applyL w64 (callF F it.g (q : Int)) (q : Int) [it] [] from by have h1 := ch_law (it := it) HLK.out HK.out.1 HK.out.2; rw [HFL.out] at h1; exact h1)
                have HCN := Lib.hid (show applyL w64 (callF F it.g (q : Int)) ((f.ln : Int) + 1) run forms = run from by have h1 := ch_none (F := F) (g := it.g) (q := (q : Int)) (run := run) (forms := forms); rw [HFL.out] at h1; exact h1)
                have HSB := Lib.hid fun (A : Option Addr) (m c B : Nat) (W : World) (o1 : Ow 51 6 W B A m c (itc run)) (h : RdI W (lo W.heap.size) (some ⟨b, o, none⟩) rn run) => (show Calls Try.prog 19 #[.slice A m c, .slice (some ⟨b, o, none⟩) rn rc] W (fun e w' => e = .returned (.bool true) ∧ Below W.heap.size W w') from by
                  have h1 := same_c A (some ⟨b, o, none⟩) m rn c rc run run W o1.rdI h (by have := o1.rdI.len; have := HRL.out; omega) (by omega)
                  rw [show decide (run = run) = true by simp] at h1
                  exact h1)
                refine wp_region_held_drew (S := fun w' => (w'.cell? ⟨bf, 0, none⟩ = some (.int .i64 f.u0) ∧ w'.cell? ⟨bf, 1, none⟩ = some (.slice f.ga f.gn f.gc) ∧ w'.cell? ⟨bf, 2, none⟩ = some (.slice f.ca f.cn f.cc) ∧ w'.cell? ⟨bf, 3, none⟩ = some (.slice f.la f.ln f.lc) ∧ w'.cell? ⟨bf, 4, none⟩ = some (.slice f.a4 f.n4 f.c4) ∧ w'.cell? ⟨bf, 5, none⟩ = some (.slice f.a5 f.n5 f.c5) ∧ w'.cell? ⟨bf, 6, none⟩ = some (.slice f.a6 f.n6 f.c6) ∧ w'.cell? ⟨bf, 7, none⟩ = some (.slice f.a7 f.n7 f.c7) ∧ w'.cell? ⟨bf, 8, none⟩ = some (.slice f.a8 f.n8 f.c8) ∧ w'.cell? ⟨bf, 9, none⟩ = some (.int .i64 (q : Int)) ∧ w'.cell? ⟨bf, 10, none⟩ = some (.slice (some ⟨b, o, none⟩) rn rc) ∧ w'.cell? ⟨bf, 11, none⟩ = some (.int .i64 (p : Int)) ∧ w'.cell? ⟨bf, 12, none⟩ = some (.slice FA fn fc)) ∧ (w'.cell? ⟨gf, 0, none⟩ = some (.int .i64 f.u0) ∧ w'.cell? ⟨gf, 1, none⟩ = some (.slice f.ga f.gn f.gc) ∧ w'.cell? ⟨gf, 2, none⟩ = some (.slice f.ca f.cn f.cc) ∧ w'.cell? ⟨gf, 3, none⟩ = some (.slice AL N cL) ∧ w'.cell? ⟨gf, 4, none⟩ = some (.slice f.a4 f.n4 f.c4) ∧ w'.cell? ⟨gf, 5, none⟩ = some (.slice f.a5 f.n5 f.c5) ∧ w'.cell? ⟨gf, 6, none⟩ = some (.slice f.a6 f.n6 f.c6) ∧ w'.cell? ⟨gf, 7, none⟩ = some (.slice f.a7 f.n7 f.c7) ∧ w'.cell? ⟨gf, 8, none⟩ = some (.slice f.a8 f.n8 f.c8))) (by kernel_rfl) ?_ (fun hHeld => ?_)
                · exact HS.out _ (below_drewN bb 1)
                replace bb := below_drewN bb 1
                change Below _ _ wu.drew at bb
                generalize hw0 : wu.drew = W0 at hHeld bb ⊢
                clear hw0
                refine wpAnyH_take (i := 0) (v := ?_) (by simp only [List.getElem?_toArray]; rfl) (by kernel_rfl) (by kernel_rfl) (by kernel_rfl) (by exact fun _ _ _ h => h) (Or.inl ⟨by rfl, ?_⟩) (by assumption) ?_
                rotate_left 1
                · intro w hSw; (try dsimp only at hSw); go_simp; try with_reducible rfl
                try conv => arg 8; simp only [Act.put, List.setIfInBounds_toArray, List.set_cons_zero, List.set_cons_succ]
                refine wpAnyH_take (i := 1) (v := ?_) (by simp only [List.getElem?_toArray]; rfl) (by kernel_rfl) (by kernel_rfl) (by kernel_rfl) (by exact fun _ _ _ h => h) (Or.inl ⟨by rfl, ?_⟩) (by assumption) ?_
                rotate_left 1
                · intro w hSw; (try dsimp only at hSw); go_simp; try with_reducible rfl
                try conv => arg 8; simp only [Act.put, List.setIfInBounds_toArray, List.set_cons_zero, List.set_cons_succ]
                refine wpAnyH_take (i := 2) (v := ?_) (by simp only [List.getElem?_toArray]; rfl) (by kernel_rfl) (by kernel_rfl) (by kernel_rfl) (by exact fun _ _ _ h => h) (Or.inl ⟨by rfl, ?_⟩) (by assumption) ?_
                rotate_left 1
                · intro w hSw; (try dsimp only at hSw); go_simp; try with_reducible rfl
                try conv => arg 8; simp only [Act.put, List.setIfInBounds_toArray, List.set_cons_zero, List.set_cons_succ]
                refine wpAnyH_take (i := 3) (v := ?_) (by simp only [List.getElem?_toArray]; rfl) (by kernel_rfl) (by kernel_rfl) (by kernel_rfl) (by exact fun _ _ _ h => h) (Or.inl ⟨by rfl, ?_⟩) (by assumption) ?_
                rotate_left 1
                · intro w hSw; (try dsimp only at hSw); go_simp; try with_reducible rfl
                try conv => arg 8; simp only [Act.put, List.setIfInBounds_toArray, List.set_cons_zero, List.set_cons_succ]
                refine wpAnyH_take (i := 4) (v := ?_) (by simp only [List.getElem?_toArray]; rfl) (by kernel_rfl) (by kernel_rfl) (by kernel_rfl) (by exact fun _ _ _ h => h) (Or.inl ⟨by rfl, ?_⟩) (by assumption) ?_
                rotate_left 1
                · intro w hSw; (try dsimp only at hSw); go_simp; try with_reducible rfl
                try conv => arg 8; simp only [Act.put, List.setIfInBounds_toArray, List.set_cons_zero, List.set_cons_succ]
                refine wpAnyH_take (i := 5) (v := ?_) (by simp only [List.getElem?_toArray]; rfl) (by kernel_rfl) (by kernel_rfl) (by kernel_rfl) (by exact fun _ _ _ h => h) (Or.inl ⟨by rfl, ?_⟩) (by assumption) ?_
                rotate_left 1
                · intro w hSw; (try dsimp only at hSw); go_simp; try with_reducible rfl
                try conv => arg 8; simp only [Act.put, List.setIfInBounds_toArray, List.set_cons_zero, List.set_cons_succ]
                refine wpAnyH_take (i := 6) (v := ?_) (by simp only [List.getElem?_toArray]; rfl) (by kernel_rfl) (by kernel_rfl) (by kernel_rfl) (by exact fun _ _ _ h => h) (Or.inl ⟨by rfl, ?_⟩) (by assumption) ?_
                rotate_left 1
                · intro w hSw; (try dsimp only at hSw); go_simp; try with_reducible rfl
                try conv => arg 8; simp only [Act.put, List.setIfInBounds_toArray, List.set_cons_zero, List.set_cons_succ]
                refine wpAnyH_ready (rs := [7]) (by kernel_rfl) (by simp) ?_
                refine AllReadyH.cons (by simp only [List.getElem?_toArray]; rfl) (fun K hK => ?_) AllReadyH.nil
                refine wanted_pos (by kernel_rfl) ?_
                go_simp
                clear hHeld
                go_at_call 18
                (with_reducible refine (HAP.out W0 bb _ _ 1 _ [it] _ 0 _ [] (run_one (hsu.call bb).hI HIT.out) (by omega) rd_nil' (by omega)).mono ?_)
                rintro e W1 ⟨A5, n5, c5, rfl, o5, bn⟩
                go_wp2_with fail
                refine hK.out _ _ ?_ (fun hHeld => ?_)
                · exact HS.out _ (bb.trans (bn.mono bb.size))
                clear hK K
                try conv => arg 8; simp only [Act.put, List.setIfInBounds_toArray, List.set_cons_zero, List.set_cons_succ]
                replace bb := bb.trans (bn.mono bb.size)
                clear bn
                refine wpAnyH_take (i := 8) (v := ?_) (by simp only [List.getElem?_toArray]; rfl) (by kernel_rfl) (by kernel_rfl) (by kernel_rfl) (by exact fun _ _ _ h => h) (Or.inl ⟨by rfl, ?_⟩) (by assumption) ?_
                rotate_left 1
                · intro w hSw; (try dsimp only at hSw); go_simp; try with_reducible rfl
                try conv => arg 8; simp only [Act.put, List.setIfInBounds_toArray, List.set_cons_zero, List.set_cons_succ]
                refine wpAnyH_done (by kernel_rfl) ?_ _
                clear hHeld
                have q5 := o5.rdI
                have HL5 := Lib.hid (show n5 ≤ 500 by have h1 := q5.len; have h2 := apply_len w64 (callF F it.g (q : Int)) (f.ln : Int) [it] []; simp at h2; omega)
                rw [HCL.out] at q5
                clear o5
                go_wp2
                refine wp_region_held_drew (S := fun w' => (w'.cell? ⟨bf, 0, none⟩ = some (.int .i64 f.u0) ∧ w'.cell? ⟨bf, 1, none⟩ = some (.slice f.ga f.gn f.gc) ∧ w'.cell? ⟨bf, 2, none⟩ = some (.slice f.ca f.cn f.cc) ∧ w'.cell? ⟨bf, 3, none⟩ = some (.slice f.la f.ln f.lc) ∧ w'.cell? ⟨bf, 4, none⟩ = some (.slice f.a4 f.n4 f.c4) ∧ w'.cell? ⟨bf, 5, none⟩ = some (.slice f.a5 f.n5 f.c5) ∧ w'.cell? ⟨bf, 6, none⟩ = some (.slice f.a6 f.n6 f.c6) ∧ w'.cell? ⟨bf, 7, none⟩ = some (.slice f.a7 f.n7 f.c7) ∧ w'.cell? ⟨bf, 8, none⟩ = some (.slice f.a8 f.n8 f.c8) ∧ w'.cell? ⟨bf, 9, none⟩ = some (.int .i64 (q : Int)) ∧ w'.cell? ⟨bf, 10, none⟩ = some (.slice (some ⟨b, o, none⟩) rn rc) ∧ w'.cell? ⟨bf, 11, none⟩ = some (.int .i64 (p : Int)) ∧ w'.cell? ⟨bf, 12, none⟩ = some (.slice FA fn fc)) ∧ (w'.cell? ⟨gf, 0, none⟩ = some (.int .i64 f.u0) ∧ w'.cell? ⟨gf, 1, none⟩ = some (.slice f.ga f.gn f.gc) ∧ w'.cell? ⟨gf, 2, none⟩ = some (.slice f.ca f.cn f.cc) ∧ w'.cell? ⟨gf, 3, none⟩ = some (.slice AL N cL) ∧ w'.cell? ⟨gf, 4, none⟩ = some (.slice f.a4 f.n4 f.c4) ∧ w'.cell? ⟨gf, 5, none⟩ = some (.slice f.a5 f.n5 f.c5) ∧ w'.cell? ⟨gf, 6, none⟩ = some (.slice f.a6 f.n6 f.c6) ∧ w'.cell? ⟨gf, 7, none⟩ = some (.slice f.a7 f.n7 f.c7) ∧ w'.cell? ⟨gf, 8, none⟩ = some (.slice f.a8 f.n8 f.c8))) (by kernel_rfl) ?_ (fun hHeld => ?_)
                · exact HS.out _ (below_drewN bb 1)
                replace bb := below_drewN bb 1
                change Below _ _ W1.drew at bb
                replace q5 := q5.call (below_drewN (Below.refl W1.heap.size W1) 1)
                change RdI W1.drew (lo W1.drew.heap.size) _ _ _ at q5
                generalize hw0 : W1.drew = W0 at q5 hHeld bb ⊢
                clear hw0
                refine wpAnyH_take (i := 0) (v := ?_) (by simp only [List.getElem?_toArray]; rfl) (by kernel_rfl) (by kernel_rfl) (by kernel_rfl) (by exact fun _ _ _ h => h) (Or.inl ⟨by rfl, ?_⟩) (by assumption) ?_
                rotate_left 1
                · intro w hSw; (try dsimp only at hSw); go_simp; try with_reducible rfl
                try conv => arg 8; simp only [Act.put, List.setIfInBounds_toArray, List.set_cons_zero, List.set_cons_succ]
                refine wpAnyH_take (i := 1) (v := ?_) (by simp only [List.getElem?_toArray]; rfl) (by kernel_rfl) (by kernel_rfl) (by kernel_rfl) (by exact fun _ _ _ h => h) (Or.inl ⟨by rfl, ?_⟩) (by assumption) ?_
                rotate_left 1
                · intro w hSw; (try dsimp only at hSw); go_simp; try with_reducible rfl
                try conv => arg 8; simp only [Act.put, List.setIfInBounds_toArray, List.set_cons_zero, List.set_cons_succ]
                refine wpAnyH_take (i := 2) (v := ?_) (by simp only [List.getElem?_toArray]; rfl) (by kernel_rfl) (by kernel_rfl) (by kernel_rfl) (by exact fun _ _ _ h => h) (Or.inl ⟨by rfl, ?_⟩) (by assumption) ?_
                rotate_left 1
                · intro w hSw; (try dsimp only at hSw); go_simp; try with_reducible rfl
                try conv => arg 8; simp only [Act.put, List.setIfInBounds_toArray, List.set_cons_zero, List.set_cons_succ]
                refine wpAnyH_take (i := 3) (v := ?_) (by simp only [List.getElem?_toArray]; rfl) (by kernel_rfl) (by kernel_rfl) (by kernel_rfl) (by exact fun _ _ _ h => h) (Or.inl ⟨by rfl, ?_⟩) (by assumption) ?_
                rotate_left 1
                · intro w hSw; (try dsimp only at hSw); go_simp; try with_reducible rfl
                try conv => arg 8; simp only [Act.put, List.setIfInBounds_toArray, List.set_cons_zero, List.set_cons_succ]
                refine wpAnyH_take (i := 4) (v := ?_) (by simp only [List.getElem?_toArray]; rfl) (by kernel_rfl) (by kernel_rfl) (by kernel_rfl) (by exact fun _ _ _ h => h) (Or.inl ⟨by rfl, ?_⟩) (by assumption) ?_
                rotate_left 1
                · intro w hSw; (try dsimp only at hSw); go_simp; try with_reducible rfl
                try conv => arg 8; simp only [Act.put, List.setIfInBounds_toArray, List.set_cons_zero, List.set_cons_succ]
                refine wpAnyH_ready (rs := [5]) (by kernel_rfl) (by simp) ?_
                refine AllReadyH.cons (by simp only [List.getElem?_toArray]; rfl) (fun K hK => ?_) AllReadyH.nil
                refine wanted_pos (by kernel_rfl) ?_
                go_simp
                clear hHeld
                go_at_call 18
                (with_reducible refine (HAP.out W0 bb _ _ 1 _ [it] _ 0 _ [] (run_one (hsu.call bb).hI HIT.out) (by omega) rd_nil' (by omega)).mono ?_)
                rintro e W2 ⟨A6, n6, c6, rfl, o6, bn⟩
                go_wp2_with fail
                refine hK.out _ _ ?_ (fun hHeld => ?_)
                · exact HS.out _ (bb.trans (bn.mono bb.size))
                clear hK K
                try conv => arg 8; simp only [Act.put, List.setIfInBounds_toArray, List.set_cons_zero, List.set_cons_succ]
                replace q5 := q5.call bn
                replace bb := bb.trans (bn.mono bb.size)
                clear bn
                refine wpAnyH_take (i := 6) (v := ?_) (by simp only [List.getElem?_toArray]; rfl) (by kernel_rfl) (by kernel_rfl) (by kernel_rfl) (by exact fun _ _ _ h => h) (Or.inl ⟨by rfl, ?_⟩) (by assumption) ?_
                rotate_left 1
                · intro w hSw; (try dsimp only at hSw); go_simp; try with_reducible rfl
                try conv => arg 8; simp only [Act.put, List.setIfInBounds_toArray, List.set_cons_zero, List.set_cons_succ]
                refine wpAnyH_done (by kernel_rfl) ?_ _
                clear hHeld
                have q6 := o6.rdI
                have HL6 := Lib.hid (show n6 ≤ 500 by have h1 := q6.len; have h2 := apply_len w64 (callF F it.g (q : Int)) (q : Int) [it] []; simp at h2; omega)
                clear o6
                have HSA := Lib.hid fun (W : World) (h5 : RdI W (lo W.heap.size) A5 n5 (applyL w64 (callF F it.g (q : Int)) (q : Int) [it] [])) (h6 : RdI W (lo W.heap.size) A6 n6 (applyL w64 (callF F it.g (q : Int)) (q : Int) [it] [])) => (show Calls Try.prog 19 #[.slice A5 n5 c5, .slice A6 n6 c6] W (fun e w' => e = .returned (.bool true) ∧ Below W.heap.size W w') from by
                  have h1 := same_c A5 A6 n5 n6 c5 c6 _ _ W h5 h6 (by have := HL5.out; omega) (by have := HL6.out; omega)
                  rw [show decide (applyL w64 (callF F it.g (q : Int)) (q : Int) [it] [] = applyL w64 (callF F it.g (q : Int)) (q : Int) [it] []) = true by simp] at h1
                  exact h1)
                go_wp2
                refine wp_region_held_drew (S := fun w' => (w'.cell? ⟨bf, 0, none⟩ = some (.int .i64 f.u0) ∧ w'.cell? ⟨bf, 1, none⟩ = some (.slice f.ga f.gn f.gc) ∧ w'.cell? ⟨bf, 2, none⟩ = some (.slice f.ca f.cn f.cc) ∧ w'.cell? ⟨bf, 3, none⟩ = some (.slice f.la f.ln f.lc) ∧ w'.cell? ⟨bf, 4, none⟩ = some (.slice f.a4 f.n4 f.c4) ∧ w'.cell? ⟨bf, 5, none⟩ = some (.slice f.a5 f.n5 f.c5) ∧ w'.cell? ⟨bf, 6, none⟩ = some (.slice f.a6 f.n6 f.c6) ∧ w'.cell? ⟨bf, 7, none⟩ = some (.slice f.a7 f.n7 f.c7) ∧ w'.cell? ⟨bf, 8, none⟩ = some (.slice f.a8 f.n8 f.c8) ∧ w'.cell? ⟨bf, 9, none⟩ = some (.int .i64 (q : Int)) ∧ w'.cell? ⟨bf, 10, none⟩ = some (.slice (some ⟨b, o, none⟩) rn rc) ∧ w'.cell? ⟨bf, 11, none⟩ = some (.int .i64 (p : Int)) ∧ w'.cell? ⟨bf, 12, none⟩ = some (.slice FA fn fc)) ∧ (w'.cell? ⟨gf, 0, none⟩ = some (.int .i64 f.u0) ∧ w'.cell? ⟨gf, 1, none⟩ = some (.slice f.ga f.gn f.gc) ∧ w'.cell? ⟨gf, 2, none⟩ = some (.slice f.ca f.cn f.cc) ∧ w'.cell? ⟨gf, 3, none⟩ = some (.slice AL N cL) ∧ w'.cell? ⟨gf, 4, none⟩ = some (.slice f.a4 f.n4 f.c4) ∧ w'.cell? ⟨gf, 5, none⟩ = some (.slice f.a5 f.n5 f.c5) ∧ w'.cell? ⟨gf, 6, none⟩ = some (.slice f.a6 f.n6 f.c6) ∧ w'.cell? ⟨gf, 7, none⟩ = some (.slice f.a7 f.n7 f.c7) ∧ w'.cell? ⟨gf, 8, none⟩ = some (.slice f.a8 f.n8 f.c8))) (by kernel_rfl) ?_ (fun hHeld => ?_)
                · exact HS.out _ (below_drewN bb 1)
                replace bb := below_drewN bb 1
                change Below _ _ W2.drew at bb
                replace q5 := q5.call (below_drewN (Below.refl W2.heap.size W2) 1)
                change RdI W2.drew (lo W2.drew.heap.size) _ _ _ at q5
                replace q6 := q6.call (below_drewN (Below.refl W2.heap.size W2) 1)
                change RdI W2.drew (lo W2.drew.heap.size) _ _ _ at q6
                generalize hw0 : W2.drew = W0 at q5 q6 hHeld bb ⊢
                clear hw0
                refine wpAnyH_ready (rs := [0]) (by kernel_rfl) (by simp) ?_
                refine AllReadyH.cons (by simp only [List.getElem?_toArray]; rfl) (fun K hK => ?_) AllReadyH.nil
                refine wanted_pos (by kernel_rfl) ?_
                go_simp
                clear hHeld
                go_at_call 17
                (with_reducible refine (ruled_c W0).mono ?_)
                rintro e W1 ⟨rfl, bn⟩
                go_wp2_with fail
                refine hK.out _ _ ?_ (fun hHeld => ?_)
                · exact HS.out _ (bb.trans (bn.mono bb.size))
                clear hK K
                try conv => arg 8; simp only [Act.put, List.setIfInBounds_toArray, List.set_cons_zero, List.set_cons_succ]
                replace q5 := q5.call bn
                replace q6 := q6.call bn
                replace bb := bb.trans (bn.mono bb.size)
                clear bn
                refine wpAnyH_take (i := 1) (v := ?_) (by simp only [List.getElem?_toArray]; rfl) (by kernel_rfl) (by kernel_rfl) (by kernel_rfl) (by exact fun _ _ _ h => h) (Or.inl ⟨by rfl, ?_⟩) (by assumption) ?_
                rotate_left 1
                · intro w hSw; (try dsimp only at hSw); go_simp; try with_reducible rfl
                try conv => arg 8; simp only [Act.put, List.setIfInBounds_toArray, List.set_cons_zero, List.set_cons_succ]
                refine wpAnyH_take (i := 2) (v := ?_) (by simp only [List.getElem?_toArray]; rfl) (by kernel_rfl) (by kernel_rfl) (by kernel_rfl) (by exact fun _ _ _ h => h) (Or.inl ⟨by rfl, ?_⟩) (by assumption) ?_
                rotate_left 1
                · intro w hSw; (try dsimp only at hSw); go_simp; try with_reducible rfl
                try conv => arg 8; simp only [Act.put, List.setIfInBounds_toArray, List.set_cons_zero, List.set_cons_succ]
                refine wpAnyH_take (i := 3) (v := ?_) (by simp only [List.getElem?_toArray]; rfl) (by kernel_rfl) (by kernel_rfl) (by kernel_rfl) (by exact fun _ _ _ h => h) (Or.inl ⟨by rfl, ?_⟩) (by assumption) ?_
                rotate_left 1
                · intro w hSw; (try dsimp only at hSw); go_simp; try with_reducible rfl
                try conv => arg 8; simp only [Act.put, List.setIfInBounds_toArray, List.set_cons_zero, List.set_cons_succ]
                refine wpAnyH_ready (rs := [4]) (by kernel_rfl) (by simp) ?_
                refine AllReadyH.cons (by simp only [List.getElem?_toArray]; rfl) (fun K hK => ?_) AllReadyH.nil
                refine wanted_pos (by kernel_rfl) ?_
                go_simp
                clear hHeld
                go_at_call 19
                (with_reducible refine (HSA.out W1 q5 q6).mono ?_)
                rintro e W2 ⟨rfl, bn⟩
                go_wp2_with fail
                refine hK.out _ _ ?_ (fun hHeld => ?_)
                · exact HS.out _ (bb.trans (bn.mono bb.size))
                clear hK K
                try conv => arg 8; simp only [Act.put, List.setIfInBounds_toArray, List.set_cons_zero, List.set_cons_succ]
                replace bb := bb.trans (bn.mono bb.size)
                clear bn q5 q6
                refine wpAnyH_take (i := 5) (v := ?_) (by simp only [List.getElem?_toArray]; rfl) (by kernel_rfl) (by kernel_rfl) (by kernel_rfl) (by exact fun _ _ _ h => h) (Or.inl ⟨by rfl, ?_⟩) (by assumption) ?_
                rotate_left 1
                · intro w hSw; (try dsimp only at hSw); go_simp; try with_reducible rfl
                try conv => arg 8; simp only [Act.put, List.setIfInBounds_toArray, List.set_cons_zero, List.set_cons_succ]
                refine wpAnyH_take (i := 6) (v := ?_) (by simp only [List.getElem?_toArray]; rfl) (by kernel_rfl) (by kernel_rfl) (by kernel_rfl) (by exact fun _ _ _ h => h) (Or.inl ⟨by rfl, ?_⟩) (by assumption) ?_
                rotate_left 1
                · intro w hSw; (try dsimp only at hSw); go_simp; try with_reducible rfl
                try conv => arg 8; simp only [Act.put, List.setIfInBounds_toArray, List.set_cons_zero, List.set_cons_succ]
                refine wpAnyH_take (i := 7) (v := ?_) (by simp only [List.getElem?_toArray]; rfl) (by kernel_rfl) (by kernel_rfl) (by kernel_rfl) (by exact fun _ _ _ h => h) (Or.inl ⟨by rfl, ?_⟩) (by assumption) ?_
                rotate_left 1
                · intro w hSw; (try dsimp only at hSw); go_simp; try with_reducible rfl
                try conv => arg 8; simp only [Act.put, List.setIfInBounds_toArray, List.set_cons_zero, List.set_cons_succ]
                refine wpAnyH_take (i := 8) (v := ?_) (by simp only [List.getElem?_toArray]; rfl) (by kernel_rfl) (by kernel_rfl) (by kernel_rfl) (by exact fun _ _ _ h => h) (Or.inl ⟨by rfl, ?_⟩) (by assumption) ?_
                rotate_left 1
                · intro w hSw; (try dsimp only at hSw); go_simp; try with_reducible rfl
                try conv => arg 8; simp only [Act.put, List.setIfInBounds_toArray, List.set_cons_zero, List.set_cons_succ]
                refine wpAnyH_take (i := 9) (v := ?_) (by simp only [List.getElem?_toArray]; rfl) (by kernel_rfl) (by kernel_rfl) (by kernel_rfl) (by exact fun _ _ _ h => h) (Or.inl ⟨by rfl, ?_⟩) (by assumption) ?_
                rotate_left 1
                · intro w hSw; (try dsimp only at hSw); go_simp; try with_reducible rfl
                try conv => arg 8; simp only [Act.put, List.setIfInBounds_toArray, List.set_cons_zero, List.set_cons_succ]
                refine wpAnyH_take (i := 10) (v := ?_) (by simp only [List.getElem?_toArray]; rfl) (by kernel_rfl) (by kernel_rfl) (by kernel_rfl) (by exact fun _ _ _ h => h) (Or.inl ⟨by rfl, ?_⟩) (by assumption) ?_
                rotate_left 1
                · intro w hSw; (try dsimp only at hSw); go_simp; try with_reducible rfl
                try conv => arg 8; simp only [Act.put, List.setIfInBounds_toArray, List.set_cons_zero, List.set_cons_succ]
                refine wpAnyH_take (i := 11) (v := ?_) (by simp only [List.getElem?_toArray]; rfl) (by kernel_rfl) (by kernel_rfl) (by kernel_rfl) (by exact fun _ _ _ h => h) (Or.inl ⟨by rfl, ?_⟩) (by assumption) ?_
                rotate_left 1
                · intro w hSw; (try dsimp only at hSw); go_simp; try with_reducible rfl
                try conv => arg 8; simp only [Act.put, List.setIfInBounds_toArray, List.set_cons_zero, List.set_cons_succ]
                refine wpAnyH_take (i := 12) (v := ?_) (by simp only [List.getElem?_toArray]; rfl) (by kernel_rfl) (by kernel_rfl) (by kernel_rfl) (by exact fun _ _ _ h => h) (Or.inl ⟨by rfl, ?_⟩) (by assumption) ?_
                rotate_left 1
                · intro w hSw; (try dsimp only at hSw); go_simp; try with_reducible rfl
                try conv => arg 8; simp only [Act.put, List.setIfInBounds_toArray, List.set_cons_zero, List.set_cons_succ]
                refine wpAnyH_take (i := 13) (v := ?_) (by simp only [List.getElem?_toArray]; rfl) (by kernel_rfl) (by kernel_rfl) (by kernel_rfl) (by exact fun _ _ _ h => h) (Or.inl ⟨by rfl, ?_⟩) (by assumption) ?_
                rotate_left 1
                · intro w hSw; (try dsimp only at hSw); go_simp; try with_reducible rfl
                try conv => arg 8; simp only [Act.put, List.setIfInBounds_toArray, List.set_cons_zero, List.set_cons_succ]
                refine wpAnyH_take (i := 14) (v := ?_) (by simp only [List.getElem?_toArray]; rfl) (by kernel_rfl) (by kernel_rfl) (by kernel_rfl) (by exact fun _ _ _ h => h) (Or.inl ⟨by rfl, ?_⟩) (by assumption) ?_
                rotate_left 1
                · intro w hSw; (try dsimp only at hSw); go_simp; try with_reducible rfl
                try conv => arg 8; simp only [Act.put, List.setIfInBounds_toArray, List.set_cons_zero, List.set_cons_succ]
                refine wpAnyH_take (i := 15) (v := ?_) (by simp only [List.getElem?_toArray]; rfl) (by kernel_rfl) (by kernel_rfl) (by kernel_rfl) (by exact fun _ _ _ h => h) (Or.inl ⟨by rfl, ?_⟩) (by assumption) ?_
                rotate_left 1
                · intro w hSw; (try dsimp only at hSw); go_simp; try with_reducible rfl
                try conv => arg 8; simp only [Act.put, List.setIfInBounds_toArray, List.set_cons_zero, List.set_cons_succ]
                refine wpAnyH_take (i := 17) (v := ?_) (by simp only [List.getElem?_toArray]; rfl) (by kernel_rfl) (by kernel_rfl) (by kernel_rfl) (by exact fun _ _ _ h => h) (Or.inl ⟨by rfl, ?_⟩) (by assumption) ?_
                rotate_left 1
                · intro w hSw; (try dsimp only at hSw); go_simp; try with_reducible rfl
                try conv => arg 8; simp only [Act.put, List.setIfInBounds_toArray, List.set_cons_zero, List.set_cons_succ]
                refine wpAnyH_take (i := 18) (v := ?_) (by simp only [List.getElem?_toArray]; rfl) (by kernel_rfl) (by kernel_rfl) (by kernel_rfl) (by exact fun _ _ _ h => h) (Or.inl ⟨by rfl, ?_⟩) (by assumption) ?_
                rotate_left 1
                · intro w hSw; (try dsimp only at hSw); go_simp; try with_reducible rfl
                try conv => arg 8; simp only [Act.put, List.setIfInBounds_toArray, List.set_cons_zero, List.set_cons_succ]
                refine wpAnyH_ready (rs := [16]) (by kernel_rfl) (by simp) ?_
                refine AllReadyH.cons (by simp only [List.getElem?_toArray]; rfl) (fun K hK => ?_) AllReadyH.nil
                refine wanted_pos (by kernel_rfl) ?_
                go_simp
                clear hHeld
                go_at_call 18
                (with_reducible refine (HAP.out W2 bb _ _ rn _ run _ _ _ forms (hsu.call bb).hI hrn (hsu.call bb).hF hfnM).mono ?_)
                rintro e W3 ⟨A9, n9, c9, rfl, o9, bn⟩
                go_wp2_with fail
                refine hK.out _ _ ?_ (fun hHeld => ?_)
                · exact HS.out _ (bb.trans (bn.mono bb.size))
                clear hK K
                try conv => arg 8; simp only [Act.put, List.setIfInBounds_toArray, List.set_cons_zero, List.set_cons_succ]
                rw [HCN.out] at o9
                replace bb := bb.trans (bn.mono bb.size)
                clear bn
                refine wpAnyH_ready (rs := [19]) (by kernel_rfl) (by simp) ?_
                refine AllReadyH.cons (by simp only [List.getElem?_toArray]; rfl) (fun K hK => ?_) AllReadyH.nil
                refine wanted_pos (by kernel_rfl) ?_
                go_simp
                clear hHeld
                go_at_call 19
                (with_reducible refine (HSB.out A9 n9 c9 _ W3 o9 (hsu.call bb).hI).mono ?_)
                rintro e W4 ⟨rfl, bn⟩
                go_wp2_with fail
                refine hK.out _ _ ?_ (fun hHeld => ?_)
                · exact HS.out _ (bb.trans (bn.mono bb.size))
                clear hK K
                try conv => arg 8; simp only [Act.put, List.setIfInBounds_toArray, List.set_cons_zero, List.set_cons_succ]
                replace bb := bb.trans (bn.mono bb.size)
                clear bn o9
                refine wpAnyH_take (i := 20) (v := ?_) (by simp only [List.getElem?_toArray]; rfl) (by kernel_rfl) (by kernel_rfl) (by kernel_rfl) (by exact fun _ _ _ h => h) (Or.inl ⟨by rfl, ?_⟩) (by assumption) ?_
                rotate_left 1
                · intro w hSw; (try dsimp only at hSw); go_simp; try with_reducible rfl
                try conv => arg 8; simp only [Act.put, List.setIfInBounds_toArray, List.set_cons_zero, List.set_cons_succ]
                refine wpAnyH_take (i := 21) (v := ?_) (by simp only [List.getElem?_toArray]; rfl) (by kernel_rfl) (by kernel_rfl) (by kernel_rfl) (by exact fun _ _ _ h => h) (Or.inl ⟨by rfl, ?_⟩) (by assumption) ?_
                rotate_left 1
                · intro w hSw; (try dsimp only at hSw); go_simp; try with_reducible rfl
                try conv => arg 8; simp only [Act.put, List.setIfInBounds_toArray, List.set_cons_zero, List.set_cons_succ]
                refine wpAnyH_done (by kernel_rfl) ?_ _
                go_wp2
                go_ret
                exact ⟨rfl, (hsu.call bb).bw⟩

end Go.Proofs.Ytkoocipagndclaa
