/- Walks: Apply. -/
import Derived.Test.YtkoocipagndclaaW18
import Derived.Deep.MidRow
namespace Go.Proofs.Ytkoocipagndclaa
open Go.RowKit Go.Shelf
attribute [local go_sem ↓] Go.wp_at_zero Go.wp_at_succ

/-- What 'backwards' is to do. -/
def BwOK (f : FV) (F : Fnt) (k : Nat) (lk : Lk) : Prop := ∀ (B Bw Bm : Nat) (W : World) (RA : Option Addr) (rn rc : Nat) (run : List Itm) (FA : Option Addr) (fn fc : Nat) (forms : List Int), WS B W Bw Bm f F RA rn rc run → Rd W (lo B) FA fn forms → fn ≤ 9223372036854775807 → run.length ≤ 1000 →
  Calls Try.prog 34 #[.pointer (some ⟨Bw, 0, none⟩), .int .i64 (k : Int), .slice FA fn fc] W (DPost B Bw Bm f F W (bwL w64 F lk forms run.length run))
/-- What is asked of a lookup, for Apply. -/
def ApOK (f : FV) (F : Fnt) (k : Nat) (lk : Lk) : Prop := 1 ≤ lk.kind → lk.kind ≤ 6 → (lk.kind = 5 → BwOK f F k lk) ∧ (lk.kind ≠ 5 → (∀ B Bw Bm, DoOK B Bw Bm f F k lk 0) ∧ LenOK F lk)

theorem keepB {w W0 w1 : World} {f : FV} (hlt : w.heap.size < W0.heap.size) (z : W0.cell? ⟨w.heap.size, 0, none⟩ = some (.int .i64 f.u0) ∧ W0.cell? ⟨w.heap.size, 1, none⟩ = some (.slice f.ga f.gn f.gc) ∧ W0.cell? ⟨w.heap.size, 2, none⟩ = some (.slice f.ca f.cn f.cc) ∧ W0.cell? ⟨w.heap.size, 3, none⟩ = some (.slice f.la f.ln f.lc) ∧ W0.cell? ⟨w.heap.size, 4, none⟩ = some (.slice f.a4 f.n4 f.c4) ∧ W0.cell? ⟨w.heap.size, 5, none⟩ = some (.slice f.a5 f.n5 f.c5) ∧ W0.cell? ⟨w.heap.size, 6, none⟩ = some (.slice f.a6 f.n6 f.c6) ∧ W0.cell? ⟨w.heap.size, 7, none⟩ = some (.slice f.a7 f.n7 f.c7) ∧ W0.cell? ⟨w.heap.size, 8, none⟩ = some (.slice f.a8 f.n8 f.c8)) (hb : Below W0.heap.size W0 w1) : w1.cell? ⟨w.heap.size, 0, none⟩ = some (.int .i64 f.u0) ∧ w1.cell? ⟨w.heap.size, 1, none⟩ = some (.slice f.ga f.gn f.gc) ∧ w1.cell? ⟨w.heap.size, 2, none⟩ = some (.slice f.ca f.cn f.cc) ∧ w1.cell? ⟨w.heap.size, 3, none⟩ = some (.slice f.la f.ln f.lc) ∧ w1.cell? ⟨w.heap.size, 4, none⟩ = some (.slice f.a4 f.n4 f.c4) ∧ w1.cell? ⟨w.heap.size, 5, none⟩ = some (.slice f.a5 f.n5 f.c5) ∧ w1.cell? ⟨w.heap.size, 6, none⟩ = some (.slice f.a6 f.n6 f.c6) ∧ w1.cell? ⟨w.heap.size, 7, none⟩ = some (.slice f.a7 f.n7 f.c7) ∧ w1.cell? ⟨w.heap.size, 8, none⟩ = some (.slice f.a8 f.n8 f.c8) :=
  ⟨(hb.cell (p := ⟨w.heap.size, 0, none⟩) hlt).trans z.1, (hb.cell (p := ⟨w.heap.size, 1, none⟩) hlt).trans z.2.1, (hb.cell (p := ⟨w.heap.size, 2, none⟩) hlt).trans z.2.2.1, (hb.cell (p := ⟨w.heap.size, 3, none⟩) hlt).trans z.2.2.2.1, (hb.cell (p := ⟨w.heap.size, 4, none⟩) hlt).trans z.2.2.2.2.1, (hb.cell (p := ⟨w.heap.size, 5, none⟩) hlt).trans z.2.2.2.2.2.1, (hb.cell (p := ⟨w.heap.size, 6, none⟩) hlt).trans z.2.2.2.2.2.2.1, (hb.cell (p := ⟨w.heap.size, 7, none⟩) hlt).trans z.2.2.2.2.2.2.2.1, (hb.cell (p := ⟨w.heap.size, 8, none⟩) hlt).trans z.2.2.2.2.2.2.2.2⟩
theorem below_pre {W0 w1 : World} {o : Obj} (h : Below (W0.alloc o).heap.size (W0.alloc o) w1) : Below W0.heap.size W0 w1 := ((Below.refl _ _).alloc (Nat.le_refl _) o).trans (h.mono (by simp))

theorem ws_new1 {w W0 w1 : World} {f : FV} {F : Fnt} {A1 : Option Addr} {rn c1 : Nat} {run : List Itm} (hf : IsF w (lo w.heap.size) f F) (kf : Bk W0 w.heap.size 31 f.cells) (bw : Below w.heap.size w W0) (hb1 : Below W0.heap.size W0 w1) (ho1 : Ow 51 6 w1 W0.heap.size A1 rn c1 (itc run)) :
    WS w.heap.size ((w1.alloc (.map #[] 0)).alloc (.cells (wkC f A1 rn c1 (.map (some w1.heap.size))) 60)) (w1.heap.size + 1) w1.heap.size f F A1 rn c1 run ∧ Bk ((w1.alloc (.map #[] 0)).alloc (.cells (wkC f A1 rn c1 (.map (some w1.heap.size))) 60)) w.heap.size 31 f.cells ∧
      Below w.heap.size w ((w1.alloc (.map #[] 0)).alloc (.cells (wkC f A1 rn c1 (.map (some w1.heap.size))) 60)) := by
  have s1 := bw.size
  have s2 := hb1.size
  have b1 := bw.trans (hb1.mono s1)
  have b2 : Below w.heap.size w ((w1.alloc (.map #[] 0)).alloc (.cells (wkC f A1 rn c1 (.map (some w1.heap.size))) 60)) := (b1.alloc (by omega) _).alloc (by simp; omega) _
  have k2 := Bk.new (w1.alloc (.map #[] 0)) 60 (wkC f A1 rn c1 (.map (some w1.heap.size)))
  rw [World.size_alloc] at k2
  refine ⟨⟨by simp; omega, by omega, by omega, k2, hf.mono (fun _ h => h) (kept_below b2), ⟨_, (MapV.new w1).keep (Below.heap_alloc _ _ _ (by simp)), fun k v hv => by cases hv⟩, ((ho1.alloc _).alloc _).lower (by omega)⟩, ((kf.below hb1 kf.lt).alloc _).alloc _, b2⟩
theorem ws_new2 {w W0 w1 : World} {f : FV} {F : Fnt} {A1 : Option Addr} {rn c1 : Nat} {run : List Itm} (hf : IsF w (lo w.heap.size) f F) (kf : Bk W0 w.heap.size 31 f.cells) (bw : Below w.heap.size w W0) (hb1 : Below (W0.alloc (.map #[] 0)).heap.size (W0.alloc (.map #[] 0)) w1) (ho1 : Ow 51 6 w1 (W0.alloc (.map #[] 0)).heap.size A1 rn c1 (itc run)) :
    WS w.heap.size (w1.alloc (.cells (wkC f A1 rn c1 (.map (some W0.heap.size))) 60)) w1.heap.size W0.heap.size f F A1 rn c1 run ∧ Bk (w1.alloc (.cells (wkC f A1 rn c1 (.map (some W0.heap.size))) 60)) w.heap.size 31 f.cells ∧
      Below w.heap.size w (w1.alloc (.cells (wkC f A1 rn c1 (.map (some W0.heap.size))) 60)) := by
  have s1 := bw.size
  have s2 := hb1.size
  simp only [World.size_alloc] at s2
  have b0 : Below w.heap.size w (W0.alloc (.map #[] 0)) := bw.alloc s1 _
  have b1 := b0.trans (hb1.mono (by simp; omega))
  have b2 : Below w.heap.size w (w1.alloc (.cells (wkC f A1 rn c1 (.map (some W0.heap.size))) 60)) := b1.alloc (by omega) _
  have k2 := Bk.new w1 60 (wkC f A1 rn c1 (.map (some W0.heap.size)))
  have hm := ((MapV.new W0).keep (hb1.block W0.heap.size (by simp))).keep (Below.heap_alloc w1 (.cells (wkC f A1 rn c1 (.map (some W0.heap.size))) 60) _ (by omega))
  refine ⟨⟨by simp; omega, by omega, by omega, k2, hf.mono (fun _ h => h) (kept_below b2), ⟨_, hm, fun k v hv => by cases hv⟩, (ho1.alloc _).lower (by simp; omega)⟩, ((kf.alloc _).below hb1 (by simp; have := kf.lt; omega)).alloc _, b2⟩

set_option maxRecDepth 100000 in
set_option maxHeartbeats 4000000 in
theorem apply_c (f : FV) (F : Fnt) (lookup : Int) (RA : Option Addr) (rn rc : Nat) (run : List Itm) (FA : Option Addr) (fn fc : Nat) (forms : List Int) (w : World) (hf : IsF w (lo w.heap.size) f F) (hI : RdI w (lo w.heap.size) RA rn run) (hF : Rd w (lo w.heap.size) FA fn forms)
    (hfn : fn ≤ 9223372036854775807) (hlen : run.length ≤ 1000) (hsm : SmF F) (hap : ∀ (k : Nat) (lk : Lk), lookup = (k : Int) → F.lks[k]? = some lk → ApOK f F k lk) :
    Calls Try.prog 18 #[.agg f.cells, .int .i64 lookup, .slice RA rn rc, .slice FA fn fc] w fun e w' => ∃ A n c, e = .returned (.slice A n c) ∧ Ow 51 6 w' w.heap.size A n c (itc (applyL w64 F lookup run forms)) ∧ Below w.heap.size w w' := by
  have HAP := Lib.hid hap; have HSM := Lib.hid hsm; have HLN := Lib.hid hlen; have HIL := Lib.hid hI.len
  have hrn : rn ≤ 1000 := by have := hI.len; omega
  clear hap hsm hlen
  unfold FV.cells
  go_enter Try.func18, Try.ntmps18
  go_wp2
  generalize hW0 : w.alloc (.cells #[.int .i64 f.u0, .slice f.ga f.gn f.gc, .slice f.ca f.cn f.cc, .slice f.la f.ln f.lc, .slice f.a4 f.n4 f.c4, .slice f.a5 f.n5 f.c5, .slice f.a6 f.n6 f.c6, .slice f.a7 f.n7 f.c7, .slice f.a8 f.n8 f.c8] 31) = W0
  have kf : Bk W0 w.heap.size 31 f.cells := by rw [← hW0]; exact Bk.new _ _ _
  have bw : Below w.heap.size w W0 := by rw [← hW0]; exact (Below.refl _ _).alloc (Nat.le_refl _) _
  have s0 : W0.heap.size = w.heap.size + 1 := by rw [← hW0]; simp
  have z : W0.cell? ⟨w.heap.size, 0, none⟩ = some (.int .i64 f.u0) ∧ W0.cell? ⟨w.heap.size, 1, none⟩ = some (.slice f.ga f.gn f.gc) ∧ W0.cell? ⟨w.heap.size, 2, none⟩ = some (.slice f.ca f.cn f.cc) ∧ W0.cell? ⟨w.heap.size, 3, none⟩ = some (.slice f.la f.ln f.lc) ∧ W0.cell? ⟨w.heap.size, 4, none⟩ = some (.slice f.a4 f.n4 f.c4) ∧ W0.cell? ⟨w.heap.size, 5, none⟩ = some (.slice f.a5 f.n5 f.c5) ∧ W0.cell? ⟨w.heap.size, 6, none⟩ = some (.slice f.a6 f.n6 f.c6) ∧ W0.cell? ⟨w.heap.size, 7, none⟩ = some (.slice f.a7 f.n7 f.c7) ∧ W0.cell? ⟨w.heap.size, 8, none⟩ = some (.slice f.a8 f.n8 f.c8) := by
    refine ⟨?_, ?_, ?_, ?_, ?_, ?_, ?_, ?_, ?_⟩
    · have := kf.cell 0; simpa using this
    · have := kf.cell 1; simpa using this
    · have := kf.cell 2; simpa using this
    · have := kf.cell 3; simpa using this
    · have := kf.cell 4; simpa using this
    · have := kf.cell 5; simpa using this
    · have := kf.cell 6; simpa using this
    · have := kf.cell 7; simpa using this
    · have := kf.cell 8; simpa using this
  have hlt0 : w.heap.size < W0.heap.size := kf.lt
  have HS0 := Lib.hid s0
  have hI0 := hI.call bw
  clear hW0 s0
  have ZZ := Lib.hid z
  obtain ⟨y0, y1, y2, y3, y4, y5, y6, y7, y8⟩ := z
  have hap0 := hI0.alloc (.map #[] 0)
  have hmm := @run_makeMap Try.prog
  go_region_held3 (fun w' => w'.cell? ⟨w.heap.size, 0, none⟩ = some (.int .i64 f.u0) ∧ w'.cell? ⟨w.heap.size, 1, none⟩ = some (.slice f.ga f.gn f.gc) ∧ w'.cell? ⟨w.heap.size, 2, none⟩ = some (.slice f.ca f.cn f.cc) ∧ w'.cell? ⟨w.heap.size, 3, none⟩ = some (.slice f.la f.ln f.lc) ∧ w'.cell? ⟨w.heap.size, 4, none⟩ = some (.slice f.a4 f.n4 f.c4) ∧ w'.cell? ⟨w.heap.size, 5, none⟩ = some (.slice f.a5 f.n5 f.c5) ∧ w'.cell? ⟨w.heap.size, 6, none⟩ = some (.slice f.a6 f.n6 f.c6) ∧ w'.cell? ⟨w.heap.size, 7, none⟩ = some (.slice f.a7 f.n7 f.c7) ∧ w'.cell? ⟨w.heap.size, 8, none⟩ = some (.slice f.a8 f.n8 f.c8)) (first | (with_reducible exact z) | go_keep) (first
    | (go_at_call 33; refine (siClone_c RA rn rc run _ (by first | exact hI0 | exact hap0) (by omega)).mono ?_; rintro e w1 ⟨A1, c1, rfl, ho1, hb1⟩; have z := keepB hlt0 ZZ.out (by first | exact below_undrew hb1 | exact below_pre (below_undrew hb1)); have hlt1 : w.heap.size < w1.heap.size := cell_lt (p := ⟨w.heap.size, 0, none⟩) z.1))
  all_goals
    clear hmm z y0 y1 y2 y3 y4 y5 y6 y7 y8 hlt1 ZZ hI0 hap0
    first
    | (obtain ⟨hs, k2, b2⟩ := ws_new1 hf kf bw (below_undrew hb1) ho1
       generalize (w1.alloc (.map #[] 0)).alloc (.cells #[.int .i64 f.u0, .slice f.ga f.gn f.gc, .slice f.ca f.cn f.cc, .slice f.la f.ln f.lc, .slice f.a4 f.n4 f.c4, .slice f.a5 f.n5 f.c5, .slice f.a6 f.n6 f.c6, .slice f.a7 f.n7 f.c7, .slice f.a8 f.n8 f.c8, .slice A1 rn c1, .map (some w1.heap.size)] 60) = W2 at hs k2 b2 ⊢
       generalize w1.heap.size + 1 = Bw at hs ⊢
       generalize w1.heap.size = Bm at hs ⊢)
    | (obtain ⟨hs, k2, b2⟩ := ws_new2 hf kf bw (below_undrew hb1) ho1
       generalize w1.alloc (.cells #[.int .i64 f.u0, .slice f.ga f.gn f.gc, .slice f.ca f.cn f.cc, .slice f.la f.ln f.lc, .slice f.a4 f.n4 f.c4, .slice f.a5 f.n5 f.c5, .slice f.a6 f.n6 f.c6, .slice f.a7 f.n7 f.c7, .slice f.a8 f.n8 f.c8, .slice A1 rn c1, .map (some W0.heap.size)] 60) = W2 at hs k2 b2 ⊢
       generalize w1.heap.size = Bw at hs ⊢
       generalize W0.heap.size = Bm at hs ⊢)
  all_goals
    have y3 : W2.cell? ⟨w.heap.size, 3, none⟩ = some (.slice f.la f.ln f.lc) := by have := k2.cell 3; simpa using this
    have c9 := hs.c9
    have hF2 : Rd W2 (lo w.heap.size) FA fn forms := hF.mono (fun _ h => h) (kept_below b2)
    clear ho1 hb1 kf bw hlt0 hI hf hF HS0
    have hln := hs.font.2.1.len
    have hld := hs.font.2.2.2
    have hlnM : f.ln ≤ 9223372036854775807 := Nat.le_trans hld.1 hld.2
    by_cases h0 : lookup < 0
    · have e0 : applyL w64 F lookup run forms = run := by unfold applyL lkAt; rw [if_pos h0]
      have E0 := Lib.hid e0
      clear e0 hln
      go_wp2
      go_ret
      exact ⟨_, _, _, rfl, by rw [E0.out]; exact hs.own, b2⟩
    · have t0 : decide (lookup < 0) = false := by simp; omega
      by_cases h1 : (f.ln : Int) ≤ lookup
      · have e0 : applyL w64 F lookup run forms = run := by unfold applyL lkAt; rw [if_neg h0, List.getElem?_eq_none (by omega)]
        have E0 := Lib.hid e0
        clear e0 hln
        go_wp2
        go_ret
        exact ⟨_, _, _, rfl, by rw [E0.out]; exact hs.own, b2⟩
      · have t1 : decide ((f.ln : Int) ≤ lookup) = false := by simp; omega
        obtain ⟨k, rfl⟩ : ∃ k : Nat, lookup = k := ⟨lookup.toNat, by omega⟩
        have t2 : decide (f.ln ≤ k) = false := by simp; omega
        obtain ⟨lk, hlk⟩ := at_some F.lks k (by omega)
        obtain ⟨b, o, hla, hb0, kc, kl, _⟩ := kind_cell hs hlk
        rw [hla] at y3
        have hlA : lkAt F (k : Int) = some lk := by unfold lkAt; rw [if_neg (by omega), Int.toNat_natCast]; exact hlk
        have HA := Lib.hid (HAP.out k lk rfl hlk)
        have HLK := Lib.hid hlk
        have kz : (0 : Int) ≤ (k : Int) := by omega
        clear hln HAP hlk
        by_cases g1 : lk.kind < 1
        · have e0 : applyL w64 F (k : Int) run forms = run := by unfold applyL; rw [hlA]; dsimp only; rw [if_pos (.inl g1)]
          have E0 := Lib.hid e0
          clear e0 hlA
          go_wp2
          go_ret
          exact ⟨_, _, _, rfl, by rw [E0.out]; exact hs.own, b2⟩
        · have u1 : decide (lk.kind < 1) = false := by simp; omega
          by_cases g6 : 6 < lk.kind
          · have e0 : applyL w64 F (k : Int) run forms = run := by unfold applyL; rw [hlA]; dsimp only; rw [if_pos (.inr g6)]
            have E0 := Lib.hid e0
            clear e0 hlA
            go_wp2
            go_ret
            exact ⟨_, _, _, rfl, by rw [E0.out]; exact hs.own, b2⟩
          · have u6 : decide (6 < lk.kind) = false := by simp; omega
            obtain ⟨ha5, han⟩ := HA.out (by omega) (by omega)
            by_cases g5 : lk.kind = 5
            · have e5 : (lk.kind == 5) = true := by simp [g5]
              have e0 : applyL w64 F (k : Int) run forms = bwL w64 F lk forms run.length run := by unfold applyL; rw [hlA]; dsimp only; rw [if_neg (by omega), if_pos g5]
              have E0 := Lib.hid e0
              have HB := Lib.hid (ha5 g5 _ _ _ W2 A1 rn c1 run FA fn fc forms hs hF2 hfn HLN.out)
              clear e0 hlA ha5 han HA
              rw [g5] at kc
              clear u1 u6 g1 g6
              go_wp2_with fail
              refine HB.out.mono ?_
              rintro e W3 ⟨rfl, RA3, rn3, rc3, hs3, _, hb3⟩
              have c93 := hs3.c9
              go_wp2
              go_ret
              exact ⟨_, _, _, rfl, by rw [E0.out]; exact hs3.own, b2.trans hb3⟩
            · have e5 : (lk.kind == 5) = false := by simpa using g5
              have e0 : applyL w64 F (k : Int) run forms = onL w64 F lk forms run.length run 0 := by unfold applyL; rw [hlA]; dsimp only; rw [if_neg (by omega), if_neg g5]
              have E0 := Lib.hid e0
              have HB := Lib.hid (onwards_c _ _ _ f F A1 rn c1 run k lk FA fn fc forms W2 hs HLK.out HSM.out hF2 hfn HLN.out ((han g5).1 _ _ _) (han g5).2)
              clear e0 hlA ha5 han HA
              go_wp2_with fail
              refine HB.out.mono ?_
              rintro e W3 ⟨rfl, RA3, rn3, rc3, hs3, _, hb3⟩
              have c93 := hs3.c9
              go_wp2
              go_ret
              exact ⟨_, _, _, rfl, by rw [E0.out]; exact hs3.own, b2.trans hb3⟩

end Go.Proofs.Ytkoocipagndclaa
