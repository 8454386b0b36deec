/- Walks: Match. -/
import Derived.Test.YtgcmedkaadagmaaDoorMw2
import Derived.Deep.DeepCutAuto
namespace Go.Proofs.YtgcmedkaadagmaaDoor
open Go.RowKit Go.Shelf
theorem font_cells {w : World} {g : Nat} {f : FV} (kf : Bk w g 33 f.cells) : w.cell? ⟨g, 0, none⟩ = some (.int .i64 f.u0) ∧ w.cell? ⟨g, 1, none⟩ = some (.slice f.ga f.gn f.gc) ∧ w.cell? ⟨g, 2, none⟩ = some (.slice f.ca f.cn f.cc) ∧ w.cell? ⟨g, 3, none⟩ = some (.slice f.la f.ln f.lc) ∧ w.cell? ⟨g, 4, none⟩ = some (.slice f.a4 f.n4 f.c4) ∧ w.cell? ⟨g, 5, none⟩ = some (.slice f.a5 f.n5 f.c5) ∧ w.cell? ⟨g, 6, none⟩ = some (.slice f.a6 f.n6 f.c6) ∧ w.cell? ⟨g, 7, none⟩ = some (.slice f.a7 f.n7 f.c7) ∧ w.cell? ⟨g, 8, none⟩ = some (.slice f.a8 f.n8 f.c8) := by
 refine ⟨?_, ?_, ?_, ?_, ?_, ?_, ?_, ?_, ?_⟩
 ·have := kf.cell 0; simpa using this
 ·have := kf.cell 1; simpa using this
 ·have := kf.cell 2; simpa using this
 ·have := kf.cell 3; simpa using this
 ·have := kf.cell 4; simpa using this
 ·have := kf.cell 5; simpa using this
 ·have := kf.cell 6; simpa using this
 ·have := kf.cell 7; simpa using this
 ·have := kf.cell 8; simpa using this
theorem Bk.call {w w' : World} {g t : Nat} {cs : Array Value} (h : Bk w g t cs) (hb : Below w.heap.size w w') : Bk w' g t cs := h.below hb h.lt
theorem lkAt_nat {F : Fnt} {q : Nat} {lk : Lk} (h : F.lks[q]? = some lk) : lkAt F (q : Int) = some lk := by unfold lkAt; rw [if_neg (by omega), Int.toNat_natCast]; exact h
theorem lkAt_out {F : Fnt} {n : Int} (h : n < 0 ∨ (F.lks.length : Int) ≤ n) : lkAt F n = none := by
 unfold lkAt; split
 ·rfl
 ·exact List.getElem?_eq_none (by omega)
structure LS' (w W : World) (bf : Nat) (f : FV) (F : Fnt) (RA : Option Addr) (rn : Nat) (run : List Itm) : Prop where
 kf : Bk W bf 33 f.cells
 hf : IsF W (lo W.heap.size) f F
 hI : RdI W (lo W.heap.size) RA rn run
 bw : Below w.heap.size w W
theorem LS'.call {w W W' : World} {bf : Nat} {f : FV} {F : Fnt} {RA : Option Addr} {rn : Nat} {run : List Itm} (h : LS' w W bf f F RA rn run) (b : Below W.heap.size W W') : LS' w W' bf f F RA rn run :=
 ⟨h.kf.call b, h.hf.call b, h.hI.call b, below_call h.bw b⟩
theorem LS'.new {w : World} {f : FV} {F : Fnt} {RA : Option Addr} {rn : Nat} {run : List Itm} (hf : IsF w (lo w.heap.size) f F) (hI : RdI w (lo w.heap.size) RA rn run) : LS' w (w.alloc (.cells f.cells 33)) w.heap.size f F RA rn run :=
 have b : Below w.heap.size w (w.alloc (.cells f.cells 33)) := (Below.refl _ _).alloc (Nat.le_refl _) _
 ⟨Bk.new _ _ _, hf.call b, hI.call b, b⟩
def matchQ (F : Fnt) (n : Int) (run : List Itm) (k : Int) (forms : List Int) : Option (Nat × List Nat) := match lkAt F n with | none => none | some lk => matchL F lk run k forms
def RchL (lk : Lk) : Prop := lk.rules.length ≤ 9223372036854775806 ∧ ∀ r ∈ lk.rules, r.inn.length + r.ahead.length ≤ 9223372036854775807 ∧ r.back.length ≤ 9223372036854775807 ∧ (∀ s ∈ r.inn, s.length ≤ 9223372036854775807)
theorem matchQ_none {F : Fnt} {n : Int} {run : List Itm} {k : Int} {forms : List Int} (h : lkAt F n = none) : matchQ F n run k forms = none := by unfold matchQ; rw [h]
theorem matchQ_some {F : Fnt} {n : Int} {lk : Lk} {run : List Itm} {k : Int} {forms : List Int} (h : lkAt F n = some lk) : matchQ F n run k forms = matchL F lk run k forms := by unfold matchQ; rw [h]
set_option maxRecDepth 100000 in
set_option maxHeartbeats 4000000 in
theorem rMatch_c (f : FV) (F : Fnt) (n : Int) (RA : Option Addr) (rn rc : Nat) (run : List Itm) (k : Int) (FA : Option Addr) (fn fc : Nat) (forms : List Int) (w : World) (hf : IsF w (lo w.heap.size) f F) (hI : RdI w (lo w.heap.size) RA rn run) (hF : Rd w (lo w.heap.size) FA fn forms)
  (hrn : rn ≤ 2999999999999) (hfn : fn ≤ 9223372036854775807) (hrch : ∀ lk ∈ F.lks, RchL lk) :
  Calls Tryd.prog 32 #[.agg f.cells, .int .i64 n, .slice RA rn rc, .int .i64 k, .slice FA fn fc] w (MPost w (matchQ F n run k forms)) := by
 have hs0 := LS'.new hf hI
 have hF0 := hF.call hs0.bw
 have hln := hf.2.1.len
 have hld := hf.2.2.2
 have hlnM : f.ln ≤ 9223372036854775807 := Nat.le_trans hld.1 hld.2
 obtain ⟨R, hR⟩ : ∃ R, R = matchQ F n run k forms := ⟨_, rfl⟩
 rw [← hR]
 have HR := Lib.hid hR
 have HRC := Lib.hid hrch
 clear hR hrch hf hI hF
 unfold FV.cells at hs0 ⊢
 by_cases hneg : n < 0
 ·have tn : decide (n < 0) = true := by simp; omega
  have HRES := Lib.hid (show R = none by rw [HR.out, matchQ_none (lkAt_out (.inl hneg))])
  clear hln
  go_enter Tryd.func32, Tryd.ntmps32
  go_wp2
  go_ret2
  rw [HRES.out]
  exact ⟨rfl, hs0.bw⟩
 ·have tn : decide (n < 0) = false := by simp; omega
  by_cases hbig : (f.ln : Int) ≤ n
  ·have tb : decide ((f.ln : Int) ≤ n) = true := by simp; omega
   have HRES := Lib.hid (show R = none by rw [HR.out, matchQ_none (lkAt_out (.inr (by omega)))])
   clear hln
   go_enter Tryd.func32, Tryd.ntmps32
   go_wp2
   go_ret2
   rw [HRES.out]
   exact ⟨rfl, hs0.bw⟩
  ·have tb : decide ((f.ln : Int) ≤ n) = false := by simp; omega
   obtain ⟨q, rfl⟩ : ∃ q : Nat, n = (q : Int) := ⟨n.toNat, by omega⟩
   have tb' : decide (f.ln ≤ q) = false := by simp; omega
   have qz : (0 : Int) ≤ (q : Int) := by omega
   have ql : (q : Int) < (f.ln : Int) := by omega
   obtain ⟨lk, hlk⟩ := at_some F.lks q (by omega)
   obtain ⟨b, o, hla, _, hc⟩ := hs0.hf.2.1.pos (by omega)
   obtain ⟨cs, ⟨A, ln, lc, rfl, hRR, hRd⟩, hcc⟩ := hc q lk hlk
   have g0 := hcc 0 _ rfl
   have g1 := hcc 1 _ rfl
   have g2 := hcc 2 _ rfl
   rw [Nat.add_zero] at g0
   have HRES := Lib.hid (show R = matchL F lk run k forms by rw [HR.out, matchQ_some (lkAt_nat hlk)])
   obtain ⟨rc1, rc2⟩ := HRC.out lk (List.mem_of_getElem? hlk)
   have HR2 := Lib.hid rc2
   have hlR0 := Lib.hid hRR.len
   rw [hRR.len] at rc1
   have HLA := Lib.hid hla
   clear hln hc hcc HRC HR hlk hla rc2
   go_enter Tryd.func32, Tryd.ntmps32
   go_upto_region 1 with fail
   generalize w.alloc (.cells #[.int .i64 f.u0, .slice f.ga f.gn f.gc, .slice f.ca f.cn f.cc, .slice f.la f.ln f.lc, .slice f.a4 f.n4 f.c4, .slice f.a5 f.n5 f.c5, .slice f.a6 f.n6 f.c6, .slice f.a7 f.n7 f.c7, .slice f.a8 f.n8 f.c8] 33) = w0 at *
   generalize hbf : w.heap.size = bf at hs0 ⊢
   obtain ⟨y0, y1, y2, y3, y4, y5, y6, y7, y8⟩ := font_cells hs0.kf
   rw [HLA.out] at y3
   go_upto_region 4 with fail
   have HWK := Bk.new w0 132 #[.int .i64 f.u0, .slice f.ga f.gn f.gc, .slice f.ca f.cn f.cc, .slice (some ⟨b, o, none⟩) f.ln f.lc, .slice f.a4 f.n4 f.c4, .slice f.a5 f.n5 f.c5, .slice f.a6 f.n6 f.c6, .slice f.a7 f.n7 f.c7, .slice f.a8 f.n8 f.c8, .slice RA rn rc, .map none]
   have b1 : Below w0.heap.size w0 (w0.alloc (.cells #[.int .i64 f.u0, .slice f.ga f.gn f.gc, .slice f.ca f.cn f.cc, .slice (some ⟨b, o, none⟩) f.ln f.lc, .slice f.a4 f.n4 f.c4, .slice f.a5 f.n5 f.c5, .slice f.a6 f.n6 f.c6, .slice f.a7 f.n7 f.c7, .slice f.a8 f.n8 f.c8, .slice RA rn rc, .map none] 132)) := (Below.refl _ _).alloc (Nat.le_refl _) _
   have hs1 := hs0.call b1
   have hF1 := hF0.call b1
   have hR1 := hRR.call b1
   replace g0 := cell_call g0 b1; replace g1 := cell_call g1 b1; replace g2 := cell_call g2 b1
   clear hs0 hF0 hRR b1 y0 y1 y2 y3 y4 y5 y6 y7 y8
   generalize w0.alloc (.cells #[.int .i64 f.u0, .slice f.ga f.gn f.gc, .slice f.ca f.cn f.cc, .slice (some ⟨b, o, none⟩) f.ln f.lc, .slice f.a4 f.n4 f.c4, .slice f.a5 f.n5 f.c5, .slice f.a6 f.n6 f.c6, .slice f.a7 f.n7 f.c7, .slice f.a8 f.n8 f.c8, .slice RA rn rc, .map none] 132) = w1 at *
   generalize w0.heap.size = Bw at HWK ⊢
   have y3 := (font_cells hs1.kf).2.2.2.1
   rw [HLA.out] at y3
   go_wp2_with fail
   refine (newMatcher_c w1.heap.size 56 A ln lc lk w1 (Nat.le_refl _) (hR1.mono (fun _ h => .inl h) (Kept.refl _ _)) hRd rc1 (fun r hr => (HR2.out r hr).1) (fun r hr => (HR2.out r hr).2.1)).mono ?_
   rintro e w2 ⟨m, rfl, hm0, hmt, b2⟩
   have hs2 := hs1.call b2
   have hF2 := hF1.call b2
   have HW2 := HWK.call b2
   obtain ⟨MA, mn, mc, fo, ba, m1, m2, m3, m4, m5, m6, m7⟩ := hmt
   have hml2 := (m2.len).symm.trans hlR0.out
   have c1 : w2.cell? ⟨Bw, 1, none⟩ = some (.slice f.ga f.gn f.gc) := by have := HW2.cell 1; simpa using this
   have c9 : w2.cell? ⟨Bw, 9, none⟩ = some (.slice RA rn rc) := by have := HW2.cell 9; simpa using this
   have hml := m2.len
   have HMC := Lib.hid (match_c 56 (fun _ => True) has_contains Bw m f F RA FA MA rn rc fn fc mn mc run lk fo ba k forms w2 hs2.hf c1 c9 hs2.hI (by have := m1.cell 0; simpa using this) (by have := m1.cell 1; simpa using this) (by have := m1.cell 2; simpa using this) (by have := m1.cell 3; simpa using this) (by have := m1.cell 4; simpa using this) (m2.sblo b2.size) hF2 (fun r _ => ⟨fun _ _ => trivial, fun _ _ => trivial, fun _ _ => trivial⟩) m4 m5 hrn hfn (by omega) m6 m7)
   rw [← HRES.out] at HMC
   clear c1 c9 hml m1 m2 m3 m4 m5 m6 m7 HWK HW2 hF1 hF2 hs1 hR1 g0 g1 g2 y3
   go_wp2_with fail
   refine HMC.out.mono ?_
   intro e w3 hP
   clear HMC
   cases R with
   | none =>
    obtain ⟨rfl, b3⟩ := hP
    have hs3 := hs2.call b3
    go_wp2
    go_ret2
    exact ⟨rfl, hs3.bw⟩
   | some x =>
    obtain ⟨j, ps⟩ := x
    obtain ⟨PA, pc, rfl, p1, p2, b3⟩ := hP
    have hs3 := hs2.call b3
    go_wp2
    go_ret2
    exact ⟨PA, pc, rfl, p1, p2, hs3.bw⟩
end Go.Proofs.YtgcmedkaadagmaaDoor
