/- Walks: the document's done, of ligatures. -/
import Derived.Test.YtkoocipagndclaaQ3
import Derived.Test.YtkoocipagndclaaQ4
import Derived.Test.YtkoocipagndclaaD9
namespace Go.Proofs.Ytkoocipagndclaa
open Go.RowKit Go.Shelf

theorem wr_nextl (n' n L nx : Nat) (h : (n' : Int) - ((n : Int) - 1 - (L : Int)) = (nx : Int)) (h1 : n' ≤ 2000000) (h2 : n ≤ 1000) (h3 : L ≤ 1000) : wrap64 ((n' : Int) - ((n : Int) - (L : Int) - 1)) = (nx : Int) := by unfold wrap64; omega
theorem next_eql {lk : Lk} {ps : List Nat} {k n n' : Nat} (h4 : lk.kind ≠ 4) (h6 : lk.kind ≠ 6) (h : (n : Int) - 1 - (ps.getLastD 0 : Int) ≤ n') : ((nextL lk ps k n n' : Nat) : Int) = (n' : Int) - ((n : Int) - 1 - (ps.getLastD 0 : Int)) := by
  unfold nextL
  dsimp only
  rw [if_neg h4, if_neg (fun h => h6 h.1)]
  omega

set_option maxRecDepth 100000 in
set_option maxHeartbeats 4000000 in
theorem qdone_lig (f : FV) (F : Fnt) (q : Nat) (lk : Lk) (dp : Nat) (hlk : F.lks[q]? = some lk) (hkd : lk.kind = 3) : QDd f F q lk dp := by
  intro W RA rn rc run k j ps forms IA m c hf hI hd hln hans hP hpd
  obtain ⟨r, hr, _, _, hne, hhd, hpl, hps, hpw, hfit, _, _⟩ := matchL_some hans
  have hgr : lk.rules.getD j default = r := by simp [hr]
  rw [hgr]
  obtain ⟨m1, m2, m3⟩ := last_ok hans
  have hlast := last_at hne
  have hk0 : ps[0]? = some k := by rw [← List.head?_eq_getElem?, hhd]; simp
  have hml := hP.len
  rw [natI_len] at hml
  obtain ⟨L, hL⟩ : ∃ L, L = ps.getLastD 0 := ⟨_, rfl⟩
  rw [← hL] at m1 m2 m3 hlast
  have hm0 : 0 < m := by rw [← hml]; exact List.length_pos_iff.2 hne
  obtain ⟨pb, po, rfl, _, hpc⟩ := hP.pos hm0
  have i0 : W.cell? ⟨pb, po, none⟩ = some (.int .i64 (k : Int)) := by
    obtain ⟨cs, rfl, hcc⟩ := hpc 0 (k : Int) (natI_at hk0)
    have := hcc 0 _ rfl
    simpa using this
  have iL : W.cell? ⟨pb, po + (m - 1), none⟩ = some (.int .i64 (L : Int)) := by
    obtain ⟨cs, rfl, hcc⟩ := hpc (m - 1) (L : Int) (natI_at (by rw [← hml]; exact hlast))
    have := hcc 0 _ rfl
    simpa using this
  have hrl := hI.len
  obtain ⟨it, hit⟩ := at_some run k (by omega)
  obtain ⟨rb, ro, rfl, _, hci⟩ := hI.pos (by omega)
  obtain ⟨cs, rfl, hcc⟩ := hci k it hit
  have x0 := hcc 0 _ rfl
  have x1 := hcc 1 _ rfl
  have x2 := hcc 2 _ rfl
  have x3 := hcc 3 _ rfl
  have x4 := hcc 4 _ rfl
  have x5 := hcc 5 _ rfl
  rw [Nat.add_zero] at x0
  have hlf := hf.2.1.len
  have hld := hf.2.2.2
  have hlnM : f.ln ≤ 9223372036854775807 := Nat.le_trans hld.1 hld.2
  obtain ⟨lb, lo', hla, _, hcl⟩ := hf.2.1.pos (by have := (List.getElem?_eq_some_iff.1 hlk).1; omega)
  obtain ⟨cs, ⟨LA, ln, lc, rfl, hRR, hRd⟩, hccl⟩ := hcl q lk hlk
  have g0 := hccl 0 _ rfl
  have g1 := hccl 1 _ rfl
  have g2 := hccl 2 _ rfl
  rw [Nat.add_zero] at g0
  have hlR := hRR.len
  have hjl : j < ln := by have := (List.getElem?_eq_some_iff.1 hr).1; omega
  have hlM : ln ≤ 9223372036854775807 := Nat.le_trans hRd.1 hRd.2
  obtain ⟨mb, mo, rfl, _, hcr⟩ := hRR.pos (by omega)
  obtain ⟨cs, ⟨A1, n1, c1, A2, n2, c2, A3, n3, c3, A4, n4, c4, A5, n5, c5, rfl, r1, r2, r3, r4, r5, d1, d2, d3, d4, d5⟩, hccr⟩ := hcr j r hr
  have q0 := hccr 0 _ rfl
  have q1 := hccr 1 _ rfl
  have q2 := hccr 2 _ rfl
  have q3 := hccr 3 _ rfl
  have q4 := hccr 4 _ rfl
  have q5 := hccr 5 _ rfl
  rw [Nat.add_zero] at q0
  have qz : (0 : Int) ≤ (q : Int) := by omega
  have qn : (q : Int) < (f.ln : Int) := by have := (List.getElem?_eq_some_iff.1 hlk).1; omega
  have jz : (0 : Int) ≤ (j : Int) := by omega
  have jn : (j : Int) < (ln : Int) := by omega
  have kz : (0 : Int) ≤ (k : Int) := by omega
  have kn : (k : Int) < (rn : Int) := by omega
  have m0 : (0 : Int) < (m : Int) := by omega
  have hmM : m ≤ 9223372036854775807 := by have := hpd.1; have := hpd.2; omega
  have hrM : rn ≤ 9223372036854775807 := by omega
  have hkr : k + 1 ≤ rn := by omega
  have HRN := Lib.hid (show rn ≤ 1000000 by omega)
  have HW0 := Lib.hid (show wrap64 ((rn : Int) - (L : Int)) = (rn : Int) - (L : Int) by unfold wrap64; omega)
  have HW2 := Lib.hid (show wrap64 ((rn : Int) - (L : Int) - 1) = (rn : Int) - (L : Int) - 1 by unfold wrap64; omega)
  have HWK := Lib.hid (show wrap64 ((k : Int) + 1) = ((k + 1 : Nat) : Int) by unfold wrap64; omega)
  have HL := Lib.hid hL; have HIT := Lib.hid hit; have HRL := Lib.hid hrl; have HML := Lib.hid hml; have HR := Lib.hid hr
  have M1 := Lib.hid m1; have M2 := Lib.hid m2; have M3 := Lib.hid m3; have HPS := Lib.hid hps; have HPW := Lib.hid hpw; have HLN := Lib.hid hln; have HANS := Lib.hid hans
  have hs0 := LS'.new hf hI
  have HLA := Lib.hid hla
  have x0 := cell_call x0 hs0.bw; have x1 := cell_call x1 hs0.bw; have x2 := cell_call x2 hs0.bw; have x3 := cell_call x3 hs0.bw; have x4 := cell_call x4 hs0.bw; have x5 := cell_call x5 hs0.bw
  have g0 := cell_call g0 hs0.bw; have g1 := cell_call g1 hs0.bw; have g2 := cell_call g2 hs0.bw
  have q0 := cell_call q0 hs0.bw; have q1 := cell_call q1 hs0.bw; have q2 := cell_call q2 hs0.bw; have q3 := cell_call q3 hs0.bw; have q4 := cell_call q4 hs0.bw; have q5 := cell_call q5 hs0.bw
  have i0 := cell_call i0 hs0.bw; have iL := cell_call iL hs0.bw
  have hP := hP.call hs0.bw
  have r1 := r1.call hs0.bw; have r2 := r2.call hs0.bw; have r3 := r3.call hs0.bw; have r4 := r4.call hs0.bw; have r5 := r5.mono (lo_mono hs0.bw.size) (kept_below hs0.bw)
  clear hans hhd hpl hps hpw hfit hgr hne hlast hk0 hpc hml hm0 hit hci hcc hlf hld hla hcl hccl hlR hjl hcr hccr hr hL m1 m2 m3 hrl hf hI hRR
  unfold FV.cells at hs0 x0 x1 x2 x3 x4 x5 g0 g1 g2 q0 q1 q2 q3 q4 q5 i0 iL hP r1 r2 r3 r4 r5 ⊢
  have hk9 : ps.headD 0 = k := by
    obtain ⟨_, _, _, _, _, hhd, _⟩ := matchL_some HANS.out
    cases ps with
    | nil => simp at hhd
    | cons a t => simp at hhd; simpa using hhd
  have hin : r.inn ≠ [] := by
    obtain ⟨r9, hr9, _, _, hne9, _, hpl9, _⟩ := matchL_some HANS.out
    rw [HR.out] at hr9; injection hr9 with hr9; subst hr9
    intro e; rw [e] at hpl9; exact hne9 (List.eq_nil_of_length_eq_zero hpl9)
  have HL4 := Lib.hid r4.len
  have hn4M : n4 ≤ 9223372036854775807 := Nat.le_trans d4.1 d4.2
  have hrn1 : rn ≤ 1000 := by have := HRL.out; have := HLN.out; omega
  have hLr : L < rn := by have := M2.out; have := HRL.out; omega
  obtain ⟨R, hR⟩ : ∃ R, R = doL w64 F (4 - dp) lk r ps run := ⟨_, rfl⟩
  rw [← hR]
  obtain ⟨nx, hnx⟩ : ∃ nx, nx = nextL lk ps k run.length R.length := ⟨_, rfl⟩
  rw [← hnx]
  have HR9 := Lib.hid hR; have HNXX := Lib.hid hnx
  clear hR hnx
  have HR9 := Lib.hid (HR9.out.trans (doL_lig hkd))
  have FIN := Lib.hid fun (A9 : Option Addr) (n9 c9 : Nat) (w9 : World) (v : Int) (h1 : RdI w9 (lo w9.heap.size) A9 n9 R) (h2 : Hd n9 c9) (h3 : Below W.heap.size W w9) (h4 : v = (nx : Int)) => (show DnPost W R nx (.returned (.tuple #[.slice A9 n9 c9, .int .i64 v])) w9 from ⟨A9, n9, c9, by rw [h4], h1, h2, h3⟩)
  rw [hkd] at g0
  go_enter Try.func36, Try.ntmps36
  go_upto_region 1 with fail
  generalize W.alloc (.cells #[.int .i64 f.u0, .slice f.ga f.gn f.gc, .slice f.ca f.cn f.cc, .slice f.la f.ln f.lc, .slice f.a4 f.n4 f.c4, .slice f.a5 f.n5 f.c5, .slice f.a6 f.n6 f.c6, .slice f.a7 f.n7 f.c7, .slice f.a8 f.n8 f.c8] 31) = w0 at hs0 x0 x1 x2 x3 x4 x5 g0 g1 g2 q0 q1 q2 q3 q4 q5 i0 iL hP r1 r2 r3 r4 r5 ⊢
  generalize hbf : W.heap.size = bf at hs0 ⊢
  clear hbf
  have y3 := (font_cells hs0.kf).2.2.2.1
  rw [HLA.out] at y3
  go_upto_region 2 with fail
  have bA : Below w0.heap.size w0 (w0.alloc (.cells #[.int .i64 3, .bool lk.ign, .slice (some ⟨mb, mo, none⟩) ln lc] 44)) := (Below.refl _ _).alloc (Nat.le_refl _) _
  have kl : Bk (w0.alloc (.cells #[.int .i64 3, .bool lk.ign, .slice (some ⟨mb, mo, none⟩) ln lc] 44)) w0.heap.size 44 #[.int .i64 3, .bool lk.ign, .slice (some ⟨mb, mo, none⟩) ln lc] := Bk.new _ _ _
  replace hs0 := hs0.call bA
  replace x0 := cell_call x0 bA; replace x1 := cell_call x1 bA; replace x2 := cell_call x2 bA; replace x3 := cell_call x3 bA; replace x4 := cell_call x4 bA; replace x5 := cell_call x5 bA; replace q0 := cell_call q0 bA; replace q1 := cell_call q1 bA; replace q2 := cell_call q2 bA; replace q3 := cell_call q3 bA; replace q4 := cell_call q4 bA; replace q5 := cell_call q5 bA; replace i0 := cell_call i0 bA; replace iL := cell_call iL bA
  replace hP := hP.call bA; replace r1 := r1.call bA; replace r2 := r2.call bA; replace r3 := r3.call bA; replace r4 := r4.call bA; replace r5 := r5.mono (lo_mono bA.size) (kept_below bA)
  clear y3 g0 g1 g2 bA
  generalize w0.alloc (.cells #[.int .i64 3, .bool lk.ign, .slice (some ⟨mb, mo, none⟩) ln lc] 44) = w1 at *
  generalize w0.heap.size = bl at kl ⊢
  have l2 : w1.cell? ⟨bl, 2, none⟩ = some (.slice (some ⟨mb, mo, none⟩) ln lc) := kl.cell 2
  go_upto_region 3 with fail
  have bB : Below w1.heap.size w1 (w1.alloc (.cells #[.slice A1 n1 c1, .slice A2 n2 c2, .slice A3 n3 c3, .slice A4 n4 c4, .slice A5 n5 c5, .int .i64 r.x] 48)) := (Below.refl _ _).alloc (Nat.le_refl _) _
  have kr : Bk (w1.alloc (.cells #[.slice A1 n1 c1, .slice A2 n2 c2, .slice A3 n3 c3, .slice A4 n4 c4, .slice A5 n5 c5, .int .i64 r.x] 48)) w1.heap.size 48 #[.slice A1 n1 c1, .slice A2 n2 c2, .slice A3 n3 c3, .slice A4 n4 c4, .slice A5 n5 c5, .int .i64 r.x] := Bk.new _ _ _
  replace hs0 := hs0.call bB
  replace kl := kl.call bB
  replace x0 := cell_call x0 bB; replace x1 := cell_call x1 bB; replace x2 := cell_call x2 bB; replace x3 := cell_call x3 bB; replace x4 := cell_call x4 bB; replace x5 := cell_call x5 bB; replace i0 := cell_call i0 bB; replace iL := cell_call iL bB
  replace hP := hP.call bB; replace r1 := r1.call bB; replace r2 := r2.call bB; replace r3 := r3.call bB; replace r4 := r4.call bB; replace r5 := r5.mono (lo_mono bB.size) (kept_below bB)
  clear q0 q1 q2 q3 q4 q5 bB l2
  generalize w1.alloc (.cells #[.slice A1 n1 c1, .slice A2 n2 c2, .slice A3 n3 c3, .slice A4 n4 c4, .slice A5 n5 c5, .int .i64 r.x] 48) = w2 at *
  generalize w1.heap.size = br at kr ⊢
  have l0 : w2.cell? ⟨bl, 0, none⟩ = some (.int .i64 3) := kl.cell 0
  have hw0 := HW0.out; have hw2 := HW2.out; have hwk := HWK.out
  go_upto_region 25 with fail
  clear hw0 hw2
  clear hwk x0 x1 x2 x3 x4 x5
  have z3 : w2.cell? ⟨br, 3, none⟩ = some (.slice A4 n4 c4) := kr.cell 3
  cases hout : r.out with
  | nil =>
    have hn4 : n4 = 0 := by have := HL4.out; rw [hout] at this; simpa using this.symm
    have HRES := Lib.hid (show R = run by rw [HR9.out, hout])
    have HNZ := Lib.hid (show (rn : Int) - ((rn : Int) - 1 - (L : Int)) = (nx : Int) by rw [HNXX.out, HRES.out, next_eql (by omega) (by omega) (by rw [← HL.out, HRL.out]; omega), ← HL.out, HRL.out])
    have HF := Lib.hid fun (v : Int) (h : v = (L : Int) + 1) => FIN.out (some ⟨rb, ro, none⟩) rn rc w2 v (by rw [HRES.out]; exact hs0.hI) hd hs0.bw (by rw [h]; have := HNZ.out; omega)
    have hwb := wr_back rn L (by omega)
    clear FIN hout
    subst hn4
    have hw2 := HW2.out; have hw0 := HW0.out
    go_wp2
    go_ret2
    exact HF.out _ (by first | rfl | omega)
  | cons g t =>
    have hn4 : 0 < n4 := by have := HL4.out; rw [hout] at this; simp at this; omega
    have n40 : decide ((0 : Int) < (n4 : Int)) = true := by simp; omega
    have n40' : decide (0 < n4) = true := by simp; omega
    obtain ⟨p9, ps9, hps9⟩ : ∃ p9 ps9, ps = p9 :: ps9 := by
      cases ps with
      | nil => have := HML.out; simp at this; have := m0; omega
      | cons a b => exact ⟨a, b, rfl⟩
    subst hps9
    have hpl9 := places_last HPW.out
    rw [← HL.out] at hpl9
    have HRES := Lib.hid (show R = joinL (p9 :: ps9) g run by rw [HR9.out, hout])
    have hRl : R.length = rn - ps9.length := by rw [HRES.out, join_len_eq (fun q hq => (HPS.out q hq).2.1) HPW.out, HRL.out]
    have hpl8 : ps9.length ≤ L := by simpa using hpl9
    have HNZ := Lib.hid (show ((rn - ps9.length : Nat) : Int) - ((rn : Int) - 1 - (L : Int)) = (nx : Int) by rw [HNXX.out, hRl, next_eql (by omega) (by omega) (by rw [← HL.out, HRL.out]; omega), ← HL.out, HRL.out])
    have hw9 := wr_nextl (rn - ps9.length) rn L nx HNZ.out (by omega) (by omega) (by omega)
    have HW9 := Lib.hid hw9
    have HC := Lib.hid (qligated_c r A1 n1 c1 A2 n2 c2 A3 n3 c3 A4 n4 c4 A5 n5 c5 (some ⟨rb, ro, none⟩) rn rc run (some ⟨pb, po, none⟩) m c p9 ps9 g t w2 hs0.hI hP hpd r4 d4 hout (fun q hq => (HPS.out q hq).2.1) HPW.out hrn1)
    rw [← HRES.out] at HC
    have HRL2 := Lib.hid hRl
    have zA : w2.cell? ⟨br, 0, none⟩ = some (.slice A1 n1 c1) ∧ w2.cell? ⟨br, 1, none⟩ = some (.slice A2 n2 c2) ∧ w2.cell? ⟨br, 2, none⟩ = some (.slice A3 n3 c3) ∧ w2.cell? ⟨br, 3, none⟩ = some (.slice A4 n4 c4) ∧ w2.cell? ⟨br, 4, none⟩ = some (.slice A5 n5 c5) ∧ w2.cell? ⟨br, 5, none⟩ = some (.int .i64 r.x) := And.intro (kr.cell 0) (And.intro (kr.cell 1) (And.intro (kr.cell 2) (And.intro (kr.cell 3) (And.intro (kr.cell 4) ((kr.cell 5))))))
    obtain ⟨za0, za1, za2, za3, za4, za5⟩ := zA
    clear hout hRl hw9 hpl9
    go_wp2_with fail
    refine HC.out.mono ?_
    rintro e w4 ⟨A9, n9, c9, rfl, o9, b9⟩
    clear HC za0 za1 za2 za3 za4 za5
    have hn9 : n9 = rn - ps9.length := o9.rdI.len.symm.trans HRL2.out
    have HF := Lib.hid fun (v : Int) (h : v = (nx : Int)) => FIN.out A9 n9 c9 w4 v o9.rdI o9.hd (below_call hs0.bw b9) h
    have hw9 := HW9.out
    rw [← hn9] at hw9
    clear o9 b9 FIN hn9
    have hw2 := HW2.out; have hw0 := HW0.out
    go_wp2
    go_ret2
    exact HF.out _ (by first | rfl | exact hw9 | omega)


/-- What a call leaves, so deep. -/
def calledL (F : Fnt) (dp : Nat) (n : Int) (run : List Itm) (p : Nat) : List Itm :=
  if 4 < dp then run else match lkAt F n with
  | none => run
  | some l => if 1 ≤ l.kind ∧ l.kind ≤ 4 then (match matchL F l run (p : Int) [] with | some (j, ps) => doL w64 F (4 - dp) l (l.rules.getD j default) ps run | none => run) else run
theorem called_deep {F : Fnt} {dp : Nat} {n : Int} {run : List Itm} {p : Nat} (h : 4 < dp) : calledL F dp n run p = run := by unfold calledL; rw [if_pos h]
theorem called_out {F : Fnt} {dp : Nat} {n : Int} {run : List Itm} {p : Nat} (h : lkAt F n = none) : calledL F dp n run p = run := by unfold calledL; rw [h]; split <;> rfl
theorem called_kind {F : Fnt} {dp : Nat} {n : Int} {l : Lk} {run : List Itm} {p : Nat} (h : lkAt F n = some l) (hk : ¬ (1 ≤ l.kind ∧ l.kind ≤ 4)) : calledL F dp n run p = run := by
  unfold calledL; rw [h]; split
  · rfl
  · simp only; rw [if_neg hk]
theorem called_match {F : Fnt} {dp : Nat} {n : Int} {l : Lk} {run : List Itm} {p : Nat} (hd : ¬ 4 < dp) (h : lkAt F n = some l) (hk : 1 ≤ l.kind ∧ l.kind ≤ 4) : calledL F dp n run p = match matchQ F n run (p : Int) [] with | some (j, ps) => doL w64 F (4 - dp) l (l.rules.getD j default) ps run | none => run := by
  unfold calledL matchQ; rw [if_neg hd, h]; simp only; rw [if_pos hk]
theorem called_len {F : Fnt} {dp : Nat} {n : Int} {run : List Itm} {p : Nat} (h : run.length ≤ 1000) : (calledL F dp n run p).length ≤ 1000 := by
  unfold calledL
  split
  · exact h
  · split
    · exact h
    · split
      · split
        · rename_i hm
          obtain ⟨a, b, c⟩ := match_places hm
          have := doL_len (w := w64) (F := F) (d := 4 - dp) (lk := ‹Lk›) (r := (‹Lk›).rules.getD ‹Nat› default) a b c
          omega
        · exact h
      · exact h

set_option maxRecDepth 100000 in
set_option maxHeartbeats 4000000 in
theorem qCalled_c (f : FV) (F : Fnt) (hsm : SmF F) (dp : Nat) (hdp : dp ≤ 5) (n : Int) (RA : Option Addr) (rn rc : Nat) (run : List Itm) (p : Nat) (w : World) (hf : IsF w (lo w.heap.size) f F) (hI : RdI w (lo w.heap.size) RA rn run) (hd : Hd rn rc) (hln : run.length ≤ 1000)
    (hdo : dp ≤ 4 → ∀ (q : Nat) (lk : Lk), F.lks[q]? = some lk → 1 ≤ lk.kind → lk.kind ≤ 4 → QDd f F q lk dp) :
    Calls Try.prog 52 #[.agg f.cells, .int .i64 n, .slice RA rn rc, .int .i64 (p : Int), .int .i64 (dp : Int)] w (QRPost w (calledL F dp n run p)) := by
  have hs0 := LS'.new hf hI
  obtain ⟨R, hR⟩ : ∃ R, R = calledL F dp n run p := ⟨_, rfl⟩
  rw [← hR]
  have HR := Lib.hid hR; have HDO := Lib.hid hdo; have HSM := Lib.hid hsm; have HLN := Lib.hid hln
  have hlf := hf.2.1.len
  have hld := hf.2.2.2
  have hlnM : f.ln ≤ 9223372036854775807 := Nat.le_trans hld.1 hld.2
  have hrn : rn ≤ 1000 := by have := hI.len; omega
  clear hR hdo hsm hln hf hI
  unfold FV.cells at hs0 ⊢
  by_cases h5 : 4 < dp
  · have t5 : decide ((4 : Int) < (dp : Int)) = true := by simp; omega
    have t5' : decide (4 < dp) = true := by simp; omega
    have HRES := Lib.hid (show R = run by rw [HR.out, called_deep h5])
    go_enter Try.func52, Try.ntmps52
    go_wp2
    go_ret
    rw [HRES.out]
    exact ⟨RA, rn, rc, rfl, hs0.hI, hd, hs0.bw⟩
  · have t5 : decide ((4 : Int) < (dp : Int)) = false := by simp; omega
    have t5' : decide (4 < dp) = false := by simp; omega
    by_cases hneg : n < 0
    · have tn : decide (n < 0) = true := by simp; omega
      have HRES := Lib.hid (show R = run by rw [HR.out, called_out (lkAt_out (.inl hneg))])
      go_enter Try.func52, Try.ntmps52
      go_wp2
      go_ret
      rw [HRES.out]
      exact ⟨RA, rn, rc, rfl, hs0.hI, hd, hs0.bw⟩
    · have tn : decide (n < 0) = false := by simp; omega
      by_cases hbig : (f.ln : Int) ≤ n
      · have tb : decide ((f.ln : Int) ≤ n) = true := by simp; omega
        have HRES := Lib.hid (show R = run by rw [HR.out, called_out (lkAt_out (.inr (by omega)))])
        clear hlf
        go_enter Try.func52, Try.ntmps52
        go_wp2
        go_ret
        rw [HRES.out]
        exact ⟨RA, rn, rc, rfl, hs0.hI, hd, hs0.bw⟩
      · have tb : decide ((f.ln : Int) ≤ n) = false := by simp; omega
        obtain ⟨q, rfl⟩ : ∃ q : Nat, n = (q : Int) := ⟨n.toNat, by omega⟩
        have tb' : decide (f.ln ≤ q) = false := by simp; omega
        have qz : (0 : Int) ≤ (q : Int) := by omega
        have ql : (q : Int) < (f.ln : Int) := by omega
        obtain ⟨lk, hlk⟩ := at_some F.lks q (by omega)
        obtain ⟨b, o, hla, _, hc⟩ := hs0.hf.2.1.pos (by omega)
        obtain ⟨cs, ⟨A, ln, lc, rfl, hRR, hRd⟩, hcc⟩ := hc q lk hlk
        have g0 := hcc 0 _ rfl
        rw [Nat.add_zero] at g0
        have HLK := Lib.hid hlk; have HLA := Lib.hid hla
        clear hlf hc hcc hRR hRd hlk hla
        go_enter Try.func52, Try.ntmps52
        go_upto_region 1 with fail
        generalize w.alloc (.cells #[.int .i64 f.u0, .slice f.ga f.gn f.gc, .slice f.ca f.cn f.cc, .slice f.la f.ln f.lc, .slice f.a4 f.n4 f.c4, .slice f.a5 f.n5 f.c5, .slice f.a6 f.n6 f.c6, .slice f.a7 f.n7 f.c7, .slice f.a8 f.n8 f.c8] 31) = w0 at hs0 g0 ⊢
        generalize hbf : w.heap.size = bf at hs0 ⊢
        have y3 := (font_cells hs0.kf).2.2.2.1
        rw [HLA.out] at y3
        by_cases k1 : lk.kind < 1
        · have tk : decide (lk.kind < 1) = true := by simp; omega
          have HRES := Lib.hid (show R = run by rw [HR.out, called_kind (lkAt_nat HLK.out) (by omega)])
          go_wp2
          go_ret
          rw [HRES.out]
          exact ⟨RA, rn, rc, rfl, hs0.hI, hd, hs0.bw⟩
        · have tk : decide (lk.kind < 1) = false := by simp; omega
          by_cases k4 : 4 < lk.kind
          · have tk4 : decide (4 < lk.kind) = true := by simp; omega
            have HRES := Lib.hid (show R = run by rw [HR.out, called_kind (lkAt_nat HLK.out) (by omega)])
            go_wp2
            go_ret
            rw [HRES.out]
            exact ⟨RA, rn, rc, rfl, hs0.hI, hd, hs0.bw⟩
          · have tk4 : decide (4 < lk.kind) = false := by simp; omega
            have HRES := Lib.hid (show R = _ by rw [HR.out, called_match h5 (lkAt_nat HLK.out) (by omega)])
            have HD := Lib.hid (HDO.out (by omega) q lk HLK.out (by omega) (by omega))
            go_upto_region 3 with fail
            clear g0 y3
            have HC := Lib.hid (qMatch_c f F (q : Int) RA rn rc run (p : Int) none 0 0 [] w0 hs0.hf hs0.hI SlE.nil (by omega) (by omega) HSM.out)
            unfold FV.cells at HC
            obtain ⟨y0, y1, y2, y3, y4, y5, y6, y7, y8⟩ := font_cells hs0.kf
            obtain ⟨ans, hans⟩ : ∃ x, x = matchQ F (q : Int) run (p : Int) [] := ⟨_, rfl⟩
            rw [← hans] at HC HRES
            have HA := Lib.hid hans
            clear hans
            go_wp2_with fail
            refine HC.out.mono ?_
            intro e w1 hP
            clear HC y0 y1 y2 y3 y4 y5 y6 y7 y8
            cases ans with
            | none =>
              have HRES2 := Lib.hid (show R = run from HRES.out)
              obtain ⟨rfl, b1⟩ := hP
              have hs1 := hs0.call b1
              go_wp2
              go_ret
              rw [HRES2.out]
              exact ⟨RA, rn, rc, rfl, hs1.hI, hd, hs1.bw⟩
            | some x =>
              obtain ⟨j, ps⟩ := x
              have HRES2 := Lib.hid (show R = doL w64 F (4 - dp) lk (lk.rules.getD j default) ps run from HRES.out)
              have hml : matchL F lk run (p : Int) [] = some (j, ps) := by have := HA.out; unfold matchQ at this; rw [lkAt_nat HLK.out] at this; exact this.symm
              obtain ⟨MA, mm, mc, rfl, om, b1⟩ := hP
              have hs1 := hs0.call b1
              obtain ⟨y0, y1, y2, y3, y4, y5, y6, y7, y8⟩ := font_cells hs1.kf
              have HC2 := Lib.hid (HD.out w1 RA rn rc run p j ps [] MA mm mc hs1.hf hs1.hI hd HLN.out hml om.rd om.hd)
              rw [← HRES2.out] at HC2
              unfold FV.cells at HC2
              have j0 : decide ((j : Int) < 0) = false := by simp
              clear hml om b1
              go_wp2_with fail
              refine HC2.out.mono ?_
              rintro e w2 ⟨A9, n9, c9, rfl, h9, d9, b9⟩
              clear HC2 y0 y1 y2 y3 y4 y5 y6 y7 y8
              have hs2 := hs1.call b9
              go_wp2
              go_ret
              exact ⟨A9, n9, c9, rfl, h9, d9, hs2.bw⟩


/-- One call of a chain, as the document does it. -/
def qstep (F : Fnt) (dp : Nat) (lk : Lk) (k : Nat) (run : List Itm) (c : Int × Int) : List Itm := match nthL F lk.ign run k c.1 with | some p => calledL F (dp + 1) c.2 run p | none => run
theorem qstep_step (F : Fnt) (dp : Nat) (h : dp < 4) (lk : Lk) (k : Nat) : qstep F dp lk k = stepC w64 F (4 - (dp + 1)) lk k := by
  funext run c
  unfold qstep stepC calledL
  cases nthL F lk.ign run k c.1 with
  | none => rfl
  | some p =>
    simp only
    rw [if_neg (by omega)]
    cases lkAt F c.2 with
    | none => rfl
    | some l => rfl
theorem qstep_deep (F : Fnt) (lk : Lk) (k : Nat) : ∀ (l : List (Int × Int)) (run : List Itm), l.foldl (qstep F 4 lk k) run = run
  | [], _ => rfl
  | c :: l, run => by
    have e : qstep F 4 lk k run c = run := by
      unfold qstep
      cases nthL F lk.ign run k c.1 with
      | none => rfl
      | some p => exact called_deep (by omega)
    rw [List.foldl_cons, e]; exact qstep_deep F lk k l run
theorem qfold {F : Fnt} {dp : Nat} (hdp : dp ≤ 4) {lk : Lk} (hk : lk.kind = 4) {r : Rul} {ps : List Nat} {run : List Itm} : r.calls.foldl (qstep F dp lk (ps.headD 0)) run = doL w64 F (4 - dp) lk r ps run := by
  by_cases h : dp = 4
  · subst h; rw [qstep_deep]; exact (doL_deep hk).symm
  · rw [qstep_step F dp (by omega), show 4 - dp = (4 - (dp + 1)) + 1 by omega, doL_chain hk]
theorem qstep_len {F : Fnt} {dp : Nat} {lk : Lk} {k : Nat} {run : List Itm} {c : Int × Int} (h : run.length ≤ 1000) : (qstep F dp lk k run c).length ≤ 1000 := by
  unfold qstep; split
  · exact called_len h
  · exact h
theorem fold_drop' {α β : Type} {f : β → α → β} {l : List α} {j : Nat} {c : α} {b : β} (h : l[j]? = some c) : (l.drop j).foldl f b = (l.drop (j + 1)).foldl f (f b c) := by
  obtain ⟨hl, rfl⟩ := List.getElem?_eq_some_iff.1 h
  rw [List.drop_eq_getElem_cons hl, List.foldl_cons]
theorem wrapEq' (x : Int) : IntKind.i64.wrap x = wrap64 x := by rw [IntKind.wrap_i64]; unfold wrap64; rfl
theorem wr_dp (dp : Nat) (h : dp ≤ 4) : IntKind.i64.wrap ((dp : Int) + 1) = (dp : Int) + 1 := by rw [wrapEq']; unfold wrap64; omega
theorem wr_next' (n' n L : Nat) (h1 : n' ≤ 2000000) (h2 : n ≤ 1000) (h3 : L ≤ 1000) : wrap64 ((n' : Int) - ((n : Int) - (L : Int) - 1)) = (n' : Int) - ((n : Int) - (L : Int) - 1) := by unfold wrap64; omega

set_option maxRecDepth 100000 in
set_option maxHeartbeats 8000000 in
theorem qdone_chain (f : FV) (F : Fnt) (hsm : SmF F) (q : Nat) (lk : Lk) (dp : Nat) (hdp : dp ≤ 4) (hlk : F.lks[q]? = some lk) (hkd : lk.kind = 4) (hdo : dp < 4 → ∀ (q : Nat) (lk : Lk), F.lks[q]? = some lk → 1 ≤ lk.kind → lk.kind ≤ 4 → QDd f F q lk (dp + 1)) : QDd f F q lk dp := by
  intro W RA rn rc run k j ps forms IA m c hf hI hd hln hans hP hpd
  obtain ⟨r, hr, _, _, hne, hhd, hpl, hps, hpw, hfit, _, _⟩ := matchL_some hans
  have hgr : lk.rules.getD j default = r := by simp [hr]
  rw [hgr]
  obtain ⟨m1, m2, m3⟩ := last_ok hans
  have hlast := last_at hne
  have hk0 : ps[0]? = some k := by rw [← List.head?_eq_getElem?, hhd]; simp
  have hml := hP.len
  rw [natI_len] at hml
  obtain ⟨L, hL⟩ : ∃ L, L = ps.getLastD 0 := ⟨_, rfl⟩
  rw [← hL] at m1 m2 m3 hlast
  have hm0 : 0 < m := by rw [← hml]; exact List.length_pos_iff.2 hne
  obtain ⟨pb, po, rfl, _, hpc⟩ := hP.pos hm0
  have i0 : W.cell? ⟨pb, po, none⟩ = some (.int .i64 (k : Int)) := by
    obtain ⟨cs, rfl, hcc⟩ := hpc 0 (k : Int) (natI_at hk0)
    have := hcc 0 _ rfl
    simpa using this
  have iL : W.cell? ⟨pb, po + (m - 1), none⟩ = some (.int .i64 (L : Int)) := by
    obtain ⟨cs, rfl, hcc⟩ := hpc (m - 1) (L : Int) (natI_at (by rw [← hml]; exact hlast))
    have := hcc 0 _ rfl
    simpa using this
  have hrl := hI.len
  obtain ⟨it, hit⟩ := at_some run k (by omega)
  obtain ⟨rb, ro, rfl, _, hci⟩ := hI.pos (by omega)
  obtain ⟨cs, rfl, hcc⟩ := hci k it hit
  have x0 := hcc 0 _ rfl
  have x1 := hcc 1 _ rfl
  have x2 := hcc 2 _ rfl
  have x3 := hcc 3 _ rfl
  have x4 := hcc 4 _ rfl
  have x5 := hcc 5 _ rfl
  rw [Nat.add_zero] at x0
  have hlf := hf.2.1.len
  have hld := hf.2.2.2
  have hlnM : f.ln ≤ 9223372036854775807 := Nat.le_trans hld.1 hld.2
  obtain ⟨lb, lo', hla, _, hcl⟩ := hf.2.1.pos (by have := (List.getElem?_eq_some_iff.1 hlk).1; omega)
  obtain ⟨cs, ⟨LA, ln, lc, rfl, hRR, hRd⟩, hccl⟩ := hcl q lk hlk
  have g0 := hccl 0 _ rfl
  have g1 := hccl 1 _ rfl
  have g2 := hccl 2 _ rfl
  rw [Nat.add_zero] at g0
  have hlR := hRR.len
  have hjl : j < ln := by have := (List.getElem?_eq_some_iff.1 hr).1; omega
  have hlM : ln ≤ 9223372036854775807 := Nat.le_trans hRd.1 hRd.2
  obtain ⟨mb, mo, rfl, _, hcr⟩ := hRR.pos (by omega)
  obtain ⟨cs, ⟨A1, n1, c1, A2, n2, c2, A3, n3, c3, A4, n4, c4, A5, n5, c5, rfl, r1, r2, r3, r4, r5, d1, d2, d3, d4, d5⟩, hccr⟩ := hcr j r hr
  have q0 := hccr 0 _ rfl
  have q1 := hccr 1 _ rfl
  have q2 := hccr 2 _ rfl
  have q3 := hccr 3 _ rfl
  have q4 := hccr 4 _ rfl
  have q5 := hccr 5 _ rfl
  rw [Nat.add_zero] at q0
  have qz : (0 : Int) ≤ (q : Int) := by omega
  have qn : (q : Int) < (f.ln : Int) := by have := (List.getElem?_eq_some_iff.1 hlk).1; omega
  have jz : (0 : Int) ≤ (j : Int) := by omega
  have jn : (j : Int) < (ln : Int) := by omega
  have kz : (0 : Int) ≤ (k : Int) := by omega
  have kn : (k : Int) < (rn : Int) := by omega
  have m0 : (0 : Int) < (m : Int) := by omega
  have hmM : m ≤ 9223372036854775807 := by have := hpd.1; have := hpd.2; omega
  have hrM : rn ≤ 9223372036854775807 := by omega
  have hkr : k + 1 ≤ rn := by omega
  have HRN := Lib.hid (show rn ≤ 1000000 by omega)
  have HW0 := Lib.hid (show wrap64 ((rn : Int) - (L : Int)) = (rn : Int) - (L : Int) by unfold wrap64; omega)
  have HW2 := Lib.hid (show wrap64 ((rn : Int) - (L : Int) - 1) = (rn : Int) - (L : Int) - 1 by unfold wrap64; omega)
  have HWK := Lib.hid (show wrap64 ((k : Int) + 1) = ((k + 1 : Nat) : Int) by unfold wrap64; omega)
  have HL := Lib.hid hL; have HIT := Lib.hid hit; have HRL := Lib.hid hrl; have HML := Lib.hid hml; have HR := Lib.hid hr
  have M1 := Lib.hid m1; have M2 := Lib.hid m2; have M3 := Lib.hid m3; have HPS := Lib.hid hps; have HPW := Lib.hid hpw; have HLN := Lib.hid hln; have HANS := Lib.hid hans
  have hs0 := LS'.new hf hI
  have HLA := Lib.hid hla
  have x0 := cell_call x0 hs0.bw; have x1 := cell_call x1 hs0.bw; have x2 := cell_call x2 hs0.bw; have x3 := cell_call x3 hs0.bw; have x4 := cell_call x4 hs0.bw; have x5 := cell_call x5 hs0.bw
  have g0 := cell_call g0 hs0.bw; have g1 := cell_call g1 hs0.bw; have g2 := cell_call g2 hs0.bw
  have q0 := cell_call q0 hs0.bw; have q1 := cell_call q1 hs0.bw; have q2 := cell_call q2 hs0.bw; have q3 := cell_call q3 hs0.bw; have q4 := cell_call q4 hs0.bw; have q5 := cell_call q5 hs0.bw
  have i0 := cell_call i0 hs0.bw; have iL := cell_call iL hs0.bw
  have hP := hP.call hs0.bw
  have r1 := r1.call hs0.bw; have r2 := r2.call hs0.bw; have r3 := r3.call hs0.bw; have r4 := r4.call hs0.bw; have r5 := r5.mono (lo_mono hs0.bw.size) (kept_below hs0.bw)
  clear hans hhd hpl hps hpw hfit hgr hne hlast hk0 hpc hml hm0 hit hci hcc hlf hld hla hcl hccl hlR hjl hcr hccr hr hL m1 m2 m3 hrl hf hI hRR
  unfold FV.cells at hs0 x0 x1 x2 x3 x4 x5 g0 g1 g2 q0 q1 q2 q3 q4 q5 i0 iL hP r1 r2 r3 r4 r5 ⊢
  have hk9 : ps.headD 0 = k := by
    obtain ⟨_, _, _, _, _, hhd, _⟩ := matchL_some HANS.out
    cases ps with
    | nil => simp at hhd
    | cons a t => simp at hhd; simpa using hhd
  have hin : r.inn ≠ [] := by
    obtain ⟨r9, hr9, _, _, hne9, _, hpl9, _⟩ := matchL_some HANS.out
    rw [HR.out] at hr9; injection hr9 with hr9; subst hr9
    intro e; rw [e] at hpl9; exact hne9 (List.eq_nil_of_length_eq_zero hpl9)
  rw [← qfold hdp hkd, hk9]
  obtain ⟨R, hR⟩ : ∃ R, R = r.calls.foldl (qstep F dp lk k) run := ⟨_, rfl⟩
  rw [← hR]
  obtain ⟨nx, hnx⟩ : ∃ nx, nx = nextL lk ps k run.length R.length := ⟨_, rfl⟩
  rw [← hnx]
  have HR9 := Lib.hid hR; have HNXX := Lib.hid hnx
  clear hR hnx
  have HDO := Lib.hid fun (h : dp + 1 ≤ 4) => hdo (by omega)
  have HSM := Lib.hid hsm
  have HC5 := Lib.hid r5.len
  have hn5M : n5 ≤ 9223372036854775807 := Nat.le_trans d5.1 d5.2
  have hrn1 : rn ≤ 1000 := by have := HRL.out; have := HLN.out; omega
  have hLr : L < rn := by have := M2.out; have := HRL.out; omega
  have hwd : wrap64 ((dp : Int) + 1) = ((dp + 1 : Nat) : Int) := by unfold wrap64; omega
  have HWD := Lib.hid hwd
  have hkM : k ≤ 1000000 := by have := HLN.out; omega
  have HKK := Lib.hid (show k ≤ 1000 by have := HLN.out; omega)
  have hwd2 := wr_dp dp hdp
  have HWD2 := Lib.hid hwd2
  clear hdo hsm hin hwd hwd2
  rw [hkd] at g0
  go_enter Try.func36, Try.ntmps36
  go_upto_region 1 with fail
  generalize W.alloc (.cells #[.int .i64 f.u0, .slice f.ga f.gn f.gc, .slice f.ca f.cn f.cc, .slice f.la f.ln f.lc, .slice f.a4 f.n4 f.c4, .slice f.a5 f.n5 f.c5, .slice f.a6 f.n6 f.c6, .slice f.a7 f.n7 f.c7, .slice f.a8 f.n8 f.c8] 31) = w0 at hs0 x0 x1 x2 x3 x4 x5 g0 g1 g2 q0 q1 q2 q3 q4 q5 i0 iL hP r1 r2 r3 r4 r5 ⊢
  generalize hbf : W.heap.size = bf at hs0 ⊢
  clear hbf
  have y3 := (font_cells hs0.kf).2.2.2.1
  rw [HLA.out] at y3
  go_upto_region 2 with fail
  have bA : Below w0.heap.size w0 (w0.alloc (.cells #[.int .i64 4, .bool lk.ign, .slice (some ⟨mb, mo, none⟩) ln lc] 44)) := (Below.refl _ _).alloc (Nat.le_refl _) _
  have kl : Bk (w0.alloc (.cells #[.int .i64 4, .bool lk.ign, .slice (some ⟨mb, mo, none⟩) ln lc] 44)) w0.heap.size 44 #[.int .i64 4, .bool lk.ign, .slice (some ⟨mb, mo, none⟩) ln lc] := Bk.new _ _ _
  replace hs0 := hs0.call bA
  replace x0 := cell_call x0 bA; replace x1 := cell_call x1 bA; replace x2 := cell_call x2 bA; replace x3 := cell_call x3 bA; replace x4 := cell_call x4 bA; replace x5 := cell_call x5 bA; replace q0 := cell_call q0 bA; replace q1 := cell_call q1 bA; replace q2 := cell_call q2 bA; replace q3 := cell_call q3 bA; replace q4 := cell_call q4 bA; replace q5 := cell_call q5 bA; replace i0 := cell_call i0 bA; replace iL := cell_call iL bA
  replace hP := hP.call bA; replace r1 := r1.call bA; replace r2 := r2.call bA; replace r3 := r3.call bA; replace r4 := r4.call bA; replace r5 := r5.mono (lo_mono bA.size) (kept_below bA)
  clear y3 g0 g1 g2 bA
  generalize w0.alloc (.cells #[.int .i64 4, .bool lk.ign, .slice (some ⟨mb, mo, none⟩) ln lc] 44) = w1 at *
  generalize w0.heap.size = bl at kl ⊢
  have l2 : w1.cell? ⟨bl, 2, none⟩ = some (.slice (some ⟨mb, mo, none⟩) ln lc) := kl.cell 2
  go_upto_region 3 with fail
  have bB : Below w1.heap.size w1 (w1.alloc (.cells #[.slice A1 n1 c1, .slice A2 n2 c2, .slice A3 n3 c3, .slice A4 n4 c4, .slice A5 n5 c5, .int .i64 r.x] 48)) := (Below.refl _ _).alloc (Nat.le_refl _) _
  have kr : Bk (w1.alloc (.cells #[.slice A1 n1 c1, .slice A2 n2 c2, .slice A3 n3 c3, .slice A4 n4 c4, .slice A5 n5 c5, .int .i64 r.x] 48)) w1.heap.size 48 #[.slice A1 n1 c1, .slice A2 n2 c2, .slice A3 n3 c3, .slice A4 n4 c4, .slice A5 n5 c5, .int .i64 r.x] := Bk.new _ _ _
  replace hs0 := hs0.call bB
  replace kl := kl.call bB
  replace x0 := cell_call x0 bB; replace x1 := cell_call x1 bB; replace x2 := cell_call x2 bB; replace x3 := cell_call x3 bB; replace x4 := cell_call x4 bB; replace x5 := cell_call x5 bB; replace i0 := cell_call i0 bB; replace iL := cell_call iL bB
  replace hP := hP.call bB; replace r1 := r1.call bB; replace r2 := r2.call bB; replace r3 := r3.call bB; replace r4 := r4.call bB; replace r5 := r5.mono (lo_mono bB.size) (kept_below bB)
  clear q0 q1 q2 q3 q4 q5 bB l2
  generalize w1.alloc (.cells #[.slice A1 n1 c1, .slice A2 n2 c2, .slice A3 n3 c3, .slice A4 n4 c4, .slice A5 n5 c5, .int .i64 r.x] 48) = w2 at *
  generalize w1.heap.size = br at kr ⊢
  have l0 : w2.cell? ⟨bl, 0, none⟩ = some (.int .i64 4) := kl.cell 0
  have hw0 := HW0.out; have hw2 := HW2.out; have hwk := HWK.out
  go_upto_region 28 with fail
  clear hw0 hw2
  clear x0 x1 x2 x3 x4 x5 hwk
  have kl' : Bk w2 bl 44 #[.int .i64 4, .bool lk.ign, .slice (some ⟨mb, mo, none⟩) ln lc] := kl
  have FIN := Lib.hid fun (A9 : Option Addr) (n9 c9 : Nat) (w9 : World) (v : Int) (h1 : RdI w9 (lo w9.heap.size) A9 n9 R) (h2 : Hd n9 c9) (h3 : Below W.heap.size W w9) (h4 : v = (nx : Int)) => (show DnPost W R nx (.returned (.tuple #[.slice A9 n9 c9, .int .i64 v])) w9 from ⟨A9, n9, c9, by rw [h4], h1, h2, h3⟩)
  go_wp2
  go_loopw [2, 25] (fun s2 s25 wr => ∃ (i n c : Nat) (A : Option Addr) (run' : List Itm), i ≤ n5 ∧ s25 = .int .i64 (i : Int) ∧ s2 = .slice A n c ∧ run'.length ≤ 1000 ∧ (r.calls.drop i).foldl (qstep F dp lk k) run' = R ∧ RdI wr (lo wr.heap.size) A n run' ∧ Hd n c ∧ Below w2.heap.size w2 wr) (fun _ s _ => n5 - (intOf s).toNat)
  case atStart => exact ⟨0, rn, rc, _, run, by omega, rfl, rfl, HLN.out, HR9.out.symm, hs0.hI, hd, Below.refl _ _⟩
  case round =>
    obtain ⟨i, n', c', A', run', hi, rfl, rfl, hl', hfo, hI', hd', hbr⟩ := hrel
    have hsr := hs0.call hbr
    have z4 : wr.cell? ⟨br, 4, none⟩ = some (.slice A5 n5 c5) := (kr.call hbr).cell 4
    have hn' : n' ≤ 1000 := by have := hI'.len; omega
    have HL9 := Lib.hid hI'.len
    by_cases hlt : i < n5
    · obtain ⟨⟨x1, x2⟩, hx⟩ := at_some r.calls i (by have := HC5.out; omega)
      rw [fold_drop' hx] at hfo
      have HFO := Lib.hid hfo
      obtain ⟨cb, co, e5, _, hcs⟩ := (r5.mono (lo_mono hbr.size) (kept_below hbr) : RdC wr (lo wr.heap.size) A5 n5 r.calls).pos (by omega)
      obtain ⟨cs, ⟨rfl, hn1, hn2⟩, hccs⟩ := hcs i (x1, x2) hx
      have v0 := hccs 0 _ rfl
      have v1 := hccs 1 _ rfl
      rw [Nat.add_zero] at v0
      rw [e5] at z4
      have iz : (0 : Int) ≤ (i : Int) := by omega
      have i5 : (i : Int) < (n5 : Int) := by omega
      have HS := Lib.hid fun (W' : World) (b : Below wr.heap.size wr W') => (show W'.cell? ⟨bf, 0, none⟩ = some (.int .i64 f.u0) ∧ W'.cell? ⟨bf, 1, none⟩ = some (.slice f.ga f.gn f.gc) ∧ W'.cell? ⟨bf, 2, none⟩ = some (.slice f.ca f.cn f.cc) ∧ W'.cell? ⟨bf, 3, none⟩ = some (.slice f.la f.ln f.lc) ∧ W'.cell? ⟨bf, 4, none⟩ = some (.slice f.a4 f.n4 f.c4) ∧ W'.cell? ⟨bf, 5, none⟩ = some (.slice f.a5 f.n5 f.c5) ∧ W'.cell? ⟨bf, 6, none⟩ = some (.slice f.a6 f.n6 f.c6) ∧ W'.cell? ⟨bf, 7, none⟩ = some (.slice f.a7 f.n7 f.c7) ∧ W'.cell? ⟨bf, 8, none⟩ = some (.slice f.a8 f.n8 f.c8) ∧ W'.cell? ⟨bl, 0, none⟩ = some (.int .i64 4) ∧ W'.cell? ⟨bl, 1, none⟩ = some (.bool lk.ign) ∧ W'.cell? ⟨bl, 2, none⟩ = some (.slice (some ⟨mb, mo, none⟩) ln lc) ∧ W'.cell? ⟨br, 4, none⟩ = some (.slice (some ⟨cb, co, none⟩) n5 c5) ∧ W'.cell? ⟨cb, co + i * 2, none⟩ = some (.int .i64 x1) ∧ W'.cell? ⟨cb, co + i * 2 + 1, none⟩ = some (.int .i64 x2) from by
        obtain ⟨y0, y1, y2, y3, y4, y5, y6, y7, y8⟩ := font_cells (hsr.call b).kf
        have kl9 := (kl'.call hbr).call b
        exact And.intro y0 (And.intro y1 (And.intro y2 (And.intro y3 (And.intro y4 (And.intro y5 (And.intro y6 (And.intro y7 (And.intro y8 (And.intro (kl9.cell 0) (And.intro (kl9.cell 1) (And.intro (kl9.cell 2) (And.intro (cell_call z4 b) (And.intro (cell_call v0 b) ((cell_call v1 b))))))))))))))))
      have HCN := Lib.hid fun (W' : World) (b : Below wr.heap.size wr W') => qnth_c f F lk (some ⟨mb, mo, none⟩) ln lc A' n' c' run' k x1 W' (hsr.call b).hf (hI'.call b) (Nat.le_trans hn' (by decide)) hkM hn2
      have HLX := Lib.hid hl'
      unfold FV.cells lkc at HCN
      rw [hkd] at HCN
      obtain ⟨ans, hans⟩ : ∃ x, x = nthL F lk.ign run' k x1 := ⟨_, rfl⟩
      rw [← hans] at HCN
      have HA := Lib.hid hans
      have hHS := HS.out wr (Below.refl _ _)
      obtain ⟨y0, y1, y2, y3, y4, y5, y6, y7, y8, l0, l1, l2, s4, s0, s1⟩ := hHS
      clear hfo hcs hccs hx hans hl' v0 v1 z4 e5
      go_wp2
      go_region_held3 (fun w' => w'.cell? ⟨bf, 0, none⟩ = some (.int .i64 f.u0) ∧ w'.cell? ⟨bf, 1, none⟩ = some (.slice f.ga f.gn f.gc) ∧ w'.cell? ⟨bf, 2, none⟩ = some (.slice f.ca f.cn f.cc) ∧ w'.cell? ⟨bf, 3, none⟩ = some (.slice f.la f.ln f.lc) ∧ w'.cell? ⟨bf, 4, none⟩ = some (.slice f.a4 f.n4 f.c4) ∧ w'.cell? ⟨bf, 5, none⟩ = some (.slice f.a5 f.n5 f.c5) ∧ w'.cell? ⟨bf, 6, none⟩ = some (.slice f.a6 f.n6 f.c6) ∧ w'.cell? ⟨bf, 7, none⟩ = some (.slice f.a7 f.n7 f.c7) ∧ w'.cell? ⟨bf, 8, none⟩ = some (.slice f.a8 f.n8 f.c8) ∧ w'.cell? ⟨bl, 0, none⟩ = some (.int .i64 4) ∧ w'.cell? ⟨bl, 1, none⟩ = some (.bool lk.ign) ∧ w'.cell? ⟨bl, 2, none⟩ = some (.slice (some ⟨mb, mo, none⟩) ln lc) ∧ w'.cell? ⟨br, 4, none⟩ = some (.slice (some ⟨cb, co, none⟩) n5 c5) ∧ w'.cell? ⟨cb, co + i * 2, none⟩ = some (.int .i64 x1) ∧ w'.cell? ⟨cb, co + i * 2 + 1, none⟩ = some (.int .i64 x2)) (first | ((with_reducible refine HS.out _ ?_); go_grown; done) | go_keep) (first
        | (go_at_call 51; (with_reducible refine (HCN.out _ ?_).mono ?_); exact ⟨rfl, rfl, rfl, Nat.le_refl _, fun _ _ => rfl⟩; rintro e w5 ⟨rfl, hb5⟩; have b5 := below_undrew hb5))
      clear HCN hb5 y0 y1 y2 y3 y4 y5 y6 y7 y8 l0 l1 l2 s4 s0 s1
      cases ans with
      | none =>
        have HQ := Lib.hid (show (r.calls.drop (i + 1)).foldl (qstep F dp lk k) run' = R by
          have h := HFO.out
          rw [show qstep F dp lk k run' (x1, x2) = run' by unfold qstep; rw [← HA.out]] at h
          exact h)
        have hb6 := below_call hbr b5
        have hI6 := hI'.call b5
        clear HS hsr hI' hbr b5 kr kl' FIN
        go_wp2
        go_roundw
        case rel => exact ⟨i + 1, n', c', A', run', by omega, by go_num, rfl, HLX.out, HQ.out, hI6, hd', hb6⟩
        case measure => simp [intOf]; omega
      | some p9 =>
        have HQ := Lib.hid (show (r.calls.drop (i + 1)).foldl (qstep F dp lk k) (calledL F (dp + 1) x2 run' p9) = R by
          have h := HFO.out
          rw [show qstep F dp lk k run' (x1, x2) = calledL F (dp + 1) x2 run' p9 by unfold qstep; rw [← HA.out]] at h
          exact h)
        have HS5 := Lib.hid fun (W' : World) (b : Below w5.heap.size w5 W') => HS.out W' (below_call b5 b)
        have HCC := Lib.hid fun (W' : World) (b : Below w5.heap.size w5 W') => qCalled_c f F HSM.out (dp + 1) (by omega) x2 A' n' c' run' p9 W' ((hsr.call b5).call b).hf ((hI'.call b5).call b) hd' HLX.out HDO.out
        rw [show ((dp + 1 : Nat) : Int) = (dp : Int) + 1 by omega] at HCC
        unfold FV.cells at HCC
        have hHS := HS5.out w5 (Below.refl _ _)
        obtain ⟨y0, y1, y2, y3, y4, y5, y6, y7, y8, l0, l1, l2, s4, s0, s1⟩ := hHS
        have hb6 := below_call hbr b5
        have hwd := HWD2.out
        have hn9 : nthI (some p9) = (p9 : Int) := rfl
        have p9z : decide (0 ≤ (p9 : Int)) = true := by simp
        clear HS hsr hI' hbr b5 kr kl' FIN
        go_wp2
        go_region_held3 (fun w' => w'.cell? ⟨bf, 0, none⟩ = some (.int .i64 f.u0) ∧ w'.cell? ⟨bf, 1, none⟩ = some (.slice f.ga f.gn f.gc) ∧ w'.cell? ⟨bf, 2, none⟩ = some (.slice f.ca f.cn f.cc) ∧ w'.cell? ⟨bf, 3, none⟩ = some (.slice f.la f.ln f.lc) ∧ w'.cell? ⟨bf, 4, none⟩ = some (.slice f.a4 f.n4 f.c4) ∧ w'.cell? ⟨bf, 5, none⟩ = some (.slice f.a5 f.n5 f.c5) ∧ w'.cell? ⟨bf, 6, none⟩ = some (.slice f.a6 f.n6 f.c6) ∧ w'.cell? ⟨bf, 7, none⟩ = some (.slice f.a7 f.n7 f.c7) ∧ w'.cell? ⟨bf, 8, none⟩ = some (.slice f.a8 f.n8 f.c8) ∧ w'.cell? ⟨bl, 0, none⟩ = some (.int .i64 4) ∧ w'.cell? ⟨bl, 1, none⟩ = some (.bool lk.ign) ∧ w'.cell? ⟨bl, 2, none⟩ = some (.slice (some ⟨mb, mo, none⟩) ln lc) ∧ w'.cell? ⟨br, 4, none⟩ = some (.slice (some ⟨cb, co, none⟩) n5 c5) ∧ w'.cell? ⟨cb, co + i * 2, none⟩ = some (.int .i64 x1) ∧ w'.cell? ⟨cb, co + i * 2 + 1, none⟩ = some (.int .i64 x2)) (first | ((with_reducible refine HS5.out _ ?_); go_grown; done) | go_keep) (first
          | (go_at_call 52; (with_reducible refine (HCC.out _ ?_).mono ?_); exact ⟨rfl, rfl, rfl, Nat.le_refl _, fun _ _ => rfl⟩; rintro e w7 ⟨A9, n9, c9, rfl, h9, d9, hb9⟩; have b9 := below_undrew hb9))
        have hb7 := below_call hb6 b9
        clear HCC HS5 y0 y1 y2 y3 y4 y5 y6 y7 y8 l0 l1 l2 s4 s0 s1 hb9 b9 hb6 hwd
        go_wp2
        go_roundw
        case rel => exact ⟨i + 1, n9, c9, A9, _, by omega, by go_num, rfl, called_len HLX.out, HQ.out, h9, d9, hb7⟩
        case measure => simp [intOf]; omega
    · have i5 : decide ((i : Int) < (n5 : Int)) = false := by simp; omega
      have i5' : decide (i < n5) = false := by simp; omega
      have hrr : run' = R := by rw [List.drop_eq_nil_of_le (by have := HC5.out; omega)] at hfo; exact hfo
      subst hrr
      have HNZ := Lib.hid (show nx = (max ((n' : Int) - ((rn : Int) - 1 - (L : Int))) ((k : Int) + 1)).toNat by rw [HNXX.out]; unfold nextL; rw [← HL.out, HL9.out, HRL.out, if_pos hkd])
      have HF := Lib.hid fun (v : Int) (h : v = (nx : Int)) => FIN.out A' n' c' wr v hI' hd' hsr.bw h
      have hww := wr_next' n' rn L (Nat.le_trans hn' (by decide)) hrn1 (by omega)
      have hKK := HKK.out
      have HLR := Lib.hid hLr
      by_cases hc : (n' : Int) - ((rn : Int) - (L : Int) - 1) ≤ (k : Int)
      · have tc : decide ((n' : Int) - ((rn : Int) - (L : Int) - 1) ≤ (k : Int)) = true := by simp; omega
        have HF2 := Lib.hid fun (v : Int) (h : v = (k : Int) + 1) => HF.out v (by rw [h, HNZ.out]; omega)
        have hwk : wrap64 ((k : Int) + 1) = (k : Int) + 1 := by clear hww; unfold wrap64; omega
        clear FIN HF hI' hbr hsr hc kr kl'
        have hw2 := HW2.out; have hw0 := HW0.out
        go_wp2
        go_ret2
        exact HF2.out _ (by first | rfl | omega)
      · have tc : decide ((n' : Int) - ((rn : Int) - (L : Int) - 1) ≤ (k : Int)) = false := by simp; omega
        have HF2 := Lib.hid fun (v : Int) (h : v = (n' : Int) - ((rn : Int) - (L : Int) - 1)) => HF.out v (by rw [h, HNZ.out]; omega)
        clear FIN HF hI' hbr hsr hc kr kl'
        have hw2 := HW2.out; have hw0 := HW0.out
        go_wp2
        go_ret2
        exact HF2.out _ (by first | rfl | omega)

/-- The document's done does what it must, of all kinds. -/
theorem qdone_all (f : FV) (F : Fnt) (hsm : SmF F) (hO : SmO F) : ∀ (m : Nat), m ≤ 4 → ∀ (q : Nat) (lk : Lk), F.lks[q]? = some lk → 1 ≤ lk.kind → lk.kind ≤ 5 → QDd f F q lk (4 - m) := by
  intro m
  induction m with
  | zero =>
    intro _ q lk hk h1 h5
    by_cases k1 : lk.kind = 1 ∨ lk.kind = 5
    · exact qdone_single f F q lk _ hk k1
    by_cases k2 : lk.kind = 2
    · exact qdone_mult f F q lk _ hk k2 (hO lk (List.mem_of_getElem? hk))
    by_cases k3 : lk.kind = 3
    · exact qdone_lig f F q lk _ hk k3
    · exact qdone_chain f F hsm q lk 4 (by omega) hk (by omega) (fun h => absurd h (by omega))
  | succ m ih =>
    intro hm q lk hk h1 h5
    by_cases k1 : lk.kind = 1 ∨ lk.kind = 5
    · exact qdone_single f F q lk _ hk k1
    by_cases k2 : lk.kind = 2
    · exact qdone_mult f F q lk _ hk k2 (hO lk (List.mem_of_getElem? hk))
    by_cases k3 : lk.kind = 3
    · exact qdone_lig f F q lk _ hk k3
    · refine qdone_chain f F hsm q lk (4 - (m + 1)) (by omega) hk (by omega) (fun _ q' lk' h' h1' h4' => ?_)
      rw [show 4 - (m + 1) + 1 = 4 - m by omega]
      exact ih (by omega) q' lk' h' h1' (by omega)
theorem qdoOK (f : FV) (F : Fnt) (hsm : SmF F) (hO : SmO F) (q : Nat) (lk : Lk) (hk : F.lks[q]? = some lk) (h1 : 1 ≤ lk.kind) (h6 : lk.kind ≤ 6) : QDoOK f F q lk ∧ LenOK F lk := by
  refine ⟨?_, lenOK F lk⟩
  by_cases k6 : lk.kind = 6
  · exact qdone_pair f F q lk hk k6
  · exact (qdone_all f F hsm hO 4 (by omega) q lk hk h1 (by omega)).zero
theorem qApply_all (f : FV) (F : Fnt) (n : Int) (RA : Option Addr) (rn rc : Nat) (run : List Itm) (FA : Option Addr) (fn fc : Nat) (forms : List Int) (w : World) (hf : IsF w (lo w.heap.size) f F) (hI : RdI w (lo w.heap.size) RA rn run) (hF : Rd w (lo w.heap.size) FA fn forms) (hrn : rn ≤ 1000) (hfn : fn ≤ 9223372036854775807) (hsm : SmF F) (hO : SmO F) :
    Calls Try.prog 20 #[.agg f.cells, .int .i64 n, .slice RA rn rc, .slice FA fn fc] w (QRPost w (applyL w64 F n run forms)) :=
  qApply_c f F n RA rn rc run FA fn fc forms w hf hI hF hrn hfn hsm fun q lk _ hk h1 h6 => qdoOK f F hsm hO q lk hk h1 h6

end Go.Proofs.Ytkoocipagndclaa
