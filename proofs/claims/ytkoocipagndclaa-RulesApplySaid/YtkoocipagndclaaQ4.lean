/- Walks: the document's done, of several for one, of ligatures. -/
import Derived.Test.YtkoocipagndclaaQ3
namespace Go.Proofs.Ytkoocipagndclaa
open Go.RowKit Go.Shelf

theorem map_next {f : Int → Itm} {l : List Int} {i : Nat} {v : Int} (h : l[i]? = some v) : (l.map f).take (i + 1) = (l.map f).take i ++ [f v] := by
  rw [List.take_add_one, List.getElem?_map, h]; rfl
theorem w15 {rn n4 : Nat} (h1 : 1 ≤ rn) (h2 : rn ≤ 1000) (h3 : n4 ≤ 1000000) : wrap64 ((rn : Int) - 1) = (rn : Int) - 1 ∧ wrap64 ((rn : Int) - 1 + (n4 : Int)) = (rn : Int) - 1 + (n4 : Int) := by
  unfold wrap64; omega
theorem nx_of {n' n L nx : Int} (h : n' - (n - 1 - L) = nx) : n' - (n - L - 1) = nx := by omega
theorem wr_next (n' n L nx : Nat) (h : (n' : Int) - ((n : Int) - 1 - (L : Int)) = (nx : Int)) (h1 : n' ≤ 2000000) (h2 : n ≤ 1000) (h3 : L ≤ 1000) : wrap64 ((n' : Int) - ((n : Int) - (L : Int) - 1)) = (nx : Int) := by unfold wrap64; omega
theorem next_eq {lk : Lk} {ps : List Nat} {k n n' : Nat} (h4 : lk.kind ≠ 4) (h6 : lk.kind ≠ 6) (h : (n : Int) - 1 - (ps.getLastD 0 : Int) ≤ n') : ((nextL lk ps k n n' : Nat) : Int) = (n' : Int) - ((n : Int) - 1 - (ps.getLastD 0 : Int)) := by
  unfold nextL
  dsimp only
  rw [if_neg h4, if_neg (fun h => h6 h.1)]
  omega

set_option maxRecDepth 100000 in
set_option maxHeartbeats 4000000 in
theorem qdone_mult (f : FV) (F : Fnt) (q : Nat) (lk : Lk) (dp : Nat) (hlk : F.lks[q]? = some lk) (hkd : lk.kind = 2) (hO : ∀ r ∈ lk.rules, r.out.length ≤ 1000000) : QDd f F q lk dp := by
  intro W RA rn rc run k j ps forms IA m c hf hI hd hln hans hP hpd
  obtain ⟨r, hr, _, _, hne, hhd, hpl, hps, hpw, hfit, _, _⟩ := matchL_some hans
  have hgr : lk.rules.getD j default = r := by simp [hr]
  rw [hgr]
  obtain ⟨m1, m2, m3⟩ := last_ok hans
  have hlast := last_at hne
  have hk0 : ps[0]? = some k := by rw [← List.head?_eq_getElem?, hhd]; simp
  have hml := hP.len
  rw [natI_len] at hml
  obtain ⟨L, hL⟩ : ∃ L, L = ps.getLastD 0 := ⟨_, rfl⟩
  rw [← hL] at m1 m2 m3 hlast
  have hm0 : 0 < m := by rw [← hml]; exact List.length_pos_iff.2 hne
  obtain ⟨pb, po, rfl, _, hpc⟩ := hP.pos hm0
  have i0 : W.cell? ⟨pb, po, none⟩ = some (.int .i64 (k : Int)) := by
    obtain ⟨cs, rfl, hcc⟩ := hpc 0 (k : Int) (natI_at hk0)
    have := hcc 0 _ rfl
    simpa using this
  have iL : W.cell? ⟨pb, po + (m - 1), none⟩ = some (.int .i64 (L : Int)) := by
    obtain ⟨cs, rfl, hcc⟩ := hpc (m - 1) (L : Int) (natI_at (by rw [← hml]; exact hlast))
    have := hcc 0 _ rfl
    simpa using this
  have hrl := hI.len
  obtain ⟨it, hit⟩ := at_some run k (by omega)
  obtain ⟨rb, ro, rfl, _, hci⟩ := hI.pos (by omega)
  obtain ⟨cs, rfl, hcc⟩ := hci k it hit
  have x0 := hcc 0 _ rfl
  have x1 := hcc 1 _ rfl
  have x2 := hcc 2 _ rfl
  have x3 := hcc 3 _ rfl
  have x4 := hcc 4 _ rfl
  have x5 := hcc 5 _ rfl
  rw [Nat.add_zero] at x0
  have hlf := hf.2.1.len
  have hld := hf.2.2.2
  have hlnM : f.ln ≤ 9223372036854775807 := Nat.le_trans hld.1 hld.2
  obtain ⟨lb, lo', hla, _, hcl⟩ := hf.2.1.pos (by have := (List.getElem?_eq_some_iff.1 hlk).1; omega)
  obtain ⟨cs, ⟨LA, ln, lc, rfl, hRR, hRd⟩, hccl⟩ := hcl q lk hlk
  have g0 := hccl 0 _ rfl
  have g1 := hccl 1 _ rfl
  have g2 := hccl 2 _ rfl
  rw [Nat.add_zero] at g0
  have hlR := hRR.len
  have hjl : j < ln := by have := (List.getElem?_eq_some_iff.1 hr).1; omega
  have hlM : ln ≤ 9223372036854775807 := Nat.le_trans hRd.1 hRd.2
  obtain ⟨mb, mo, rfl, _, hcr⟩ := hRR.pos (by omega)
  obtain ⟨cs, ⟨A1, n1, c1, A2, n2, c2, A3, n3, c3, A4, n4, c4, A5, n5, c5, rfl, r1, r2, r3, r4, r5, d1, d2, d3, d4, d5⟩, hccr⟩ := hcr j r hr
  have q0 := hccr 0 _ rfl
  have q1 := hccr 1 _ rfl
  have q2 := hccr 2 _ rfl
  have q3 := hccr 3 _ rfl
  have q4 := hccr 4 _ rfl
  have q5 := hccr 5 _ rfl
  rw [Nat.add_zero] at q0
  have qz : (0 : Int) ≤ (q : Int) := by omega
  have qn : (q : Int) < (f.ln : Int) := by have := (List.getElem?_eq_some_iff.1 hlk).1; omega
  have jz : (0 : Int) ≤ (j : Int) := by omega
  have jn : (j : Int) < (ln : Int) := by omega
  have kz : (0 : Int) ≤ (k : Int) := by omega
  have kn : (k : Int) < (rn : Int) := by omega
  have m0 : (0 : Int) < (m : Int) := by omega
  have hmM : m ≤ 9223372036854775807 := by have := hpd.1; have := hpd.2; omega
  have hrM : rn ≤ 9223372036854775807 := by omega
  have hkr : k + 1 ≤ rn := by omega
  have HRN := Lib.hid (show rn ≤ 1000000 by omega)
  have HW0 := Lib.hid (show wrap64 ((rn : Int) - (L : Int)) = (rn : Int) - (L : Int) by unfold wrap64; omega)
  have HW2 := Lib.hid (show wrap64 ((rn : Int) - (L : Int) - 1) = (rn : Int) - (L : Int) - 1 by unfold wrap64; omega)
  have HWK := Lib.hid (show wrap64 ((k : Int) + 1) = ((k + 1 : Nat) : Int) by unfold wrap64; omega)
  have HL := Lib.hid hL; have HIT := Lib.hid hit; have HRL := Lib.hid hrl; have HML := Lib.hid hml; have HR := Lib.hid hr
  have M1 := Lib.hid m1; have M2 := Lib.hid m2; have M3 := Lib.hid m3; have HPS := Lib.hid hps; have HPW := Lib.hid hpw; have HLN := Lib.hid hln; have HANS := Lib.hid hans
  have hs0 := LS'.new hf hI
  have HLA := Lib.hid hla
  have x0 := cell_call x0 hs0.bw; have x1 := cell_call x1 hs0.bw; have x2 := cell_call x2 hs0.bw; have x3 := cell_call x3 hs0.bw; have x4 := cell_call x4 hs0.bw; have x5 := cell_call x5 hs0.bw
  have g0 := cell_call g0 hs0.bw; have g1 := cell_call g1 hs0.bw; have g2 := cell_call g2 hs0.bw
  have q0 := cell_call q0 hs0.bw; have q1 := cell_call q1 hs0.bw; have q2 := cell_call q2 hs0.bw; have q3 := cell_call q3 hs0.bw; have q4 := cell_call q4 hs0.bw; have q5 := cell_call q5 hs0.bw
  have i0 := cell_call i0 hs0.bw; have iL := cell_call iL hs0.bw
  have hP := hP.call hs0.bw
  have r1 := r1.call hs0.bw; have r2 := r2.call hs0.bw; have r3 := r3.call hs0.bw; have r4 := r4.call hs0.bw; have r5 := r5.mono (lo_mono hs0.bw.size) (kept_below hs0.bw)
  clear hans hhd hpl hps hpw hfit hgr hne hlast hk0 hpc hml hm0 hit hci hcc hlf hld hla hcl hccl hlR hjl hcr hccr hr hL m1 m2 m3 hrl hf hI hRR
  unfold FV.cells at hs0 x0 x1 x2 x3 x4 x5 g0 g1 g2 q0 q1 q2 q3 q4 q5 i0 iL hP r1 r2 r3 r4 r5 ⊢
  have hk9 : ps.headD 0 = k := by
    obtain ⟨_, _, _, _, _, hhd, _⟩ := matchL_some HANS.out
    cases ps with
    | nil => simp at hhd
    | cons a t => simp at hhd; simpa using hhd
  have hin : r.inn ≠ [] := by
    obtain ⟨r9, hr9, _, _, hne9, _, hpl9, _⟩ := matchL_some HANS.out
    rw [HR.out] at hr9; injection hr9 with hr9; subst hr9
    intro e; rw [e] at hpl9; exact hne9 (List.eq_nil_of_length_eq_zero hpl9)
  have hout := hO r (List.mem_of_getElem? HR.out)
  rw [r4.len] at hout
  have HL4 := Lib.hid r4.len
  rw [doL_mult hkd, hk9]
  obtain ⟨R, hR⟩ : ∃ R, R = multL k r.out run := ⟨_, rfl⟩
  rw [← hR]
  obtain ⟨nx, hnx⟩ : ∃ nx, nx = nextL lk ps k run.length R.length := ⟨_, rfl⟩
  rw [← hnx]
  have HR9 := Lib.hid hR; have HNXX := Lib.hid hnx
  clear hR hnx
  have FIN := Lib.hid fun (A9 : Option Addr) (n9 c9 : Nat) (w9 : World) (v : Int) (h1 : RdI w9 (lo w9.heap.size) A9 n9 R) (h2 : Hd n9 c9) (h3 : Below W.heap.size W w9) (h4 : v = (nx : Int)) => (show DnPost W R nx (.returned (.tuple #[.slice A9 n9 c9, .int .i64 v])) w9 from ⟨A9, n9, c9, by rw [h4], h1, h2, h3⟩)
  rw [hkd] at g0
  go_enter Try.func36, Try.ntmps36
  go_upto_region 1 with fail
  generalize W.alloc (.cells #[.int .i64 f.u0, .slice f.ga f.gn f.gc, .slice f.ca f.cn f.cc, .slice f.la f.ln f.lc, .slice f.a4 f.n4 f.c4, .slice f.a5 f.n5 f.c5, .slice f.a6 f.n6 f.c6, .slice f.a7 f.n7 f.c7, .slice f.a8 f.n8 f.c8] 31) = w0 at hs0 x0 x1 x2 x3 x4 x5 g0 g1 g2 q0 q1 q2 q3 q4 q5 i0 iL hP r1 r2 r3 r4 r5 ⊢
  generalize hbf : W.heap.size = bf at hs0 ⊢
  clear hbf
  have y3 := (font_cells hs0.kf).2.2.2.1
  rw [HLA.out] at y3
  go_upto_region 2 with fail
  have bA : Below w0.heap.size w0 (w0.alloc (.cells #[.int .i64 2, .bool lk.ign, .slice (some ⟨mb, mo, none⟩) ln lc] 44)) := (Below.refl _ _).alloc (Nat.le_refl _) _
  have kl : Bk (w0.alloc (.cells #[.int .i64 2, .bool lk.ign, .slice (some ⟨mb, mo, none⟩) ln lc] 44)) w0.heap.size 44 #[.int .i64 2, .bool lk.ign, .slice (some ⟨mb, mo, none⟩) ln lc] := Bk.new _ _ _
  replace hs0 := hs0.call bA
  replace x0 := cell_call x0 bA; replace x1 := cell_call x1 bA; replace x2 := cell_call x2 bA; replace x3 := cell_call x3 bA; replace x4 := cell_call x4 bA; replace x5 := cell_call x5 bA; replace q0 := cell_call q0 bA; replace q1 := cell_call q1 bA; replace q2 := cell_call q2 bA; replace q3 := cell_call q3 bA; replace q4 := cell_call q4 bA; replace q5 := cell_call q5 bA; replace i0 := cell_call i0 bA; replace iL := cell_call iL bA
  replace hP := hP.call bA; replace r1 := r1.call bA; replace r2 := r2.call bA; replace r3 := r3.call bA; replace r4 := r4.call bA; replace r5 := r5.mono (lo_mono bA.size) (kept_below bA)
  clear y3 g0 g1 g2 bA
  generalize w0.alloc (.cells #[.int .i64 2, .bool lk.ign, .slice (some ⟨mb, mo, none⟩) ln lc] 44) = w1 at *
  generalize w0.heap.size = bl at kl ⊢
  have l2 : w1.cell? ⟨bl, 2, none⟩ = some (.slice (some ⟨mb, mo, none⟩) ln lc) := kl.cell 2
  go_upto_region 3 with fail
  have bB : Below w1.heap.size w1 (w1.alloc (.cells #[.slice A1 n1 c1, .slice A2 n2 c2, .slice A3 n3 c3, .slice A4 n4 c4, .slice A5 n5 c5, .int .i64 r.x] 48)) := (Below.refl _ _).alloc (Nat.le_refl _) _
  have kr : Bk (w1.alloc (.cells #[.slice A1 n1 c1, .slice A2 n2 c2, .slice A3 n3 c3, .slice A4 n4 c4, .slice A5 n5 c5, .int .i64 r.x] 48)) w1.heap.size 48 #[.slice A1 n1 c1, .slice A2 n2 c2, .slice A3 n3 c3, .slice A4 n4 c4, .slice A5 n5 c5, .int .i64 r.x] := Bk.new _ _ _
  replace hs0 := hs0.call bB
  replace kl := kl.call bB
  replace x0 := cell_call x0 bB; replace x1 := cell_call x1 bB; replace x2 := cell_call x2 bB; replace x3 := cell_call x3 bB; replace x4 := cell_call x4 bB; replace x5 := cell_call x5 bB; replace i0 := cell_call i0 bB; replace iL := cell_call iL bB
  replace hP := hP.call bB; replace r1 := r1.call bB; replace r2 := r2.call bB; replace r3 := r3.call bB; replace r4 := r4.call bB; replace r5 := r5.mono (lo_mono bB.size) (kept_below bB)
  clear q0 q1 q2 q3 q4 q5 bB l2
  generalize w1.alloc (.cells #[.slice A1 n1 c1, .slice A2 n2 c2, .slice A3 n3 c3, .slice A4 n4 c4, .slice A5 n5 c5, .int .i64 r.x] 48) = w2 at *
  generalize w1.heap.size = br at kr ⊢
  have l0 : w2.cell? ⟨bl, 0, none⟩ = some (.int .i64 2) := kl.cell 0
  have hw0 := HW0.out; have hw2 := HW2.out; have hwk := HWK.out
  go_upto_region 15 with fail
  clear hw0 hw2 hwk
  have z3 : w2.cell? ⟨br, 3, none⟩ = some (.slice A4 n4 c4) := kr.cell 3
  have HZ3 := Lib.hid fun (W' : World) (b : Below w2.heap.size w2 W') => (show W'.cell? ⟨br, 3, none⟩ = some (.slice A4 n4 c4) from (kr.call b).cell 3)
  have HIC := Lib.hid fun (W' : World) (b : Below w2.heap.size w2 W') => (show W'.cell? ⟨rb, ro + k * 6, none⟩ = some (.int .i64 it.g) ∧ W'.cell? ⟨rb, ro + k * 6 + 1, none⟩ = some (.int .i64 it.c) ∧ W'.cell? ⟨rb, ro + k * 6 + 2, none⟩ = some (.int .i64 it.f) ∧ W'.cell? ⟨rb, ro + k * 6 + 3, none⟩ = some (.int .i64 it.a) ∧ W'.cell? ⟨rb, ro + k * 6 + 4, none⟩ = some (.int .i64 it.x) ∧ W'.cell? ⟨rb, ro + k * 6 + 5, none⟩ = some (.int .i64 it.y) from And.intro (cell_call x0 b) (And.intro (cell_call x1 b) (And.intro (cell_call x2 b) (And.intro (cell_call x3 b) (And.intro (cell_call x4 b) ((cell_call x5 b)))))))
  have hrn1 : rn ≤ 1000 := by have := HRL.out; have := HLN.out; omega
  have hn4M : n4 ≤ 9223372036854775807 := by omega
  have hLr : L < rn := by have := M2.out; have := HRL.out; omega
  have HW15 := Lib.hid (w15 (rn := rn) (n4 := n4) (by omega) hrn1 (by omega))
  clear x0 x1 x2 x3 x4 x5
  by_cases hbig : rn < rn - 1 + n4 ∧ 500 < rn - 1 + n4
  · have HRES := Lib.hid (show R = run by rw [HR9.out]; unfold multL; rw [if_pos (by rw [HRL.out, HL4.out]; exact hbig)])
    have HNZ := Lib.hid (show (nx : Int) = (rn : Int) - ((rn : Int) - 1 - (L : Int)) by rw [HNXX.out, HRES.out, HRL.out, next_eq (by omega) (by omega) (by rw [← HL.out]; omega), ← HL.out])
    have t1 : decide ((rn : Int) - 1 + (n4 : Int) ≤ 500) = false := by simp; omega
    have t2 : decide ((n4 : Int) ≤ 1) = false := by simp; omega
    have t2' : decide (n4 ≤ 1) = false := by simp; omega
    have HF := Lib.hid fun (v : Int) (h : v = (nx : Int)) => FIN.out (some ⟨rb, ro, none⟩) rn rc w2 v (by rw [HRES.out]; exact hs0.hI) hd hs0.bw h
    have HX9 := Lib.hid (show (rn : Int) - ((rn : Int) - 1 - (L : Int)) = (nx : Int) from HNZ.out.symm)
    have HW9 := Lib.hid (wr_next rn rn L nx HX9.out (by omega) (by omega) (by omega))
    clear FIN
    have hw9 := HW9.out
    obtain ⟨hwp, hw15⟩ := HW15.out
    have hw2 := HW2.out; have hw0 := HW0.out
    go_wp2
    go_ret2
    exact HF.out _ (by first | rfl | exact hw9 | exact nx_of HX9.out)
  · have HRES := Lib.hid (show R = run.take k ++ (r.out.map (setG it)) ++ run.drop (k + 1) by
      rw [HR9.out]; unfold multL; rw [if_neg (by rw [HRL.out, HL4.out]; exact hbig)]
      have hd9 : run.getD k default = it := by rw [List.getD_eq_getElem?_getD, HIT.out]; rfl
      rw [hd9])
    have hRl : R.length = rn - 1 + n4 := by rw [HRES.out]; simp only [List.length_append, List.length_take, List.length_map, List.length_drop, HRL.out, HL4.out]; omega
    have HNZ := Lib.hid (show (nx : Int) = ((rn - 1 + n4 : Nat) : Int) - ((rn : Int) - 1 - (L : Int)) by rw [HNXX.out, hRl, HRL.out, next_eq (by omega) (by omega) (by rw [← HL.out]; omega), ← HL.out])
    clear hRl
    by_cases h500 : rn - 1 + n4 ≤ 500
    · have t1 : decide ((rn : Int) - 1 + (n4 : Int) ≤ 500) = true := by simp; omega
      clear hbig
      obtain ⟨hwp, hw15⟩ := HW15.out
      have hwk := HWK.out
      go_upto_region 16 with fail
      clear hw15 hwp hwk
      go_wp2
      go_loopw [22, 23] (fun s22 s23 wr => ∃ (i c : Nat) (A : Option Addr), i ≤ n4 ∧ s23 = .int .i64 (i : Int) ∧ s22 = .slice A i c ∧ Ow 51 6 wr w2.heap.size A i c (itc ((r.out.map (setG it)).take i)) ∧ Below w2.heap.size w2 wr) (fun _ s _ => n4 - (intOf s).toNat)
      case atStart => exact ⟨0, 0, _, by omega, rfl, rfl, own_empty w2 _ _, (Below.refl _ _).alloc (Nat.le_refl _) _⟩
      case round =>
        obtain ⟨i, c, A, hi, rfl, rfl, ho, hbr⟩ := hrel
        obtain ⟨g0, g1, g2, g3, g4, g5⟩ := HIC.out wr hbr
        have z3 := HZ3.out wr hbr
        by_cases hlt : i < n4
        · obtain ⟨v, hv⟩ := at_some r.out i (by have := HL4.out; omega)
          obtain ⟨ob, oo, e4, _, hoc⟩ := (r4.call hbr).pos (by omega)
          obtain ⟨cs, rfl, hcc⟩ := hoc i v hv
          have o0 := hcc 0 _ rfl
          rw [Nat.mul_one, Nat.add_zero] at o0
          have lo0 := cell_lt o0
          have lz3 := cell_lt z3
          dsimp only at lo0 lz3
          rw [e4] at z3
          have HNX := Lib.hid (map_next (f := setG it) hv)
          have iz : (0 : Int) ≤ (i : Int) := by omega
          have i4 : (i : Int) < (n4 : Int) := by omega
          have h48 : (i + 1) * 48 ≤ 140737488355328 := by omega
          clear hv hoc hcc e4
          have ho2 := (ho.alloc (.cells #[.int .i64 v, .int .i64 it.c, .int .i64 it.f, .int .i64 it.a, .int .i64 it.x, .int .i64 it.y] 51)).alloc (.cells #[.int .i64 v, .int .i64 it.c, .int .i64 it.f, .int .i64 it.a, .int .i64 it.x, .int .i64 it.y] 51)
          have hb2 := (hbr.alloc hbr.size (.cells #[.int .i64 v, .int .i64 it.c, .int .i64 it.f, .int .i64 it.a, .int .i64 it.x, .int .i64 it.y] 51)).alloc (by have := hbr.size; simp; omega) (.cells #[.int .i64 v, .int .i64 it.c, .int .i64 it.f, .int .i64 it.a, .int .i64 it.x, .int .i64 it.y] 51)
          have hN := news_two wr (.cells #[.int .i64 v, .int .i64 it.c, .int .i64 it.f, .int .i64 it.a, .int .i64 it.x, .int .i64 it.y] 51) #[.int .i64 v, .int .i64 it.c, .int .i64 it.f, .int .i64 it.a, .int .i64 it.x, .int .i64 it.y] 51
          have hBB : w2.heap.size ≤ ((wr.alloc (.cells #[.int .i64 v, .int .i64 it.c, .int .i64 it.f, .int .i64 it.a, .int .i64 it.x, .int .i64 it.y] 51)).alloc (.cells #[.int .i64 v, .int .i64 it.c, .int .i64 it.f, .int .i64 it.a, .int .i64 it.x, .int .i64 it.y] 51)).heap.size := hb2.size
          go_wp2_with (at_builtin; refine appP elt_item rfl _ _ rfl _ w2.heap.size _ _ _ _ _ _ _ #[.int .i64 v, .int .i64 it.c, .int .i64 it.f, .int .i64 it.a, .int .i64 it.x, .int .i64 it.y].toList (by rfl) (by rfl) ho2 rfl hN (by simp [Value.oneCell']) h48 hBB ?_; intro A' c' w' ho' hg' hb' hat')
          go_roundw
          case rel => exact ⟨i + 1, c', A', by omega, by go_num, rfl, by rw [HNX.out, itc_app]; simpa [itc, itmC, setG] using ho', hb2.trans hb'⟩
          case measure => simp [intOf]; omega
        · have i4 : decide ((i : Int) < (n4 : Int)) = false := by simp; omega
          have i4' : decide (i < n4) = false := by simp; omega
          have hi9 : i = n4 := by omega
          subst hi9
          have htk : (r.out.map (setG it)).take i = r.out.map (setG it) := List.take_of_length_le (by rw [List.length_map, HL4.out]; exact Nat.le_refl _)
          rw [htk] at ho
          have hsr := hs0.call hbr
          have HC := Lib.hid (qcut_c rb ro rn rc run k (k + 1) A i c (r.out.map (setG it)) wr hsr.hI hd ho.rdI (Nat.le_succ _) hkr HRN.out hout)
          clear htk ho hbr g0 g1 g2 g3 g4 g5
          have hwk := HWK.out
          go_wp2_with fail
          refine HC.out.mono ?_
          rintro e w4 ⟨A9, n9, c9, rfl, o9, b9⟩
          clear HC hwk
          rw [← List.append_assoc, ← HRES.out] at o9
          have HN9 := Lib.hid (show n9 = rn - 1 + i from o9.rdI.len.symm.trans (by rw [HRES.out]; simp only [List.length_append, List.length_take, List.length_map, List.length_drop, HRL.out, HL4.out]; omega))
          have HF := Lib.hid fun (v : Int) (h : v = (nx : Int)) => FIN.out A9 n9 c9 w4 v o9.rdI o9.hd (below_call hsr.bw b9) h
          have HX9 := Lib.hid (show (n9 : Int) - ((rn : Int) - 1 - (L : Int)) = (nx : Int) by rw [HNZ.out, HN9.out])
          have HW9 := Lib.hid (wr_next n9 rn L nx HX9.out (by have := HN9.out; omega) (by omega) (by have := M2.out; have := HLN.out; omega))
          clear o9 b9 hsr z3 FIN
          have hw9 := HW9.out
          have hw2 := HW2.out; have hw0 := HW0.out
          go_wp2
          go_ret2
          exact HF.out _ (by first | rfl | exact hw9 | exact nx_of HX9.out)

    · have t1 : decide ((rn : Int) - 1 + (n4 : Int) ≤ 500) = false := by simp; omega
      have t2 : decide ((n4 : Int) ≤ 1) = true := by simp; omega
      have t2' : decide (n4 ≤ 1) = true := by simp; omega
      clear hbig
      obtain ⟨hwp, hw15⟩ := HW15.out
      have hwk := HWK.out
      go_upto_region 16 with fail
      clear hw15 hwp hwk
      go_wp2
      go_loopw [22, 23] (fun s22 s23 wr => ∃ (i c : Nat) (A : Option Addr), i ≤ n4 ∧ s23 = .int .i64 (i : Int) ∧ s22 = .slice A i c ∧ Ow 51 6 wr w2.heap.size A i c (itc ((r.out.map (setG it)).take i)) ∧ Below w2.heap.size w2 wr) (fun _ s _ => n4 - (intOf s).toNat)
      case atStart => exact ⟨0, 0, _, by omega, rfl, rfl, own_empty w2 _ _, (Below.refl _ _).alloc (Nat.le_refl _) _⟩
      case round =>
        obtain ⟨i, c, A, hi, rfl, rfl, ho, hbr⟩ := hrel
        obtain ⟨g0, g1, g2, g3, g4, g5⟩ := HIC.out wr hbr
        have z3 := HZ3.out wr hbr
        by_cases hlt : i < n4
        · obtain ⟨v, hv⟩ := at_some r.out i (by have := HL4.out; omega)
          obtain ⟨ob, oo, e4, _, hoc⟩ := (r4.call hbr).pos (by omega)
          obtain ⟨cs, rfl, hcc⟩ := hoc i v hv
          have o0 := hcc 0 _ rfl
          rw [Nat.mul_one, Nat.add_zero] at o0
          have lo0 := cell_lt o0
          have lz3 := cell_lt z3
          dsimp only at lo0 lz3
          rw [e4] at z3
          have HNX := Lib.hid (map_next (f := setG it) hv)
          have iz : (0 : Int) ≤ (i : Int) := by omega
          have i4 : (i : Int) < (n4 : Int) := by omega
          have h48 : (i + 1) * 48 ≤ 140737488355328 := by omega
          clear hv hoc hcc e4
          have ho2 := (ho.alloc (.cells #[.int .i64 v, .int .i64 it.c, .int .i64 it.f, .int .i64 it.a, .int .i64 it.x, .int .i64 it.y] 51)).alloc (.cells #[.int .i64 v, .int .i64 it.c, .int .i64 it.f, .int .i64 it.a, .int .i64 it.x, .int .i64 it.y] 51)
          have hb2 := (hbr.alloc hbr.size (.cells #[.int .i64 v, .int .i64 it.c, .int .i64 it.f, .int .i64 it.a, .int .i64 it.x, .int .i64 it.y] 51)).alloc (by have := hbr.size; simp; omega) (.cells #[.int .i64 v, .int .i64 it.c, .int .i64 it.f, .int .i64 it.a, .int .i64 it.x, .int .i64 it.y] 51)
          have hN := news_two wr (.cells #[.int .i64 v, .int .i64 it.c, .int .i64 it.f, .int .i64 it.a, .int .i64 it.x, .int .i64 it.y] 51) #[.int .i64 v, .int .i64 it.c, .int .i64 it.f, .int .i64 it.a, .int .i64 it.x, .int .i64 it.y] 51
          have hBB : w2.heap.size ≤ ((wr.alloc (.cells #[.int .i64 v, .int .i64 it.c, .int .i64 it.f, .int .i64 it.a, .int .i64 it.x, .int .i64 it.y] 51)).alloc (.cells #[.int .i64 v, .int .i64 it.c, .int .i64 it.f, .int .i64 it.a, .int .i64 it.x, .int .i64 it.y] 51)).heap.size := hb2.size
          go_wp2_with (at_builtin; refine appP elt_item rfl _ _ rfl _ w2.heap.size _ _ _ _ _ _ _ #[.int .i64 v, .int .i64 it.c, .int .i64 it.f, .int .i64 it.a, .int .i64 it.x, .int .i64 it.y].toList (by rfl) (by rfl) ho2 rfl hN (by simp [Value.oneCell']) h48 hBB ?_; intro A' c' w' ho' hg' hb' hat')
          go_roundw
          case rel => exact ⟨i + 1, c', A', by omega, by go_num, rfl, by rw [HNX.out, itc_app]; simpa [itc, itmC, setG] using ho', hb2.trans hb'⟩
          case measure => simp [intOf]; omega
        · have i4 : decide ((i : Int) < (n4 : Int)) = false := by simp; omega
          have i4' : decide (i < n4) = false := by simp; omega
          have hi9 : i = n4 := by omega
          subst hi9
          have htk : (r.out.map (setG it)).take i = r.out.map (setG it) := List.take_of_length_le (by rw [List.length_map, HL4.out]; exact Nat.le_refl _)
          rw [htk] at ho
          have hsr := hs0.call hbr
          have HC := Lib.hid (qcut_c rb ro rn rc run k (k + 1) A i c (r.out.map (setG it)) wr hsr.hI hd ho.rdI (Nat.le_succ _) hkr HRN.out hout)
          clear htk ho hbr g0 g1 g2 g3 g4 g5
          have hwk := HWK.out
          go_wp2_with fail
          refine HC.out.mono ?_
          rintro e w4 ⟨A9, n9, c9, rfl, o9, b9⟩
          clear HC hwk
          rw [← List.append_assoc, ← HRES.out] at o9
          have HN9 := Lib.hid (show n9 = rn - 1 + i from o9.rdI.len.symm.trans (by rw [HRES.out]; simp only [List.length_append, List.length_take, List.length_map, List.length_drop, HRL.out, HL4.out]; omega))
          have HF := Lib.hid fun (v : Int) (h : v = (nx : Int)) => FIN.out A9 n9 c9 w4 v o9.rdI o9.hd (below_call hsr.bw b9) h
          have HX9 := Lib.hid (show (n9 : Int) - ((rn : Int) - 1 - (L : Int)) = (nx : Int) by rw [HNZ.out, HN9.out])
          have HW9 := Lib.hid (wr_next n9 rn L nx HX9.out (by have := HN9.out; omega) (by omega) (by have := M2.out; have := HLN.out; omega))
          clear o9 b9 hsr z3 FIN
          have hw9 := HW9.out
          have hw2 := HW2.out; have hw0 := HW0.out
          go_wp2
          go_ret2
          exact HF.out _ (by first | rfl | exact hw9 | exact nx_of HX9.out)


end Go.Proofs.Ytkoocipagndclaa
