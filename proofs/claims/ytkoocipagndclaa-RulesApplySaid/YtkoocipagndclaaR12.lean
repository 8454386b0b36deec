/- Walks: the document's done, of pairs. -/
import Derived.Test.YtkoocipagndclaaR11
namespace Go.Proofs.Ytkoocipagndclaa
open Go.RowKit Go.Shelf

theorem item_new (w : World) (it : Itm) : RdI (w.alloc (.cells #[.int .i64 it.g, .int .i64 it.c, .int .i64 it.f, .int .i64 it.a, .int .i64 it.x, .int .i64 it.y] 51)) (lo (w.alloc (.cells #[.int .i64 it.g, .int .i64 it.c, .int .i64 it.f, .int .i64 it.a, .int .i64 it.x, .int .i64 it.y] 51)).heap.size) (some ⟨w.heap.size, 0, none⟩) 1 [it] := by
  refine ⟨rfl, fun _ => ⟨_, _, rfl, by unfold lo; simp, fun i x hx => ?_⟩⟩
  cases i with
  | zero =>
    simp at hx; subst hx
    refine ⟨itmC it, rfl, fun j v hv => ?_⟩
    rw [show 0 + 0 * 6 + j = j by omega, World.cell?_alloc_new]
    simpa [itmC] using hv
  | succ i => simp at hx
theorem dec_no {a b : Nat} (h : ¬ a < b) : decide ((a : Int) < (b : Int)) = false := by simp; omega
theorem wr_back (n L : Nat) (h : L ≤ 1000) : wrap64 ((n : Int) - ((n : Int) - (L : Int) - 1)) = ((L + 1 : Nat) : Int) := by unfold wrap64; omega
theorem modify_cut {run : List Itm} {k : Nat} {it : Itm} (h : run[k]? = some it) (g : Itm → Itm) : run.modify k g = run.take k ++ ([g it] ++ run.drop (k + 1)) := by
  obtain ⟨hl, rfl⟩ := List.getElem?_eq_some_iff.1 h
  rw [List.modify_eq_take_cons_drop hl]; rfl

set_option maxRecDepth 100000 in
set_option maxHeartbeats 4000000 in
theorem qdone_pair (f : FV) (F : Fnt) (q : Nat) (lk : Lk) (hlk : F.lks[q]? = some lk) (hk6 : lk.kind = 6) : QDoOK f F q lk := by
  intro W RA rn rc run k j ps forms IA m c hf hI hd hln hans hP hpd
  obtain ⟨r, hr, _, _, hne, hhd, hpl, hps, hpw, hfit, _, _⟩ := matchL_some hans
  have hgr : lk.rules.getD j default = r := by simp [hr]
  rw [hgr]
  obtain ⟨m1, m2, m3⟩ := last_ok hans
  have hlast := last_at hne
  have hk0 : ps[0]? = some k := by rw [← List.head?_eq_getElem?, hhd]; simp
  have hml := hP.len
  rw [natI_len] at hml
  obtain ⟨L, hL⟩ : ∃ L, L = ps.getLastD 0 := ⟨_, rfl⟩
  rw [← hL] at m1 m2 m3 hlast
  have hm0 : 0 < m := by rw [← hml]; exact List.length_pos_iff.2 hne
  obtain ⟨pb, po, rfl, _, hpc⟩ := hP.pos hm0
  have i0 : W.cell? ⟨pb, po, none⟩ = some (.int .i64 (k : Int)) := by
    obtain ⟨cs, rfl, hcc⟩ := hpc 0 (k : Int) (natI_at hk0)
    have := hcc 0 _ rfl
    simpa using this
  have iL : W.cell? ⟨pb, po + (m - 1), none⟩ = some (.int .i64 (L : Int)) := by
    obtain ⟨cs, rfl, hcc⟩ := hpc (m - 1) (L : Int) (natI_at (by rw [← hml]; exact hlast))
    have := hcc 0 _ rfl
    simpa using this
  have hrl := hI.len
  obtain ⟨it, hit⟩ := at_some run k (by omega)
  obtain ⟨rb, ro, rfl, _, hci⟩ := hI.pos (by omega)
  obtain ⟨cs, rfl, hcc⟩ := hci k it hit
  have x0 := hcc 0 _ rfl
  have x1 := hcc 1 _ rfl
  have x2 := hcc 2 _ rfl
  have x3 := hcc 3 _ rfl
  have x4 := hcc 4 _ rfl
  have x5 := hcc 5 _ rfl
  rw [Nat.add_zero] at x0
  have hlf := hf.2.1.len
  have hld := hf.2.2.2
  have hlnM : f.ln ≤ 9223372036854775807 := Nat.le_trans hld.1 hld.2
  obtain ⟨lb, lo', hla, _, hcl⟩ := hf.2.1.pos (by have := (List.getElem?_eq_some_iff.1 hlk).1; omega)
  obtain ⟨cs, ⟨LA, ln, lc, rfl, hRR, hRd⟩, hccl⟩ := hcl q lk hlk
  have g0 := hccl 0 _ rfl
  have g1 := hccl 1 _ rfl
  have g2 := hccl 2 _ rfl
  rw [Nat.add_zero] at g0
  have hlR := hRR.len
  have hjl : j < ln := by have := (List.getElem?_eq_some_iff.1 hr).1; omega
  have hlM : ln ≤ 9223372036854775807 := Nat.le_trans hRd.1 hRd.2
  obtain ⟨mb, mo, rfl, _, hcr⟩ := hRR.pos (by omega)
  obtain ⟨cs, ⟨A1, n1, c1, A2, n2, c2, A3, n3, c3, A4, n4, c4, A5, n5, c5, rfl, r1, r2, r3, r4, r5, d1, d2, d3, d4, d5⟩, hccr⟩ := hcr j r hr
  have q0 := hccr 0 _ rfl
  have q1 := hccr 1 _ rfl
  have q2 := hccr 2 _ rfl
  have q3 := hccr 3 _ rfl
  have q4 := hccr 4 _ rfl
  have q5 := hccr 5 _ rfl
  rw [Nat.add_zero] at q0
  have qz : (0 : Int) ≤ (q : Int) := by omega
  have qn : (q : Int) < (f.ln : Int) := by have := (List.getElem?_eq_some_iff.1 hlk).1; omega
  have jz : (0 : Int) ≤ (j : Int) := by omega
  have jn : (j : Int) < (ln : Int) := by omega
  have kz : (0 : Int) ≤ (k : Int) := by omega
  have kn : (k : Int) < (rn : Int) := by omega
  have m0 : (0 : Int) < (m : Int) := by omega
  have hmM : m ≤ 9223372036854775807 := by have := hpd.1; have := hpd.2; omega
  have hrM : rn ≤ 9223372036854775807 := by omega
  have hkr : k + 1 ≤ rn := by omega
  have HRN := Lib.hid (show rn ≤ 1000000 by omega)
  have HW0 := Lib.hid (show wrap64 ((rn : Int) - (L : Int)) = (rn : Int) - (L : Int) by unfold wrap64; omega)
  have HW2 := Lib.hid (show wrap64 ((rn : Int) - (L : Int) - 1) = (rn : Int) - (L : Int) - 1 by unfold wrap64; omega)
  have HWK := Lib.hid (show wrap64 ((k : Int) + 1) = ((k + 1 : Nat) : Int) by unfold wrap64; omega)
  have HL := Lib.hid hL; have HIT := Lib.hid hit; have HRL := Lib.hid hrl; have HML := Lib.hid hml; have HR := Lib.hid hr
  have M1 := Lib.hid m1; have M2 := Lib.hid m2; have M3 := Lib.hid m3; have HPS := Lib.hid hps; have HPW := Lib.hid hpw; have HLN := Lib.hid hln; have HANS := Lib.hid hans
  have hs0 := LS'.new hf hI
  have HLA := Lib.hid hla
  have x0 := cell_call x0 hs0.bw; have x1 := cell_call x1 hs0.bw; have x2 := cell_call x2 hs0.bw; have x3 := cell_call x3 hs0.bw; have x4 := cell_call x4 hs0.bw; have x5 := cell_call x5 hs0.bw
  have g0 := cell_call g0 hs0.bw; have g1 := cell_call g1 hs0.bw; have g2 := cell_call g2 hs0.bw
  have q0 := cell_call q0 hs0.bw; have q1 := cell_call q1 hs0.bw; have q2 := cell_call q2 hs0.bw; have q3 := cell_call q3 hs0.bw; have q4 := cell_call q4 hs0.bw; have q5 := cell_call q5 hs0.bw
  have i0 := cell_call i0 hs0.bw; have iL := cell_call iL hs0.bw
  have hP := hP.call hs0.bw
  have r1 := r1.call hs0.bw; have r2 := r2.call hs0.bw; have r3 := r3.call hs0.bw; have r4 := r4.call hs0.bw; have r5 := r5.mono (lo_mono hs0.bw.size) (kept_below hs0.bw)
  clear hans hhd hpl hps hpw hfit hgr hne hlast hk0 hpc hml hm0 hit hci hcc hlf hld hla hcl hccl hlR hjl hcr hccr hr hL m1 m2 m3 hrl hf hI hRR
  unfold FV.cells at hs0 x0 x1 x2 x3 x4 x5 g0 g1 g2 q0 q1 q2 q3 q4 q5 i0 iL hP r1 r2 r3 r4 r5 ⊢
  rw [doL_pair hk6]
  have hnx : nextL lk ps k run.length (pairL w64 (ps.headD 0) r.x run).length = if k < L then L else L + 1 := by
    unfold nextL
    rw [pairL_len, ← HL.out, if_neg (by omega), HML.out]
    by_cases h1 : 1 < m
    · rw [if_pos ⟨hk6, h1⟩, if_pos (M3.out (by rw [HML.out]; exact h1))]
    · have hLk : ps = [L] ∨ ps = [] := by
        have := HML.out
        rcases ps with _ | ⟨a, _ | ⟨b, t⟩⟩
        · exact .inr rfl
        · left; rw [HL.out]; rfl
        · simp at this; omega
      have hLk2 : L = k := by
        rcases hLk with h | h
        · have h9 := (matchL_some HANS.out)
          obtain ⟨_, _, _, _, _, hhd, _⟩ := h9
          rw [h] at hhd; simp at hhd; exact hhd
        · rw [h] at HML; have := HML.out; simp at this; omega
      rw [if_neg (by omega), if_neg (by omega)]; omega
  have hdo : pairL w64 (ps.headD 0) r.x run = run.take k ++ ([{ it with a := wrap64 (it.a + r.x) }] ++ run.drop (k + 1)) := by
    obtain ⟨_, _, _, _, _, hhd, _⟩ := matchL_some HANS.out
    have : ps.headD 0 = k := by
      cases ps with
      | nil => simp at hhd
      | cons a t => simp at hhd; simpa using hhd
    rw [this]; unfold pairL; rw [modify_cut HIT.out]; rfl
  rw [hnx, hdo]
  have HPL := Lib.hid (show (run.take k ++ ([{ it with a := wrap64 (it.a + r.x) }] ++ run.drop (k + 1))).length = rn by rw [← hdo, pairL_len]; exact HRL.out)
  obtain ⟨R, hR⟩ : ∃ R, R = run.take k ++ ([{ it with a := wrap64 (it.a + r.x) }] ++ run.drop (k + 1)) := ⟨_, rfl⟩
  obtain ⟨nx, hnx'⟩ : ∃ nx, nx = if k < L then L else L + 1 := ⟨_, rfl⟩
  rw [← hR, ← hnx']
  have HR9 := Lib.hid hR; have HNX := Lib.hid hnx'
  clear hnx hdo hR hnx'
  have HLL := Lib.hid (show L ≤ 1000 by have := M2.out; have := HLN.out; omega)
  rw [hk6] at g0
  go_enter Try.func36, Try.ntmps36
  go_upto_region 1 with fail
  generalize W.alloc (.cells #[.int .i64 f.u0, .slice f.ga f.gn f.gc, .slice f.ca f.cn f.cc, .slice f.la f.ln f.lc, .slice f.a4 f.n4 f.c4, .slice f.a5 f.n5 f.c5, .slice f.a6 f.n6 f.c6, .slice f.a7 f.n7 f.c7, .slice f.a8 f.n8 f.c8] 31) = w0 at hs0 x0 x1 x2 x3 x4 x5 g0 g1 g2 q0 q1 q2 q3 q4 q5 i0 iL hP r1 r2 r3 r4 r5 ⊢
  generalize hbf : W.heap.size = bf at hs0 ⊢
  clear hbf
  have y3 := (font_cells hs0.kf).2.2.2.1
  rw [HLA.out] at y3
  go_upto_region 2 with fail
  have bA : Below w0.heap.size w0 (w0.alloc (.cells #[.int .i64 6, .bool lk.ign, .slice (some ⟨mb, mo, none⟩) ln lc] 44)) := (Below.refl _ _).alloc (Nat.le_refl _) _
  have kl : Bk (w0.alloc (.cells #[.int .i64 6, .bool lk.ign, .slice (some ⟨mb, mo, none⟩) ln lc] 44)) w0.heap.size 44 #[.int .i64 6, .bool lk.ign, .slice (some ⟨mb, mo, none⟩) ln lc] := Bk.new _ _ _
  replace hs0 := hs0.call bA
  replace x0 := cell_call x0 bA; replace x1 := cell_call x1 bA; replace x2 := cell_call x2 bA; replace x3 := cell_call x3 bA; replace x4 := cell_call x4 bA; replace x5 := cell_call x5 bA; replace q0 := cell_call q0 bA; replace q1 := cell_call q1 bA; replace q2 := cell_call q2 bA; replace q3 := cell_call q3 bA; replace q4 := cell_call q4 bA; replace q5 := cell_call q5 bA; replace i0 := cell_call i0 bA; replace iL := cell_call iL bA
  replace hP := hP.call bA; replace r1 := r1.call bA; replace r2 := r2.call bA; replace r3 := r3.call bA; replace r4 := r4.call bA; replace r5 := r5.mono (lo_mono bA.size) (kept_below bA)
  clear y3 g0 g1 g2 bA
  generalize w0.alloc (.cells #[.int .i64 6, .bool lk.ign, .slice (some ⟨mb, mo, none⟩) ln lc] 44) = w1 at *
  generalize w0.heap.size = bl at kl ⊢
  have l2 : w1.cell? ⟨bl, 2, none⟩ = some (.slice (some ⟨mb, mo, none⟩) ln lc) := kl.cell 2
  go_upto_region 3 with fail
  have bB : Below w1.heap.size w1 (w1.alloc (.cells #[.slice A1 n1 c1, .slice A2 n2 c2, .slice A3 n3 c3, .slice A4 n4 c4, .slice A5 n5 c5, .int .i64 r.x] 48)) := (Below.refl _ _).alloc (Nat.le_refl _) _
  have kr : Bk (w1.alloc (.cells #[.slice A1 n1 c1, .slice A2 n2 c2, .slice A3 n3 c3, .slice A4 n4 c4, .slice A5 n5 c5, .int .i64 r.x] 48)) w1.heap.size 48 #[.slice A1 n1 c1, .slice A2 n2 c2, .slice A3 n3 c3, .slice A4 n4 c4, .slice A5 n5 c5, .int .i64 r.x] := Bk.new _ _ _
  replace hs0 := hs0.call bB
  replace kl := kl.call bB
  replace x0 := cell_call x0 bB; replace x1 := cell_call x1 bB; replace x2 := cell_call x2 bB; replace x3 := cell_call x3 bB; replace x4 := cell_call x4 bB; replace x5 := cell_call x5 bB; replace i0 := cell_call i0 bB; replace iL := cell_call iL bB
  replace hP := hP.call bB; replace r1 := r1.call bB; replace r2 := r2.call bB; replace r3 := r3.call bB; replace r4 := r4.call bB; replace r5 := r5.mono (lo_mono bB.size) (kept_below bB)
  clear q0 q1 q2 q3 q4 q5 bB l2
  generalize w1.alloc (.cells #[.slice A1 n1 c1, .slice A2 n2 c2, .slice A3 n3 c3, .slice A4 n4 c4, .slice A5 n5 c5, .int .i64 r.x] 48) = w2 at *
  generalize w1.heap.size = br at kr ⊢
  have l0 : w2.cell? ⟨bl, 0, none⟩ = some (.int .i64 6) := kl.cell 0
  have hw0 := HW0.out; have hw2 := HW2.out; have hwk := HWK.out
  go_upto_region 37 with fail
  clear hw0 hw2
  have k5 : w2.cell? ⟨br, 5, none⟩ = some (.int .i64 r.x) := kr.cell 5
  have ltr := kr.lt
  have bX : Below w2.heap.size w2 ((w2.alloc (.cells #[.int .i64 it.g, .int .i64 it.c, .int .i64 it.f, .int .i64 (wrap64 (it.a + r.x)), .int .i64 it.x, .int .i64 it.y] 51)).alloc (.cells #[.int .i64 it.g, .int .i64 it.c, .int .i64 it.f, .int .i64 (wrap64 (it.a + r.x)), .int .i64 it.x, .int .i64 it.y] 51)) := below_lit _ _ (below_lit _ _ (Below.refl _ _) _) _
  have HC := Lib.hid (qcut_c rb ro rn rc run k (k + 1) _ 1 1 [{ it with a := wrap64 (it.a + r.x) }] _ (hs0.hI.call bX) hd (item_new (w2.alloc (.cells #[.int .i64 it.g, .int .i64 it.c, .int .i64 it.f, .int .i64 (wrap64 (it.a + r.x)), .int .i64 it.x, .int .i64 it.y] 51)) { it with a := wrap64 (it.a + r.x) }) (Nat.le_succ _) hkr HRN.out (by decide))
  have eX : (some ⟨(w2.alloc (.cells #[.int .i64 it.g, .int .i64 it.c, .int .i64 it.f, .int .i64 (wrap64 (it.a + r.x)), .int .i64 it.x, .int .i64 it.y] 51)).heap.size, 0, none⟩ : Option Addr) = some ⟨w2.heap.size + 1, 0, none⟩ := by rw [World.size_alloc]
  rw [eX] at HC
  go_wp2_with fail
  refine HC.out.mono ?_
  rintro e w3 ⟨A9, n9, c9, rfl, o9, b9⟩
  clear HC
  have hn9 : n9 = rn := o9.rdI.len.symm.trans HPL.out
  subst hn9
  rw [← HR9.out] at o9
  have FIN := Lib.hid fun (v : Int) (h : v = (nx : Int)) => (show DnPost W R nx (.returned (.tuple #[.slice A9 n9 c9, .int .i64 v])) w3 from ⟨A9, n9, c9, by rw [h], o9.rdI, o9.hd, below_call hs0.bw (below_call bX b9)⟩)
  have hw3 := HW2.out
  have hwn := wr_back n9 L HLL.out
  by_cases hkL : k < L
  · have t0 : (k : Int) < (L : Int) := Int.ofNat_lt.2 hkL
    have HF := Lib.hid (FIN.out L (by rw [HNX.out, if_pos hkL]))
    go_wp2
    go_ret2
    exact HF.out
  · have t0 := dec_no hkL
    have HF := Lib.hid fun (v : Int) (h : v = (L : Int) + 1) => FIN.out v (by rw [h, HNX.out, if_neg hkL]; rfl)
    go_wp2
    go_ret2
    exact HF.out _ (by first | rfl | omega)

end Go.Proofs.Ytkoocipagndclaa
