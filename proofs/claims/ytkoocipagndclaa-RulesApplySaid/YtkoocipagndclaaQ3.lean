/- Walks: the document's done, of single glyphs. -/
import Derived.Test.YtkoocipagndclaaQ2
namespace Go.Proofs.Ytkoocipagndclaa
open Go.RowKit Go.Shelf

/-- The document's done, so deep. -/
def QDd (f : FV) (F : Fnt) (q : Nat) (lk : Lk) (dp : Nat) : Prop := ∀ (W : World) (RA : Option Addr) (rn rc : Nat) (run : List Itm) (k j : Nat) (ps : List Nat) (forms : List Int) (IA : Option Addr) (m c : Nat),
  IsF W (lo W.heap.size) f F → RdI W (lo W.heap.size) RA rn run → Hd rn rc → run.length ≤ 1000 → matchL F lk run (k : Int) forms = some (j, ps) → Rd W (lo W.heap.size) IA m (natI ps) → Hd m c →
  Calls Try.prog 36 #[.agg f.cells, .int .i64 (q : Int), .slice RA rn rc, .int .i64 (j : Int), .slice IA m c, .int .i64 (dp : Int)] W (DnPost W (doL w64 F (4 - dp) lk (lk.rules.getD j default) ps run) (nextL lk ps k run.length (doL w64 F (4 - dp) lk (lk.rules.getD j default) ps run).length))
theorem QDd.zero {f : FV} {F : Fnt} {q : Nat} {lk : Lk} (h : QDd f F q lk 0) : QDoOK f F q lk := h

set_option maxRecDepth 100000 in
set_option maxHeartbeats 4000000 in
theorem qdone_single (f : FV) (F : Fnt) (q : Nat) (lk : Lk) (dp : Nat) (hlk : F.lks[q]? = some lk) (hkd : lk.kind = 1 ∨ lk.kind = 5) : QDd f F q lk dp := by
  intro W RA rn rc run k j ps forms IA m c hf hI hd hln hans hP hpd
  obtain ⟨r, hr, _, _, hne, hhd, hpl, hps, hpw, hfit, _, _⟩ := matchL_some hans
  have hgr : lk.rules.getD j default = r := by simp [hr]
  rw [hgr]
  obtain ⟨m1, m2, m3⟩ := last_ok hans
  have hlast := last_at hne
  have hk0 : ps[0]? = some k := by rw [← List.head?_eq_getElem?, hhd]; simp
  have hml := hP.len
  rw [natI_len] at hml
  obtain ⟨L, hL⟩ : ∃ L, L = ps.getLastD 0 := ⟨_, rfl⟩
  rw [← hL] at m1 m2 m3 hlast
  have hm0 : 0 < m := by rw [← hml]; exact List.length_pos_iff.2 hne
  obtain ⟨pb, po, rfl, _, hpc⟩ := hP.pos hm0
  have i0 : W.cell? ⟨pb, po, none⟩ = some (.int .i64 (k : Int)) := by
    obtain ⟨cs, rfl, hcc⟩ := hpc 0 (k : Int) (natI_at hk0)
    have := hcc 0 _ rfl
    simpa using this
  have iL : W.cell? ⟨pb, po + (m - 1), none⟩ = some (.int .i64 (L : Int)) := by
    obtain ⟨cs, rfl, hcc⟩ := hpc (m - 1) (L : Int) (natI_at (by rw [← hml]; exact hlast))
    have := hcc 0 _ rfl
    simpa using this
  have hrl := hI.len
  obtain ⟨it, hit⟩ := at_some run k (by omega)
  obtain ⟨rb, ro, rfl, _, hci⟩ := hI.pos (by omega)
  obtain ⟨cs, rfl, hcc⟩ := hci k it hit
  have x0 := hcc 0 _ rfl
  have x1 := hcc 1 _ rfl
  have x2 := hcc 2 _ rfl
  have x3 := hcc 3 _ rfl
  have x4 := hcc 4 _ rfl
  have x5 := hcc 5 _ rfl
  rw [Nat.add_zero] at x0
  have hlf := hf.2.1.len
  have hld := hf.2.2.2
  have hlnM : f.ln ≤ 9223372036854775807 := Nat.le_trans hld.1 hld.2
  obtain ⟨lb, lo', hla, _, hcl⟩ := hf.2.1.pos (by have := (List.getElem?_eq_some_iff.1 hlk).1; omega)
  obtain ⟨cs, ⟨LA, ln, lc, rfl, hRR, hRd⟩, hccl⟩ := hcl q lk hlk
  have g0 := hccl 0 _ rfl
  have g1 := hccl 1 _ rfl
  have g2 := hccl 2 _ rfl
  rw [Nat.add_zero] at g0
  have hlR := hRR.len
  have hjl : j < ln := by have := (List.getElem?_eq_some_iff.1 hr).1; omega
  have hlM : ln ≤ 9223372036854775807 := Nat.le_trans hRd.1 hRd.2
  obtain ⟨mb, mo, rfl, _, hcr⟩ := hRR.pos (by omega)
  obtain ⟨cs, ⟨A1, n1, c1, A2, n2, c2, A3, n3, c3, A4, n4, c4, A5, n5, c5, rfl, r1, r2, r3, r4, r5, d1, d2, d3, d4, d5⟩, hccr⟩ := hcr j r hr
  have q0 := hccr 0 _ rfl
  have q1 := hccr 1 _ rfl
  have q2 := hccr 2 _ rfl
  have q3 := hccr 3 _ rfl
  have q4 := hccr 4 _ rfl
  have q5 := hccr 5 _ rfl
  rw [Nat.add_zero] at q0
  have qz : (0 : Int) ≤ (q : Int) := by omega
  have qn : (q : Int) < (f.ln : Int) := by have := (List.getElem?_eq_some_iff.1 hlk).1; omega
  have jz : (0 : Int) ≤ (j : Int) := by omega
  have jn : (j : Int) < (ln : Int) := by omega
  have kz : (0 : Int) ≤ (k : Int) := by omega
  have kn : (k : Int) < (rn : Int) := by omega
  have m0 : (0 : Int) < (m : Int) := by omega
  have hmM : m ≤ 9223372036854775807 := by have := hpd.1; have := hpd.2; omega
  have hrM : rn ≤ 9223372036854775807 := by omega
  have hkr : k + 1 ≤ rn := by omega
  have HRN := Lib.hid (show rn ≤ 1000000 by omega)
  have HW0 := Lib.hid (show wrap64 ((rn : Int) - (L : Int)) = (rn : Int) - (L : Int) by unfold wrap64; omega)
  have HW2 := Lib.hid (show wrap64 ((rn : Int) - (L : Int) - 1) = (rn : Int) - (L : Int) - 1 by unfold wrap64; omega)
  have HWK := Lib.hid (show wrap64 ((k : Int) + 1) = ((k + 1 : Nat) : Int) by unfold wrap64; omega)
  have HL := Lib.hid hL; have HIT := Lib.hid hit; have HRL := Lib.hid hrl; have HML := Lib.hid hml; have HR := Lib.hid hr
  have M1 := Lib.hid m1; have M2 := Lib.hid m2; have M3 := Lib.hid m3; have HPS := Lib.hid hps; have HPW := Lib.hid hpw; have HLN := Lib.hid hln; have HANS := Lib.hid hans
  have hs0 := LS'.new hf hI
  have HLA := Lib.hid hla
  have x0 := cell_call x0 hs0.bw; have x1 := cell_call x1 hs0.bw; have x2 := cell_call x2 hs0.bw; have x3 := cell_call x3 hs0.bw; have x4 := cell_call x4 hs0.bw; have x5 := cell_call x5 hs0.bw
  have g0 := cell_call g0 hs0.bw; have g1 := cell_call g1 hs0.bw; have g2 := cell_call g2 hs0.bw
  have q0 := cell_call q0 hs0.bw; have q1 := cell_call q1 hs0.bw; have q2 := cell_call q2 hs0.bw; have q3 := cell_call q3 hs0.bw; have q4 := cell_call q4 hs0.bw; have q5 := cell_call q5 hs0.bw
  have i0 := cell_call i0 hs0.bw; have iL := cell_call iL hs0.bw
  have hP := hP.call hs0.bw
  have r1 := r1.call hs0.bw; have r2 := r2.call hs0.bw; have r3 := r3.call hs0.bw; have r4 := r4.call hs0.bw; have r5 := r5.mono (lo_mono hs0.bw.size) (kept_below hs0.bw)
  clear hans hhd hpl hps hpw hfit hgr hne hlast hk0 hpc hml hm0 hit hci hcc hlf hld hla hcl hccl hlR hjl hcr hccr hr hL m1 m2 m3 hrl hf hI hRR
  unfold FV.cells at hs0 x0 x1 x2 x3 x4 x5 g0 g1 g2 q0 q1 q2 q3 q4 q5 i0 iL hP r1 r2 r3 r4 r5 ⊢
  have hk9 : ps.headD 0 = k := by
    obtain ⟨_, _, _, _, _, hhd, _⟩ := matchL_some HANS.out
    cases ps with
    | nil => simp at hhd
    | cons a t => simp at hhd; simpa using hhd
  have hin : r.inn ≠ [] := by
    obtain ⟨r9, hr9, _, _, hne9, _, hpl9, _⟩ := matchL_some HANS.out
    rw [HR.out] at hr9; injection hr9 with hr9; subst hr9
    intro e; rw [e] at hpl9; exact hne9 (List.eq_nil_of_length_eq_zero hpl9)
  rw [doL_single hkd, hk9]
  obtain ⟨R, hR⟩ : ∃ R, R = singleL r k run := ⟨_, rfl⟩
  rw [← hR]
  obtain ⟨nx, hnx⟩ : ∃ nx, nx = nextL lk ps k run.length R.length := ⟨_, rfl⟩
  rw [← hnx]
  have HR9 := Lib.hid hR; have HNXX := Lib.hid hnx
  clear hR hnx
  rcases hkd with hkd | hkd
  · skip
    rw [hkd] at g0
    go_enter Try.func36, Try.ntmps36
    go_upto_region 1 with fail
    generalize W.alloc (.cells #[.int .i64 f.u0, .slice f.ga f.gn f.gc, .slice f.ca f.cn f.cc, .slice f.la f.ln f.lc, .slice f.a4 f.n4 f.c4, .slice f.a5 f.n5 f.c5, .slice f.a6 f.n6 f.c6, .slice f.a7 f.n7 f.c7, .slice f.a8 f.n8 f.c8] 31) = w0 at hs0 x0 x1 x2 x3 x4 x5 g0 g1 g2 q0 q1 q2 q3 q4 q5 i0 iL hP r1 r2 r3 r4 r5 ⊢
    generalize hbf : W.heap.size = bf at hs0 ⊢
    clear hbf
    have y3 := (font_cells hs0.kf).2.2.2.1
    rw [HLA.out] at y3
    go_upto_region 2 with fail
    have bA : Below w0.heap.size w0 (w0.alloc (.cells #[.int .i64 1, .bool lk.ign, .slice (some ⟨mb, mo, none⟩) ln lc] 44)) := (Below.refl _ _).alloc (Nat.le_refl _) _
    have kl : Bk (w0.alloc (.cells #[.int .i64 1, .bool lk.ign, .slice (some ⟨mb, mo, none⟩) ln lc] 44)) w0.heap.size 44 #[.int .i64 1, .bool lk.ign, .slice (some ⟨mb, mo, none⟩) ln lc] := Bk.new _ _ _
    replace hs0 := hs0.call bA
    replace x0 := cell_call x0 bA; replace x1 := cell_call x1 bA; replace x2 := cell_call x2 bA; replace x3 := cell_call x3 bA; replace x4 := cell_call x4 bA; replace x5 := cell_call x5 bA; replace q0 := cell_call q0 bA; replace q1 := cell_call q1 bA; replace q2 := cell_call q2 bA; replace q3 := cell_call q3 bA; replace q4 := cell_call q4 bA; replace q5 := cell_call q5 bA; replace i0 := cell_call i0 bA; replace iL := cell_call iL bA
    replace hP := hP.call bA; replace r1 := r1.call bA; replace r2 := r2.call bA; replace r3 := r3.call bA; replace r4 := r4.call bA; replace r5 := r5.mono (lo_mono bA.size) (kept_below bA)
    clear y3 g0 g1 g2 bA
    generalize w0.alloc (.cells #[.int .i64 1, .bool lk.ign, .slice (some ⟨mb, mo, none⟩) ln lc] 44) = w1 at *
    generalize w0.heap.size = bl at kl ⊢
    have l2 : w1.cell? ⟨bl, 2, none⟩ = some (.slice (some ⟨mb, mo, none⟩) ln lc) := kl.cell 2
    go_upto_region 3 with fail
    have bB : Below w1.heap.size w1 (w1.alloc (.cells #[.slice A1 n1 c1, .slice A2 n2 c2, .slice A3 n3 c3, .slice A4 n4 c4, .slice A5 n5 c5, .int .i64 r.x] 48)) := (Below.refl _ _).alloc (Nat.le_refl _) _
    have kr : Bk (w1.alloc (.cells #[.slice A1 n1 c1, .slice A2 n2 c2, .slice A3 n3 c3, .slice A4 n4 c4, .slice A5 n5 c5, .int .i64 r.x] 48)) w1.heap.size 48 #[.slice A1 n1 c1, .slice A2 n2 c2, .slice A3 n3 c3, .slice A4 n4 c4, .slice A5 n5 c5, .int .i64 r.x] := Bk.new _ _ _
    replace hs0 := hs0.call bB
    replace kl := kl.call bB
    replace x0 := cell_call x0 bB; replace x1 := cell_call x1 bB; replace x2 := cell_call x2 bB; replace x3 := cell_call x3 bB; replace x4 := cell_call x4 bB; replace x5 := cell_call x5 bB; replace i0 := cell_call i0 bB; replace iL := cell_call iL bB
    replace hP := hP.call bB; replace r1 := r1.call bB; replace r2 := r2.call bB; replace r3 := r3.call bB; replace r4 := r4.call bB; replace r5 := r5.mono (lo_mono bB.size) (kept_below bB)
    clear q0 q1 q2 q3 q4 q5 bB l2
    generalize w1.alloc (.cells #[.slice A1 n1 c1, .slice A2 n2 c2, .slice A3 n3 c3, .slice A4 n4 c4, .slice A5 n5 c5, .int .i64 r.x] 48) = w2 at *
    generalize w1.heap.size = br at kr ⊢
    have l0 : w2.cell? ⟨bl, 0, none⟩ = some (.int .i64 1) := kl.cell 0
    have hw0 := HW0.out; have hw2 := HW2.out; have hwk := HWK.out
    go_upto_region 9 with fail
    clear hw0 hw2

    have HSC := Lib.hid fun (W' : World) (b : Below w2.heap.size w2 W') => (show W'.cell? ⟨br, 0, none⟩ = some (.slice A1 n1 c1) ∧ W'.cell? ⟨br, 1, none⟩ = some (.slice A2 n2 c2) ∧ W'.cell? ⟨br, 2, none⟩ = some (.slice A3 n3 c3) ∧ W'.cell? ⟨br, 3, none⟩ = some (.slice A4 n4 c4) ∧ W'.cell? ⟨br, 4, none⟩ = some (.slice A5 n5 c5) ∧ W'.cell? ⟨br, 5, none⟩ = some (.int .i64 r.x) ∧ W'.cell? ⟨rb, ro + k * 6, none⟩ = some (.int .i64 it.g) from by
      have kr' := kr.call b
      exact And.intro (kr'.cell 0) (And.intro (kr'.cell 1) (And.intro (kr'.cell 2) (And.intro (kr'.cell 3) (And.intro (kr'.cell 4) (And.intro (kr'.cell 5) ((cell_call x0 b))))))))
    have HCO := Lib.hid fun (W' : World) (b : Below w2.heap.size w2 W') => qother_c r A1 n1 c1 A2 n2 c2 A3 n3 c3 A4 n4 c4 A5 n5 c5 it.g W' (r2.call b) (r4.call b) d2 d4 hin
    have zA : w2.cell? ⟨br, 0, none⟩ = some (.slice A1 n1 c1) ∧ w2.cell? ⟨br, 1, none⟩ = some (.slice A2 n2 c2) ∧ w2.cell? ⟨br, 2, none⟩ = some (.slice A3 n3 c3) ∧ w2.cell? ⟨br, 3, none⟩ = some (.slice A4 n4 c4) ∧ w2.cell? ⟨br, 4, none⟩ = some (.slice A5 n5 c5) ∧ w2.cell? ⟨br, 5, none⟩ = some (.int .i64 r.x) := And.intro (kr.cell 0) (And.intro (kr.cell 1) (And.intro (kr.cell 2) (And.intro (kr.cell 3) (And.intro (kr.cell 4) ((kr.cell 5))))))
    obtain ⟨za0, za1, za2, za3, za4, za5⟩ := zA
    go_wp2
    go_region_held3 (fun w' => w'.cell? ⟨br, 0, none⟩ = some (.slice A1 n1 c1) ∧ w'.cell? ⟨br, 1, none⟩ = some (.slice A2 n2 c2) ∧ w'.cell? ⟨br, 2, none⟩ = some (.slice A3 n3 c3) ∧ w'.cell? ⟨br, 3, none⟩ = some (.slice A4 n4 c4) ∧ w'.cell? ⟨br, 4, none⟩ = some (.slice A5 n5 c5) ∧ w'.cell? ⟨br, 5, none⟩ = some (.int .i64 r.x) ∧ w'.cell? ⟨rb, ro + k * 6, none⟩ = some (.int .i64 it.g)) (first | ((with_reducible refine HSC.out _ ?_); go_grown; done) | go_keep) (first
      | (go_at_call 48; (with_reducible refine (HCO.out _ ?_).mono ?_); exact ⟨rfl, rfl, rfl, Nat.le_refl _, fun _ _ => rfl⟩; rintro e w3 ⟨rfl, hb3⟩; have b3 := below_undrew hb3))
    clear za0 za1 za2 za3 za4 za5 HSC HCO hb3
    have HWB := Lib.hid (wr_back rn L (by have := M2.out; have := HLN.out; omega))
    cases ho : otherL r it.g with
    | none =>
      have HRES := Lib.hid (show R = run by rw [HR9.out]; unfold singleL; rw [gAt_some HIT.out, ho])
      have HNX := Lib.hid (show nx = L + 1 by rw [HNXX.out, HRES.out]; unfold nextL; rw [← HL.out]; rw [if_neg (by omega), if_neg (by omega)]; omega)
      have hwb := HWB.out
      have hs3 := hs0.call b3
      have HF := Lib.hid fun (v : Int) (h : v = (L : Int) + 1) => (show DnPost W R nx (.returned (.tuple #[.slice (some ⟨rb, ro, none⟩) rn rc, .int .i64 v])) w3 from ⟨some ⟨rb, ro, none⟩, rn, rc, by rw [HNX.out, h]; rfl, by rw [HRES.out]; exact hs3.hI, hd, hs3.bw⟩)
      clear ho b3 hwk hs3
      have hw2 := HW2.out; have hw0 := HW0.out
      go_wp2
      go_ret2
      exact HF.out _ (by first | rfl | omega)
    | some g =>
      have HRES := Lib.hid (show R = run.take k ++ ([setG it g] ++ run.drop (k + 1)) by rw [HR9.out]; unfold singleL; rw [gAt_some HIT.out, ho]; simp only; rw [modify_cut HIT.out])
      have HNX := Lib.hid (show nx = L + 1 by
        have hl9 : R.length = run.length := by rw [HR9.out, single_len]
        rw [HNXX.out, hl9]; unfold nextL; rw [← HL.out]; rw [if_neg (by omega), if_neg (by omega)]; omega)
      have HRLN := Lib.hid (show R.length = rn by rw [HR9.out, single_len]; exact HRL.out)
      have x0a := cell_call x0 b3; have x1a := cell_call x1 b3; have x2a := cell_call x2 b3; have x3a := cell_call x3 b3; have x4a := cell_call x4 b3; have x5a := cell_call x5 b3
      have hs3 := hs0.call b3
      have bX : Below w3.heap.size w3 ((w3.alloc (.cells #[.int .i64 g, .int .i64 it.c, .int .i64 it.f, .int .i64 it.a, .int .i64 it.x, .int .i64 it.y] 51)).alloc (.cells #[.int .i64 g, .int .i64 it.c, .int .i64 it.f, .int .i64 it.a, .int .i64 it.x, .int .i64 it.y] 51)) := below_lit _ _ (below_lit _ _ (Below.refl _ _) _) _
      have HC := Lib.hid (qcut_c rb ro rn rc run k (k + 1) _ 1 1 [setG it g] _ (hs3.hI.call bX) hd (item_new (w3.alloc (.cells #[.int .i64 g, .int .i64 it.c, .int .i64 it.f, .int .i64 it.a, .int .i64 it.x, .int .i64 it.y] 51)) (setG it g)) (Nat.le_succ _) hkr HRN.out (by decide))
      have eX : (some ⟨(w3.alloc (.cells #[.int .i64 g, .int .i64 it.c, .int .i64 it.f, .int .i64 it.a, .int .i64 it.x, .int .i64 it.y] 51)).heap.size, 0, none⟩ : Option Addr) = some ⟨w3.heap.size + 1, 0, none⟩ := by rw [World.size_alloc]
      rw [eX] at HC
      clear ho x0 x1 x2 x3 x4 x5 b3
      go_wp2_with fail
      refine HC.out.mono ?_
      rintro e w4 ⟨A9, n9, c9, rfl, o9, b9⟩
      clear HC
      rw [← HRES.out] at o9
      have hn9 : n9 = rn := o9.rdI.len.symm.trans HRLN.out
      subst hn9
      have HF := Lib.hid fun (v : Int) (h : v = (L : Int) + 1) => (show DnPost W R nx (.returned (.tuple #[.slice A9 n9 c9, .int .i64 v])) w4 from ⟨A9, n9, c9, by rw [HNX.out, h]; rfl, o9.rdI, o9.hd, below_call hs3.bw (below_call bX b9)⟩)
      have hwb := HWB.out
      have hw2 := HW2.out; have hw0 := HW0.out
      clear o9 b9 bX hs3 hwk
      go_wp2
      go_ret2
      exact HF.out _ (by first | rfl | omega)
  · skip
    rw [hkd] at g0
    go_enter Try.func36, Try.ntmps36
    go_upto_region 1 with fail
    generalize W.alloc (.cells #[.int .i64 f.u0, .slice f.ga f.gn f.gc, .slice f.ca f.cn f.cc, .slice f.la f.ln f.lc, .slice f.a4 f.n4 f.c4, .slice f.a5 f.n5 f.c5, .slice f.a6 f.n6 f.c6, .slice f.a7 f.n7 f.c7, .slice f.a8 f.n8 f.c8] 31) = w0 at hs0 x0 x1 x2 x3 x4 x5 g0 g1 g2 q0 q1 q2 q3 q4 q5 i0 iL hP r1 r2 r3 r4 r5 ⊢
    generalize hbf : W.heap.size = bf at hs0 ⊢
    clear hbf
    have y3 := (font_cells hs0.kf).2.2.2.1
    rw [HLA.out] at y3
    go_upto_region 2 with fail
    have bA : Below w0.heap.size w0 (w0.alloc (.cells #[.int .i64 5, .bool lk.ign, .slice (some ⟨mb, mo, none⟩) ln lc] 44)) := (Below.refl _ _).alloc (Nat.le_refl _) _
    have kl : Bk (w0.alloc (.cells #[.int .i64 5, .bool lk.ign, .slice (some ⟨mb, mo, none⟩) ln lc] 44)) w0.heap.size 44 #[.int .i64 5, .bool lk.ign, .slice (some ⟨mb, mo, none⟩) ln lc] := Bk.new _ _ _
    replace hs0 := hs0.call bA
    replace x0 := cell_call x0 bA; replace x1 := cell_call x1 bA; replace x2 := cell_call x2 bA; replace x3 := cell_call x3 bA; replace x4 := cell_call x4 bA; replace x5 := cell_call x5 bA; replace q0 := cell_call q0 bA; replace q1 := cell_call q1 bA; replace q2 := cell_call q2 bA; replace q3 := cell_call q3 bA; replace q4 := cell_call q4 bA; replace q5 := cell_call q5 bA; replace i0 := cell_call i0 bA; replace iL := cell_call iL bA
    replace hP := hP.call bA; replace r1 := r1.call bA; replace r2 := r2.call bA; replace r3 := r3.call bA; replace r4 := r4.call bA; replace r5 := r5.mono (lo_mono bA.size) (kept_below bA)
    clear y3 g0 g1 g2 bA
    generalize w0.alloc (.cells #[.int .i64 5, .bool lk.ign, .slice (some ⟨mb, mo, none⟩) ln lc] 44) = w1 at *
    generalize w0.heap.size = bl at kl ⊢
    have l2 : w1.cell? ⟨bl, 2, none⟩ = some (.slice (some ⟨mb, mo, none⟩) ln lc) := kl.cell 2
    go_upto_region 3 with fail
    have bB : Below w1.heap.size w1 (w1.alloc (.cells #[.slice A1 n1 c1, .slice A2 n2 c2, .slice A3 n3 c3, .slice A4 n4 c4, .slice A5 n5 c5, .int .i64 r.x] 48)) := (Below.refl _ _).alloc (Nat.le_refl _) _
    have kr : Bk (w1.alloc (.cells #[.slice A1 n1 c1, .slice A2 n2 c2, .slice A3 n3 c3, .slice A4 n4 c4, .slice A5 n5 c5, .int .i64 r.x] 48)) w1.heap.size 48 #[.slice A1 n1 c1, .slice A2 n2 c2, .slice A3 n3 c3, .slice A4 n4 c4, .slice A5 n5 c5, .int .i64 r.x] := Bk.new _ _ _
    replace hs0 := hs0.call bB
    replace kl := kl.call bB
    replace x0 := cell_call x0 bB; replace x1 := cell_call x1 bB; replace x2 := cell_call x2 bB; replace x3 := cell_call x3 bB; replace x4 := cell_call x4 bB; replace x5 := cell_call x5 bB; replace i0 := cell_call i0 bB; replace iL := cell_call iL bB
    replace hP := hP.call bB; replace r1 := r1.call bB; replace r2 := r2.call bB; replace r3 := r3.call bB; replace r4 := r4.call bB; replace r5 := r5.mono (lo_mono bB.size) (kept_below bB)
    clear q0 q1 q2 q3 q4 q5 bB l2
    generalize w1.alloc (.cells #[.slice A1 n1 c1, .slice A2 n2 c2, .slice A3 n3 c3, .slice A4 n4 c4, .slice A5 n5 c5, .int .i64 r.x] 48) = w2 at *
    generalize w1.heap.size = br at kr ⊢
    have l0 : w2.cell? ⟨bl, 0, none⟩ = some (.int .i64 5) := kl.cell 0
    have hw0 := HW0.out; have hw2 := HW2.out; have hwk := HWK.out
    go_upto_region 9 with fail
    clear hw0 hw2

    have HSC := Lib.hid fun (W' : World) (b : Below w2.heap.size w2 W') => (show W'.cell? ⟨br, 0, none⟩ = some (.slice A1 n1 c1) ∧ W'.cell? ⟨br, 1, none⟩ = some (.slice A2 n2 c2) ∧ W'.cell? ⟨br, 2, none⟩ = some (.slice A3 n3 c3) ∧ W'.cell? ⟨br, 3, none⟩ = some (.slice A4 n4 c4) ∧ W'.cell? ⟨br, 4, none⟩ = some (.slice A5 n5 c5) ∧ W'.cell? ⟨br, 5, none⟩ = some (.int .i64 r.x) ∧ W'.cell? ⟨rb, ro + k * 6, none⟩ = some (.int .i64 it.g) from by
      have kr' := kr.call b
      exact And.intro (kr'.cell 0) (And.intro (kr'.cell 1) (And.intro (kr'.cell 2) (And.intro (kr'.cell 3) (And.intro (kr'.cell 4) (And.intro (kr'.cell 5) ((cell_call x0 b))))))))
    have HCO := Lib.hid fun (W' : World) (b : Below w2.heap.size w2 W') => qother_c r A1 n1 c1 A2 n2 c2 A3 n3 c3 A4 n4 c4 A5 n5 c5 it.g W' (r2.call b) (r4.call b) d2 d4 hin
    have zA : w2.cell? ⟨br, 0, none⟩ = some (.slice A1 n1 c1) ∧ w2.cell? ⟨br, 1, none⟩ = some (.slice A2 n2 c2) ∧ w2.cell? ⟨br, 2, none⟩ = some (.slice A3 n3 c3) ∧ w2.cell? ⟨br, 3, none⟩ = some (.slice A4 n4 c4) ∧ w2.cell? ⟨br, 4, none⟩ = some (.slice A5 n5 c5) ∧ w2.cell? ⟨br, 5, none⟩ = some (.int .i64 r.x) := And.intro (kr.cell 0) (And.intro (kr.cell 1) (And.intro (kr.cell 2) (And.intro (kr.cell 3) (And.intro (kr.cell 4) ((kr.cell 5))))))
    obtain ⟨za0, za1, za2, za3, za4, za5⟩ := zA
    go_wp2
    go_region_held3 (fun w' => w'.cell? ⟨br, 0, none⟩ = some (.slice A1 n1 c1) ∧ w'.cell? ⟨br, 1, none⟩ = some (.slice A2 n2 c2) ∧ w'.cell? ⟨br, 2, none⟩ = some (.slice A3 n3 c3) ∧ w'.cell? ⟨br, 3, none⟩ = some (.slice A4 n4 c4) ∧ w'.cell? ⟨br, 4, none⟩ = some (.slice A5 n5 c5) ∧ w'.cell? ⟨br, 5, none⟩ = some (.int .i64 r.x) ∧ w'.cell? ⟨rb, ro + k * 6, none⟩ = some (.int .i64 it.g)) (first | ((with_reducible refine HSC.out _ ?_); go_grown; done) | go_keep) (first
      | (go_at_call 48; (with_reducible refine (HCO.out _ ?_).mono ?_); exact ⟨rfl, rfl, rfl, Nat.le_refl _, fun _ _ => rfl⟩; rintro e w3 ⟨rfl, hb3⟩; have b3 := below_undrew hb3))
    clear za0 za1 za2 za3 za4 za5 HSC HCO hb3
    have HWB := Lib.hid (wr_back rn L (by have := M2.out; have := HLN.out; omega))
    cases ho : otherL r it.g with
    | none =>
      have HRES := Lib.hid (show R = run by rw [HR9.out]; unfold singleL; rw [gAt_some HIT.out, ho])
      have HNX := Lib.hid (show nx = L + 1 by rw [HNXX.out, HRES.out]; unfold nextL; rw [← HL.out]; rw [if_neg (by omega), if_neg (by omega)]; omega)
      have hwb := HWB.out
      have hs3 := hs0.call b3
      have HF := Lib.hid fun (v : Int) (h : v = (L : Int) + 1) => (show DnPost W R nx (.returned (.tuple #[.slice (some ⟨rb, ro, none⟩) rn rc, .int .i64 v])) w3 from ⟨some ⟨rb, ro, none⟩, rn, rc, by rw [HNX.out, h]; rfl, by rw [HRES.out]; exact hs3.hI, hd, hs3.bw⟩)
      clear ho b3 hwk hs3
      have hw2 := HW2.out; have hw0 := HW0.out
      go_wp2
      go_ret2
      exact HF.out _ (by first | rfl | omega)
    | some g =>
      have HRES := Lib.hid (show R = run.take k ++ ([setG it g] ++ run.drop (k + 1)) by rw [HR9.out]; unfold singleL; rw [gAt_some HIT.out, ho]; simp only; rw [modify_cut HIT.out])
      have HNX := Lib.hid (show nx = L + 1 by
        have hl9 : R.length = run.length := by rw [HR9.out, single_len]
        rw [HNXX.out, hl9]; unfold nextL; rw [← HL.out]; rw [if_neg (by omega), if_neg (by omega)]; omega)
      have HRLN := Lib.hid (show R.length = rn by rw [HR9.out, single_len]; exact HRL.out)
      have x0a := cell_call x0 b3; have x1a := cell_call x1 b3; have x2a := cell_call x2 b3; have x3a := cell_call x3 b3; have x4a := cell_call x4 b3; have x5a := cell_call x5 b3
      have hs3 := hs0.call b3
      have bX : Below w3.heap.size w3 ((w3.alloc (.cells #[.int .i64 g, .int .i64 it.c, .int .i64 it.f, .int .i64 it.a, .int .i64 it.x, .int .i64 it.y] 51)).alloc (.cells #[.int .i64 g, .int .i64 it.c, .int .i64 it.f, .int .i64 it.a, .int .i64 it.x, .int .i64 it.y] 51)) := below_lit _ _ (below_lit _ _ (Below.refl _ _) _) _
      have HC := Lib.hid (qcut_c rb ro rn rc run k (k + 1) _ 1 1 [setG it g] _ (hs3.hI.call bX) hd (item_new (w3.alloc (.cells #[.int .i64 g, .int .i64 it.c, .int .i64 it.f, .int .i64 it.a, .int .i64 it.x, .int .i64 it.y] 51)) (setG it g)) (Nat.le_succ _) hkr HRN.out (by decide))
      have eX : (some ⟨(w3.alloc (.cells #[.int .i64 g, .int .i64 it.c, .int .i64 it.f, .int .i64 it.a, .int .i64 it.x, .int .i64 it.y] 51)).heap.size, 0, none⟩ : Option Addr) = some ⟨w3.heap.size + 1, 0, none⟩ := by rw [World.size_alloc]
      rw [eX] at HC
      clear ho x0 x1 x2 x3 x4 x5 b3
      go_wp2_with fail
      refine HC.out.mono ?_
      rintro e w4 ⟨A9, n9, c9, rfl, o9, b9⟩
      clear HC
      rw [← HRES.out] at o9
      have hn9 : n9 = rn := o9.rdI.len.symm.trans HRLN.out
      subst hn9
      have HF := Lib.hid fun (v : Int) (h : v = (L : Int) + 1) => (show DnPost W R nx (.returned (.tuple #[.slice A9 n9 c9, .int .i64 v])) w4 from ⟨A9, n9, c9, by rw [HNX.out, h]; rfl, o9.rdI, o9.hd, below_call hs3.bw (below_call bX b9)⟩)
      have hwb := HWB.out
      have hw2 := HW2.out; have hw0 := HW0.out
      clear o9 b9 bX hs3 hwk
      go_wp2
      go_ret2
      exact HF.out _ (by first | rfl | omega)

end Go.Proofs.Ytkoocipagndclaa
