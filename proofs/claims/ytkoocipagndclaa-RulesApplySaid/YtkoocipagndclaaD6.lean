/- Walks: do, of single glyphs, of several for one, of ligatures. -/
import Derived.Test.YtkoocipagndclaaD5
namespace Go.Proofs.Ytkoocipagndclaa
open Go.RowKit Go.Shelf

theorem dpost_pre {B Bw Bm : Nat} {f : FV} {F : Fnt} {W W1 : World} {RA : Option Addr} {rn rc : Nat} {run run' : List Itm} {e : Ending} {w' : World} (hs : WS B W Bw Bm f F RA rn rc run) (b1 : Below W.heap.size W W1) (h : DPost B Bw Bm f F W1 run' e w') : DPost B Bw Bm f F W run' e w' := by
  obtain ⟨h0, A, n, c, h1, h2, h3⟩ := h
  exact ⟨h0, A, n, c, h1, fun b hb => (h2 b (hb.below b1)).trans (b1.block b (hb.lt hs.hB)), (b1.mono hs.hB).trans h3⟩
theorem index_d (A : Option Addr) (n c : Nat) (xs : List Int) (g : Int) (w : World) (h : Rd w (lo w.heap.size) A n xs) (hn : n ≤ 9223372036854775807) :
    Calls Try.prog 41 #[.slice A n c, .int .i64 g] w fun e w' => e = .returned (.int .i64 (idxI xs g)) ∧ ∃ d, w' = w.drewN d := (index_c A n c xs g w h hn).mono fun _ _ ⟨he, hm⟩ => ⟨he, 0, hm.symm⟩

set_option maxRecDepth 100000 in
set_option maxHeartbeats 4000000 in
theorem do_single (B Bw Bm : Nat) (f : FV) (F : Fnt) (k : Nat) (lk : Lk) (dp : Nat) (hk : F.lks[k]? = some lk) (hkind : lk.kind = 1 ∨ lk.kind = 5) : DoOK B Bw Bm f F k lk dp := by
  intro W RA rn rc run rule r PA pn pc places hs hr hP hpd hin hne hpl hpw hlen
  obtain ⟨b, o, A, n, c, b2, o2, A1, n1, c1, A2, n2, c2, A3, n3, c3, A4, n4, c4, A5, n5, c5, hla, hb0, g0, g1, g2, rfl, rl, kl, fl, nl, x0, x1, x2, x3, x4, x5, q2, q4, q5, d2, d4, d5⟩ := do_head hs hk hr
  obtain ⟨p, ps, rfl⟩ : ∃ p ps, places = p :: ps := by cases places with | nil => exact absurd rfl hne | cons p ps => exact ⟨p, ps, rfl⟩
  have hp := hpl p (List.mem_cons_self ..)
  obtain ⟨it, hit⟩ := at_some run p hp
  obtain ⟨R, hR⟩ : ∃ R, R = doL w64 F (4 - dp) lk r (p :: ps) run := ⟨_, rfl⟩
  rw [← hR]

  have HR := Lib.hid hR
  have hpl2 := hP.len
  rw [natI_len] at hpl2
  simp at hpl2
  obtain ⟨pb, po, rfl, hpS, hpc⟩ := hP.pos (by omega)
  obtain ⟨cs, rfl, hcc⟩ := hpc 0 (p : Int) (by simp [natI])
  have y0 := hcc 0 _ rfl
  simp only [Nat.zero_mul, Nat.add_zero] at y0
  clear hpc hcc hR
  have hrl := hs.len
  obtain ⟨gi, rfl, hgB, _⟩ := hs.own.form (by omega)
  have c3' := hs.c3
  rw [hla] at c3'
  have pz : (0 : Int) ≤ (p : Int) := by omega
  have pr : (p : Int) < (rn : Int) := by omega
  have hpn0 : (0 : Int) < (pn : Int) := by omega
  have hpn1 : 0 < pn := by omega
  have kz : (0 : Int) ≤ (k : Int) := by omega
  have rz : (0 : Int) ≤ (rule : Int) := by omega
  have hcN : pn ≤ 9223372036854775807 := Nat.le_trans hpd.1 hpd.2
  have hrnN : rn ≤ 1000 := by omega
  have hgl := (hs.own.lt gi 0 none rfl).2
  have lt1 := cell_lt g0
  have lt2 := cell_lt x0
  have lt3 := cell_lt y0
  have lt4 := hs.wk.lt
  dsimp only at lt1 lt2 lt3
  have HS := Lib.hid hs; have HIT := Lib.hid hit; have HRL := Lib.hid hrl; have HPL := Lib.hid hpl; have HPW := Lib.hid hpw; have HP := Lib.hid hP

  have hSingle : doL w64 F (4 - dp) lk r (p :: ps) run = singleL r p run := by
    unfold doL; simp only [List.headD_cons]; rw [if_pos hkind]
  obtain ⟨s, t, hse⟩ : ∃ s t, r.inn = s :: t := by cases h : r.inn with | nil => exact absurd h hin | cons s t => exact ⟨s, t, rfl⟩
  have hn2 : 0 < n2 := by have := q2.len; rw [hse] at this; simp at this; omega
  obtain ⟨sb, so, rfl, _, hsc⟩ := q2.pos hn2
  obtain ⟨cs, ⟨SA, sn, sc, rfl, hsS, hsd⟩, hscc⟩ := hsc 0 s (by rw [hse]; rfl)
  have s0 := hscc 0 _ rfl
  simp only [Nat.zero_mul, Nat.add_zero] at s0
  have HSE := Lib.hid (show r.inn.head?.getD [] = s by rw [hse]; rfl)
  have hsS := hsS.mono (lo_mono HS.out.hB) (Kept.refl _ _)
  have n2z : (0 : Int) < (n2 : Int) := by omega
  have hn2M : n2 ≤ 9223372036854775807 := Nat.le_trans d2.1 d2.2
  clear hs hit hpl hpw hP hr hk hpl2 hrl hin q5 hsc hscc hse
  rcases hkind with hkind | hkind
  · rw [hkind] at g0
    go_enter Try.func47, Try.ntmps47
    go_upto_region 1 with fail
    generalize hW1 : W.alloc (.cells #[.slice A1 n1 c1, .slice (some ⟨sb, so, none⟩) n2 c2, .slice A3 n3 c3, .slice A4 n4 c4, .slice A5 n5 c5, .int .i64 r.x] 48) = W1
    have bx : Bk W1 W.heap.size 48 #[.slice A1 n1 c1, .slice (some ⟨sb, so, none⟩) n2 c2, .slice A3 n3 c3, .slice A4 n4 c4, .slice A5 n5 c5, .int .i64 r.x] := by rw [← hW1]; exact Bk.new _ _ _
    have b1 : Below W.heap.size W W1 := by rw [← hW1]; exact (Below.refl _ _).alloc (Nat.le_refl _) _
    have hs1 := HS.out.call b1
    have PRE := Lib.hid fun (run' : List Itm) (e : Ending) (w' : World) (h : DPost B Bw Bm f F W1 run' e w') => dpost_pre HS.out b1 h
    generalize W.heap.size = br at bx ⊢
    have z0 : W1.cell? ⟨br, 0, none⟩ = some (.slice A1 n1 c1) := bx.cell 0
    have z1 : W1.cell? ⟨br, 1, none⟩ = some (.slice (some ⟨sb, so, none⟩) n2 c2) := bx.cell 1
    have z3 : W1.cell? ⟨br, 3, none⟩ = some (.slice A4 n4 c4) := bx.cell 3
    have z4 : W1.cell? ⟨br, 4, none⟩ = some (.slice A5 n5 c5) := bx.cell 4
    replace y0 := cell_call y0 b1
    replace g0 := cell_call g0 b1
    replace c3' := cell_call c3' b1
    replace s0 := cell_call s0 b1
    have c9 := hs1.c9
    have i0 := hs1.own.cell (itc_at HIT.out (j := 0) (v := .int .i64 it.g) rfl)
    rw [Nat.add_zero] at i0
    have f0 := hs1.own.frozen (p * 6)
    have hS1 := hsS.call b1
    have hO1 := (q4.mono (lo_mono HS.out.hB) (Kept.refl _ _)).call b1
    have HCI := Lib.hid fun (W2 : World) (h : Rd W2 (lo W2.heap.size) SA sn s) => index_d SA sn sc s it.g W2 h (Nat.le_trans hsd.1 hsd.2)
    have HRS := Lib.hid hS1
    clear hW1 b1 x0 x1 x2 x3 x4 x5 g1 g2 lt1 lt2 lt3 lt4
    go_wp2
    go_quiet ((go_at_call 41; (first | (with_reducible refine quiet_d (HCI.out _ ?_)) | (with_reducible refine quiet_add_d (HCI.out _ ?_))); exact HRS.out))
    have hs2 := hs1.call (W' := W1.drewN nq) ⟨rfl, rfl, rfl, Nat.le_refl _, fun _ _ => rfl⟩
    cases hidx : s.idxOf? it.g with
    | none =>
      have hI : idxI s it.g = -1 := by unfold idxI; rw [hidx]
      have HRES := Lib.hid (show R = run by rw [HR.out, hSingle]; unfold singleL otherL; rw [gAt_some HIT.out, HSE.out, hidx]; rfl)
      rw [hI]
      clear hI hidx
      go_wp2
      go_end0
      exact PRE.out _ _ _ ⟨rfl, _, _, _, by rw [HRES.out]; exact hs2, Kept.refl _ _, ⟨rfl, rfl, rfl, Nat.le_refl _, fun _ _ => rfl⟩⟩
    | some m =>
      have hI : idxI s it.g = (m : Int) := by unfold idxI; rw [hidx]
      rw [hI]
      by_cases hm : m < n4
      · obtain ⟨v, hv⟩ := at_some r.out m (by have := q4.len; omega)
        have HRES := Lib.hid (show R = run.set p (setG it v) by rw [HR.out, hSingle]; unfold singleL otherL; rw [gAt_some HIT.out, HSE.out, hidx]; simp only [Option.bind_some, hv]; rw [modify_at HIT.out])
        obtain ⟨ob, oo, rfl, _, hoc⟩ := hO1.pos (by omega)
        obtain ⟨cs, rfl, hcc⟩ := hoc m v hv
        have o0 := hcc 0 _ rfl
        rw [Nat.mul_one, Nat.add_zero] at o0
        have mz : (0 : Int) ≤ (m : Int) := by omega
        have mn : (m : Int) < (n4 : Int) := by omega
        have hn4 : n4 ≤ 9223372036854775807 := Nat.le_trans d4.1 d4.2
        have HST := Lib.hid (hs2.store (p * 6 + 0) (.int .i64 v) (itc_setj (it' := setG it v) HIT.out rfl (by omega)))
        clear hI hidx hcc hoc hv
        generalize hw2 : W1.drewN nq = w2 at *
        have z3' : w2.cell? ⟨br, 3, none⟩ = some (.slice (some ⟨ob, oo, none⟩) n4 c4) := by rw [← hw2]; exact z3
        have c9' : w2.cell? ⟨Bw, 9, none⟩ = some (.slice (some ⟨gi, 0, none⟩) rn rc) := by rw [← hw2]; exact c9
        have i0' : w2.cell? ⟨gi, p * 6, none⟩ = some (.int .i64 it.g) := by rw [← hw2]; exact i0
        have f0' : w2.frozen? ⟨gi, p * 6, none⟩ = false := by rw [← hw2]; exact f0
        have o0' : w2.cell? ⟨ob, oo + m, none⟩ = some (.int .i64 v) := by rw [← hw2]; exact o0
        have KB := Lib.hid (show Kept (SB B W1) W1 w2 ∧ Below B W1 w2 from by rw [← hw2]; exact ⟨Kept.refl _ _, ⟨rfl, rfl, rfl, Nat.le_refl _, fun _ _ => rfl⟩⟩)
        clear hw2 z0 z1 z3 z4 c9 i0 f0 o0 hs1 HRS HCI hS1 hO1 y0 g0 c3' s0
        go_wp2
        go_region
        go_wp2
        go_end0
        obtain ⟨h1, h2, h3⟩ := HST.out
        exact PRE.out _ _ _ ⟨rfl, _, _, _, by rw [HRES.out]; exact h1.drew_, keptSB_trans KB.out.1 h2, KB.out.2.trans ⟨h3.os, h3.tape, h3.output, h3.size, h3.block⟩⟩
      · have HRES := Lib.hid (show R = run by rw [HR.out, hSingle]; unfold singleL otherL; rw [gAt_some HIT.out, HSE.out, hidx]; simp only [Option.bind_some]; rw [List.getElem?_eq_none (by have := q4.len; omega)])
        have mz : (0 : Int) ≤ (m : Int) := by omega
        have mn : decide ((m : Int) < (n4 : Int)) = false := by simp; omega
        have mn' : decide (m < n4) = false := by simp; omega
        clear hI hidx
        go_wp2
        go_end0
        exact PRE.out _ _ _ ⟨rfl, _, _, _, by rw [HRES.out]; exact hs2, Kept.refl _ _, ⟨rfl, rfl, rfl, Nat.le_refl _, fun _ _ => rfl⟩⟩
  · rw [hkind] at g0
    go_enter Try.func47, Try.ntmps47
    go_upto_region 1 with fail
    generalize hW1 : W.alloc (.cells #[.slice A1 n1 c1, .slice (some ⟨sb, so, none⟩) n2 c2, .slice A3 n3 c3, .slice A4 n4 c4, .slice A5 n5 c5, .int .i64 r.x] 48) = W1
    have bx : Bk W1 W.heap.size 48 #[.slice A1 n1 c1, .slice (some ⟨sb, so, none⟩) n2 c2, .slice A3 n3 c3, .slice A4 n4 c4, .slice A5 n5 c5, .int .i64 r.x] := by rw [← hW1]; exact Bk.new _ _ _
    have b1 : Below W.heap.size W W1 := by rw [← hW1]; exact (Below.refl _ _).alloc (Nat.le_refl _) _
    have hs1 := HS.out.call b1
    have PRE := Lib.hid fun (run' : List Itm) (e : Ending) (w' : World) (h : DPost B Bw Bm f F W1 run' e w') => dpost_pre HS.out b1 h
    generalize W.heap.size = br at bx ⊢
    have z0 : W1.cell? ⟨br, 0, none⟩ = some (.slice A1 n1 c1) := bx.cell 0
    have z1 : W1.cell? ⟨br, 1, none⟩ = some (.slice (some ⟨sb, so, none⟩) n2 c2) := bx.cell 1
    have z3 : W1.cell? ⟨br, 3, none⟩ = some (.slice A4 n4 c4) := bx.cell 3
    have z4 : W1.cell? ⟨br, 4, none⟩ = some (.slice A5 n5 c5) := bx.cell 4
    replace y0 := cell_call y0 b1
    replace g0 := cell_call g0 b1
    replace c3' := cell_call c3' b1
    replace s0 := cell_call s0 b1
    have c9 := hs1.c9
    have i0 := hs1.own.cell (itc_at HIT.out (j := 0) (v := .int .i64 it.g) rfl)
    rw [Nat.add_zero] at i0
    have f0 := hs1.own.frozen (p * 6)
    have hS1 := hsS.call b1
    have hO1 := (q4.mono (lo_mono HS.out.hB) (Kept.refl _ _)).call b1
    have HCI := Lib.hid fun (W2 : World) (h : Rd W2 (lo W2.heap.size) SA sn s) => index_d SA sn sc s it.g W2 h (Nat.le_trans hsd.1 hsd.2)
    have HRS := Lib.hid hS1
    clear hW1 b1 x0 x1 x2 x3 x4 x5 g1 g2 lt1 lt2 lt3 lt4
    go_wp2
    go_quiet ((go_at_call 41; (first | (with_reducible refine quiet_d (HCI.out _ ?_)) | (with_reducible refine quiet_add_d (HCI.out _ ?_))); exact HRS.out))
    have hs2 := hs1.call (W' := W1.drewN nq) ⟨rfl, rfl, rfl, Nat.le_refl _, fun _ _ => rfl⟩
    cases hidx : s.idxOf? it.g with
    | none =>
      have hI : idxI s it.g = -1 := by unfold idxI; rw [hidx]
      have HRES := Lib.hid (show R = run by rw [HR.out, hSingle]; unfold singleL otherL; rw [gAt_some HIT.out, HSE.out, hidx]; rfl)
      rw [hI]
      clear hI hidx
      go_wp2
      go_end0
      exact PRE.out _ _ _ ⟨rfl, _, _, _, by rw [HRES.out]; exact hs2, Kept.refl _ _, ⟨rfl, rfl, rfl, Nat.le_refl _, fun _ _ => rfl⟩⟩
    | some m =>
      have hI : idxI s it.g = (m : Int) := by unfold idxI; rw [hidx]
      rw [hI]
      by_cases hm : m < n4
      · obtain ⟨v, hv⟩ := at_some r.out m (by have := q4.len; omega)
        have HRES := Lib.hid (show R = run.set p (setG it v) by rw [HR.out, hSingle]; unfold singleL otherL; rw [gAt_some HIT.out, HSE.out, hidx]; simp only [Option.bind_some, hv]; rw [modify_at HIT.out])
        obtain ⟨ob, oo, rfl, _, hoc⟩ := hO1.pos (by omega)
        obtain ⟨cs, rfl, hcc⟩ := hoc m v hv
        have o0 := hcc 0 _ rfl
        rw [Nat.mul_one, Nat.add_zero] at o0
        have mz : (0 : Int) ≤ (m : Int) := by omega
        have mn : (m : Int) < (n4 : Int) := by omega
        have hn4 : n4 ≤ 9223372036854775807 := Nat.le_trans d4.1 d4.2
        have HST := Lib.hid (hs2.store (p * 6 + 0) (.int .i64 v) (itc_setj (it' := setG it v) HIT.out rfl (by omega)))
        clear hI hidx hcc hoc hv
        generalize hw2 : W1.drewN nq = w2 at *
        have z3' : w2.cell? ⟨br, 3, none⟩ = some (.slice (some ⟨ob, oo, none⟩) n4 c4) := by rw [← hw2]; exact z3
        have c9' : w2.cell? ⟨Bw, 9, none⟩ = some (.slice (some ⟨gi, 0, none⟩) rn rc) := by rw [← hw2]; exact c9
        have i0' : w2.cell? ⟨gi, p * 6, none⟩ = some (.int .i64 it.g) := by rw [← hw2]; exact i0
        have f0' : w2.frozen? ⟨gi, p * 6, none⟩ = false := by rw [← hw2]; exact f0
        have o0' : w2.cell? ⟨ob, oo + m, none⟩ = some (.int .i64 v) := by rw [← hw2]; exact o0
        have KB := Lib.hid (show Kept (SB B W1) W1 w2 ∧ Below B W1 w2 from by rw [← hw2]; exact ⟨Kept.refl _ _, ⟨rfl, rfl, rfl, Nat.le_refl _, fun _ _ => rfl⟩⟩)
        clear hw2 z0 z1 z3 z4 c9 i0 f0 o0 hs1 HRS HCI hS1 hO1 y0 g0 c3' s0
        go_wp2
        go_region
        go_wp2
        go_end0
        obtain ⟨h1, h2, h3⟩ := HST.out
        exact PRE.out _ _ _ ⟨rfl, _, _, _, by rw [HRES.out]; exact h1.drew_, keptSB_trans KB.out.1 h2, KB.out.2.trans ⟨h3.os, h3.tape, h3.output, h3.size, h3.block⟩⟩
      · have HRES := Lib.hid (show R = run by rw [HR.out, hSingle]; unfold singleL otherL; rw [gAt_some HIT.out, HSE.out, hidx]; simp only [Option.bind_some]; rw [List.getElem?_eq_none (by have := q4.len; omega)])
        have mz : (0 : Int) ≤ (m : Int) := by omega
        have mn : decide ((m : Int) < (n4 : Int)) = false := by simp; omega
        have mn' : decide (m < n4) = false := by simp; omega
        clear hI hidx
        go_wp2
        go_end0
        exact PRE.out _ _ _ ⟨rfl, _, _, _, by rw [HRES.out]; exact hs2, Kept.refl _ _, ⟨rfl, rfl, rfl, Nat.le_refl _, fun _ _ => rfl⟩⟩

set_option maxRecDepth 100000 in
set_option maxHeartbeats 4000000 in
theorem do_mult (B Bw Bm : Nat) (f : FV) (F : Fnt) (k : Nat) (lk : Lk) (dp : Nat) (hk : F.lks[k]? = some lk) (hkind : lk.kind = 2) (hout : ∀ r ∈ lk.rules, r.out.length ≤ 1000000) : DoOK B Bw Bm f F k lk dp := by
  intro W RA rn rc run rule r PA pn pc places hs hr hP hpd hin hne hpl hpw hlen
  obtain ⟨b, o, A, n, c, b2, o2, A1, n1, c1, A2, n2, c2, A3, n3, c3, A4, n4, c4, A5, n5, c5, hla, hb0, g0, g1, g2, rfl, rl, kl, fl, nl, x0, x1, x2, x3, x4, x5, q2, q4, q5, d2, d4, d5⟩ := do_head hs hk hr
  obtain ⟨p, ps, rfl⟩ : ∃ p ps, places = p :: ps := by cases places with | nil => exact absurd rfl hne | cons p ps => exact ⟨p, ps, rfl⟩
  have hp := hpl p (List.mem_cons_self ..)
  obtain ⟨it, hit⟩ := at_some run p hp
  obtain ⟨R, hR⟩ : ∃ R, R = doL w64 F (4 - dp) lk r (p :: ps) run := ⟨_, rfl⟩
  rw [← hR]
  rw [show doL w64 F (4 - dp) lk r (p :: ps) run = multL p r.out run by unfold doL; simp only [List.headD_cons]; rw [if_neg (by omega), if_pos hkind]] at hR
  have HR := Lib.hid hR
  have hpl2 := hP.len
  rw [natI_len] at hpl2
  simp at hpl2
  obtain ⟨pb, po, rfl, hpS, hpc⟩ := hP.pos (by omega)
  obtain ⟨cs, rfl, hcc⟩ := hpc 0 (p : Int) (by simp [natI])
  have y0 := hcc 0 _ rfl
  simp only [Nat.zero_mul, Nat.add_zero] at y0
  clear hpc hcc hR
  have hrl := hs.len
  obtain ⟨gi, rfl, hgB, _⟩ := hs.own.form (by omega)
  have c3' := hs.c3
  rw [hla] at c3'
  have pz : (0 : Int) ≤ (p : Int) := by omega
  have pr : (p : Int) < (rn : Int) := by omega
  have hpn0 : (0 : Int) < (pn : Int) := by omega
  have hpn1 : 0 < pn := by omega
  have kz : (0 : Int) ≤ (k : Int) := by omega
  have rz : (0 : Int) ≤ (rule : Int) := by omega
  have hcN : pn ≤ 9223372036854775807 := Nat.le_trans hpd.1 hpd.2
  have hrnN : rn ≤ 1000 := by omega
  have hgl := (hs.own.lt gi 0 none rfl).2
  have lt1 := cell_lt g0
  have lt2 := cell_lt x0
  have lt3 := cell_lt y0
  have lt4 := hs.wk.lt
  dsimp only at lt1 lt2 lt3
  have HS := Lib.hid hs; have HIT := Lib.hid hit; have HRL := Lib.hid hrl; have HPL := Lib.hid hpl; have HPW := Lib.hid hpw; have HP := Lib.hid hP

  have hon := hout r (List.mem_of_getElem? hr)
  rw [q4.len] at hon
  rw [hkind] at g0
  clear hs hit hpl hpw hP hr hk hpl2 hrl hin q5 q2 hout
  go_enter Try.func47, Try.ntmps47
  go_upto_region 1 with fail
  generalize hW1 : W.alloc (.cells #[.slice A1 n1 c1, .slice A2 n2 c2, .slice A3 n3 c3, .slice A4 n4 c4, .slice A5 n5 c5, .int .i64 r.x] 48) = W1
  have bx : Bk W1 W.heap.size 48 #[.slice A1 n1 c1, .slice A2 n2 c2, .slice A3 n3 c3, .slice A4 n4 c4, .slice A5 n5 c5, .int .i64 r.x] := by rw [← hW1]; exact Bk.new _ _ _
  have b1 : Below W.heap.size W W1 := by rw [← hW1]; exact (Below.refl _ _).alloc (Nat.le_refl _) _
  have hs1 := HS.out.call b1
  have PRE := Lib.hid fun (run' : List Itm) (e : Ending) (w' : World) (h : DPost B Bw Bm f F W1 run' e w') => dpost_pre HS.out b1 h
  generalize W.heap.size = br at bx ⊢
  have z0 : W1.cell? ⟨br, 0, none⟩ = some (.slice A1 n1 c1) := bx.cell 0
  have z1 : W1.cell? ⟨br, 1, none⟩ = some (.slice A2 n2 c2) := bx.cell 1
  have z3 : W1.cell? ⟨br, 3, none⟩ = some (.slice A4 n4 c4) := bx.cell 3
  have z4 : W1.cell? ⟨br, 4, none⟩ = some (.slice A5 n5 c5) := bx.cell 4
  replace y0 := cell_call y0 b1
  replace g0 := cell_call g0 b1
  replace c3' := cell_call c3' b1
  have hO1 : Rd W1 (lo B) A4 n4 r.out := q4.mono (fun _ h => h) (kept_below (b1.mono HS.out.hB))
  have HC := Lib.hid (multiply_c B Bw Bm f F _ rn rc run p A4 n4 c4 r.out W1 hs1 hO1 (by have := HRL.out; omega) hrnN hon)
  rw [← HR.out] at HC
  clear hW1 b1 x0 x1 x2 x3 x4 x5 g1 g2 lt1 lt2 lt3 lt4
  go_wp2_with fail
  refine HC.out.mono ?_
  rintro e w2 ⟨rfl, RA2, rn2, rc2, hs2, hk2, hb2⟩
  clear HC
  go_wp2
  go_end0
  exact PRE.out _ _ _ ⟨rfl, RA2, rn2, rc2, hs2, hk2, hb2⟩

set_option maxRecDepth 100000 in
set_option maxHeartbeats 4000000 in
theorem do_lig (B Bw Bm : Nat) (f : FV) (F : Fnt) (k : Nat) (lk : Lk) (dp : Nat) (hk : F.lks[k]? = some lk) (hkind : lk.kind = 3) : DoOK B Bw Bm f F k lk dp := by
  intro W RA rn rc run rule r PA pn pc places hs hr hP hpd hin hne hpl hpw hlen
  obtain ⟨b, o, A, n, c, b2, o2, A1, n1, c1, A2, n2, c2, A3, n3, c3, A4, n4, c4, A5, n5, c5, hla, hb0, g0, g1, g2, rfl, rl, kl, fl, nl, x0, x1, x2, x3, x4, x5, q2, q4, q5, d2, d4, d5⟩ := do_head hs hk hr
  obtain ⟨p, ps, rfl⟩ : ∃ p ps, places = p :: ps := by cases places with | nil => exact absurd rfl hne | cons p ps => exact ⟨p, ps, rfl⟩
  have hp := hpl p (List.mem_cons_self ..)
  obtain ⟨it, hit⟩ := at_some run p hp
  obtain ⟨R, hR⟩ : ∃ R, R = doL w64 F (4 - dp) lk r (p :: ps) run := ⟨_, rfl⟩
  rw [← hR]
  rw [show doL w64 F (4 - dp) lk r (p :: ps) run = (match r.out with | [] => run | g :: _ => joinL (p :: ps) g run) by unfold doL; simp only; rw [if_neg (by omega), if_neg (by omega), if_pos hkind]; cases r.out <;> rfl] at hR
  have HR := Lib.hid hR
  have hpl2 := hP.len
  rw [natI_len] at hpl2
  simp at hpl2
  obtain ⟨pb, po, rfl, hpS, hpc⟩ := hP.pos (by omega)
  obtain ⟨cs, rfl, hcc⟩ := hpc 0 (p : Int) (by simp [natI])
  have y0 := hcc 0 _ rfl
  simp only [Nat.zero_mul, Nat.add_zero] at y0
  clear hpc hcc hR
  have hrl := hs.len
  obtain ⟨gi, rfl, hgB, _⟩ := hs.own.form (by omega)
  have c3' := hs.c3
  rw [hla] at c3'
  have pz : (0 : Int) ≤ (p : Int) := by omega
  have pr : (p : Int) < (rn : Int) := by omega
  have hpn0 : (0 : Int) < (pn : Int) := by omega
  have hpn1 : 0 < pn := by omega
  have kz : (0 : Int) ≤ (k : Int) := by omega
  have rz : (0 : Int) ≤ (rule : Int) := by omega
  have hcN : pn ≤ 9223372036854775807 := Nat.le_trans hpd.1 hpd.2
  have hrnN : rn ≤ 1000 := by omega
  have hgl := (hs.own.lt gi 0 none rfl).2
  have lt1 := cell_lt g0
  have lt2 := cell_lt x0
  have lt3 := cell_lt y0
  have lt4 := hs.wk.lt
  dsimp only at lt1 lt2 lt3
  have HS := Lib.hid hs; have HIT := Lib.hid hit; have HRL := Lib.hid hrl; have HPL := Lib.hid hpl; have HPW := Lib.hid hpw; have HP := Lib.hid hP

  rw [hkind] at g0
  have hl4 := q4.len
  have HL4 := Lib.hid hl4
  have hn4M : n4 ≤ 9223372036854775807 := Nat.le_trans d4.1 d4.2
  clear hs hit hpl hpw hP hr hk hpl2 hrl hin q5 q2 hl4
  go_enter Try.func47, Try.ntmps47
  go_upto_region 1 with fail
  generalize hW1 : W.alloc (.cells #[.slice A1 n1 c1, .slice A2 n2 c2, .slice A3 n3 c3, .slice A4 n4 c4, .slice A5 n5 c5, .int .i64 r.x] 48) = W1
  have bx : Bk W1 W.heap.size 48 #[.slice A1 n1 c1, .slice A2 n2 c2, .slice A3 n3 c3, .slice A4 n4 c4, .slice A5 n5 c5, .int .i64 r.x] := by rw [← hW1]; exact Bk.new _ _ _
  have b1 : Below W.heap.size W W1 := by rw [← hW1]; exact (Below.refl _ _).alloc (Nat.le_refl _) _
  have hs1 := HS.out.call b1
  have PRE := Lib.hid fun (run' : List Itm) (e : Ending) (w' : World) (h : DPost B Bw Bm f F W1 run' e w') => dpost_pre HS.out b1 h
  generalize W.heap.size = br at bx ⊢
  have z0 : W1.cell? ⟨br, 0, none⟩ = some (.slice A1 n1 c1) := bx.cell 0
  have z1 : W1.cell? ⟨br, 1, none⟩ = some (.slice A2 n2 c2) := bx.cell 1
  have z3 : W1.cell? ⟨br, 3, none⟩ = some (.slice A4 n4 c4) := bx.cell 3
  have z4 : W1.cell? ⟨br, 4, none⟩ = some (.slice A5 n5 c5) := bx.cell 4
  replace y0 := cell_call y0 b1
  replace g0 := cell_call g0 b1
  replace c3' := cell_call c3' b1
  have hO1 : Rd W1 (lo B) A4 n4 r.out := q4.mono (fun _ h => h) (kept_below (b1.mono HS.out.hB))
  have hP1 := HP.out.sb HS.out.hB b1
  clear hW1 x0 x1 x2 x3 x4 x5 g1 g2 lt1 lt2 lt3 lt4
  cases hout : r.out with
  | nil =>
    have hn4 : n4 = 0 := by have := HL4.out; rw [hout] at this; simpa using this.symm
    have HRES := Lib.hid (show R = run by rw [HR.out, hout])
    subst hn4
    go_wp2
    go_end0
    exact PRE.out _ _ _ ⟨rfl, _, _, _, by rw [HRES.out]; exact hs1, Kept.refl _ _, Below.refl _ _⟩
  | cons g t =>
    have hn4 : 0 < n4 := by have := HL4.out; rw [hout] at this; simp at this; omega
    have n4z : (0 : Int) < (n4 : Int) := by omega
    have HRES := Lib.hid (show R = joinL (p :: ps) g run by rw [HR.out, hout])
    obtain ⟨ob, oo, rfl, _, hoc⟩ := hO1.pos hn4
    obtain ⟨cs, rfl, hcc⟩ := hoc 0 g (by rw [hout]; rfl)
    have o0 := hcc 0 _ rfl
    simp only [Nat.zero_mul, Nat.add_zero] at o0
    have HC := Lib.hid (join_c' B Bw Bm f F _ rn rc run _ pn pc p ps g W1 hs1 hP1 hpd HPL.out HPW.out hrnN)
    rw [← HRES.out] at HC
    clear hoc hcc hout b1
    go_wp2_with fail
    refine HC.out.mono ?_
    rintro e w2 ⟨rfl, RA2, rn2, rc2, hs2, hk2, hb2⟩
    clear HC
    go_wp2
    go_end0
    exact PRE.out _ _ _ ⟨rfl, RA2, rn2, rc2, hs2, hk2, hb2⟩

end Go.Proofs.Ytkoocipagndclaa
