/- Walks: do of chains and of all kinds; backwards; what Apply asks for. -/
import Derived.Test.YtkoocipagndclaaD8
import Derived.Test.YtkoocipagndclaaW19
namespace Go.Proofs.Ytkoocipagndclaa
open Go.RowKit Go.Shelf

theorem wr_pred (q : Nat) (h : q ≤ 1000) : wrap64 ((q : Int) - 1) = (q : Int) - 1 := by unfold wrap64; omega
theorem DPost.undrew {B Bw Bm : Nat} {f : FV} {F : Fnt} {W : World} {run : List Itm} {e : Ending} {w' : World} (h : DPost B Bw Bm f F W.drew run e w') : DPost B Bw Bm f F W run e w' := by
  obtain ⟨h0, A, n, c, h1, h2, h3⟩ := h
  exact ⟨h0, A, n, c, h1, h2, ⟨h3.os, h3.tape, h3.output, h3.size, h3.block⟩⟩
set_option maxRecDepth 100000 in
set_option maxHeartbeats 4000000 in
theorem do_chain (B Bw Bm : Nat) (f : FV) (F : Fnt) (hF : SmF F) (k : Nat) (lk : Lk) (dp : Nat) (hdp : dp ≤ 4) (hk : F.lks[k]? = some lk) (hkind : lk.kind = 4) (hdo : dp < 4 → ∀ (k' : Nat) (lk' : Lk), F.lks[k']? = some lk' → 1 ≤ lk'.kind → lk'.kind ≤ 4 → DoOK B Bw Bm f F k' lk' (dp + 1)) : DoOK B Bw Bm f F k lk dp := by
  intro W RA rn rc run rule r PA pn pc places hs hr hP hpd hin hne hpl hpw hlen
  obtain ⟨b, o, A, n, c, b2, o2, A1, n1, c1, A2, n2, c2, A3, n3, c3, A4, n4, c4, A5, n5, c5, hla, hb0, g0, g1, g2, rfl, rl, kl, fl, nl, x0, x1, x2, x3, x4, x5, q2, q4, q5, d2, d4, d5⟩ := do_head hs hk hr
  obtain ⟨p, ps, rfl⟩ : ∃ p ps, places = p :: ps := by cases places with | nil => exact absurd rfl hne | cons p ps => exact ⟨p, ps, rfl⟩
  have hp := hpl p (List.mem_cons_self ..)
  obtain ⟨it, hit⟩ := at_some run p hp
  obtain ⟨R, hR⟩ : ∃ R, R = doL w64 F (4 - dp) lk r (p :: ps) run := ⟨_, rfl⟩
  rw [← hR]

  have HR := Lib.hid hR
  have hpl2 := hP.len
  rw [natI_len] at hpl2
  simp at hpl2
  obtain ⟨pb, po, rfl, hpS, hpc⟩ := hP.pos (by omega)
  obtain ⟨cs, rfl, hcc⟩ := hpc 0 (p : Int) (by simp [natI])
  have y0 := hcc 0 _ rfl
  simp only [Nat.zero_mul, Nat.add_zero] at y0
  clear hpc hcc hR
  have hrl := hs.len
  obtain ⟨gi, rfl, hgB, _⟩ := hs.own.form (by omega)
  have c3' := hs.c3
  rw [hla] at c3'
  have pz : (0 : Int) ≤ (p : Int) := by omega
  have pr : (p : Int) < (rn : Int) := by omega
  have hpn0 : (0 : Int) < (pn : Int) := by omega
  have hpn1 : 0 < pn := by omega
  have kz : (0 : Int) ≤ (k : Int) := by omega
  have rz : (0 : Int) ≤ (rule : Int) := by omega
  have hcN : pn ≤ 9223372036854775807 := Nat.le_trans hpd.1 hpd.2
  have hrnN : rn ≤ 1000 := by omega
  have hgl := (hs.own.lt gi 0 none rfl).2
  have lt1 := cell_lt g0
  have lt2 := cell_lt x0
  have lt3 := cell_lt y0
  have lt4 := hs.wk.lt
  dsimp only at lt1 lt2 lt3
  have HS := Lib.hid hs; have HIT := Lib.hid hit; have HRL := Lib.hid hrl; have HPL := Lib.hid hpl; have HPW := Lib.hid hpw; have HP := Lib.hid hP

  rw [hkind] at g0
  have HRES := Lib.hid (show (if dp = 4 then run else r.calls.foldl (stepC w64 F (4 - (dp + 1)) lk p) run) = R by
    rw [HR.out]
    by_cases h4 : dp = 4
    · subst h4; rw [if_pos rfl]; exact (doL_deep hkind).symm
    · rw [if_neg h4, show 4 - dp = (4 - (dp + 1)) + 1 by omega, doL_chain hkind]; rfl)
  clear hs hit hpl hpw hP hr hk hpl2 hrl hin q2 q4
  go_enter Try.func47, Try.ntmps47
  go_upto_region 1 with fail
  generalize hW1 : W.alloc (.cells #[.slice A1 n1 c1, .slice A2 n2 c2, .slice A3 n3 c3, .slice A4 n4 c4, .slice A5 n5 c5, .int .i64 r.x] 48) = W1
  have bx : Bk W1 W.heap.size 48 #[.slice A1 n1 c1, .slice A2 n2 c2, .slice A3 n3 c3, .slice A4 n4 c4, .slice A5 n5 c5, .int .i64 r.x] := by rw [← hW1]; exact Bk.new _ _ _
  have b1 : Below W.heap.size W W1 := by rw [← hW1]; exact (Below.refl _ _).alloc (Nat.le_refl _) _
  have hs1 := HS.out.call b1
  have PRE := Lib.hid fun (run' : List Itm) (e : Ending) (w' : World) (h : DPost B Bw Bm f F W1 run' e w') => dpost_pre HS.out b1 h
  generalize W.heap.size = br at bx ⊢
  have z0 : W1.cell? ⟨br, 0, none⟩ = some (.slice A1 n1 c1) := bx.cell 0
  have z1 : W1.cell? ⟨br, 1, none⟩ = some (.slice A2 n2 c2) := bx.cell 1
  have z3 : W1.cell? ⟨br, 3, none⟩ = some (.slice A4 n4 c4) := bx.cell 3
  have z4 : W1.cell? ⟨br, 4, none⟩ = some (.slice A5 n5 c5) := bx.cell 4
  replace y0 := cell_call y0 b1
  replace g0 := cell_call g0 b1
  replace g1 := cell_call g1 b1
  replace c3' := cell_call c3' b1
  have hC1 : RdC W1 (lo B) A5 n5 r.calls := q5.mono (fun _ h => h) (kept_below (b1.mono HS.out.hB))
  have HC := Lib.hid fun (W2 : World) (hb : Below W1.heap.size W1 W2) => chain_c B Bw Bm f F hF lk dp hdp _ rn rc run A5 n5 c5 r.calls p W2 (hs1.call hb) (hC1.mono (fun _ h => h) (kept_below (hb.mono hs1.hB))) d5 hlen hdo
  rw [HRES.out] at HC
  have hbr : Sol W1 br := ⟨_, _, _, bx, by decide, by decide⟩
  clear hW1 b1 x0 x1 x2 x3 x4 x5 g2 lt1 lt2 lt3 lt4 z0 z1 z3 hdo hlen hdp hF bx
  have z : W1.cell? ⟨Bw, 3, none⟩ = some (.slice (some ⟨b, o, none⟩) f.ln f.lc) ∧ W1.cell? ⟨b, o + k * 3 + 1, none⟩ = some (.bool lk.ign) ∧ W1.cell? ⟨br, 4, none⟩ = some (.slice A5 n5 c5) := ⟨c3', g1, z4⟩
  have KZ := Lib.hid fun (w2 : World) (R : List Itm) (e : Ending) (h : DPost B Bw Bm f F W1 R e w2) => (show w2.cell? ⟨Bw, 3, none⟩ = some (.slice (some ⟨b, o, none⟩) f.ln f.lc) ∧ w2.cell? ⟨b, o + k * 3 + 1, none⟩ = some (.bool lk.ign) ∧ w2.cell? ⟨br, 4, none⟩ = some (.slice A5 n5 c5) by
    obtain ⟨_, A9, n9, c9, hs9, hk9, hb9⟩ := h
    refine ⟨by have := hs9.c3; rw [hla] at this; exact this, (hk9.cell (p := ⟨b, o + k * 3 + 1, none⟩) (.inl hb0)).trans g1, (hk9.cell (p := ⟨br, 4, none⟩) (.inr hbr)).trans z4⟩)
  go_wp2
  go_region_held3 (fun w' => w'.cell? ⟨Bw, 3, none⟩ = some (.slice (some ⟨b, o, none⟩) f.ln f.lc) ∧ w'.cell? ⟨b, o + k * 3 + 1, none⟩ = some (.bool lk.ign) ∧ w'.cell? ⟨br, 4, none⟩ = some (.slice A5 n5 c5)) (first | (with_reducible exact z) | go_keep) (first
    | (go_at_call 62; (with_reducible refine (HC.out _ ?_).mono ?_); exact ⟨rfl, rfl, rfl, Nat.le_refl _, fun _ _ => rfl⟩; intro e w2 hD0; have hD := hD0.undrew; clear hD0; have z := KZ.out _ _ _ hD; obtain ⟨rfl, RA2, rn2, rc2, hs2, hk2, hb2⟩ := hD))
  go_wp2
  go_end0
  exact PRE.out _ _ _ ⟨rfl, RA2, rn2, rc2, hs2, hk2, hb2⟩

/-- Rows of 'Out' that are no longer than this. -/
def SmO (F : Fnt) : Prop := ∀ lk ∈ F.lks, ∀ r ∈ lk.rules, r.out.length ≤ 1000000
theorem do_all (B Bw Bm : Nat) (f : FV) (F : Fnt) (hF : SmF F) (hO : SmO F) : ∀ (m : Nat), m ≤ 4 → ∀ (k : Nat) (lk : Lk), F.lks[k]? = some lk → 1 ≤ lk.kind → lk.kind ≤ 6 → DoOK B Bw Bm f F k lk (4 - m) := by
  intro m
  induction m with
  | zero =>
    intro _ k lk hk h1 h6
    by_cases k4 : lk.kind = 4
    · exact do_chain B Bw Bm f F hF k lk 4 (by omega) hk k4 (fun h => absurd h (by omega))
    by_cases k1 : lk.kind = 1 ∨ lk.kind = 5
    · exact do_single B Bw Bm f F k lk _ hk k1
    by_cases k2 : lk.kind = 2
    · exact do_mult B Bw Bm f F k lk _ hk k2 (hO lk (List.mem_of_getElem? hk))
    by_cases k3 : lk.kind = 3
    · exact do_lig B Bw Bm f F k lk _ hk k3
    · exact do_pair B Bw Bm f F k lk _ hk (by omega)
  | succ m ih =>
    intro hm k lk hk h1 h6
    by_cases k4 : lk.kind = 4
    · refine do_chain B Bw Bm f F hF k lk (4 - (m + 1)) (by omega) hk k4 (fun _ k' lk' h' h1' h4' => ?_)
      rw [show 4 - (m + 1) + 1 = 4 - m by omega]
      exact ih (by omega) k' lk' h' h1' (by omega)
    by_cases k1 : lk.kind = 1 ∨ lk.kind = 5
    · exact do_single B Bw Bm f F k lk _ hk k1
    by_cases k2 : lk.kind = 2
    · exact do_mult B Bw Bm f F k lk _ hk k2 (hO lk (List.mem_of_getElem? hk))
    by_cases k3 : lk.kind = 3
    · exact do_lig B Bw Bm f F k lk _ hk k3
    · exact do_pair B Bw Bm f F k lk _ hk (by omega)
theorem do_0 (B Bw Bm : Nat) (f : FV) (F : Fnt) (hF : SmF F) (hO : SmO F) (k : Nat) (lk : Lk) (hk : F.lks[k]? = some lk) (h1 : 1 ≤ lk.kind) (h6 : lk.kind ≤ 6) : DoOK B Bw Bm f F k lk 0 := do_all B Bw Bm f F hF hO 4 (by omega) k lk hk h1 h6

set_option maxRecDepth 100000 in
set_option maxHeartbeats 4000000 in
theorem backwards_c (f : FV) (F : Fnt) (k : Nat) (lk : Lk) (hk : F.lks[k]? = some lk) (hF : SmF F) (hdo : ∀ B Bw Bm, DoOK B Bw Bm f F k lk 0) (hkind : lk.kind = 5) : BwOK f F k lk := by
  intro B Bw Bm W RA rn rc run FA fn fc forms hs hfm hfn hlen
  obtain ⟨sm1, sm2⟩ := hF lk (List.mem_of_getElem? hk)
  have HD := Lib.hid (hdo B Bw Bm); have HSM := Lib.hid sm2
  have HM := Lib.hid (matcher_c B Bw Bm f F RA rn rc run k lk W hs hk hF)
  have hB := hs.hB
  obtain ⟨R, hR⟩ : ∃ R, R = bwL w64 F lk forms run.length run := ⟨_, rfl⟩
  rw [← hR]
  have HR := Lib.hid hR
  have HLN := Lib.hid hlen
  have kz : (0 : Int) ≤ (k : Int) := by omega
  clear hdo sm2 hF hR hlen
  go_enter Try.func34, Try.ntmps34
  go_wp2_with fail
  refine HM.out.mono ?_
  rintro e W1 ⟨m, rfl, hmt, hs1, hk1, hb1⟩
  clear HM hs
  have c9 := hs1.c9
  have hrl := hs1.len
  have HRL := Lib.hid hrl; clear hrl
  go_wp2
  go_loopw [7] (fun i wr => ∃ (q : Nat) (RA : Option Addr) (rn rc : Nat) (run : List Itm), i = .int .i64 ((q : Int) - 1) ∧ q ≤ run.length ∧ WS B wr Bw Bm f F RA rn rc run ∧ Mt B wr 58 m (srtLk lk) ∧ run.length ≤ 1000 ∧ bwL w64 F lk forms q run = R ∧ Kept (SB B W) W wr ∧ Below B W wr) (fun i _ => (intOf i + 1).toNat)
  case atStart => exact ⟨rn, RA, rn, rc, run, by rw [wr_pred rn (by have := HRL.out; have := HLN.out; omega)], by rw [HRL.out]; exact Nat.le_refl _, hs1, hmt, HLN.out, by rw [HR.out, HRL.out], hk1, hb1⟩
  case round =>
    clear hs1 hmt hk1 hb1 c9 HRL
    obtain ⟨q, RA, rn, rc, run, rfl, hq, hs1, hmt, hln, hbw, hk1, hb1⟩ := hrel
    have HBW := Lib.hid hbw; clear hbw
    cases q with
    | zero =>
      have HFI := Lib.hid (show run = R from HBW.out)
      go_wp2
      go_end0
      rw [← HFI.out]
      exact ⟨rfl, RA, rn, rc, hs1, hk1, hb1⟩
    | succ q =>
      rw [show ((q + 1 : Nat) : Int) - 1 = (q : Int) by omega]
      have hrl := hs1.len
      have hfmr : Rd wr (lo B) FA fn forms := hfm.mono (fun _ h => h) (kept_below hb1)
      have HMC := Lib.hid (match_ws B Bw Bm f F RA rn rc run lk m FA fn fc forms (q : Int) wr hs1 hmt HSM.out (hfmr.mono (lo_mono hs1.hB) (Kept.refl _ _)) hfn (by omega) sm1)
      have hstep := HBW.out
      rw [bwL] at hstep
      have qz : decide (0 ≤ (q : Int)) = true := by simp
      have HRL := Lib.hid hrl; clear hrl
      have HQ := Lib.hid hq; have HLN := Lib.hid hln; clear hq hln
      cases hans : matchL F lk run (q : Int) forms with
      | none =>
        rw [hans] at HMC hstep
        have HST := Lib.hid hstep
        clear hans hstep
        go_wp2_with fail
        refine HMC.out.mono ?_
        rintro e W2 ⟨rfl, hb2⟩
        have hs2 := hs1.call hb2
        clear HMC
        go_wp2
        go_roundw
        case rel => exact ⟨q, RA, rn, rc, run, by rw [wr_pred q (by have := HQ.out; have := HLN.out; omega)], by have := HQ.out; omega, hs2, hmt.kept (kept_sb hs1.hB hb2), HLN.out, HST.out, keptSB_trans hk1 (kept_sb hs1.hB hb2), hb1.trans (hb2.mono hs1.hB)⟩
        case measure => simp [intOf]; rw [wr_pred q (by have := HQ.out; have := HLN.out; omega)]; omega
      | some x =>
        obtain ⟨n, ps⟩ := x
        rw [hans] at HMC hstep
        obtain ⟨r, hr, _, _, hne, hhd, hpl, hps, hpw, hfit, hpe, hbg⟩ := matchL_some hans
        have hgr : lk.rules.getD n default = r := by simp [hr]
        have hl9 := (rel_len w64).do_ (F := F) 4 lk r ps run hne (fun p hp => (hps p hp).2.1) hpw
        have hl8 : (doL w64 F 4 lk r ps run).length = run.length := by rw [doL_single (.inr hkind), single_len]
        dsimp only at hstep
        rw [hgr] at hstep
        have HST := Lib.hid hstep; have HL8 := Lib.hid hl8
        have HPS := Lib.hid hps; have HPW := Lib.hid hpw; have HNE := Lib.hid hne; have HRR := Lib.hid hr
        have HIN := Lib.hid (show r.inn ≠ [] by intro e; rw [e] at hpl; exact hne (List.eq_nil_of_length_eq_zero hpl))
        clear hans hstep hps hpe hbg hfit hpl hhd hl9 hl8 hgr hpw hne hr
        have n0 : decide (0 ≤ (n : Int)) = true := by simp
        go_wp2_with fail
        refine HMC.out.mono ?_
        rintro e W2 ⟨PA, pc, rfl, hrd, hpd, hb2⟩
        have hs2 := hs1.call hb2
        have hrdB : Rd W2 (SB B W2) PA ps.length (natI ps) := hrd.mono (fun _ h => .inr h) (Kept.refl _ _)
        have HDO := Lib.hid (HD.out W2 RA rn rc run n r PA ps.length pc ps hs2 HRR.out hrdB hpd HIN.out HNE.out (fun p hp => (HPS.out p hp).2.1) HPW.out HLN.out)
        have hk12 := keptSB_trans hk1 (kept_sb hs1.hB hb2)
        have hb12 := hb1.trans (hb2.mono hs1.hB)
        have hmt2 := hmt.kept (kept_sb hs1.hB hb2)
        clear HMC hrd hrdB hb2 hs1 hmt hk1 hb1 hs2 hpd
        go_wp2_with fail
        refine HDO.out.mono ?_
        rintro e W3 ⟨rfl, RA3, rn3, rc3, hs3, hk3, hb3⟩
        clear HDO
        go_wp2
        go_roundw
        case rel => exact ⟨q, RA3, rn3, rc3, _, by rw [wr_pred q (by have := HQ.out; have := HLN.out; omega)], by have := HQ.out; have := HL8.out; show q ≤ (doL w64 F 4 lk r ps run).length; omega, hs3, hmt2.kept hk3, by have := HL8.out; have := HLN.out; show (doL w64 F 4 lk r ps run).length ≤ 1000; omega, HST.out, keptSB_trans hk12 hk3, hb12.trans hb3⟩
        case measure => simp [intOf]; rw [wr_pred q (by have := HQ.out; have := HLN.out; omega)]; omega
/-- What Apply asks of a lookup. -/
theorem apOK (f : FV) (F : Fnt) (hF : SmF F) (hO : SmO F) (k : Nat) (lk : Lk) (hk : F.lks[k]? = some lk) : ApOK f F k lk := fun h1 h6 =>
  ⟨fun h5 => backwards_c f F k lk hk hF (fun B Bw Bm => do_0 B Bw Bm f F hF hO k lk hk h1 h6) h5, fun _ => ⟨fun B Bw Bm => do_0 B Bw Bm f F hF hO k lk hk h1 h6, lenOK F lk⟩⟩
theorem apply_all (f : FV) (F : Fnt) (lookup : Int) (RA : Option Addr) (rn rc : Nat) (run : List Itm) (FA : Option Addr) (fn fc : Nat) (forms : List Int) (w : World) (hf : IsF w (lo w.heap.size) f F) (hI : RdI w (lo w.heap.size) RA rn run) (hF : Rd w (lo w.heap.size) FA fn forms)
    (hfn : fn ≤ 9223372036854775807) (hlen : run.length ≤ 1000) (hsm : SmF F) (hO : SmO F) :
    Calls Try.prog 18 #[.agg f.cells, .int .i64 lookup, .slice RA rn rc, .slice FA fn fc] w fun e w' => ∃ A n c, e = .returned (.slice A n c) ∧ Ow 51 6 w' w.heap.size A n c (itc (applyL w64 F lookup run forms)) ∧ Below w.heap.size w w' :=
  apply_c f F lookup RA rn rc run FA fn fc forms w hf hI hF hfn hlen hsm fun k lk _ hk => apOK f F hsm hO k lk hk

end Go.Proofs.Ytkoocipagndclaa
