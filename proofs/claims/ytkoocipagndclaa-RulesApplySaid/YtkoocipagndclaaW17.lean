/- Walks: onwards, for whatever 'do' does as it must. -/
import Derived.Test.YtkoocipagndclaaW16
namespace Go.Proofs.Ytkoocipagndclaa
open Go.RowKit Go.Shelf

def lenAt (w : World) (Bw : Nat) : Nat := match w.cell? ⟨Bw, 9, none⟩ with | some (.slice _ n _) => n | _ => 0
theorem WS.lenAt {B : Nat} {W : World} {Bw Bm : Nat} {f : FV} {F : Fnt} {RA : Option Addr} {rn rc : Nat} {run : List Itm} (h : WS B W Bw Bm f F RA rn rc run) : Ytkoocipagndclaa.lenAt W Bw = rn := by unfold Ytkoocipagndclaa.lenAt; rw [h.c9]
/-- Lengths stay in bounds. -/
def LenOK (F : Fnt) (lk : Lk) : Prop := ∀ (run : List Itm) (k : Nat) (forms : List Int) (n : Nat) (ps : List Nat), run.length ≤ 1000 → matchL F lk run (k : Int) forms = some (n, ps) →
  (doL w64 F 4 lk (lk.rules.getD n default) ps run).length ≤ 1000 ∧ (lk.kind ≠ 4 → run.length ≤ (doL w64 F 4 lk (lk.rules.getD n default) ps run).length + ps.getLastD 0 + 1) ∧ (lk.kind = 6 → (doL w64 F 4 lk (lk.rules.getD n default) ps run).length = run.length)
theorem last_at {ps : List Nat} (h : ps ≠ []) : ps[ps.length - 1]? = some (ps.getLastD 0) := by
  cases ps with
  | nil => exact absurd rfl h
  | cons p t => rw [List.getLastD_cons, ← List.getLast?_eq_getElem?, List.getLast?_cons]; simp [List.getLastD_eq_getLast?]

theorem kind_cell {B Bw Bm : Nat} {f : FV} {F : Fnt} {W : World} {RA : Option Addr} {rn rc : Nat} {run : List Itm} {k : Nat} {lk : Lk} (hs : WS B W Bw Bm f F RA rn rc run) (hk : F.lks[k]? = some lk) :
    ∃ b o, f.la = some ⟨b, o, none⟩ ∧ b < B ∧ W.cell? ⟨b, o + k * 3, none⟩ = some (.int .i64 lk.kind) ∧ (k : Int) < (f.ln : Int) ∧ f.ln ≤ 9223372036854775807 := by
  obtain ⟨_, hL, _, hld⟩ := hs.font
  have hll := hL.len
  have hk1 := (List.getElem?_eq_some_iff.1 hk).1
  obtain ⟨b, o, hla2, hb0, hc⟩ := hL.pos (by omega)
  obtain ⟨cs, ⟨A, n, c, rfl, hR, hd⟩, hcc⟩ := hc k lk hk
  exact ⟨b, o, hla2, hb0, hcc 0 _ rfl, by omega, Nat.le_trans hld.1 hld.2⟩

set_option maxRecDepth 100000 in
set_option maxHeartbeats 4000000 in
theorem onwards_c (B Bw Bm : Nat) (f : FV) (F : Fnt) (RA : Option Addr) (rn rc : Nat) (run : List Itm) (k : Nat) (lk : Lk) (FA : Option Addr) (fn fc : Nat) (forms : List Int) (W : World) (hs : WS B W Bw Bm f F RA rn rc run) (hk : F.lks[k]? = some lk) (hF : SmF F)
    (hfm : Rd W (lo B) FA fn forms) (hfn : fn ≤ 9223372036854775807) (hlen : run.length ≤ 1000) (hdo : DoOK B Bw Bm f F k lk 0) (hL : LenOK F lk) :
    Calls Try.prog 35 #[.pointer (some ⟨Bw, 0, none⟩), .int .i64 (k : Int), .slice FA fn fc] W (DPost B Bw Bm f F W (onL w64 F lk forms run.length run 0)) := by
  obtain ⟨sm1, sm2⟩ := hF lk (List.mem_of_getElem? hk)
  obtain ⟨b, o, hla, hb0, _, kl, fl⟩ := kind_cell hs hk
  have HD := Lib.hid hdo; have HL := Lib.hid hL; have HK := Lib.hid hk; have HSM := Lib.hid sm2; have HLA := Lib.hid hla
  have HM := Lib.hid (matcher_c B Bw Bm f F RA rn rc run k lk W hs hk hF)
  have hB := hs.hB
  obtain ⟨R, hR⟩ : ∃ R, R = onL w64 F lk forms run.length run 0 := ⟨_, rfl⟩
  rw [← hR]
  have HR := Lib.hid hR
  have HLN := Lib.hid hlen
  have kz : (0 : Int) ≤ (k : Int) := by omega
  clear hdo hL hk sm2 hF hR hlen hla
  go_enter Try.func35, Try.ntmps35
  go_wp2_with fail
  refine HM.out.mono ?_
  rintro e W1 ⟨m, rfl, hmt, hs1, hk1, hb1⟩
  clear HM
  have hfm1 : Rd W1 (lo B) FA fn forms := hfm.mono (fun _ h => h) (kept_below hb1)
  go_wp2
  go_loopw [7] (fun i wr => ∃ (q fu : Nat) (RA : Option Addr) (rn rc : Nat) (run : List Itm), i = .int .i64 (q : Int) ∧ WS B wr Bw Bm f F RA rn rc run ∧ Mt B wr 58 m (srtLk lk) ∧ run.length ≤ 1000 ∧ rn - q ≤ fu ∧ q ≤ 2000 ∧ onL w64 F lk forms fu run q = R ∧ Kept (SB B W) W wr ∧ Below B W wr) (fun i wr => lenAt wr Bw - (intOf i).toNat)
  case atStart => exact ⟨0, run.length, RA, rn, rc, run, rfl, hs1, hmt, HLN.out, by have := hs1.len; omega, by omega, HR.out.symm, hk1, hb1⟩
  case round =>
    clear hs1 hmt hk1 hb1 hfm1
    obtain ⟨q, fu, RA, rn, rc, run, rfl, hs1, hmt, hln, hfu, hq2, hon, hk1, hb1⟩ := hrel
    have hrl := hs1.len
    have c9 := hs1.c9
    have HLA1 := hs1.lenAt
    have HLE := Lib.hid HLA1
    have HON := Lib.hid hon
    clear hon HLA1
    by_cases hlt : q < rn
    · obtain ⟨fu, rfl⟩ : ∃ x, fu = x + 1 := ⟨fu - 1, by omega⟩
      have hfmr : Rd wr (lo B) FA fn forms := hfm.mono (fun _ h => h) (kept_below hb1)
      have HMC := Lib.hid (match_ws B Bw Bm f F RA rn rc run lk m FA fn fc forms (q : Int) wr hs1 hmt HSM.out (hfmr.mono (lo_mono hs1.hB) (Kept.refl _ _)) hfn (by omega) sm1)
      have hq0 : (q : Int) < (rn : Int) := by omega
      have hstep := HON.out
      rw [onL, if_pos (by omega)] at hstep
      have hq3 : q + 1 ≤ 2000 := by omega
      have hrn3 : rn ≤ 1000 := by omega
      have HRL := Lib.hid hrl; clear hrl
      cases hans : matchL F lk run (q : Int) forms with
      | none =>
        rw [hans] at HMC hstep
        have HST := Lib.hid hstep
        clear hans hstep
        go_wp2_with fail
        refine HMC.out.mono ?_
        rintro e W2 ⟨rfl, hb2⟩
        have hs2 := hs1.call hb2
        clear HMC
        go_wp2
        go_roundw
        case rel =>
          exact ⟨q + 1, fu, RA, rn, rc, run, by go_num, hs2, hmt.kept (kept_sb hs1.hB hb2), by omega, by omega, by omega, HST.out, fun b hb => (kept_sb hs1.hB hb2 b (by
            have hbl := hk1 b hb
            rcases hb with hb | ⟨cs, t, fr, hb, ht⟩
            · exact .inl hb
            · exact .inr ⟨cs, t, fr, hbl.trans hb, ht⟩)).trans (hk1 b hb), hb1.trans (hb2.mono hs1.hB)⟩
        case measure => rw [HLE.out, hs2.lenAt]; simp [intOf]; omega
      | some x =>
        obtain ⟨n, ps⟩ := x
        rw [hans] at HMC hstep
        obtain ⟨r, hr, _, _, hne, hhd, hpl, hps, hpw, hfit, _, _⟩ := matchL_some hans
        have hgr : lk.rules.getD n default = r := by simp [hr]
        have hL2 := HL.out run q forms n ps hln hans
        dsimp only at hstep
        rw [hgr] at hstep hL2
        have HST := Lib.hid hstep; have HL2 := Lib.hid hL2; have HANS := Lib.hid hans
        have HPS := Lib.hid hps
        have hin : r.inn ≠ [] := by
          intro e; rw [e] at hpl; exact hne (List.eq_nil_of_length_eq_zero hpl)
        clear hans hstep hL2 hps
        go_wp2_with fail
        refine HMC.out.mono ?_
        rintro e W2 ⟨PA, pc, rfl, hrd, hpd, hb2⟩
        have hs2 := hs1.call hb2
        have hrdB : Rd W2 (SB B W2) PA ps.length (natI ps) := hrd.mono (fun _ h => .inr h) (Kept.refl _ _)
        have HDO := Lib.hid (HD.out W2 RA rn rc run n r PA ps.length pc ps hs2 hr hrdB hpd hin hne (fun p hp => (HPS.out p hp).2.1) hpw hln)
        obtain ⟨pm, hpm⟩ : ∃ x, ps.length = x + 1 := ⟨ps.length - 1, by have : 0 < ps.length := List.length_pos_iff.2 hne; omega⟩
        obtain ⟨L, hLd⟩ : ∃ L, L = ps.getLastD 0 := ⟨_, rfl⟩
        have hlast : ps[pm]? = some L := by rw [hLd, ← last_at hne, hpm]; rfl
        have hLb := HPS.out L (List.mem_of_getElem? hlast)
        obtain ⟨pb, po, rfl, _, hpc⟩ := hrd.pos (by omega)
        obtain ⟨cs, rfl, hcc⟩ := hpc pm (L : Int) (natI_at hlast)
        have y0 := hcc 0 _ rfl
        simp only [Nat.mul_one, Nat.add_zero] at y0
        rw [hpm] at HDO ⊢
        have c92 := hs2.c9
        have hqL : q ≤ L := by have := hLb.1; simpa using this
        have hqL2 : 0 < pm → q < L := fun h0 => by
          have h1 : ps[0]? = some q := by rw [← List.head?_eq_getElem?, hhd]; simp
          obtain ⟨a1, b1⟩ := List.getElem?_eq_some_iff.1 h1
          obtain ⟨a2, b2⟩ := List.getElem?_eq_some_iff.1 hlast
          have := List.pairwise_iff_getElem.1 hpw 0 pm a1 a2 h0
          omega
        have hLr : L < rn := by have := hLb.2.1; have := HRL.out; omega
        have hpcM : pm + 1 ≤ 9223372036854775807 := by have := hpd.1; have := hpd.2; omega
        have hk2 := kept_sb hs1.hB hb2
        have HK12 : Kept (SB B W) W W2 := fun b hb => (hk2 b (by
            have hbl := hk1 b hb
            rcases hb with hb | ⟨cs, t, fr, hb, ht⟩
            · exact .inl hb
            · exact .inr ⟨cs, t, fr, hbl.trans hb, ht⟩)).trans (hk1 b hb)
        have HB12 := hb1.trans (hb2.mono hs1.hB)
        have hmt2 := hmt.kept hk2
        have HLD := Lib.hid hLd; have HPM := Lib.hid hpm
        have z1 : (0 : Int) ≤ (pm : Int) := by omega
        have z2 : (pm : Int) < (pm : Int) + 1 := by omega
        have n0 : decide ((n : Int) < 0) = false := by simp
        clear HMC hrd hrdB hpc hcc hlast hLb hb2 hs1 hmt hk1 hb1 hk2 hs2 c9 hLd hpm hpw hne hhd hpl hr hpd hin
        go_wp2_with fail
        refine HDO.out.mono ?_
        rintro e W3 ⟨rfl, RA3, rn3, rc3, hs3, hk3, hb3⟩
        have hmt3 := hmt2.kept hk3
        have HK13 : Kept (SB B W) W W3 := fun b hb => (hk3 b (by
            have hbl := HK12 b hb
            rcases hb with hb | ⟨cs, t, fr, hb, ht⟩
            · exact .inl hb
            · exact .inr ⟨cs, t, fr, hbl.trans hb, ht⟩)).trans (HK12 b hb)
        have HB13 := HB12.trans hb3
        clear HDO HK12 HB12 hk3 hb3 hmt2 y0 c92
        have hl3 := hs3.len
        have c93 := hs3.c9
        have c33 := hs3.c3
        obtain ⟨b', o', hla', _, kc, _, _⟩ := kind_cell hs3 HK.out
        rw [hla'] at c33
        obtain ⟨hl2a, hl2b, hl2d⟩ := HL2.out
        rw [hl3, HRL.out, ← HLD.out] at hl2b
        rw [hl3, HRL.out] at hl2d
        rw [hl3] at hl2a
        have hnx : nextL lk ps q run.length (doL w64 F (4 - 0) lk r ps run).length = if lk.kind = 4 then (max ((rn3 : Int) - ((rn : Int) - 1 - (L : Int))) ((q : Int) + 1)).toNat else if lk.kind = 6 ∧ 0 < pm then L else ((rn3 : Int) - ((rn : Int) - 1 - (L : Int))).toNat := by
          unfold nextL
          rw [← HLD.out, hl3, HRL.out, HPM.out]
          simp only [Nat.lt_add_left_iff_pos]
        have HST3 := HST.out
        rw [show doL w64 F 4 lk r ps run = doL w64 F (4 - 0) lk r ps run from rfl, hnx] at HST3
        have HS3 := Lib.hid HST3
        have HL3 := Lib.hid hl3
        have HH := Lib.hid hs3.lenAt
        clear hnx HST3 HST HL2 hl3
        by_cases k4 : lk.kind = 4
        · have e4 : (lk.kind == 4) = true := by simp [k4]
          rw [k4] at kc
          clear hl2b
          go_wp2
          go_roundw
          case rel =>
            have hs := HS3.out
            rw [if_pos k4] at hs
            refine ⟨_, fu, RA3, rn3, rc3, _, ?_, hs3, hmt3, by have := HL3.out; omega, ?_, ?_, hs, HK13, HB13⟩
            · congr 1; omega
            · omega
            · omega
          case measure => rw [HLE.out, HH.out]; simp [intOf]; omega
        · have hl2c := hl2b k4
          have e4 : (lk.kind == 4) = false := by simpa using k4
          by_cases k6 : lk.kind = 6
          · have e6 : (lk.kind == 6) = true := by simp [k6]
            rw [k6] at kc
            by_cases hpm0 : 0 < pm
            · have t1 : decide ((1 : Int) < (pm : Int) + 1) = true := by simp; omega
              have hq6 := hqL2 hpm0
              have hr6 := hl2d k6
              have HR6 := Lib.hid hr6; clear hr6 hl2d
              go_wp2
              go_roundw
              case rel =>
                have hs := HS3.out
                rw [if_neg k4, if_pos ⟨k6, hpm0⟩] at hs
                exact ⟨L, fu, RA3, rn3, rc3, _, rfl, hs3, hmt3, by have := HL3.out; omega, by have := HR6.out; omega, by omega, hs, HK13, HB13⟩
              case measure => rw [HLE.out, HH.out]; have := HR6.out; simp [intOf]; omega
            · have t1 : decide ((1 : Int) < (pm : Int) + 1) = false := by simp; omega
              have t2 : decide (1 < pm + 1) = false := by simp; omega
              go_wp2
              go_roundw
              case rel =>
                have hs := HS3.out
                rw [if_neg k4, if_neg (fun h => hpm0 h.2)] at hs
                refine ⟨_, fu, RA3, rn3, rc3, _, ?_, hs3, hmt3, by have := HL3.out; omega, ?_, ?_, hs, HK13, HB13⟩
                · congr 1; omega
                · omega
                · omega
              case measure => rw [HLE.out, HH.out]; simp [intOf]; omega
          · have e6 : (lk.kind == 6) = false := by simpa using k6
            go_wp2
            go_roundw
            case rel =>
              have hs := HS3.out
              rw [if_neg k4, if_neg (fun h => k6 h.1)] at hs
              refine ⟨_, fu, RA3, rn3, rc3, _, ?_, hs3, hmt3, by have := HL3.out; omega, ?_, ?_, hs, HK13, HB13⟩
              · congr 1; omega
              · omega
              · omega
            case measure => rw [HLE.out, HH.out]; simp [intOf]; omega
    · have hge : decide ((q : Int) < (rn : Int)) = false := by simp; omega
      have hge2 : decide (q < rn) = false := by simp; omega
      have hfin : run = R := by
        have := HON.out
        cases fu with
        | zero => exact this
        | succ fu => rw [onL, if_neg (by omega)] at this; exact this
      have HFIN := Lib.hid hfin
      clear hfin
      go_wp2
      go_end0
      rw [← HFIN.out]
      exact ⟨rfl, RA, rn, rc, hs1, hk1, hb1⟩

end Go.Proofs.Ytkoocipagndclaa
