/- Walks: the document's Apply, for whatever its 'done' does as it must. -/
import Derived.Test.YtkoocipagndclaaR10
namespace Go.Proofs.Ytkoocipagndclaa
open Go.RowKit Go.Shelf

/-- What the document's done leaves: a run, and where it goes on. -/
def DnPost (w : World) (run' : List Itm) (next : Nat) (e : Ending) (w' : World) : Prop :=
  ∃ A n c, e = .returned (.tuple #[.slice A n c, .int .i64 (next : Int)]) ∧ RdI w' (lo w'.heap.size) A n run' ∧ Hd n c ∧ Below w.heap.size w w'
/-- A run is left. -/
def QRPost (w : World) (run' : List Itm) (e : Ending) (w' : World) : Prop :=
  ∃ A n c, e = .returned (.slice A n c) ∧ RdI w' (lo w'.heap.size) A n run' ∧ Hd n c ∧ Below w.heap.size w w'
/-- The document's done does what a lookup's rules say. -/
def QDoOK (f : FV) (F : Fnt) (q : Nat) (lk : Lk) : Prop := ∀ (W : World) (RA : Option Addr) (rn rc : Nat) (run : List Itm) (k j : Nat) (ps : List Nat) (forms : List Int) (IA : Option Addr) (m c : Nat),
  IsF W (lo W.heap.size) f F → RdI W (lo W.heap.size) RA rn run → Hd rn rc → run.length ≤ 1000 → matchL F lk run (k : Int) forms = some (j, ps) → Rd W (lo W.heap.size) IA m (natI ps) → Hd m c →
  Calls Try.prog 36 #[.agg f.cells, .int .i64 (q : Int), .slice RA rn rc, .int .i64 (j : Int), .slice IA m c, .int .i64 0] W (DnPost W (doL w64 F 4 lk (lk.rules.getD j default) ps run) (nextL lk ps k run.length (doL w64 F 4 lk (lk.rules.getD j default) ps run).length))
theorem last_ok {F : Fnt} {lk : Lk} {run : List Itm} {q : Nat} {forms : List Int} {n : Nat} {ps : List Nat} (h : matchL F lk run (q : Int) forms = some (n, ps)) : q ≤ ps.getLastD 0 ∧ ps.getLastD 0 < run.length ∧ (1 < ps.length → q < ps.getLastD 0) := by
  obtain ⟨r, hr, _, _, hne, hhd, hpl, hps, hpw, hfit, _, _⟩ := matchL_some h
  have hlast := last_at hne
  have hLb := hps _ (List.mem_of_getElem? hlast)
  refine ⟨by have := hLb.1; simpa using this, hLb.2.1, fun h1 => ?_⟩
  have h1' : ps[0]? = some q := by rw [← List.head?_eq_getElem?, hhd]; simp
  obtain ⟨a1, b1⟩ := List.getElem?_eq_some_iff.1 h1'
  obtain ⟨a2, b2⟩ := List.getElem?_eq_some_iff.1 hlast
  have := List.pairwise_iff_getElem.1 hpw 0 (ps.length - 1) a1 a2 (by omega)
  omega
theorem next_ok {F : Fnt} {lk : Lk} {run : List Itm} {q : Nat} {forms : List Int} {n : Nat} {ps : List Nat} (hL : LenOK F lk) (hln : run.length ≤ 1000) (hq : q < run.length) (h : matchL F lk run (q : Int) forms = some (n, ps)) :
    (doL w64 F 4 lk (lk.rules.getD n default) ps run).length ≤ 1000 ∧ (doL w64 F 4 lk (lk.rules.getD n default) ps run).length - nextL lk ps q run.length (doL w64 F 4 lk (lk.rules.getD n default) ps run).length ≤ run.length - q - 1 ∧ nextL lk ps q run.length (doL w64 F 4 lk (lk.rules.getD n default) ps run).length ≤ 3000 := by
  obtain ⟨l1, l2, l3⟩ := hL run q forms n ps hln h
  obtain ⟨m1, m2, m3⟩ := last_ok h
  refine ⟨l1, ?_⟩
  unfold nextL
  dsimp only
  generalize (doL w64 F 4 lk (lk.rules.getD n default) ps run).length = len' at *
  generalize ps.getLastD 0 = L at *
  split
  · omega
  · rename_i h4
    have l2' := l2 h4
    split
    · rename_i h6
      have := l3 h6.1
      have := m3 h6.2
      omega
    · omega

set_option maxRecDepth 100000 in
set_option maxHeartbeats 4000000 in
theorem qApply_c (f : FV) (F : Fnt) (n : Int) (RA : Option Addr) (rn rc : Nat) (run : List Itm) (FA : Option Addr) (fn fc : Nat) (forms : List Int) (w : World)
    (hf : IsF w (lo w.heap.size) f F) (hI : RdI w (lo w.heap.size) RA rn run) (hF : Rd w (lo w.heap.size) FA fn forms) (hrn : rn ≤ 1000) (hfn : fn ≤ 9223372036854775807) (hsm : SmF F)
    (hD : ∀ (q : Nat) (lk : Lk), n = (q : Int) → F.lks[q]? = some lk → 1 ≤ lk.kind → lk.kind ≤ 6 → QDoOK f F q lk ∧ LenOK F lk) :
    Calls Try.prog 20 #[.agg f.cells, .int .i64 n, .slice RA rn rc, .slice FA fn fc] w (QRPost w (applyL w64 F n run forms)) := by
  have hs0 := LS'.new hf hI
  have hF0 := hF.call hs0.bw
  have bE : Below (w.alloc (.cells f.cells 31)).heap.size (w.alloc (.cells f.cells 31)) ((w.alloc (.cells f.cells 31)).alloc (.cells #[] 51)) := (Below.refl _ _).alloc (Nat.le_refl _) _
  have hR0 := hs0.hI.call bE
  have HLR := Lib.hid (itc_lenN hI.len)
  have HD := Lib.hid hD; have HSM := Lib.hid hsm
  have oE := own_empty (w.alloc (.cells f.cells 31)) 51 6
  obtain ⟨R, hR⟩ : ∃ R, R = applyL w64 F n run forms := ⟨_, rfl⟩
  rw [← hR]
  have HR := Lib.hid hR
  unfold FV.cells at hs0 bE hR0 hF0 oE ⊢
  clear hR hD hsm hF hf
  go_enter Try.func20, Try.ntmps20
  go_upto_region 1 with fail
  generalize w.alloc (.cells #[.int .i64 f.u0, .slice f.ga f.gn f.gc, .slice f.ca f.cn f.cc, .slice f.la f.ln f.lc, .slice f.a4 f.n4 f.c4, .slice f.a5 f.n5 f.c5, .slice f.a6 f.n6 f.c6, .slice f.a7 f.n7 f.c7, .slice f.a8 f.n8 f.c8] 31) = w0 at hs0 bE hR0 hF0 oE ⊢
  generalize hbf : w.heap.size = bf at hs0 ⊢
  clear hbf
  go_upto_region 3 with (at_builtin; refine appP elt_item rfl _ _ rfl _ w0.heap.size _ _ _ [] _ _ _ (itc run) (by rfl) (by rfl) oE HLR.out (news_itc hR0) (itc_one _) (by omega) bE.size ?_; intro A1 c1 w1 o1 hg1 hb1 hat1)
  rw [List.nil_append, Nat.zero_add] at o1
  have b1 := bE.trans hb1
  have hsx := hs0.call b1
  have hs1 : LS' w w1 bf f F A1 rn run := ⟨hsx.kf, hsx.hf, o1.rdI, hsx.bw⟩
  have hF1 := hF0.call b1
  have hd1 := o1.hd
  clear hs0 hsx bE hR0 hF0 oE hg1 hb1 hat1 o1 b1 hI
  have hln := hs1.hf.2.1.len
  have hld := hs1.hf.2.2.2
  have hlnM : f.ln ≤ 9223372036854775807 := Nat.le_trans hld.1 hld.2
  have y3 := (font_cells hs1.kf).2.2.2.1
  have HLN := Lib.hid hln
  clear hln hld
  by_cases h0 : n < 0
  · have t0 : decide (n < 0) = true := by simp; omega
    have HRES := Lib.hid (show R = run by rw [HR.out]; unfold applyL; rw [lkAt_out (.inl h0)])
    go_wp2
    go_ret
    exact ⟨_, _, _, rfl, by rw [HRES.out]; exact hs1.hI, hd1, hs1.bw⟩
  · have t0 : decide (n < 0) = false := by simp; omega
    by_cases h1 : (f.ln : Int) ≤ n
    · have t1 : decide ((f.ln : Int) ≤ n) = true := by simp; omega
      have HRES := Lib.hid (show R = run by rw [HR.out]; unfold applyL; rw [lkAt_out (.inr (by have := HLN.out; omega))])
      go_wp2
      go_ret
      exact ⟨_, _, _, rfl, by rw [HRES.out]; exact hs1.hI, hd1, hs1.bw⟩
    · have t1 : decide ((f.ln : Int) ≤ n) = false := by simp; omega
      obtain ⟨q, rfl⟩ : ∃ q : Nat, n = q := ⟨n.toNat, by omega⟩
      have t1' : decide (f.ln ≤ q) = false := by simp; omega
      obtain ⟨lk, hlk⟩ := at_some F.lks q (by have := HLN.out; omega)
      obtain ⟨lb, lo', hla, _, hcl⟩ := hs1.hf.2.1.pos (by omega)
      obtain ⟨cs, ⟨LA, ln, lc, rfl, _, _⟩, hccl⟩ := hcl q lk hlk
      have g0 := hccl 0 _ rfl
      rw [Nat.add_zero] at g0
      rw [hla] at y3
      have HLA := Lib.hid hla
      have qz : (0 : Int) ≤ (q : Int) := by omega
      have qn : (q : Int) < (f.ln : Int) := by omega
      have hap : applyL w64 F (q : Int) run forms = if lk.kind < 1 ∨ 6 < lk.kind then run else if lk.kind = 5 then bwL w64 F lk forms run.length run else onL w64 F lk forms run.length run 0 := by unfold applyL; rw [lkAt_nat hlk]
      have HAP := Lib.hid hap; have HLK := Lib.hid hlk
      clear hap hla hcl hccl h0 h1 hlk
      by_cases k1 : lk.kind < 1
      · have t2 : decide (lk.kind < 1) = true := by simp; omega
        have HRES := Lib.hid (show R = run by rw [HR.out]; rw [HAP.out, if_pos (.inl k1)])
        go_wp2
        go_ret
        exact ⟨_, _, _, rfl, by rw [HRES.out]; exact hs1.hI, hd1, hs1.bw⟩
      · have t2 : decide (lk.kind < 1) = false := by simp; omega
        by_cases k6 : 6 < lk.kind
        · have t3 : decide (6 < lk.kind) = true := by simp; omega
          have HRES := Lib.hid (show R = run by rw [HR.out]; rw [HAP.out, if_pos (.inr k6)])
          go_wp2
          go_ret
          exact ⟨_, _, _, rfl, by rw [HRES.out]; exact hs1.hI, hd1, hs1.bw⟩
        · have t3 : decide (6 < lk.kind) = false := by simp; omega
          obtain ⟨hdo, hlo⟩ := HD.out q lk rfl HLK.out (by omega) (by omega)
          have HDO := Lib.hid hdo; have HLO := Lib.hid hlo
          have HM := Lib.hid fun (A : Option Addr) (m c : Nat) (rn' : List Itm) (at' : Int) (W : World) (h1 : IsF W (lo W.heap.size) f F) (h2 : RdI W (lo W.heap.size) A m rn') (h3 : Rd W (lo W.heap.size) FA fn forms) (h4 : m ≤ 1000) => qMatch_c f F (q : Int) A m c rn' at' FA fn fc forms W h1 h2 h3 (by omega) hfn HSM.out
          have HMQ := Lib.hid fun (rn' : List Itm) (k : Int) => (show matchQ F (q : Int) rn' k forms = matchL F lk rn' k forms by unfold matchQ; rw [lkAt_nat HLK.out])
          have HDC := Lib.hid fun (W : World) (A : Option Addr) (m c : Nat) (rn' : List Itm) (k j : Nat) (ps : List Nat) (IA : Option Addr) (im ic' : Nat) (h1 : IsF W (lo W.heap.size) f F) (h2 : RdI W (lo W.heap.size) A m rn') (h3 : Hd m c) (h4 : rn'.length ≤ 1000) (h5 : matchL F lk rn' (k : Int) forms = some (j, ps)) (h6 : Rd W (lo W.heap.size) IA im (natI ps)) (h7 : Hd im ic') => HDO.out W A m c rn' k j ps forms IA im ic' h1 h2 h3 h4 h5 h6 h7
          unfold FV.cells at HM HDC
          have hap : R = if lk.kind = 5 then bwL w64 F lk forms run.length run else onL w64 F lk forms run.length run 0 := by rw [HR.out, HAP.out, if_neg (by omega)]
          have HAP := Lib.hid hap
          have HRL := Lib.hid hs1.hI.len
          clear hdo hlo hap HD HSM HDO HLK HR k1 k6 HLN HLR
          by_cases k5 : lk.kind = 5
          · have t5 : (lk.kind == 5) = true := by simp [k5]
            have hap := HAP.out
            rw [if_pos k5] at hap
            have HAP := Lib.hid hap
            clear hap k5
            go_wp2
            go_loopw [9, 10] (fun s9 s10 wr => ∃ (j : Nat) (A : Option Addr) (m c : Nat) (rn' : List Itm), s9 = .slice A m c ∧ s10 = .int .i64 ((j : Int) - 1) ∧ j ≤ 1000 ∧ m ≤ 1000 ∧ Hd m c ∧ bwL w64 F lk forms j rn' = R ∧ LS' w wr bf f F A m rn' ∧ Rd wr (lo wr.heap.size) FA fn forms) (fun _ i _ => (intOf i + 1).toNat)
            case atStart => exact ⟨rn, A1, rn, c1, run, rfl, by go_num, by omega, by omega, hd1, by rw [HAP.out, HRL.out], hs1, hF1⟩
            case round =>
              obtain ⟨j, A, m, c, rn', rfl, rfl, hj, hm, hdm, hbw, hsr, hFr⟩ := hrel
              have HBW := Lib.hid hbw
              clear hbw hs1 hF1 y3 g0
              cases j with
              | zero =>
                have t6 : decide ((0 : Int) ≤ ((0 : Nat) : Int) - 1) = false := by simp
                have HRES := Lib.hid (show R = rn' by rw [← HBW.out]; rfl)
                go_wp2
                go_ret
                exact ⟨_, _, _, rfl, by rw [HRES.out]; exact hsr.hI, hdm, hsr.bw⟩
              | succ j =>
                have hw : (((j + 1 : Nat) : Int) - 1) = (j : Int) := by omega
                rw [hw]
                have t6 : (0 : Int) ≤ (j : Int) := by omega
                have hst := HBW.out
                rw [bwL] at hst
                obtain ⟨y0, y1, y2, y3, y4, y5, y6, y7, y8⟩ := font_cells hsr.kf
                have HC := Lib.hid (HM.out A m c rn' (j : Int) wr hsr.hf hsr.hI hFr hm)
                rw [HMQ.out] at HC
                cases hans : matchL F lk rn' (j : Int) forms with
                | none =>
                  rw [hans] at HC hst
                  have HST := Lib.hid hst
                  clear hst hans
                  go_wp2_with fail
                  refine HC.out.mono ?_
                  rintro e w2 ⟨rfl, b2⟩
                  clear HC y0 y1 y2 y3 y4 y5 y6 y7 y8
                  have hs2 := hsr.call b2
                  have hF2 := hFr.call b2
                  go_wp2
                  go_roundw
                  case rel => exact ⟨j, A, m, c, rn', rfl, by go_num, by omega, hm, hdm, HST.out, hs2, hF2⟩
                  case measure => simp [intOf] <;> omega
                | some x =>
                  obtain ⟨ru, ps⟩ := x
                  rw [hans] at HC hst
                  have HST := Lib.hid hst; have HANS := Lib.hid hans
                  have hlm := hsr.hI.len
                  have hok := (HLO.out rn' j forms ru ps (by omega) hans).1
                  have HOK := Lib.hid hok
                  clear hst hans hok
                  go_wp2_with fail
                  refine HC.out.mono ?_
                  rintro e w2 ⟨IA, im, ic', rfl, o2, b2⟩
                  clear HC y0 y1 y2 y3 y4 y5 y6 y7 y8
                  have hs2 := hsr.call b2
                  have hF2 := hFr.call b2
                  have HC := Lib.hid (HDC.out w2 A m c rn' j ru ps IA im ic' hs2.hf hs2.hI hdm (by omega) HANS.out o2.rd o2.hd)
                  have n0 : (0 : Int) ≤ (ru : Int) := by omega
                  clear hsr hFr b2 o2
                  obtain ⟨y0, y1, y2, y3, y4, y5, y6, y7, y8⟩ := font_cells hs2.kf
                  go_wp2_with fail
                  refine HC.out.mono ?_
                  rintro e w3 ⟨A3, m3, c3, rfl, hI3, hd3, b3⟩
                  clear HC y0 y1 y2 y3 y4 y5 y6 y7 y8
                  have hsx := hs2.call b3
                  have hs3 : LS' w w3 bf f F A3 m3 _ := ⟨hsx.kf, hsx.hf, hI3, hsx.bw⟩
                  have hF3 := hF2.call b3
                  have hm3 : m3 ≤ 1000 := by have := hI3.len; have := HOK.out; omega
                  clear hsx hs2 hF2 hI3 b3
                  go_wp2
                  go_roundw
                  case rel => exact ⟨j, A3, m3, c3, _, rfl, by go_num, by omega, hm3, hd3, HST.out, hs3, hF3⟩
                  case measure => simp [intOf] <;> omega
          · have t5 : (lk.kind == 5) = false := by simpa using k5
            have hap := HAP.out
            rw [if_neg k5] at hap
            have HAP := Lib.hid hap
            clear hap k5
            go_wp2
            go_loopw [9, 13] (fun s9 s13 wr => ∃ (k fu : Nat) (A : Option Addr) (m c : Nat) (rn' : List Itm), s9 = .slice A m c ∧ s13 = .int .i64 (k : Int) ∧ k ≤ 3000 ∧ m ≤ 1000 ∧ m - k ≤ fu ∧ Hd m c ∧ onL w64 F lk forms fu rn' k = R ∧ LS' w wr bf f F A m rn' ∧ Rd wr (lo wr.heap.size) FA fn forms) (fun s i _ => (match s with | .slice _ m _ => m | _ => 0) - (intOf i).toNat)
            case atStart => exact ⟨0, rn, A1, rn, c1, run, rfl, rfl, by omega, by omega, by omega, hd1, by rw [HAP.out, HRL.out], hs1, hF1⟩
            case round =>
              obtain ⟨k, fu, A, m, c, rn', rfl, rfl, hk, hm, hfu, hdm, hon, hsr, hFr⟩ := hrel
              have HON := Lib.hid hon
              clear hon hs1 hF1 y3 g0
              have hml := hsr.hI.len
              by_cases hlt : k < m
              · have t6 : (k : Int) < (m : Int) := by omega
                obtain ⟨fu, rfl⟩ : ∃ x, fu = x + 1 := ⟨fu - 1, by omega⟩
                have hst := HON.out
                rw [onL, if_pos (by omega)] at hst
                obtain ⟨y0, y1, y2, y3, y4, y5, y6, y7, y8⟩ := font_cells hsr.kf
                have HC := Lib.hid (HM.out A m c rn' (k : Int) wr hsr.hf hsr.hI hFr hm)
                rw [HMQ.out] at HC
                cases hans : matchL F lk rn' (k : Int) forms with
                | none =>
                  rw [hans] at HC hst
                  have HST := Lib.hid hst
                  clear hst hans hml
                  go_wp2_with fail
                  refine HC.out.mono ?_
                  rintro e w2 ⟨rfl, b2⟩
                  clear HC y0 y1 y2 y3 y4 y5 y6 y7 y8
                  have hs2 := hsr.call b2
                  have hF2 := hFr.call b2
                  go_wp2
                  go_roundw
                  case rel => exact ⟨k + 1, fu, A, m, c, rn', rfl, by go_num, by omega, hm, by omega, hdm, HST.out, hs2, hF2⟩
                  case measure => simp [intOf] <;> omega
                | some x =>
                  obtain ⟨ru, ps⟩ := x
                  rw [hans] at HC hst
                  have HST := Lib.hid hst; have HANS := Lib.hid hans
                  have hok := next_ok HLO.out (by omega) (by omega) hans
                  have HOK := Lib.hid hok; have HML := Lib.hid hml
                  clear hst hans hok hml
                  go_wp2_with fail
                  refine HC.out.mono ?_
                  rintro e w2 ⟨IA, im, ic', rfl, o2, b2⟩
                  clear HC y0 y1 y2 y3 y4 y5 y6 y7 y8
                  have hs2 := hsr.call b2
                  have hF2 := hFr.call b2
                  have HC := Lib.hid (HDC.out w2 A m c rn' k ru ps IA im ic' hs2.hf hs2.hI hdm (by have := HML.out; omega) HANS.out o2.rd o2.hd)
                  have n0 : decide ((ru : Int) < 0) = false := by simp
                  clear hsr hFr b2 o2
                  obtain ⟨y0, y1, y2, y3, y4, y5, y6, y7, y8⟩ := font_cells hs2.kf
                  go_wp2_with fail
                  refine HC.out.mono ?_
                  rintro e w3 ⟨A3, m3, c3, rfl, hI3, hd3, b3⟩
                  clear HC y0 y1 y2 y3 y4 y5 y6 y7 y8
                  have hsx := hs2.call b3
                  have hs3 : LS' w w3 bf f F A3 m3 _ := ⟨hsx.kf, hsx.hf, hI3, hsx.bw⟩
                  have hF3 := hF2.call b3
                  have hfin : m3 ≤ 1000 ∧ m3 - nextL lk ps k rn'.length (doL w64 F 4 lk (lk.rules.getD ru default) ps rn').length ≤ m - k - 1 ∧ nextL lk ps k rn'.length (doL w64 F 4 lk (lk.rules.getD ru default) ps rn').length ≤ 3000 := by
                    have h1 := hI3.len; have h2 := HOK.out; have h3 := HML.out
                    rw [h1, h3] at h2; rw [h1, h3]; exact h2
                  clear hsx hs2 hF2 hI3 b3
                  have HFN := Lib.hid hfin
                  have HST2 := HST.out
                  generalize nextL lk ps k rn'.length (doL w64 F 4 lk (lk.rules.getD ru default) ps rn').length = nx at *
                  generalize doL w64 F 4 lk (lk.rules.getD ru default) ps rn' = rn3 at *
                  clear hfin HOK HST
                  have HST := Lib.hid HST2
                  clear HST2
                  go_wp2
                  go_roundw
                  case rel => exact ⟨nx, fu, A3, m3, c3, rn3, rfl, rfl, HFN.out.2.2, HFN.out.1, by have := HFN.out.2.1; omega, hd3, HST.out, hs3, hF3⟩
                  case measure => have := HFN.out.2.1; simp [intOf]; omega
              · have t6 : decide ((k : Int) < (m : Int)) = false := by simp; omega
                have HRES := Lib.hid (show R = rn' by
                  rw [← HON.out]
                  cases fu with
                  | zero => rfl
                  | succ fu => rw [onL, if_neg (by omega)])
                go_wp2
                go_ret
                exact ⟨_, _, _, rfl, by rw [HRES.out]; exact hsr.hI, hdm, hsr.bw⟩

end Go.Proofs.Ytkoocipagndclaa
