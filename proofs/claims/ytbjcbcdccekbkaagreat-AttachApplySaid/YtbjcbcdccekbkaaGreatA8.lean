/- Walks: marks. -/
import Derived.Test.YtbjcbcdccekbkaaGreatA7
import Derived.Test.YtbjcbcdccekbkaaGreatP1
namespace Go.Proofs.YtbjcbcdccekbkaaGreat
open Go.RowKit Go.Shelf

section
variable {B : Nat} {W W' : World} {Bp : Nat} {f : FV} {F : Fnt} {kd : Int} {ign : Bool} {LA : Option Addr} {ll lc : Nat} {num : Int} {RA : Option Addr} {rn rc : Nat} {run : List Itm}
/-- A block of ints is none of a placing's. -/
theorem PS.neInt (h : PS B W Bp f F kd ign LA ll lc num RA rn rc run) {g n c : Nat} {cs : List Value} (ho : Ow 3 1 W B (some ⟨g, 0, none⟩) n c cs) : Bp ≠ g ∧ ∀ b, RA = some ⟨b, 0, none⟩ → b ≠ g := by
  obtain ⟨_, _, _, cur, hh⟩ := ho.blk g rfl
  refine ⟨fun e => ?_, fun b e e2 => ?_⟩
  · subst e
    have hw := h.pk
    unfold Bk at hw; rw [hw] at hh; injection hh with hh; injection hh with _ h2; revert h2; decide
  · subst e2
    obtain ⟨_, _, _, cur2, hh2⟩ := h.own.blk b (by rw [e]; rfl)
    rw [hh2] at hh; injection hh with hh; injection hh with _ h2; revert h2; decide
theorem PS.setInt (h : PS B W Bp f F kd ign LA ll lc num RA rn rc run) {g n c : Nat} {cs : List Value} (ho : Ow 3 1 W B (some ⟨g, 0, none⟩) n c cs) (q : Nat) (v : Value) : PS B (W.setCell ⟨g, q, none⟩ v) Bp f F kd ign LA ll lc num RA rn rc run := by
  obtain ⟨n1, n2⟩ := h.neInt ho
  have hbl : Below B W (W.setCell ⟨g, q, none⟩ v) := (Below.refl _ _).setCell (p := ⟨g, q, none⟩) (ho.blk g rfl).1 v
  exact ⟨by simp; exact h.hB, h.lp, h.pk.far n1 _, h.font.mono (fun _ h => h) (kept_below hbl), h.own.setOther (p := ⟨g, q, none⟩) (fun b e => n2 b e) v⟩
end
theorem map_ne {W : World} {bm g e k base n c : Nat} {gf : Int → Option Value} {cs : List Value} (hm : MapV W bm gf) (ho : Ow e k W base (some ⟨g, 0, none⟩) n c cs) : bm ≠ g := fun e1 => by
  subst e1
  obtain ⟨_, _, _, cur, hh⟩ := ho.blk bm rfl
  obtain ⟨es, c', h1, _⟩ := hm
  rw [hh] at h1; cases h1
theorem map_new (W : World) : MapB (W.alloc (.map #[] 0)) W.heap.size (fun _ => none) := MapV.new W
theorem below_gr {B : Nat} {W X Y : World} {g : Nat} (h : Below B W X) (hg : X.grownBy Y (some g)) (hB : B ≤ X.heap.size) (hgB : B ≤ g) : Below B W Y := h.grown hg hB (fun j e => by have e := Option.some.inj e; omega)
theorem ic_set (xs : List Int) (i : Nat) (x : Int) : (ic xs).set i (.int .i64 x) = ic (xs.set i x) := by simp [ic, List.map_set]
theorem pens_rd {W : World} {B g n c gi : Nat} {xs : List Int} (h : Ow 3 1 W B (some ⟨g, 0, none⟩) n c (ic xs)) (hne : g ≠ gi) : Rd W (fun b => b < W.heap.size ∧ b ≠ gi) (some ⟨g, 0, none⟩) n xs := by
  refine ⟨h.rd.1, fun hn => ?_⟩
  obtain ⟨b, o, e, hb, hc⟩ := h.rd.2 hn
  refine ⟨b, o, e, ⟨hb, ?_⟩, hc⟩
  injection e with e; injection e with e1 e2
  rw [← e1]; exact hne

set_option maxRecDepth 100000 in
set_option maxHeartbeats 4000000 in
theorem marks_c (B Bp : Nat) (f : FV) (F : Fnt) (kd : Int) (ign : Bool) (LA : Option Addr) (ll lc : Nat) (num : Int) (RA : Option Addr) (rn rc : Nat) (run : List Itm) (W : World) (hs : PS B W Bp f F kd ign LA ll lc num RA rn rc run) (hrn : rn ≤ 1000000) :
    Calls Tryz.prog 13 #[.pointer (some ⟨Bp, 0, none⟩)] W (PPost B Bp f F kd ign LA ll lc num RA rn rc W (marksL w64 F ign run)) := by
  have HRL := Lib.hid hs.len
  have hs0 := hs.call ((Below.refl _ _).alloc (Nat.le_refl _) (.map #[] 0))
  have c130 := hs0.c13
  have hB := hs.hB
  have hB0 := hs0.hB
  have HS := Lib.hid hs
  have hmm := @run_makeMap Tryz.prog
  clear hs
  go_enter Tryz.func13, Tryz.ntmps13
  go_wp2_with (refine mkG elt_int rfl _ _ rfl _ B rn _ _ (by rfl) (by rfl) (by rfl) (by rfl) (by omega) hB0 ?_; intro w1 ho1 hb1 hlt1; have hs1 := hs0.call hb1; have c131 := hs1.c13)
  have hm1 : MapB w1 W.heap.size (fun _ => none) := (map_new W).keep (hb1.block _ (by simp))
  have b1 : Below B W w1 := ((Below.refl _ _).alloc hB (.map #[] 0)).trans (hb1.mono hB0)
  rw [World.size_alloc] at ho1
  generalize hgp : W.heap.size + 1 = gp at ho1 ⊢
  have ho1' : Ow 3 1 w1 B (some ⟨gp, 0, none⟩) rn rn (ic (List.replicate rn 0)) := by
    have e : (madeCells (Value.int .i64 0).cells (rn * 1)).toList = ic (List.replicate rn 0) := by
      rw [show (Value.int .i64 0).cells = #[Value.int .i64 0] from rfl, toList_madeCells_one]
      simp [ic]
    rw [← e]; exact ho1
  clear ho1 hb1 hlt1 hs0 c130 hgp hB0
  go_loopw [2, 4, 19] (fun s2 s4 s19 wr => ∃ (j bm : Nat) (s : MSt), s = marksFold w64 F ign run j ∧ j ≤ rn ∧ s19 = .int .i64 j ∧ s2 = .map (some bm) ∧ s4 = .int .i64 s.pen ∧ PS B wr Bp f F kd ign LA ll lc num RA rn rc s.run ∧ MapB wr bm s.bs ∧ B ≤ bm ∧ Ow 3 1 wr B (some ⟨gp, 0, none⟩) rn rn (ic s.pens) ∧ Below B W wr) (fun _ _ i _ => rn - (intOf i).toNat)
  case atStart => exact ⟨0, W.heap.size, _, rfl, by omega, rfl, rfl, rfl, hs1, hm1, hB, by rw [← HRL.out] at ho1' ⊢; exact ho1', b1⟩
  case round =>
    clear hs1 c131 hm1 b1 ho1'
    obtain ⟨j, bm, s, hst, hj, rfl, rfl, rfl, hs, hm, hbm, hp, hbr⟩ := hrel
    have hcl := hs.len
    have HST := Lib.hid hst
    have hsB := hs.hB
    by_cases hlt : j < rn
    · have hok := (marksFold_inv w64 F ign run j (by have := HRL.out; omega)).bs
      have hnx := marksFold_succ w64 F ign run j
      rw [← hst] at hok hnx
      rw [markStep_eq w64 F ign s j (by omega)] at hnx
      have HNX := Lib.hid hnx
      clear hst hnx
      obtain ⟨bs, pens, pen, cur⟩ := s
      dsimp only at hs hm hp hcl hok HNX ⊢
      obtain ⟨gi, rfl, hgB, _⟩ := hs.own.form (by omega)
      obtain ⟨nBp, nGi⟩ := hs.neInt hp
      have ngi : gi ≠ gp := nGi gi rfl
      have hpl := hp.len
      rw [ic_len] at hpl
      obtain ⟨p0, hp0⟩ := at_some pens j (by omega)
      have cp := hp.cell (j := j) (x := .int .i64 p0) (by simp [ic, hp0])
      have fp := hp.frozen j
      have hs2 := hs.setInt hp j (.int .i64 pen)
      have hp2 := hp.stored j (.int .i64 pen)
      rw [ic_set] at hp2
      have nmp := map_ne hm hp
      have hm2 : MapB (wr.setCell ⟨gp, j, none⟩ (.int .i64 pen)) bm bs := hm.keep (Below.heap_setCell _ _ _ _ nmp)
      have b2 : Below B W (wr.setCell ⟨gp, j, none⟩ (.int .i64 pen)) := hbr.setCell (p := ⟨gp, j, none⟩) (hp.blk gp rfl).1 _
      have jz : (0 : Int) ≤ (j : Int) := by omega
      have jn : (j : Int) < (rn : Int) := by omega
      have HCL := Lib.hid hcl
      clear hp0 hpl hcl hs hm hp hbr nGi
      generalize hw2 : wr.setCell ⟨gp, j, none⟩ (.int .i64 pen) = w2 at *
      have HM := Lib.hid (pmark_c B Bp f F kd ign LA ll lc num _ rn rc cur j w2 hs2 (by have := HCL.out; omega) (by omega))
      cases hmk : isMark F (gAt cur j) with
      | true =>
        rw [hmk] at HM
        have hsr : stepRun w64 F ⟨bs, pens, pen, cur⟩ j = hangL w64 F cur j (pens.set j pen) bs := by unfold stepRun; dsimp only; rw [if_pos hmk]
        rw [hsr] at HNX
        have HH := Lib.hid (hang_c B Bp bm f F kd ign LA ll lc num gi rn rc cur j (some ⟨gp, 0, none⟩) rn (pens.set j pen) bs w2 hs2 hm2 hbm (by have := HCL.out; omega) hrn (pens_rd hp2 ngi.symm) hok)
        have HMK := Lib.hid hmk
        have HG3 := Lib.hid (show gAt (hangL w64 F cur j (pens.set j pen) bs) j = gAt cur j by rw [← hsr]; exact gAt_step w64 F ⟨bs, pens, pen, cur⟩ j (by have := HCL.out; show j < cur.length; omega))
        have HL3 := Lib.hid (show (hangL w64 F cur j (pens.set j pen) bs).length = rn by rw [hangL_len]; exact HCL.out)
        clear hsr hmk
        generalize hc3 : hangL w64 F cur j (pens.set j pen) bs = cur3 at *
        have hgcur : gAt cur3 j = gAt cur j := HG3.out
        have hl3 : cur3.length = rn := HL3.out
        clear hc3 HG3 HL3
        go_wp2_with fail
        refine HM.out.mono ?_
        rintro e w3 ⟨rfl, rfl⟩
        clear HM
        go_wp2_with fail
        refine HH.out.mono ?_
        rintro e w3 ⟨rfl, hs3, hg3⟩
        clear HH
        have hm3 : MapB w3 bm bs := hm2.keep (hg3.block bm hm2.lt (fun e => map_ne hm2 hs2.own (Option.some.inj e)))
        have hp3 : Ow 3 1 w3 B (some ⟨gp, 0, none⟩) rn rn (ic (pens.set j pen)) := hp2.grown hg3 (fun b e e2 => by
          have e2 := Option.some.inj e2
          have e := Option.some.inj e
          injection e with e
          omega)
        have b3 : Below B W w3 := below_gr b2 hg3 hs2.hB hgB
        obtain ⟨it, hit⟩ := at_some cur3 j (by omega)
        rw [itAt_some hit] at HNX
        clear hs2 hm2 hp2 b2 hg3 cp fp hw2
        cases ign with
        | true =>
          have hbs : stepBs F true ⟨bs, pens, pen, cur⟩ j = bs := by unfold stepBs; dsimp only; rw [HMK.out]; rfl
          rw [hbs] at HNX
          have c10 := hs3.c10
          have c13 := hs3.c13
          have i3 := hs3.own.cell (itc_at hit (j := 3) (v := .int .i64 it.a) rfl)
          have HS3 := Lib.hid hs3
          clear hs3 hbs hit
          go_wp2
          go_roundw
          case rel => exact ⟨j + 1, bm, _, HNX.out.symm, by omega, by go_num, rfl, rfl, HS3.out, hm3, hbm, hp3, b3⟩
          case measure => simp [intOf]; omega
        | false =>
          have hbs : stepBs F false ⟨bs, pens, pen, cur⟩ j = offerL (ancOf F (gAt cur3 j)) j bs := by unfold stepBs; dsimp only; rw [HMK.out, hgcur]; rfl
          rw [hbs] at HNX
          have c10 := hs3.c10
          have HO := Lib.hid (offer_c B Bp bm f F kd false LA ll lc num _ rn rc cur3 j bs w3 hs3 hm3 hbm (by omega) hrn)
          have HIT := Lib.hid hit
          clear hbs hit
          go_wp2_with fail
          refine HO.out.mono ?_
          rintro e w4 ⟨rfl, hm4, hg4⟩
          clear HO
          have hs4 := hs3.map hm3 hbm hg4
          have c13 := hs4.c13
          have i3 := hs4.own.cell (itc_at HIT.out (j := 3) (v := .int .i64 it.a) rfl)
          have hp4 : Ow 3 1 w4 B (some ⟨gp, 0, none⟩) rn rn (ic (pens.set j pen)) := hp3.grown hg4 (fun b e e2 => by
            have e2 := Option.some.inj e2
            have e := Option.some.inj e
            injection e with e
            exact map_ne hm3 hp3 (by omega))
          have b4 : Below B W w4 := below_gr b3 hg4 hs3.hB hbm
          have HS4 := Lib.hid hs4
          clear hs3 hs4 c10 hp3 hm3 b3
          go_wp2
          go_roundw
          case rel => exact ⟨j + 1, bm, _, HNX.out.symm, by omega, by go_num, rfl, rfl, HS4.out, hm4, hbm, hp4, b4⟩
          case measure => simp [intOf]; omega
      | false =>
        rw [hmk] at HM
        have hsr : stepRun w64 F ⟨bs, pens, pen, cur⟩ j = cur := by unfold stepRun; dsimp only; rw [if_neg (by rw [hmk]; simp)]
        have hbs : stepBs F ign ⟨bs, pens, pen, cur⟩ j = offerL (ancOf F (gAt cur j)) j (fun _ => none) := by unfold stepBs; dsimp only; rw [hmk]; rfl
        rw [hsr, hbs] at HNX
        obtain ⟨it, hit⟩ := at_some cur j (by have := HCL.out; omega)
        rw [itAt_some hit] at HNX
        have hs3 := hs2.call ((Below.refl _ w2).alloc (Nat.le_refl _) (.map #[] 0))
        have hm3 := map_new w2
        have hp3 := hp2.alloc (.map #[] 0)
        have b3 := b2.alloc hs2.hB (.map #[] 0)
        have hbm3 := hs2.hB
        have HO := Lib.hid (offer_c B Bp w2.heap.size f F kd ign LA ll lc num _ rn rc cur j (fun _ => none) _ hs3 hm3 hbm3 (by have := HCL.out; omega) hrn)
        have HIT := Lib.hid hit
        clear hsr hbs hit hmk hm2 hp2 b2
        go_wp2_with fail
        refine HM.out.mono ?_
        rintro e w3 ⟨rfl, rfl⟩
        clear HM hw2 cp fp
        go_wp2_with fail
        refine HO.out.mono ?_
        rintro e w4 ⟨rfl, hm4, hg4⟩
        clear HO
        have hs4 := hs3.map hm3 hbm3 hg4
        have c13 := hs4.c13
        have i3 := hs4.own.cell (itc_at HIT.out (j := 3) (v := .int .i64 it.a) rfl)
        have hp4 : Ow 3 1 w4 B (some ⟨gp, 0, none⟩) rn rn (ic (pens.set j pen)) := hp3.grown hg4 (fun b e e2 => by
          have e2 := Option.some.inj e2
          have e := Option.some.inj e
          injection e with e
          exact map_ne hm3 hp3 (by omega))
        have b4 : Below B W w4 := below_gr b3 hg4 hs3.hB hbm3
        have HS4 := Lib.hid hs4
        clear hs3 hs4 hp3 hm3 b3 hs2
        go_wp2
        go_roundw
        case rel => exact ⟨j + 1, w2.heap.size, _, HNX.out.symm, by omega, by go_num, rfl, rfl, HS4.out, hm4, hbm3, hp4, b4⟩
        case measure => simp [intOf]; omega
    · have hge : decide ((j : Int) < (rn : Int)) = false := by simp; omega
      have hge2 : decide (j < rn) = false := by simp; omega
      have hj2 : j = rn := by omega
      clear hst
      go_wp2
      go_end0
      refine ⟨rfl, ?_, hbr⟩
      have hf := HST.out
      rw [hj2, ← HRL.out] at hf
      rw [marksL_fold, ← hf]
      exact hs

end Go.Proofs.YtbjcbcdccekbkaaGreat
