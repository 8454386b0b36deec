/- Walks: the document's Row, Begins. -/
import Derived.Test.YtgcmedkaadagmaaDoorTk
import Derived.Test.YtgcmedkaadagmaaDoorQ1
import Derived.Test.YtgcmedkaadagmaaDoorV10
import Derived.Test.YtgcmedkaadagmaaDoorS6W10
import Derived.Test.YtgcmedkaadagmaaDoorB2
import Derived.Test.YtgcmedkaadagmaaDoorL5
namespace Go.Proofs.YtgcmedkaadagmaaDoor
open Go.RowKit Go.Shelf Go.Maps

theorem has_c (A : Option Addr) (n c : Nat) (xs : List Int) (x : Int) (w : World) (hA : Rd w (lo w.heap.size) A n xs) (hn : n ≤ 1000000) :
  Calls Tryd.prog 21 #[.slice A n c, .int .i64 x] w fun e w' => e = .returned (.bool (decide (x ∈ xs))) ∧ Below w.heap.size w w' := by
 have h1 : S6.Rd w w.heap.size A n xs := by
  refine ⟨hA.1, fun hm => ?_⟩
  obtain ⟨b, o, e, hb, hc⟩ := hA.2 hm
  refine ⟨b, o, e, hb, fun i x hx => ?_⟩
  obtain ⟨cs, rfl, hcc⟩ := hc i x hx
  have := hcc 0 _ rfl
  rw [Nat.mul_one, Nat.add_zero] at this
  exact this
 exact (S6.rhas_c A n c xs x w h1 hn).mono fun e w' h => ⟨h.1, by rw [← h.2]; exact Below.refl _ _⟩
theorem contains_dec (s : List Int) (g : Int) : s.contains g = decide (g ∈ s) := by rw [Bool.eq_iff_iff]; simp
def begP (back : Bool) (rs : List Rul) (gs : List Int) (i : Nat) : Bool := match rs[i]? with | some r => hasD back r && beginsB (rowD back r) gs | none => false
theorem says_begP (back : Bool) (rs : List Rul) (gs : List Int) : saysB back rs gs = bitsOf (begP back rs gs) rs.length := rfl
theorem begP_at {back : Bool} {rs : List Rul} {gs : List Int} {i : Nat} {r : Rul} (h : rs[i]? = some r) : begP back rs gs i = (hasD back r && beginsB (rowD back r) gs) := by unfold begP; rw [h]
theorem begins_len : ∀ {row : List (List Int)} {w : List Int}, beginsB row w = true → row.length ≤ w.length
 | [], _, _ => by simp
 | _ :: _, [], h => by simp [beginsB] at h
 | s :: row, g :: w, h => by
  rw [beginsB, Bool.and_eq_true] at h
  have := begins_len h.2
  simp; omega
theorem begins_step {row : List (List Int)} {gs : List Int} {k : Nat} {s : List Int} {g : Int} (hs : row[k]? = some s) (hg : gs[k]? = some g) : beginsB (row.drop k) (gs.drop k) = (s.contains g && beginsB (row.drop (k + 1)) (gs.drop (k + 1))) := by
 obtain ⟨h1, rfl⟩ := List.getElem?_eq_some_iff.1 hs
 obtain ⟨h2, rfl⟩ := List.getElem?_eq_some_iff.1 hg
 rw [List.drop_eq_getElem_cons h1, List.drop_eq_getElem_cons h2, beginsB]
theorem begins_nil {row : List (List Int)} {gs : List Int} {k : Nat} (h : row.length ≤ k) : beginsB (row.drop k) gs = true := by rw [List.drop_of_length_le h, beginsB]
theorem SmB.row (back : Bool) {rs : List Rul} (h : SmB rs) {r : Rul} (hr : r ∈ rs) : (rowD back r).length ≤ 100 ∧ (∀ s ∈ rowD back r, s.length ≤ 1000) ∧ r.back.length ≤ 100 ∧ r.inn.length + r.ahead.length ≤ 100 := by
 have h1 : ∀ s ∈ rowD back r, s ∈ setsL rs := fun s hs => by
  refine List.mem_flatMap.2 ⟨r, hr, ?_⟩
  unfold rowD at hs
  cases back
  ·exact List.mem_append_right _ hs
  ·exact List.mem_append_left _ hs
 have h3 : r.back.length + (r.inn.length + r.ahead.length) ≤ (setsL rs).length := by
  have := flat_le hr
  first | omega | (simp only [List.length_append] at this; omega)
 have hS := h.s
 refine ⟨?_, fun s hs => h.l s (h1 s hs), by omega, by omega⟩
 unfold rowD
 cases back
 ·simp only [Bool.false_eq_true, if_false, List.length_append]; omega
 ·simp only [if_true]; omega

def RowR (w : World) (r : Rul) (back : Bool) (e : Ending) (w' : World) : Prop := ∃ A n c, e = .returned (.tuple #[.slice A n c, .bool (hasD back r)]) ∧ RdV w' (lo w'.heap.size) A n (rowD back r) ∧ Hd n c ∧ Below w.heap.size w w'
set_option maxRecDepth 100000 in
set_option maxHeartbeats 1000000 in
theorem drow_c (cs : List Value) (r : Rul) (back : Bool) (w : World) (h : ERul w (lo w.heap.size) cs r) (hl : r.inn.length + r.ahead.length ≤ 100) :
  Calls Tryd.prog 53 #[.agg cs.toArray, .bool back] w (RowR w r back) := by
 obtain ⟨A1, n1, c1, A2, n2, c2, A3, n3, c3, A4, n4, c4, A5, n5, c5, rfl, r1, r2, r3, _, _, g1, g2, g3, _, _⟩ := h
 have bx : Below w.heap.size w (w.alloc (.cells #[.slice A1 n1 c1, .slice A2 n2 c2, .slice A3 n3 c3, .slice A4 n4 c4, .slice A5 n5 c5, .int .i64 r.x] 58)) := (Below.refl _ _).alloc (Nat.le_refl _) _
 have kx := Bk.new w 58 #[.slice A1 n1 c1, .slice A2 n2 c2, .slice A3 n3 c3, .slice A4 n4 c4, .slice A5 n5 c5, .int .i64 r.x]
 cases back with
 | true =>
  have HR := Lib.hid (r1.call bx)
  have HG := Lib.hid g1
  have x0 := box_cells kx 0 rfl
  clear r1 r2 r3 kx hl
  go_enter Tryd.func53, Tryd.ntmps53
  go_wp2
  go_ret2
  exact ⟨A1, n1, c1, rfl, HR.out, HG.out, bx⟩
 | false =>
  have l2 : r.inn.length = n2 := r2.len
  have l3 : r.ahead.length = n3 := r3.len
  obtain ⟨cs2, hrow2, hnl2, hnw2⟩ := RowOf.news r2 erow_len
  obtain ⟨cs3, hrow3, hnl3, hnw3⟩ := RowOf.news r3 erow_len
  have HN2 := Lib.hid (And.intro hnl2 (And.intro hnw2 (hrow2.one_cells erow_one)))
  have HN3 := Lib.hid (And.intro hnl3 (And.intro hnw3 (hrow3.one_cells erow_one)))
  have HRW := Lib.hid (hrow2.app hrow3)
  have hb23 : n2 + n3 ≤ 100 := by omega
  have HH : hasD false r = decide (0 < n2) := by unfold hasD; rw [Bool.false_or, l2]
  have x1 := box_cells kx 1 rfl
  have x2 := box_cells kx 2 rfl
  have HX := Lib.hid bx
  have g22 := g2.2
  have HHH := Lib.hid HH
  clear r1 r2 r3 hl l2 l3 hrow2 hrow3 hnl2 hnl3 hnw2 hnw3 g1 HH bx
  go_enter Tryd.func53, Tryd.ntmps53
  go_upto_region 3 with fail
  obtain ⟨g, hg⟩ : ∃ g, w.heap.size = g := ⟨_, rfl⟩
  obtain ⟨w1, hw1⟩ : ∃ w1, w.alloc (.cells #[.slice A1 n1 c1, .slice A2 n2 c2, .slice A3 n3 c3, .slice A4 n4 c4, .slice A5 n5 c5, .int .i64 r.x] 58) = w1 := ⟨_, rfl⟩
  rw [hw1, hg] at x1 x2
  rw [hw1] at HX ⊢
  clear kx hw1
  rw [hg]
  have HS := Lib.hid fun (W : World) (bW : Below w1.heap.size w1 W) => (show W.cell? ⟨g, 1, none⟩ = some (.slice A2 n2 c2) ∧ W.cell? ⟨g, 2, none⟩ = some (.slice A3 n3 c3) from ⟨cell_call x1 bW, cell_call x2 bW⟩)
  have bb := Below.refl w1.heap.size w1
  refine wp_region_held_drew (S := fun w' => w'.cell? ⟨g, 1, none⟩ = some (.slice A2 n2 c2) ∧ w'.cell? ⟨g, 2, none⟩ = some (.slice A3 n3 c3)) (by kernel_rfl) ?_ (fun hHeld => ?_)
  ·exact HS.out _ (below_drewN bb 1)
  replace bb := below_drewN bb 1
  change Below _ _ w1.drew at bb
  generalize hw0 : w1.drew = W0 at hHeld bb ⊢
  clear hw0
  refine tkB 1 (v := ?_) (by assumption) ?_ ?_
  rotate_left 1
  ·intro w hSw; (try dsimp only at hSw); go_simp; try with_reducible rfl
  refine tkB 2 (v := ?_) (by assumption) ?_ ?_
  rotate_left 1
  ·intro w hSw; (try dsimp only at hSw); go_simp; try with_reducible rfl
  refine tkB 4 (v := ?_) (by assumption) ?_ ?_
  rotate_left 1
  ·intro w hSw; (try dsimp only at hSw); go_simp; try with_reducible rfl
  refine tkB 5 (v := ?_) (by assumption) ?_ ?_
  rotate_left 1
  ·intro w hSw; (try dsimp only at hSw); go_simp; try with_reducible rfl
  refine tkB 7 (v := ?_) (by assumption) ?_ ?_
  rotate_left 1
  ·intro w hSw; (try dsimp only at hSw); go_simp; try with_reducible rfl
  refine tkB 8 (v := ?_) (by assumption) ?_ ?_
  rotate_left 1
  ·intro w hSw; (try dsimp only at hSw); go_simp; try with_reducible rfl
  refine tkB 9 (v := ?_) (by assumption) ?_ ?_
  rotate_left 1
  ·intro w hSw; (try dsimp only at hSw); go_simp; try with_reducible rfl
  refine tkB 10 (v := ?_) (by assumption) ?_ ?_
  rotate_left 1
  ·intro w hSw; (try dsimp only at hSw); go_simp; try with_reducible rfl
  refine wpAnyH_ready (rs := [0]) (by kernel_rfl) (by simp) ?_
  refine AllReadyH.cons (by simp only [List.getElem?_toArray]; rfl) (fun K hK => ?_) AllReadyH.nil
  refine wanted_pos (by kernel_rfl) ?_
  go_simp
  clear hHeld
  refine hK.out _ _ ?_ (fun hHeld => ?_)
  ·exact HS.out _ (below_lit _ _ bb _)
  clear hK K
  try conv => arg 8; simp only [Act.put, List.setIfInBounds_toArray, List.set_cons_zero, List.set_cons_succ]
  have er := Ow.empty 23 1 W0 w1.heap.size bb.size
  replace bb := below_lit _ _ bb (.cells #[] 23)
  generalize W0.alloc (.cells #[] 23) = W1 at *
  refine wpAnyH_ready (rs := [3]) (by kernel_rfl) (by simp) ?_
  refine AllReadyH.cons (by simp only [List.getElem?_toArray]; rfl) (fun K hK => ?_) AllReadyH.nil
  clear hHeld
  refine appStep elt_row (by kernel_rfl) _ _ rfl W1 w1.heap.size _ _ _ [] _ _ _ cs2.flatten (by rfl) (by rfl) er HN2.out.1 (news_call HN2.out.2.1 (below_call HX.out bb)) HN2.out.2.2 (by omega) bb.size ?_
  intro Ar cr2 W2 fr hg2 hb hat
  rw [List.nil_append, Nat.zero_add] at fr
  rw [Nat.zero_add]
  refine hK.out _ _ ?_ (fun hHeld => ?_)
  ·exact HS.out _ (bb.trans hb)
  clear hK K
  try conv => arg 8; simp only [Act.put, List.setIfInBounds_toArray, List.set_cons_zero, List.set_cons_succ]
  replace bb := bb.trans hb
  clear er hg2 hb hat
  refine wpAnyH_ready (rs := [6]) (by kernel_rfl) (by simp) ?_
  refine AllReadyH.cons (by simp only [List.getElem?_toArray]; rfl) (fun K hK => ?_) AllReadyH.nil
  clear hHeld
  refine appStep elt_row (by kernel_rfl) _ _ rfl W2 w1.heap.size _ _ _ cs2.flatten _ _ _ cs3.flatten (by rfl) (by rfl) fr HN3.out.1 (news_call HN3.out.2.1 (below_call HX.out bb)) HN3.out.2.2 (by omega) bb.size ?_
  intro As cs4 W3 fs hg2 hb hat
  refine hK.out _ _ ?_ (fun hHeld => ?_)
  ·exact HS.out _ (bb.trans hb)
  clear hK K
  try conv => arg 8; simp only [Act.put, List.setIfInBounds_toArray, List.set_cons_zero, List.set_cons_succ]
  replace bb := bb.trans hb
  clear fr hg2 hb hat
  refine tkB 11 (v := ?_) (by assumption) ?_ ?_
  rotate_left 1
  ·intro w hSw; (try dsimp only at hSw); go_simp; try with_reducible rfl
  refine tkB 12 (v := ?_) (by assumption) ?_ ?_
  rotate_left 1
  ·intro w hSw; (try dsimp only at hSw); go_simp; try with_reducible rfl
  refine wpAnyH_done (by kernel_rfl) ?_ _
  have hbw := below_call HX.out bb
  have hcap := fs.cap
  have fs2 : Ow 23 1 W3 w1.heap.size As (n2 + n3) cs4 (cs2 ++ cs3).flatten := by rw [List.flatten_append]; exact fs
  have hR := fs2.row (HRW.out.mono fun cs x h => h.mono (lo_mono hbw.size) (kept_below hbw)) (by omega)
  clear fs fs2 bb HS HN2 HN3 HRW HX
  go_wp2
  go_ret2
  exact ⟨As, n2 + n3, cs4, by rw [HHH.out]; rfl, hR, hcap, hg ▸ hbw⟩


set_option maxRecDepth 100000 in
set_option maxHeartbeats 1000000 in
theorem dbegins_c (cs : List Value) (lk : Lk) (back : Bool) (A : Option Addr) (n c : Nat) (gs : List Int) (w : World) (h : ELk w (lo w.heap.size) cs lk) (hg : Rd w (lo w.heap.size) A n gs) (hgn : Hd n c) (hs : SmB lk.rules) :
  Calls Tryd.prog 31 #[.agg cs.toArray, .bool back, .slice A n c] w fun e w' => e = .returned (.int .u64 (saysB back lk.rules gs : Int)) ∧ Below w.heap.size w w' := by
 obtain ⟨qa, qn, qc, rfl, hR0, hq⟩ := h
 have bx : Below w.heap.size w (w.alloc (.cells #[.int .i64 lk.kind, .bool lk.ign, .slice qa qn qc] 55)) := (Below.refl _ _).alloc (Nat.le_refl _) _
 have kx := Bk.new w 55 #[.int .i64 lk.kind, .bool lk.ign, .slice qa qn qc]
 obtain ⟨rs, hrs⟩ : ∃ rs, lk.rules = rs := ⟨_, rfl⟩
 rw [hrs] at hR0 hs ⊢
 have LR := Lib.hid hR0.len
 have qn64 : qn ≤ 64 := by have := hs.n; have := hR0.len; omega
 have HR := Lib.hid hR0
 have HG := Lib.hid hg
 have HLG := Lib.hid hg.len
 have HSM := Lib.hid hs
 have hq1 := hq.1
 have hq2 := hq.2
 have hgn1 := hgn.1
 have hgn2 := hgn.2
 obtain ⟨p, hp⟩ : ∃ p : Nat → Bool, begP back rs gs = p := ⟨_, rfl⟩
 have hsy : saysB back rs gs = bitsOf p qn := by rw [says_begP, hp, hR0.len]
 rw [hsy]
 have HP := Lib.hid hp
 clear hR0 hg hs hq hgn hrs hsy hp
 go_enter Tryd.func31, Tryd.ntmps31
 go_upto_region 3 with fail
 obtain ⟨gl, hgl⟩ : ∃ g, w.heap.size = g := ⟨_, rfl⟩
 have HGL := Lib.hid hgl
 obtain ⟨w1, hw1⟩ : ∃ w1, w.alloc (.cells #[.int .i64 lk.kind, .bool lk.ign, .slice qa qn qc] 55) = w1 := ⟨_, rfl⟩
 rw [hw1] at bx ⊢
 rw [hw1, hgl] at kx
 rw [hgl]
 clear hw1 hgl
 go_loopw [7, 8] (fun ov iv wr => ∃ i : Nat, i ≤ qn ∧ iv = .int .i64 i ∧ ov = .int .u64 (bitsOf p i : Int) ∧ Below w.heap.size w wr ∧ Bk wr gl 55 #[.int .i64 lk.kind, .bool lk.ign, .slice qa qn qc]) (fun _ iv _ => qn - (intOf iv).toNat)
 case atStart => exact ⟨0, by omega, rfl, rfl, bx, kx⟩
 case round =>
  clear bx kx
  obtain ⟨i, hi, rfl, rfl, bw, kw⟩ := hrel
  have x2 := box_cells kw 2 rfl
  by_cases hlt : i < qn
  ·obtain ⟨r, hr⟩ := at_some rs i (by rw [LR.out]; omega)
   obtain ⟨bf, of', hfa, hbf, hcc⟩ := HR.out.pos (show 0 < qn by omega)
   obtain ⟨cs, hE0, hcc2⟩ := hcc i r hr
   have hE := hE0.mono (lo_mono bw.size) (kept_below bw)
   have hsm := HSM.out.row back (List.mem_of_getElem? hr)
   have hpi : p i = (hasD back r && beginsB (rowD back r) gs) := by rw [← HP.out]; exact begP_at hr
   have HE := Lib.hid hE
   obtain ⟨A1, n1, c1, A2, n2, c2, A3, n3, c3, A4, n4, c4, A5, n5, c5, rfl, _⟩ := hE0
   have z0 := (bw.cell (p := ⟨bf, of' + i * 6 + 0, none⟩) hbf).trans (hcc2 0 _ rfl)
   have z1 := (bw.cell (p := ⟨bf, of' + i * 6 + 1, none⟩) hbf).trans (hcc2 1 _ rfl)
   have z2 := (bw.cell (p := ⟨bf, of' + i * 6 + 2, none⟩) hbf).trans (hcc2 2 _ rfl)
   have z3 := (bw.cell (p := ⟨bf, of' + i * 6 + 3, none⟩) hbf).trans (hcc2 3 _ rfl)
   have z4 := (bw.cell (p := ⟨bf, of' + i * 6 + 4, none⟩) hbf).trans (hcc2 4 _ rfl)
   have z5 := (bw.cell (p := ⟨bf, of' + i * 6 + 5, none⟩) hbf).trans (hcc2 5 _ rfl)
   rw [Nat.add_zero] at z0
   have HRO := Lib.hid (drow_c _ r back wr hE hsm.2.2.2)
   have HSR := Lib.hid hsm
   have iz : (0 : Int) ≤ (i : Int) := by omega
   have inn : (i : Int) < (qn : Int) := by omega
   have in64 : (i : Int) < 64 := by omega
   have i64 : i < 64 := by omega
   subst hfa
   have HST := Lib.hid (bitsOf_step p i)
   have HPI := Lib.hid hpi
   have HBL := Lib.hid (bitsOf_lt p (i + 1))
   clear hcc hcc2 hr hE hsm hpi HE hbf
   go_wp2_with fail
   refine HRO.out.mono ?_
   rintro e w2 ⟨R, rn, rc, rfl, hR2, hR2h, hb2⟩
   have bw2 := below_call bw hb2
   have kw2 := kw.below hb2 kw.lt
   have lrn : (rowD back r).length = rn := hR2.len
   have hrc1 := hR2h.1
   have hrc2 := hR2h.2
   have hrn : rn ≤ 100 := by have := HSR.out.1; omega
   obtain ⟨row, hrow⟩ : ∃ row, rowD back r = row := ⟨_, rfl⟩
   have HRB := Lib.hid HSR.out.2.1
   rw [hrow] at HPI lrn hR2 HRB
   have LRW := Lib.hid lrn
   clear HRO z0 z1 z2 z3 z4 z5 x2 hb2 bw kw hrow lrn HSR hR2h
   cases hh : hasD back r with
   | false =>
    rw [hh] at HPI
    have HPI2 := Lib.hid (show bitsOf p (i + 1) = bitsOf p i by rw [HST.out, HPI.out]; simp)
    clear HPI HST HBL hR2 HRB hh
    go_upto_region 8 with fail
    go_loopw [11, 12] (fun fv kv wr => fv = .bool false ∧ kv = .int .i64 0 ∧ wr = w2) (fun _ _ _ => 0)
    case atStart => exact ⟨rfl, rfl, rfl⟩
    case round =>
     obtain ⟨rfl, rfl, rfl⟩ := hrel
     go_wp2
     go_roundw
     case rel => exact ⟨i + 1, by omega, by go_num, by rw [HPI2.out], bw2, kw2⟩
     case measure => simp [intOf]; omega
   | true =>
    rw [hh, Bool.true_and] at HPI
    clear hh
    by_cases hrn2 : rn ≤ n
    ·have t1 : (rn : Int) ≤ (n : Int) := by omega
     have HR2 := Lib.hid hR2
     clear hR2
     go_upto_region 8 with fail
     obtain ⟨wo, hwo⟩ : ∃ wo : World, wo = w2 := ⟨_, rfl⟩
     go_loopw [11, 12] (fun fv kv wr => ∃ (b : Bool) (k : Nat), k ≤ rn ∧ kv = .int .i64 k ∧ fv = .bool b ∧ beginsB row gs = (b && beginsB (row.drop k) (gs.drop k)) ∧ Below w2.heap.size w2 wr) (fun _ kv _ => rn - (intOf kv).toNat)
     case atStart => exact ⟨true, 0, by omega, rfl, rfl, by simp, Below.refl _ _⟩
     case round =>
      obtain ⟨b, k, hk, rfl, rfl, hbk, bz⟩ := hrel
      have HBK := Lib.hid hbk
      clear hbk
      have bw3 := below_call bw2 bz
      have kw3 := kw2.below bz kw2.lt
      cases b with
      | true =>
       by_cases hkl : k < rn
       ·obtain ⟨s, hs⟩ := at_some row k (by rw [LRW.out]; omega)
        obtain ⟨gg, hgg⟩ := at_some gs k (by rw [HLG.out]; omega)
        obtain ⟨b1, o1, rfl, hb1, hc1⟩ := HR2.out.pos (show 0 < rn by omega)
        obtain ⟨cs1, ⟨Rk, rkn, rkc, rfl, hRk, hRkh⟩, hcc1⟩ := hc1 k s hs
        obtain ⟨b3, o3, rfl, hb3, hc3⟩ := HG.out.pos (show 0 < n by omega)
        obtain ⟨cs3, rfl, hcc3⟩ := hc3 k gg hgg
        have y1 := (bz.cell (p := ⟨b1, o1 + k * 1 + 0, none⟩) hb1).trans (hcc1 0 _ rfl)
        have y3 := (bw3.cell (p := ⟨b3, o3 + k * 1 + 0, none⟩) hb3).trans (hcc3 0 _ rfl)
        rw [Nat.mul_one, Nat.add_zero] at y1 y3
        have hRkw := hRk.call bz
        have hrkn : rkn ≤ 1000000 := by have h1 := HRB.out s (List.mem_of_getElem? hs); have h2 := hRk.len; omega
        have HHA := Lib.hid fun (W : World) (bW : Below wr.heap.size wr W) => has_c Rk rkn rkc s gg W (hRkw.call bW) hrkn
        have HBK2 := Lib.hid (show beginsB row gs = (decide (gg ∈ s) && beginsB (row.drop (k + 1)) (gs.drop (k + 1))) by rw [HBK.out, Bool.true_and, begins_step hs hgg, contains_dec])
        have kz : (0 : Int) ≤ (k : Int) := by omega
        have kn : (k : Int) < (rn : Int) := by omega
        have kg : (k : Int) < (n : Int) := by omega
        clear hs hgg hc1 hc3 hcc1 hcc3 hRk hRkw hRkh HBK
        go_upto_region 10 with fail
        have HS := Lib.hid fun (W : World) (bW : Below wr.heap.size wr W) => (show W.cell? ⟨b1, o1 + k, none⟩ = some (.slice Rk rkn rkc) ∧ W.cell? ⟨b3, o3 + k, none⟩ = some (.int .i64 gg) from ⟨cell_call y1 bW, cell_call y3 bW⟩)
        have bb := Below.refl wr.heap.size wr
        refine wp_region_held_drew (S := fun w' => w'.cell? ⟨b1, o1 + k, none⟩ = some (.slice Rk rkn rkc) ∧ w'.cell? ⟨b3, o3 + k, none⟩ = some (.int .i64 gg)) (by kernel_rfl) ?_ (fun hHeld => ?_)
        ·exact HS.out _ (below_drewN bb 1)
        replace bb := below_drewN bb 1
        change Below _ _ wr.drew at bb
        generalize hw0 : wr.drew = W0 at hHeld bb ⊢
        clear hw0
        refine tkB 0 (v := ?_) (by assumption) ?_ ?_
        rotate_left 1
        ·intro w hSw; (try dsimp only at hSw); go_simp; try with_reducible rfl
        refine tkB 1 (v := ?_) (by assumption) ?_ ?_
        rotate_left 1
        ·intro w hSw; (try dsimp only at hSw); go_simp; try with_reducible rfl
        refine tkB 2 (v := ?_) (by assumption) ?_ ?_
        rotate_left 1
        ·intro w hSw; (try dsimp only at hSw); go_simp; try with_reducible rfl
        refine tkB 3 (v := ?_) (by assumption) ?_ ?_
        rotate_left 1
        ·intro w hSw; (try dsimp only at hSw); go_simp; try with_reducible rfl
        refine tkB 4 (v := ?_) (by assumption) ?_ ?_
        rotate_left 1
        ·intro w hSw; (try dsimp only at hSw); go_simp; try with_reducible rfl
        refine tkB 5 (v := ?_) (by assumption) ?_ ?_
        rotate_left 1
        ·intro w hSw; (try dsimp only at hSw); go_simp; try with_reducible rfl
        refine tkB 6 (v := ?_) (by assumption) ?_ ?_
        rotate_left 1
        ·intro w hSw; (try dsimp only at hSw); go_simp; try with_reducible rfl
        refine tkB 7 (v := ?_) (by assumption) ?_ ?_
        rotate_left 1
        ·intro w hSw; (try dsimp only at hSw); go_simp; try with_reducible rfl
        refine wpAnyH_ready (rs := [8]) (by kernel_rfl) (by simp) ?_
        refine AllReadyH.cons (by simp only [List.getElem?_toArray]; rfl) (fun K hK => ?_) AllReadyH.nil
        refine wanted_pos (by kernel_rfl) ?_
        go_simp
        clear hHeld
        go_at_call 21
        (with_reducible refine (HHA.out _ bb).mono ?_)
        rintro e W1 ⟨rfl, bn⟩
        go_wp2_with fail
        refine hK.out _ _ ?_ (fun hHeld => ?_)
        ·exact HS.out _ (bb.trans (bn.mono bb.size))
        clear hK K
        try conv => arg 8; simp only [Act.put, List.setIfInBounds_toArray, List.set_cons_zero, List.set_cons_succ]
        replace bb := bb.trans (bn.mono bb.size)
        clear bn
        refine tkB 9 (v := ?_) (by assumption) ?_ ?_
        rotate_left 1
        ·intro w hSw; (try dsimp only at hSw); go_simp; try with_reducible rfl
        refine wpAnyH_done (by kernel_rfl) ?_ _
        go_wp2_with fail

        go_roundw
        case rel => exact ⟨decide (gg ∈ s), k + 1, by omega, by go_num, rfl, HBK2.out, bz.trans (bb.mono bz.size)⟩
        case measure => simp [intOf]; omega
       ·have hke : k = rn := by omega
        subst hke
        have kn : ¬ ((k : Int) < (k : Int)) := by omega
        have HPI2 := Lib.hid (show bitsOf p (i + 1) = bitsOf p i + 2 ^ i by rw [HST.out, HPI.out, HBK.out, begins_nil (by rw [LRW.out]; exact Nat.le_refl _)]; simp)
        have hlt64 : bitsOf p i + 2 ^ i < 18446744073709551616 := by rw [← HPI2.out]; exact Nat.lt_of_lt_of_le HBL.out (Nat.pow_le_pow_right (by omega) (by omega : i + 1 ≤ 64))
        obtain ⟨x, hx⟩ : ∃ x, bitsOf p i = x := ⟨_, rfl⟩
        have hsh := shl_one i64
        have hsh' := shl_one' i64
        obtain ⟨y, hy⟩ : ∃ y, 2 ^ i = y := ⟨_, rfl⟩
        rw [hy] at hsh hsh'
        rw [hx, hy] at HPI2 hlt64
        rw [hx]
        clear HBK HPI HST HBL hx hy
        have hxy : (x : Int) + (y : Int) < 18446744073709551616 := by omega
        have km : (i : Int) % 18446744073709551616 = (i : Int) := by omega
        go_wp2
        go_roundw
        case rel => exact ⟨i + 1, by omega, by go_num, by rw [HPI2.out]; first | rfl | (congr 1; omega), bw3, kw3⟩
        case measure => simp [intOf]; omega
      | false =>
       have HPI2 := Lib.hid (show bitsOf p (i + 1) = bitsOf p i by rw [HST.out, HPI.out, HBK.out]; simp)
       clear HBK HPI HST HBL
       go_wp2
       go_roundw
       case rel => exact ⟨i + 1, by omega, by go_num, by rw [HPI2.out], bw3, kw3⟩
       case measure => simp [intOf]; omega
    ·have t1 : ¬ ((rn : Int) ≤ (n : Int)) := by omega
     have t2 : decide ((rn : Int) ≤ (n : Int)) = false := by simp; omega
     have t3 : decide (rn ≤ n) = false := by simp; omega
     have HPI2 := Lib.hid (show bitsOf p (i + 1) = bitsOf p i by
      rw [HST.out, HPI.out]
      cases hbg : beginsB row gs with
      | false => simp
      | true => have := begins_len hbg; rw [LRW.out, HLG.out] at this; omega)
     clear HPI HST HBL hR2 HRB
     go_upto_region 8 with fail
     go_loopw [11, 12] (fun fv kv wr => fv = .bool false ∧ kv = .int .i64 0 ∧ wr = w2) (fun _ _ _ => 0)
     case atStart => exact ⟨rfl, rfl, rfl⟩
     case round =>
      obtain ⟨rfl, rfl, rfl⟩ := hrel
      go_wp2
      go_roundw
      case rel => exact ⟨i + 1, by omega, by go_num, by rw [HPI2.out], bw2, kw2⟩
      case measure => simp [intOf]; omega
  ·have hie : i = qn := by omega
   subst hie
   have inn : ¬ ((i : Int) < (i : Int)) := by omega
   go_wp2
   go_ret
   exact ⟨rfl, bw⟩


end Go.Proofs.YtgcmedkaadagmaaDoor
