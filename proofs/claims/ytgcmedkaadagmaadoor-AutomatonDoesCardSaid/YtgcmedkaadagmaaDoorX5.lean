/- Walks: the document's states. -/
import Derived.Test.YtgcmedkaadagmaaDoorTk
import Derived.Test.YtgcmedkaadagmaaDoorX2
import Derived.Test.YtgcmedkaadagmaaDoorX4
import Derived.Test.YtgcmedkaadagmaaDoorXP
namespace Go.Proofs.YtgcmedkaadagmaaDoor
open Go.RowKit Go.Shelf Go.Maps

theorem elk_mono {w w' : World} {S S' : Nat → Prop} {cs : List Value} {l : Lk} (h : ELk w S cs l) (hS : ∀ b, S b → S' b) (hk : Kept S w w') : ELk w' S' cs l := by
 obtain ⟨a, m, c, e, h1, h2⟩ := h
 exact ⟨a, m, c, e, h1.mono hS hk, h2⟩
/-- A literal of one element. -/
theorem Ow.new1 (e k : Nat) (w : World) (base : Nat) (cs : List Value) (hl : cs.length = k) (hb : base ≤ w.heap.size) : Ow e k (w.alloc (.cells cs.toArray e)) base (some ⟨w.heap.size, 0, none⟩) 1 1 cs :=
 ⟨by omega, .inr ⟨w.heap.size, 1, cs.toArray, rfl, hb, heap_alloc_new w _, Nat.le_refl _, by unfold maxLen; omega, by simp [hl], by show cs.take (1 * k) = cs; rw [Nat.one_mul, ← hl, List.take_length]⟩⟩
theorem DSt.at {w W : World} {L : Nat} {LC : Array Value} {s : DSv} (h : DSt w W L LC s) {i : Nat} {q : Nat × List Nat} (hq : s.met[i]? = some q) : ∃ ga A n c, s.Aa = some ⟨ga, 0, none⟩ ∧ W.cell? ⟨ga, i * 2, none⟩ = some (.int .i64 (q.1 : Int)) ∧ W.cell? ⟨ga, i * 2 + 1, none⟩ = some (.slice A n c) ∧ ESt W (lo W.heap.size) [.int .i64 (q.1 : Int), .slice A n c] q := by
 obtain ⟨cs, h1, ⟨A, n, c, rfl, h3, h4⟩, _⟩ := h.ma.rw.at hq
 have hi := (List.getElem?_eq_some_iff.1 hq).1
 have hn := h.na
 obtain ⟨ga, e, _, _⟩ := h.ma.ow.form (by omega)
 have hc := h.ma.ow
 rw [e] at hc
 have y0 := hc.cell (flat_at h.ma.rw.2.1 h1 (j := 0) rfl)
 have y1 := hc.cell (flat_at h.ma.rw.2.1 h1 (j := 1) rfl)
 exact ⟨ga, A, n, c, e, y0, y1, A, n, c, rfl, h3.mono (fun b hb => (h.ma.dl b hb).2.1) (Kept.refl _ _), h4⟩
theorem DSt.rdS {w W : World} {L : Nat} {LC : Array Value} {s : DSv} (h : DSt w W L LC s) : RdS W (lo W.heap.size) s.Aa s.na s.met := SlE.mono (h.ma.rd em_st) (fun _ hb => hb.2) (Kept.refl _ _) fun _ _ hx => em_st.mono hx (fun _ hb => hb.2) (Kept.refl _ _)
section
variable {α : Type} [DecidableEq α] {nx : α → Nat → Option α} {src : α} {met : List α}
theorem rowG_pre (nx : α → Nat → Option α) (src : α) (met : List α) : ∀ c, ∃ t, (rowL nx src met c).2 = met ++ t
 | 0 => ⟨[], by simp [rowL]⟩
 | c + 1 => by
  obtain ⟨t, h⟩ := rowG_pre nx src met c
  rw [rowL]
  cases nx src c with
  | none => exact ⟨t, h⟩
  | some q =>
   dsimp only
   unfold meetL
   cases (rowL nx src met c).2.idxOf? q with
   | some i => exact ⟨t, h⟩
   | none => exact ⟨t ++ [q], by dsimp only; rw [h, List.append_assoc]⟩
theorem rowG_at {n : Nat} {p : α} (h : met[n]? = some p) (c : Nat) : (rowL nx src met c).2[n]? = some p := by
 obtain ⟨t, e⟩ := rowG_pre nx src met c
 rw [e, List.getElem?_append_left (List.getElem?_eq_some_iff.1 h).1]; exact h
theorem rowG_none {c : Nat} (h : nx src c = none) : rowL nx src met (c + 1) = ((rowL nx src met c).1 ++ [-1], (rowL nx src met c).2) := by
 rw [rowL, h]
theorem rowG_some {c : Nat} {q : α} (h : nx src c = some q) : rowL nx src met (c + 1) = ((rowL nx src met c).1 ++ [((meetL (rowL nx src met c).2 q).1 : Int)], (meetL (rowL nx src met c).2 q).2) := by
 rw [rowL, h]
theorem rowG_ln (nx : α → Nat → Option α) (src : α) (met : List α) : ∀ c, (rowL nx src met c).1.length = c
 | 0 => rfl
 | c + 1 => by
  have h := rowG_ln nx src met c
  rw [rowL]
  cases nx src c with
  | none => simp [h]
  | some q => simp [h]
end
theorem nxD_of {rows : List (List (List Int))} {gs : List Int} {s : Nat × List Nat} {c : Nat} {x : Int} (hx : gs[c]? = some x) : nxD rows gs s c = if (behindD rows s x).2 = [] then none else some (behindD rows s x) := by unfold nxD; rw [getD_of hx]
/-- What the document's states leaves. -/
def StatesR (w : World) (back : Bool) (rs : List Rul) (x : List (List Int) × List (Nat × List Nat)) (e : Ending) (w' : World) : Prop := ∃ tA tn tc eA en ec, e = .returned (.tuple #[.slice tA tn tc, .slice eA en ec, .bool true]) ∧ RdV w' (fun b => w.heap.size ≤ b ∧ b < w'.heap.size) tA tn x.1 ∧ RdU w' (fun b => w.heap.size ≤ b ∧ b < w'.heap.size) eA en (x.2.map (endsD (rowsD back rs))) ∧ Hd tn tc ∧ Hd en ec ∧ Below w.heap.size w w'
set_option maxRecDepth 100000 in
set_option maxHeartbeats 4000000 in
theorem dstates_c (cs : List Value) (lk : Lk) (back : Bool) (gA : Option Addr) (gn gc : Nat) (gs : List Int) (x : List (List Int) × List (Nat × List Nat)) (w : World) (h : ELk w (lo w.heap.size) cs lk) (hs : SmB lk.rules) (hgl : Rd w (lo w.heap.size) gA gn gs) (hgh : Hd gn gc) (hgn : gn ≤ 65536) (hx : allL (nxD (rowsD back lk.rules) gs) gn (firstD back lk.rules) = some x) :
  Calls Tryd.prog 50 #[.agg cs.toArray, .bool back, .slice gA gn gc] w (StatesR w back lk.rules x) := by
 obtain ⟨qa, qn, qc, rfl, hR0, hq⟩ := h
 obtain ⟨rs, hrs⟩ : ∃ rs, lk.rules = rs := ⟨_, rfl⟩
 have HEL0 := Lib.hid (show ELk w (lo w.heap.size) [.int .i64 lk.kind, .bool lk.ign, .slice qa qn qc] lk from ⟨qa, qn, qc, rfl, hR0, hq⟩)
 rw [hrs] at hs hx ⊢
 have HRS := Lib.hid hrs
 have HSM := Lib.hid hs
 have HGL := Lib.hid hgl
 have HGN := Lib.hid hgl.len
 have HX := Lib.hid hx
 have hgh1 := hgh.1
 have hgh2 := hgh.2
 have b1 : Below w.heap.size w (w.alloc (.cells #[.int .i64 lk.kind, .bool lk.ign, .slice qa qn qc] 55)) := below_lit _ _ (Below.refl _ _) _
 have k1 := Bk.new w 55 #[.int .i64 lk.kind, .bool lk.ign, .slice qa qn qc]
 have HF := Lib.hid (dFirst_c _ lk back (w.alloc (.cells #[.int .i64 lk.kind, .bool lk.ign, .slice qa qn qc] 55)) (elk_mono HEL0.out (lo_mono b1.size) (kept_below b1)) (by rw [hrs]; exact hs))
 rw [hrs] at HF
 have x0 := box_cells k1 0 rfl
 have x1 := box_cells k1 1 rfl
 have x2 := box_cells k1 2 rfl
 clear hR0 hq hrs hs hgl hgh hx
 go_enter Tryd.func50, Tryd.ntmps50
 go_wp2_with fail
 refine HF.out.mono ?_
 rintro e w2 ⟨A, n, c, rfl, hrd, hhd, bn⟩
 obtain ⟨g, hg⟩ : ∃ g, w.heap.size = g := ⟨_, rfl⟩
 have HG := Lib.hid hg
 obtain ⟨w1, hw1⟩ : ∃ w1, w.alloc (.cells #[.int .i64 lk.kind, .bool lk.ign, .slice qa qn qc] 55) = w1 := ⟨_, rfl⟩
 have hg1 : w1.heap.size = g + 1 := by rw [← hw1, World.size_alloc, hg]
 rw [hw1] at b1 k1 bn hrd
 rw [hg] at k1 ⊢
 clear HF x0 x1 x2 hg hw1
 have k2 := k1.below bn k1.lt
 have b2 := below_call b1 bn
 obtain ⟨p0, hp0⟩ : ∃ p, firstD back rs = p := ⟨_, rfl⟩
 have HP0 := Lib.hid hp0
 rw [hp0] at hrd HX ⊢
 have HGD0 := Lib.hid (show GoodS back rs p0 ∧ p0.1 ≤ 100 by rw [← hp0]; exact ⟨firstD_good back rs, by unfold firstD; exact Nat.zero_le _⟩)
 clear hp0
 go_upto_region 5 with fail
 have hst0 : DSt w (((w2.alloc (.cells #[.int .i64 (p0.1 : Int), .slice A n c] 183)).alloc (.cells #[] 23)).alloc (.cells #[] 50)) g #[.int .i64 lk.kind, .bool lk.ign, .slice qa qn qc] ⟨fun b => w1.heap.size ≤ b ∧ b < w2.heap.size, some ⟨w2.heap.size, 0, none⟩, 1, 1, [[.int .i64 (p0.1 : Int), .slice A n c]], [p0], fun _ => False, some ⟨w2.heap.size + 1, 0, none⟩, 0, 0, [], [], some ⟨w2.heap.size + 1 + 1, 0, none⟩, 0, 0, [], none, 0, 0, []⟩ := by
  have bl1 := below_lit w2 w2 (Below.refl _ _) (.cells #[.int .i64 (p0.1 : Int), .slice A n c] 183)
  have bl2 := below_lit w2 _ bl1 (.cells #[] 23)
  have bl3 := below_lit w2 _ bl2 (.cells #[] 50)
  have sw := b2.size
  have sg := HG.out
  have hmk : MkG 183 2 ESt w (w2.alloc (.cells #[.int .i64 (p0.1 : Int), .slice A n c] 183)) (fun b => w1.heap.size ≤ b ∧ b < w2.heap.size) (some ⟨w2.heap.size, 0, none⟩) 1 1 [[.int .i64 (p0.1 : Int), .slice A n c]] [p0] := by
   refine ⟨?_, RowOf.one (show ESt _ _ _ p0 from ⟨A, n, c, rfl, hrd.mono (fun b hb => hb) (fun b hb => bl1.block b hb.2), hhd⟩) rfl, fun b hb => ⟨by omega, by rw [World.size_alloc]; omega, by intro e; injection e with e; dsimp only at e; omega⟩, below_call b2 bl1⟩
   exact Ow.new1 183 2 w2 w.heap.size [.int .i64 (p0.1 : Int), .slice A n c] rfl sw
  have hmr := Ow.empty 23 1 (w2.alloc (.cells #[.int .i64 (p0.1 : Int), .slice A n c] 183)) w.heap.size (by rw [World.size_alloc]; omega)
  have hme := Ow.empty 50 1 ((w2.alloc (.cells #[.int .i64 (p0.1 : Int), .slice A n c] 183)).alloc (.cells #[] 23)) w.heap.size (by rw [World.size_alloc, World.size_alloc]; omega)
  rw [World.size_alloc] at hmr
  simp only [World.size_alloc] at hme
  have hmr2 : MkG 23 1 ERow w ((w2.alloc (.cells #[.int .i64 (p0.1 : Int), .slice A n c] 183)).alloc (.cells #[] 23)) (fun _ => False) (some ⟨w2.heap.size + 1, 0, none⟩) 0 0 [] [] := ⟨hmr, RowOf.nil, (fun b h => h.elim), below_call b2 bl2⟩
  have c1 := below_lit ((w2.alloc (.cells #[.int .i64 (p0.1 : Int), .slice A n c] 183))) _ (Below.refl _ _) (.cells #[] 23)
  have c2 := below_lit ((w2.alloc (.cells #[.int .i64 (p0.1 : Int), .slice A n c] 183)).alloc (.cells #[] 23)) _ (Below.refl _ _) (.cells #[] 50)
  refine ⟨(hmk.call em_st c1).call em_st c2, hmr2.call em_row c2, hme, Ow.nil _ _ _ _, fun b hb => ⟨?_, ?_, ?_⟩, (fun b hb => hb.elim), k2.below bl3 k2.lt⟩
  ·intro e; injection e with e; dsimp only at e hb; omega
  ·intro e; injection e with e; dsimp only at e hb; omega
  ·intro e; cases e
 obtain ⟨W5, hW5⟩ : ∃ W5, ((w2.alloc (.cells #[.int .i64 (p0.1 : Int), .slice A n c] 183)).alloc (.cells #[] 23)).alloc (.cells #[] 50) = W5 := ⟨_, rfl⟩
 rw [hW5] at hst0 ⊢
 clear hW5 b1 k1 bn hrd hhd b2 k2 hg1
 go_loopw [9, 10, 11, 12] (fun av rv ev iv wr => ∃ (s : DSv) (i : Nat), av = .slice s.Aa s.na s.ca ∧ rv = .slice s.Ar s.nr s.cr ∧ ev = .slice s.Ae s.ne s.ce ∧ iv = .int .i64 i ∧ DSt w wr g #[.int .i64 lk.kind, .bool lk.ign, .slice qa qn qc] s ∧ statesL (nxD (rowsD back rs) gs) gn (20002 - i) i s.met s.tab = some x ∧ s.tab.length = i ∧ s.ends = (s.met.take i).map (endsD (rowsD back rs)) ∧ s.met.length ≤ 20000 ∧ i ≤ s.met.length ∧ ∀ q ∈ s.met, GoodS back rs q ∧ q.1 ≤ 100) (fun _ _ _ iv _ => 20001 - (intOf iv).toNat)
 case atStart => exact ⟨_, 0, rfl, rfl, rfl, rfl, hst0, HX.out, rfl, rfl, by simp, by simp, fun q hq => by rw [List.mem_singleton] at hq; subst hq; exact HGD0.out⟩
 case round =>
  clear hst0
  obtain ⟨s, i, rfl, rfl, rfl, rfl, hst, hsl, htl, hen, hml, hil, hgd⟩ := hrel
  have HSL := Lib.hid hsl; have HTL := Lib.hid htl; have HEN := Lib.hid hen; have HGD := Lib.hid hgd
  have hnaB : s.na ≤ 20000 := by have := hst.na; omega
  have hnrB : s.nr ≤ 20000 := by have := hst.nr; omega
  have hneB : s.ne ≤ 20000 := by have h1 := hst.ne; rw [hen, List.length_map, List.length_take] at h1; omega
  have HNA := Lib.hid hst.na
  clear hsl hen hgd htl
  by_cases hlt : i < s.met.length
  ·obtain ⟨src, hsrc⟩ := at_some s.met i hlt
   have HSRC := Lib.hid hsrc
   have HGS := Lib.hid (HGD.out src (List.mem_of_getElem? hsrc))
   have hst1 := hst.newX
   have hcap := hst.ma.ow.cap
   have hc1 := hcap.1
   have hc2 := hcap.2
   have iN : (i : Int) < (s.na : Int) := by have := HNA.out; omega
   have iz : (0 : Int) ≤ (i : Int) := by omega
   clear hst hsrc hcap
   go_upto_region 9 with fail
   generalize wr.alloc (.cells #[] 3) = W6 at *
   generalize wr.heap.size = gx at *
   go_loopw [9, 13, 14] (fun av xv cv wr => ∃ (cc : Nat) (Da : Nat → Prop) (Aa : Option Addr) (na ca : Nat) (csa : List (List Value)) (met : List (Nat × List Nat)) (Ax : Option Addr) (nx cx : Nat) (xs : List Int), cc ≤ gn ∧ av = .slice Aa na ca ∧ xv = .slice Ax nx cx ∧ cv = .int .i64 cc ∧ DSt w wr g #[.int .i64 lk.kind, .bool lk.ign, .slice qa qn qc] { s with Da := Da, Aa := Aa, na := na, ca := ca, csa := csa, met := met, Ax := Ax, nx := nx, cx := cx, xs := xs } ∧ xs = (rowL (nxD (rowsD back rs) gs) src s.met cc).1 ∧ met = (rowL (nxD (rowsD back rs) gs) src s.met cc).2 ∧ (∀ q ∈ met, GoodS back rs q ∧ q.1 ≤ 100) ∧ met.length ≤ 20000 + cc) (fun _ _ cv _ => gn - (intOf cv).toNat)
   case atStart => exact ⟨0, s.Da, s.Aa, s.na, s.ca, s.csa, s.met, _, 0, 0, [], by omega, rfl, rfl, rfl, hst1, rfl, rfl, HGD.out, by omega⟩
   case round =>
    clear hst1 HGD
    obtain ⟨cc, Da, Aa, na, ca, csa, met, Ax, nx, cx, xs, hcg, rfl, rfl, rfl, hst, hxs, hme, hgd, hml1⟩ := hrel
    have HXS := Lib.hid hxs; have HME := Lib.hid hme; have HGD := Lib.hid hgd
    have HLN := Lib.hid (rowG_ln (nxD (rowsD back rs) gs) src s.met cc)
    have hmi : met[i]? = some src := by rw [hme]; exact rowG_at HSRC.out cc
    have hil1 := (List.getElem?_eq_some_iff.1 hmi).1
    have hna1 := hst.na
    dsimp only at hna1
    have hnaB1 : na ≤ 100000 := by omega
    have hnxB : nx ≤ 65536 := by have h1 := hst.nx; dsimp only at h1; rw [hxs, rowG_ln] at h1; omega
    have HNA1 := Lib.hid hna1
    clear hna1
    have hws := hst.bl.size
    clear hxs hme hgd hc1 hc2 iN
    have hcap := hst.ma.ow.cap
    have hc1 := hcap.1
    have hc2 := hcap.2
    dsimp only at hc1 hc2
    have iN : (i : Int) < (na : Int) := by have := HNA1.out; omega
    by_cases hlc : cc < gn
    ·obtain ⟨gg, hgg⟩ := at_some gs cc (by rw [HGN.out]; exact hlc)
     obtain ⟨bg, og, hga, hbg, hcg2⟩ := HGL.out.pos (show 0 < gn by omega)
     obtain ⟨cs3, rfl, hcg3⟩ := hcg2 cc gg hgg
     have yg := (hst.bl.cell (p := ⟨bg, og + cc * 1 + 0, none⟩) hbg).trans (hcg3 0 _ rfl)
     rw [Nat.mul_one, Nat.add_zero] at yg
     have HNX := Lib.hid (nxD_of (rows := rowsD back rs) (s := src) hgg)
     obtain ⟨ga, sA, sn, sc, haa, ya, yb, hsE⟩ := hst.at (show ({ s with Da := Da, Aa := Aa, na := na, ca := ca, csa := csa, met := met, Ax := Ax, nx := nx, cx := cx, xs := xs } : DSv).met[i]? = some src from hmi)
     dsimp only at haa
     have x0 := box_cells hst.kL 0 rfl
     have x1 := box_cells hst.kL 1 rfl
     have x2 := box_cells hst.kL 2 rfl
     have hsd := hst.bl
     have HBE := Lib.hid fun (W : World) (bW : Below wr.heap.size wr W) => dBehind_c _ lk back _ src gg W (elk_mono HEL0.out (lo_mono (below_call hsd bW).size) (kept_below (below_call hsd bW))) (by rw [HRS.out]; exact HSM.out) (hsE.call bW) (by rw [HRS.out]; exact HGS.out.1)
     rw [HRS.out] at HBE
     obtain ⟨q, hqe⟩ : ∃ q, behindD (rowsD back rs) src gg = q := ⟨_, rfl⟩
     have HGQ := Lib.hid (show GoodS back rs q by rw [← hqe]; exact behindD_good HGS.out.1 _ (by have := HGS.out.2; omega))
     rw [hqe] at HBE HNX
     have HQE := Lib.hid hqe
     have HST := Lib.hid hst
     have HSTW := Lib.hid hst
     have cz : (0 : Int) ≤ (cc : Int) := by omega
     have cn' : (cc : Int) < (gn : Int) := by omega
     subst haa
     subst hga
     clear hcg2 hcg3 hgg hbg hsE hst hmi hqe hsd hcap
     go_upto_region 11 with fail
     try dsimp only at HSTW HST
     have HS := Lib.hid fun (W : World) (bW : Below wr.heap.size wr W) => (show W.cell? ⟨g, 0, none⟩ = some (.int .i64 lk.kind) ∧ W.cell? ⟨g, 1, none⟩ = some (.bool lk.ign) ∧ W.cell? ⟨g, 2, none⟩ = some (.slice qa qn qc) ∧ W.cell? ⟨ga, i * 2, none⟩ = some (.int .i64 (src.1 : Int)) ∧ W.cell? ⟨ga, i * 2 + 1, none⟩ = some (.slice sA sn sc) ∧ W.cell? ⟨bg, og + cc, none⟩ = some (.int .i64 gg) from ⟨cell_call x0 bW, cell_call x1 bW, cell_call x2 bW, cell_call ya bW, cell_call yb bW, cell_call yg bW⟩)
     have bb := Below.refl wr.heap.size wr
     refine wp_region_held_drew (S := fun w' => w'.cell? ⟨g, 0, none⟩ = some (.int .i64 lk.kind) ∧ w'.cell? ⟨g, 1, none⟩ = some (.bool lk.ign) ∧ w'.cell? ⟨g, 2, none⟩ = some (.slice qa qn qc) ∧ w'.cell? ⟨ga, i * 2, none⟩ = some (.int .i64 (src.1 : Int)) ∧ w'.cell? ⟨ga, i * 2 + 1, none⟩ = some (.slice sA sn sc) ∧ w'.cell? ⟨bg, og + cc, none⟩ = some (.int .i64 gg)) (by kernel_rfl) ?_ (fun hHeld => ?_)
     ·exact HS.out _ (below_drewN bb 1)
     replace bb := below_drewN bb 1
     change Below _ _ wr.drew at bb
     generalize hw0 : wr.drew = W0 at hHeld bb ⊢
     clear hw0
     refine tkB 0 (v := ?_) (by assumption) ?_ ?_
     rotate_left 1
     ·intro w hSw; (try dsimp only at hSw); go_simp; try with_reducible rfl
     refine tkB 1 (v := ?_) (by assumption) ?_ ?_
     rotate_left 1
     ·intro w hSw; (try dsimp only at hSw); go_simp; try with_reducible rfl
     refine tkB 2 (v := ?_) (by assumption) ?_ ?_
     rotate_left 1
     ·intro w hSw; (try dsimp only at hSw); go_simp; try with_reducible rfl
     refine tkB 3 (v := ?_) (by assumption) ?_ ?_
     rotate_left 1
     ·intro w hSw; (try dsimp only at hSw); go_simp; try with_reducible rfl
     refine tkB 4 (v := ?_) (by assumption) ?_ ?_
     rotate_left 1
     ·intro w hSw; (try dsimp only at hSw); go_simp; try with_reducible rfl
     refine tkB 5 (v := ?_) (by assumption) ?_ ?_
     rotate_left 1
     ·intro w hSw; (try dsimp only at hSw); go_simp; try with_reducible rfl
     refine tkB 6 (v := ?_) (by assumption) ?_ ?_
     rotate_left 1
     ·intro w hSw; (try dsimp only at hSw); go_simp; try with_reducible rfl
     refine tkB 7 (v := ?_) (by assumption) ?_ ?_
     rotate_left 1
     ·intro w hSw; (try dsimp only at hSw); go_simp; try with_reducible rfl
     refine tkB 8 (v := ?_) (by assumption) ?_ ?_
     rotate_left 1
     ·intro w hSw; (try dsimp only at hSw); go_simp; try with_reducible rfl
     refine tkB 9 (v := ?_) (by assumption) ?_ ?_
     rotate_left 1
     ·intro w hSw; (try dsimp only at hSw); go_simp; try with_reducible rfl
     refine wpAnyH_ready (rs := [10, 11]) (by kernel_rfl) (by simp) ?_
     refine AllReadyH.cons (by simp only [List.getElem?_toArray]; rfl) (fun K hK => ?_) (AllReadyH.cons (by simp only [List.getElem?_toArray]; rfl) (fun K hK => ?_) AllReadyH.nil)
     ·refine wanted_pos (by kernel_rfl) ?_
      go_simp
      clear hHeld
      go_at_call 76
      (with_reducible refine (HBE.out _ bb).mono ?_)
      rintro e V1 ⟨A, n, c, rfl, hrd, hhd, bn⟩
      go_wp2_with fail
      refine hK.out _ _ ?_ (fun hHeld => ?_)
      ·exact HS.out _ (bb.trans (bn.mono bb.size))
      clear hK K
      try conv => arg 8; simp only [Act.put, List.setIfInBounds_toArray, List.set_cons_zero, List.set_cons_succ]
      have bb1 := bb.trans (bn.mono bb.size)
      refine wpAnyH_ready (rs := [11]) (by kernel_rfl) (by simp) ?_
      refine AllReadyH.cons (by simp only [List.getElem?_toArray]; rfl) (fun K hK => ?_) AllReadyH.nil
      refine wanted_pos (by kernel_rfl) ?_
      go_simp
      clear hHeld
      refine hK.out _ _ ?_ (fun hHeld => ?_)
      ·exact HS.out _ (below_lit _ _ bb1 _)
      clear hK K
      try conv => arg 8; simp only [Act.put, List.setIfInBounds_toArray, List.set_cons_zero, List.set_cons_succ]
      have kN := Bk.new V1 183 #[.int .i64 0, .slice none 0 0]
      have hge : wr.heap.size ≤ V1.heap.size := bb1.size
      have hbs := bb.size
      replace hrd : Rd (V1.alloc (.cells #[.int .i64 0, .slice none 0 0] 183)) (fun b => wr.heap.size ≤ b ∧ b < (V1.alloc (.cells #[.int .i64 0, .slice none 0 0] 183)).heap.size ∧ b ≠ V1.heap.size) A n (gls q.2) := hrd.mono (fun b hb => ⟨by omega, by rw [World.size_alloc]; omega, by omega⟩) (fun b hb => Below.heap_alloc V1 _ b hb.2)
      replace bb := below_lit _ _ bb1 (.cells #[.int .i64 0, .slice none 0 0] 183)
      obtain ⟨VX, hVX⟩ : ∃ VX, V1.alloc (.cells #[.int .i64 0, .slice none 0 0] 183) = VX := ⟨_, rfl⟩
      obtain ⟨gN, hgN⟩ : ∃ gN, V1.heap.size = gN := ⟨_, rfl⟩
      rw [hVX] at kN bb hrd ⊢
      rw [hgN] at kN hge hrd ⊢
      clear hVX hgN bb1 bn hbs HBE
      have y0 := box_cells kN 0 rfl
      have y1 := box_cells kN 1 rfl
      have f0 := kN.frozen 0
      have f1 := kN.frozen 1
      refine wpAnyH_ready (rs := [12]) (by kernel_rfl) (by simp) ?_
      refine AllReadyH.cons (by simp only [List.getElem?_toArray]; rfl) (fun K hK => ?_) AllReadyH.nil
      refine wanted_pos (by kernel_rfl) ?_
      go_simp
      clear hHeld
      refine hK.out _ _ ?_ (fun hHeld => ?_)
      ·exact HS.out _ (store2_below bb hge _ _)
      clear hK K
      try conv => arg 8; simp only [Act.put, List.setIfInBounds_toArray, List.set_cons_zero, List.set_cons_succ]
      refine wpAnyH_done (by kernel_rfl) ?_ _
      have kN2 := store2_bk kN (.int .i64 (q.1 : Int)) (.slice A n c)
      obtain ⟨hfar, hsz⟩ := store2_far VX gN (.int .i64 (q.1 : Int)) (.slice A n c)
      have bV := store2_below (g := gN) bb hge (.int .i64 (q.1 : Int)) (.slice A n c)
      have hRV : Rd (store2 VX gN (.int .i64 (q.1 : Int)) (.slice A n c)) (fun b => wr.heap.size ≤ b ∧ b < (store2 VX gN (.int .i64 (q.1 : Int)) (.slice A n c)).heap.size ∧ b ≠ gN) A n (gls q.2) := hrd.mono (fun b hb => ⟨hb.1, by rw [hsz]; exact hb.2.1, hb.2.2⟩) (fun b hb => hfar b hb.2.2)
      clear hHeld hrd hfar hsz kN y0 y1 f0 f1 HS bb
      obtain ⟨V, hV⟩ : ∃ V, store2 VX gN (.int .i64 (q.1 : Int)) (.slice A n c) = V := ⟨_, rfl⟩
      rw [hV] at kN2 bV hRV
      unfold store2 at hV
      rw [hV]
      clear hV
      have hst2 := HST.out.call bV
      try dsimp only at hst2
      have z0 := box_cells kN2 0 rfl
      have z1 := box_cells kN2 1 rfl
      have hnn : q.2.length = n := by have := hRV.len; rw [gls_len] at this; exact this
      have hn1 := hhd.1
      have hn2 := hhd.2
      have hsw := bV.size
      clear HST x0 x1 x2 ya yb yg
      by_cases hq0 : n = 0
      ·have hqe : q.2 = [] := List.eq_nil_of_length_eq_zero (by omega)
       have HRL := Lib.hid (rowG_none (met := s.met) (show nxD (rowsD back rs) gs src cc = none by rw [HNX.out, if_pos hqe]))
       have t0 : ¬ ((n : Int) > 0) := by omega
       have t1 : decide ((0 : Int) < (n : Int)) = false := by simp; omega
       have t2 : decide (0 < n) = false := by simp; omega
       have hme0 := HME.out
       have HOX := Lib.hid (hst2.mx.alloc (.cells #[.int .i64 (-1)] 3))
       have hsX : w.heap.size ≤ (V.alloc (.cells #[.int .i64 (-1)] 3)).heap.size := by rw [World.size_alloc]; have := hst2.bl.size; omega
       dsimp only at HOX
       have HSX := Lib.hid hst2
       clear hst2
       go_wp2_with (at_builtin; refine appP elt_int rfl _ _ rfl (V.alloc (.cells #[.int .i64 (-1)] 3)) w.heap.size _ _ _ (ic xs) _ 1 1 [.int .i64 (-1)] (by rfl) (by rfl) HOX.out rfl (fun _ => news_new _ _ _ (by omega)) (by simp [Value.oneCell']) (by omega) hsX ?_; intro Ax' cx' W5 ho5 hg5 hb5 hat5)
       have hst5 := HSX.out.pushX (Below.refl _ _) ho5 hg5 hat5
       dsimp only at hst5
       clear ho5 hg5 hb5 hat5 HOX HSX hsX
       go_roundw
       case rel => exact ⟨cc + 1, _, _, na, ca, _, met, Ax', nx + 1, cx', xs ++ [-1], by omega, rfl, rfl, by go_num, hst5, by rw [HRL.out, HXS.out], by rw [HRL.out, HME.out], HGD.out, by omega⟩
       case measure => simp [intOf]; omega

      ·have hqe : q.2 ≠ [] := fun e => hq0 (by rw [← hnn, e]; rfl)
       have HRL := Lib.hid (rowG_some (met := s.met) (show nxD (rowsD back rs) gs src cc = some q by rw [HNX.out, if_neg hqe]))
       have t0 : (0 : Int) < (n : Int) := by omega
       have t1 : decide ((0 : Int) < (n : Int)) = true := by simp; omega
       have HFI := Lib.hid (dfind_c (some ⟨ga, 0, none⟩) na ca met _ q V hst2.rdS hst2.ma.ow.cap (show ESt V (lo V.heap.size) [.int .i64 (q.1 : Int), .slice A n c] q from ⟨A, n, c, rfl, hRV.mono (fun b hb => hb.2.1) (Kept.refl _ _), hhd⟩) (fun p hp => by have h1 := (HGD.out p hp).1.len; have h2 := HSM.out.n; omega) (by have h1 := HGQ.out.len; have h2 := HSM.out.n; omega))
       have HGQ2 := Lib.hid (show GoodS back rs q ∧ q.1 ≤ 100 from ⟨HGQ.out, by have := behindD_met (HGS.out.1) HSM.out (g := gg) (by rw [HQE.out]; exact hqe); rw [HQE.out] at this; exact this⟩)
       try dsimp only at HFI
       have hcap := hst2.ma.ow.cap
       have hc1 := hcap.1
       have hc2 := hcap.2
       dsimp only at hc1 hc2
       have HST := Lib.hid hst2
       clear hst2 hq0 hqe hcap
       rcases findL_cases met q with ⟨j, hj, hfe, hme⟩ | ⟨hfe, hme⟩
       ·rw [hfe] at HFI
        rw [HME.out] at hme
        have HRL2 := Lib.hid (show rowL (nxD (rowsD back rs) gs) src s.met (cc + 1) = ((rowL (nxD (rowsD back rs) gs) src s.met cc).1 ++ [(j : Int)], met) by rw [HRL.out, hme, HME.out])
        have tj : decide ((j : Int) < 0) = false := by simp
        have tj2 : ¬ ((j : Int) < 0) := by omega
        clear HRL hme hfe
        go_wp2_with fail
        refine HFI.out.mono ?_
        rintro e V2 ⟨rfl, bn⟩
        have hst3 := HST.out.call bn
        try dsimp only at hst3
        clear HFI HST z0 z1 kN2 hRV
        have b3 := below_call bV bn
        clear bn bV
        have HOX := Lib.hid (hst3.mx.alloc (.cells #[.int .i64 (j : Int)] 3))
        have hsX : w.heap.size ≤ (V2.alloc (.cells #[.int .i64 (j : Int)] 3)).heap.size := by rw [World.size_alloc]; have := hst3.bl.size; omega
        dsimp only at HOX
        have HSX := Lib.hid hst3
        clear hst3
        go_wp2_with (at_builtin; refine appP elt_int rfl _ _ rfl (V2.alloc (.cells #[.int .i64 (j : Int)] 3)) w.heap.size _ _ _ (ic xs) _ 1 1 [.int .i64 (j : Int)] (by rfl) (by rfl) HOX.out rfl (fun _ => news_new _ _ _ (by omega)) (by simp [Value.oneCell']) (by omega) hsX ?_; intro Ax' cx' W5 ho5 hg5 hb5 hat5)
        have hst5 := HSX.out.pushX (Below.refl _ _) ho5 hg5 hat5
        dsimp only at hst5
        clear ho5 hg5 hb5 hat5 HOX HSX hsX
        go_roundw
        case rel => exact ⟨cc + 1, _, _, na, ca, _, met, Ax', nx + 1, cx', xs ++ [(j : Int)], by omega, rfl, rfl, by go_num, hst5, by rw [HRL2.out, HXS.out], by rw [HRL2.out], HGD.out, by omega⟩
        case measure => simp [intOf]; omega

       ·rw [hfe] at HFI
        rw [HME.out] at hme
        have HRL2 := Lib.hid (show rowL (nxD (rowsD back rs) gs) src s.met (cc + 1) = ((rowL (nxD (rowsD back rs) gs) src s.met cc).1 ++ [(na : Int)], met ++ [q]) by rw [HRL.out, hme, HNA1.out, HME.out])
        clear HRL hme hfe
        go_wp2_with fail
        refine HFI.out.mono ?_
        rintro e V2 ⟨rfl, bn⟩
        have b3 := below_call bV bn
        have kN3 := kN2.below bn kN2.lt
        have z0 := box_cells kN3 0 rfl
        have z1 := box_cells kN3 1 rfl
        have hR3 : Rd V2 (fun b => wr.heap.size ≤ b ∧ b < V2.heap.size) A n (gls q.2) := hRV.mono (fun b hb => ⟨hb.1, Nat.lt_of_lt_of_le hb.2.1 bn.size⟩) (fun b hb => bn.block b hb.2.1)
        have HR3 := Lib.hid hR3
        have HOW := Lib.hid ((HST.out.call bn).ma.ow.alloc (.cells #[.int .i64 (q.1 : Int), .slice A n c] 183))
        have hsB : w.heap.size ≤ (V2.alloc (.cells #[.int .i64 (q.1 : Int), .slice A n c] 183)).heap.size := by rw [World.size_alloc]; have := bn.size; have := hws; omega
        clear HFI HST hRV kN2 bn bV hR3
        dsimp only at HOW
        go_upto_region 18 with (at_builtin; refine appP elt_state rfl _ _ rfl (V2.alloc (.cells #[.int .i64 (q.1 : Int), .slice A n c] 183)) w.heap.size _ _ _ csa.flatten _ 1 1 [.int .i64 (q.1 : Int), .slice A n c] (by rfl) (by rfl) HOW.out rfl (fun _ => news_new _ _ _ (by omega)) (by simp [Value.oneCell']) (by omega) hsB ?_; intro Aa' ca' V4 ho4 hg4 hb4 hat4)
        have hst3 := HSTW.out.pushA b3 (fun b hb => hb) (show ESt V2 (fun b => wr.heap.size ≤ b ∧ b < V2.heap.size) [.int .i64 (q.1 : Int), .slice A n c] q from ⟨A, n, c, rfl, HR3.out, hn1, hn2⟩) ho4 hg4 hb4 hat4
        have b4 : Below w.heap.size w V4 := hst3.bl
        try dsimp only at hst3
        clear ho4 hg4 hb4 hat4 HOW HR3 z0 z1 kN3 hsB
        have HOX := Lib.hid (hst3.mx.alloc (.cells #[.int .i64 (na : Int)] 3))
        have hsX : w.heap.size ≤ (V4.alloc (.cells #[.int .i64 (na : Int)] 3)).heap.size := by rw [World.size_alloc]; have := hst3.bl.size; omega
        dsimp only at HOX
        have HSX := Lib.hid hst3
        clear hst3
        go_wp2_with (at_builtin; refine appP elt_int rfl _ _ rfl (V4.alloc (.cells #[.int .i64 (na : Int)] 3)) w.heap.size _ _ _ (ic xs) _ 1 1 [.int .i64 (na : Int)] (by rfl) (by rfl) HOX.out rfl (fun _ => news_new _ _ _ (by omega)) (by simp [Value.oneCell']) (by omega) hsX ?_; intro Ax' cx' W5 ho5 hg5 hb5 hat5)
        have hst5 := HSX.out.pushX (Below.refl _ _) ho5 hg5 hat5
        dsimp only at hst5
        clear ho5 hg5 hb5 hat5 HOX HSX hsX
        go_roundw
        case rel => exact ⟨cc + 1, _, Aa', na + 1, ca', _, met ++ [q], Ax', nx + 1, cx', xs ++ [(na : Int)], by omega, rfl, rfl, by go_num, hst5, by rw [HRL2.out, HXS.out], by rw [HRL2.out], fun p hp => by
         rcases List.mem_append.1 hp with hp | hp
         ·exact HGD.out p hp
         ·rw [List.mem_singleton] at hp; subst hp; exact HGQ2.out, by rw [List.length_append]; simp; omega⟩
        case measure => simp [intOf]; omega


     ·refine wanted_pos (by kernel_rfl) ?_
      go_simp
      clear hHeld
      refine hK.out _ _ ?_ (fun hHeld => ?_)
      ·exact HS.out _ (below_lit _ _ bb _)
      clear hK K
      try conv => arg 8; simp only [Act.put, List.setIfInBounds_toArray, List.set_cons_zero, List.set_cons_succ]
      have bbl := below_lit _ _ bb (.cells #[.int .i64 0, .slice none 0 0] 183)
      have kN0 := Bk.new W0 183 #[.int .i64 0, .slice none 0 0]
      refine wpAnyH_ready (rs := [10]) (by kernel_rfl) (by simp) ?_
      refine AllReadyH.cons (by simp only [List.getElem?_toArray]; rfl) (fun K hK => ?_) AllReadyH.nil
      refine wanted_pos (by kernel_rfl) ?_
      go_simp
      clear hHeld
      go_at_call 76
      (with_reducible refine (HBE.out _ bbl).mono ?_)
      rintro e V1 ⟨A, n, c, rfl, hrd, hhd, bn⟩
      go_wp2_with fail
      refine hK.out _ _ ?_ (fun hHeld => ?_)
      ·exact HS.out _ (bbl.trans (bn.mono bbl.size))
      clear hK K
      try conv => arg 8; simp only [Act.put, List.setIfInBounds_toArray, List.set_cons_zero, List.set_cons_succ]
      have hge : wr.heap.size ≤ W0.heap.size := bb.size
      replace bb := bbl.trans (bn.mono bbl.size)
      have kN := kN0.below bn kN0.lt
      replace hrd : Rd V1 (fun b => wr.heap.size ≤ b ∧ b < V1.heap.size ∧ b ≠ W0.heap.size) A n (gls q.2) := hrd.mono (fun b hb => ⟨by have := hb.1; rw [World.size_alloc] at this; omega, hb.2, by have := hb.1; rw [World.size_alloc] at this; omega⟩) (Kept.refl _ _)
      obtain ⟨VX, hVX⟩ : ∃ VX, V1 = VX := ⟨_, rfl⟩
      obtain ⟨gN, hgN⟩ : ∃ gN, W0.heap.size = gN := ⟨_, rfl⟩
      rw [hVX] at kN bb hrd ⊢
      rw [hgN] at kN hge hrd ⊢
      clear hVX hgN bbl bn kN0 HBE
      have y0 := box_cells kN 0 rfl
      have y1 := box_cells kN 1 rfl
      have f0 := kN.frozen 0
      have f1 := kN.frozen 1
      refine wpAnyH_ready (rs := [12]) (by kernel_rfl) (by simp) ?_
      refine AllReadyH.cons (by simp only [List.getElem?_toArray]; rfl) (fun K hK => ?_) AllReadyH.nil
      refine wanted_pos (by kernel_rfl) ?_
      go_simp
      clear hHeld
      refine hK.out _ _ ?_ (fun hHeld => ?_)
      ·exact HS.out _ (store2_below bb hge _ _)
      clear hK K
      try conv => arg 8; simp only [Act.put, List.setIfInBounds_toArray, List.set_cons_zero, List.set_cons_succ]
      refine wpAnyH_done (by kernel_rfl) ?_ _
      have kN2 := store2_bk kN (.int .i64 (q.1 : Int)) (.slice A n c)
      obtain ⟨hfar, hsz⟩ := store2_far VX gN (.int .i64 (q.1 : Int)) (.slice A n c)
      have bV := store2_below (g := gN) bb hge (.int .i64 (q.1 : Int)) (.slice A n c)
      have hRV : Rd (store2 VX gN (.int .i64 (q.1 : Int)) (.slice A n c)) (fun b => wr.heap.size ≤ b ∧ b < (store2 VX gN (.int .i64 (q.1 : Int)) (.slice A n c)).heap.size ∧ b ≠ gN) A n (gls q.2) := hrd.mono (fun b hb => ⟨hb.1, by rw [hsz]; exact hb.2.1, hb.2.2⟩) (fun b hb => hfar b hb.2.2)
      clear hHeld hrd hfar hsz kN y0 y1 f0 f1 HS bb
      obtain ⟨V, hV⟩ : ∃ V, store2 VX gN (.int .i64 (q.1 : Int)) (.slice A n c) = V := ⟨_, rfl⟩
      rw [hV] at kN2 bV hRV
      unfold store2 at hV
      rw [hV]
      clear hV
      have hst2 := HST.out.call bV
      try dsimp only at hst2
      have z0 := box_cells kN2 0 rfl
      have z1 := box_cells kN2 1 rfl
      have hnn : q.2.length = n := by have := hRV.len; rw [gls_len] at this; exact this
      have hn1 := hhd.1
      have hn2 := hhd.2
      have hsw := bV.size
      clear HST x0 x1 x2 ya yb yg
      by_cases hq0 : n = 0
      ·have hqe : q.2 = [] := List.eq_nil_of_length_eq_zero (by omega)
       have HRL := Lib.hid (rowG_none (met := s.met) (show nxD (rowsD back rs) gs src cc = none by rw [HNX.out, if_pos hqe]))
       have t0 : ¬ ((n : Int) > 0) := by omega
       have t1 : decide ((0 : Int) < (n : Int)) = false := by simp; omega
       have t2 : decide (0 < n) = false := by simp; omega
       have hme0 := HME.out
       have HOX := Lib.hid (hst2.mx.alloc (.cells #[.int .i64 (-1)] 3))
       have hsX : w.heap.size ≤ (V.alloc (.cells #[.int .i64 (-1)] 3)).heap.size := by rw [World.size_alloc]; have := hst2.bl.size; omega
       dsimp only at HOX
       have HSX := Lib.hid hst2
       clear hst2
       go_wp2_with (at_builtin; refine appP elt_int rfl _ _ rfl (V.alloc (.cells #[.int .i64 (-1)] 3)) w.heap.size _ _ _ (ic xs) _ 1 1 [.int .i64 (-1)] (by rfl) (by rfl) HOX.out rfl (fun _ => news_new _ _ _ (by omega)) (by simp [Value.oneCell']) (by omega) hsX ?_; intro Ax' cx' W5 ho5 hg5 hb5 hat5)
       have hst5 := HSX.out.pushX (Below.refl _ _) ho5 hg5 hat5
       dsimp only at hst5
       clear ho5 hg5 hb5 hat5 HOX HSX hsX
       go_roundw
       case rel => exact ⟨cc + 1, _, _, na, ca, _, met, Ax', nx + 1, cx', xs ++ [-1], by omega, rfl, rfl, by go_num, hst5, by rw [HRL.out, HXS.out], by rw [HRL.out, HME.out], HGD.out, by omega⟩
       case measure => simp [intOf]; omega

      ·have hqe : q.2 ≠ [] := fun e => hq0 (by rw [← hnn, e]; rfl)
       have HRL := Lib.hid (rowG_some (met := s.met) (show nxD (rowsD back rs) gs src cc = some q by rw [HNX.out, if_neg hqe]))
       have t0 : (0 : Int) < (n : Int) := by omega
       have t1 : decide ((0 : Int) < (n : Int)) = true := by simp; omega
       have HFI := Lib.hid (dfind_c (some ⟨ga, 0, none⟩) na ca met _ q V hst2.rdS hst2.ma.ow.cap (show ESt V (lo V.heap.size) [.int .i64 (q.1 : Int), .slice A n c] q from ⟨A, n, c, rfl, hRV.mono (fun b hb => hb.2.1) (Kept.refl _ _), hhd⟩) (fun p hp => by have h1 := (HGD.out p hp).1.len; have h2 := HSM.out.n; omega) (by have h1 := HGQ.out.len; have h2 := HSM.out.n; omega))
       have HGQ2 := Lib.hid (show GoodS back rs q ∧ q.1 ≤ 100 from ⟨HGQ.out, by have := behindD_met (HGS.out.1) HSM.out (g := gg) (by rw [HQE.out]; exact hqe); rw [HQE.out] at this; exact this⟩)
       try dsimp only at HFI
       have hcap := hst2.ma.ow.cap
       have hc1 := hcap.1
       have hc2 := hcap.2
       dsimp only at hc1 hc2
       have HST := Lib.hid hst2
       clear hst2 hq0 hqe hcap
       rcases findL_cases met q with ⟨j, hj, hfe, hme⟩ | ⟨hfe, hme⟩
       ·rw [hfe] at HFI
        rw [HME.out] at hme
        have HRL2 := Lib.hid (show rowL (nxD (rowsD back rs) gs) src s.met (cc + 1) = ((rowL (nxD (rowsD back rs) gs) src s.met cc).1 ++ [(j : Int)], met) by rw [HRL.out, hme, HME.out])
        have tj : decide ((j : Int) < 0) = false := by simp
        have tj2 : ¬ ((j : Int) < 0) := by omega
        clear HRL hme hfe
        go_wp2_with fail
        refine HFI.out.mono ?_
        rintro e V2 ⟨rfl, bn⟩
        have hst3 := HST.out.call bn
        try dsimp only at hst3
        clear HFI HST z0 z1 kN2 hRV
        have b3 := below_call bV bn
        clear bn bV
        have HOX := Lib.hid (hst3.mx.alloc (.cells #[.int .i64 (j : Int)] 3))
        have hsX : w.heap.size ≤ (V2.alloc (.cells #[.int .i64 (j : Int)] 3)).heap.size := by rw [World.size_alloc]; have := hst3.bl.size; omega
        dsimp only at HOX
        have HSX := Lib.hid hst3
        clear hst3
        go_wp2_with (at_builtin; refine appP elt_int rfl _ _ rfl (V2.alloc (.cells #[.int .i64 (j : Int)] 3)) w.heap.size _ _ _ (ic xs) _ 1 1 [.int .i64 (j : Int)] (by rfl) (by rfl) HOX.out rfl (fun _ => news_new _ _ _ (by omega)) (by simp [Value.oneCell']) (by omega) hsX ?_; intro Ax' cx' W5 ho5 hg5 hb5 hat5)
        have hst5 := HSX.out.pushX (Below.refl _ _) ho5 hg5 hat5
        dsimp only at hst5
        clear ho5 hg5 hb5 hat5 HOX HSX hsX
        go_roundw
        case rel => exact ⟨cc + 1, _, _, na, ca, _, met, Ax', nx + 1, cx', xs ++ [(j : Int)], by omega, rfl, rfl, by go_num, hst5, by rw [HRL2.out, HXS.out], by rw [HRL2.out], HGD.out, by omega⟩
        case measure => simp [intOf]; omega

       ·rw [hfe] at HFI
        rw [HME.out] at hme
        have HRL2 := Lib.hid (show rowL (nxD (rowsD back rs) gs) src s.met (cc + 1) = ((rowL (nxD (rowsD back rs) gs) src s.met cc).1 ++ [(na : Int)], met ++ [q]) by rw [HRL.out, hme, HNA1.out, HME.out])
        clear HRL hme hfe
        go_wp2_with fail
        refine HFI.out.mono ?_
        rintro e V2 ⟨rfl, bn⟩
        have b3 := below_call bV bn
        have kN3 := kN2.below bn kN2.lt
        have z0 := box_cells kN3 0 rfl
        have z1 := box_cells kN3 1 rfl
        have hR3 : Rd V2 (fun b => wr.heap.size ≤ b ∧ b < V2.heap.size) A n (gls q.2) := hRV.mono (fun b hb => ⟨hb.1, Nat.lt_of_lt_of_le hb.2.1 bn.size⟩) (fun b hb => bn.block b hb.2.1)
        have HR3 := Lib.hid hR3
        have HOW := Lib.hid ((HST.out.call bn).ma.ow.alloc (.cells #[.int .i64 (q.1 : Int), .slice A n c] 183))
        have hsB : w.heap.size ≤ (V2.alloc (.cells #[.int .i64 (q.1 : Int), .slice A n c] 183)).heap.size := by rw [World.size_alloc]; have := bn.size; have := hws; omega
        clear HFI HST hRV kN2 bn bV hR3
        dsimp only at HOW
        go_upto_region 18 with (at_builtin; refine appP elt_state rfl _ _ rfl (V2.alloc (.cells #[.int .i64 (q.1 : Int), .slice A n c] 183)) w.heap.size _ _ _ csa.flatten _ 1 1 [.int .i64 (q.1 : Int), .slice A n c] (by rfl) (by rfl) HOW.out rfl (fun _ => news_new _ _ _ (by omega)) (by simp [Value.oneCell']) (by omega) hsB ?_; intro Aa' ca' V4 ho4 hg4 hb4 hat4)
        have hst3 := HSTW.out.pushA b3 (fun b hb => hb) (show ESt V2 (fun b => wr.heap.size ≤ b ∧ b < V2.heap.size) [.int .i64 (q.1 : Int), .slice A n c] q from ⟨A, n, c, rfl, HR3.out, hn1, hn2⟩) ho4 hg4 hb4 hat4
        have b4 : Below w.heap.size w V4 := hst3.bl
        try dsimp only at hst3
        clear ho4 hg4 hb4 hat4 HOW HR3 z0 z1 kN3 hsB
        have HOX := Lib.hid (hst3.mx.alloc (.cells #[.int .i64 (na : Int)] 3))
        have hsX : w.heap.size ≤ (V4.alloc (.cells #[.int .i64 (na : Int)] 3)).heap.size := by rw [World.size_alloc]; have := hst3.bl.size; omega
        dsimp only at HOX
        have HSX := Lib.hid hst3
        clear hst3
        go_wp2_with (at_builtin; refine appP elt_int rfl _ _ rfl (V4.alloc (.cells #[.int .i64 (na : Int)] 3)) w.heap.size _ _ _ (ic xs) _ 1 1 [.int .i64 (na : Int)] (by rfl) (by rfl) HOX.out rfl (fun _ => news_new _ _ _ (by omega)) (by simp [Value.oneCell']) (by omega) hsX ?_; intro Ax' cx' W5 ho5 hg5 hb5 hat5)
        have hst5 := HSX.out.pushX (Below.refl _ _) ho5 hg5 hat5
        dsimp only at hst5
        clear ho5 hg5 hb5 hat5 HOX HSX hsX
        go_roundw
        case rel => exact ⟨cc + 1, _, Aa', na + 1, ca', _, met ++ [q], Ax', nx + 1, cx', xs ++ [(na : Int)], by omega, rfl, rfl, by go_num, hst5, by rw [HRL2.out, HXS.out], by rw [HRL2.out], fun p hp => by
         rcases List.mem_append.1 hp with hp | hp
         ·exact HGD.out p hp
         ·rw [List.mem_singleton] at hp; subst hp; exact HGQ2.out, by rw [List.length_append]; simp; omega⟩
        case measure => simp [intOf]; omega


    ·have hce : cc = gn := by omega
     subst hce
     have hf1 : 20002 - i = (20001 - i) + 1 := by omega
     have h1 := HSL.out
     rw [hf1, statesL, HSRC.out] at h1
     dsimp only at h1
     rw [← HME.out, ← HXS.out] at h1
     have hmany : ¬ 20000 < met.length := fun h => by rw [if_pos h] at h1; cases h1
     rw [if_neg hmany] at h1
     have HS1 := Lib.hid h1
     have hna1 := HNA1.out
     have t0 : ¬ ((20000 : Int) < (na : Int)) := by omega
     have t1 : decide ((20000 : Int) < (na : Int)) = false := by simp; omega
     have t2 : decide (20000 < na) = false := by simp; omega
     clear hna1
     have HMI := Lib.hid hmi
     have inn : ¬ ((cc : Int) < (cc : Int)) := by omega
     have HOR := Lib.hid (hst.mr.ow.alloc (.cells #[.slice Ax nx cx] 23))
     have hsR : w.heap.size ≤ (wr.alloc (.cells #[.slice Ax nx cx] 23)).heap.size := by rw [World.size_alloc]; omega
     dsimp only at HOR
     have HST := Lib.hid hst
     clear hst h1 hmi hcap
     go_upto_region 22 with (at_builtin; refine appP elt_row rfl _ _ rfl (wr.alloc (.cells #[.slice Ax nx cx] 23)) w.heap.size _ _ _ s.csr.flatten _ 1 1 [.slice Ax nx cx] (by rfl) (by rfl) HOR.out rfl (fun _ => news_new _ _ _ (by omega)) (by simp [Value.oneCell']) (by omega) hsR ?_; intro Ar' cr' W7 ho7 hg7 hb7 hat7)
     have hst7 := HST.out.pushR (Below.refl _ _) ho7 hg7 hat7
     dsimp only at hst7
     clear ho7 hg7 hb7 hat7 HOR hsR HST
     obtain ⟨ga, sA, sn, sc, haa, ya, yb, hsE⟩ := hst7.at HMI.out
     dsimp only at haa
     have x0 := box_cells hst7.kL 0 rfl
     have x1 := box_cells hst7.kL 1 rfl
     have x2 := box_cells hst7.kL 2 rfl
     have hsd := hst7.bl
     have hws7 := hsd.size
     have HEE := Lib.hid fun (W : World) (bW : Below W7.heap.size W7 W) => dEnds_c _ lk back _ src W (elk_mono HEL0.out (lo_mono (below_call hsd bW).size) (kept_below (below_call hsd bW))) (by rw [HRS.out]; exact HSM.out) (hsE.call bW) (by rw [HRS.out]; exact HGS.out.1)
     rw [HRS.out] at HEE
     obtain ⟨y, hy⟩ : ∃ y, endsD (rowsD back rs) src = y := ⟨_, rfl⟩
     rw [hy] at HEE
     have HY := Lib.hid hy
     have HST := Lib.hid hst7
     subst haa
     clear hy hst7 hsE hsd
     have HS := Lib.hid fun (W : World) (bW : Below W7.heap.size W7 W) => (show W.cell? ⟨g, 0, none⟩ = some (.int .i64 lk.kind) ∧ W.cell? ⟨g, 1, none⟩ = some (.bool lk.ign) ∧ W.cell? ⟨g, 2, none⟩ = some (.slice qa qn qc) ∧ W.cell? ⟨ga, i * 2, none⟩ = some (.int .i64 (src.1 : Int)) ∧ W.cell? ⟨ga, i * 2 + 1, none⟩ = some (.slice sA sn sc) from ⟨cell_call x0 bW, cell_call x1 bW, cell_call x2 bW, cell_call ya bW, cell_call yb bW⟩)
     have bb := Below.refl W7.heap.size W7
     refine wp_region_held_drew (S := fun w' => w'.cell? ⟨g, 0, none⟩ = some (.int .i64 lk.kind) ∧ w'.cell? ⟨g, 1, none⟩ = some (.bool lk.ign) ∧ w'.cell? ⟨g, 2, none⟩ = some (.slice qa qn qc) ∧ w'.cell? ⟨ga, i * 2, none⟩ = some (.int .i64 (src.1 : Int)) ∧ w'.cell? ⟨ga, i * 2 + 1, none⟩ = some (.slice sA sn sc)) (by kernel_rfl) ?_ (fun hHeld => ?_)
     ·exact HS.out _ (below_drewN bb 1)
     replace bb := below_drewN bb 1
     change Below _ _ W7.drew at bb
     generalize hw0 : W7.drew = W0 at hHeld bb ⊢
     clear hw0
     refine tkB 0 (v := ?_) (by assumption) ?_ ?_
     rotate_left 1
     ·intro w hSw; (try dsimp only at hSw); go_simp; try with_reducible rfl
     refine tkB 1 (v := ?_) (by assumption) ?_ ?_
     rotate_left 1
     ·intro w hSw; (try dsimp only at hSw); go_simp; try with_reducible rfl
     refine tkB 2 (v := ?_) (by assumption) ?_ ?_
     rotate_left 1
     ·intro w hSw; (try dsimp only at hSw); go_simp; try with_reducible rfl
     refine tkB 3 (v := ?_) (by assumption) ?_ ?_
     rotate_left 1
     ·intro w hSw; (try dsimp only at hSw); go_simp; try with_reducible rfl
     refine tkB 4 (v := ?_) (by assumption) ?_ ?_
     rotate_left 1
     ·intro w hSw; (try dsimp only at hSw); go_simp; try with_reducible rfl
     refine tkB 5 (v := ?_) (by assumption) ?_ ?_
     rotate_left 1
     ·intro w hSw; (try dsimp only at hSw); go_simp; try with_reducible rfl
     refine tkB 6 (v := ?_) (by assumption) ?_ ?_
     rotate_left 1
     ·intro w hSw; (try dsimp only at hSw); go_simp; try with_reducible rfl
     refine wpAnyH_ready (rs := [7]) (by kernel_rfl) (by simp) ?_
     refine AllReadyH.cons (by simp only [List.getElem?_toArray]; rfl) (fun K hK => ?_) AllReadyH.nil
     refine wanted_pos (by kernel_rfl) ?_
     go_simp
     clear hHeld
     go_at_call 78
     (with_reducible refine (HEE.out _ bb).mono ?_)
     rintro e V1 ⟨rfl, bn⟩
     go_wp2_with fail
     refine hK.out _ _ ?_ (fun hHeld => ?_)
     ·exact HS.out _ (bb.trans (bn.mono bb.size))
     clear hK K
     try conv => arg 8; simp only [Act.put, List.setIfInBounds_toArray, List.set_cons_zero, List.set_cons_succ]
     replace bb := bb.trans (bn.mono bb.size)
     clear bn
     refine wpAnyH_ready (rs := [8]) (by kernel_rfl) (by simp) ?_
     refine AllReadyH.cons (by simp only [List.getElem?_toArray]; rfl) (fun K hK => ?_) AllReadyH.nil
     refine wanted_pos (by kernel_rfl) ?_
     go_simp
     clear hHeld
     refine hK.out _ _ ?_ (fun hHeld => ?_)
     ·exact HS.out _ (below_lit _ _ bb _)
     clear hK K
     try conv => arg 8; simp only [Act.put, List.setIfInBounds_toArray, List.set_cons_zero, List.set_cons_succ]
     refine wpAnyH_ready (rs := [9]) (by kernel_rfl) (by simp) ?_
     refine AllReadyH.cons (by simp only [List.getElem?_toArray]; rfl) (fun K hK => ?_) AllReadyH.nil
     clear hHeld
     have how := (HST.out.call bb).me.alloc (.cells #[.int .u64 (y : Int)] 50)
     have hnw := news_new V1 [.int .u64 (y : Int)] 50
     have hs2 : w.heap.size ≤ (V1.alloc (.cells #[.int .u64 (y : Int)] 50)).heap.size := by rw [World.size_alloc]; have := bb.size; omega
     dsimp only at how
     refine appStep elt_u64 (by kernel_rfl) _ _ rfl (V1.alloc (.cells #[.int .u64 (y : Int)] 50)) w.heap.size _ _ _ (uc s.ends) _ 1 1 [.int .u64 (y : Int)] (by rfl) (by rfl) how rfl hnw (by simp [Value.oneCell']) (by omega) hs2 ?_
     intro Ae' ce' W8 ho8 hg8 hb8 hat8
     have hst9 := HST.out.pushE bb ho8 hg8 hat8
     dsimp only at hst9
     have hA9 := hst9.ma.ow
     dsimp only at hA9
     refine hK.out _ _ ?_ (fun hHeld => ?_)
     ·refine ⟨box_cells hst9.kL 0 rfl, box_cells hst9.kL 1 rfl, box_cells hst9.kL 2 rfl, ?_, ?_⟩
      ·exact (World.cell?_of_block (a := ⟨ga, i * 2, none⟩) ((hg8.block ga (by rw [World.size_alloc]; have := cell_lt (cell_call ya bb); show ga < _; exact Nat.lt_succ_of_lt this) (fun e => own_ne HST.out.me HST.out.ma.ow (by decide) ga e.symm rfl)).trans (Below.heap_alloc V1 _ ga (cell_lt (cell_call ya bb))))).trans (cell_call ya bb)
      ·exact (World.cell?_of_block (a := ⟨ga, i * 2 + 1, none⟩) ((hg8.block ga (by rw [World.size_alloc]; have := cell_lt (cell_call ya bb); show ga < _; exact Nat.lt_succ_of_lt this) (fun e => own_ne HST.out.me HST.out.ma.ow (by decide) ga e.symm rfl)).trans (Below.heap_alloc V1 _ ga (cell_lt (cell_call ya bb))))).trans (cell_call yb bb)
     clear hK K
     try conv => arg 8; simp only [Act.put, List.setIfInBounds_toArray, List.set_cons_zero, List.set_cons_succ]
     refine tkB 10 (v := ?_) (by assumption) ?_ ?_
     rotate_left 1
     ·intro w hSw; (try dsimp only at hSw); go_simp; try with_reducible rfl
     refine wpAnyH_done (by kernel_rfl) ?_ _
     clear hHeld HS bb how hnw hs2 ho8 hg8 hb8 hat8 hA9 x0 x1 x2 ya yb HEE HST

     go_wp2_with fail
     go_roundw
     case rel =>
      refine ⟨_, i + 1, rfl, rfl, rfl, by go_num, hst9, ?_, ?_, ?_, by show met.length ≤ 20000; omega, by show i + 1 ≤ met.length; omega, HGD.out⟩
      ·rw [show 20002 - (i + 1) = 20001 - i by omega]; exact HS1.out
      ·show (s.tab ++ [xs]).length = i + 1
       rw [List.length_append, HTL.out]; rfl
      ·show s.ends ++ [y] = (met.take (i + 1)).map (endsD (rowsD back rs))
       obtain ⟨t, ht⟩ := rowG_pre (nxD (rowsD back rs) gs) src s.met cc
       rw [List.take_succ_eq_append_getElem hil1, List.map_append, HEN.out]
       have h1 : met.take i = s.met.take i := by rw [HME.out, ht, List.take_append_of_le_length hil]
       have h2 : met[i] = src := by have := HMI.out; rw [List.getElem?_eq_getElem hil1] at this; injection this
       rw [h1, h2, ← HY.out]; rfl
     case measure => simp [intOf]; omega
  ·have hie : i = s.met.length := by omega
   have t0 : ¬ ((i : Int) < (s.na : Int)) := by have := HNA.out; omega
   have hf1 : 20002 - i = (20001 - i) + 1 := by omega
   have h1 := HSL.out
   rw [hf1, statesL, List.getElem?_eq_none (by omega)] at h1
   dsimp only at h1
   injection h1 with h1
   have HX1 := Lib.hid h1
   have hrv := hst.mr.rd em_row
   have hrc := hst.mr.ow.cap
   have hre : RdU wr (fun b => w.heap.size ≤ b ∧ b < wr.heap.size) s.Ae s.ne (x.2.map (endsD (rowsD back rs))) := by
    rw [← h1]
    have h2 := hst.me.rdU (fun z hz => ?_) (fun b => w.heap.size ≤ b ∧ b < wr.heap.size) (fun b e => hst.me.lt b 0 none e)
    ·rw [HEN.out, List.take_of_length_le (by omega)] at h2; exact h2
    ·rw [HEN.out, List.take_of_length_le (by omega)] at hz
     obtain ⟨q, hq, rfl⟩ := List.mem_map.1 hz
     rw [endN_all back rs q (Nat.le_refl _)]
     exact endN_lt (HGD.out q hq).1 HSM.out.n _
   have hrec := hst.me.cap
   have hbl := hst.bl
   have HRV := Lib.hid (show RdV wr (fun b => w.heap.size ≤ b ∧ b < wr.heap.size) s.Ar s.nr x.1 by rw [← h1]; exact hrv)
   clear hst h1 hrv
   go_wp2
   exact bodyPost_ret (v := .tuple #[.slice s.Ar s.nr s.cr, .slice s.Ae s.ne s.ce, .bool true]) (by simp [results, Tryd.results50, go_sem]) rfl ⟨_, _, _, _, _, _, rfl, HRV.out, hre, hrc, hrec, hbl⟩


end Go.Proofs.YtgcmedkaadagmaaDoor
