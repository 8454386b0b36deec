/- Walks: the document's Cursive. -/
import Derived.Test.YtbjcbcdccekbkaaGreatR1
import Derived.Deep.DeepCutAuto
import Derived.Deep.CutBlock
namespace Go.Proofs.YtbjcbcdccekbkaaGreat
open Go.RowKit Go.Shelf

/-- A run of the document's own: from block B on; the font lies in a variable below. -/
structure RS (B bf : Nat) (W0 W : World) (f : FV) (F : Fnt) (RA : Option Addr) (rn rc : Nat) (run : List Itm) : Prop where
  hB : B ≤ W.heap.size
  lf : bf < B
  kf : Bk W bf 31 f.cells
  font : IsF W (lo B) f F
  own : Ow 57 6 W B RA rn rc (itc run)
  bw : Below B W0 W
section
variable {B bf : Nat} {W0 W W' : World} {f : FV} {F : Fnt} {RA : Option Addr} {rn rc : Nat} {run : List Itm}
theorem RS.call (h : RS B bf W0 W f F RA rn rc run) (b : Below W.heap.size W W') : RS B bf W0 W' f F RA rn rc run :=
  ⟨Nat.le_trans h.hB b.size, h.lf, h.kf.call b, h.font.mono (fun _ h => h) ((kept_below b).sub (lo_mono h.hB)), h.own.call b, h.bw.trans (b.mono h.hB)⟩
theorem RS.fontU (h : RS B bf W0 W f F RA rn rc run) : IsF W (lo W.heap.size) f F := h.font.up h.hB
theorem RS.len (h : RS B bf W0 W f F RA rn rc run) : run.length = rn := h.own.rdI.len
theorem RS.drewN_ (h : RS B bf W0 W f F RA rn rc run) (d : Nat) : RS B bf W0 (W.drewN d) f F RA rn rc run := h.call ⟨rfl, rfl, rfl, Nat.le_refl _, fun _ _ => rfl⟩
theorem RS.drew_ (h : RS B bf W0 W f F RA rn rc run) : RS B bf W0 W.drew f F RA rn rc run := h.call ⟨rfl, rfl, rfl, Nat.le_refl _, fun _ _ => rfl⟩
theorem RS.store {g : Nat} {run' : List Itm} (h : RS B bf W0 W f F (some ⟨g, 0, none⟩) rn rc run) (q : Nat) (v : Value) (he : (itc run).set q v = itc run') : RS B bf W0 (W.setCell ⟨g, q, none⟩ v) f F (some ⟨g, 0, none⟩) rn rc run' := by
  have hgB := (h.own.blk g rfl).1
  have hbl : Below B W (W.setCell ⟨g, q, none⟩ v) := (Below.refl _ _).setCell (p := ⟨g, q, none⟩) hgB v
  refine ⟨by simp; exact h.hB, h.lf, h.kf.far (fun e => ?_) _, h.font.mono (fun _ h => h) (kept_below hbl), by rw [← he]; exact h.own.stored q v, h.bw.trans hbl⟩
  have := h.lf; dsimp only at e; omega
theorem RS.f9 (h : RS B bf W0 W f F RA rn rc run) {lb lo' : Nat} (hla : f.la = some ⟨lb, lo', none⟩) : W.cell? ⟨bf, 0, none⟩ = some (.int .i64 f.u0) ∧ W.cell? ⟨bf, 1, none⟩ = some (.slice f.ga f.gn f.gc) ∧ W.cell? ⟨bf, 2, none⟩ = some (.slice f.ca f.cn f.cc) ∧ W.cell? ⟨bf, 3, none⟩ = some (.slice (some ⟨lb, lo', none⟩) f.ln f.lc) ∧ W.cell? ⟨bf, 4, none⟩ = some (.slice f.a4 f.n4 f.c4) ∧ W.cell? ⟨bf, 5, none⟩ = some (.slice f.a5 f.n5 f.c5) ∧ W.cell? ⟨bf, 6, none⟩ = some (.slice f.a6 f.n6 f.c6) ∧ W.cell? ⟨bf, 7, none⟩ = some (.slice f.a7 f.n7 f.c7) ∧ W.cell? ⟨bf, 8, none⟩ = some (.slice f.a8 f.n8 f.c8) := by
  rw [← hla]; exact font_cells h.kf
end
theorem ki_at {F : Fnt} {n : Int} {c : Int} (h : (kiOf F n).1 = c) (hc : c ≠ 0) : ∃ (k : Nat) (lk : Lk), n = (k : Int) ∧ F.lks[k]? = some lk ∧ lk.kind = c ∧ (kiOf F n).2 = lk.ign := by
  unfold kiOf lkAt at *
  by_cases h0 : n < 0
  · rw [if_pos h0] at h; exact absurd h.symm hc
  · rw [if_neg h0] at h ⊢
    rcases hl : F.lks[n.toNat]? with _ | lk
    · rw [hl] at h; exact absurd h.symm hc
    · rw [hl] at h; exact ⟨n.toNat, lk, by omega, hl, h, rfl⟩

def cursRF (F : Fnt) (ign : Bool) (run : List Itm) (j : Nat) : Int × List Itm := (List.range j).foldl (cursRS w64 F ign) (-1, run)
theorem cursRF_succ (F : Fnt) (ign : Bool) (run : List Itm) (j : Nat) : cursRF F ign run (j + 1) = cursRS w64 F ign (cursRF F ign run j) j := by
  unfold cursRF; rw [List.range_succ, List.foldl_append]; rfl
theorem cursRS_hid {F : Fnt} {ign : Bool} {st : Int × List Itm} {b : Nat} (h : hidB F ign st.2 b = true) : cursRS w64 F ign st b = st := by
  unfold cursRS; rw [if_pos (show (ign && isMark F (gAt st.2 b)) = true from h)]
theorem cursRS_first {F : Fnt} {ign : Bool} {st : Int × List Itm} {b : Nat} (h : hidB F ign st.2 b = false) (h0 : st.1 < 0) : cursRS w64 F ign st b = ((b : Int), st.2) := by
  unfold cursRS; rw [if_neg (by rw [show (ign && isMark F (gAt st.2 b)) = false from h]; simp), if_neg (by omega)]
theorem cursRS_none {F : Fnt} {ign : Bool} {a b : Nat} {r : List Itm} (h : hidB F ign r b = false) (ho : (anchorL F (gAt r a) 4 0).isSome = false ∨ (anchorL F (gAt r b) 3 0).isSome = false) : cursRS w64 F ign ((a : Int), r) b = ((b : Int), r) := by
  unfold cursRS; dsimp only; rw [if_neg (by rw [show (ign && isMark F (gAt r b)) = false from h]; simp), if_pos (by omega), Int.toNat_natCast]
  rcases h1 : anchorL F (gAt r a) 4 0 with _ | ⟨ex, ey⟩
  · rfl
  · rcases h2 : anchorL F (gAt r b) 3 0 with _ | ⟨nx, ny⟩
    · rfl
    · rw [h1, h2] at ho; simp at ho
theorem cursRS_join {F : Fnt} {ign : Bool} {a b : Nat} {r : List Itm} {ia ib : Itm} (h : hidB F ign r b = false) (hia : r[a]? = some ia) (hib : r[b]? = some ib) (hab : a < b) (h1 : (anchorL F ia.g 4 0).isSome = true) (h2 : (anchorL F ib.g 3 0).isSome = true) :
    cursRS w64 F ign ((a : Int), r) b = ((b : Int), (r.set a { ia with a := wrap64 (wrap64 (ia.a + wrap64 (wrap64 (widthL w64 (r.take a) + ia.x) + ax (anchorL F ia.g 4 0))) - wrap64 (wrap64 (widthL w64 (r.take b) + ib.x) + ax (anchorL F ib.g 3 0))) }).set b { ib with y := wrap64 (wrap64 (ia.y + ay (anchorL F ia.g 4 0)) - ay (anchorL F ib.g 3 0)) }) := by
  unfold cursRS; dsimp only; rw [if_neg (by rw [show (ign && isMark F (gAt r b)) = false from h]; simp), if_pos (by omega), Int.toNat_natCast, gAt_some hia, gAt_some hib]
  have la := (List.getElem?_eq_some_iff.1 hia).1
  rcases e1 : anchorL F ia.g 4 0 with _ | ⟨ex, ey⟩
  · rw [e1] at h1; cases h1
  · rcases e2 : anchorL F ib.g 3 0 with _ | ⟨nx, ny⟩
    · rw [e2] at h2; cases h2
    · dsimp only
      rw [itAt_some hia, itAt_some hib]
      have q1 : ∀ v : Itm, itAt (r.set a v) b = ib := fun v => itAt_some (by rw [List.getElem?_set_ne (by omega)]; exact hib)
      have q2 : ∀ v : Itm, itAt (r.set a v) a = v := fun v => itAt_some (List.getElem?_set_self la)
      rw [q1, q2]
      rfl

theorem rpen_d (A : Option Addr) (n c i : Nat) (run : List Itm) (w : World) (h : RdI w (lo w.heap.size) A n run) (hd : Hd n c) (hi : i ≤ n) (hn : n ≤ 1000000) :
    Calls Tryz.prog 34 #[.slice A n c, .int .i64 (i : Int)] w fun e w' => e = .returned (.int .i64 (widthL w64 (run.take i))) ∧ ∃ d, w' = w.drewN d :=
  (rpen_c A n c i run w h hd hi hn).mono fun _ _ ⟨he, hw⟩ => ⟨he, 0, hw.symm⟩

set_option maxRecDepth 100000 in
set_option maxHeartbeats 4000000 in
theorem rcursive_c (f : FV) (F : Fnt) (lookup : Int) (RA : Option Addr) (rn rc : Nat) (run : List Itm) (w : World) (hf : IsF w (lo w.heap.size) f F) (hI : RdI w (lo w.heap.size) RA rn run) (hrn : rn ≤ 100000) :
    Calls Tryz.prog 22 #[.agg f.cells, .int .i64 lookup, .slice RA rn rc] w (RPost w.heap.size w (attachL w64 F lookup 7 run)) := by
  rw [← attach_ki7]
  obtain ⟨R, hR⟩ : ∃ R, R = (if (kiOf F lookup).1 = 7 then cursL w64 F (kiOf F lookup).2 run else run) := ⟨_, rfl⟩
  rw [← hR]
  have HR := Lib.hid hR
  clear hR
  have hs_0 := LS.new hf hI
  unfold FV.cells at hs_0 ⊢
  go_enter Tryz.func22, Tryz.ntmps22
  go_wp2_with fail
  generalize w.alloc (.cells #[.int .i64 f.u0, .slice f.ga f.gn f.gc, .slice f.ca f.cn f.cc, .slice f.la f.ln f.lc, .slice f.a4 f.n4 f.c4, .slice f.a5 f.n5 f.c5, .slice f.a6 f.n6 f.c6, .slice f.a7 f.n7 f.c7, .slice f.a8 f.n8 f.c8] 31) = w0 at hs_0 ⊢
  have hw0 : w.heap.size ≤ w0.heap.size := hs_0.bw.size
  have HB0 := Lib.hid hs_0.bw
  have hlt0 := hs_0.kf.lt
  generalize hbf : w.heap.size = bf at hs_0 hlt0 hw0 ⊢
  clear hf hI
  have HC := Lib.hid (rcopied_c RA rn rc run w0 hs_0.hI (by omega))
  refine HC.out.mono ?_
  rintro e w1 ⟨A1, n1, c1, rfl, o1, b1⟩
  clear HC
  have hs1 : RS w0.heap.size bf w0 w1 f F A1 n1 c1 run := ⟨b1.size, hlt0, hs_0.kf.below b1 hlt0, hs_0.hf.mono (fun _ h => h) (kept_below b1), o1, b1⟩
  have hf0 := hs_0.hf
  have hn1 : n1 ≤ 100000 := by have := hs1.len; have := hs_0.hI.len; omega
  clear hs_0 o1 b1
  obtain ⟨y0, y1, y2, y3, y4, y5, y6, y7, y8⟩ := font_cells hs1.kf
  go_wp2_with fail
  clear y0 y1 y2 y3 y4 y5 y6 y7 y8
  have HC := Lib.hid (rkind_c f F lookup w1 hs1.fontU)
  unfold FV.cells at HC
  refine HC.out.mono ?_
  rintro e w2 ⟨rfl, b2⟩
  clear HC
  have hs2 := hs1.call b2
  clear hs1 b2
  by_cases h7 : (kiOf F lookup).1 = 7
  · have e1 : ((kiOf F lookup).1 != 7) = false := by simp [h7]
    obtain ⟨k, lk, rfl, hlk, hk7, hign⟩ := ki_at h7 (by omega)
    have hres : R = cursL w64 F lk.ign run := by rw [HR.out, if_pos h7, hign]
    rw [curs_ref wr64] at hres
    have hres' : R = (cursRF F lk.ign run n1).2 := by rw [hres]; unfold cursR cursRF; rw [hs2.len]
    have HRES := Lib.hid hres'
    have hln := hf0.2.1.len
    have hld := hf0.2.2.2
    have hlnM : f.ln ≤ 9223372036854775807 := Nat.le_trans hld.1 hld.2
    obtain ⟨lb, lo', hla, hlb, hc⟩ := hf0.2.1.pos (by have := (List.getElem?_eq_some_iff.1 hlk).1; omega)
    obtain ⟨cs, ⟨A, n, c, rfl, _, _⟩, hcc⟩ := hc k lk hlk
    have ig0 := hcc 1 _ rfl
    have kz : (0 : Int) ≤ (k : Int) := by omega
    have kn : (k : Int) < (f.ln : Int) := by have := (List.getElem?_eq_some_iff.1 hlk).1; omega
    have HLA := Lib.hid hla
    clear hres hres' hign hk7 hlk hln hld hc hcc hf0 HR h7
    go_wp2
    go_loopw [8, 9] (fun s8 s9 wr => ∃ (j : Nat) (st : Int × List Itm), j ≤ n1 ∧ s9 = .int .i64 j ∧ s8 = .int .i64 st.1 ∧ st = cursRF F lk.ign run j ∧ -1 ≤ st.1 ∧ st.1 < (j : Int) ∧ RS w0.heap.size bf w0 wr f F A1 n1 c1 st.2) (fun _ i _ => n1 - (intOf i).toNat)
    case atStart => exact ⟨0, (-1, run), by omega, rfl, rfl, rfl, by show (-1 : Int) ≤ -1; omega, by show (-1 : Int) < 0; omega, hs2⟩
    case round =>
      obtain ⟨j, ⟨a, r⟩, hj, rfl, rfl, hst, ha0, ha1, hsr⟩ := hrel
      dsimp only at hst ha0 ha1 hsr
      clear hs2
      by_cases hlt : j < n1
      · have hrl := hsr.len
        obtain ⟨ib, hib⟩ := at_some r j (by omega)
        obtain ⟨gi, rfl, _, _⟩ := hsr.own.form (by omega)
        have hsc := cursRF_succ F lk.ign run j
        rw [← hst] at hsc
        have HSC := Lib.hid hsc; have HIB := Lib.hid hib; have HRL := Lib.hid hrl
        have hgl := gAt_some hib
        have ig := cell_call ig0 hsr.bw
        have gb0 := hsr.own.cell (itc_at hib (j := 0) (v := .int .i64 ib.g) rfl)
        rw [Nat.add_zero] at gb0
        have jz : (0 : Int) ≤ (j : Int) := by omega
        have jn : (j : Int) < (n1 : Int) := by omega
        clear hsc hib hrl hst
        obtain ⟨y0, y1, y2, y3, y4, y5, y6, y7, y8⟩ := hsr.f9 HLA.out
        have HCM := Lib.hid fun (W : World) (h : IsF W (lo W.heap.size) f F) => rmark_c f F ib.g W h
        unfold FV.cells at HCM
        rw [HLA.out] at HCM
        go_upto_region 8 with fail
        go_cut [45] (fun s wx => s = .bool (hidB F lk.ign r j) ∧ RS w0.heap.size bf w0 wx f F (some ⟨gi, 0, none⟩) n1 c1 r)
        case first =>
          have hhb : hidB F lk.ign r j = (lk.ign && isMark F ib.g) := by unfold hidB; rw [hgl]
          cases hig : lk.ign with
          | false =>
            rw [hig] at ig
            have HHB := Lib.hid (show hidB F lk.ign r j = false by rw [hhb, hig]; rfl)
            clear hhb
            go_quiet (fail)
            go_wp2
            go_meet
            exact ⟨by rw [HHB.out], by exact hsr.drewN_ _⟩
          | true =>
            rw [hig] at ig
            have HHB := Lib.hid (show hidB F lk.ign r j = isMark F ib.g by rw [hhb, hig]; rfl)
            clear hhb
            go_region_held3 (fun w' => w'.cell? ⟨bf, 0, none⟩ = some (.int .i64 f.u0) ∧ w'.cell? ⟨bf, 1, none⟩ = some (.slice f.ga f.gn f.gc) ∧ w'.cell? ⟨bf, 2, none⟩ = some (.slice f.ca f.cn f.cc) ∧ w'.cell? ⟨bf, 3, none⟩ = some (.slice (some ⟨lb, lo', none⟩) f.ln f.lc) ∧ w'.cell? ⟨bf, 4, none⟩ = some (.slice f.a4 f.n4 f.c4) ∧ w'.cell? ⟨bf, 5, none⟩ = some (.slice f.a5 f.n5 f.c5) ∧ w'.cell? ⟨bf, 6, none⟩ = some (.slice f.a6 f.n6 f.c6) ∧ w'.cell? ⟨bf, 7, none⟩ = some (.slice f.a7 f.n7 f.c7) ∧ w'.cell? ⟨bf, 8, none⟩ = some (.slice f.a8 f.n8 f.c8) ∧ w'.cell? ⟨lb, lo' + k * 3 + 1, none⟩ = some (.bool true) ∧ w'.cell? ⟨gi, j * 6, none⟩ = some (.int .i64 ib.g)) (first | (with_reducible exact z) | go_keep) (first
              | (go_at_call 32; (with_reducible refine (HCM.out _ ?_).mono ?_); exact hsr.drew_.fontU; rintro e w5 ⟨rfl, hb5⟩; have hs5 := hsr.call (below_undrew hb5); obtain ⟨z0, z1, z2, z3, z4, z5, z6, z7, z8⟩ := hs5.f9 HLA.out; have zi := cell_call (w := wr) ig (below_undrew hb5); have zg := cell_call (w := wr) gb0 (below_undrew hb5); have z := And.intro z0 (And.intro z1 (And.intro z2 (And.intro z3 (And.intro z4 (And.intro z5 (And.intro z6 (And.intro z7 (And.intro z8 (And.intro zi zg)))))))))))
            clear z
            go_wp2
            go_meet
            exact ⟨by rw [HHB.out], by exact hs5⟩
        obtain ⟨rfl, hs5⟩ := hcut
        clear hsr y0 y1 y2 y3 y4 y5 y6 y7 y8 ig gb0 HCM
        cases hhid : hidB F lk.ign r j with
        | true =>
          have HST := Lib.hid (cursRS_hid (st := (a, r)) hhid)
          clear hhid
          go_wp2
          go_roundw
          case rel => exact ⟨j + 1, (a, r), by omega, by go_num, rfl, by rw [HSC.out, HST.out], ha0, by show a < ((j + 1 : Nat) : Int); omega, hs5⟩
          case measure => simp [intOf]; omega
        | false =>
          have HHID := Lib.hid hhid
          clear hhid
          by_cases hneg : a < 0
          · have t0 : decide (0 ≤ a) = false := by simp; omega
            have HST := Lib.hid (cursRS_first (st := (a, r)) HHID.out hneg)
            go_wp2
            go_roundw
            case rel => exact ⟨j + 1, ((j : Int), r), by omega, by go_num, rfl, by rw [HSC.out, HST.out], by show (-1 : Int) ≤ (j : Int); omega, by show (j : Int) < ((j + 1 : Nat) : Int); omega, hs5⟩
            case measure => simp [intOf]; omega
          · obtain ⟨q, rfl⟩ : ∃ q : Nat, a = q := ⟨a.toNat, by omega⟩
            have t0 : decide ((0 : Int) ≤ (q : Int)) = true := by simp
            have hqj : q < j := by omega
            obtain ⟨ia, hia⟩ := at_some r q (by have := HRL.out; omega)
            have HIA := Lib.hid hia
            have hga := gAt_some hia
            have gb0 := hs5.own.cell (itc_at HIB.out (j := 0) (v := .int .i64 ib.g) rfl)
            have ga0 := hs5.own.cell (itc_at hia (j := 0) (v := .int .i64 ia.g) rfl)
            rw [Nat.add_zero] at gb0 ga0
            have qz : (0 : Int) ≤ (q : Int) := by omega
            have qn : (q : Int) < (n1 : Int) := by omega
            have HN := Lib.hid (cursRS_none (a := q) HHID.out)
            rw [hga, hgl] at HN
            have HJ := Lib.hid (cursRS_join (a := q) HHID.out hia HIB.out hqj)
            have C1 := Lib.hid fun (W1 : World) (h1 : IsF W1 (lo W1.heap.size) f F) => ranchor_c f F ia.g 4 0 W1 h1
            have C2 := Lib.hid fun (W1 : World) (h1 : IsF W1 (lo W1.heap.size) f F) => ranchor_c f F ib.g 3 0 W1 h1
            simp only [ancV_u] at C1 C2
            unfold FV.cells at C1 C2
            rw [HLA.out] at C1 C2
            generalize anchorL F ia.g 4 0 = o1 at *
            generalize anchorL F ib.g 3 0 = o2 at *
            obtain ⟨y0, y1, y2, y3, y4, y5, y6, y7, y8⟩ := hs5.f9 HLA.out
            clear hia hga hgl HHID ha0 ha1 hneg
            go_wp2
            go_region_held3 (fun w' => w'.cell? ⟨bf, 0, none⟩ = some (.int .i64 f.u0) ∧ w'.cell? ⟨bf, 1, none⟩ = some (.slice f.ga f.gn f.gc) ∧ w'.cell? ⟨bf, 2, none⟩ = some (.slice f.ca f.cn f.cc) ∧ w'.cell? ⟨bf, 3, none⟩ = some (.slice (some ⟨lb, lo', none⟩) f.ln f.lc) ∧ w'.cell? ⟨bf, 4, none⟩ = some (.slice f.a4 f.n4 f.c4) ∧ w'.cell? ⟨bf, 5, none⟩ = some (.slice f.a5 f.n5 f.c5) ∧ w'.cell? ⟨bf, 6, none⟩ = some (.slice f.a6 f.n6 f.c6) ∧ w'.cell? ⟨bf, 7, none⟩ = some (.slice f.a7 f.n7 f.c7) ∧ w'.cell? ⟨bf, 8, none⟩ = some (.slice f.a8 f.n8 f.c8) ∧ w'.cell? ⟨gi, q * 6, none⟩ = some (.int .i64 ia.g)) (first | (with_reducible exact z) | go_keep) (first
              | (go_at_call 33; (with_reducible refine (C1.out _ ?_).mono ?_); exact hs5.drew_.fontU; rintro e w6 ⟨rfl, hb6⟩; have hs6 := hs5.call (below_undrew hb6); obtain ⟨z0, z1, z2, z3, z4, z5, z6, z7, z8⟩ := hs6.f9 HLA.out; have zg := cell_call (w := wc) ga0 (below_undrew hb6); have z := And.intro z0 (And.intro z1 (And.intro z2 (And.intro z3 (And.intro z4 (And.intro z5 (And.intro z6 (And.intro z7 (And.intro z8 zg))))))))))
            have gb6 := cell_call gb0 (below_undrew hb6)
            clear z hb6 hs5 ga0 gb0 C1 y0 y1 y2 y3 y4 y5 y6 y7 y8 z0 z1 z2 z3 z4 z5 z6 z7 z8 zg
            obtain ⟨y0, y1, y2, y3, y4, y5, y6, y7, y8⟩ := hs6.f9 HLA.out
            go_wp2
            go_region_held3 (fun w' => w'.cell? ⟨bf, 0, none⟩ = some (.int .i64 f.u0) ∧ w'.cell? ⟨bf, 1, none⟩ = some (.slice f.ga f.gn f.gc) ∧ w'.cell? ⟨bf, 2, none⟩ = some (.slice f.ca f.cn f.cc) ∧ w'.cell? ⟨bf, 3, none⟩ = some (.slice (some ⟨lb, lo', none⟩) f.ln f.lc) ∧ w'.cell? ⟨bf, 4, none⟩ = some (.slice f.a4 f.n4 f.c4) ∧ w'.cell? ⟨bf, 5, none⟩ = some (.slice f.a5 f.n5 f.c5) ∧ w'.cell? ⟨bf, 6, none⟩ = some (.slice f.a6 f.n6 f.c6) ∧ w'.cell? ⟨bf, 7, none⟩ = some (.slice f.a7 f.n7 f.c7) ∧ w'.cell? ⟨bf, 8, none⟩ = some (.slice f.a8 f.n8 f.c8) ∧ w'.cell? ⟨gi, j * 6, none⟩ = some (.int .i64 ib.g)) (first | (with_reducible exact z) | go_keep) (first
              | (go_at_call 33; (with_reducible refine (C2.out _ ?_).mono ?_); exact hs6.drew_.fontU; rintro e w7 ⟨rfl, hb7⟩; have hs7 := hs6.call (below_undrew hb7); obtain ⟨z0, z1, z2, z3, z4, z5, z6, z7, z8⟩ := hs7.f9 HLA.out; have zg := cell_call (w := w6) gb6 (below_undrew hb7); have z := And.intro z0 (And.intro z1 (And.intro z2 (And.intro z3 (And.intro z4 (And.intro z5 (And.intro z6 (And.intro z7 (And.intro z8 zg))))))))))
            clear z hb7 hs6 gb6 C2 y0 y1 y2 y3 y4 y5 y6 y7 y8 z0 z1 z2 z3 z4 z5 z6 z7 z8 zg
            by_cases k1 : o1.isSome = true
            · by_cases k2 : o2.isSome = true
              · have HST := Lib.hid (HJ.out k1 k2)
                clear HN HJ
                rw [k1, k2]
                clear k1 k2
                have hcd := hs7.own.hd
                have HPa := Lib.hid fun (W : World) (h : RdI W (lo W.heap.size) (some ⟨gi, 0, none⟩) n1 r) => rpen_d (some ⟨gi, 0, none⟩) n1 c1 q r W h hcd (by omega) (by omega)
                have HPb := Lib.hid fun (W : World) (h : RdI W (lo W.heap.size) (some ⟨gi, 0, none⟩) n1 r) => rpen_d (some ⟨gi, 0, none⟩) n1 c1 j r W h hcd (by omega) (by omega)
                have HRI := Lib.hid hs7.own.rdI
                have xa := hs7.own.cell (itc_at HIA.out (j := 4) (v := .int .i64 ia.x) rfl)
                clear hcd
                go_wp2
                go_quiet ((go_at_call 34; (first | (with_reducible refine quiet_d (HPa.out _ ?_)) | (with_reducible refine quiet_add_d (HPa.out _ ?_))); exact HRI.out))
                have hs8 := hs7.drewN_ nq
                clear HRI xa hs7 HPa
                generalize w7.drewN nq = w8 at hs8 ⊢
                have HRI := Lib.hid hs8.own.rdI
                have xb := hs8.own.cell (itc_at HIB.out (j := 4) (v := .int .i64 ib.x) rfl)
                have x3a := hs8.own.cell (itc_at HIA.out (j := 3) (v := .int .i64 ia.a) rfl)
                have f3a := hs8.own.frozen (q * 6 + 3)
                go_wp2
                go_quiet ((go_at_call 34; (first | (with_reducible refine quiet_d (HPb.out _ ?_)) | (with_reducible refine quiet_add_d (HPb.out _ ?_))); exact HRI.out))
                go_upto_region 16 with fail
                have h9 := (hs8.drewN_ nq).store (q * 6 + 3) (.int .i64 (wrap64 (wrap64 (ia.a + wrap64 (wrap64 (widthL w64 (List.take q r) + ia.x) + ax o1)) - wrap64 (wrap64 (widthL w64 (List.take j r) + ib.x) + ax o2)))) (itc_setj (it' := { ia with a := wrap64 (wrap64 (ia.a + wrap64 (wrap64 (widthL w64 (List.take q r) + ia.x) + ax o1)) - wrap64 (wrap64 (widthL w64 (List.take j r) + ib.x) + ax o2)) }) HIA.out rfl (by omega))
                clear HRI xb x3a f3a hs8 HPb
                generalize (w8.drewN nq).setCell ⟨gi, q * 6 + 3, none⟩ (.int .i64 (wrap64 (wrap64 (ia.a + wrap64 (wrap64 (widthL w64 (List.take q r) + ia.x) + ax o1)) - wrap64 (wrap64 (widthL w64 (List.take j r) + ib.x) + ax o2)))) = w9 at h9 ⊢
                have i7a : (r.set q { ia with a := wrap64 (wrap64 (ia.a + wrap64 (wrap64 (widthL w64 (List.take q r) + ia.x) + ax o1)) - wrap64 (wrap64 (widthL w64 (List.take j r) + ib.x) + ax o2)) })[q]? = some { ia with a := wrap64 (wrap64 (ia.a + wrap64 (wrap64 (widthL w64 (List.take q r) + ia.x) + ax o1)) - wrap64 (wrap64 (widthL w64 (List.take j r) + ib.x) + ax o2)) } := List.getElem?_set_self (List.getElem?_eq_some_iff.1 HIA.out).1
                have i7b : (r.set q { ia with a := wrap64 (wrap64 (ia.a + wrap64 (wrap64 (widthL w64 (List.take q r) + ia.x) + ax o1)) - wrap64 (wrap64 (widthL w64 (List.take j r) + ib.x) + ax o2)) })[j]? = some ib := by rw [List.getElem?_set_ne (by omega)]; exact HIB.out
                have y5a := h9.own.cell (itc_at i7a (j := 5) (v := .int .i64 ia.y) rfl)
                have y5b := h9.own.cell (itc_at i7b (j := 5) (v := .int .i64 ib.y) rfl)
                have f5b := h9.own.frozen (j * 6 + 5)
                have I7B := Lib.hid i7b
                clear i7a i7b
                go_wp2
                go_roundw
                case rel => exact ⟨j + 1, ((j : Int), (r.set q { ia with a := wrap64 (wrap64 (ia.a + wrap64 (wrap64 (widthL w64 (List.take q r) + ia.x) + ax o1)) - wrap64 (wrap64 (widthL w64 (List.take j r) + ib.x) + ax o2)) }).set j { ib with y := wrap64 (wrap64 (ia.y + ay o1) - ay o2) }), by omega, by go_num, rfl, by rw [HSC.out, HST.out], by show (-1 : Int) ≤ (j : Int); omega, by show (j : Int) < ((j + 1 : Nat) : Int); omega, h9.store (j * 6 + 5) (.int .i64 (wrap64 (wrap64 (ia.y + ay o1) - ay o2))) (itc_setj (it' := { ib with y := wrap64 (wrap64 (ia.y + ay o1) - ay o2) }) I7B.out rfl (by omega))⟩
                case measure => simp [intOf]; omega
              · have k2' : o2.isSome = false := by simpa using k2
                have HST := Lib.hid (HN.out (.inr k2'))
                clear HN HJ
                rw [k1, k2']
                clear k1 k2 k2'
                go_wp2
                go_roundw
                case rel => exact ⟨j + 1, ((j : Int), r), by omega, by go_num, rfl, by rw [HSC.out, HST.out], by show (-1 : Int) ≤ (j : Int); omega, by show (j : Int) < ((j + 1 : Nat) : Int); omega, hs7⟩
                case measure => simp [intOf]; omega
            · have k1' : o1.isSome = false := by simpa using k1
              have HST := Lib.hid (HN.out (.inl k1'))
              clear HN HJ
              rw [k1']
              clear k1 k1'
              go_wp2
              go_roundw
              case rel => exact ⟨j + 1, ((j : Int), r), by omega, by go_num, rfl, by rw [HSC.out, HST.out], by show (-1 : Int) ≤ (j : Int); omega, by show (j : Int) < ((j + 1 : Nat) : Int); omega, hs7⟩
              case measure => simp [intOf]; omega
      · have hge : decide ((j : Int) < (n1 : Int)) = false := by simp; omega
        have hjn : j = n1 := by omega
        subst hjn
        have hres : R = r := by rw [HRES.out, ← hst]
        have HRE := Lib.hid hres
        clear hres hst
        go_wp2
        go_ret
        exact ⟨_, _, _, rfl, by rw [HRE.out]; exact hsr.own.lower (by rw [hbf]; exact hw0), HB0.out.trans (hsr.bw.mono (by rw [hbf]; exact hw0))⟩
  · have e1 : ((kiOf F lookup).1 != 7) = true := by simpa using h7
    have hres : R = run := by rw [HR.out, if_neg h7]
    have HRES := Lib.hid hres
    clear hres HR
    go_wp2
    go_ret
    exact ⟨_, _, _, rfl, by rw [HRES.out]; exact hs2.own.lower (by rw [hbf]; exact hw0), HB0.out.trans (hs2.bw.mono (by rw [hbf]; exact hw0))⟩

end Go.Proofs.YtbjcbcdccekbkaaGreat
