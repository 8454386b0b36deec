/- Walk: RulesReverse. -/
import Derived.Test.YtkoocipagndclaaX1
import Derived.Test.YtkoocipagndclaaN6
import Derived.Handy
namespace Go.Proofs.Ytkoocipagndclaa
open Go.RowKit Go.Shelf

theorem erul_len {w : World} {S : Nat → Prop} : ∀ cs x, ERul w S cs x → cs.length = 6 := fun cs x ⟨_, _, _, _, _, _, _, _, _, _, _, _, _, _, _, e, _⟩ => by rw [e]; rfl
theorem ERul.call {w w' : World} {cs : List Value} {x : Rul} (h : ERul w (lo w.heap.size) cs x) (k : Below w.heap.size w w') : ERul w' (lo w'.heap.size) cs x := h.mono (lo_mono k.size) (kept_below k)
/-- What the law makes of a rule. -/
def flR (r : Rul) : Option Rul := match r.inn with | [] => none | s :: _ => some ⟨[], [s], [], r.out, [], 0⟩
def flL (rs : List Rul) (i : Nat) : List Rul := (rs.take i).filterMap flR
theorem flL_none {rs : List Rul} {i : Nat} {r : Rul} (h : rs[i]? = some r) (h0 : r.inn = []) : flL rs (i + 1) = flL rs i := by
  unfold flL; rw [List.take_add_one, h, Option.toList_some, List.filterMap_append]
  simp [flR, h0]
theorem flL_some {rs : List Rul} {i : Nat} {r : Rul} {s : List Int} {t : List (List Int)} (h : rs[i]? = some r) (h0 : r.inn = s :: t) : flL rs (i + 1) = flL rs i ++ [⟨[], [s], [], r.out, [], 0⟩] := by
  unfold flL; rw [List.take_add_one, h, Option.toList_some, List.filterMap_append]
  simp [flR, h0]
theorem flL_mem {rs : List Rul} {i : Nat} {r : Rul} (h : r ∈ flL rs i) : ∃ x ∈ rs, ∃ s ∈ x.inn, r = ⟨[], [s], [], x.out, [], 0⟩ := by
  unfold flL at h
  obtain ⟨x, hx, hf⟩ := List.mem_filterMap.1 h
  unfold flR at hf
  split at hf
  · cases hf
  · rename_i s t e
    injection hf with hf
    exact ⟨x, List.mem_of_mem_take hx, s, by rw [e]; exact List.mem_cons_self .., hf.symm⟩
theorem flL_len (rs : List Rul) (i : Nat) : (flL rs i).length ≤ rs.length := by
  unfold flL
  refine Nat.le_trans (List.length_filterMap_le _ _) ?_
  rw [List.length_take]; omega
theorem flL_flat {rs : List Rul} {i : Nat} : ∀ r ∈ flL rs i, FlatR r := fun r hr => by
  obtain ⟨x, _, s, _, rfl⟩ := flL_mem hr
  exact ⟨rfl, rfl, rfl⟩
/-- The font with one lookup put in another's place. -/
def setLk (F : Fnt) (q : Nat) (lk : Lk) : Fnt := ⟨F.gly, F.lks.set q lk⟩
theorem setLk_at {F : Fnt} {q : Nat} {l0 lk : Lk} (h : F.lks[q]? = some l0) : lkAt (setLk F q lk) (q : Int) = some lk := by
  unfold lkAt setLk
  rw [if_neg (by omega), Int.toNat_natCast, List.getElem?_set_self (List.getElem?_eq_some_iff.1 h).1]
theorem setLk_sm {F : Fnt} {q : Nat} {lk : Lk} (h : SmF F) (h1 : lk.rules.length ≤ 1000000) (h2 : ∀ r ∈ lk.rules, SmR r) : SmF (setLk F q lk) := fun l hl => by
  rcases List.mem_or_eq_of_mem_set hl with hl | hl
  · exact h l hl
  · rw [hl]; exact ⟨h1, h2⟩
theorem setLk_o {F : Fnt} {q : Nat} {lk : Lk} (h : SmO F) (h2 : ∀ r ∈ lk.rules, r.out.length ≤ 1000000) : SmO (setLk F q lk) := fun l hl => by
  rcases List.mem_or_eq_of_mem_set hl with hl | hl
  · exact h l hl
  · rw [hl]; exact h2
theorem fl_sm {F : Fnt} {q : Nat} {lk : Lk} {k : Int} {b : Bool} (h : SmF F) (hq : F.lks[q]? = some lk) (i : Nat) : SmF (setLk F q ⟨k, b, flL lk.rules i⟩) := by
  obtain ⟨h1, h2⟩ := h lk (List.mem_of_getElem? hq)
  refine setLk_sm h (Nat.le_trans (flL_len _ _) h1) fun r hr => ?_
  obtain ⟨x, hx, s, hs, rfl⟩ := flL_mem hr
  obtain ⟨_, ⟨_, b2⟩, _⟩ := h2 x hx
  exact ⟨⟨by simp, fun s hs => by cases hs⟩, ⟨by simp, fun t ht => by rw [List.mem_singleton] at ht; rw [ht]; exact b2 s hs⟩, ⟨by simp, fun s hs => by cases hs⟩⟩
theorem fl_o {F : Fnt} {q : Nat} {lk : Lk} {k : Int} {b : Bool} (h : SmO F) (hq : F.lks[q]? = some lk) (i : Nat) : SmO (setLk F q ⟨k, b, flL lk.rules i⟩) := by
  refine setLk_o h fun r hr => ?_
  obtain ⟨x, hx, s, hs, rfl⟩ := flL_mem hr
  exact h lk (List.mem_of_getElem? hq) x hx
theorem rev_law {F : Fnt} {q : Nat} {lk : Lk} {b : Bool} {run : List Itm} {forms : List Int} (hq : F.lks[q]? = some lk) (i : Nat) : applyL w64 (setLk F q ⟨1, b, flL lk.rules i⟩) (q : Int) run forms = applyL w64 (setLk F q ⟨5, b, flL lk.rules i⟩) (q : Int) run forms ∧ (applyL w64 (setLk F q ⟨1, b, flL lk.rules i⟩) (q : Int) run forms).length = run.length :=
  reverse_law (lk := ⟨1, b, flL lk.rules i⟩) (setLk_at hq) (setLk_at hq) rfl flL_flat
theorem rdv_one {w : World} {S : Nat → Prop} {A : Option Addr} {n : Nat} {s : List Int} {t : List (List Int)} {xs : List (List Int)} (h : RdV w S A n xs) (e : xs = s :: t) : RdV w S A 1 [s] := by
  subst e
  have h1 : RdV w S A 1 _ := h.take 1 (by have := h.len; simp at this; omega)
  rw [List.take_succ_cons, List.take_zero] at h1
  exact h1
theorem ne_row {A : Option Addr} {g : Nat} (h : ∀ b o s, A = some ⟨b, o, s⟩ → b < g) : some g ≠ A.map (·.block) := by
  cases A with
  | none => simp
  | some a =>
    obtain ⟨b, o, s⟩ := a
    have := h b o s rfl
    simp; omega
theorem font_own {W : World} {f : FV} {F : Fnt} (h : IsF W (lo W.heap.size) f F) {A : Option Addr} {n c : Nat} {lks : List Lk} (h1 : RdL W (lo W.heap.size) A n lks) (h2 : Hd n c) : IsF W (lo W.heap.size) { f with la := A, ln := n, lc := c } ⟨F.gly, lks⟩ := ⟨h.1, h1, h.2.2.1, h2⟩
set_option maxRecDepth 100000 in
set_option maxHeartbeats 4000000 in
theorem rulesReverse_walk (f : FV) (F : Fnt) (n : Int) (RA : Option Addr) (rn rc : Nat) (run : List Itm) (k : Int) (FA : Option Addr) (fn fc : Nat) (forms : List Int) (w : World) (hf : IsF w (lo w.heap.size) f F) (hI : RdI w (lo w.heap.size) RA rn run) (hd : Hd rn rc) (hF : Rd w (lo w.heap.size) FA fn forms) (hfd : Hd fn fc) :
    Calls Try.prog 10 #[.agg (askC f n RA rn rc k FA fn fc)] w (TP w) := by
  have hrnM : rn ≤ 9223372036854775807 := Nat.le_trans hd.1 hd.2
  have hfnM : fn ≤ 9223372036854775807 := Nat.le_trans hfd.1 hfd.2
  have hs_0 := AS.new (n := n) (k := k) (rc := rc) (fc := fc) hf hI hF
  unfold askC at hs_0 ⊢
  go_enter Try.func10, Try.ntmps10
  go_upto_region 1 with fail
  generalize w.alloc (.cells #[.int .i64 f.u0, .slice f.ga f.gn f.gc, .slice f.ca f.cn f.cc, .slice f.la f.ln f.lc, .slice f.a4 f.n4 f.c4, .slice f.a5 f.n5 f.c5, .slice f.a6 f.n6 f.c6, .slice f.a7 f.n7 f.c7, .slice f.a8 f.n8 f.c8, .int .i64 n, .slice RA rn rc, .int .i64 k, .slice FA fn fc] 34) = w0 at hs_0 ⊢
  generalize hbf : w.heap.size = bf at hs_0 ⊢
  clear hf hI hF
  have HC := Lib.hid (big11_c f F RA rn rc run w0 hs_0.hf hs_0.hI hrnM)
  unfold FV.cells at HC
  obtain ⟨y0, y1, y2, y3, y4, y5, y6, y7, y8, y9, y10, y11, y12⟩ := hs_0.cells
  go_wp2_with fail
  refine HC.out.mono ?_
  rintro e w1 ⟨rfl, b1⟩
  clear HC y0 y1 y2 y3 y4 y5 y6 y7 y8 y9 y10 y11 y12
  have hs_1 := hs_0.call b1
  clear hs_0 b1
  cases hbig : big11 F run with
  | true =>
    obtain ⟨y0, y1, y2, y3, y4, y5, y6, y7, y8, y9, y10, y11, y12⟩ := hs_1.cells
    go_wp2_with fail
    refine (ruled_c _).mono ?_
    rintro e w9 ⟨rfl, b9⟩
    go_wp2
    go_ret
    exact ⟨rfl, below_call hs_1.bw b9⟩
  | false =>
    have hsm := small11 hbig
    have hrn : rn ≤ 300 := by have := hs_1.hI.len; have := hsm.run; omega
    have HSM := Lib.hid hsm
    have HRL := Lib.hid hs_1.hI.len
    clear hbig hsm
    by_cases hneg : n < 0
    · have tn : decide (n < 0) = true := by simp; omega
      obtain ⟨y0, y1, y2, y3, y4, y5, y6, y7, y8, y9, y10, y11, y12⟩ := hs_1.cells
      go_wp2_with fail
      refine (ruled_c _).mono ?_
      rintro e w9 ⟨rfl, b9⟩
      go_wp2
      go_ret
      exact ⟨rfl, below_call hs_1.bw b9⟩
    · have tn : decide (n < 0) = false := by simp; omega
      by_cases hbg : (f.ln : Int) ≤ n
      · have tb : decide ((f.ln : Int) ≤ n) = true := by simp; omega
        obtain ⟨y0, y1, y2, y3, y4, y5, y6, y7, y8, y9, y10, y11, y12⟩ := hs_1.cells
        go_wp2_with fail
        refine (ruled_c _).mono ?_
        rintro e w9 ⟨rfl, b9⟩
        go_wp2
        go_ret
        exact ⟨rfl, below_call hs_1.bw b9⟩
      · have tb : decide ((f.ln : Int) ≤ n) = false := by simp; omega
        obtain ⟨q, rfl⟩ : ∃ q : Nat, n = (q : Int) := ⟨n.toNat, by omega⟩
        have tb' : decide (f.ln ≤ q) = false := by simp; omega
        have qz : (0 : Int) ≤ (q : Int) := by omega
        have ql : (q : Int) < (f.ln : Int) := by omega
        have hqN : q < f.ln := by omega
        obtain ⟨lk, hlk⟩ := at_some F.lks q (by have := hs_1.hf.2.1.len; omega)
        have HLK := Lib.hid hlk
        have HFL := Lib.hid (show f.ln ≤ 40 by have := hs_1.hf.2.1.len; have := HSM.out.lks; omega)
        clear hneg hbg hlk
        obtain ⟨y0, y1, y2, y3, y4, y5, y6, y7, y8, y9, y10, y11, y12⟩ := hs_1.cells
        go_upto_region 4 with fail
        clear y0 y1 y2 y3 y4 y5 y6 y7 y8 y9 y10 y11 y12
        have bE : Below w1.heap.size w1 (w1.alloc (.cells #[] 44)) := (Below.refl _ _).alloc (Nat.le_refl _) _
        have oE := own_empty w1 44 3
        have hsE := hs_1.call bE
        obtain ⟨css, hrow, hnl, hnews⟩ := RowOf.news (SlE.mono hs_1.hf.2.1 (fun _ h => h) (kept_below bE) (fun _ _ h => h)) elk_len
        have HROW := Lib.hid hrow
        have HNL := Lib.hid hnl
        have HNW := Lib.hid hnews
        have HONE := Lib.hid (hrow.one_cells elk_one)
        have hfl := HFL.out
        clear hrow hnl hnews
        obtain ⟨y0, y1, y2, y3, y4, y5, y6, y7, y8, y9, y10, y11, y12⟩ := hsE.cells
        go_upto_region 5 with (at_builtin; refine appP elt_look rfl _ _ rfl _ w1.heap.size _ _ _ [] _ _ _ css.flatten (by rfl) (by rfl) oE HNL.out HNW.out HONE.out (by omega) bE.size ?_; intro A2 c2 w2 o2 hg hb hat)
        rw [Nat.zero_add] at o2
        replace o2 : Ow 44 3 w2 w1.heap.size A2 f.ln c2 css.flatten := o2
        have b2 := bE.trans hb
        have hs2 := hs_1.call b2
        clear hg hb hat bE oE hsE HNL HNW HONE y0 y1 y2 y3 y4 y5 y6 y7 y8 y9 y10 y11 y12
        obtain ⟨g2, hA2, hgb, hgl⟩ := o2.form (by omega)
        subst hA2
        obtain ⟨cs, hcs, ⟨LA, ln, lc, hce, hRR, hRd⟩, _⟩ := HROW.out.at HLK.out
        subst hce
        have HCS := Lib.hid hcs
        have HRLN := Lib.hid hRR.len
        have HRR := Lib.hid hRR
        have hln12 : ln ≤ 12 := by have := HSM.out.rl lk (List.mem_of_getElem? HLK.out); have := HRLN.out; omega
        clear hcs hRR hRd
        obtain ⟨y0, y1, y2, y3, y4, y5, y6, y7, y8, y9, y10, y11, y12⟩ := hs2.cells
        go_upto_region 6 with fail
        clear y0 y1 y2 y3 y4 y5 y6 y7 y8 y9 y10 y11 y12
        have b3 : Below w2.heap.size w2 (w2.alloc (.cells #[] 48)) := (Below.refl _ _).alloc (Nat.le_refl _) _
        have oR := own_empty w2 48 6
        go_wp2
        go_loopw [4, 5] (fun s4 s5 wr => ∃ (i m c : Nat) (A : Option Addr) (ds : List (List Value)), s4 = .slice A m c ∧ s5 = .int .i64 (i : Int) ∧ i ≤ ln ∧ m ≤ i ∧ Ow 48 6 wr w2.heap.size A m c ds.flatten ∧ RowOf 6 (ERul w1 (lo w1.heap.size)) ds (flL lk.rules i) ∧ Below w2.heap.size w2 wr) (fun _ s _ => ln - (intOf s).toNat)
        case atStart => exact ⟨0, 0, 0, _, [], rfl, rfl, by omega, by omega, oR, RowOf.nil, b3⟩
        case round =>
          obtain ⟨i, m, c, A, ds, rfl, rfl, hi, hm, ho, hds, hbr⟩ := hrel
          have HO := Lib.hid ho
          have HDS := Lib.hid hds
          have HBR := Lib.hid hbr
          have hsr := hs2.call hbr
          have o2r := o2.call hbr
          have lq : wr.cell? ⟨g2, q * 3 + 2, none⟩ = some (.slice LA ln lc) := o2r.cell (flat_at HROW.out.2.1 HCS.out rfl)
          clear oR b3 ho hds hbr
          by_cases hil : i < ln
          · have iz : (0 : Int) ≤ (i : Int) := by omega
            have il : (i : Int) < (ln : Int) := by omega
            obtain ⟨r, hr⟩ := at_some lk.rules i (by have := HRLN.out; omega)
            have hb1r : Below w1.heap.size w1 wr := b2.trans (HBR.out.mono b2.size)
            obtain ⟨rb, ro, A1, n1, c1, A2', n2, c2', A3, n3, c3, A4, n4, c4, A5, n5, c5, hLA, r0, r1, r2, r3, r4, r5, h1, h2, h3, h4, h5, d1, d2, d3, d4, d5⟩ := rule_at HRR.out hr
            subst hLA
            replace r0 := cell_call r0 hb1r; replace r1 := cell_call r1 hb1r; replace r2 := cell_call r2 hb1r; replace r3 := cell_call r3 hb1r; replace r4 := cell_call r4 hb1r; replace r5 := cell_call r5 hb1r
            have HH := Lib.hid (And.intro h2 (And.intro h4 (And.intro d2 d4)))
            have HR := Lib.hid hr
            obtain ⟨y0, y1, y2, y3, y4, y5, y6, y7, y8, y9, y10, y11, y12⟩ := hsr.cells
            clear h1 h2 h3 h4 h5 d1 d2 d3 d4 d5 hr
            go_upto_region 10 with fail
            have kx := Bk.new wr 48 #[.slice A1 n1 c1, .slice A2' n2 c2', .slice A3 n3 c3, .slice A4 n4 c4, .slice A5 n5 c5, .int .i64 r.x]
            have b4 : Below wr.heap.size wr (wr.alloc (.cells #[.slice A1 n1 c1, .slice A2' n2 c2', .slice A3 n3 c3, .slice A4 n4 c4, .slice A5 n5 c5, .int .i64 r.x] 48)) := (Below.refl _ _).alloc (Nat.le_refl _) _
            generalize wr.alloc (.cells #[.slice A1 n1 c1, .slice A2' n2 c2', .slice A3 n3 c3, .slice A4 n4 c4, .slice A5 n5 c5, .int .i64 r.x] 48) = w4 at *
            have o4 := HO.out.call b4
            have HLTA := Lib.hid (show ∀ b o s, A = some ⟨b, o, s⟩ → b < wr.heap.size from fun b o s e => (HO.out.lt b o s e).2)
            have HB4 := Lib.hid (HBR.out.trans (b4.mono HBR.out.size))
            have h2 := HH.out.1
            have h4 := HH.out.2.1
            clear r0 r1 r2 r3 r4 r5 lq y0 y1 y2 y3 y4 y5 y6 y7 y8 y9 y10 y11 y12 HO o2r hb1r
            generalize wr.heap.size = gx at *
            have x1 : w4.cell? ⟨gx, 1, none⟩ = some (.slice A2' n2 c2') := kx.cell 1
            have x3 : w4.cell? ⟨gx, 3, none⟩ = some (.slice A4 n4 c4) := kx.cell 3
            by_cases hn2 : n2 = 0
            · have t0 : decide ((0 : Int) < (n2 : Int)) = false := by simp; omega
              have t0' : decide (0 < n2) = false := by simp; omega
              have HF := Lib.hid (flL_none HR.out (List.eq_nil_of_length_eq_zero (h2.len.trans hn2)))
              clear hn2
              go_wp2
              go_roundw
              case rel => exact ⟨i + 1, m, c, A, ds, rfl, by go_num, by omega, by omega, o4, by rw [HF.out]; exact HDS.out, HB4.out⟩
              case measure => simp [intOf]; omega
            · have t0 : decide ((0 : Int) < (n2 : Int)) = true := by simp; omega
              have t0' : decide (0 < n2) = true := by simp; omega
              have hc2 : (1 : Int) ≤ (c2' : Int) := by have := HH.out.2.2.1.1; omega
              obtain ⟨s, t, hst⟩ : ∃ s t, r.inn = s :: t := by
                cases e : r.inn with
                | nil => exact absurd (by have := h2.len; rw [e] at this; simpa using this.symm) hn2
                | cons s t => exact ⟨s, t, rfl⟩
              have HF := Lib.hid (flL_some HR.out hst)
              have HER := Lib.hid (show ERul w1 (lo w1.heap.size) [.slice none 0 0, .slice A2' 1 c2', .slice none 0 0, .slice A4 n4 c4, .slice none 0 0, .int .i64 0] ⟨[], [s], [], r.out, [], 0⟩ from ⟨none, 0, 0, A2', 1, c2', none, 0, 0, A4, n4, c4, none, 0, 0, rfl, SlE.nil, rdv_one h2 hst, SlE.nil, h4, SlE.nil, ⟨Nat.le_refl _, by omega⟩, ⟨by have := HH.out.2.2.1.1; omega, HH.out.2.2.1.2⟩, ⟨Nat.le_refl _, by omega⟩, HH.out.2.2.2, ⟨Nat.le_refl _, by omega⟩⟩)
              have HS := Lib.hid fun (W : World) (bW : Below w4.heap.size w4 W) => (show W.cell? ⟨gx, 1, none⟩ = some (.slice A2' n2 c2') ∧ W.cell? ⟨gx, 3, none⟩ = some (.slice A4 n4 c4) from ⟨(kx.call bW).cell 1, (kx.call bW).cell 3⟩)
              have bb := Below.refl w4.heap.size w4
              clear hst hn2
              go_wp2
              refine wp_region_held_drew (S := fun w' => w'.cell? ⟨gx, 1, none⟩ = some (.slice A2' n2 c2') ∧ w'.cell? ⟨gx, 3, none⟩ = some (.slice A4 n4 c4)) (by kernel_rfl) ?_ (fun hHeld => ?_)
              · exact HS.out _ (below_drewN bb 1)
              replace bb := below_drewN bb 1
              change Below _ _ w4.drew at bb
              generalize hw0 : w4.drew = W0 at hHeld bb ⊢
              clear hw0
              refine wpAnyH_take (i := 0) (v := ?_) (by simp only [List.getElem?_toArray]; rfl) (by kernel_rfl) (by kernel_rfl) (by kernel_rfl) (by exact fun _ _ _ h => h) (Or.inl ⟨by rfl, ?_⟩) (by assumption) ?_
              rotate_left 1
              · intro w hSw; (try dsimp only at hSw); go_simp; try with_reducible rfl
              try conv => arg 8; simp only [Act.put, List.setIfInBounds_toArray, List.set_cons_zero, List.set_cons_succ]
              refine wpAnyH_take (i := 1) (v := ?_) (by simp only [List.getElem?_toArray]; rfl) (by kernel_rfl) (by kernel_rfl) (by kernel_rfl) (by exact fun _ _ _ h => h) (Or.inl ⟨by rfl, ?_⟩) (by assumption) ?_
              rotate_left 1
              · intro w hSw; (try dsimp only at hSw); go_simp; try with_reducible rfl
              try conv => arg 8; simp only [Act.put, List.setIfInBounds_toArray, List.set_cons_zero, List.set_cons_succ]
              refine wpAnyH_take (i := 2) (v := ?_) (by simp only [List.getElem?_toArray]; rfl) (by kernel_rfl) (by kernel_rfl) (by kernel_rfl) (by exact fun _ _ _ h => h) (Or.inl ⟨by rfl, ?_⟩) (by assumption) ?_
              rotate_left 1
              · intro w hSw; (try dsimp only at hSw); go_simp; try with_reducible rfl
              try conv => arg 8; simp only [Act.put, List.setIfInBounds_toArray, List.set_cons_zero, List.set_cons_succ]
              refine wpAnyH_take (i := 3) (v := ?_) (by simp only [List.getElem?_toArray]; rfl) (by kernel_rfl) (by kernel_rfl) (by kernel_rfl) (by exact fun _ _ _ h => h) (Or.inl ⟨by rfl, ?_⟩) (by assumption) ?_
              rotate_left 1
              · intro w hSw; (try dsimp only at hSw); go_simp; try with_reducible rfl
              try conv => arg 8; simp only [Act.put, List.setIfInBounds_toArray, List.set_cons_zero, List.set_cons_succ]
              refine wpAnyH_take (i := 4) (v := ?_) (by simp only [List.getElem?_toArray]; rfl) (by kernel_rfl) (by kernel_rfl) (by kernel_rfl) (by exact fun _ _ _ h => h) (Or.inl ⟨by rfl, ?_⟩) (by assumption) ?_
              rotate_left 1
              · intro w hSw; (try dsimp only at hSw); go_simp; try with_reducible rfl
              try conv => arg 8; simp only [Act.put, List.setIfInBounds_toArray, List.set_cons_zero, List.set_cons_succ]
              refine wpAnyH_take (i := 5) (v := ?_) (by simp only [List.getElem?_toArray]; rfl) (by kernel_rfl) (by kernel_rfl) (by kernel_rfl) (by exact fun _ _ _ h => h) (Or.inl ⟨by rfl, ?_⟩) (by assumption) ?_
              rotate_left 1
              · intro w hSw; (try dsimp only at hSw); go_simp; try with_reducible rfl
              try conv => arg 8; simp only [Act.put, List.setIfInBounds_toArray, List.set_cons_zero, List.set_cons_succ]
              refine wpAnyH_take (i := 6) (v := ?_) (by simp only [List.getElem?_toArray]; rfl) (by kernel_rfl) (by kernel_rfl) (by kernel_rfl) (by exact fun _ _ _ h => h) (Or.inl ⟨by rfl, ?_⟩) (by assumption) ?_
              rotate_left 1
              · intro w hSw; (try dsimp only at hSw); go_simp; try with_reducible rfl
              try conv => arg 8; simp only [Act.put, List.setIfInBounds_toArray, List.set_cons_zero, List.set_cons_succ]
              refine wpAnyH_ready (rs := [7]) (by kernel_rfl) (by simp) ?_
              refine AllReadyH.cons (by simp only [List.getElem?_toArray]; rfl) (fun K hK => ?_) AllReadyH.nil
              refine wanted_pos (by kernel_rfl) ?_
              go_simp
              clear hHeld
              refine hK.out _ _ ?_ (fun hHeld => ?_)
              · exact HS.out _ (below_lit _ _ bb _)
              clear hK K
              try conv => arg 8; simp only [Act.put, List.setIfInBounds_toArray, List.set_cons_zero, List.set_cons_succ]
              have bn : Below W0.heap.size W0 (W0.alloc (.cells #[.slice none 0 0, .slice A2' 1 c2', .slice none 0 0, .slice A4 n4 c4, .slice none 0 0, .int .i64 0] 48)) := (Below.refl _ _).alloc (Nat.le_refl _) _
              have hnw := news_new W0 [.slice none 0 0, .slice A2' 1 c2', .slice none 0 0, .slice A4 n4 c4, .slice none 0 0, .int .i64 0] 48
              have o1 := (o4.below bb (Nat.le_refl _)).alloc (.cells #[.slice none 0 0, .slice A2' 1 c2', .slice none 0 0, .slice A4 n4 c4, .slice none 0 0, .int .i64 0] 48)
              replace bb := below_lit _ _ bb (.cells #[.slice none 0 0, .slice A2' 1 c2', .slice none 0 0, .slice A4 n4 c4, .slice none 0 0, .int .i64 0] 48)
              clear bn
              generalize W0.alloc (.cells #[.slice none 0 0, .slice A2' 1 c2', .slice none 0 0, .slice A4 n4 c4, .slice none 0 0, .int .i64 0] 48) = W1 at *
              generalize W0.heap.size = gn at *
              refine wpAnyH_ready (rs := [8]) (by kernel_rfl) (by simp) ?_
              refine AllReadyH.cons (by simp only [List.getElem?_toArray]; rfl) (fun K hK => ?_) AllReadyH.nil
              refine appStep elt_rule (by kernel_rfl) _ _ rfl _ w2.heap.size _ _ _ _ _ _ _ [.slice none 0 0, .slice A2' 1 c2', .slice none 0 0, .slice A4 n4 c4, .slice none 0 0, .int .i64 0] (by rfl) (by rfl) o1 rfl hnw (by simp [Value.oneCell']) (by omega) (by have := HB4.out.size; have := bb.size; omega) ?_
              intro A7 c7 w7 o7 hg7 hb7 hat7
              clear hHeld
              refine hK.out _ _ ?_ (fun hHeld => ?_)
              · have kx7 := (kx.call bb).grown hg7 (ne_row HLTA.out)
                exact ⟨kx7.cell 1, kx7.cell 3⟩
              clear hK K
              try conv => arg 8; simp only [Act.put, List.setIfInBounds_toArray, List.set_cons_zero, List.set_cons_succ]
              refine wpAnyH_take (i := 9) (v := ?_) (by simp only [List.getElem?_toArray]; rfl) (by kernel_rfl) (by kernel_rfl) (by kernel_rfl) (by exact fun _ _ _ h => h) (Or.inl ⟨by rfl, ?_⟩) (by assumption) ?_
              rotate_left 1
              · intro w hSw; (try dsimp only at hSw); go_simp; try with_reducible rfl
              try conv => arg 8; simp only [Act.put, List.setIfInBounds_toArray, List.set_cons_zero, List.set_cons_succ]
              refine wpAnyH_done (by kernel_rfl) ?_ _
              have HB7 := Lib.hid ((HB4.out.trans (bb.mono HB4.out.size)).trans hb7)
              clear hHeld HS hg7 hat7 hnw o1 o4
              go_wp2
              go_roundw
              case rel => exact ⟨i + 1, m + 1, c7, A7, ds ++ [[.slice none 0 0, .slice A2' 1 c2', .slice none 0 0, .slice A4 n4 c4, .slice none 0 0, .int .i64 0]], rfl, by go_num, by omega, by omega, by rw [List.flatten_append]; exact o7, by
                rw [HF.out]
                exact HDS.out.app (RowOf.one HER.out rfl), HB7.out⟩
              case measure => simp [intOf]; omega
          · have il : decide ((i : Int) < (ln : Int)) = false := by simp; omega
            have il' : decide (i < ln) = false := by simp; omega
            have lf : wr.frozen? ⟨g2, q * 3 + 2, none⟩ = false := o2r.frozen _
            have hgr : g2 < wr.heap.size := Nat.lt_of_lt_of_le hgl HBR.out.size
            obtain ⟨y0, y1, y2, y3, y4, y5, y6, y7, y8, y9, y10, y11, y12⟩ := hsr.cells
            have hb1r : Below w1.heap.size w1 wr := b2.trans (HBR.out.mono b2.size)
            have HNE := Lib.hid (show ∀ b, A = some ⟨b, 0, none⟩ → g2 < b ∧ b < wr.heap.size from fun b e => by have := HO.out.lt b 0 none e; omega)
            go_upto_region 13 with fail
            clear y0 y1 y2 y3 y4 y5 y6 y7 y8 y9 y10 y11 y12 lq lf il il' hil
            have ow5 := o2r.put HROW.out HCS.out (j := 2) (by omega) (.slice A m c)
            have bw5 : Below w1.heap.size w1 (wr.setCell ⟨g2, q * 3 + 2, none⟩ (.slice A m c)) := hb1r.setCell (p := ⟨g2, q * 3 + 2, none⟩) hgb _
            have aw5 := HO.out.setOther (p := ⟨g2, q * 3 + 2, none⟩) (fun b e => by have := HNE.out b e; show b ≠ g2; omega) (.slice A m c)
            have hsw5 := hs_1.call bw5
            replace hgr : g2 < (wr.setCell ⟨g2, q * 3 + 2, none⟩ (.slice A m c)).heap.size := by simp; exact hgr
            replace HNE := Lib.hid (show ∀ b, A = some ⟨b, 0, none⟩ → g2 < b ∧ b < (wr.setCell ⟨g2, q * 3 + 2, none⟩ (.slice A m c)).heap.size from fun b e => by have := HNE.out b e; simp; exact this)
            clear hb1r o2r HO HBR hsr hs2 b2 o2 hgl
            generalize wr.setCell ⟨g2, q * 3 + 2, none⟩ (.slice A m c) = w5 at *
            obtain ⟨y0, y1, y2, y3, y4, y5, y6, y7, y8, y9, y10, y11, y12⟩ := hsw5.cells
            go_upto_region 14 with fail
            clear y0 y1 y2 y3 y4 y5 y6 y7 y8 y9 y10 y11 y12
            have kfw6 := Bk.new w5 31 #[.int .i64 f.u0, .slice f.ga f.gn f.gc, .slice f.ca f.cn f.cc, .slice f.la f.ln f.lc, .slice f.a4 f.n4 f.c4, .slice f.a5 f.n5 f.c5, .slice f.a6 f.n6 f.c6, .slice f.a7 f.n7 f.c7, .slice f.a8 f.n8 f.c8]
            have bn : Below w5.heap.size w5 (w5.alloc (.cells #[.int .i64 f.u0, .slice f.ga f.gn f.gc, .slice f.ca f.cn f.cc, .slice f.la f.ln f.lc, .slice f.a4 f.n4 f.c4, .slice f.a5 f.n5 f.c5, .slice f.a6 f.n6 f.c6, .slice f.a7 f.n7 f.c7, .slice f.a8 f.n8 f.c8] 31)) := (Below.refl _ _).alloc (Nat.le_refl _) _
            have ow6 := ow5.call bn
            have aw6 := aw5.call bn
            have bw6 := bw5.trans (bn.mono bw5.size)
            have HGF := Lib.hid (show w1.heap.size ≤ w5.heap.size ∧ w5.heap.size ≠ g2 ∧ ∀ b, A = some ⟨b, 0, none⟩ → b ≠ w5.heap.size from ⟨bw5.size, by omega, fun b e => by have := HNE.out b e; omega⟩)
            clear ow5 aw5 bw5 bn hsw5
            generalize w5.alloc (.cells #[.int .i64 f.u0, .slice f.ga f.gn f.gc, .slice f.ca f.cn f.cc, .slice f.la f.ln f.lc, .slice f.a4 f.n4 f.c4, .slice f.a5 f.n5 f.c5, .slice f.a6 f.n6 f.c6, .slice f.a7 f.n7 f.c7, .slice f.a8 f.n8 f.c8] 31) = w6 at *
            generalize w5.heap.size = gf at *
            have z3 : w6.cell? ⟨gf, 3, none⟩ = some (.slice f.la f.ln f.lc) := kfw6.cell 3
            have zf := kfw6.frozen 3
            go_upto_region 15 with fail
            clear z3 zf
            have kfw7 : Bk (w6.setCell ⟨gf, 3, none⟩ (.slice (some ⟨g2, 0, none⟩) f.ln c2)) gf 31 #[.int .i64 f.u0, .slice f.ga f.gn f.gc, .slice f.ca f.cn f.cc, .slice (some ⟨g2, 0, none⟩) f.ln c2, .slice f.a4 f.n4 f.c4, .slice f.a5 f.n5 f.c5, .slice f.a6 f.n6 f.c6, .slice f.a7 f.n7 f.c7, .slice f.a8 f.n8 f.c8] := kfw6.set_ 3 _
            have ow7 := ow6.setOther (p := ⟨gf, 3, none⟩) (fun b e => by have h1 := HGF.out.2.1; injection e with e; injection e with e; show b ≠ gf; omega) (.slice (some ⟨g2, 0, none⟩) f.ln c2)
            have aw7 := aw6.setOther (p := ⟨gf, 3, none⟩) HGF.out.2.2 (.slice (some ⟨g2, 0, none⟩) f.ln c2)
            have bw7 : Below w1.heap.size w1 (w6.setCell ⟨gf, 3, none⟩ (.slice (some ⟨g2, 0, none⟩) f.ln c2)) := bw6.setCell (p := ⟨gf, 3, none⟩) HGF.out.1 _
            clear ow6 aw6 bw6 kfw6
            generalize w6.setCell ⟨gf, 3, none⟩ (.slice (some ⟨g2, 0, none⟩) f.ln c2) = w7 at *
            have hsw7 := hs_1.call bw7
            have HQ1 := Lib.hid (show (css.set q [.int .i64 lk.kind, .bool lk.ign, .slice A m c])[q]? = some [.int .i64 lk.kind, .bool lk.ign, .slice A m c] from List.getElem?_set_self (List.getElem?_eq_some_iff.1 HCS.out).1)
            have HR1 := Lib.hid (show RowOf 3 (fun cs _ => cs.length = 3) (css.set q [.int .i64 lk.kind, .bool lk.ign, .slice A m c]) (F.lks.set q lk) from (HROW.out.mono (E' := fun cs _ => cs.length = 3) elk_len).set rfl rfl)
            have lq : w7.cell? ⟨g2, q * 3, none⟩ = some (.int .i64 lk.kind) := ow7.cell (flat_at HR1.out.2.1 HQ1.out (j := 0) rfl)
            have lf : w7.frozen? ⟨g2, q * 3, none⟩ = false := ow7.frozen _
            obtain ⟨y0, y1, y2, y3, y4, y5, y6, y7, y8, y9, y10, y11, y12⟩ := hsw7.cells
            go_upto_region 16 with fail
            clear y0 y1 y2 y3 y4 y5 y6 y7 y8 y9 y10 y11 y12 lq lf
            have ow8 : Ow 44 3 (w7.setCell ⟨g2, q * 3, none⟩ (.int .i64 1)) w1.heap.size (some ⟨g2, 0, none⟩) f.ln c2 ((css.set q [.int .i64 lk.kind, .bool lk.ign, .slice A m c]).set q [.int .i64 1, .bool lk.ign, .slice A m c]).flatten := ow7.put HR1.out HQ1.out (j := 0) (by omega) (.int .i64 1)
            rw [List.set_set] at ow8
            have bw8 : Below w1.heap.size w1 (w7.setCell ⟨g2, q * 3, none⟩ (.int .i64 1)) := bw7.setCell (p := ⟨g2, q * 3, none⟩) hgb _
            have aw8 := aw7.setOther (p := ⟨g2, q * 3, none⟩) (fun b e => by have := HNE.out b e; show b ≠ g2; omega) (.int .i64 1)
            have kfw8 := kfw7.far (p := ⟨g2, q * 3, none⟩) HGF.out.2.1 (.int .i64 1)
            clear ow7 aw7 bw7 kfw7 hsw7 HQ1 HR1
            generalize w7.setCell ⟨g2, q * 3, none⟩ (.int .i64 1) = w8 at *
            have hsw8 := hs_1.call bw8
            have hew8 : ELk w8 (lo w8.heap.size) [.int .i64 1, .bool lk.ign, .slice A m c] ⟨1, lk.ign, flL lk.rules i⟩ := ⟨A, m, c, rfl, aw8.row (HDS.out.mono fun cs x h => h.call bw8) (by omega), aw8.hd⟩
            have hfw8 := font_own hsw8.hf (ow8.row ((HROW.out.mono fun cs x h => h.call bw8).set rfl hew8) (by omega)) ow8.hd
            have HC := Lib.hid (apply_all ({ f with la := some ⟨g2, 0, none⟩, ln := f.ln, lc := c2 } : FV) (setLk F q ⟨1, lk.ign, flL lk.rules i⟩) (q : Int) RA rn rc run FA fn fc forms w8 hfw8 hsw8.hI hsw8.hF hfnM (by have := HRL.out; omega) (fl_sm HSM.out.sm HLK.out i) (fl_o HSM.out.o HLK.out i))
            unfold FV.cells at HC
            dsimp only at HC
            have z0 : w8.cell? ⟨gf, 0, none⟩ = some (.int .i64 f.u0) := kfw8.cell 0
            have z1 : w8.cell? ⟨gf, 1, none⟩ = some (.slice f.ga f.gn f.gc) := kfw8.cell 1
            have z2 : w8.cell? ⟨gf, 2, none⟩ = some (.slice f.ca f.cn f.cc) := kfw8.cell 2
            have z3 : w8.cell? ⟨gf, 3, none⟩ = some (.slice (some ⟨g2, 0, none⟩) f.ln c2) := kfw8.cell 3
            have z4 : w8.cell? ⟨gf, 4, none⟩ = some (.slice f.a4 f.n4 f.c4) := kfw8.cell 4
            have z5 : w8.cell? ⟨gf, 5, none⟩ = some (.slice f.a5 f.n5 f.c5) := kfw8.cell 5
            have z6 : w8.cell? ⟨gf, 6, none⟩ = some (.slice f.a6 f.n6 f.c6) := kfw8.cell 6
            have z7 : w8.cell? ⟨gf, 7, none⟩ = some (.slice f.a7 f.n7 f.c7) := kfw8.cell 7
            have z8 : w8.cell? ⟨gf, 8, none⟩ = some (.slice f.a8 f.n8 f.c8) := kfw8.cell 8
            obtain ⟨y0, y1, y2, y3, y4, y5, y6, y7, y8, y9, y10, y11, y12⟩ := hsw8.cells
            go_wp2_with fail
            refine HC.out.mono ?_
            rintro e w9 ⟨A9, n9, c9, rfl, q9, b9⟩
            clear HC y0 y1 y2 y3 y4 y5 y6 y7 y8 y9 y10 y11 y12 z0 z1 z2 z3 z4 z5 z6 z7 z8 hew8 hfw8
            have bw9 := bw8.trans (b9.mono bw8.size)
            have hsw9 := hs_1.call bw9
            have ow9 := ow8.call b9
            have aw9 := aw8.call b9
            have kfw9 := kfw8.call b9
            have HLAW := Lib.hid (rev_law (b := lk.ign) (run := run) (forms := forms) HLK.out i)
            have hn9 : rn = n9 := by have h1 := q9.rdI.len; have h2 := HLAW.out.2; have := HRL.out; omega
            subst hn9
            have HL9 := Lib.hid (q9.lt)
            have HQ1 := Lib.hid (show (css.set q [.int .i64 1, .bool lk.ign, .slice A m c])[q]? = some [.int .i64 1, .bool lk.ign, .slice A m c] from List.getElem?_set_self (List.getElem?_eq_some_iff.1 HCS.out).1)
            have HR1 := Lib.hid (show RowOf 3 (fun cs _ => cs.length = 3) (css.set q [.int .i64 1, .bool lk.ign, .slice A m c]) (F.lks.set q lk) from (HROW.out.mono (E' := fun cs _ => cs.length = 3) elk_len).set rfl rfl)
            have lq : w9.cell? ⟨g2, q * 3, none⟩ = some (.int .i64 1) := ow9.cell (flat_at HR1.out.2.1 HQ1.out (j := 0) rfl)
            have lf : w9.frozen? ⟨g2, q * 3, none⟩ = false := ow9.frozen _
            have HG8 := Lib.hid (show g2 < w8.heap.size from (ow8.lt g2 0 none rfl).2)
            obtain ⟨y0, y1, y2, y3, y4, y5, y6, y7, y8, y9, y10, y11, y12⟩ := hsw9.cells
            go_upto_region 18 with fail
            clear y0 y1 y2 y3 y4 y5 y6 y7 y8 y9 y10 y11 y12 lq lf
            have owa : Ow 44 3 (w9.setCell ⟨g2, q * 3, none⟩ (.int .i64 5)) w1.heap.size (some ⟨g2, 0, none⟩) f.ln c2 ((css.set q [.int .i64 1, .bool lk.ign, .slice A m c]).set q [.int .i64 5, .bool lk.ign, .slice A m c]).flatten := ow9.put HR1.out HQ1.out (j := 0) (by omega) (.int .i64 5)
            rw [List.set_set] at owa
            have bwa : Below w1.heap.size w1 (w9.setCell ⟨g2, q * 3, none⟩ (.int .i64 5)) := bw9.setCell (p := ⟨g2, q * 3, none⟩) hgb _
            have awa := aw9.setOther (p := ⟨g2, q * 3, none⟩) (fun b e => by have := HNE.out b e; show b ≠ g2; omega) (.int .i64 5)
            have kfwa := kfw9.far (p := ⟨g2, q * 3, none⟩) HGF.out.2.1 (.int .i64 5)
            have qa := q9.setOther (p := ⟨g2, q * 3, none⟩) (fun b e => by have := (HL9.out b 0 none e).1; have := HG8.out; show b ≠ g2; omega) (.int .i64 5)
            clear ow9 aw9 bw9 kfw9 hsw9 HQ1 HR1 q9 ow8 aw8 bw8 kfw8 hsw8 b9 HL9
            generalize w9.setCell ⟨g2, q * 3, none⟩ (.int .i64 5) = wa at *
            go_wp2_with fail
            refine (ruled_c _).mono ?_
            rintro e wb ⟨rfl, bb⟩
            have bwb := bwa.trans (bb.mono bwa.size)
            have owb := owa.call bb
            have awb := awa.call bb
            have kfwb := kfwa.call bb
            have qb := qa.rdI.call bb
            clear owa awa kfwa bb bwa qa
            have hswb := hs_1.call bwb
            have hewb : ELk wb (lo wb.heap.size) [.int .i64 5, .bool lk.ign, .slice A m c] ⟨5, lk.ign, flL lk.rules i⟩ := ⟨A, m, c, rfl, awb.row (HDS.out.mono fun cs x h => h.call bwb) (by omega), awb.hd⟩
            have hfwb := font_own hswb.hf (owb.row ((HROW.out.mono fun cs x h => h.call bwb).set rfl hewb) (by omega)) owb.hd
            have HC := Lib.hid (apply_all ({ f with la := some ⟨g2, 0, none⟩, ln := f.ln, lc := c2 } : FV) (setLk F q ⟨5, lk.ign, flL lk.rules i⟩) (q : Int) RA rn rc run FA fn fc forms wb hfwb hswb.hI hswb.hF hfnM (by have := HRL.out; omega) (fl_sm HSM.out.sm HLK.out i) (fl_o HSM.out.o HLK.out i))
            unfold FV.cells at HC
            dsimp only at HC
            have z0 : wb.cell? ⟨gf, 0, none⟩ = some (.int .i64 f.u0) := kfwb.cell 0
            have z1 : wb.cell? ⟨gf, 1, none⟩ = some (.slice f.ga f.gn f.gc) := kfwb.cell 1
            have z2 : wb.cell? ⟨gf, 2, none⟩ = some (.slice f.ca f.cn f.cc) := kfwb.cell 2
            have z3 : wb.cell? ⟨gf, 3, none⟩ = some (.slice (some ⟨g2, 0, none⟩) f.ln c2) := kfwb.cell 3
            have z4 : wb.cell? ⟨gf, 4, none⟩ = some (.slice f.a4 f.n4 f.c4) := kfwb.cell 4
            have z5 : wb.cell? ⟨gf, 5, none⟩ = some (.slice f.a5 f.n5 f.c5) := kfwb.cell 5
            have z6 : wb.cell? ⟨gf, 6, none⟩ = some (.slice f.a6 f.n6 f.c6) := kfwb.cell 6
            have z7 : wb.cell? ⟨gf, 7, none⟩ = some (.slice f.a7 f.n7 f.c7) := kfwb.cell 7
            have z8 : wb.cell? ⟨gf, 8, none⟩ = some (.slice f.a8 f.n8 f.c8) := kfwb.cell 8
            obtain ⟨y0, y1, y2, y3, y4, y5, y6, y7, y8, y9, y10, y11, y12⟩ := hswb.cells
            go_wp2_with fail
            refine HC.out.mono ?_
            rintro e wc ⟨Ac, nc, cc, rfl, oc, bc⟩
            clear HC y0 y1 y2 y3 y4 y5 y6 y7 y8 y9 y10 y11 y12 z0 z1 z2 z3 z4 z5 z6 z7 z8 hewb hfwb
            have hswc := hswb.call bc
            have qc := qb.call bc
            have HNC := Lib.hid (show nc ≤ 500 by have h1 := oc.rdI.len; have h2 := apply_len w64 (setLk F q ⟨5, lk.ign, flL lk.rules i⟩) (q : Int) run forms; have := HRL.out; omega)
            have HCS2 := Lib.hid (same_c A9 Ac rn nc c9 cc _ _ wc qc oc.rdI (by omega) (by have := HNC.out; omega))
            rw [HLAW.out.1, show decide (applyL w64 (setLk F q ⟨5, lk.ign, flL lk.rules i⟩) (q : Int) run forms = applyL w64 (setLk F q ⟨5, lk.ign, flL lk.rules i⟩) (q : Int) run forms) = true by simp] at HCS2
            clear qb qc oc bc owb awb kfwb bwb hswb
            go_wp2_with fail
            refine HCS2.out.mono ?_
            rintro e wd ⟨rfl, bd⟩
            have hswd := hswc.call bd
            obtain ⟨y0, y1, y2, y3, y4, y5, y6, y7, y8, y9, y10, y11, y12⟩ := hswd.cells
            go_wp2
            go_ret
            exact ⟨rfl, hswd.bw⟩

end Go.Proofs.Ytkoocipagndclaa
