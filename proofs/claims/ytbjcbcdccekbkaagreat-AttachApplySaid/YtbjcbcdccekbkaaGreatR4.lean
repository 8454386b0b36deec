/- Walks: the document's Marks. -/
import Derived.Test.YtbjcbcdccekbkaaGreatR3
namespace Go.Proofs.YtbjcbcdccekbkaaGreat
open Go.RowKit Go.Shelf

def marksRF (F : Fnt) (ign : Bool) (run : List Itm) (j : Nat) : List Itm := (List.range j).foldl (markR w64 F ign) run
theorem marksRF_succ (F : Fnt) (ign : Bool) (run : List Itm) (j : Nat) : marksRF F ign run (j + 1) = markR w64 F ign (marksRF F ign run j) j := by
  unfold marksRF; rw [List.range_succ, List.foldl_append]; rfl
theorem markR_no {F : Fnt} {ign : Bool} {r : List Itm} {i : Nat} (h : isMark F (gAt r i) = false) : markR w64 F ign r i = r := by
  unfold markR; rw [if_neg (by rw [h]; simp)]
theorem markR_none {F : Fnt} {ign : Bool} {r : List Itm} {i : Nat} (h : hostR F ign r (gAt r i) i = none) : markR w64 F ign r i = r := by
  unfold markR; split
  · rw [h]
  · rfl
theorem markR_some {F : Fnt} {ign : Bool} {r : List Itm} {i k : Nat} {ii ik : Itm} (hm : isMark F ii.g = true) (hi : r[i]? = some ii) (hik : r[k]? = some ik) (h : hostR F ign r ii.g i = some k) :
    markR w64 F ign r i = r.set i { ii with a := 0, x := wrap64 (wrap64 (wrap64 (wrap64 (widthL w64 (r.take k) + ik.x) + thx (takenL F ii.g ik.g)) - widthL w64 (r.take i)) - tmx (takenL F ii.g ik.g)), y := wrap64 (wrap64 (ik.y + thy (takenL F ii.g ik.g)) - tmy (takenL F ii.g ik.g)) } := by
  unfold markR
  rw [gAt_some hi, if_pos hm, h]
  dsimp only
  rw [gAt_some hik]
  obtain ⟨_, hs⟩ := hostR_lt h
  rw [gAt_some hik] at hs
  rcases ht : takenL F ii.g ik.g with _ | ⟨m, hx, hy⟩
  · rw [ht] at hs; cases hs
  · dsimp only
    rw [itAt_some hi, itAt_some hik]
    rfl

theorem cellFar {W : World} {p : Addr} {b o : Nat} (hb : b ≠ p.block) (v : Value) {u : Value} (h : W.cell? ⟨b, o, none⟩ = some u) : (W.setCell p v).cell? ⟨b, o, none⟩ = some u :=
  (World.cell?_of_block (Below.heap_setCell W p v b hb)).trans h

set_option maxRecDepth 100000 in
set_option maxHeartbeats 4000000 in
theorem rmarks_c (f : FV) (F : Fnt) (lookup : Int) (RA : Option Addr) (rn rc : Nat) (run : List Itm) (w : World) (hf : IsF w (lo w.heap.size) f F) (hI : RdI w (lo w.heap.size) RA rn run) (hrn : rn ≤ 100000) :
    Calls Tryz.prog 23 #[.agg f.cells, .int .i64 lookup, .slice RA rn rc] w (RPost w.heap.size w (attachL w64 F lookup 8 run)) := by
  rw [← attach_ki8]
  obtain ⟨R, hR⟩ : ∃ R, R = (if (kiOf F lookup).1 = 8 then marksL w64 F (kiOf F lookup).2 run else run) := ⟨_, rfl⟩
  rw [← hR]
  have HR := Lib.hid hR
  clear hR
  have hs_0 := LS.new hf hI
  unfold FV.cells at hs_0 ⊢
  go_enter Tryz.func23, Tryz.ntmps23
  go_wp2_with fail
  generalize w.alloc (.cells #[.int .i64 f.u0, .slice f.ga f.gn f.gc, .slice f.ca f.cn f.cc, .slice f.la f.ln f.lc, .slice f.a4 f.n4 f.c4, .slice f.a5 f.n5 f.c5, .slice f.a6 f.n6 f.c6, .slice f.a7 f.n7 f.c7, .slice f.a8 f.n8 f.c8] 31) = w0 at hs_0 ⊢
  have hw0 : w.heap.size ≤ w0.heap.size := hs_0.bw.size
  have HB0 := Lib.hid hs_0.bw
  have hlt0 := hs_0.kf.lt
  generalize hbf : w.heap.size = bf at hs_0 hlt0 hw0 ⊢
  clear hf hI
  have HC := Lib.hid (rcopied_c RA rn rc run w0 hs_0.hI (by omega))
  refine HC.out.mono ?_
  rintro e w1 ⟨A1, n1, c1, rfl, o1, b1⟩
  clear HC
  have hs1 : RS w0.heap.size bf w0 w1 f F A1 n1 c1 run := ⟨b1.size, hlt0, hs_0.kf.below b1 hlt0, hs_0.hf.mono (fun _ h => h) (kept_below b1), o1, b1⟩
  have hf0 := hs_0.hf
  have hn1 : n1 ≤ 100000 := by have := hs1.len; have := hs_0.hI.len; omega
  clear hs_0 o1 b1
  obtain ⟨y0, y1, y2, y3, y4, y5, y6, y7, y8⟩ := font_cells hs1.kf
  go_wp2_with fail
  clear y0 y1 y2 y3 y4 y5 y6 y7 y8
  have HC := Lib.hid (rkind_c f F lookup w1 hs1.fontU)
  unfold FV.cells at HC
  refine HC.out.mono ?_
  rintro e w2 ⟨rfl, b2⟩
  clear HC
  have hs2 := hs1.call b2
  clear hs1 b2
  by_cases h7 : (kiOf F lookup).1 = 8
  · have e1 : ((kiOf F lookup).1 != 8) = false := by simp [h7]
    obtain ⟨k, lk, rfl, hlk, hk7, hign⟩ := ki_at h7 (by omega)
    have hres : R = marksL w64 F lk.ign run := by rw [HR.out, if_pos h7, hign]
    rw [marks_ref] at hres
    have hres' : R = marksRF F lk.ign run n1 := by rw [hres]; unfold marksR marksRF; rw [hs2.len]
    have HRES := Lib.hid hres'
    obtain ⟨lb, lo', hla, hlb, hc⟩ := hf0.2.1.pos (by have := (List.getElem?_eq_some_iff.1 hlk).1; have := hf0.2.1.len; omega)
    have HLA := Lib.hid hla
    have HLK := Lib.hid hlk
    clear hres hres' hign hk7 hlk hc hf0 HR h7 hla hlb
    go_wp2
    go_loopw [8] (fun s8 wr => ∃ (j : Nat) (r : List Itm), j ≤ n1 ∧ s8 = .int .i64 j ∧ r = marksRF F lk.ign run j ∧ RS w0.heap.size bf w0 wr f F A1 n1 c1 r) (fun i _ => n1 - (intOf i).toNat)
    case atStart => exact ⟨0, run, by omega, rfl, rfl, hs2⟩
    case round =>
      obtain ⟨j, r, hj, rfl, hst, hsr⟩ := hrel
      clear hs2
      by_cases hlt : j < n1
      · have hrl := hsr.len
        obtain ⟨ib, hib⟩ := at_some r j (by omega)
        obtain ⟨gi, rfl, hgB, hgl⟩ := hsr.own.form (by omega)
        have hsc := marksRF_succ F lk.ign run j
        rw [← hst] at hsc
        have HSC := Lib.hid hsc; have HIB := Lib.hid hib; have HRL := Lib.hid hrl
        have hgg := gAt_some hib
        have gb0 := hsr.own.cell (itc_at hib (j := 0) (v := .int .i64 ib.g) rfl)
        rw [Nat.add_zero] at gb0
        have jz : (0 : Int) ≤ (j : Int) := by omega
        have jn : (j : Int) < (n1 : Int) := by omega
        have HCM := Lib.hid fun (W : World) (h : IsF W (lo W.heap.size) f F) => rmark_c f F ib.g W h
        unfold FV.cells at HCM
        rw [HLA.out] at HCM
        clear hsc hib hrl hst
        have HS := Lib.hid fun (W : World) (b : Below wr.heap.size wr W) => (show W.cell? ⟨bf, 0, none⟩ = some (.int .i64 f.u0) ∧ W.cell? ⟨bf, 1, none⟩ = some (.slice f.ga f.gn f.gc) ∧ W.cell? ⟨bf, 2, none⟩ = some (.slice f.ca f.cn f.cc) ∧ W.cell? ⟨bf, 3, none⟩ = some (.slice (some ⟨lb, lo', none⟩) f.ln f.lc) ∧ W.cell? ⟨bf, 4, none⟩ = some (.slice f.a4 f.n4 f.c4) ∧ W.cell? ⟨bf, 5, none⟩ = some (.slice f.a5 f.n5 f.c5) ∧ W.cell? ⟨bf, 6, none⟩ = some (.slice f.a6 f.n6 f.c6) ∧ W.cell? ⟨bf, 7, none⟩ = some (.slice f.a7 f.n7 f.c7) ∧ W.cell? ⟨bf, 8, none⟩ = some (.slice f.a8 f.n8 f.c8) ∧ W.cell? ⟨gi, j * 6, none⟩ = some (.int .i64 ib.g) from by
          obtain ⟨z0, z1, z2, z3, z4, z5, z6, z7, z8⟩ := (hsr.call b).f9 HLA.out
          exact And.intro z0 (And.intro z1 (And.intro z2 (And.intro z3 (And.intro z4 (And.intro z5 (And.intro z6 (And.intro z7 (And.intro z8 ((cell_call gb0 b)))))))))))
        obtain ⟨y0, y1, y2, y3, y4, y5, y6, y7, y8⟩ := hsr.f9 HLA.out
        go_wp2
        go_region_held3 (fun w' => w'.cell? ⟨bf, 0, none⟩ = some (.int .i64 f.u0) ∧ w'.cell? ⟨bf, 1, none⟩ = some (.slice f.ga f.gn f.gc) ∧ w'.cell? ⟨bf, 2, none⟩ = some (.slice f.ca f.cn f.cc) ∧ w'.cell? ⟨bf, 3, none⟩ = some (.slice (some ⟨lb, lo', none⟩) f.ln f.lc) ∧ w'.cell? ⟨bf, 4, none⟩ = some (.slice f.a4 f.n4 f.c4) ∧ w'.cell? ⟨bf, 5, none⟩ = some (.slice f.a5 f.n5 f.c5) ∧ w'.cell? ⟨bf, 6, none⟩ = some (.slice f.a6 f.n6 f.c6) ∧ w'.cell? ⟨bf, 7, none⟩ = some (.slice f.a7 f.n7 f.c7) ∧ w'.cell? ⟨bf, 8, none⟩ = some (.slice f.a8 f.n8 f.c8) ∧ w'.cell? ⟨gi, j * 6, none⟩ = some (.int .i64 ib.g)) (first | ((with_reducible refine HS.out _ ?_); go_grown; done) | go_keep) (first
          | (go_at_call 32; (with_reducible refine (HCM.out _ ?_).mono ?_); exact hsr.drew_.fontU; rintro e w5 ⟨rfl, hb5⟩; have b5 := below_undrew hb5))
        have hs5 := hsr.call b5
        clear hsr y0 y1 y2 y3 y4 y5 y6 y7 y8 gb0 HCM HS b5 hb5
        by_cases hm : isMark F ib.g = true
        · rw [hm]
          have HM := Lib.hid hm
          obtain ⟨y0, y1, y2, y3, y4, y5, y6, y7, y8⟩ := hs5.f9 HLA.out
          go_wp2_with fail
          have HC := Lib.hid (rhost_c f F k lk (some ⟨gi, 0, none⟩) n1 c1 r j w5 hs5.fontU hs5.own.rdI HLK.out (by omega) (by omega))
          unfold FV.cells at HC
          rw [HLA.out] at HC
          refine HC.out.mono ?_
          rintro e w6 ⟨rfl, b6⟩
          have hs6 := hs5.call b6
          clear hs5 y0 y1 y2 y3 y4 y5 y6 y7 y8 HC b6 hm
          rw [hgg]
          rcases hho : hostR F lk.ign r ib.g j with _ | q
          · have HST := Lib.hid (markR_none (F := F) (ign := lk.ign) (r := r) (i := j) (by rw [hgg]; exact hho))
            clear hho
            unfold hostI
            go_wp2
            go_roundw
            case rel => exact ⟨j + 1, r, by omega, by go_num, by rw [HSC.out, HST.out], hs6⟩
            case measure => simp [intOf]; omega
          · obtain ⟨hqj, hts⟩ := hostR_lt hho
            obtain ⟨ik, hik⟩ := at_some r q (by have := HRL.out; omega)
            have HST := Lib.hid (markR_some (F := F) (ign := lk.ign) HM.out HIB.out hik hho)
            have HIK := Lib.hid hik
            have t0 : decide ((0 : Int) ≤ (q : Int)) = true := by simp
            have qz : (0 : Int) ≤ (q : Int) := by omega
            have qn : (q : Int) < (n1 : Int) := by omega
            have gb0 := hs6.own.cell (itc_at HIB.out (j := 0) (v := .int .i64 ib.g) rfl)
            have gk0 := hs6.own.cell (itc_at hik (j := 0) (v := .int .i64 ik.g) rfl)
            rw [Nat.add_zero] at gb0 gk0
            have HT := Lib.hid fun (W : World) (hh : IsF W (lo W.heap.size) f F) => rtaken_c f F ib.g ik.g W hh
            unfold FV.cells at HT
            unfold takV at HT
            rw [HLA.out] at HT
            generalize takenL F ib.g ik.g = ot at *
            clear hho hts hik hgg
            unfold hostI
            obtain ⟨y0, y1, y2, y3, y4, y5, y6, y7, y8⟩ := hs6.f9 HLA.out
            have HS := Lib.hid fun (W : World) (b : Below w6.heap.size w6 W) => (show W.cell? ⟨bf, 0, none⟩ = some (.int .i64 f.u0) ∧ W.cell? ⟨bf, 1, none⟩ = some (.slice f.ga f.gn f.gc) ∧ W.cell? ⟨bf, 2, none⟩ = some (.slice f.ca f.cn f.cc) ∧ W.cell? ⟨bf, 3, none⟩ = some (.slice (some ⟨lb, lo', none⟩) f.ln f.lc) ∧ W.cell? ⟨bf, 4, none⟩ = some (.slice f.a4 f.n4 f.c4) ∧ W.cell? ⟨bf, 5, none⟩ = some (.slice f.a5 f.n5 f.c5) ∧ W.cell? ⟨bf, 6, none⟩ = some (.slice f.a6 f.n6 f.c6) ∧ W.cell? ⟨bf, 7, none⟩ = some (.slice f.a7 f.n7 f.c7) ∧ W.cell? ⟨bf, 8, none⟩ = some (.slice f.a8 f.n8 f.c8) ∧ W.cell? ⟨gi, q * 6, none⟩ = some (.int .i64 ik.g) ∧ W.cell? ⟨gi, j * 6, none⟩ = some (.int .i64 ib.g) from by
              obtain ⟨z0, z1, z2, z3, z4, z5, z6, z7, z8⟩ := (hs6.call b).f9 HLA.out
              exact And.intro z0 (And.intro z1 (And.intro z2 (And.intro z3 (And.intro z4 (And.intro z5 (And.intro z6 (And.intro z7 (And.intro z8 (And.intro (cell_call gk0 b) ((cell_call gb0 b))))))))))))
            go_upto_region 10 with fail
            go_cut [10, 11, 12] (fun s10 s11 s12 wx => ∃ b1 b2 : Nat, s10 = .pointer (some ⟨b1, 0, none⟩) ∧ s11 = .pointer (some ⟨b2, 0, none⟩) ∧ s12 = .bool ot.isSome ∧ wx.cell? ⟨b1, 0, none⟩ = some (.int .i64 (tmx ot)) ∧ wx.cell? ⟨b1, 1, none⟩ = some (.int .i64 (tmy ot)) ∧ wx.cell? ⟨b2, 0, none⟩ = some (.int .i64 (thx ot)) ∧ wx.cell? ⟨b2, 1, none⟩ = some (.int .i64 (thy ot)) ∧ w6.heap.size ≤ b1 ∧ w6.heap.size ≤ b2 ∧ Below w6.heap.size w6 wx)
            case first =>
              go_region_held3 (fun w' => w'.cell? ⟨bf, 0, none⟩ = some (.int .i64 f.u0) ∧ w'.cell? ⟨bf, 1, none⟩ = some (.slice f.ga f.gn f.gc) ∧ w'.cell? ⟨bf, 2, none⟩ = some (.slice f.ca f.cn f.cc) ∧ w'.cell? ⟨bf, 3, none⟩ = some (.slice (some ⟨lb, lo', none⟩) f.ln f.lc) ∧ w'.cell? ⟨bf, 4, none⟩ = some (.slice f.a4 f.n4 f.c4) ∧ w'.cell? ⟨bf, 5, none⟩ = some (.slice f.a5 f.n5 f.c5) ∧ w'.cell? ⟨bf, 6, none⟩ = some (.slice f.a6 f.n6 f.c6) ∧ w'.cell? ⟨bf, 7, none⟩ = some (.slice f.a7 f.n7 f.c7) ∧ w'.cell? ⟨bf, 8, none⟩ = some (.slice f.a8 f.n8 f.c8) ∧ w'.cell? ⟨gi, q * 6, none⟩ = some (.int .i64 ik.g) ∧ w'.cell? ⟨gi, j * 6, none⟩ = some (.int .i64 ib.g)) (first | ((with_reducible refine HS.out _ ?_); go_grown; done) | go_keep) (first
                | (go_at_call 36; (with_reducible refine (HT.out _ ?_).mono ?_); exact hs6.drew_.fontU; rintro e w7 ⟨rfl, hb6⟩; have b6 : Below w6.heap.size w6 w7 := below_undrew hb6; have s6 := b6.size)
                | (go_at_call 36; (with_reducible refine (HT.out _ ?_).mono ?_); exact (hs6.call (al1 w6 _)).fontU; rintro e w7 ⟨rfl, hb6⟩; have b6 : Below w6.heap.size w6 w7 := below_call (al1 w6 _) hb6; have s6 := b6.size; have kA := ptk1 hb6; have qaA : w7.cell? ⟨w6.heap.size, 0, none⟩ = some (.int .i64 0) := kA.cell 0; have qbA : w7.cell? ⟨w6.heap.size, 1, none⟩ = some (.int .i64 0) := kA.cell 1; have faA := kA.frozen 0; have fbA := kA.frozen 1; have ltA := kA.lt)
                | (go_at_call 36; (with_reducible refine (HT.out _ ?_).mono ?_); exact (hs6.call (al2 w6 _ _)).fontU; rintro e w7 ⟨rfl, hb6⟩; have b6 : Below w6.heap.size w6 w7 := below_call (al2 w6 _ _) hb6; have s6 := b6.size; have kA := ptk2 hb6; have qaA : w7.cell? ⟨w6.heap.size, 0, none⟩ = some (.int .i64 0) := kA.cell 0; have qbA : w7.cell? ⟨w6.heap.size, 1, none⟩ = some (.int .i64 0) := kA.cell 1; have faA := kA.frozen 0; have fbA := kA.frozen 1; have ltA := kA.lt; have kB := ptk3 hb6; have qaB : w7.cell? ⟨w6.heap.size + 1, 0, none⟩ = some (.int .i64 0) := kB.cell 0; have qbB : w7.cell? ⟨w6.heap.size + 1, 1, none⟩ = some (.int .i64 0) := kB.cell 1; have faB := kB.frozen 0; have fbB := kB.frozen 1; have ltB := kB.lt))
              all_goals (go_wp2; go_meet; refine ⟨_, _, rfl, rfl, rfl, ?_, ?_, ?_, ?_, ?_, ?_, by go_grown⟩)
              all_goals first | go_cell | go_size
            obtain ⟨b1, b2, rfl, rfl, rfl, pm0, pm1, ph0, ph1, lb1, lb2, bc⟩ := hcut
            have hg6 := (hs6.own.blk gi rfl).2.1
            have hs7 := hs6.call bc
            have x3 := hs7.own.cell (itc_at HIB.out (j := 3) (v := .int .i64 ib.a) rfl)
            have f3 := hs7.own.frozen (j * 6 + 3)
            have g1 : b1 ≠ gi := by omega
            have g2 : b2 ≠ gi := by omega
            clear hs6 y0 y1 y2 y3 y4 y5 y6 y7 y8 HS HT gb0 gk0 bc
            go_upto_region 12 with fail
            have h8 := hs7.store (j * 6 + 3) (.int .i64 0) (itc_setj (it' := { ib with a := 0 }) HIB.out rfl (by omega))
            replace pm0 := cellFar (p := ⟨gi, j * 6 + 3, none⟩) g1 (.int .i64 0) pm0
            replace pm1 := cellFar (p := ⟨gi, j * 6 + 3, none⟩) g1 (.int .i64 0) pm1
            replace ph0 := cellFar (p := ⟨gi, j * 6 + 3, none⟩) g2 (.int .i64 0) ph0
            replace ph1 := cellFar (p := ⟨gi, j * 6 + 3, none⟩) g2 (.int .i64 0) ph1
            clear x3 f3 hs7
            generalize wc.setCell ⟨gi, j * 6 + 3, none⟩ (.int .i64 0) = w8 at *
            have i8j : (r.set j { ib with a := 0 })[j]? = some { ib with a := 0 } := List.getElem?_set_self (List.getElem?_eq_some_iff.1 HIB.out).1
            have i8k : (r.set j { ib with a := 0 })[q]? = some ik := by rw [List.getElem?_set_ne (by omega)]; exact HIK.out
            have tq : (r.set j { ib with a := 0 }).take q = r.take q := List.take_set_of_le (by omega)
            have tj : (r.set j { ib with a := 0 }).take j = r.take j := List.take_set_of_le (by omega)
            have hcd := h8.own.hd
            have HPk := Lib.hid fun (W : World) (h : RdI W (lo W.heap.size) (some ⟨gi, 0, none⟩) n1 (r.set j { ib with a := 0 })) => rpen_c (some ⟨gi, 0, none⟩) n1 c1 q _ W h hcd (by omega) (by omega)
            have HPj := Lib.hid fun (W : World) (h : RdI W (lo W.heap.size) (some ⟨gi, 0, none⟩) n1 (r.set j { ib with a := 0 })) => rpen_c (some ⟨gi, 0, none⟩) n1 c1 j _ W h hcd (by omega) (by omega)
            rw [tq] at HPk
            rw [tj] at HPj
            have HRI := Lib.hid h8.own.rdI
            have xk := h8.own.cell (itc_at i8k (j := 4) (v := .int .i64 ik.x) rfl)
            have xj := h8.own.cell (itc_at i8j (j := 4) (v := .int .i64 ib.x) rfl)
            have f4 := h8.own.frozen (j * 6 + 4)
            have I8J := Lib.hid i8j; have I8K := Lib.hid i8k
            have g1' : gi ≠ b1 := by omega
            have g2' : gi ≠ b2 := by omega
            have n1' : ¬ (q * 6 + 4 = j * 6 + 4) := by omega
            have n2' : ¬ (j * 6 + 4 = q * 6 + 4) := by omega
            have HK := Lib.hid fun (v : Value) => (show (w8.setCell ⟨gi, j * 6 + 4, none⟩ v).drew.cell? ⟨gi, q * 6 + 4, none⟩ = some (.int .i64 ik.x) ∧ (w8.setCell ⟨gi, j * 6 + 4, none⟩ v).drew.cell? ⟨b2, 0, none⟩ = some (.int .i64 (thx ot)) ∧ (w8.setCell ⟨gi, j * 6 + 4, none⟩ v).drew.cell? ⟨b1, 0, none⟩ = some (.int .i64 (tmx ot)) from
              ⟨(h8.own.stored (j * 6 + 4) v).cell (by rw [List.getElem?_set_ne n2']; exact itc_at i8k rfl), cellFar (p := ⟨gi, j * 6 + 4, none⟩) g2 v ph0, cellFar (p := ⟨gi, j * 6 + 4, none⟩) g1 v pm0⟩)
            clear tq tj i8j i8k hcd
            go_region_held3 (fun w' => w'.cell? ⟨gi, q * 6 + 4, none⟩ = some (.int .i64 ik.x) ∧ w'.cell? ⟨b2, 0, none⟩ = some (.int .i64 (thx ot)) ∧ w'.cell? ⟨b1, 0, none⟩ = some (.int .i64 (tmx ot))) (first | assumption | (with_reducible exact HK.out _) | go_keep) (first
              | (go_at_call 34; (with_reducible refine (HPk.out _ ?_).mono ?_); exact HRI.out; rintro e w9 ⟨rfl, rfl⟩)
              | (go_at_call 34; (with_reducible refine (HPj.out _ ?_).mono ?_); exact HRI.out; rintro e w9 ⟨rfl, rfl⟩))
            have ew : ∀ x, IntKind.i64.wrap x = wrap64 x := fun x => by rw [IntKind.wrap_i64]; unfold wrap64; omega
            simp only [ew]
            clear ew
            have h9 := (h8.store (j * 6 + 4) (.int .i64 (wrap64 (wrap64 (wrap64 (wrap64 (widthL w64 (List.take q r) + ik.x) + thx ot) - widthL w64 (List.take j r)) - tmx ot))) (itc_setj (it' := { ib with a := 0, x := wrap64 (wrap64 (wrap64 (wrap64 (widthL w64 (List.take q r) + ik.x) + thx ot) - widthL w64 (List.take j r)) - tmx ot) }) I8J.out rfl (by omega))).drew_
            rw [List.set_set] at h9
            replace pm1 : (w8.setCell ⟨gi, j * 6 + 4, none⟩ (.int .i64 (wrap64 (wrap64 (wrap64 (wrap64 (widthL w64 (List.take q r) + ik.x) + thx ot) - widthL w64 (List.take j r)) - tmx ot)))).drew.cell? ⟨b1, 1, none⟩ = some (.int .i64 (tmy ot)) := cellFar (p := ⟨gi, j * 6 + 4, none⟩) g1 _ pm1
            replace ph1 : (w8.setCell ⟨gi, j * 6 + 4, none⟩ (.int .i64 (wrap64 (wrap64 (wrap64 (wrap64 (widthL w64 (List.take q r) + ik.x) + thx ot) - widthL w64 (List.take j r)) - tmx ot)))).drew.cell? ⟨b2, 1, none⟩ = some (.int .i64 (thy ot)) := cellFar (p := ⟨gi, j * 6 + 4, none⟩) g2 _ ph1
            clear xk xj f4 HPk HPj HRI HK h8 pm0 ph0
            generalize (w8.setCell ⟨gi, j * 6 + 4, none⟩ (.int .i64 (wrap64 (wrap64 (wrap64 (wrap64 (widthL w64 (List.take q r) + ik.x) + thx ot) - widthL w64 (List.take j r)) - tmx ot)))).drew = w9 at h9 pm1 ph1 ⊢
            have i9j : (r.set j { ib with a := 0, x := wrap64 (wrap64 (wrap64 (wrap64 (widthL w64 (List.take q r) + ik.x) + thx ot) - widthL w64 (List.take j r)) - tmx ot) })[j]? = some { ib with a := 0, x := wrap64 (wrap64 (wrap64 (wrap64 (widthL w64 (List.take q r) + ik.x) + thx ot) - widthL w64 (List.take j r)) - tmx ot) } := List.getElem?_set_self (List.getElem?_eq_some_iff.1 HIB.out).1
            have i9k : (r.set j { ib with a := 0, x := wrap64 (wrap64 (wrap64 (wrap64 (widthL w64 (List.take q r) + ik.x) + thx ot) - widthL w64 (List.take j r)) - tmx ot) })[q]? = some ik := by rw [List.getElem?_set_ne (by omega)]; exact HIK.out
            have yk := h9.own.cell (itc_at i9k (j := 5) (v := .int .i64 ik.y) rfl)
            have yj := h9.own.cell (itc_at i9j (j := 5) (v := .int .i64 ib.y) rfl)
            have f5 := h9.own.frozen (j * 6 + 5)
            have I9J := Lib.hid i9j
            clear i9j i9k I8J I8K n1' n2'
            go_wp2
            go_region
            have h10 := (h9.store (j * 6 + 5) (.int .i64 (wrap64 (wrap64 (ik.y + thy ot) - tmy ot))) (itc_setj (it' := { ib with a := 0, x := wrap64 (wrap64 (wrap64 (wrap64 (widthL w64 (List.take q r) + ik.x) + thx ot) - widthL w64 (List.take j r)) - tmx ot), y := wrap64 (wrap64 (ik.y + thy ot) - tmy ot) }) I9J.out rfl (by omega))).drew_
            rw [List.set_set] at h10
            clear h9 yk yj f5 pm1 ph1
            generalize (w9.setCell ⟨gi, j * 6 + 5, none⟩ (.int .i64 (wrap64 (wrap64 (ik.y + thy ot) - tmy ot)))).drew = w10 at h10 ⊢
            go_wp2
            go_roundw
            case rel => exact ⟨j + 1, _, by omega, by go_num, by rw [HSC.out, HST.out], h10⟩
            case measure => simp [intOf]; omega
        · have hm' : isMark F ib.g = false := by simpa using hm
          have HST := Lib.hid (markR_no (F := F) (ign := lk.ign) (r := r) (i := j) (by rw [hgg]; exact hm'))
          rw [hm']
          go_wp2
          go_roundw
          case rel => exact ⟨j + 1, r, by omega, by go_num, by rw [HSC.out, HST.out], hs5⟩
          case measure => simp [intOf]; omega
      · have hge : decide ((j : Int) < (n1 : Int)) = false := by simp; omega
        have hjn : j = n1 := by omega
        subst hjn
        have hres : R = r := by rw [HRES.out, ← hst]
        have HRE := Lib.hid hres
        clear hres hst
        go_wp2
        go_ret
        exact ⟨_, _, _, rfl, by rw [HRE.out]; exact hsr.own.lower (by rw [hbf]; exact hw0), HB0.out.trans (hsr.bw.mono (by rw [hbf]; exact hw0))⟩
  · have e1 : ((kiOf F lookup).1 != 8) = true := by simpa using h7
    have hres : R = run := by rw [HR.out, if_neg h7]
    have HRES := Lib.hid hres
    clear hres HR
    go_wp2
    go_ret
    exact ⟨_, _, _, rfl, by rw [HRES.out]; exact hs2.own.lower (by rw [hbf]; exact hw0), HB0.out.trans (hs2.bw.mono (by rw [hbf]; exact hw0))⟩

end Go.Proofs.YtbjcbcdccekbkaaGreat
