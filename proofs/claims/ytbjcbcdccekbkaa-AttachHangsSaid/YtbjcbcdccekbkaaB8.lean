/- Walk: AttachHangs. -/
import Derived.Test.YtbjcbcdccekbkaaR3
namespace Go.Proofs.Ytbjcbcdccekbkaa
open Go.RowKit Go.Shelf

theorem attachAll_eight {F : Fnt} {k : Nat} {lk : Lk} (h : F.lks[k]? = some lk) (hk : lk.kind = 8) (run : List Itm) : attachAll w64 F (k : Int) run = marksL w64 F lk.ign run := by
  have h' : lkAt F (k : Int) = some lk := by unfold lkAt; rw [if_neg (by omega), Int.toNat_natCast]; exact h
  unfold attachAll; rw [h']; dsimp only; rw [hk, attachL_eight h' hk]
theorem isMarkLt {F : Fnt} {n : Nat} (hl : F.gly.length = n) {g : Int} (h0 : g < 0 ∨ (n : Int) ≤ g) : isMark F g = false := isMark_out (by rcases h0 with h | h; exact .inl h; right; omega)
/-- Does a mark's anchor lie on its host's? -/
def fitB (li lq : Itm) (wi wq : Int) (o : Option (Int × Int)) (m : Anc) : Bool := o.isSome && (m.k == 2 && ((IntKind.i64.wrap (IntKind.i64.wrap (wi + li.x) + m.x) == IntKind.i64.wrap (IntKind.i64.wrap (wq + lq.x) + ax o)) && (IntKind.i64.wrap (li.y + m.y) == IntKind.i64.wrap (lq.y + ay o))))
theorem wrap_e (x : Int) : IntKind.i64.wrap x = wrap64 x := by rw [IntKind.wrap_i64]; unfold wrap64; omega
theorem hangs_any {F : Fnt} {ign : Bool} {run : List Itm} {i q : Nat} {it iq : Itm} (hi : i < run.length) (hit : (marksL w64 F ign run)[i]? = some it) (hiq : (marksL w64 F ign run)[q]? = some iq) (hm : isMark F it.g = true) (hk : hostR F ign (marksL w64 F ign run) it.g i = some q) :
    it.a = 0 ∧ (ancOf F it.g).any (fun m => fitB it iq (widthL w64 ((marksL w64 F ign run).take i)) (widthL w64 ((marksL w64 F ign run).take q)) (anchorL F iq.g 1 m.c) m) = true := by
  have h := hangs_ok (ign := ign) (F := F) (k := q) wr64 hi (by rw [gAt_some hit]; exact hm) (by rw [gAt_some hit]; exact hk)
  rw [gAt_some hit, gAt_some hiq, itAt_some hit, itAt_some hiq] at h
  obtain ⟨ha, m, hmem, x, y, hk2, hax, e1, e2⟩ := h
  refine ⟨ha, List.any_eq_true.2 ⟨m, hmem, ?_⟩⟩
  unfold fitB
  rw [hax]
  simp only [Option.isSome_some, Bool.true_and, Bool.and_eq_true, beq_iff_eq, wrap_e]
  exact ⟨hk2, e1, e2⟩

set_option maxRecDepth 100000 in
set_option maxHeartbeats 4000000 in
theorem attachHangs_walk (f : FV) (F : Fnt) (lookup : Int) (RA : Option Addr) (rn rc : Nat) (run : List Itm) (w : World) (hf : IsF w (lo w.heap.size) f F) (hI : RdI w (lo w.heap.size) RA rn run) (hd : Hd rn rc) :
    Calls Try.prog 9 #[.agg f.cells, .int .i64 lookup, .slice RA rn rc] w (TP w) := by
  have hrnM : rn ≤ 9223372036854775807 := Nat.le_trans hd.1 hd.2
  have hs_0 := LS.new hf hI
  unfold FV.cells at hs_0 ⊢
  go_enter Try.func9, Try.ntmps9
  go_wp2_with fail
  generalize w.alloc (.cells #[.int .i64 f.u0, .slice f.ga f.gn f.gc, .slice f.ca f.cn f.cc, .slice f.la f.ln f.lc, .slice f.a4 f.n4 f.c4, .slice f.a5 f.n5 f.c5, .slice f.a6 f.n6 f.c6, .slice f.a7 f.n7 f.c7, .slice f.a8 f.n8 f.c8] 31) = w0 at hs_0 ⊢
  generalize hbf : w.heap.size = bf at hs_0 ⊢
  clear hbf hf hI
  have HC := Lib.hid (big14_c f F RA rn rc run w0 hs_0.hf hs_0.hI hrnM)
  unfold FV.cells at HC
  refine HC.out.mono ?_
  rintro e w1 ⟨rfl, b1⟩
  clear HC
  have hs_1 := hs_0.call b1
  clear hs_0 b1
  obtain ⟨y0, y1, y2, y3, y4, y5, y6, y7, y8⟩ := font_cells hs_1.kf
  cases hbig : big14 F run with
  | true =>
    go_wp2_with fail
    refine (hung_c w1).mono ?_
    rintro e w2 ⟨rfl, b2⟩
    go_wp2
    go_ret
    exact ⟨rfl, below_call hs_1.bw b2⟩
  | false =>
    obtain ⟨hl, hsm⟩ := small14 hbig
    have hrl := hs_1.hI.len
    have hrn : rn ≤ 100 := by omega
    have HRL := Lib.hid hrl
    have hln := hs_1.hf.2.1.len
    have hld := hs_1.hf.2.2.2
    have hlnM : f.ln ≤ 9223372036854775807 := Nat.le_trans hld.1 hld.2
    have hgn := hs_1.hf.1.len
    have HGN := Lib.hid hgn
    have hgd := hs_1.hf.2.2.1
    have hgnM : f.gn ≤ 9223372036854775807 := Nat.le_trans hgd.1 hgd.2
    clear hbig hgn hgd
    by_cases h0 : lookup < 0
    · have t0 : decide (lookup < 0) = true := by simp; omega
      clear hl hrl hln
      go_wp2_with fail
      refine (hung_c w1).mono ?_
      rintro e w2 ⟨rfl, b2⟩
      go_wp2
      go_ret
      exact ⟨rfl, below_call hs_1.bw b2⟩
    · have t0 : decide (lookup < 0) = false := by simp; omega
      by_cases h1 : (f.ln : Int) ≤ lookup
      · have t1 : decide ((f.ln : Int) ≤ lookup) = true := by simp; omega
        clear hl hrl hln
        go_wp2_with fail
        refine (hung_c w1).mono ?_
        rintro e w2 ⟨rfl, b2⟩
        go_wp2
        go_ret
        exact ⟨rfl, below_call hs_1.bw b2⟩
      · have t1 : decide ((f.ln : Int) ≤ lookup) = false := by simp; omega
        obtain ⟨k, rfl⟩ : ∃ k : Nat, lookup = k := ⟨lookup.toNat, by omega⟩
        have t1' : decide (f.ln ≤ k) = false := by simp; omega
        obtain ⟨lk, hlk⟩ := at_some F.lks k (by omega)
        obtain ⟨lb, lo', hla2, hlb, hc⟩ := hs_1.hf.2.1.pos (by omega)
        obtain ⟨cs, ⟨A, n, c, rfl, hR, hdl⟩, hcc⟩ := hc k lk hlk
        have g0 := hcc 0 _ rfl
        have g1 := hcc 1 _ rfl
        rw [Nat.add_zero] at g0
        rw [hla2] at y3
        have kz : (0 : Int) ≤ (k : Int) := by omega
        have kn : (k : Int) < (f.ln : Int) := by omega
        have HLA := Lib.hid hla2; have HLK := Lib.hid hlk
        clear hla2 hlk hc hcc hR hdl hln
        by_cases h7 : lk.kind = 8
        · rw [h7] at g0
          have HC8 := Lib.hid (aApply_c f F (k : Int) RA rn rc run w1 hs_1.hf hs_1.hI (by omega) hsm)
          rw [attachAll_eight HLK.out h7] at HC8
          have hLl := marksL_len w64 F lk.ign run
          have HNO := Lib.hid fun (i : Nat) (it ir : Itm) (hi : i < run.length) (h1 : (marksL w64 F lk.ign run)[i]? = some it) (h2 : run[i]? = some ir) (h : isMark F it.g = false ∨ hostR F lk.ign (marksL w64 F lk.ign run) it.g i = none) => (show it = ir by
            have e := hangs_none (w := w64) (F := F) (ign := lk.ign) hi (by rw [gAt_some h1]; exact h)
            rw [itAt_some h1, itAt_some h2] at e
            exact e)
          have HYES := Lib.hid fun (i q : Nat) (it iq : Itm) (hi : i < run.length) (hit : (marksL w64 F lk.ign run)[i]? = some it) (hiq : (marksL w64 F lk.ign run)[q]? = some iq) (hm : isMark F it.g = true) (hk : hostR F lk.ign (marksL w64 F lk.ign run) it.g i = some q) => hangs_any hi hit hiq hm hk
          generalize marksL w64 F lk.ign run = l at *
          have HLL := Lib.hid (hLl.trans hrl)
          unfold FV.cells at HC8
          rw [HLA.out] at HC8
          clear hLl hl hrl hsm
          have e7 : ((8 : Int) != 8) = false := by simp
          go_wp2_with fail
          clear y0 y1 y2 y3 y4 y5 y6 y7 y8
          refine HC8.out.mono ?_
          rintro e w4 ⟨A4, n4, c4, rfl, o4, b4⟩
          clear HC8
          have hs_4 := hs_1.call b4
          have l_4 := o4.rdI
          have hd4 := o4.hd
          have hn4 : n4 = rn := by have := l_4.len; have := HLL.out; omega
          subst hn4
          clear o4 hs_1 b4 g0 g1
          have e4 : ((n4 : Int) != (n4 : Int)) = false := by simp
          go_wp2
          go_loopw [8] (fun s8 wr => ∃ j : Nat, j ≤ n4 ∧ s8 = .int .i64 j ∧ Below w4.heap.size w4 wr) (fun i _ => n4 - (intOf i).toNat)
          case atStart => exact ⟨0, by omega, rfl, Below.refl _ _⟩
          case round =>
            obtain ⟨j, hj, rfl, hbr⟩ := hrel
            have hsr := hs_4.call hbr
            have lr := l_4.call hbr
            by_cases hlt : j < n4
            · obtain ⟨it, hit⟩ := at_some l j (by have := HLL.out; omega)
              obtain ⟨ir, hir⟩ := at_some run j (by have := HRL.out; omega)
              have HNO := Lib.hid (HNO.out j it ir (by have := HRL.out; omega) hit hir)
              have HIT := Lib.hid hit
              obtain ⟨rb, ro, rfl, _, hc⟩ := lr.pos (by omega)
              obtain ⟨sb, so, rfl, _, hcs⟩ := hsr.hI.pos (by omega)
              have HCS := Lib.hid hc
              obtain ⟨cs, rfl, hcc⟩ := hc j it hit
              obtain ⟨cs, rfl, hdd⟩ := hcs j ir hir
              have x0 := hcc 0 _ rfl
              have x1 := hcc 1 _ rfl
              have x2 := hcc 2 _ rfl
              have x3 := hcc 3 _ rfl
              have x4 := hcc 4 _ rfl
              have x5 := hcc 5 _ rfl
              have k0 := hdd 0 _ rfl
              have k1 := hdd 1 _ rfl
              have k2 := hdd 2 _ rfl
              have k3 := hdd 3 _ rfl
              have k4 := hdd 4 _ rfl
              have k5 := hdd 5 _ rfl
              rw [Nat.add_zero] at x0 k0
              have jz : (0 : Int) ≤ (j : Int) := by omega
              have jn : (j : Int) < (n4 : Int) := by omega
              have hgl := gAt_some hit
              obtain ⟨y0, y1, y2, y3, y4, y5, y6, y7, y8⟩ := font_cells hsr.kf
              rw [HLA.out] at y3
              clear hit hir hc hcc hcs hdd
              go_upto_region 11 with fail
              go_cut [77] (fun s wx => s = .bool (isMark F it.g) ∧ wx = wr)
              case first =>
                by_cases m0 : it.g < 0
                · have u0 : decide (0 ≤ it.g) = false := by simp; omega
                  have HHB := Lib.hid (isMarkLt HGN.out (.inl m0))
                  go_wp2
                  go_meet
                  exact ⟨by rw [HHB.out], rfl⟩
                · by_cases m1 : (f.gn : Int) ≤ it.g
                  · have u0 : decide (0 ≤ it.g) = true := by simp; omega
                    have u1 : decide (it.g < (f.gn : Int)) = false := by simp; omega
                    have HHB := Lib.hid (isMarkLt HGN.out (.inr m1))
                    go_wp2
                    go_meet
                    exact ⟨by rw [HHB.out], rfl⟩
                  · have hq : it.g = (it.g.toNat : Int) := by omega
                    obtain ⟨x, hx⟩ := at_some F.gly it.g.toNat (by have := HGN.out; omega)
                    obtain ⟨gb, go', hga, _, hcg⟩ := hsr.hf.1.pos (by omega)
                    obtain ⟨cs, ⟨u0, u1, u3, u4, u5, A, n, c, u7, u8, rfl, _⟩, hccg⟩ := hcg it.g.toNat x hx
                    have c2 := hccg 2 _ rfl
                    rw [hga] at y1
                    have HHB := Lib.hid (show isMark F it.g = x.mark by rw [hq, isMark_in hx])
                    have v0 : (0 : Int) ≤ it.g := by omega
                    have v1 : it.g < (f.gn : Int) := by omega
                    clear hga hx hcg hccg hgl hq m0 m1
                    go_wp2
                    go_meet
                    exact ⟨by rw [HHB.out], rfl⟩
              obtain ⟨rfl, rfl⟩ := hcut
              cases hm : isMark F it.g with
              | false =>
                clear y0 y1 y2 y3 y4 y5 y6 y7 y8
                have heq : it = ir := HNO.out (.inl hm)
                subst heq
                have hpg := item_guard
                have hpe := fun w0 => item_eq w0 it it
                simp only [decide_true] at hpe
                go_wp2
                go_quiet (fail)
                go_wp2
                go_roundw
                case rel => exact ⟨j + 1, by omega, by go_num, below_drewN (hbr) _⟩
                case measure => simp [intOf]; omega
              | true =>
                have HM := Lib.hid hm
                clear hm
                have HC := Lib.hid (rhost_c f F k lk (some ⟨rb, ro, none⟩) n4 c4 l j wc hsr.hf lr HLK.out (by omega) (by omega))
                unfold FV.cells at HC
                rw [HLA.out, hgl] at HC
                go_wp2_with fail
                refine HC.out.mono ?_
                rintro e w5 ⟨rfl, b5⟩
                clear HC y0 y1 y2 y3 y4 y5 y6 y7 y8
                replace x0 := cell_call x0 b5; replace x1 := cell_call x1 b5; replace x2 := cell_call x2 b5; replace x3 := cell_call x3 b5; replace x4 := cell_call x4 b5; replace x5 := cell_call x5 b5
                replace k0 := cell_call k0 b5; replace k1 := cell_call k1 b5; replace k2 := cell_call k2 b5; replace k3 := cell_call k3 b5; replace k4 := cell_call k4 b5; replace k5 := cell_call k5 b5
                have hbr5 := below_call hbr b5
                have hs5 := hsr.call b5
                rcases hho : hostR F lk.ign l it.g j with _ | q
                · clear HYES HCS
                  unfold hostI
                  have heq : it = ir := HNO.out (.inr hho)
                  subst heq
                  have hpg := item_guard
                  have hpe := fun w0 => item_eq w0 it it
                  simp only [decide_true] at hpe
                  go_wp2
                  go_quiet (fail)
                  go_wp2
                  go_roundw
                  case rel => exact ⟨j + 1, by omega, by go_num, below_drewN (hbr5) _⟩
                  case measure => simp [intOf]; omega
                · obtain ⟨hqj, _⟩ := hostR_lt hho
                  obtain ⟨iq, hiq⟩ := at_some l q (by have := HLL.out; omega)
                  obtain ⟨cs, rfl, hcq⟩ := HCS.out q iq hiq
                  have z0 := cell_call (hcq 0 _ rfl) b5
                  have z4 := cell_call (hcq 4 _ rfl) b5
                  have z5 := cell_call (hcq 5 _ rfl) b5
                  rw [Nat.add_zero] at z0
                  obtain ⟨ha0, hany⟩ := HYES.out j q it iq (by have := HRL.out; omega) HIT.out hiq HM.out hho
                  rw [ha0] at x3
                  have qz : (0 : Int) ≤ (q : Int) := by omega
                  have qn : (q : Int) < (n4 : Int) := by omega
                  have hg0 : ¬ it.g < 0 := fun h => by have := HM.out; rw [isMarkLt HGN.out (.inl h)] at this; cases this
                  have hg1 : ¬ (f.gn : Int) ≤ it.g := fun h => by have := HM.out; rw [isMarkLt HGN.out (.inr h)] at this; cases this
                  have hq : it.g = (it.g.toNat : Int) := by omega
                  obtain ⟨x, hx⟩ := at_some F.gly it.g.toNat (by have := HGN.out; omega)
                  obtain ⟨gb, go', hga, _, hcg⟩ := hs5.hf.1.pos (by omega)
                  obtain ⟨cs, ⟨u0, u1, u3, u4, u5, A, n, c, u7, u8, rfl, hA, hdA⟩, hccg⟩ := hcg it.g.toNat x hx
                  have c6 := hccg 6 _ rfl
                  have HGA := Lib.hid hga
                  have v0 : (0 : Int) ≤ it.g := by omega
                  have v1 : it.g < (f.gn : Int) := by omega
                  rw [hq, ancOf_in hx] at hany
                  have HANY := Lib.hid hany
                  have HNA := Lib.hid hA.len
                  have hnM : n ≤ 9223372036854775807 := Nat.le_trans hdA.1 hdA.2
                  clear hq hany hx hcg hccg hga hg0 hg1 hho hiq hcq ha0 HYES HCS hsr HNO
                  unfold hostI
                  have l5 := lr.call b5
                  go_wp2
                  have WI : ∃ wi, wi = widthL w64 (l.take j) := ⟨_, rfl⟩
                  have WQ : ∃ wq, wq = widthL w64 (l.take q) := ⟨_, rfl⟩
                  obtain ⟨wi, hwi⟩ := WI
                  obtain ⟨wq, hwq⟩ := WQ
                  rw [← hwi, ← hwq] at HANY
                  have HWI := Lib.hid hwi; have HWQ := Lib.hid hwq
                  clear hwi hwq
                  go_loopw [11, 12] (fun s11 s12 wr => ∃ p : Nat, p ≤ n ∧ s12 = .int .i64 p ∧ s11 = .bool ((x.anc.take p).any fun m => fitB it iq wi wq (anchorL F iq.g 1 m.c) m) ∧ Below w5.heap.size w5 wr) (fun _ i _ => n - (intOf i).toNat)
                  case atStart => exact ⟨0, by omega, rfl, by simp, Below.refl _ _⟩
                  case round =>
                    obtain ⟨p, hp, rfl, rfl, hbw⟩ := hrel
                    have hs6 := hs5.call hbw
                    have l6 := l5.call hbw
                    have x4' := cell_call x4 hbw; have x5' := cell_call x5 hbw; have x3' := cell_call x3 hbw
                    have z0' := cell_call z0 hbw; have z4' := cell_call z4 hbw; have z5' := cell_call z5 hbw
                    have c6' := cell_call c6 hbw
                    obtain ⟨y0, y1, y2, y3, y4, y5, y6, y7, y8⟩ := font_cells hs6.kf
                    rw [HLA.out] at y3
                    rw [HGA.out] at y1
                    clear x0 x1 x2 x3 x4 x5 k0 k1 k2 k3 k4 k5 z0 z4 z5 c6 hs5 l5
                    by_cases hlp : p < n
                    · obtain ⟨a, haa⟩ := at_some x.anc p (by have := HNA.out; omega)
                      obtain ⟨ab, ao, rfl, _, hca⟩ := hA.pos (by omega)
                      obtain ⟨cs, rfl, hcc⟩ := hca p a haa
                      have a0 := cell_call (hcc 0 _ rfl) hbw
                      have a1 := cell_call (hcc 1 _ rfl) hbw
                      have a2 := cell_call (hcc 2 _ rfl) hbw
                      have a3 := cell_call (hcc 3 _ rfl) hbw
                      rw [Nat.add_zero] at a0
                      have hnx : (x.anc.take (p + 1)).any (fun m => fitB it iq wi wq (anchorL F iq.g 1 m.c) m) = ((x.anc.take p).any (fun m => fitB it iq wi wq (anchorL F iq.g 1 m.c) m) || fitB it iq wi wq (anchorL F iq.g 1 a.c) a) := by
                        rw [List.take_add_one, haa]; simp
                      have HNX := Lib.hid hnx
                      have pz : (0 : Int) ≤ (p : Int) := by omega
                      have pn : (p : Int) < (n : Int) := by omega
                      clear hnx haa hca hcc
                      generalize (x.anc.take p).any (fun m => fitB it iq wi wq (anchorL F iq.g 1 m.c) m) = fb at *
                      go_upto_region 21 with fail
                      have bA : Below wr.heap.size wr (wr.alloc (.cells #[.int .i64 a.k, .int .i64 a.c, .int .i64 a.x, .int .i64 a.y] 59)) := (Below.refl _ _).alloc (Nat.le_refl _) _
                      have kA : Bk (wr.alloc (.cells #[.int .i64 a.k, .int .i64 a.c, .int .i64 a.x, .int .i64 a.y] 59)) wr.heap.size 59 #[.int .i64 a.k, .int .i64 a.c, .int .i64 a.x, .int .i64 a.y] := Bk.new _ _ _
                      have hs7 := hs6.call bA
                      have l7 := l6.call bA
                      have hb7 := below_call hbw bA
                      replace x3' := cell_call x3' bA; replace x4' := cell_call x4' bA; replace x5' := cell_call x5' bA
                      replace z0' := cell_call z0' bA; replace z4' := cell_call z4' bA; replace z5' := cell_call z5' bA
                      clear hs6 l6 a0 a1 a2 a3 c6' y0 y1 y2 y3 y4 y5 y6 y7 y8 bA
                      generalize wr.heap.size = bm at kA ⊢
                      generalize wr.alloc (.cells #[.int .i64 a.k, .int .i64 a.c, .int .i64 a.x, .int .i64 a.y] 59) = w7 at *
                      obtain ⟨y0, y1, y2, y3, y4, y5, y6, y7, y8⟩ := font_cells hs7.kf
                      rw [HLA.out] at y3
                      rw [HGA.out] at y1
                      have m0 : w7.cell? ⟨bm, 0, none⟩ = some (.int .i64 a.k) := kA.cell 0
                      have m1 : w7.cell? ⟨bm, 1, none⟩ = some (.int .i64 a.c) := kA.cell 1
                      have m2 : w7.cell? ⟨bm, 2, none⟩ = some (.int .i64 a.x) := kA.cell 2
                      have m3 : w7.cell? ⟨bm, 3, none⟩ = some (.int .i64 a.y) := kA.cell 3
                      have HAN := Lib.hid fun (W : World) (h : IsF W (lo W.heap.size) f F) => anchor_c f F iq.g 1 a.c W h
                      simp only [ancV_u] at HAN
                      unfold FV.cells at HAN
                      rw [HLA.out, HGA.out] at HAN
                      generalize anchorL F iq.g 1 a.c = o1 at *
                      have HS := Lib.hid fun (W : World) (b : Below w7.heap.size w7 W) => (show W.cell? ⟨bf, 0, none⟩ = some (.int .i64 f.u0) ∧ W.cell? ⟨bf, 1, none⟩ = some (.slice (some ⟨gb, go', none⟩) f.gn f.gc) ∧ W.cell? ⟨bf, 2, none⟩ = some (.slice f.ca f.cn f.cc) ∧ W.cell? ⟨bf, 3, none⟩ = some (.slice (some ⟨lb, lo', none⟩) f.ln f.lc) ∧ W.cell? ⟨bf, 4, none⟩ = some (.slice f.a4 f.n4 f.c4) ∧ W.cell? ⟨bf, 5, none⟩ = some (.slice f.a5 f.n5 f.c5) ∧ W.cell? ⟨bf, 6, none⟩ = some (.slice f.a6 f.n6 f.c6) ∧ W.cell? ⟨bf, 7, none⟩ = some (.slice f.a7 f.n7 f.c7) ∧ W.cell? ⟨bf, 8, none⟩ = some (.slice f.a8 f.n8 f.c8) ∧ W.cell? ⟨rb, ro + q * 6, none⟩ = some (.int .i64 iq.g) ∧ W.cell? ⟨bm, 1, none⟩ = some (.int .i64 a.c) from by
                        obtain ⟨z0, z1, z2, z3, z4, z5, z6, z7, z8⟩ := font_cells (hs7.call b).kf
                        rw [HLA.out] at z3
                        rw [HGA.out] at z1
                        exact And.intro z0 (And.intro z1 (And.intro z2 (And.intro z3 (And.intro z4 (And.intro z5 (And.intro z6 (And.intro z7 (And.intro z8 (And.intro (cell_call z0' b) ((cell_call m1 b))))))))))))
                      go_region_held3 (fun w' => w'.cell? ⟨bf, 0, none⟩ = some (.int .i64 f.u0) ∧ w'.cell? ⟨bf, 1, none⟩ = some (.slice (some ⟨gb, go', none⟩) f.gn f.gc) ∧ w'.cell? ⟨bf, 2, none⟩ = some (.slice f.ca f.cn f.cc) ∧ w'.cell? ⟨bf, 3, none⟩ = some (.slice (some ⟨lb, lo', none⟩) f.ln f.lc) ∧ w'.cell? ⟨bf, 4, none⟩ = some (.slice f.a4 f.n4 f.c4) ∧ w'.cell? ⟨bf, 5, none⟩ = some (.slice f.a5 f.n5 f.c5) ∧ w'.cell? ⟨bf, 6, none⟩ = some (.slice f.a6 f.n6 f.c6) ∧ w'.cell? ⟨bf, 7, none⟩ = some (.slice f.a7 f.n7 f.c7) ∧ w'.cell? ⟨bf, 8, none⟩ = some (.slice f.a8 f.n8 f.c8) ∧ w'.cell? ⟨rb, ro + q * 6, none⟩ = some (.int .i64 iq.g) ∧ w'.cell? ⟨bm, 1, none⟩ = some (.int .i64 a.c)) (first | ((with_reducible refine HS.out _ ?_); go_grown; done) | go_keep) (first
                        | (go_at_call 19; (with_reducible refine (HAN.out _ ?_).mono ?_); exact hs7.hf; rintro e w8 ⟨rfl, hb8⟩; have b8 := below_undrew hb8))
                      have l8 := l7.call b8
                      have hb8' := below_call hb7 b8
                      replace x3' := cell_call x3' b8; replace x4' := cell_call x4' b8; replace x5' := cell_call x5' b8
                      replace z4' := cell_call z4' b8; replace z5' := cell_call z5' b8
                      replace m0 := cell_call m0 b8; replace m2 := cell_call m2 b8; replace m3 := cell_call m3 b8
                      clear hs7 l7 hb7 kA y0 y1 y2 y3 y4 y5 y6 y7 y8 HAN HS hb8 b8 z0' m1 hbw
                      go_upto_region 22 with fail
                      have hval : ∀ v : Bool, (fb || fitB it iq wi wq o1 a) = v → (x.anc.take (p + 1)).any (fun m => fitB it iq wi wq (anchorL F iq.g 1 m.c) m) = v := fun v h => by rw [HNX.out]; exact h
                      have HVAL := Lib.hid hval
                      clear hval
                      cases fb with
                      | true =>
                        have HV := Lib.hid (HVAL.out true (by simp))
                        go_quiet (fail)
                        go_wp2
                        go_roundw
                        case rel => exact ⟨p + 1, by omega, by go_num, by rw [HV.out], below_call hb8' (below_drewN (Below.refl _ _) _)⟩
                        case measure => simp [intOf]; omega
                      | false =>
                        by_cases c2 : o1.isSome = true
                        · by_cases c3 : a.k = 2
                          · have hjc : (j : Int) ≤ (c4 : Int) := by have := hd4.1; omega
                            have hqc : (q : Int) ≤ (c4 : Int) := by have := hd4.1; omega
                            have hcM : c4 ≤ 9223372036854775807 := hd4.2
                            have HWj := Lib.hid fun (W : World) (h : RdI W (lo W.heap.size) (some ⟨rb, ro, none⟩) j (l.take j)) => width_c (some ⟨rb, ro, none⟩) j c4 (l.take j) W h (by omega)
                            have HWq := Lib.hid fun (W : World) (h : RdI W (lo W.heap.size) (some ⟨rb, ro, none⟩) q (l.take q)) => width_c (some ⟨rb, ro, none⟩) q c4 (l.take q) W h (by omega)
                            rw [← HWI.out] at HWj
                            rw [← HWQ.out] at HWq
                            have lj := l8.takeN j (by omega)
                            have lq := l8.takeN q (by omega)
                            have HS := Lib.hid fun (W : World) (b : Below w8.heap.size w8 W) => (show W.cell? ⟨bm, 0, none⟩ = some (.int .i64 a.k) ∧ W.cell? ⟨rb, ro + j * 6 + 4, none⟩ = some (.int .i64 it.x) ∧ W.cell? ⟨bm, 2, none⟩ = some (.int .i64 a.x) ∧ W.cell? ⟨rb, ro + q * 6 + 4, none⟩ = some (.int .i64 iq.x) ∧ W.cell? ⟨rb, ro + j * 6 + 5, none⟩ = some (.int .i64 it.y) ∧ W.cell? ⟨bm, 3, none⟩ = some (.int .i64 a.y) ∧ W.cell? ⟨rb, ro + q * 6 + 5, none⟩ = some (.int .i64 iq.y) from ⟨cell_call m0 b, cell_call x4' b, cell_call m2 b, cell_call z4' b, cell_call x5' b, cell_call m3 b, cell_call z5' b⟩)
                            have e2 : (a.k == 2) = true := by simp [c3]
                            cases c4' : (IntKind.i64.wrap (IntKind.i64.wrap (wi + it.x) + a.x) == IntKind.i64.wrap (IntKind.i64.wrap (wq + iq.x) + ax o1)) with
                            | false =>
                              have HV := Lib.hid (HVAL.out false (by unfold fitB; rw [c4']; simp))
                              rw [c2]
                              as_aux_lemma =>
                                refine wp_region_held_drew (S := fun w' => w'.cell? ⟨bm, 0, none⟩ = some (.int .i64 a.k) ∧ w'.cell? ⟨rb, ro + j * 6 + 4, none⟩ = some (.int .i64 it.x) ∧ w'.cell? ⟨bm, 2, none⟩ = some (.int .i64 a.x) ∧ w'.cell? ⟨rb, ro + q * 6 + 4, none⟩ = some (.int .i64 iq.x) ∧ w'.cell? ⟨rb, ro + j * 6 + 5, none⟩ = some (.int .i64 it.y) ∧ w'.cell? ⟨bm, 3, none⟩ = some (.int .i64 a.y) ∧ w'.cell? ⟨rb, ro + q * 6 + 5, none⟩ = some (.int .i64 iq.y)) (by kernel_rfl) ?_ (fun hHeld => ?_)
                                · (with_reducible refine HS.out _ ?_); go_grown
                                refine wpAnyH_take (i := 0) (v := ?_) (by simp only [List.getElem?_toArray, List.getElem?_cons_zero]; rfl) (by kernel_rfl) (by kernel_rfl) (by kernel_rfl) (by exact fun _ _ _ h => h) (Or.inl ⟨by rfl, ?_⟩) (by assumption) ?_
                                rotate_left 1
                                · intro w hSw; (try dsimp only at hSw); go_simp; try with_reducible rfl
                                try simp only [Act.put, List.setIfInBounds_toArray, List.set_cons_zero, List.set_cons_succ]
                                refine wpAnyH_take (i := 1) (v := ?_) (by simp only [List.getElem?_toArray, List.getElem?_cons_succ, List.getElem?_cons_zero]; rfl) (by kernel_rfl) (by kernel_rfl) (by kernel_rfl) (by exact fun _ _ _ h => h) (Or.inl ⟨by rfl, ?_⟩) (by assumption) ?_
                                rotate_left 1
                                · intro w hSw; (try dsimp only at hSw); go_simp; try with_reducible rfl
                                try simp only [Act.put, List.setIfInBounds_toArray, List.set_cons_zero, List.set_cons_succ]
                                refine wpAnyH_take (i := 2) (v := ?_) (by simp only [List.getElem?_toArray, List.getElem?_cons_succ, List.getElem?_cons_zero]; rfl) (by kernel_rfl) (by kernel_rfl) (by kernel_rfl) (by exact fun _ _ _ h => h) (Or.inl ⟨by rfl, ?_⟩) (by assumption) ?_
                                rotate_left 1
                                · intro w hSw; (try dsimp only at hSw); go_simp; try with_reducible rfl
                                try simp only [Act.put, List.setIfInBounds_toArray, List.set_cons_zero, List.set_cons_succ]
                                refine wpAnyH_take (i := 3) (v := ?_) (by simp only [List.getElem?_toArray, List.getElem?_cons_succ, List.getElem?_cons_zero]; rfl) (by kernel_rfl) (by kernel_rfl) (by kernel_rfl) (by exact fun _ _ _ h => h) (Or.inl ⟨by rfl, ?_⟩) (by assumption) ?_
                                rotate_left 1
                                · intro w hSw; (try dsimp only at hSw); go_simp; try with_reducible rfl
                                try simp only [Act.put, List.setIfInBounds_toArray, List.set_cons_zero, List.set_cons_succ]
                                refine wpAnyH_take (i := 4) (v := ?_) (by simp only [List.getElem?_toArray, List.getElem?_cons_succ, List.getElem?_cons_zero]; rfl) (by kernel_rfl) (by kernel_rfl) (by kernel_rfl) (by exact fun _ _ _ h => h) (Or.inl ⟨by rfl, ?_⟩) (by assumption) ?_
                                rotate_left 1
                                · intro w hSw; (try dsimp only at hSw); go_simp; try with_reducible rfl
                                try simp only [Act.put, List.setIfInBounds_toArray, List.set_cons_zero, List.set_cons_succ]
                                refine wpAnyH_take (i := 5) (v := ?_) (by simp only [List.getElem?_toArray, List.getElem?_cons_succ, List.getElem?_cons_zero]; rfl) (by kernel_rfl) (by kernel_rfl) (by kernel_rfl) (by exact fun _ _ _ h => h) (Or.inl ⟨by rfl, ?_⟩) (by assumption) ?_
                                rotate_left 1
                                · intro w hSw; (try dsimp only at hSw); go_simp; try with_reducible rfl
                                try simp only [Act.put, List.setIfInBounds_toArray, List.set_cons_zero, List.set_cons_succ]
                                refine wpAnyH_take (i := 6) (v := ?_) (by simp only [List.getElem?_toArray, List.getElem?_cons_succ, List.getElem?_cons_zero]; rfl) (by kernel_rfl) (by kernel_rfl) (by kernel_rfl) (by exact fun _ _ _ h => h) (Or.inl ⟨by rfl, ?_⟩) (by assumption) ?_
                                rotate_left 1
                                · intro w hSw; (try dsimp only at hSw); go_simp; try with_reducible rfl
                                try simp only [Act.put, List.setIfInBounds_toArray, List.set_cons_zero, List.set_cons_succ]
                                refine wpAnyH_take (i := 7) (v := ?_) (by simp only [List.getElem?_toArray, List.getElem?_cons_succ, List.getElem?_cons_zero]; rfl) (by kernel_rfl) (by kernel_rfl) (by kernel_rfl) (by exact fun _ _ _ h => h) (Or.inl ⟨by rfl, ?_⟩) (by assumption) ?_
                                rotate_left 1
                                · intro w hSw; (try dsimp only at hSw); go_simp; try with_reducible rfl
                                try simp only [Act.put, List.setIfInBounds_toArray, List.set_cons_zero, List.set_cons_succ]
                                refine wpAnyH_take (i := 8) (v := ?_) (by simp only [List.getElem?_toArray, List.getElem?_cons_succ, List.getElem?_cons_zero]; rfl) (by kernel_rfl) (by kernel_rfl) (by kernel_rfl) (by exact fun _ _ _ h => h) (Or.inl ⟨by rfl, ?_⟩) (by assumption) ?_
                                rotate_left 1
                                · intro w hSw; (try dsimp only at hSw); go_simp; try with_reducible rfl
                                try simp only [Act.put, List.setIfInBounds_toArray, List.set_cons_zero, List.set_cons_succ]
                                refine wpAnyH_take (i := 9) (v := ?_) (by simp only [List.getElem?_toArray, List.getElem?_cons_succ, List.getElem?_cons_zero]; rfl) (by kernel_rfl) (by kernel_rfl) (by kernel_rfl) (by exact fun _ _ _ h => h) (Or.inl ⟨by rfl, ?_⟩) (by assumption) ?_
                                rotate_left 1
                                · intro w hSw; (try dsimp only at hSw); go_simp; try with_reducible rfl
                                try simp only [Act.put, List.setIfInBounds_toArray, List.set_cons_zero, List.set_cons_succ]
                                refine wpAnyH_take (i := 10) (v := ?_) (by simp only [List.getElem?_toArray, List.getElem?_cons_succ, List.getElem?_cons_zero]; rfl) (by kernel_rfl) (by kernel_rfl) (by kernel_rfl) (by exact fun _ _ _ h => h) (Or.inl ⟨by rfl, ?_⟩) (by assumption) ?_
                                rotate_left 1
                                · intro w hSw; (try dsimp only at hSw); go_simp; try with_reducible rfl
                                try simp only [Act.put, List.setIfInBounds_toArray, List.set_cons_zero, List.set_cons_succ]
                                refine wpAnyH_take (i := 11) (v := ?_) (by simp only [List.getElem?_toArray, List.getElem?_cons_succ, List.getElem?_cons_zero]; rfl) (by kernel_rfl) (by kernel_rfl) (by kernel_rfl) (by exact fun _ _ _ h => h) (Or.inl ⟨by rfl, ?_⟩) (by assumption) ?_
                                rotate_left 1
                                · intro w hSw; (try dsimp only at hSw); go_simp; try with_reducible rfl
                                try simp only [Act.put, List.setIfInBounds_toArray, List.set_cons_zero, List.set_cons_succ]
                                refine wpAnyH_take (i := 13) (v := ?_) (by simp only [List.getElem?_toArray, List.getElem?_cons_succ, List.getElem?_cons_zero]; rfl) (by kernel_rfl) (by kernel_rfl) (by kernel_rfl) (by exact fun _ _ _ h => h) (Or.inl ⟨by rfl, ?_⟩) (by assumption) ?_
                                rotate_left 1
                                · intro w hSw; (try dsimp only at hSw); go_simp; try with_reducible rfl
                                try simp only [Act.put, List.setIfInBounds_toArray, List.set_cons_zero, List.set_cons_succ]
                                refine wpAnyH_take (i := 14) (v := ?_) (by simp only [List.getElem?_toArray, List.getElem?_cons_succ, List.getElem?_cons_zero]; rfl) (by kernel_rfl) (by kernel_rfl) (by kernel_rfl) (by exact fun _ _ _ h => h) (Or.inl ⟨by rfl, ?_⟩) (by assumption) ?_
                                rotate_left 1
                                · intro w hSw; (try dsimp only at hSw); go_simp; try with_reducible rfl
                                try simp only [Act.put, List.setIfInBounds_toArray, List.set_cons_zero, List.set_cons_succ]
                                refine wpAnyH_take (i := 15) (v := ?_) (by simp only [List.getElem?_toArray, List.getElem?_cons_succ, List.getElem?_cons_zero]; rfl) (by kernel_rfl) (by kernel_rfl) (by kernel_rfl) (by exact fun _ _ _ h => h) (Or.inl ⟨by rfl, ?_⟩) (by assumption) ?_
                                rotate_left 1
                                · intro w hSw; (try dsimp only at hSw); go_simp; try with_reducible rfl
                                try simp only [Act.put, List.setIfInBounds_toArray, List.set_cons_zero, List.set_cons_succ]
                                refine wpAnyH_take (i := 16) (v := ?_) (by simp only [List.getElem?_toArray, List.getElem?_cons_succ, List.getElem?_cons_zero]; rfl) (by kernel_rfl) (by kernel_rfl) (by kernel_rfl) (by exact fun _ _ _ h => h) (Or.inl ⟨by rfl, ?_⟩) (by assumption) ?_
                                rotate_left 1
                                · intro w hSw; (try dsimp only at hSw); go_simp; try with_reducible rfl
                                try simp only [Act.put, List.setIfInBounds_toArray, List.set_cons_zero, List.set_cons_succ]
                                refine wpAnyH_take (i := 17) (v := ?_) (by simp only [List.getElem?_toArray, List.getElem?_cons_succ, List.getElem?_cons_zero]; rfl) (by kernel_rfl) (by kernel_rfl) (by kernel_rfl) (by exact fun _ _ _ h => h) (Or.inl ⟨by rfl, ?_⟩) (by assumption) ?_
                                rotate_left 1
                                · intro w hSw; (try dsimp only at hSw); go_simp; try with_reducible rfl
                                try simp only [Act.put, List.setIfInBounds_toArray, List.set_cons_zero, List.set_cons_succ]
                                refine wpAnyH_take (i := 19) (v := ?_) (by simp only [List.getElem?_toArray, List.getElem?_cons_succ, List.getElem?_cons_zero]; rfl) (by kernel_rfl) (by kernel_rfl) (by kernel_rfl) (by exact fun _ _ _ h => h) (Or.inl ⟨by rfl, ?_⟩) (by assumption) ?_
                                rotate_left 1
                                · intro w hSw; (try dsimp only at hSw); go_simp; try with_reducible rfl
                                try simp only [Act.put, List.setIfInBounds_toArray, List.set_cons_zero, List.set_cons_succ]
                                refine wpAnyH_take (i := 20) (v := ?_) (by simp only [List.getElem?_toArray, List.getElem?_cons_succ, List.getElem?_cons_zero]; rfl) (by kernel_rfl) (by kernel_rfl) (by kernel_rfl) (by exact fun _ _ _ h => h) (Or.inl ⟨by rfl, ?_⟩) (by assumption) ?_
                                rotate_left 1
                                · intro w hSw; (try dsimp only at hSw); go_simp; try with_reducible rfl
                                try simp only [Act.put, List.setIfInBounds_toArray, List.set_cons_zero, List.set_cons_succ]
                                refine wpAnyH_take (i := 22) (v := ?_) (by simp only [List.getElem?_toArray, List.getElem?_cons_succ, List.getElem?_cons_zero]; rfl) (by kernel_rfl) (by kernel_rfl) (by kernel_rfl) (by exact fun _ _ _ h => h) (Or.inl ⟨by rfl, ?_⟩) (by assumption) ?_
                                rotate_left 1
                                · intro w hSw; (try dsimp only at hSw); go_simp; try with_reducible rfl
                                try simp only [Act.put, List.setIfInBounds_toArray, List.set_cons_zero, List.set_cons_succ]
                                refine wpAnyH_take (i := 23) (v := ?_) (by simp only [List.getElem?_toArray, List.getElem?_cons_succ, List.getElem?_cons_zero]; rfl) (by kernel_rfl) (by kernel_rfl) (by kernel_rfl) (by exact fun _ _ _ h => h) (Or.inl ⟨by rfl, ?_⟩) (by assumption) ?_
                                rotate_left 1
                                · intro w hSw; (try dsimp only at hSw); go_simp; try with_reducible rfl
                                try simp only [Act.put, List.setIfInBounds_toArray, List.set_cons_zero, List.set_cons_succ]
                                refine wpAnyH_take (i := 24) (v := ?_) (by simp only [List.getElem?_toArray, List.getElem?_cons_succ, List.getElem?_cons_zero]; rfl) (by kernel_rfl) (by kernel_rfl) (by kernel_rfl) (by exact fun _ _ _ h => h) (Or.inl ⟨by rfl, ?_⟩) (by assumption) ?_
                                rotate_left 1
                                · intro w hSw; (try dsimp only at hSw); go_simp; try with_reducible rfl
                                try simp only [Act.put, List.setIfInBounds_toArray, List.set_cons_zero, List.set_cons_succ]
                                refine wpAnyH_take (i := 26) (v := ?_) (by simp only [List.getElem?_toArray, List.getElem?_cons_succ, List.getElem?_cons_zero]; rfl) (by kernel_rfl) (by kernel_rfl) (by kernel_rfl) (by exact fun _ _ _ h => h) (Or.inl ⟨by rfl, ?_⟩) (by assumption) ?_
                                rotate_left 1
                                · intro w hSw; (try dsimp only at hSw); go_simp; try with_reducible rfl
                                try simp only [Act.put, List.setIfInBounds_toArray, List.set_cons_zero, List.set_cons_succ]
                                refine wpAnyH_take (i := 27) (v := ?_) (by simp only [List.getElem?_toArray, List.getElem?_cons_succ, List.getElem?_cons_zero]; rfl) (by kernel_rfl) (by kernel_rfl) (by kernel_rfl) (by exact fun _ _ _ h => h) (Or.inl ⟨by rfl, ?_⟩) (by assumption) ?_
                                rotate_left 1
                                · intro w hSw; (try dsimp only at hSw); go_simp; try with_reducible rfl
                                try simp only [Act.put, List.setIfInBounds_toArray, List.set_cons_zero, List.set_cons_succ]
                                refine wpAnyH_take (i := 28) (v := ?_) (by simp only [List.getElem?_toArray, List.getElem?_cons_succ, List.getElem?_cons_zero]; rfl) (by kernel_rfl) (by kernel_rfl) (by kernel_rfl) (by exact fun _ _ _ h => h) (Or.inl ⟨by rfl, ?_⟩) (by assumption) ?_
                                rotate_left 1
                                · intro w hSw; (try dsimp only at hSw); go_simp; try with_reducible rfl
                                try simp only [Act.put, List.setIfInBounds_toArray, List.set_cons_zero, List.set_cons_succ]
                                refine wpAnyH_take (i := 29) (v := ?_) (by simp only [List.getElem?_toArray, List.getElem?_cons_succ, List.getElem?_cons_zero]; rfl) (by kernel_rfl) (by kernel_rfl) (by kernel_rfl) (by exact fun _ _ _ h => h) (Or.inl ⟨by rfl, ?_⟩) (by assumption) ?_
                                rotate_left 1
                                · intro w hSw; (try dsimp only at hSw); go_simp; try with_reducible rfl
                                try simp only [Act.put, List.setIfInBounds_toArray, List.set_cons_zero, List.set_cons_succ]
                                refine wpAnyH_take (i := 30) (v := ?_) (by simp only [List.getElem?_toArray, List.getElem?_cons_succ, List.getElem?_cons_zero]; rfl) (by kernel_rfl) (by kernel_rfl) (by kernel_rfl) (by exact fun _ _ _ h => h) (Or.inl ⟨by rfl, ?_⟩) (by assumption) ?_
                                rotate_left 1
                                · intro w hSw; (try dsimp only at hSw); go_simp; try with_reducible rfl
                                try simp only [Act.put, List.setIfInBounds_toArray, List.set_cons_zero, List.set_cons_succ]
                                refine wpAnyH_take (i := 32) (v := ?_) (by simp only [List.getElem?_toArray, List.getElem?_cons_succ, List.getElem?_cons_zero]; rfl) (by kernel_rfl) (by kernel_rfl) (by kernel_rfl) (by exact fun _ _ _ h => h) (Or.inl ⟨by rfl, ?_⟩) (by assumption) ?_
                                rotate_left 1
                                · intro w hSw; (try dsimp only at hSw); go_simp; try with_reducible rfl
                                try simp only [Act.put, List.setIfInBounds_toArray, List.set_cons_zero, List.set_cons_succ]
                                as_aux_lemma =>
                                  refine wpAnyH_ready (rs := [12]) (by kernel_rfl) (by simp) ?_
                                  refine AllReadyH.cons rfl (fun K hK => ?_) AllReadyH.nil
                                  go_simp
                                  go_at_call 23
                                  (with_reducible refine (HWj.out _ ?_).mono ?_)
                                  · exact lj
                                  rintro e w9 ⟨rfl, hb9⟩
                                  have b9 := below_undrew hb9
                                  have s9 := b9.size
                                  go_wp2_with fail
                                  refine hK.out _ _ ?_ (fun hHeld => ?_)
                                  · (with_reducible refine HS.out _ ?_); go_grown
                                  clear hK K
                                  try simp only [Act.put, List.setIfInBounds_toArray, List.set_cons_zero, List.set_cons_succ]
                                  refine wpAnyH_take (i := 18) (v := ?_) (by simp only [List.getElem?_toArray, List.getElem?_cons_succ, List.getElem?_cons_zero]; rfl) (by kernel_rfl) (by kernel_rfl) (by kernel_rfl) (by exact fun _ _ _ h => h) (Or.inl ⟨by rfl, ?_⟩) (by assumption) ?_
                                  rotate_left 1
                                  · intro w hSw; (try dsimp only at hSw); go_simp; try with_reducible rfl
                                  try simp only [Act.put, List.setIfInBounds_toArray, List.set_cons_zero, List.set_cons_succ]
                                  refine wpAnyH_take (i := 21) (v := ?_) (by simp only [List.getElem?_toArray, List.getElem?_cons_succ, List.getElem?_cons_zero]; rfl) (by kernel_rfl) (by kernel_rfl) (by kernel_rfl) (by exact fun _ _ _ h => h) (Or.inl ⟨by rfl, ?_⟩) (by assumption) ?_
                                  rotate_left 1
                                  · intro w hSw; (try dsimp only at hSw); go_simp; try with_reducible rfl
                                  try simp only [Act.put, List.setIfInBounds_toArray, List.set_cons_zero, List.set_cons_succ]
                                  as_aux_lemma =>
                                    refine wpAnyH_ready (rs := [25]) (by kernel_rfl) (by simp) ?_
                                    refine AllReadyH.cons rfl (fun K hK => ?_) AllReadyH.nil
                                    go_simp
                                    go_at_call 23
                                    (with_reducible refine (HWq.out _ ?_).mono ?_)
                                    · exact lq.call b9
                                    rintro e w10 ⟨rfl, hb10⟩
                                    have b10 := below_call b9 hb10
                                    go_wp2_with fail
                                    refine hK.out _ _ ?_ (fun hHeld => ?_)
                                    · (with_reducible refine HS.out _ ?_); go_grown
                                    clear hK K
                                    try simp only [Act.put, List.setIfInBounds_toArray, List.set_cons_zero, List.set_cons_succ]
                                    refine wpAnyH_take (i := 31) (v := ?_) (by simp only [List.getElem?_toArray, List.getElem?_cons_succ, List.getElem?_cons_zero]; rfl) (by kernel_rfl) (by kernel_rfl) (by kernel_rfl) (by exact fun _ _ _ h => h) (Or.inl ⟨by rfl, ?_⟩) (by assumption) ?_
                                    rotate_left 1
                                    · intro w hSw; (try dsimp only at hSw); go_simp; try with_reducible rfl
                                    try simp only [Act.put, List.setIfInBounds_toArray, List.set_cons_zero, List.set_cons_succ]
                                    refine wpAnyH_take (i := 33) (v := ?_) (by simp only [List.getElem?_toArray, List.getElem?_cons_succ, List.getElem?_cons_zero]; rfl) (by kernel_rfl) (by kernel_rfl) (by kernel_rfl) (by exact fun _ _ _ h => h) (Or.inl ⟨by rfl, ?_⟩) (by assumption) ?_
                                    rotate_left 1
                                    · intro w hSw; (try dsimp only at hSw); go_simp; try with_reducible rfl
                                    try simp only [Act.put, List.setIfInBounds_toArray, List.set_cons_zero, List.set_cons_succ]
                                    refine wpAnyH_take (i := 34) (v := ?_) (by simp only [List.getElem?_toArray, List.getElem?_cons_succ, List.getElem?_cons_zero]; rfl) (by kernel_rfl) (by kernel_rfl) (by kernel_rfl) (by exact fun _ _ _ h => h) (Or.inl ⟨by rfl, ?_⟩) (by assumption) ?_
                                    rotate_left 1
                                    · intro w hSw; (try dsimp only at hSw); go_simp; try with_reducible rfl
                                    try simp only [Act.put, List.setIfInBounds_toArray, List.set_cons_zero, List.set_cons_succ]
                                    refine wpAnyH_take (i := 35) (v := ?_) (by simp only [List.getElem?_toArray, List.getElem?_cons_succ, List.getElem?_cons_zero]; rfl) (by kernel_rfl) (by kernel_rfl) (by kernel_rfl) (by exact fun _ _ _ h => h) (Or.inl ⟨by rfl, ?_⟩) (by assumption) ?_
                                    rotate_left 1
                                    · intro w hSw; (try dsimp only at hSw); go_simp; try with_reducible rfl
                                    try simp only [Act.put, List.setIfInBounds_toArray, List.set_cons_zero, List.set_cons_succ]
                                    refine wpAnyH_take (i := 36) (v := ?_) (by simp only [List.getElem?_toArray, List.getElem?_cons_succ, List.getElem?_cons_zero]; rfl) (by kernel_rfl) (by kernel_rfl) (by kernel_rfl) (by exact fun _ _ _ h => h) (Or.inl ⟨by rfl, ?_⟩) (by assumption) ?_
                                    rotate_left 1
                                    · intro w hSw; (try dsimp only at hSw); go_simp; try with_reducible rfl
                                    try simp only [Act.put, List.setIfInBounds_toArray, List.set_cons_zero, List.set_cons_succ]
                                    as_aux_lemma =>
                                      refine wpAnyH_take (i := 37) (v := undef) (by simp only [List.getElem?_toArray, List.getElem?_cons_succ, List.getElem?_cons_zero]; rfl) (by kernel_rfl) (by kernel_rfl) (by kernel_rfl) (by exact fun _ _ _ h => h) (Or.inr ⟨by rfl, rfl⟩) (by assumption) ?_
                                      try simp only [Act.put, List.setIfInBounds_toArray, List.set_cons_zero, List.set_cons_succ]
                                      refine wpAnyH_take (i := 38) (v := undef) (by simp only [List.getElem?_toArray, List.getElem?_cons_succ, List.getElem?_cons_zero]; rfl) (by kernel_rfl) (by kernel_rfl) (by kernel_rfl) (by exact fun _ _ _ h => h) (Or.inr ⟨by rfl, rfl⟩) (by assumption) ?_
                                      try simp only [Act.put, List.setIfInBounds_toArray, List.set_cons_zero, List.set_cons_succ]
                                      refine wpAnyH_take (i := 39) (v := undef) (by simp only [List.getElem?_toArray, List.getElem?_cons_succ, List.getElem?_cons_zero]; rfl) (by kernel_rfl) (by kernel_rfl) (by kernel_rfl) (by exact fun _ _ _ h => h) (Or.inr ⟨by rfl, rfl⟩) (by assumption) ?_
                                      try simp only [Act.put, List.setIfInBounds_toArray, List.set_cons_zero, List.set_cons_succ]
                                      refine wpAnyH_take (i := 40) (v := undef) (by simp only [List.getElem?_toArray, List.getElem?_cons_succ, List.getElem?_cons_zero]; rfl) (by kernel_rfl) (by kernel_rfl) (by kernel_rfl) (by exact fun _ _ _ h => h) (Or.inr ⟨by rfl, rfl⟩) (by assumption) ?_
                                      try simp only [Act.put, List.setIfInBounds_toArray, List.set_cons_zero, List.set_cons_succ]
                                      refine wpAnyH_take (i := 41) (v := undef) (by simp only [List.getElem?_toArray, List.getElem?_cons_succ, List.getElem?_cons_zero]; rfl) (by kernel_rfl) (by kernel_rfl) (by kernel_rfl) (by exact fun _ _ _ h => h) (Or.inr ⟨by rfl, rfl⟩) (by assumption) ?_
                                      try simp only [Act.put, List.setIfInBounds_toArray, List.set_cons_zero, List.set_cons_succ]
                                      refine wpAnyH_take (i := 42) (v := undef) (by simp only [List.getElem?_toArray, List.getElem?_cons_succ, List.getElem?_cons_zero]; rfl) (by kernel_rfl) (by kernel_rfl) (by kernel_rfl) (by exact fun _ _ _ h => h) (Or.inr ⟨by rfl, rfl⟩) (by assumption) ?_
                                      try simp only [Act.put, List.setIfInBounds_toArray, List.set_cons_zero, List.set_cons_succ]
                                      refine wpAnyH_take (i := 43) (v := undef) (by simp only [List.getElem?_toArray, List.getElem?_cons_succ, List.getElem?_cons_zero]; rfl) (by kernel_rfl) (by kernel_rfl) (by kernel_rfl) (by exact fun _ _ _ h => h) (Or.inr ⟨by rfl, rfl⟩) (by assumption) ?_
                                      try simp only [Act.put, List.setIfInBounds_toArray, List.set_cons_zero, List.set_cons_succ]
                                      refine wpAnyH_take (i := 44) (v := undef) (by simp only [List.getElem?_toArray, List.getElem?_cons_succ, List.getElem?_cons_zero]; rfl) (by kernel_rfl) (by kernel_rfl) (by kernel_rfl) (by exact fun _ _ _ h => h) (Or.inr ⟨by rfl, rfl⟩) (by assumption) ?_
                                      try simp only [Act.put, List.setIfInBounds_toArray, List.set_cons_zero, List.set_cons_succ]
                                      refine wpAnyH_take (i := 45) (v := undef) (by simp only [List.getElem?_toArray, List.getElem?_cons_succ, List.getElem?_cons_zero]; rfl) (by kernel_rfl) (by kernel_rfl) (by kernel_rfl) (by exact fun _ _ _ h => h) (Or.inr ⟨by rfl, rfl⟩) (by assumption) ?_
                                      try simp only [Act.put, List.setIfInBounds_toArray, List.set_cons_zero, List.set_cons_succ]
                                      refine wpAnyH_take (i := 46) (v := undef) (by simp only [List.getElem?_toArray, List.getElem?_cons_succ, List.getElem?_cons_zero]; rfl) (by kernel_rfl) (by kernel_rfl) (by kernel_rfl) (by exact fun _ _ _ h => h) (Or.inr ⟨by rfl, rfl⟩) (by assumption) ?_
                                      try simp only [Act.put, List.setIfInBounds_toArray, List.set_cons_zero, List.set_cons_succ]
                                      refine wpAnyH_take (i := 47) (v := undef) (by simp only [List.getElem?_toArray, List.getElem?_cons_succ, List.getElem?_cons_zero]; rfl) (by kernel_rfl) (by kernel_rfl) (by kernel_rfl) (by exact fun _ _ _ h => h) (Or.inr ⟨by rfl, rfl⟩) (by assumption) ?_
                                      try simp only [Act.put, List.setIfInBounds_toArray, List.set_cons_zero, List.set_cons_succ]
                                      refine wpAnyH_take (i := 48) (v := undef) (by simp only [List.getElem?_toArray, List.getElem?_cons_succ, List.getElem?_cons_zero]; rfl) (by kernel_rfl) (by kernel_rfl) (by kernel_rfl) (by exact fun _ _ _ h => h) (Or.inr ⟨by rfl, rfl⟩) (by assumption) ?_
                                      try simp only [Act.put, List.setIfInBounds_toArray, List.set_cons_zero, List.set_cons_succ]
                                      refine wpAnyH_take (i := 49) (v := undef) (by simp only [List.getElem?_toArray, List.getElem?_cons_succ, List.getElem?_cons_zero]; rfl) (by kernel_rfl) (by kernel_rfl) (by kernel_rfl) (by exact fun _ _ _ h => h) (Or.inr ⟨by rfl, rfl⟩) (by assumption) ?_
                                      try simp only [Act.put, List.setIfInBounds_toArray, List.set_cons_zero, List.set_cons_succ]
                                      refine wpAnyH_take (i := 50) (v := undef) (by simp only [List.getElem?_toArray, List.getElem?_cons_succ, List.getElem?_cons_zero]; rfl) (by kernel_rfl) (by kernel_rfl) (by kernel_rfl) (by exact fun _ _ _ h => h) (Or.inr ⟨by rfl, rfl⟩) (by assumption) ?_
                                      try simp only [Act.put, List.setIfInBounds_toArray, List.set_cons_zero, List.set_cons_succ]
                                      refine wpAnyH_take (i := 51) (v := undef) (by simp only [List.getElem?_toArray, List.getElem?_cons_succ, List.getElem?_cons_zero]; rfl) (by kernel_rfl) (by kernel_rfl) (by kernel_rfl) (by exact fun _ _ _ h => h) (Or.inr ⟨by rfl, rfl⟩) (by assumption) ?_
                                      try simp only [Act.put, List.setIfInBounds_toArray, List.set_cons_zero, List.set_cons_succ]
                                      refine wpAnyH_take (i := 52) (v := undef) (by simp only [List.getElem?_toArray, List.getElem?_cons_succ, List.getElem?_cons_zero]; rfl) (by kernel_rfl) (by kernel_rfl) (by kernel_rfl) (by exact fun _ _ _ h => h) (Or.inr ⟨by rfl, rfl⟩) (by assumption) ?_
                                      try simp only [Act.put, List.setIfInBounds_toArray, List.set_cons_zero, List.set_cons_succ]
                                      refine wpAnyH_take (i := 53) (v := ?_) (by simp only [List.getElem?_toArray, List.getElem?_cons_succ, List.getElem?_cons_zero]; rfl) (by kernel_rfl) (by kernel_rfl) (by kernel_rfl) (by exact fun _ _ _ h => h) (Or.inl ⟨by rfl, ?_⟩) (by assumption) ?_
                                      rotate_left 1
                                      · intro w hSw; (try dsimp only at hSw); go_simp; try with_reducible rfl
                                      try simp only [Act.put, List.setIfInBounds_toArray, List.set_cons_zero, List.set_cons_succ]
                                      refine wpAnyH_take (i := 54) (v := ?_) (by simp only [List.getElem?_toArray, List.getElem?_cons_succ, List.getElem?_cons_zero]; rfl) (by kernel_rfl) (by kernel_rfl) (by kernel_rfl) (by exact fun _ _ _ h => h) (Or.inl ⟨by rfl, ?_⟩) (by assumption) ?_
                                      rotate_left 1
                                      · intro w hSw; (try dsimp only at hSw); go_simp; try with_reducible rfl
                                      try simp only [Act.put, List.setIfInBounds_toArray, List.set_cons_zero, List.set_cons_succ]
                                      refine wpAnyH_take (i := 55) (v := ?_) (by simp only [List.getElem?_toArray, List.getElem?_cons_succ, List.getElem?_cons_zero]; rfl) (by kernel_rfl) (by kernel_rfl) (by kernel_rfl) (by exact fun _ _ _ h => h) (Or.inl ⟨by rfl, ?_⟩) (by assumption) ?_
                                      rotate_left 1
                                      · intro w hSw; (try dsimp only at hSw); go_simp; try with_reducible rfl
                                      try simp only [Act.put, List.setIfInBounds_toArray, List.set_cons_zero, List.set_cons_succ]
                                      as_aux_lemma =>
                                        refine wpAnyH_done (by kernel_rfl) ?_ _
                                        go_wp2
                                        go_roundw
                                        case rel => exact ⟨p + 1, by omega, by go_num, by rw [HV.out], below_call hb8' (b10)⟩
                                        case measure => simp [intOf]; omega
                            | true =>
                              have HV := Lib.hid (HVAL.out (IntKind.i64.wrap (it.y + a.y) == IntKind.i64.wrap (iq.y + ay o1)) (by unfold fitB; rw [c4', c2, e2]; simp))
                              rw [c2]
                              as_aux_lemma =>
                                refine wp_region_held_drew (S := fun w' => w'.cell? ⟨bm, 0, none⟩ = some (.int .i64 a.k) ∧ w'.cell? ⟨rb, ro + j * 6 + 4, none⟩ = some (.int .i64 it.x) ∧ w'.cell? ⟨bm, 2, none⟩ = some (.int .i64 a.x) ∧ w'.cell? ⟨rb, ro + q * 6 + 4, none⟩ = some (.int .i64 iq.x) ∧ w'.cell? ⟨rb, ro + j * 6 + 5, none⟩ = some (.int .i64 it.y) ∧ w'.cell? ⟨bm, 3, none⟩ = some (.int .i64 a.y) ∧ w'.cell? ⟨rb, ro + q * 6 + 5, none⟩ = some (.int .i64 iq.y)) (by kernel_rfl) ?_ (fun hHeld => ?_)
                                · (with_reducible refine HS.out _ ?_); go_grown
                                refine wpAnyH_take (i := 0) (v := ?_) (by simp only [List.getElem?_toArray, List.getElem?_cons_zero]; rfl) (by kernel_rfl) (by kernel_rfl) (by kernel_rfl) (by exact fun _ _ _ h => h) (Or.inl ⟨by rfl, ?_⟩) (by assumption) ?_
                                rotate_left 1
                                · intro w hSw; (try dsimp only at hSw); go_simp; try with_reducible rfl
                                try simp only [Act.put, List.setIfInBounds_toArray, List.set_cons_zero, List.set_cons_succ]
                                refine wpAnyH_take (i := 1) (v := ?_) (by simp only [List.getElem?_toArray, List.getElem?_cons_succ, List.getElem?_cons_zero]; rfl) (by kernel_rfl) (by kernel_rfl) (by kernel_rfl) (by exact fun _ _ _ h => h) (Or.inl ⟨by rfl, ?_⟩) (by assumption) ?_
                                rotate_left 1
                                · intro w hSw; (try dsimp only at hSw); go_simp; try with_reducible rfl
                                try simp only [Act.put, List.setIfInBounds_toArray, List.set_cons_zero, List.set_cons_succ]
                                refine wpAnyH_take (i := 2) (v := ?_) (by simp only [List.getElem?_toArray, List.getElem?_cons_succ, List.getElem?_cons_zero]; rfl) (by kernel_rfl) (by kernel_rfl) (by kernel_rfl) (by exact fun _ _ _ h => h) (Or.inl ⟨by rfl, ?_⟩) (by assumption) ?_
                                rotate_left 1
                                · intro w hSw; (try dsimp only at hSw); go_simp; try with_reducible rfl
                                try simp only [Act.put, List.setIfInBounds_toArray, List.set_cons_zero, List.set_cons_succ]
                                refine wpAnyH_take (i := 3) (v := ?_) (by simp only [List.getElem?_toArray, List.getElem?_cons_succ, List.getElem?_cons_zero]; rfl) (by kernel_rfl) (by kernel_rfl) (by kernel_rfl) (by exact fun _ _ _ h => h) (Or.inl ⟨by rfl, ?_⟩) (by assumption) ?_
                                rotate_left 1
                                · intro w hSw; (try dsimp only at hSw); go_simp; try with_reducible rfl
                                try simp only [Act.put, List.setIfInBounds_toArray, List.set_cons_zero, List.set_cons_succ]
                                refine wpAnyH_take (i := 4) (v := ?_) (by simp only [List.getElem?_toArray, List.getElem?_cons_succ, List.getElem?_cons_zero]; rfl) (by kernel_rfl) (by kernel_rfl) (by kernel_rfl) (by exact fun _ _ _ h => h) (Or.inl ⟨by rfl, ?_⟩) (by assumption) ?_
                                rotate_left 1
                                · intro w hSw; (try dsimp only at hSw); go_simp; try with_reducible rfl
                                try simp only [Act.put, List.setIfInBounds_toArray, List.set_cons_zero, List.set_cons_succ]
                                refine wpAnyH_take (i := 5) (v := ?_) (by simp only [List.getElem?_toArray, List.getElem?_cons_succ, List.getElem?_cons_zero]; rfl) (by kernel_rfl) (by kernel_rfl) (by kernel_rfl) (by exact fun _ _ _ h => h) (Or.inl ⟨by rfl, ?_⟩) (by assumption) ?_
                                rotate_left 1
                                · intro w hSw; (try dsimp only at hSw); go_simp; try with_reducible rfl
                                try simp only [Act.put, List.setIfInBounds_toArray, List.set_cons_zero, List.set_cons_succ]
                                refine wpAnyH_take (i := 6) (v := ?_) (by simp only [List.getElem?_toArray, List.getElem?_cons_succ, List.getElem?_cons_zero]; rfl) (by kernel_rfl) (by kernel_rfl) (by kernel_rfl) (by exact fun _ _ _ h => h) (Or.inl ⟨by rfl, ?_⟩) (by assumption) ?_
                                rotate_left 1
                                · intro w hSw; (try dsimp only at hSw); go_simp; try with_reducible rfl
                                try simp only [Act.put, List.setIfInBounds_toArray, List.set_cons_zero, List.set_cons_succ]
                                refine wpAnyH_take (i := 7) (v := ?_) (by simp only [List.getElem?_toArray, List.getElem?_cons_succ, List.getElem?_cons_zero]; rfl) (by kernel_rfl) (by kernel_rfl) (by kernel_rfl) (by exact fun _ _ _ h => h) (Or.inl ⟨by rfl, ?_⟩) (by assumption) ?_
                                rotate_left 1
                                · intro w hSw; (try dsimp only at hSw); go_simp; try with_reducible rfl
                                try simp only [Act.put, List.setIfInBounds_toArray, List.set_cons_zero, List.set_cons_succ]
                                refine wpAnyH_take (i := 8) (v := ?_) (by simp only [List.getElem?_toArray, List.getElem?_cons_succ, List.getElem?_cons_zero]; rfl) (by kernel_rfl) (by kernel_rfl) (by kernel_rfl) (by exact fun _ _ _ h => h) (Or.inl ⟨by rfl, ?_⟩) (by assumption) ?_
                                rotate_left 1
                                · intro w hSw; (try dsimp only at hSw); go_simp; try with_reducible rfl
                                try simp only [Act.put, List.setIfInBounds_toArray, List.set_cons_zero, List.set_cons_succ]
                                refine wpAnyH_take (i := 9) (v := ?_) (by simp only [List.getElem?_toArray, List.getElem?_cons_succ, List.getElem?_cons_zero]; rfl) (by kernel_rfl) (by kernel_rfl) (by kernel_rfl) (by exact fun _ _ _ h => h) (Or.inl ⟨by rfl, ?_⟩) (by assumption) ?_
                                rotate_left 1
                                · intro w hSw; (try dsimp only at hSw); go_simp; try with_reducible rfl
                                try simp only [Act.put, List.setIfInBounds_toArray, List.set_cons_zero, List.set_cons_succ]
                                refine wpAnyH_take (i := 10) (v := ?_) (by simp only [List.getElem?_toArray, List.getElem?_cons_succ, List.getElem?_cons_zero]; rfl) (by kernel_rfl) (by kernel_rfl) (by kernel_rfl) (by exact fun _ _ _ h => h) (Or.inl ⟨by rfl, ?_⟩) (by assumption) ?_
                                rotate_left 1
                                · intro w hSw; (try dsimp only at hSw); go_simp; try with_reducible rfl
                                try simp only [Act.put, List.setIfInBounds_toArray, List.set_cons_zero, List.set_cons_succ]
                                refine wpAnyH_take (i := 11) (v := ?_) (by simp only [List.getElem?_toArray, List.getElem?_cons_succ, List.getElem?_cons_zero]; rfl) (by kernel_rfl) (by kernel_rfl) (by kernel_rfl) (by exact fun _ _ _ h => h) (Or.inl ⟨by rfl, ?_⟩) (by assumption) ?_
                                rotate_left 1
                                · intro w hSw; (try dsimp only at hSw); go_simp; try with_reducible rfl
                                try simp only [Act.put, List.setIfInBounds_toArray, List.set_cons_zero, List.set_cons_succ]
                                refine wpAnyH_take (i := 13) (v := ?_) (by simp only [List.getElem?_toArray, List.getElem?_cons_succ, List.getElem?_cons_zero]; rfl) (by kernel_rfl) (by kernel_rfl) (by kernel_rfl) (by exact fun _ _ _ h => h) (Or.inl ⟨by rfl, ?_⟩) (by assumption) ?_
                                rotate_left 1
                                · intro w hSw; (try dsimp only at hSw); go_simp; try with_reducible rfl
                                try simp only [Act.put, List.setIfInBounds_toArray, List.set_cons_zero, List.set_cons_succ]
                                refine wpAnyH_take (i := 14) (v := ?_) (by simp only [List.getElem?_toArray, List.getElem?_cons_succ, List.getElem?_cons_zero]; rfl) (by kernel_rfl) (by kernel_rfl) (by kernel_rfl) (by exact fun _ _ _ h => h) (Or.inl ⟨by rfl, ?_⟩) (by assumption) ?_
                                rotate_left 1
                                · intro w hSw; (try dsimp only at hSw); go_simp; try with_reducible rfl
                                try simp only [Act.put, List.setIfInBounds_toArray, List.set_cons_zero, List.set_cons_succ]
                                refine wpAnyH_take (i := 15) (v := ?_) (by simp only [List.getElem?_toArray, List.getElem?_cons_succ, List.getElem?_cons_zero]; rfl) (by kernel_rfl) (by kernel_rfl) (by kernel_rfl) (by exact fun _ _ _ h => h) (Or.inl ⟨by rfl, ?_⟩) (by assumption) ?_
                                rotate_left 1
                                · intro w hSw; (try dsimp only at hSw); go_simp; try with_reducible rfl
                                try simp only [Act.put, List.setIfInBounds_toArray, List.set_cons_zero, List.set_cons_succ]
                                refine wpAnyH_take (i := 16) (v := ?_) (by simp only [List.getElem?_toArray, List.getElem?_cons_succ, List.getElem?_cons_zero]; rfl) (by kernel_rfl) (by kernel_rfl) (by kernel_rfl) (by exact fun _ _ _ h => h) (Or.inl ⟨by rfl, ?_⟩) (by assumption) ?_
                                rotate_left 1
                                · intro w hSw; (try dsimp only at hSw); go_simp; try with_reducible rfl
                                try simp only [Act.put, List.setIfInBounds_toArray, List.set_cons_zero, List.set_cons_succ]
                                refine wpAnyH_take (i := 17) (v := ?_) (by simp only [List.getElem?_toArray, List.getElem?_cons_succ, List.getElem?_cons_zero]; rfl) (by kernel_rfl) (by kernel_rfl) (by kernel_rfl) (by exact fun _ _ _ h => h) (Or.inl ⟨by rfl, ?_⟩) (by assumption) ?_
                                rotate_left 1
                                · intro w hSw; (try dsimp only at hSw); go_simp; try with_reducible rfl
                                try simp only [Act.put, List.setIfInBounds_toArray, List.set_cons_zero, List.set_cons_succ]
                                refine wpAnyH_take (i := 19) (v := ?_) (by simp only [List.getElem?_toArray, List.getElem?_cons_succ, List.getElem?_cons_zero]; rfl) (by kernel_rfl) (by kernel_rfl) (by kernel_rfl) (by exact fun _ _ _ h => h) (Or.inl ⟨by rfl, ?_⟩) (by assumption) ?_
                                rotate_left 1
                                · intro w hSw; (try dsimp only at hSw); go_simp; try with_reducible rfl
                                try simp only [Act.put, List.setIfInBounds_toArray, List.set_cons_zero, List.set_cons_succ]
                                refine wpAnyH_take (i := 20) (v := ?_) (by simp only [List.getElem?_toArray, List.getElem?_cons_succ, List.getElem?_cons_zero]; rfl) (by kernel_rfl) (by kernel_rfl) (by kernel_rfl) (by exact fun _ _ _ h => h) (Or.inl ⟨by rfl, ?_⟩) (by assumption) ?_
                                rotate_left 1
                                · intro w hSw; (try dsimp only at hSw); go_simp; try with_reducible rfl
                                try simp only [Act.put, List.setIfInBounds_toArray, List.set_cons_zero, List.set_cons_succ]
                                refine wpAnyH_take (i := 22) (v := ?_) (by simp only [List.getElem?_toArray, List.getElem?_cons_succ, List.getElem?_cons_zero]; rfl) (by kernel_rfl) (by kernel_rfl) (by kernel_rfl) (by exact fun _ _ _ h => h) (Or.inl ⟨by rfl, ?_⟩) (by assumption) ?_
                                rotate_left 1
                                · intro w hSw; (try dsimp only at hSw); go_simp; try with_reducible rfl
                                try simp only [Act.put, List.setIfInBounds_toArray, List.set_cons_zero, List.set_cons_succ]
                                refine wpAnyH_take (i := 23) (v := ?_) (by simp only [List.getElem?_toArray, List.getElem?_cons_succ, List.getElem?_cons_zero]; rfl) (by kernel_rfl) (by kernel_rfl) (by kernel_rfl) (by exact fun _ _ _ h => h) (Or.inl ⟨by rfl, ?_⟩) (by assumption) ?_
                                rotate_left 1
                                · intro w hSw; (try dsimp only at hSw); go_simp; try with_reducible rfl
                                try simp only [Act.put, List.setIfInBounds_toArray, List.set_cons_zero, List.set_cons_succ]
                                refine wpAnyH_take (i := 24) (v := ?_) (by simp only [List.getElem?_toArray, List.getElem?_cons_succ, List.getElem?_cons_zero]; rfl) (by kernel_rfl) (by kernel_rfl) (by kernel_rfl) (by exact fun _ _ _ h => h) (Or.inl ⟨by rfl, ?_⟩) (by assumption) ?_
                                rotate_left 1
                                · intro w hSw; (try dsimp only at hSw); go_simp; try with_reducible rfl
                                try simp only [Act.put, List.setIfInBounds_toArray, List.set_cons_zero, List.set_cons_succ]
                                refine wpAnyH_take (i := 26) (v := ?_) (by simp only [List.getElem?_toArray, List.getElem?_cons_succ, List.getElem?_cons_zero]; rfl) (by kernel_rfl) (by kernel_rfl) (by kernel_rfl) (by exact fun _ _ _ h => h) (Or.inl ⟨by rfl, ?_⟩) (by assumption) ?_
                                rotate_left 1
                                · intro w hSw; (try dsimp only at hSw); go_simp; try with_reducible rfl
                                try simp only [Act.put, List.setIfInBounds_toArray, List.set_cons_zero, List.set_cons_succ]
                                refine wpAnyH_take (i := 27) (v := ?_) (by simp only [List.getElem?_toArray, List.getElem?_cons_succ, List.getElem?_cons_zero]; rfl) (by kernel_rfl) (by kernel_rfl) (by kernel_rfl) (by exact fun _ _ _ h => h) (Or.inl ⟨by rfl, ?_⟩) (by assumption) ?_
                                rotate_left 1
                                · intro w hSw; (try dsimp only at hSw); go_simp; try with_reducible rfl
                                try simp only [Act.put, List.setIfInBounds_toArray, List.set_cons_zero, List.set_cons_succ]
                                refine wpAnyH_take (i := 28) (v := ?_) (by simp only [List.getElem?_toArray, List.getElem?_cons_succ, List.getElem?_cons_zero]; rfl) (by kernel_rfl) (by kernel_rfl) (by kernel_rfl) (by exact fun _ _ _ h => h) (Or.inl ⟨by rfl, ?_⟩) (by assumption) ?_
                                rotate_left 1
                                · intro w hSw; (try dsimp only at hSw); go_simp; try with_reducible rfl
                                try simp only [Act.put, List.setIfInBounds_toArray, List.set_cons_zero, List.set_cons_succ]
                                refine wpAnyH_take (i := 29) (v := ?_) (by simp only [List.getElem?_toArray, List.getElem?_cons_succ, List.getElem?_cons_zero]; rfl) (by kernel_rfl) (by kernel_rfl) (by kernel_rfl) (by exact fun _ _ _ h => h) (Or.inl ⟨by rfl, ?_⟩) (by assumption) ?_
                                rotate_left 1
                                · intro w hSw; (try dsimp only at hSw); go_simp; try with_reducible rfl
                                try simp only [Act.put, List.setIfInBounds_toArray, List.set_cons_zero, List.set_cons_succ]
                                refine wpAnyH_take (i := 30) (v := ?_) (by simp only [List.getElem?_toArray, List.getElem?_cons_succ, List.getElem?_cons_zero]; rfl) (by kernel_rfl) (by kernel_rfl) (by kernel_rfl) (by exact fun _ _ _ h => h) (Or.inl ⟨by rfl, ?_⟩) (by assumption) ?_
                                rotate_left 1
                                · intro w hSw; (try dsimp only at hSw); go_simp; try with_reducible rfl
                                try simp only [Act.put, List.setIfInBounds_toArray, List.set_cons_zero, List.set_cons_succ]
                                refine wpAnyH_take (i := 32) (v := ?_) (by simp only [List.getElem?_toArray, List.getElem?_cons_succ, List.getElem?_cons_zero]; rfl) (by kernel_rfl) (by kernel_rfl) (by kernel_rfl) (by exact fun _ _ _ h => h) (Or.inl ⟨by rfl, ?_⟩) (by assumption) ?_
                                rotate_left 1
                                · intro w hSw; (try dsimp only at hSw); go_simp; try with_reducible rfl
                                try simp only [Act.put, List.setIfInBounds_toArray, List.set_cons_zero, List.set_cons_succ]
                                as_aux_lemma =>
                                  refine wpAnyH_ready (rs := [12]) (by kernel_rfl) (by simp) ?_
                                  refine AllReadyH.cons rfl (fun K hK => ?_) AllReadyH.nil
                                  go_simp
                                  go_at_call 23
                                  (with_reducible refine (HWj.out _ ?_).mono ?_)
                                  · exact lj
                                  rintro e w9 ⟨rfl, hb9⟩
                                  have b9 := below_undrew hb9
                                  have s9 := b9.size
                                  go_wp2_with fail
                                  refine hK.out _ _ ?_ (fun hHeld => ?_)
                                  · (with_reducible refine HS.out _ ?_); go_grown
                                  clear hK K
                                  try simp only [Act.put, List.setIfInBounds_toArray, List.set_cons_zero, List.set_cons_succ]
                                  refine wpAnyH_take (i := 18) (v := ?_) (by simp only [List.getElem?_toArray, List.getElem?_cons_succ, List.getElem?_cons_zero]; rfl) (by kernel_rfl) (by kernel_rfl) (by kernel_rfl) (by exact fun _ _ _ h => h) (Or.inl ⟨by rfl, ?_⟩) (by assumption) ?_
                                  rotate_left 1
                                  · intro w hSw; (try dsimp only at hSw); go_simp; try with_reducible rfl
                                  try simp only [Act.put, List.setIfInBounds_toArray, List.set_cons_zero, List.set_cons_succ]
                                  refine wpAnyH_take (i := 21) (v := ?_) (by simp only [List.getElem?_toArray, List.getElem?_cons_succ, List.getElem?_cons_zero]; rfl) (by kernel_rfl) (by kernel_rfl) (by kernel_rfl) (by exact fun _ _ _ h => h) (Or.inl ⟨by rfl, ?_⟩) (by assumption) ?_
                                  rotate_left 1
                                  · intro w hSw; (try dsimp only at hSw); go_simp; try with_reducible rfl
                                  try simp only [Act.put, List.setIfInBounds_toArray, List.set_cons_zero, List.set_cons_succ]
                                  as_aux_lemma =>
                                    refine wpAnyH_ready (rs := [25]) (by kernel_rfl) (by simp) ?_
                                    refine AllReadyH.cons rfl (fun K hK => ?_) AllReadyH.nil
                                    go_simp
                                    go_at_call 23
                                    (with_reducible refine (HWq.out _ ?_).mono ?_)
                                    · exact lq.call b9
                                    rintro e w10 ⟨rfl, hb10⟩
                                    have b10 := below_call b9 hb10
                                    go_wp2_with fail
                                    refine hK.out _ _ ?_ (fun hHeld => ?_)
                                    · (with_reducible refine HS.out _ ?_); go_grown
                                    clear hK K
                                    try simp only [Act.put, List.setIfInBounds_toArray, List.set_cons_zero, List.set_cons_succ]
                                    refine wpAnyH_take (i := 31) (v := ?_) (by simp only [List.getElem?_toArray, List.getElem?_cons_succ, List.getElem?_cons_zero]; rfl) (by kernel_rfl) (by kernel_rfl) (by kernel_rfl) (by exact fun _ _ _ h => h) (Or.inl ⟨by rfl, ?_⟩) (by assumption) ?_
                                    rotate_left 1
                                    · intro w hSw; (try dsimp only at hSw); go_simp; try with_reducible rfl
                                    try simp only [Act.put, List.setIfInBounds_toArray, List.set_cons_zero, List.set_cons_succ]
                                    refine wpAnyH_take (i := 33) (v := ?_) (by simp only [List.getElem?_toArray, List.getElem?_cons_succ, List.getElem?_cons_zero]; rfl) (by kernel_rfl) (by kernel_rfl) (by kernel_rfl) (by exact fun _ _ _ h => h) (Or.inl ⟨by rfl, ?_⟩) (by assumption) ?_
                                    rotate_left 1
                                    · intro w hSw; (try dsimp only at hSw); go_simp; try with_reducible rfl
                                    try simp only [Act.put, List.setIfInBounds_toArray, List.set_cons_zero, List.set_cons_succ]
                                    refine wpAnyH_take (i := 34) (v := ?_) (by simp only [List.getElem?_toArray, List.getElem?_cons_succ, List.getElem?_cons_zero]; rfl) (by kernel_rfl) (by kernel_rfl) (by kernel_rfl) (by exact fun _ _ _ h => h) (Or.inl ⟨by rfl, ?_⟩) (by assumption) ?_
                                    rotate_left 1
                                    · intro w hSw; (try dsimp only at hSw); go_simp; try with_reducible rfl
                                    try simp only [Act.put, List.setIfInBounds_toArray, List.set_cons_zero, List.set_cons_succ]
                                    refine wpAnyH_take (i := 35) (v := ?_) (by simp only [List.getElem?_toArray, List.getElem?_cons_succ, List.getElem?_cons_zero]; rfl) (by kernel_rfl) (by kernel_rfl) (by kernel_rfl) (by exact fun _ _ _ h => h) (Or.inl ⟨by rfl, ?_⟩) (by assumption) ?_
                                    rotate_left 1
                                    · intro w hSw; (try dsimp only at hSw); go_simp; try with_reducible rfl
                                    try simp only [Act.put, List.setIfInBounds_toArray, List.set_cons_zero, List.set_cons_succ]
                                    refine wpAnyH_take (i := 36) (v := ?_) (by simp only [List.getElem?_toArray, List.getElem?_cons_succ, List.getElem?_cons_zero]; rfl) (by kernel_rfl) (by kernel_rfl) (by kernel_rfl) (by exact fun _ _ _ h => h) (Or.inl ⟨by rfl, ?_⟩) (by assumption) ?_
                                    rotate_left 1
                                    · intro w hSw; (try dsimp only at hSw); go_simp; try with_reducible rfl
                                    try simp only [Act.put, List.setIfInBounds_toArray, List.set_cons_zero, List.set_cons_succ]
                                    as_aux_lemma =>
                                      refine wpAnyH_take (i := 37) (v := ?_) (by simp only [List.getElem?_toArray, List.getElem?_cons_succ, List.getElem?_cons_zero]; rfl) (by kernel_rfl) (by kernel_rfl) (by kernel_rfl) (by exact fun _ _ _ h => h) (Or.inl ⟨by rfl, ?_⟩) (by assumption) ?_
                                      rotate_left 1
                                      · intro w hSw; (try dsimp only at hSw); go_simp; try with_reducible rfl
                                      try simp only [Act.put, List.setIfInBounds_toArray, List.set_cons_zero, List.set_cons_succ]
                                      refine wpAnyH_take (i := 38) (v := ?_) (by simp only [List.getElem?_toArray, List.getElem?_cons_succ, List.getElem?_cons_zero]; rfl) (by kernel_rfl) (by kernel_rfl) (by kernel_rfl) (by exact fun _ _ _ h => h) (Or.inl ⟨by rfl, ?_⟩) (by assumption) ?_
                                      rotate_left 1
                                      · intro w hSw; (try dsimp only at hSw); go_simp; try with_reducible rfl
                                      try simp only [Act.put, List.setIfInBounds_toArray, List.set_cons_zero, List.set_cons_succ]
                                      refine wpAnyH_take (i := 39) (v := ?_) (by simp only [List.getElem?_toArray, List.getElem?_cons_succ, List.getElem?_cons_zero]; rfl) (by kernel_rfl) (by kernel_rfl) (by kernel_rfl) (by exact fun _ _ _ h => h) (Or.inl ⟨by rfl, ?_⟩) (by assumption) ?_
                                      rotate_left 1
                                      · intro w hSw; (try dsimp only at hSw); go_simp; try with_reducible rfl
                                      try simp only [Act.put, List.setIfInBounds_toArray, List.set_cons_zero, List.set_cons_succ]
                                      refine wpAnyH_take (i := 40) (v := ?_) (by simp only [List.getElem?_toArray, List.getElem?_cons_succ, List.getElem?_cons_zero]; rfl) (by kernel_rfl) (by kernel_rfl) (by kernel_rfl) (by exact fun _ _ _ h => h) (Or.inl ⟨by rfl, ?_⟩) (by assumption) ?_
                                      rotate_left 1
                                      · intro w hSw; (try dsimp only at hSw); go_simp; try with_reducible rfl
                                      try simp only [Act.put, List.setIfInBounds_toArray, List.set_cons_zero, List.set_cons_succ]
                                      refine wpAnyH_take (i := 41) (v := ?_) (by simp only [List.getElem?_toArray, List.getElem?_cons_succ, List.getElem?_cons_zero]; rfl) (by kernel_rfl) (by kernel_rfl) (by kernel_rfl) (by exact fun _ _ _ h => h) (Or.inl ⟨by rfl, ?_⟩) (by assumption) ?_
                                      rotate_left 1
                                      · intro w hSw; (try dsimp only at hSw); go_simp; try with_reducible rfl
                                      try simp only [Act.put, List.setIfInBounds_toArray, List.set_cons_zero, List.set_cons_succ]
                                      refine wpAnyH_take (i := 42) (v := ?_) (by simp only [List.getElem?_toArray, List.getElem?_cons_succ, List.getElem?_cons_zero]; rfl) (by kernel_rfl) (by kernel_rfl) (by kernel_rfl) (by exact fun _ _ _ h => h) (Or.inl ⟨by rfl, ?_⟩) (by assumption) ?_
                                      rotate_left 1
                                      · intro w hSw; (try dsimp only at hSw); go_simp; try with_reducible rfl
                                      try simp only [Act.put, List.setIfInBounds_toArray, List.set_cons_zero, List.set_cons_succ]
                                      refine wpAnyH_take (i := 43) (v := ?_) (by simp only [List.getElem?_toArray, List.getElem?_cons_succ, List.getElem?_cons_zero]; rfl) (by kernel_rfl) (by kernel_rfl) (by kernel_rfl) (by exact fun _ _ _ h => h) (Or.inl ⟨by rfl, ?_⟩) (by assumption) ?_
                                      rotate_left 1
                                      · intro w hSw; (try dsimp only at hSw); go_simp; try with_reducible rfl
                                      try simp only [Act.put, List.setIfInBounds_toArray, List.set_cons_zero, List.set_cons_succ]
                                      refine wpAnyH_take (i := 44) (v := ?_) (by simp only [List.getElem?_toArray, List.getElem?_cons_succ, List.getElem?_cons_zero]; rfl) (by kernel_rfl) (by kernel_rfl) (by kernel_rfl) (by exact fun _ _ _ h => h) (Or.inl ⟨by rfl, ?_⟩) (by assumption) ?_
                                      rotate_left 1
                                      · intro w hSw; (try dsimp only at hSw); go_simp; try with_reducible rfl
                                      try simp only [Act.put, List.setIfInBounds_toArray, List.set_cons_zero, List.set_cons_succ]
                                      refine wpAnyH_take (i := 45) (v := ?_) (by simp only [List.getElem?_toArray, List.getElem?_cons_succ, List.getElem?_cons_zero]; rfl) (by kernel_rfl) (by kernel_rfl) (by kernel_rfl) (by exact fun _ _ _ h => h) (Or.inl ⟨by rfl, ?_⟩) (by assumption) ?_
                                      rotate_left 1
                                      · intro w hSw; (try dsimp only at hSw); go_simp; try with_reducible rfl
                                      try simp only [Act.put, List.setIfInBounds_toArray, List.set_cons_zero, List.set_cons_succ]
                                      refine wpAnyH_take (i := 46) (v := ?_) (by simp only [List.getElem?_toArray, List.getElem?_cons_succ, List.getElem?_cons_zero]; rfl) (by kernel_rfl) (by kernel_rfl) (by kernel_rfl) (by exact fun _ _ _ h => h) (Or.inl ⟨by rfl, ?_⟩) (by assumption) ?_
                                      rotate_left 1
                                      · intro w hSw; (try dsimp only at hSw); go_simp; try with_reducible rfl
                                      try simp only [Act.put, List.setIfInBounds_toArray, List.set_cons_zero, List.set_cons_succ]
                                      refine wpAnyH_take (i := 47) (v := ?_) (by simp only [List.getElem?_toArray, List.getElem?_cons_succ, List.getElem?_cons_zero]; rfl) (by kernel_rfl) (by kernel_rfl) (by kernel_rfl) (by exact fun _ _ _ h => h) (Or.inl ⟨by rfl, ?_⟩) (by assumption) ?_
                                      rotate_left 1
                                      · intro w hSw; (try dsimp only at hSw); go_simp; try with_reducible rfl
                                      try simp only [Act.put, List.setIfInBounds_toArray, List.set_cons_zero, List.set_cons_succ]
                                      refine wpAnyH_take (i := 48) (v := ?_) (by simp only [List.getElem?_toArray, List.getElem?_cons_succ, List.getElem?_cons_zero]; rfl) (by kernel_rfl) (by kernel_rfl) (by kernel_rfl) (by exact fun _ _ _ h => h) (Or.inl ⟨by rfl, ?_⟩) (by assumption) ?_
                                      rotate_left 1
                                      · intro w hSw; (try dsimp only at hSw); go_simp; try with_reducible rfl
                                      try simp only [Act.put, List.setIfInBounds_toArray, List.set_cons_zero, List.set_cons_succ]
                                      refine wpAnyH_take (i := 49) (v := ?_) (by simp only [List.getElem?_toArray, List.getElem?_cons_succ, List.getElem?_cons_zero]; rfl) (by kernel_rfl) (by kernel_rfl) (by kernel_rfl) (by exact fun _ _ _ h => h) (Or.inl ⟨by rfl, ?_⟩) (by assumption) ?_
                                      rotate_left 1
                                      · intro w hSw; (try dsimp only at hSw); go_simp; try with_reducible rfl
                                      try simp only [Act.put, List.setIfInBounds_toArray, List.set_cons_zero, List.set_cons_succ]
                                      refine wpAnyH_take (i := 50) (v := ?_) (by simp only [List.getElem?_toArray, List.getElem?_cons_succ, List.getElem?_cons_zero]; rfl) (by kernel_rfl) (by kernel_rfl) (by kernel_rfl) (by exact fun _ _ _ h => h) (Or.inl ⟨by rfl, ?_⟩) (by assumption) ?_
                                      rotate_left 1
                                      · intro w hSw; (try dsimp only at hSw); go_simp; try with_reducible rfl
                                      try simp only [Act.put, List.setIfInBounds_toArray, List.set_cons_zero, List.set_cons_succ]
                                      refine wpAnyH_take (i := 51) (v := ?_) (by simp only [List.getElem?_toArray, List.getElem?_cons_succ, List.getElem?_cons_zero]; rfl) (by kernel_rfl) (by kernel_rfl) (by kernel_rfl) (by exact fun _ _ _ h => h) (Or.inl ⟨by rfl, ?_⟩) (by assumption) ?_
                                      rotate_left 1
                                      · intro w hSw; (try dsimp only at hSw); go_simp; try with_reducible rfl
                                      try simp only [Act.put, List.setIfInBounds_toArray, List.set_cons_zero, List.set_cons_succ]
                                      refine wpAnyH_take (i := 52) (v := ?_) (by simp only [List.getElem?_toArray, List.getElem?_cons_succ, List.getElem?_cons_zero]; rfl) (by kernel_rfl) (by kernel_rfl) (by kernel_rfl) (by exact fun _ _ _ h => h) (Or.inl ⟨by rfl, ?_⟩) (by assumption) ?_
                                      rotate_left 1
                                      · intro w hSw; (try dsimp only at hSw); go_simp; try with_reducible rfl
                                      try simp only [Act.put, List.setIfInBounds_toArray, List.set_cons_zero, List.set_cons_succ]
                                      refine wpAnyH_take (i := 53) (v := ?_) (by simp only [List.getElem?_toArray, List.getElem?_cons_succ, List.getElem?_cons_zero]; rfl) (by kernel_rfl) (by kernel_rfl) (by kernel_rfl) (by exact fun _ _ _ h => h) (Or.inl ⟨by rfl, ?_⟩) (by assumption) ?_
                                      rotate_left 1
                                      · intro w hSw; (try dsimp only at hSw); go_simp; try with_reducible rfl
                                      try simp only [Act.put, List.setIfInBounds_toArray, List.set_cons_zero, List.set_cons_succ]
                                      refine wpAnyH_take (i := 54) (v := ?_) (by simp only [List.getElem?_toArray, List.getElem?_cons_succ, List.getElem?_cons_zero]; rfl) (by kernel_rfl) (by kernel_rfl) (by kernel_rfl) (by exact fun _ _ _ h => h) (Or.inl ⟨by rfl, ?_⟩) (by assumption) ?_
                                      rotate_left 1
                                      · intro w hSw; (try dsimp only at hSw); go_simp; try with_reducible rfl
                                      try simp only [Act.put, List.setIfInBounds_toArray, List.set_cons_zero, List.set_cons_succ]
                                      refine wpAnyH_take (i := 55) (v := ?_) (by simp only [List.getElem?_toArray, List.getElem?_cons_succ, List.getElem?_cons_zero]; rfl) (by kernel_rfl) (by kernel_rfl) (by kernel_rfl) (by exact fun _ _ _ h => h) (Or.inl ⟨by rfl, ?_⟩) (by assumption) ?_
                                      rotate_left 1
                                      · intro w hSw; (try dsimp only at hSw); go_simp; try with_reducible rfl
                                      try simp only [Act.put, List.setIfInBounds_toArray, List.set_cons_zero, List.set_cons_succ]
                                      as_aux_lemma =>
                                        refine wpAnyH_done (by kernel_rfl) ?_ _
                                        go_wp2
                                        go_roundw
                                        case rel => exact ⟨p + 1, by omega, by go_num, by rw [HV.out], below_call hb8' (b10)⟩
                                        case measure => simp [intOf]; omega
                          · have e2 : (a.k == 2) = false := by simpa using c3
                            have HV := Lib.hid (HVAL.out false (by unfold fitB; rw [e2]; simp))
                            rw [c2]
                            go_quiet (fail)
                            go_wp2
                            go_roundw
                            case rel => exact ⟨p + 1, by omega, by go_num, by rw [HV.out], below_call hb8' (below_drewN (Below.refl _ _) _)⟩
                            case measure => simp [intOf]; omega
                        · have c2' : o1.isSome = false := by simpa using c2
                          have HV := Lib.hid (HVAL.out false (by unfold fitB; rw [c2']; simp))
                          rw [c2']
                          go_quiet (fail)
                          go_wp2
                          go_roundw
                          case rel => exact ⟨p + 1, by omega, by go_num, by rw [HV.out], below_call hb8' (below_drewN (Below.refl _ _) _)⟩
                          case measure => simp [intOf]; omega
                    · have hpn : p = n := by omega
                      subst hpn
                      have hge3 : decide ((p : Int) < (p : Int)) = false := by simp
                      have hfin : (x.anc.take p).any (fun m => fitB it iq wi wq (anchorL F iq.g 1 m.c) m) = true := by
                        rw [List.take_of_length_le (by have := HNA.out; omega)]; exact HANY.out
                      rw [hfin]
                      clear hfin
                      go_wp2
                      go_roundw
                      case rel => exact ⟨j + 1, by omega, by go_num, below_call hbr5 hbw⟩
                      case measure => simp [intOf]; omega
            · have hge : decide ((j : Int) < (n4 : Int)) = false := by simp; omega
              have hge2 : decide (j < n4) = false := by simp; omega
              go_wp2_with fail
              refine (hung_c wr).mono ?_
              rintro e w5 ⟨rfl, b5⟩
              go_wp2
              go_ret
              exact ⟨rfl, below_call hsr.bw b5⟩
        · have e7 : (lk.kind != 8) = true := by simpa using h7
          clear hl hrl
          go_wp2_with fail
          refine (hung_c w1).mono ?_
          rintro e w2 ⟨rfl, b2⟩
          go_wp2
          go_ret
          exact ⟨rfl, below_call hs_1.bw b2⟩

end Go.Proofs.Ytbjcbcdccekbkaa
