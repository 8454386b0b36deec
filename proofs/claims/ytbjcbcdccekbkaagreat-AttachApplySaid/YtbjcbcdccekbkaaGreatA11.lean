/- Walks: Cursive, Marks, Pairs, Apply of attach. -/
import Derived.Test.YtbjcbcdccekbkaaGreatA10
namespace Go.Proofs.YtbjcbcdccekbkaaGreat
open Go.RowKit Go.Shelf

theorem ki_none {F : Fnt} {n : Int} (h : lkAt F n = none) : kiOf F n = (0, false) := by unfold kiOf; rw [h]
theorem ki_some {F : Fnt} {n : Int} {lk : Lk} (h : lkAt F n = some lk) : kiOf F n = (lk.kind, lk.ign) := by unfold kiOf; rw [h]
theorem attach_ki7 (F : Fnt) (n : Int) (run : List Itm) : (if (kiOf F n).1 = 7 then cursL w64 F (kiOf F n).2 run else run) = attachL w64 F n 7 run := by
  cases h : lkAt F n with
  | none => rw [ki_none h, attachL_none h, if_neg (by decide)]
  | some lk =>
    rw [ki_some h]
    by_cases hk : lk.kind = 7
    · rw [if_pos hk, attachL_seven h hk]
    · rw [if_neg hk, attachL_other h hk]
theorem attach_ki8 (F : Fnt) (n : Int) (run : List Itm) : (if (kiOf F n).1 = 8 then marksL w64 F (kiOf F n).2 run else run) = attachL w64 F n 8 run := by
  cases h : lkAt F n with
  | none => rw [ki_none h, attachL_none h, if_neg (by decide)]
  | some lk =>
    rw [ki_some h]
    by_cases hk : lk.kind = 8
    · rw [if_pos hk, attachL_eight h hk]
    · rw [if_neg hk, attachL_other h hk]
theorem attach_ki6 (F : Fnt) (n : Int) (run : List Itm) : (if (kiOf F n).1 = 6 then applyL w64 F n run [] else run) = attachL w64 F n 6 run := by
  cases h : lkAt F n with
  | none => rw [ki_none h, attachL_none h, if_neg (by decide)]
  | some lk =>
    rw [ki_some h]
    by_cases hk : lk.kind = 6
    · rw [if_pos hk, attachL_six h hk, applyL_six h hk]
    · rw [if_neg hk, attachL_other h hk]
theorem ki_kind {F : Fnt} {n : Int} (h : (kiOf F n).1 = 6) (k : Nat) (hn : n = (k : Int)) (lk : Lk) (hk : F.lks[k]? = some lk) : lk.kind = 6 := by
  have : lkAt F n = some lk := by unfold lkAt; rw [hn, if_neg (by omega), Int.toNat_natCast]; exact hk
  rw [ki_some this] at h; exact h
theorem attachAll_ki (F : Fnt) (n : Int) (run : List Itm) : attachAll w64 F n run = attachL w64 F n (kiOf F n).1 run := by
  unfold attachAll
  cases h : lkAt F n with
  | none => rw [attachL_none h]
  | some lk => rw [ki_some h]

set_option maxRecDepth 100000 in
set_option maxHeartbeats 1000000 in
theorem aCursive_c (f : FV) (F : Fnt) (lookup : Int) (RA : Option Addr) (rn rc : Nat) (run : List Itm) (w : World) (hf : IsF w (lo w.heap.size) f F) (hI : RdI w (lo w.heap.size) RA rn run) (hrn : rn ≤ 1000) :
    Calls Tryz.prog 17 #[.agg f.cells, .int .i64 lookup, .slice RA rn rc] w (RPost w.heap.size w (attachL w64 F lookup 7 run)) := by
  unfold FV.cells
  go_enter Tryz.func17, Tryz.ntmps17
  go_wp2_with fail
  generalize hW0 : w.alloc (.cells #[.int .i64 f.u0, .slice f.ga f.gn f.gc, .slice f.ca f.cn f.cc, .slice f.la f.ln f.lc, .slice f.a4 f.n4 f.c4, .slice f.a5 f.n5 f.c5, .slice f.a6 f.n6 f.c6, .slice f.a7 f.n7 f.c7, .slice f.a8 f.n8 f.c8] 31) = W0
  have bw : Below w.heap.size w W0 := by rw [← hW0]; exact (Below.refl _ _).alloc (Nat.le_refl _) _
  have HB := Lib.hid (begin_c f F lookup RA rn rc run W0 (hf.call bw) (hI.call bw) (by omega))
  unfold FV.cells at HB
  clear hW0
  refine HB.out.mono ?_
  rintro e w1 ⟨Bp, LA, ll, lc, A, c, rfl, hs1, b1⟩
  clear HB
  have HD := Lib.hid (done_cursive _ _ _ _ _ _ _ _ _ _ _ _ _ _ w1 hs1 (by omega))
  rw [attach_ki7] at HD
  go_wp2_with fail
  refine HD.out.mono ?_
  rintro e w2 ⟨A2, n2, c2, rfl, ho2, b2⟩
  go_wp2
  go_ret
  have s0 := bw.size
  exact ⟨_, _, _, rfl, ho2.lower s0, bw.trans ((b1.trans b2).mono s0)⟩

set_option maxRecDepth 100000 in
set_option maxHeartbeats 1000000 in
theorem aMarks_c (f : FV) (F : Fnt) (lookup : Int) (RA : Option Addr) (rn rc : Nat) (run : List Itm) (w : World) (hf : IsF w (lo w.heap.size) f F) (hI : RdI w (lo w.heap.size) RA rn run) (hrn : rn ≤ 1000) :
    Calls Tryz.prog 16 #[.agg f.cells, .int .i64 lookup, .slice RA rn rc] w (RPost w.heap.size w (attachL w64 F lookup 8 run)) := by
  unfold FV.cells
  go_enter Tryz.func16, Tryz.ntmps16
  go_wp2_with fail
  generalize hW0 : w.alloc (.cells #[.int .i64 f.u0, .slice f.ga f.gn f.gc, .slice f.ca f.cn f.cc, .slice f.la f.ln f.lc, .slice f.a4 f.n4 f.c4, .slice f.a5 f.n5 f.c5, .slice f.a6 f.n6 f.c6, .slice f.a7 f.n7 f.c7, .slice f.a8 f.n8 f.c8] 31) = W0
  have bw : Below w.heap.size w W0 := by rw [← hW0]; exact (Below.refl _ _).alloc (Nat.le_refl _) _
  have HB := Lib.hid (begin_c f F lookup RA rn rc run W0 (hf.call bw) (hI.call bw) (by omega))
  unfold FV.cells at HB
  clear hW0
  refine HB.out.mono ?_
  rintro e w1 ⟨Bp, LA, ll, lc, A, c, rfl, hs1, b1⟩
  clear HB
  have HD := Lib.hid (done_marks _ _ _ _ _ _ _ _ _ _ _ _ _ _ w1 hs1 (by omega))
  rw [attach_ki8] at HD
  go_wp2_with fail
  refine HD.out.mono ?_
  rintro e w2 ⟨A2, n2, c2, rfl, ho2, b2⟩
  go_wp2
  go_ret
  have s0 := bw.size
  exact ⟨_, _, _, rfl, ho2.lower s0, bw.trans ((b1.trans b2).mono s0)⟩

set_option maxRecDepth 100000 in
set_option maxHeartbeats 2000000 in
theorem aApply_c (f : FV) (F : Fnt) (lookup : Int) (RA : Option Addr) (rn rc : Nat) (run : List Itm) (w : World) (hf : IsF w (lo w.heap.size) f F) (hI : RdI w (lo w.heap.size) RA rn run) (hrn : rn ≤ 1000) (hsm : SmF F) :
    Calls Tryz.prog 5 #[.agg f.cells, .int .i64 lookup, .slice RA rn rc] w (RPost w.heap.size w (attachAll w64 F lookup run)) := by
  unfold FV.cells
  go_enter Tryz.func5, Tryz.ntmps5
  go_wp2_with fail
  generalize hW0 : w.alloc (.cells #[.int .i64 f.u0, .slice f.ga f.gn f.gc, .slice f.ca f.cn f.cc, .slice f.la f.ln f.lc, .slice f.a4 f.n4 f.c4, .slice f.a5 f.n5 f.c5, .slice f.a6 f.n6 f.c6, .slice f.a7 f.n7 f.c7, .slice f.a8 f.n8 f.c8] 31) = W0
  have bw : Below w.heap.size w W0 := by rw [← hW0]; exact (Below.refl _ _).alloc (Nat.le_refl _) _
  have HB := Lib.hid (begin_c f F lookup RA rn rc run W0 (hf.call bw) (hI.call bw) (by omega))
  unfold FV.cells at HB
  clear hW0
  refine HB.out.mono ?_
  rintro e w1 ⟨Bp, LA, ll, lc, A, c, rfl, hs1, b1⟩
  clear HB
  have c9 := hs1.c9
  have c13 := hs1.c13
  have s0 := bw.size
  by_cases h6 : (kiOf F lookup).1 = 6
  · have e0 : attachAll w64 F lookup run = attachL w64 F lookup 6 run := by rw [attachAll_ki, h6]
    have E0 := Lib.hid e0
    have HD := Lib.hid (done_pairs _ _ _ _ _ _ _ _ _ _ _ _ _ _ w1 hs1 (by have := hI.len; omega) hsm (fun h k e lk hk => ki_kind h k e lk hk))
    rw [attach_ki6] at HD
    rw [h6] at c9
    clear e0
    go_wp2_with fail
    refine HD.out.mono ?_
    rintro e w2 ⟨A2, n2, c2, rfl, ho2, b2⟩
    go_wp2
    go_ret
    refine ⟨_, _, _, rfl, ?_, bw.trans ((b1.trans b2).mono s0)⟩
    rw [E0.out]; exact ho2.lower s0
  · have e6 : ((kiOf F lookup).1 == 6) = false := by simpa using h6
    by_cases h7 : (kiOf F lookup).1 = 7
    · have e0 : attachAll w64 F lookup run = attachL w64 F lookup 7 run := by rw [attachAll_ki, h7]
      have E0 := Lib.hid e0
      have HD := Lib.hid (done_cursive _ _ _ _ _ _ _ _ _ _ _ _ _ _ w1 hs1 (by omega))
      rw [attach_ki7] at HD
      rw [h7] at c9
      clear e0
      go_wp2_with fail
      refine HD.out.mono ?_
      rintro e w2 ⟨A2, n2, c2, rfl, ho2, b2⟩
      go_wp2
      go_ret
      refine ⟨_, _, _, rfl, ?_, bw.trans ((b1.trans b2).mono s0)⟩
      rw [E0.out]; exact ho2.lower s0
    · have e7 : ((kiOf F lookup).1 == 7) = false := by simpa using h7
      by_cases h8 : (kiOf F lookup).1 = 8
      · have e0 : attachAll w64 F lookup run = attachL w64 F lookup 8 run := by rw [attachAll_ki, h8]
        have E0 := Lib.hid e0
        have HD := Lib.hid (done_marks _ _ _ _ _ _ _ _ _ _ _ _ _ _ w1 hs1 (by omega))
        rw [attach_ki8] at HD
        rw [h8] at c9
        clear e0
        go_wp2_with fail
        refine HD.out.mono ?_
        rintro e w2 ⟨A2, n2, c2, rfl, ho2, b2⟩
        go_wp2
        go_ret
        refine ⟨_, _, _, rfl, ?_, bw.trans ((b1.trans b2).mono s0)⟩
        rw [E0.out]; exact ho2.lower s0
      · have e8 : ((kiOf F lookup).1 == 8) = false := by simpa using h8
        have e0 : attachAll w64 F lookup run = run := by rw [attachAll_ki, attachL_rest h6 h7 h8]
        have E0 := Lib.hid e0
        clear e0
        go_wp2
        go_ret
        refine ⟨_, _, _, rfl, ?_, bw.trans (b1.mono s0)⟩
        rw [E0.out]; exact hs1.own.lower s0

end Go.Proofs.YtbjcbcdccekbkaaGreat
