/- Walks: seen, and its iterator, upwards and downwards. -/
import Derived.Test.YtkoocipagndclaaW4
import Derived.RangeFuncNested
import Derived.RangeFuncBound
import Derived.RangeFuncCalls
import Derived.RangeFuncLeaves
import Derived.Shelf.Abstract
import Derived.Shelf.RegionOpen
import Derived.OwnWalkIn
import Derived.TacticsInMore
import Derived.LoopNIn
import Derived.LoopIn
import Derived.Sort.QuietIn
namespace Go.Proofs.Ytkoocipagndclaa
open Go.RowKit Go.Shelf
attribute [local go_sem] Oper.semAt_some

theorem liftN {n : Nat} {f : FuncId} {args : Array Value} {w : World} {R : Ending → World → Prop} (h : Calls Try.prog f args w R) : CallsIn Fence.wide n Try.prog f args w R := (callsIn_wide (n := n)).2 h
theorem grown_drewN (w : World) (d : Nat) : w.grownBy (w.drewN d) none := ⟨rfl, rfl, rfl, Nat.le_refl _, fun _ _ _ => rfl⟩
theorem Kept.drewN {S : Nat → Prop} {w w' : World} (h : Kept S w w') (d : Nat) : Kept S w (w'.drewN d) := h
theorem quiet_inL {m : Nat} {f : FuncId} {args : Array Value} {w : World} {n : Nat} {v : Value}
    (h : Calls Try.prog f args (w.drewN n) fun e w' => e = .returned v ∧ w.drewN n = w') : CallsIn Fence.wide m Try.prog f args (w.drewN n) fun e w'' => e = .returned v ∧ ∃ m, w'' = w.drewN m :=
  liftN (quiet_left h)

theorem seen_c (Bw : Nat) (ign : Bool) (k s : Int) (w : World) :
    Calls Try.prog 39 #[.pointer (some ⟨Bw, 0, none⟩), .bool ign, .int .i64 k, .int .i64 s] w fun e w' =>
      e = .returned (.func (.func 54) #[] #[.pointer (some ⟨w.heap.size + 1 + 1, 0, none⟩), .pointer (some ⟨w.heap.size, 0, none⟩), .pointer (some ⟨w.heap.size + 1 + 1 + 1, 0, none⟩), .pointer (some ⟨w.heap.size + 1, 0, none⟩)]) ∧
      w' = (((w.alloc (.cells #[.pointer (some ⟨Bw, 0, none⟩)] 57)).alloc (.cells #[.bool ign] 4)).alloc (.cells #[.int .i64 k] 3)).alloc (.cells #[.int .i64 s] 3) := by
  go_enter Try.func39, Try.ntmps39
  go_wp2
  go_ret
  exact ⟨rfl, rfl⟩

/-- What the iterator reads: its four boxes, the run, the font's glyphs. -/
structure It (w : World) (Bd : Nat) (B1 B2 B3 B4 Bw : Nat) (f : FV) (F : Fnt) (RA : Option Addr) (rn rc : Nat) (run : List Itm) (ign : Bool) (k s : Int) : Prop where
  bd : Bd ≤ w.heap.size
  l1 : B1 < Bd
  l2 : B2 < Bd
  l3 : B3 < Bd
  l4 : B4 < Bd
  lw : Bw < Bd
  c1 : w.cell? ⟨B1, 0, none⟩ = some (.int .i64 k)
  c2 : w.cell? ⟨B2, 0, none⟩ = some (.pointer (some ⟨Bw, 0, none⟩))
  c3 : w.cell? ⟨B3, 0, none⟩ = some (.int .i64 s)
  c4 : w.cell? ⟨B4, 0, none⟩ = some (.bool ign)
  w1 : w.cell? ⟨Bw, 1, none⟩ = some (.slice f.ga f.gn f.gc)
  w9 : w.cell? ⟨Bw, 9, none⟩ = some (.slice RA rn rc)
  run : RdI w (lo Bd) RA rn run
  font : IsF w (lo Bd) f F
  hrn : rn ≤ 9223372036854775806
theorem It.kept {w w' : World} {Bd B1 B2 B3 B4 Bw : Nat} {f : FV} {F : Fnt} {RA : Option Addr} {rn rc : Nat} {run : List Itm} {ign : Bool} {k s : Int} (h : It w Bd B1 B2 B3 B4 Bw f F RA rn rc run ign k s) (hk : Kept (lo Bd) w w') (hb : Bd ≤ w'.heap.size) : It w' Bd B1 B2 B3 B4 Bw f F RA rn rc run ign k s :=
  ⟨hb, h.l1, h.l2, h.l3, h.l4, h.lw, (hk.cell (p := ⟨B1, 0, none⟩) h.l1).trans h.c1, (hk.cell (p := ⟨B2, 0, none⟩) h.l2).trans h.c2, (hk.cell (p := ⟨B3, 0, none⟩) h.l3).trans h.c3, (hk.cell (p := ⟨B4, 0, none⟩) h.l4).trans h.c4,
    (hk.cell (p := ⟨Bw, 1, none⟩) h.lw).trans h.w1, (hk.cell (p := ⟨Bw, 9, none⟩) h.lw).trans h.w9, h.run.mono (fun _ h => h) hk, h.font.mono (fun _ h => h) hk, h.hrn⟩
theorem kept_size {B : Nat} {w w' : World} (h : Kept (lo B) w w') (hB : B ≤ w.heap.size) : B ≤ w'.heap.size := by
  rcases Nat.eq_zero_or_pos B with h0 | h0
  · omega
  · have h1 := h (B - 1) (show B - 1 < B by omega)
    have h2 : B - 1 < w.heap.size := by omega
    rw [show w.heap[B - 1]? = some w.heap[B - 1] from Array.getElem?_eq_getElem h2] at h1
    have := (Array.getElem?_eq_some_iff.1 h1).1
    omega
def Pre (full pre : List Nat) : Prop := ∃ t, full = pre ++ t

set_option maxRecDepth 100000 in
set_option maxHeartbeats 4000000 in
theorem seenUp_stops (m Bd B1 B2 B3 B4 Bw : Nat) (f : FV) (F : Fnt) (RA : Option Addr) (rn rc : Nat) (run : List Itm) (ign : Bool) (k0 : Nat) (w : World) (hm : 1 ≤ m) (hI : It w Bd B1 B2 B3 B4 Bw f F RA rn rc run ign (k0 : Int) 1) :
    SeqStopsK Fence.wide m Try.prog 54 #[.pointer (some ⟨B1, 0, none⟩), .pointer (some ⟨B2, 0, none⟩), .pointer (some ⟨B3, 0, none⟩), .pointer (some ⟨B4, 0, none⟩)] (fun (x : Nat) => #[.int .i64 (x : Int)]) (Kept (lo Bd))
      (fun l => l = upL (seenB F ign run) rn k0) (Pre (upL (seenB F ign run) rn k0)) (rn + 1) w := by
  intro l J Jx W hbW hJ hJx hY h0
  have HJ := Lib.hid hJ; clear hJ hJx
  have kW : Kept (lo Bd) w W := (kept_below hbW).sub (fun b hb => Nat.lt_of_lt_of_le hb hI.bd)
  have iW := hI.kept kW (kept_size kW hI.bd)
  clear hbW hI
  have HL := Lib.hid iW.run.len
  have hrn := iW.hrn
  refine callsIn_of_wp Try.func54 rfl trivial ?_ rfl
  simp only [Try.ntmps54, List.size_toArray, List.length_cons, List.length_nil, Nat.reduceAdd, Nat.reduceSub, Array.replicate_succ, Array.replicate_zero, List.push_toArray, List.append_toArray, List.nil_append, List.cons_append]
  have c1 := iW.c1
  have HY := Lib.hid hY; clear hY
  have hFw : ∀ k, Fence.wide.fn k := fun _ => trivial
  gi_wp2
  clear c1
  gi_loopw [6] (fun vf wr => ∃ (k : Nat) (pre : List Nat), vf = .int .i64 (k : Int) ∧ k0 ≤ k ∧ (k ≤ rn ∨ k = k0) ∧ pre.length ≤ k - k0 ∧ upL (seenB F ign run) rn k0 = pre ++ upL (seenB F ign run) rn k ∧ J pre wr ∧ Kept (lo Bd) W wr ∧ Bd ≤ wr.heap.size) (fun vf _ => rn - (intOf vf).toNat)
  case atStart => exact ⟨k0, [], rfl, Nat.le_refl _, .inr rfl, by simp, rfl, h0, Kept.refl _ _, iW.bd⟩
  case round =>
    obtain ⟨k, pre, rfl, hk1, hk2, hk3, hgr, hJs, hkp, hsz⟩ := hrel
    have HG := Lib.hid hgr; clear hgr
    have iw := iW.kept hkp hsz
    have cw := iw.c2
    have c3 := iw.c3
    have c4 := iw.c4
    have w9 := iw.w9
    by_cases hlt : k < rn
    · have hz0 : True := trivial
      obtain ⟨b, o, rfl, hb, hc⟩ := iw.run.pos (by have := HL.out; omega)
      obtain ⟨it, hit⟩ := at_some run k (by have := HL.out; omega)
      obtain ⟨cs, rfl, hcc⟩ := hc k it hit
      have g0 := hcc 0 _ rfl
      rw [Nat.add_zero] at g0
      clear hc hcc
      have kz : (0 : Int) ≤ (k : Int) := by omega
      have kn : (k : Int) < (rn : Int) := by omega
      have kd : decide ((k : Int) < (rn : Int)) = true := by simp; omega
      have hMk := fun (d : Nat) => isMark_c Bw f F it.g (wr.drewN d) (iw.font.mono (S' := lo (wr.drewN d).heap.size) (w' := wr.drewN d) (fun b hb => Nat.lt_of_lt_of_le hb iw.bd) (Kept.refl _ _)) iw.w1
      have HM := Lib.hid hMk; clear hMk
      have hsn : seenB F ign run k = !(ign && isMark F it.g) := by unfold seenB; rw [gAt_some hit]
      have YL := Lib.hid fun (d : Nat) => HY.out pre k (wr.drewN d) (HJ.out _ _ _ none hJs (grown_drewN _ _) (fun r e => by cases e)) (by omega)
      have mixed : Try.prog.follows Departure.mixedOrders = true := by kernel_rfl
      have yes : seenB F ign run k = true → upL (seenB F ign run) rn k0 = (pre ++ [k]) ++ upL (seenB F ign run) rn (k + 1) := fun h => by rw [HG.out, upL_yes hlt h]; simp
      have no : seenB F ign run k = false → upL (seenB F ign run) rn k0 = pre ++ upL (seenB F ign run) rn (k + 1) := fun h => by rw [HG.out, upL_no hlt h]
      have YS := Lib.hid yes; have NS := Lib.hid no
      clear yes no hit
      cases ign with
      | false =>
        have HS := Lib.hid (YS.out (by rw [hsn]; rfl)); clear hsn HM YS NS
        gi_wp2
        gi_quiet (fail)
        obtain ⟨fn, tmps, assign, body, hy, hRd⟩ := YL.out nq
        have hRd2 := hRd.mono (R' := fun e W' => ∃ bb : Bool, e = .returned (.bool bb) ∧ ((bb = true ∧ J (pre ++ [k]) W' ∧ Kept (lo Bd) (wr.drewN nq) W') ∨ (bb = false ∧ Jx (pre ++ [k]) W'))) (by
          rintro e W' (⟨he, h1, h2⟩ | ⟨he, h1⟩)
          · exact ⟨true, he, .inl ⟨rfl, h1, h2⟩⟩
          · exact ⟨false, he, .inr ⟨rfl, h1⟩⟩)
        clear hRd
        gi_wp2_with fail
        refine hRd2.mono ?_
        rintro e W3 ⟨bb, rfl, hPP⟩
        rcases hPP with ⟨rfl, hJ3, hk3⟩ | ⟨rfl, hJx3⟩
        · have iw3 := iw.kept hk3 (kept_size hk3 hsz)
          have c3' := iw3.c3
          clear hy hRd2
          gi_wp2
          go_roundw
          case rel => exact ⟨k + 1, pre ++ [k], by go_num, by omega, by omega, by simp; omega, HS.out, hJ3, hkp.trans hk3, kept_size hk3 hsz⟩
          case measure => simp [intOf]; omega
        · clear hy hRd2
          gi_wp2
          refine bodyPost_ret (results_none rfl _ _ _) rfl ?_
          exact ⟨⟨_, rfl⟩, .inr ⟨_, ⟨_, HS.out⟩, hJx3⟩⟩
      | true =>
        cases hmk : isMark F it.g with
        | false =>
          rw [hmk] at HM
          have HS := Lib.hid (YS.out (by rw [hsn, hmk]; rfl)); clear hsn YS NS hmk
          gi_wp2
          gi_quiet ((gi_at_call 53; exact quiet_inL (HM.out _)))
          obtain ⟨fn, tmps, assign, body, hy, hRd⟩ := YL.out nq
          have hRd2 := hRd.mono (R' := fun e W' => ∃ bb : Bool, e = .returned (.bool bb) ∧ ((bb = true ∧ J (pre ++ [k]) W' ∧ Kept (lo Bd) (wr.drewN nq) W') ∨ (bb = false ∧ Jx (pre ++ [k]) W'))) (by
            rintro e W' (⟨he, h1, h2⟩ | ⟨he, h1⟩)
            · exact ⟨true, he, .inl ⟨rfl, h1, h2⟩⟩
            · exact ⟨false, he, .inr ⟨rfl, h1⟩⟩)
          clear hRd
          gi_wp2_with fail
          refine hRd2.mono ?_
          rintro e W3 ⟨bb, rfl, hPP⟩
          rcases hPP with ⟨rfl, hJ3, hk3⟩ | ⟨rfl, hJx3⟩
          · have iw3 := iw.kept hk3 (kept_size hk3 hsz)
            have c3' := iw3.c3
            clear hy hRd2
            gi_wp2
            go_roundw
            case rel => exact ⟨k + 1, pre ++ [k], by go_num, by omega, by omega, by simp; omega, HS.out, hJ3, hkp.trans hk3, kept_size hk3 hsz⟩
            case measure => simp [intOf]; omega
          · clear hy hRd2
            gi_wp2
            refine bodyPost_ret (results_none rfl _ _ _) rfl ?_
            exact ⟨⟨_, rfl⟩, .inr ⟨_, ⟨_, HS.out⟩, hJx3⟩⟩
        | true =>
          rw [hmk] at HM
          have HS := Lib.hid (NS.out (by rw [hsn, hmk]; rfl)); clear hsn YS NS hmk
          gi_wp2
          gi_quiet ((gi_at_call 53; exact quiet_inL (HM.out _)))
          gi_wp2
          go_roundw
          case rel => exact ⟨k + 1, pre, by go_num, by omega, by omega, by omega, HS.out, HJ.out _ _ _ none hJs (grown_drewN _ _) (fun r e => by cases e), hkp.drewN _, hsz⟩
          case measure => simp [intOf]; omega
    · have hge : decide ((k : Int) < (rn : Int)) = false := by simp; omega
      have hge2 : decide (k < rn) = false := by simp; omega
      gi_wp2
      go_end0
      refine ⟨⟨_, rfl⟩, .inl ⟨pre, ?_, hJs⟩⟩
      rw [HG.out, upL_end (by omega)]; simp

set_option maxRecDepth 100000 in
set_option maxHeartbeats 4000000 in
theorem seenDn_stops (m Bd B1 B2 B3 B4 Bw : Nat) (f : FV) (F : Fnt) (RA : Option Addr) (rn rc : Nat) (run : List Itm) (ign : Bool) (k0 : Nat) (w : World) (hm : 1 ≤ m) (hI : It w Bd B1 B2 B3 B4 Bw f F RA rn rc run ign ((k0 : Int) - 1) (-1)) (hk0 : k0 ≤ rn) :
    SeqStopsK Fence.wide m Try.prog 54 #[.pointer (some ⟨B1, 0, none⟩), .pointer (some ⟨B2, 0, none⟩), .pointer (some ⟨B3, 0, none⟩), .pointer (some ⟨B4, 0, none⟩)] (fun (x : Nat) => #[.int .i64 (x : Int)]) (Kept (lo Bd))
      (fun l => l = dnL (seenB F ign run) k0) (Pre (dnL (seenB F ign run) k0)) (rn + 1) w := by
  intro l J Jx W hbW hJ hJx hY h0
  have HJ := Lib.hid hJ; clear hJ hJx
  have kW : Kept (lo Bd) w W := (kept_below hbW).sub (fun b hb => Nat.lt_of_lt_of_le hb hI.bd)
  have iW := hI.kept kW (kept_size kW hI.bd)
  clear hbW hI
  have HL := Lib.hid iW.run.len
  have hrn := iW.hrn
  refine callsIn_of_wp Try.func54 rfl trivial ?_ rfl
  simp only [Try.ntmps54, List.size_toArray, List.length_cons, List.length_nil, Nat.reduceAdd, Nat.reduceSub, Array.replicate_succ, Array.replicate_zero, List.push_toArray, List.append_toArray, List.nil_append, List.cons_append]
  have c1 := iW.c1
  have HY := Lib.hid hY; clear hY
  have hFw : ∀ k, Fence.wide.fn k := fun _ => trivial
  gi_wp2
  clear c1
  gi_loopw [6] (fun vf wr => ∃ (k : Nat) (pre : List Nat), vf = .int .i64 ((k : Int) - 1) ∧ k ≤ k0 ∧ k ≤ rn ∧ pre.length + k ≤ k0 ∧ dnL (seenB F ign run) k0 = pre ++ dnL (seenB F ign run) k ∧ J pre wr ∧ Kept (lo Bd) W wr ∧ Bd ≤ wr.heap.size) (fun vf _ => (intOf vf + 1).toNat)
  case atStart => exact ⟨k0, [], rfl, Nat.le_refl _, hk0, by simp, rfl, h0, Kept.refl _ _, iW.bd⟩
  case round =>
    obtain ⟨k, pre, rfl, hk1, hk2, hk3, hgr, hJs, hkp, hsz⟩ := hrel
    have HG := Lib.hid hgr; clear hgr
    have iw := iW.kept hkp hsz
    have cw := iw.c2
    have c3 := iw.c3
    have c4 := iw.c4
    have w9 := iw.w9
    rcases Nat.eq_zero_or_pos k with hz | hlt
    rotate_left
    · obtain ⟨k, rfl⟩ : ∃ j, k = j + 1 := ⟨k - 1, by omega⟩
      rw [show ((k + 1 : Nat) : Int) - 1 = (k : Int) by omega]
      obtain ⟨b, o, rfl, hb, hc⟩ := iw.run.pos (by have := HL.out; omega)
      obtain ⟨it, hit⟩ := at_some run k (by have := HL.out; omega)
      obtain ⟨cs, rfl, hcc⟩ := hc k it hit
      have g0 := hcc 0 _ rfl
      rw [Nat.add_zero] at g0
      clear hc hcc
      have kz : (0 : Int) ≤ (k : Int) := by omega
      have kn : (k : Int) < (rn : Int) := by omega
      have kd : decide ((k : Int) < (rn : Int)) = true := by simp; omega
      have hMk := fun (d : Nat) => isMark_c Bw f F it.g (wr.drewN d) (iw.font.mono (S' := lo (wr.drewN d).heap.size) (w' := wr.drewN d) (fun b hb => Nat.lt_of_lt_of_le hb iw.bd) (Kept.refl _ _)) iw.w1
      have HM := Lib.hid hMk; clear hMk
      have hsn : seenB F ign run k = !(ign && isMark F it.g) := by unfold seenB; rw [gAt_some hit]
      have YL := Lib.hid fun (d : Nat) => HY.out pre k (wr.drewN d) (HJ.out _ _ _ none hJs (grown_drewN _ _) (fun r e => by cases e)) (by omega)
      have mixed : Try.prog.follows Departure.mixedOrders = true := by kernel_rfl
      have yes : seenB F ign run k = true → dnL (seenB F ign run) k0 = (pre ++ [k]) ++ dnL (seenB F ign run) k := fun h => by rw [HG.out, dnL_yes h]; simp
      have no : seenB F ign run k = false → dnL (seenB F ign run) k0 = pre ++ dnL (seenB F ign run) k := fun h => by rw [HG.out, dnL_no h]
      have YS := Lib.hid yes; have NS := Lib.hid no
      clear yes no hit
      cases ign with
      | false =>
        have HS := Lib.hid (YS.out (by rw [hsn]; rfl)); clear hsn HM YS NS
        gi_wp2
        gi_quiet (fail)
        obtain ⟨fn, tmps, assign, body, hy, hRd⟩ := YL.out nq
        have hRd2 := hRd.mono (R' := fun e W' => ∃ bb : Bool, e = .returned (.bool bb) ∧ ((bb = true ∧ J (pre ++ [k]) W' ∧ Kept (lo Bd) (wr.drewN nq) W') ∨ (bb = false ∧ Jx (pre ++ [k]) W'))) (by
          rintro e W' (⟨he, h1, h2⟩ | ⟨he, h1⟩)
          · exact ⟨true, he, .inl ⟨rfl, h1, h2⟩⟩
          · exact ⟨false, he, .inr ⟨rfl, h1⟩⟩)
        clear hRd
        gi_wp2_with fail
        refine hRd2.mono ?_
        rintro e W3 ⟨bb, rfl, hPP⟩
        rcases hPP with ⟨rfl, hJ3, hk3⟩ | ⟨rfl, hJx3⟩
        · have iw3 := iw.kept hk3 (kept_size hk3 hsz)
          have c3' := iw3.c3
          clear hy hRd2
          gi_wp2
          go_roundw
          case rel => exact ⟨k, pre ++ [k], rfl, by omega, by omega, by simp; omega, HS.out, hJ3, hkp.trans hk3, kept_size hk3 hsz⟩
          case measure => simp [intOf]; omega
        · clear hy hRd2
          gi_wp2
          refine bodyPost_ret (results_none rfl _ _ _) rfl ?_
          exact ⟨⟨_, rfl⟩, .inr ⟨_, ⟨_, HS.out⟩, hJx3⟩⟩
      | true =>
        cases hmk : isMark F it.g with
        | false =>
          rw [hmk] at HM
          have HS := Lib.hid (YS.out (by rw [hsn, hmk]; rfl)); clear hsn YS NS hmk
          gi_wp2
          gi_quiet ((gi_at_call 53; exact quiet_inL (HM.out _)))
          obtain ⟨fn, tmps, assign, body, hy, hRd⟩ := YL.out nq
          have hRd2 := hRd.mono (R' := fun e W' => ∃ bb : Bool, e = .returned (.bool bb) ∧ ((bb = true ∧ J (pre ++ [k]) W' ∧ Kept (lo Bd) (wr.drewN nq) W') ∨ (bb = false ∧ Jx (pre ++ [k]) W'))) (by
            rintro e W' (⟨he, h1, h2⟩ | ⟨he, h1⟩)
            · exact ⟨true, he, .inl ⟨rfl, h1, h2⟩⟩
            · exact ⟨false, he, .inr ⟨rfl, h1⟩⟩)
          clear hRd
          gi_wp2_with fail
          refine hRd2.mono ?_
          rintro e W3 ⟨bb, rfl, hPP⟩
          rcases hPP with ⟨rfl, hJ3, hk3⟩ | ⟨rfl, hJx3⟩
          · have iw3 := iw.kept hk3 (kept_size hk3 hsz)
            have c3' := iw3.c3
            clear hy hRd2
            gi_wp2
            go_roundw
            case rel => exact ⟨k, pre ++ [k], rfl, by omega, by omega, by simp; omega, HS.out, hJ3, hkp.trans hk3, kept_size hk3 hsz⟩
            case measure => simp [intOf]; omega
          · clear hy hRd2
            gi_wp2
            refine bodyPost_ret (results_none rfl _ _ _) rfl ?_
            exact ⟨⟨_, rfl⟩, .inr ⟨_, ⟨_, HS.out⟩, hJx3⟩⟩
        | true =>
          rw [hmk] at HM
          have HS := Lib.hid (NS.out (by rw [hsn, hmk]; rfl)); clear hsn YS NS hmk
          gi_wp2
          gi_quiet ((gi_at_call 53; exact quiet_inL (HM.out _)))
          gi_wp2
          go_roundw
          case rel => exact ⟨k, pre, rfl, by omega, by omega, by omega, HS.out, HJ.out _ _ _ none hJs (grown_drewN _ _) (fun r e => by cases e), hkp.drewN _, hsz⟩
          case measure => simp [intOf]; omega
    · subst hz
      gi_wp2
      go_end0
      refine ⟨⟨_, rfl⟩, .inl ⟨pre, ?_, hJs⟩⟩
      rw [HG.out, show dnL (seenB F ign run) 0 = [] from rfl]; simp

end Go.Proofs.Ytkoocipagndclaa
