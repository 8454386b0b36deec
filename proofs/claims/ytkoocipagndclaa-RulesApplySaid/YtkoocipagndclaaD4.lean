/- Walks: multiply. -/
import Derived.Test.YtkoocipagndclaaD3
import Derived.Test.YtkoocipagndclaaW16
import Derived.Deep.DeepCutAuto
import Derived.Deep.CutBlock
import Derived.Handy
namespace Go.Proofs.Ytkoocipagndclaa
open Go.RowKit Go.Shelf

/-- The work has another run: only its run's block was changed, or a new one was made. -/
theorem WS.newRun {B : Nat} {W W' : World} {Bw Bm : Nat} {f : FV} {F : Fnt} {g rn rc : Nat} {run run' : List Itm} (h : WS B W Bw Bm f F (some ⟨g, 0, none⟩) rn rc run) (hg : W.grownBy W' (some g)) {A : Option Addr} {n c : Nat} (ho : Ow 51 6 W' B A n c (itc run')) :
    WS B (W'.setCell ⟨Bw, 9, none⟩ (.slice A n c)) Bw Bm f F A n c run' ∧ Kept (SB B W) W (W'.setCell ⟨Bw, 9, none⟩ (.slice A n c)) ∧ Below B W (W'.setCell ⟨Bw, 9, none⟩ (.slice A n c)) := by
  obtain ⟨hgB, hglt, _, cur, hh⟩ := h.own.blk g rfl
  have hwne : Bw ≠ g := fun e => by
    subst e
    have hw := h.wk
    unfold Bk at hw; rw [hw] at hh; injection hh with hh; injection hh with _ h2; revert h2; decide
  have hk1 : Kept (SB B W) W W' := fun b hb => hg.block b (hb.lt h.hB) (fun e => by
    injection e with e; subst e
    rcases hb with hb | ⟨cs, t, fr, hb, ht, _⟩
    · omega
    · rw [hb] at hh; injection hh with hh; injection hh with _ h2; exact ht h2)
  have hwlt := h.wk.lt
  have hw' : Bk W' Bw 60 (wkC f (some ⟨g, 0, none⟩) rn rc (.map (some Bm))) := (hg.block Bw hwlt (fun e => by injection e with e; exact hwne e)).trans h.wk
  have hk : Kept (SB B W) W (W'.setCell ⟨Bw, 9, none⟩ (.slice A n c)) := fun b hb => (Below.heap_setCell _ _ _ _ (fun e => by
    dsimp only at e; subst e
    rcases hb with hb | ⟨cs, t, fr, hb, _, ht⟩
    · have := h.lw; omega
    · have hw := h.wk; unfold Bk at hw; rw [hb] at hw; injection hw with hw; injection hw with _ h2; exact ht h2)).trans (hk1 b hb)
  have hb1 : Below B W W' := (Below.refl _ _).grown hg h.hB (fun j hj => by injection hj with hj; omega)
  have hbl : Below B W (W'.setCell ⟨Bw, 9, none⟩ (.slice A n c)) := hb1.setCell (p := ⟨Bw, 9, none⟩) h.lw _
  obtain ⟨gm, hgq, hgm⟩ := h.mts
  have hmne : Bm ≠ g := fun e => by
    subst e
    obtain ⟨es, c, h1, _⟩ := hgq
    rw [h1] at hh; cases hh
  have hmw : Bm ≠ Bw := fun e => by
    subst e
    obtain ⟨es, c, h1, _⟩ := hgq
    have hw := h.wk
    unfold Bk at hw; rw [h1] at hw; cases hw
  refine ⟨⟨by simp; exact Nat.le_trans h.hB hg.size, h.lw, h.lm, hw'.set_ 9 _, h.font.mono (fun _ h => h) (kept_below hbl), ⟨gm, hgq.keep ((Below.heap_setCell _ _ _ _ hmw).trans (hg.block Bm hgq.lt (fun e => by injection e with e; exact hmne e))), fun k v hv => ?_⟩, ho.setOther (p := ⟨Bw, 9, none⟩) (fun b e => ?_) _⟩, hk, hbl⟩
  · obtain ⟨m, lk, h1, h2, h3⟩ := hgm k v hv
    exact ⟨m, lk, h1, h2, h3.kept hk⟩
  · show b ≠ Bw
    intro e2; subst e2
    obtain ⟨_, _, _, cur2, hh2⟩ := ho.blk b (by rw [e]; rfl)
    unfold Bk at hw'; rw [hw'] at hh2; injection hh2 with hh2; injection hh2 with _ h2; revert h2; decide

def zItm : Itm := ⟨0, 0, 0, 0, 0, 0⟩
theorem itc_zero (n : Nat) : itc (List.replicate n zItm) = List.replicate (n * 6) (.int .i64 0) := by
  induction n with
  | zero => rfl
  | succ n ih =>
    rw [List.replicate_succ, show itc (zItm :: List.replicate n zItm) = itmC zItm ++ itc (List.replicate n zItm) from rfl, ih, show (n + 1) * 6 = 6 + n * 6 by omega, ← List.replicate_append_replicate]
    rfl
theorem made_zero (n : Nat) : (madeCells (Value.agg #[.int .i64 0, .int .i64 0, .int .i64 0, .int .i64 0, .int .i64 0, .int .i64 0]).cells (n * 6)).toList = itc (List.replicate n zItm) := by
  rw [itc_zero]
  refine List.eq_replicate_iff.2 ⟨by simp [size_madeCells], fun b hb => ?_⟩
  simp only [madeCells, Array.toList_map, List.mem_map] at hb
  obtain ⟨i, _, rfl⟩ := hb
  have h6 : i % 6 < 6 := Nat.mod_lt _ (by decide)
  show (#[Value.int .i64 0, .int .i64 0, .int .i64 0, .int .i64 0, .int .i64 0, .int .i64 0] : Array Value)[i % 6]! = _
  generalize i % 6 = j at h6
  match j, h6 with
  | 0, _ => rfl
  | 1, _ => rfl
  | 2, _ => rfl
  | 3, _ => rfl
  | 4, _ => rfl
  | 5, _ => rfl
/-- 'make([]api.Item, n)'. -/
theorem mkIt (rn : Nat) (hrn : rn ≤ 1000000) : ∃ mc : Array Value, (∀ w0 : World, (Instr.makeSlice 32 (.int .i64 (rn : Int)) (.int .i64 (rn : Int))).run Try.prog w0 = .ok (.slice (some ⟨w0.heap.size, 0, none⟩) rn rn) (w0.alloc (.cells mc 51))) ∧ mc.toList = itc (List.replicate rn zItm) := by
  obtain ⟨i0, hi, hz0, hz1, hz2⟩ := info_parts elt_item.hi
  refine ⟨madeCells (Value.agg #[.int .i64 0, .int .i64 0, .int .i64 0, .int .i64 0, .int .i64 0, .int .i64 0]).cells (rn * 6), fun w0 => ?_, made_zero rn⟩
  have h := run_makeSlice (P := Try.prog) w0 32 51 i0 _ Try.underlying32 hi hz0 .i64 .i64 (rn : Int) (rn : Int) (by omega) (Int.le_refl _) (by rw [hz1, Int.toNat_natCast]; omega) (by rw [hz2]; omega) (by omega)
  rw [Int.toNat_natCast, hz1] at h
  exact h
theorem own_made (w : World) (base rn : Nat) (mc : Array Value) (h : mc.toList = itc (List.replicate rn zItm)) (hb : base ≤ w.heap.size) (hrn : rn ≤ 1000000) : Ow 51 6 (w.alloc (.cells mc 51)) base (some ⟨w.heap.size, 0, none⟩) rn rn (itc (List.replicate rn zItm)) := by
  have hl : mc.size = rn * 6 := by rw [← Array.length_toList, h, itc_len, List.length_replicate]
  exact ⟨by rw [itc_len, List.length_replicate], .inr ⟨w.heap.size, rn, mc, rfl, hb, heap_alloc_new w _, Nat.le_refl _, by unfold maxLen; omega, hl, by rw [← h]; exact List.take_of_length_le (by simp [hl])⟩⟩

/-- An item is laid into a row, cell by cell. -/
theorem Ow.item {w : World} {base g n c : Nat} {ys : List Itm} (h : Ow 51 6 w base (some ⟨g, 0, none⟩) n c (itc ys)) {j : Nat} {y : Itm} (hy : ys[j]? = some y) (it : Itm) (v : Int) :
    Ow 51 6 (((((((w.setCell ⟨g, j * 6, none⟩ (.int .i64 it.g)).setCell ⟨g, j * 6 + 1, none⟩ (.int .i64 it.c)).setCell ⟨g, j * 6 + 2, none⟩ (.int .i64 it.f)).setCell ⟨g, j * 6 + 3, none⟩ (.int .i64 it.a)).setCell ⟨g, j * 6 + 4, none⟩ (.int .i64 it.x)).setCell ⟨g, j * 6 + 5, none⟩ (.int .i64 it.y)).setCell ⟨g, j * 6, none⟩ (.int .i64 v)) base (some ⟨g, 0, none⟩) n c (itc (ys.set j (setG it v))) := by
  have hl := (List.getElem?_eq_some_iff.1 hy).1
  obtain ⟨y1, hy1⟩ : ∃ z : Itm, z = { y with g := it.g } := ⟨_, rfl⟩
  have e1 := itc_setj (run := ys) (i := j) (j := 0) (it := y) (it' := y1) (v := .int .i64 it.g) hy (by rw [hy1]; rfl) (by omega)
  have g1 : (ys.set j y1)[j]? = some y1 := List.getElem?_set_self (by simpa using hl)
  obtain ⟨y2, hy2⟩ : ∃ z : Itm, z = { y1 with c := it.c } := ⟨_, rfl⟩
  have e2 := itc_setj (run := (ys.set j y1)) (i := j) (j := 1) (it := y1) (it' := y2) (v := .int .i64 it.c) g1 (by rw [hy2]; rfl) (by omega)
  have g2 : ((ys.set j y1).set j y2)[j]? = some y2 := List.getElem?_set_self (by simpa using hl)
  obtain ⟨y3, hy3⟩ : ∃ z : Itm, z = { y2 with f := it.f } := ⟨_, rfl⟩
  have e3 := itc_setj (run := ((ys.set j y1).set j y2)) (i := j) (j := 2) (it := y2) (it' := y3) (v := .int .i64 it.f) g2 (by rw [hy3]; rfl) (by omega)
  have g3 : (((ys.set j y1).set j y2).set j y3)[j]? = some y3 := List.getElem?_set_self (by simpa using hl)
  obtain ⟨y4, hy4⟩ : ∃ z : Itm, z = { y3 with a := it.a } := ⟨_, rfl⟩
  have e4 := itc_setj (run := (((ys.set j y1).set j y2).set j y3)) (i := j) (j := 3) (it := y3) (it' := y4) (v := .int .i64 it.a) g3 (by rw [hy4]; rfl) (by omega)
  have g4 : ((((ys.set j y1).set j y2).set j y3).set j y4)[j]? = some y4 := List.getElem?_set_self (by simpa using hl)
  obtain ⟨y5, hy5⟩ : ∃ z : Itm, z = { y4 with x := it.x } := ⟨_, rfl⟩
  have e5 := itc_setj (run := ((((ys.set j y1).set j y2).set j y3).set j y4)) (i := j) (j := 4) (it := y4) (it' := y5) (v := .int .i64 it.x) g4 (by rw [hy5]; rfl) (by omega)
  have g5 : (((((ys.set j y1).set j y2).set j y3).set j y4).set j y5)[j]? = some y5 := List.getElem?_set_self (by simpa using hl)
  obtain ⟨y6, hy6⟩ : ∃ z : Itm, z = { y5 with y := it.y } := ⟨_, rfl⟩
  have e6 := itc_setj (run := (((((ys.set j y1).set j y2).set j y3).set j y4).set j y5)) (i := j) (j := 5) (it := y5) (it' := y6) (v := .int .i64 it.y) g5 (by rw [hy6]; rfl) (by omega)
  have g6 : ((((((ys.set j y1).set j y2).set j y3).set j y4).set j y5).set j y6)[j]? = some y6 := List.getElem?_set_self (by simpa using hl)
  obtain ⟨y7, hy7⟩ : ∃ z : Itm, z = { y6 with g := v } := ⟨_, rfl⟩
  have e7 := itc_setj (run := ((((((ys.set j y1).set j y2).set j y3).set j y4).set j y5).set j y6)) (i := j) (j := 0) (it := y6) (it' := y7) (v := .int .i64 v) g6 (by rw [hy7]; rfl) (by omega)
  have g7 : (((((((ys.set j y1).set j y2).set j y3).set j y4).set j y5).set j y6).set j y7)[j]? = some y7 := List.getElem?_set_self (by simpa using hl)
  have k1 := h.stored (j * 6) (.int .i64 it.g)
  rw [show j * 6 = j * 6 + 0 from rfl, e1] at k1
  have k2 := k1.stored (j * 6 + 1) (.int .i64 it.c)
  rw [e2] at k2
  have k3 := k2.stored (j * 6 + 2) (.int .i64 it.f)
  rw [e3] at k3
  have k4 := k3.stored (j * 6 + 3) (.int .i64 it.a)
  rw [e4] at k4
  have k5 := k4.stored (j * 6 + 4) (.int .i64 it.x)
  rw [e5] at k5
  have k6 := k5.stored (j * 6 + 5) (.int .i64 it.y)
  rw [e6] at k6
  have k7 := k6.stored (j * 6 + 0) (.int .i64 v)
  rw [e7] at k7
  have ef : y7 = setG it v := by rw [hy7, hy6, hy5, hy4, hy3, hy2, hy1]; rfl
  simp only [List.set_set] at k7
  rw [ef] at k7
  exact k7

theorem below7 {w wr : World} {vb j : Nat} {it : Itm} {v : Int} (h : Below w.heap.size w wr) (hv : w.heap.size ≤ vb) :
    Below w.heap.size w (((((((wr.setCell ⟨vb, j * 6, none⟩ (.int .i64 it.g)).setCell ⟨vb, j * 6 + 1, none⟩ (.int .i64 it.c)).setCell ⟨vb, j * 6 + 2, none⟩ (.int .i64 it.f)).setCell ⟨vb, j * 6 + 3, none⟩ (.int .i64 it.a)).setCell ⟨vb, j * 6 + 4, none⟩ (.int .i64 it.x)).setCell ⟨vb, j * 6 + 5, none⟩ (.int .i64 it.y)).setCell ⟨vb, j * 6, none⟩ (.int .i64 v)) :=
  ((((((h.setCell (p := ⟨vb, j * 6, none⟩) hv _).setCell (p := ⟨vb, j * 6 + 1, none⟩) hv _).setCell (p := ⟨vb, j * 6 + 2, none⟩) hv _).setCell (p := ⟨vb, j * 6 + 3, none⟩) hv _).setCell (p := ⟨vb, j * 6 + 4, none⟩) hv _).setCell (p := ⟨vb, j * 6 + 5, none⟩) hv _).setCell (p := ⟨vb, j * 6, none⟩) hv _
theorem set_take {ys : List Itm} {out : List Int} {j : Nat} {x : Int} {g : Int → Itm} (h : ys.take j = (out.take j).map g) (hx : out[j]? = some x) (hj : j < ys.length) (g' : Int → Itm) (hg : g' = g := by rfl) : (ys.set j (g' x)).take (j + 1) = (out.take (j + 1)).map g := by
  subst hg
  rw [List.take_add_one, List.take_add_one, hx, List.getElem?_set_self hj, List.take_set_of_le (Nat.le_refl _), h]
  simp

set_option maxRecDepth 100000 in
set_option maxHeartbeats 4000000 in
theorem multiply_c (B Bw Bm : Nat) (f : FV) (F : Fnt) (RA : Option Addr) (rn rc : Nat) (run : List Itm) (p : Nat) (OA : Option Addr) (on oc : Nat) (out : List Int) (W : World) (hs : WS B W Bw Bm f F RA rn rc run) (hO : Rd W (lo B) OA on out) (hp : p < rn) (hrn : rn ≤ 1000) (hon : on ≤ 1000000) :
    Calls Try.prog 60 #[.pointer (some ⟨Bw, 0, none⟩), .int .i64 (p : Int), .slice OA on oc] W (DPost B Bw Bm f F W (multL p out run)) := by
  have hrl := hs.len
  have hol := hO.len
  obtain ⟨R, hR⟩ : ∃ R, R = multL p out run := ⟨_, rfl⟩
  rw [← hR]
  unfold multL at hR
  rw [hrl, hol] at hR
  have c9 := hs.c9
  have hw0 : wrap64 ((rn : Int) - 1) = (rn : Int) - 1 := by unfold wrap64; omega
  have hw1 : wrap64 ((rn : Int) - 1 + (on : Int)) = (rn : Int) - 1 + (on : Int) := by unfold wrap64; omega
  by_cases hgt : rn < rn - 1 + on ∧ 500 < rn - 1 + on
  · rw [if_pos hgt] at hR
    have HR := Lib.hid hR
    have t0 : (rn : Int) < (rn : Int) - 1 + (on : Int) := by omega
    have t1 : (500 : Int) < (rn : Int) - 1 + (on : Int) := by omega
    clear hR hrl hol hgt
    go_enter Try.func60, Try.ntmps60
    go_wp2
    go_end0
    exact ⟨rfl, RA, rn, rc, by rw [HR.out]; exact hs, Kept.refl _ _, Below.refl _ _⟩
  · rw [if_neg hgt] at hR
    have hon2 : on ≤ 500 := by omega
    obtain ⟨it, hit⟩ := at_some run p (by omega)
    have hR2 : R = run.take p ++ ((out.map fun g => setG it g) ++ run.drop (p + 1)) := by
      rw [hR, List.append_assoc]; simp [hit]
    obtain ⟨gi, rfl, hgB, hgl⟩ := hs.own.form (by omega)
    obtain ⟨mc, hmk, hmc⟩ := mkIt on hon
    have bA : Below W.heap.size W (W.alloc (.cells mc 51)) := (Below.refl _ _).alloc (Nat.le_refl _) _
    have oA := own_made W W.heap.size on mc hmc (Nat.le_refl _) hon
    have HR := Lib.hid hR2; have HIT := Lib.hid hit; have HRL := Lib.hid hrl; have HOL := Lib.hid hol
    have pz : (0 : Int) ≤ (p : Int) := by omega
    have pn : (p : Int) < (rn : Int) := by omega
    have hsz := hs.hB
    have tnot : ¬ ((rn : Int) < (rn : Int) - 1 + (on : Int) ∧ (500 : Int) < (rn : Int) - 1 + (on : Int)) := by omega
    clear hR hR2 hit hrl hol hgt hmc
    go_enter Try.func60, Try.ntmps60
    go_upto_region 1 with fail
    go_cut [29] (fun s wx => s = .bool false ∧ wx = W)
    case first =>
      by_cases q0 : (rn : Int) < (rn : Int) - 1 + (on : Int)
      · have q1 : decide ((500 : Int) < (rn : Int) - 1 + (on : Int)) = false := by simp; omega
        go_wp2
        go_meet
        exact ⟨rfl, rfl⟩
      · have q1 : decide ((rn : Int) < (rn : Int) - 1 + (on : Int)) = false := by simp; omega
        go_wp2
        go_meet
        exact ⟨rfl, rfl⟩
    obtain ⟨rfl, rfl⟩ := hcut
    go_upto_region 3 with fail
    clear hmk
    generalize hwA : wc.alloc (.cells mc 51) = wA at bA oA ⊢
    clear hwA
    generalize hvb : wc.heap.size = vb at oA ⊢
    have HVB := Lib.hid hvb
    clear hvb
    go_wp2
    go_loopw [35] (fun i wr => ∃ (j : Nat) (ys : List Itm), j ≤ on ∧ i = .int .i64 j ∧ ys.length = on ∧ ys.take j = (out.take j).map (setG it) ∧ Ow 51 6 wr vb (some ⟨vb, 0, none⟩) on on (itc ys) ∧ Below wc.heap.size wc wr) (fun i _ => on - (intOf i).toNat)
    case atStart => exact ⟨0, List.replicate on zItm, by omega, rfl, by simp, by simp, oA, bA⟩
    case round =>
      obtain ⟨j, ys, hj, rfl, hyl, hyt, hor, hbr⟩ := hrel
      clear oA bA
      have c9r := cell_call c9 hbr
      have hsr := hs.call hbr
      by_cases hlt : j < on
      · obtain ⟨x, hx⟩ := at_some out j (by have := HOL.out; omega)
        obtain ⟨y, hy⟩ := at_some ys j (by omega)
        obtain ⟨ob, oo, rfl, hob, hoc⟩ := hO.pos (by omega)
        obtain ⟨cs, rfl, hcc⟩ := hoc j x hx
        have o0 := cell_call (hcc 0 _ rfl) hbr
        rw [Nat.mul_one, Nat.add_zero] at o0
        have x0 := hsr.own.cell (itc_at HIT.out (j := 0) (v := .int .i64 it.g) rfl)
        have x1 := hsr.own.cell (itc_at HIT.out (j := 1) (v := .int .i64 it.c) rfl)
        have x2 := hsr.own.cell (itc_at HIT.out (j := 2) (v := .int .i64 it.f) rfl)
        have x3 := hsr.own.cell (itc_at HIT.out (j := 3) (v := .int .i64 it.a) rfl)
        have x4 := hsr.own.cell (itc_at HIT.out (j := 4) (v := .int .i64 it.x) rfl)
        have x5 := hsr.own.cell (itc_at HIT.out (j := 5) (v := .int .i64 it.y) rfl)
        rw [Nat.add_zero] at x0
        have z0 := hor.cell (itc_at hy (j := 0) (v := .int .i64 y.g) rfl)
        have z1 := hor.cell (itc_at hy (j := 1) (v := .int .i64 y.c) rfl)
        have z2 := hor.cell (itc_at hy (j := 2) (v := .int .i64 y.f) rfl)
        have z3 := hor.cell (itc_at hy (j := 3) (v := .int .i64 y.a) rfl)
        have z4 := hor.cell (itc_at hy (j := 4) (v := .int .i64 y.x) rfl)
        have z5 := hor.cell (itc_at hy (j := 5) (v := .int .i64 y.y) rfl)
        rw [Nat.add_zero] at z0
        have f0 := hor.frozen (j * 6)
        have f1 := hor.frozen (j * 6 + 1)
        have f2 := hor.frozen (j * 6 + 2)
        have f3 := hor.frozen (j * 6 + 3)
        have f4 := hor.frozen (j * 6 + 4)
        have f5 := hor.frozen (j * 6 + 5)
        have HO7 := Lib.hid (hor.item hy it x)
        have HB7 := Lib.hid (below7 (j := j) (it := it) (v := x) hbr (by rw [HVB.out]; exact Nat.le_refl _))
        have HYT := Lib.hid (set_take hyt hx (by omega) (setG it))
        have jz : (0 : Int) ≤ (j : Int) := by omega
        have jn : (j : Int) < (on : Int) := by omega
        clear hx hy hoc hcc hyt
        go_wp2
        go_roundw
        case rel => exact ⟨j + 1, ys.set j (setG it x), by omega, by go_num, by simpa using hyl, HYT.out, HO7.out, HB7.out⟩
        case measure => simp [intOf]; omega
      · have hjn : j = on := by omega
        subst hjn
        have hye : ys = out.map (setG it) := by
          rw [List.take_of_length_le (by omega), List.take_of_length_le (by have := HOL.out; omega)] at hyt
          exact hyt
        rw [hye] at hor
        obtain ⟨hwg, hwlt⟩ : vb ≠ gi ∧ B ≤ vb := ⟨by have := HVB.out; omega, by have := HVB.out; omega⟩
        have HC := Lib.hid (replace_c B gi rn rc run p vb j j (out.map (setG it)) wr hsr.own (hor.lower hwlt) hwg hp hrn (by omega) hsr.hB)
        have t3 : decide ((j : Int) < (j : Int)) = false := by simp
        have hwp : wrap64 ((p : Int) + 1) = (p : Int) + 1 := by unfold wrap64; omega
        have HRR := Lib.hid (show R = run.take p ++ (out.map (setG it) ++ run.drop (p + 1)) from HR.out)
        clear hyt hye hor hyl
        go_wp2_with fail
        refine HC.out.mono ?_
        rintro e w2 ⟨A', c', rfl, o2, gr2⟩
        clear HC
        obtain ⟨_, _, _, cur, hh⟩ := hsr.own.blk gi rfl
        have hw2 := hsr.wk.grown gr2 (fun e => by
          injection e with e
          have hw := hsr.wk
          rw [e] at hw
          unfold Bk at hw; rw [hw] at hh; injection hh with hh; injection hh with _ h2; revert h2; decide)
        have c92 : w2.cell? ⟨Bw, 9, none⟩ = some (.slice (some ⟨gi, 0, none⟩) rn rc) := by have := hw2.cell 9; simpa using this
        have f92 := hw2.frozen 9
        obtain ⟨h1, h2, h3⟩ := hsr.newRun gr2 o2
        rw [← HRR.out] at h1
        have HF := Lib.hid (show DPost B Bw Bm f F wc R (.returned (.tuple #[])) (w2.setCell ⟨Bw, 9, none⟩ (.slice A' (p + j + (rn - (p + 1))) c')) from ⟨rfl, A', _, c', h1, fun b hb => (h2 b (hb.below hbr)).trans (hbr.block b (hb.lt hs.hB)), (hbr.mono hs.hB).trans h3⟩)
        clear h1 h2 h3 hh o2
        go_wp2
        go_end0
        exact HF.out

end Go.Proofs.Ytkoocipagndclaa
