/- Walks: apart. -/
import Derived.Test.YtkmdakampkfioaaGreatDoorV12
import Derived.Test.YtkmdakampkfioaaGreatDoorK15
import Derived.Test.YtkmdakampkfioaaGreatDoorAU8
namespace Go.Proofs.YtkmdakampkfioaaGreatDoor
open Go.RowKit Go.Shelf Go.Maps
def kdL (cls acls : List Int) (i : Nat) : List (KD × Value) := (apartL (kindG cls acls) i).map fun j => (kindG cls acls j, .bool true)
theorem kdL_keys (cls acls : List Int) (i : Nat) : (kdL cls acls i).map (·.1) = (apartL (kindG cls acls) i).map (kindG cls acls) := by unfold kdL; rw [List.map_map]; rfl
theorem kdL_lk (cls acls : List Int) (i : Nat) (k : KD) : (lkK (kdL cls acls i) k).getD (.bool false) = .bool (decide (k ∈ (apartL (kindG cls acls) i).map (kindG cls acls))) := by
 unfold lkK;rw [kdL_keys];cases hp : posK ((apartL (kindG cls acls) i).map (kindG cls acls)) k with
 | none => simp only [posK_none hp, decide_false]; rfl
 | some p =>
  have h1 := posK_some hp;have h2 := List.mem_of_getElem? h1;rw [List.getElem?_map] at h1;rw [decide_eq_true h2, Option.bind_some];unfold kdL;rw [List.getElem?_map];cases ha : (apartL (kindG cls acls) i)[p]? with
  | none => rw [ha] at h1; cases h1
  | some j => rfl
theorem kdL_put {cls acls : List Int} {i : Nat} (h : kindG cls acls i ∉ (apartL (kindG cls acls) i).map (kindG cls acls)) : putK (kdL cls acls i) (kindG cls acls i) (.bool true) = kdL cls acls (i + 1) := by
 unfold putK;rw [kdL_keys];cases hp : posK ((apartL (kindG cls acls) i).map (kindG cls acls)) (kindG cls acls i) with
 | some p => exact absurd (List.mem_of_getElem? (posK_some hp)) h
 | none =>
  show kdL cls acls i ++ _ = _
  unfold kdL;rw [apartL, if_neg h, List.map_append]; rfl
theorem kdL_same {cls acls : List Int} {i : Nat} (h : kindG cls acls i ∈ (apartL (kindG cls acls) i).map (kindG cls acls)) : apartL (kindG cls acls) (i + 1) = apartL (kindG cls acls) i := by rw [apartL, if_pos h]
theorem kdL_new {cls acls : List Int} {i : Nat} (h : kindG cls acls i ∉ (apartL (kindG cls acls) i).map (kindG cls acls)) : apartL (kindG cls acls) (i + 1) = apartL (kindG cls acls) i ++ [i] := by rw [apartL, if_neg h]
def gl (l : List Nat) : List Int := l.map fun (i : Nat) => (i : Int)
set_option maxRecDepth 100000 in
set_option maxHeartbeats 2000000 in
theorem apart_c (ca oa : Option Addr) (cn cc on oc : Nat) (cls acls : List Int) (w : World) (hC : Rd w (lo w.heap.size) ca cn cls) (hO : Rd w (lo w.heap.size) oa on acls) (hn : cn ≤ 65536) (ho : on ≤ 9223372036854775807) :
  Calls Tryz.prog 24 #[.slice ca cn cc, .slice oa on oc] w fun e w' => ∃ A c, e = .returned (.slice A (repL cls acls).length c) ∧ Ow 3 1 w' w.heap.size A (repL cls acls).length c (ic (repL cls acls)) ∧ Below w.heap.size w w' := by
 have lc := hC.len;have lo' := hO.len;have HC := Lib.hid hC; have HO := Lib.hid hO; have LC := Lib.hid lc; have LO := Lib.hid lo';have hmm := @run_makeMap Tryz.prog;have hmp := MapK.new (κ := KD) kvK w;have hb0 : Below w.heap.size w (w.alloc (.map #[] 0)) := (Below.refl _ _).alloc (Nat.le_refl _) _;have HAL := Lib.hid fun i => apart_len (kindG cls acls) i;clear hC hO lc lo';go_enter Tryz.func24, Tryz.ntmps24;go_wp2;go_loopw [6, 12] (fun gv iv wr => ∃ (i : Nat) (A : Option Addr) (c : Nat), i ≤ cn ∧ iv = .int .i64 i ∧ gv = .slice A (apartL (kindG cls acls) i).length c ∧ Ow 3 1 wr w.heap.size A (apartL (kindG cls acls) i).length c (ic (gl (apartL (kindG cls acls) i))) ∧ MapK kvK wr w.heap.size (kdL cls acls i) ∧ Below w.heap.size w wr ∧ w.heap.size < wr.heap.size) (fun _ iv _ => cn - (intOf iv).toNat)
 case atStart => exact ⟨0, none, 0, by omega, rfl, rfl, Ow.nil _ _ _ _, hmp, hb0, by simp⟩
 case round =>
  obtain ⟨i, A, c, hi, rfl, rfl, how, hmap, hbw, hlt0⟩ := hrel;by_cases hlt : i < cn
  ·obtain ⟨c0, hc0⟩ := at_some cls i (by have := LC.out; omega);obtain ⟨b1, o1, rfl, hb1, hcc1⟩ := ((HC.out.call hbw).pos (by omega));obtain ⟨cs1, rfl, e1⟩ := hcc1 i c0 hc0;have x1 := e1 0 _ rfl;rw [Nat.mul_one, Nat.add_zero] at x1;have iz : (0 : Int) ≤ (i : Int) := by omega
   have inn : (i : Int) < (cn : Int) := by omega
   by_cases ho2 : i < on
   ·obtain ⟨o0, ho0⟩ := at_some acls i (by have := LO.out; omega);obtain ⟨b2, o2, rfl, hb2, hcc2⟩ := ((HO.out.call hbw).pos (by omega));obtain ⟨cs2, rfl, e2⟩ := hcc2 i o0 ho0;have x2 := cell_alloc (e2 0 _ rfl) (.cells #[.int .i64 c0, .int .i64 0, .bool false] 144);rw [Nat.mul_one, Nat.add_zero] at x2;have io : (i : Int) < (on : Int) := by omega
    have hk : kindG cls acls i = (c0, o0, true) := by unfold kindG; rw [getD_of hc0, getD_of ho0]; simp; have := LO.out; omega
    clear e1 e2 hcc1 hcc2 hc0 ho0;have HK := Lib.hid hk;have bW : Below w.heap.size w (wr.alloc (.cells #[.int .i64 c0, .int .i64 o0, .bool true] 144)) := below_lit _ _ hbw _;have hmap1 : MapK kvK (wr.alloc (.cells #[.int .i64 c0, .int .i64 o0, .bool true] 144)) w.heap.size (kdL cls acls i) := hmap.keep (Below.heap_alloc _ _ _ hmap.lt);have how1 := how.alloc (.cells #[.int .i64 c0, .int .i64 o0, .bool true] 144);have kb : Bk (wr.alloc (.cells #[.int .i64 c0, .int .i64 o0, .bool true] 144)) wr.heap.size 144 #[.int .i64 c0, .int .i64 o0, .bool true] := Bk.new _ _ _;have hlk := kdL_lk cls acls i (kindG cls acls i);have hlook := run_lookK Tryz.underlying142 keyK (.bool false) zeroB hmap1 (kindG cls acls i) false;have hll := HAL.out i;simp only [Bool.false_eq_true, if_false] at hlook;rw [hlk] at hlook;by_cases hm : kindG cls acls i ∈ (apartL (kindG cls acls) i).map (kindG cls acls)
    ·have HS := Lib.hid (kdL_same hm);rw [decide_eq_true hm] at hlook;have HKD := Lib.hid (show kdL cls acls (i + 1) = kdL cls acls i by unfold kdL; rw [kdL_same hm]);rw [hk] at hlook;unfold kvK at hlook;clear hm hk hlk kb;go_wp2;go_round
     case rel => exact ⟨i + 1, A, c, by omega, by go_num, by rw [HS.out], by rw [HS.out]; exact how1, by rw [HKD.out]; exact hmap1, bW, by rw [World.size_alloc]; omega⟩
     case measure => simp [intOf]; omega
    ·have HS := Lib.hid (kdL_new hm);rw [decide_eq_false hm] at hlook;have hput' := kdL_put hm;obtain ⟨w3, hput, hmp3, hg3⟩ := run_putK Tryz.underlying142 keyK hmap1 (kindG cls acls i) (.bool true);rw [hput'] at hmp3;rw [hk] at hlook hput;have tm := hmap1.tag;have how3 := how1.grown hg3 (fun b e e2 => by injection e2 with e2; subst e2; exact tag_ne tm (how1.tag (by rw [e]; rfl)) (by decide));have b3 : Below w.heap.size w w3 := bW.grown hg3 (by have := hbw.size; rw [World.size_alloc]; omega) (fun b e => by injection e with e; omega);have hs3 := hg3.size;rw [World.size_alloc] at hs3;have x0 := box_cells kb 0 rfl;have x01 := box_cells kb 1 rfl;have x02 := box_cells kb 2 rfl;have HOW := Lib.hid (how3.alloc (.cells #[.int .i64 i] 3));unfold kvK at hlook hput;clear hm hk hlk hput' kb how3 how1 hmap1;go_wp2_with (at_builtin; refine appP elt_int rfl _ _ rfl (w3.alloc (.cells #[.int .i64 i] 3)) w.heap.size _ _ _ (ic (gl (apartL (kindG cls acls) i))) _ 1 1 [.int .i64 i] (by rfl) (by rfl) HOW.out rfl (fun _ => news_new _ _ _ (by omega)) (by simp [Value.oneCell']) (by omega) (by rw [World.size_alloc]; omega) ?_; intro A' c' w4 ho4 hg4 hb4 hat4);have hmp4 : MapK kvK w4 w.heap.size (kdL cls acls (i + 1)) := (hmp3.keep (Below.heap_alloc _ _ _ (by omega))).keep (hg4.block _ (by rw [World.size_alloc]; omega) (fun e => by
      obtain ⟨_, _, _, cur, hh⟩ := HOW.out.blk _ e.symm;exact (hmp3.keep (Below.heap_alloc w3 (.cells #[.int .i64 i] 3) w.heap.size (by omega))).notCells hh))
     have hg4s := hg4.size;rw [World.size_alloc] at hg4s;go_round
     case rel => exact ⟨i + 1, A', c', by omega, by go_num, by rw [HS.out, List.length_append]; rfl, by rw [HS.out, List.length_append]; simpa [gl, ic] using ho4, hmp4, ((b3.alloc b3.size _).trans (hb4)), by omega⟩
     case measure => simp [intOf]; omega
   ·have hk : kindG cls acls i = (c0, 0, false) := by unfold kindG; rw [getD_of hc0, List.getD_eq_getElem?_getD, List.getElem?_eq_none (by have := LO.out; omega)]; simp; have := LO.out; omega
    have t1 : decide ((i : Int) < (on : Int)) = false := by simp; omega
    have t1' : decide (i < on) = false := by simp; omega
    clear e1 hcc1 hc0;have HK := Lib.hid hk;have bW : Below w.heap.size w (wr.alloc (.cells #[.int .i64 c0, .int .i64 0, .bool false] 144)) := below_lit _ _ hbw _;have hmap1 : MapK kvK (wr.alloc (.cells #[.int .i64 c0, .int .i64 0, .bool false] 144)) w.heap.size (kdL cls acls i) := hmap.keep (Below.heap_alloc _ _ _ hmap.lt);have how1 := how.alloc (.cells #[.int .i64 c0, .int .i64 0, .bool false] 144);have kb : Bk (wr.alloc (.cells #[.int .i64 c0, .int .i64 0, .bool false] 144)) wr.heap.size 144 #[.int .i64 c0, .int .i64 0, .bool false] := Bk.new _ _ _;have hlk := kdL_lk cls acls i (kindG cls acls i);have hlook := run_lookK Tryz.underlying142 keyK (.bool false) zeroB hmap1 (kindG cls acls i) false;have hll := HAL.out i;simp only [Bool.false_eq_true, if_false] at hlook;rw [hlk] at hlook;by_cases hm : kindG cls acls i ∈ (apartL (kindG cls acls) i).map (kindG cls acls)
    ·have HS := Lib.hid (kdL_same hm);rw [decide_eq_true hm] at hlook;have HKD := Lib.hid (show kdL cls acls (i + 1) = kdL cls acls i by unfold kdL; rw [kdL_same hm]);rw [hk] at hlook;unfold kvK at hlook;clear hm hk hlk kb;go_wp2;go_round
     case rel => exact ⟨i + 1, A, c, by omega, by go_num, by rw [HS.out], by rw [HS.out]; exact how1, by rw [HKD.out]; exact hmap1, bW, by rw [World.size_alloc]; omega⟩
     case measure => simp [intOf]; omega
    ·have HS := Lib.hid (kdL_new hm);rw [decide_eq_false hm] at hlook;have hput' := kdL_put hm;obtain ⟨w3, hput, hmp3, hg3⟩ := run_putK Tryz.underlying142 keyK hmap1 (kindG cls acls i) (.bool true);rw [hput'] at hmp3;rw [hk] at hlook hput;have tm := hmap1.tag;have how3 := how1.grown hg3 (fun b e e2 => by injection e2 with e2; subst e2; exact tag_ne tm (how1.tag (by rw [e]; rfl)) (by decide));have b3 : Below w.heap.size w w3 := bW.grown hg3 (by have := hbw.size; rw [World.size_alloc]; omega) (fun b e => by injection e with e; omega);have hs3 := hg3.size;rw [World.size_alloc] at hs3;have x0 := box_cells kb 0 rfl;have x01 := box_cells kb 1 rfl;have x02 := box_cells kb 2 rfl;have HOW := Lib.hid (how3.alloc (.cells #[.int .i64 i] 3));unfold kvK at hlook hput;clear hm hk hlk hput' kb how3 how1 hmap1;go_wp2_with (at_builtin; refine appP elt_int rfl _ _ rfl (w3.alloc (.cells #[.int .i64 i] 3)) w.heap.size _ _ _ (ic (gl (apartL (kindG cls acls) i))) _ 1 1 [.int .i64 i] (by rfl) (by rfl) HOW.out rfl (fun _ => news_new _ _ _ (by omega)) (by simp [Value.oneCell']) (by omega) (by rw [World.size_alloc]; omega) ?_; intro A' c' w4 ho4 hg4 hb4 hat4);have hmp4 : MapK kvK w4 w.heap.size (kdL cls acls (i + 1)) := (hmp3.keep (Below.heap_alloc _ _ _ (by omega))).keep (hg4.block _ (by rw [World.size_alloc]; omega) (fun e => by
      obtain ⟨_, _, _, cur, hh⟩ := HOW.out.blk _ e.symm;exact (hmp3.keep (Below.heap_alloc w3 (.cells #[.int .i64 i] 3) w.heap.size (by omega))).notCells hh))
     have hg4s := hg4.size;rw [World.size_alloc] at hg4s;go_round
     case rel => exact ⟨i + 1, A', c', by omega, by go_num, by rw [HS.out, List.length_append]; rfl, by rw [HS.out, List.length_append]; simpa [gl, ic] using ho4, hmp4, ((b3.alloc b3.size _).trans (hb4)), by omega⟩
     case measure => simp [intOf]; omega
  ·go_wp2;go_ret;have hie : i = cn := by omega
   subst hie;have hrl : (repL cls acls).length = (apartL (kindG cls acls) i).length := by unfold repL; rw [LC.out, List.length_map]
   exact ⟨A, c, by rw [hrl]; rfl, by rw [hrl]; unfold repL; rw [LC.out]; exact how, hbw⟩
end Go.Proofs.YtkmdakampkfioaaGreatDoor
