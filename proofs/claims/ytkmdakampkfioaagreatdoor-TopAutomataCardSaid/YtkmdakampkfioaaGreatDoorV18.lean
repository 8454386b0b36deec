/- Walks: agree's meet. -/
import Derived.Test.YtkmdakampkfioaaGreatDoorV16
namespace Go.Proofs.YtkmdakampkfioaaGreatDoor
open Go.RowKit Go.Shelf Go.Maps
theorem bits_andn_u64_nat (a b : Nat) (ha : a < 18446744073709551616) (hb : b < 18446744073709551616) : bits .andNot .u64 (a : Int) (b : Int) = ((andn a b : Nat) : Int) := by
 have hx : andn a b < 2 ^ 64 := andn_lt b (by omega);have h1 : (BitVec.ofInt 64 (a : Int)).toNat = a := by
  rw [BitVec.ofInt_natCast, BitVec.toNat_ofNat]; exact Nat.mod_eq_of_lt (by omega)
 have h2 : (BitVec.ofInt 64 (b : Int)).toNat = b := by
  rw [BitVec.ofInt_natCast, BitVec.toNat_ofNat]; exact Nat.mod_eq_of_lt (by omega)
 show IntKind.u64.wrap ((BitVec.ofInt 64 (a : Int) &&& ~~~ BitVec.ofInt 64 (b : Int)).toNat : Int) = _
 have e : (BitVec.ofInt 64 (a : Int) &&& ~~~ BitVec.ofInt 64 (b : Int)).toNat = andn a b := by
  rw [BitVec.toNat_and, BitVec.toNat_not, h1, h2];apply Nat.eq_of_testBit_eq;intro i;rw [Nat.testBit_and, andn_bit, show 2 ^ 64 - 1 - b = 2 ^ 64 - (b + 1) by omega, Nat.testBit_two_pow_sub_succ (by omega)];by_cases hi : i < 64
  ·simp [hi]
  ·rw [Nat.testBit_lt_two_pow (Nat.lt_of_lt_of_le (show a < 2 ^ 64 by omega) (Nat.pow_le_pow_right (by omega) (by omega)))]; simp
 rw [e, IntKind.wrap_u64];omega
theorem xor_lt64 {a b : Nat} (ha : a < 18446744073709551616) (hb : b < 18446744073709551616) : a ^^^ b < 18446744073709551616 := Nat.xor_lt_two_pow (n := 64) ha hb
theorem andn_lt64 {a : Nat} (b : Nat) (ha : a < 18446744073709551616) : andn a b < 18446744073709551616 := andn_lt (n := 64) b ha
theorem and_lt64 {a : Nat} (b : Nat) (ha : a < 18446744073709551616) : a &&& b < 18446744073709551616 := and_lt_left (n := 64) b ha
theorem putK_putK {κ : Type} [DecidableEq κ] (l : List (κ × Value)) (k : κ) (z v : Value) : putK (putK l k z) k v = putK l k v := by
 cases hp : posK (l.map (·.1)) k with
 | some i =>
  have e1 : putK l k z = l.set i (k, z) := by unfold putK; rw [hp]
  have e2 : (l.set i (k, z)).map (·.1) = l.map (·.1) := by
   rw [List.map_set];have h := posK_some hp;apply List.ext_getElem?;intro j;by_cases e : i = j
   ·subst e;rw [List.getElem?_set_self (List.getElem?_eq_some_iff.1 h).1, h]
   ·rw [List.getElem?_set_ne e]
  rw [e1];unfold putK;rw [e2, hp];dsimp only;rw [List.set_set]
 | none =>
  have e1 : putK l k z = l ++ [(k, z)] := by unfold putK; rw [hp]
  have hn := posK_none hp;have e2 : posK ((l ++ [(k, z)]).map (·.1)) k = some l.length := by
   unfold posK;rw [List.map_append, List.idxOf?, List.findIdx?_append];have : List.findIdx? (fun x => x == k) (l.map (·.1)) = none := by rw [List.findIdx?_eq_none_iff]; intro x hx; simp; exact fun e => hn (e ▸ hx)
   rw [this]; simp
  rw [e1];unfold putK;rw [e2, hp];dsimp only;rw [List.set_append_right _ _ (Nat.le_refl _), Nat.sub_self]; rfl
def Agr1R (w : World) (B : Nat) (r : WV) (rows : List (List (List Int))) (cls : List Int) (rv : RV) (g : GB) (s : GV) (ends : List Nat) (x : PS) (m : Nat) (e : Ending) (w' : World) : Prop := Bo B w w' g s ∧
 if (dueQ rows x ^^^ bitQ ends x) &&& m ≠ 0 then e = .returned (.bool false)
 else e = .returned (.bool true) ∧ ∃ (D' : Nat → Prop) (la' : Option Addr) (ln' lc' : Nat),
  if freshB (dueQ rows) s.f x m = 0 ∨ deadQ x = true then AG w' B r rows cls rv g { s with D := D', la := la', ln := ln', lc := lc' }
  else ∃ fl' ta' tc', (∀ b, ta'.map (·.block) = some b → s.ta.map (·.block) = some b ∨ w.heap.size ≤ b) ∧ AG w' B r rows cls rv g { s with D := D', la := la', ln := ln', lc := lc', fl := fl', f := upd s.f x (freshB (dueQ rows) s.f x m), ta := ta', tc := tc', todo := s.todo ++ [(x, freshB (dueQ rows) s.f x m)] }
set_option maxRecDepth 100000 in
set_option maxHeartbeats 2000000 in
theorem agree1_c (B : Nat) (r : WV) (rows : List (List (List Int))) (cls : List Int) (rv : RV) (acls : List Int) (atab : List (List Int)) (ends : List Nat) (g : GB) (s : GV) (x : PS) (m : Nat) (w : World) (h : AG w B r rows cls rv g s) (hB : B ≤ w.heap.size) (hG : GlyOK cls r.K) (hn : rows.length ≤ 64) (hK : r.K ≤ 65536) (hx1 : x.1.1 ≤ 900000) (hx2 : x.1.2 < 18446744073709551616) (hm : m < 18446744073709551616) (hR : IsR w (lo B) rv acls atab ends) (hl : s.todo.length ≤ 1000000000000) :
  Calls Tryz.prog 46 #[.agg #[.int .i64 (x.1.1 : Int), .int .u64 (x.1.2 : Int), .int .i64 x.2], .int .u64 (m : Int), .pointer (some ⟨g.RB, 0, none⟩), .pointer (some ⟨g.AB, 0, none⟩), .pointer (some ⟨g.OB, 0, none⟩), .pointer (some ⟨g.TB, 0, none⟩)] w (Agr1R w B r rows cls rv g s ends x m) := by
 obtain ⟨⟨xm, xr⟩, xs⟩ := x;dsimp only at hx1 hx2 ⊢;have b1 : Below w.heap.size w (w.alloc (.cells #[.int .i64 (xm : Int), .int .u64 (xr : Int), .int .i64 xs] 148)) := (Below.refl _ _).alloc (Nat.le_refl _) _;have k1 := Bk.new w 148 #[.int .i64 (xm : Int), .int .u64 (xr : Int), .int .i64 xs];have h1 := h.call b1;have hB1 : B ≤ (w.alloc (.cells #[.int .i64 (xm : Int), .int .u64 (xr : Int), .int .i64 xs] 148)).heap.size := Nat.le_trans hB b1.size;have bB1 := b1.mono hB;have HE := Lib.hid (ends_c B s.D g.P r rows cls s.la s.ln s.lc xm xr _ h1.ro hB1 hG hn hK hx1 hx2);have HR := Lib.hid hR;have HFLT := Lib.hid h.flt;have hdlt : endsP rows (xm, xr) < 18446744073709551616 := and_lt64 _ hx2;have hblt : bitsA ends xs < 18446744073709551616 := hR.bits_lt xs;have HG := Lib.hid hG;have r0 := box_cells h1.kr 0 rfl;have x0 := box_cells k1 0 rfl;have x1 := box_cells k1 1 rfl;have x2 := box_cells k1 2 rfl;have ws : w.heap.size < (w.alloc (.cells #[.int .i64 (xm : Int), .int .u64 (xr : Int), .int .i64 xs] 148)).heap.size := k1.lt;have HN := Lib.hid (fun hd : s.D w.heap.size => Nat.lt_irrefl _ (h.ro.dl _ hd));have HNP := Lib.hid (show w.heap.size ≠ g.P ∧ s.la.map (·.block) ≠ some w.heap.size from ⟨fun e => by have := h.ro.lt; omega, fun e => by have := (h.ro.ltl _ e).1; omega⟩);clear h hR hG;go_enter Tryz.func46, Tryz.ntmps46;go_wp2_with fail;refine HE.out.mono ?_;rintro e w2 ⟨D2, la2, ln2, lc2, rfl, post⟩;have h2 := h1.lev post;have k2 := post.2.1.box k1 HNP.out.1 HNP.out.2;have bB2 := bB1.trans post.2.1.bl;have hB2 := Nat.le_trans hB1 post.2.1.bl.size;have HO2 := Lib.hid (fun b (hb : b < w.heap.size) (hp : b ≠ g.P) (hl2 : s.la.map (·.block) ≠ some b) => (post.2.1.oth b (Nat.lt_trans hb ws) hp hl2).trans (b1.block b hb));have HZ2 := Lib.hid (Nat.le_trans (Nat.le_of_lt ws) post.2.1.bl.size);clear post HE h1 k1 r0 x0 x1 x2;have a0 := box_cells h2.ka 0 rfl;have a1 := box_cells h2.ka 1 rfl;have a2 := box_cells h2.ka 2 rfl;have x0 := box_cells k2 0 rfl;have x1 := box_cells k2 1 rfl;have x2 := box_cells k2 2 rfl;have HBI := Lib.hid (bits_c rv acls atab ends xs w2 (HR.out.mono (lo_mono hB2) (kept_below bB2)));unfold RV.cells at HBI;go_wp2_with fail;refine HBI.out.mono ?_;rintro e w3 ⟨rfl, b3⟩;have h3 := h2.call b3;have k3 := k2.below b3 k2.lt;have bB3 := bB2.trans (b3.mono hB2);have hB3 := Nat.le_trans hB2 b3.size;have BO3 : Bo B w w3 g s := ⟨bB3, fun b q1 q2 q3 _ _ _ => (b3.block b (Nat.lt_of_lt_of_le q1 HZ2.out)).trans (HO2.out b q1 q2 q3)⟩;have HSZ := Lib.hid (Nat.le_trans HZ2.out b3.size)
 clear b3 HBI h2 k2 bB2 hB2 a0 a1 a2 x0 x1 x2 bB1 hB1 b1;have hFIN := Lib.hid (show ∀ e w', Bo B w w' g s → (if (dueQ rows ((xm, xr), xs) ^^^ bitQ ends ((xm, xr), xs)) &&& m ≠ 0 then e = .returned (.bool false)
 else e = .returned (.bool true) ∧ ∃ (D' : Nat → Prop) (la' : Option Addr) (ln' lc' : Nat),
  if freshB (dueQ rows) s.f ((xm, xr), xs) m = 0 ∨ deadQ ((xm, xr), xs) = true then AG w' B r rows cls rv g { s with D := D', la := la', ln := ln', lc := lc' }
  else ∃ fl' ta' tc', (∀ b, ta'.map (·.block) = some b → s.ta.map (·.block) = some b ∨ w.heap.size ≤ b) ∧ AG w' B r rows cls rv g { s with D := D', la := la', ln := ln', lc := lc', fl := fl', f := upd s.f ((xm, xr), xs) (freshB (dueQ rows) s.f ((xm, xr), xs) m), ta := ta', tc := tc', todo := s.todo ++ [(((xm, xr), xs), freshB (dueQ rows) s.f ((xm, xr), xs) m)] }) → Agr1R w B r rows cls rv g s ends ((xm, xr), xs) m e w' from fun e w' h1 h2 => ⟨h1, h2⟩)
 unfold freshB at hFIN;have hdq : dueQ rows ((xm, xr), xs) = endsP rows (xm, xr) := rfl;have hbq : bitQ ends ((xm, xr), xs) = bitsA ends xs := rfl;rw [hdq, hbq] at hFIN;generalize endsP rows (xm, xr) = d at *;generalize bitsA ends xs = t at *;obtain ⟨fx, hfx⟩ : ∃ fx, s.f ((xm, xr), xs) = fx := ⟨_, rfl⟩;have hflt := HFLT.out ((xm, xr), xs);have hfl := h3.fl ((xm, xr), xs);rw [hfx] at hfl hflt hFIN;have e1 := bits_xor_u64_nat d t hdlt hblt;have e2 := bits_and_u64_nat (d ^^^ t) m (xor_lt64 hdlt hblt) hm;have e3 := bits_andn_u64_nat m d hm hdlt;have e4 := bits_andn_u64_nat (andn m d) fx (andn_lt64 d hm) hflt;have hf1lt : andn (andn m d) fx < 18446744073709551616 := andn_lt64 fx (andn_lt64 d hm);have e5 := bits_or_u64_nat fx (andn (andn m d) fx) hflt hf1lt;generalize (d ^^^ t) &&& m = q at *;generalize andn (andn m d) fx = f1 at *;by_cases hq : q = 0
 ·subst hq;have x0 := box_cells k3 0 rfl;have x1 := box_cells k3 1 rfl;have x2 := box_cells k3 2 rfl;have o0 := box_cells h3.ko 0 rfl;have hlook := run_lookK Tryz.underlying145 keyP (.int .u64 0) zeroU h3.mp ((xm, xr), xs) false;simp only [Bool.false_eq_true, if_false] at hlook;rw [hfl] at hlook;unfold kvP at hlook;have hok : ∀ w', Bo B w w' g s → (∃ (D' : Nat → Prop) (la' : Option Addr) (ln' lc' : Nat),
  if f1 = 0 ∨ deadQ ((xm, xr), xs) = true then AG w' B r rows cls rv g { s with D := D', la := la', ln := ln', lc := lc' }
  else ∃ fl' ta' tc', (∀ b, ta'.map (·.block) = some b → s.ta.map (·.block) = some b ∨ w.heap.size ≤ b) ∧ AG w' B r rows cls rv g { s with D := D', la := la', ln := ln', lc := lc', fl := fl', f := upd s.f ((xm, xr), xs) f1, ta := ta', tc := tc', todo := s.todo ++ [(((xm, xr), xs), f1)] }) → Agr1R w B r rows cls rv g s ends ((xm, xr), xs) m (.returned (.bool true)) w' := fun w' h1 h2 => hFIN.out _ _ h1 (by rw [if_neg (by simp)]; exact ⟨rfl, h2⟩)
  have HOK := Lib.hid hok;have H3 := Lib.hid h3;clear hok hFIN h3;by_cases hskip : f1 = 0 ∨ deadQ ((xm, xr), xs) = true
  ·have HOK2 := Lib.hid (HOK.out w3 BO3 ⟨D2, la2, ln2, lc2, by rw [if_pos hskip]; exact H3.out⟩);clear HOK H3;by_cases hf1 : f1 = 0
   ·subst hf1;clear hskip;go_wp2;go_ret;exact HOK2.out
   ·have t1 : ((f1 : Int) == 0) = false := by simp; omega
    have hd := hskip.resolve_left hf1;unfold deadQ at hd;simp only [Bool.and_eq_true, beq_iff_eq] at hd;obtain ⟨rfl, rfl⟩ := hd;have hz : ((0 : Nat) : Int) = 0 := rfl;rw [hz] at hlook;clear hskip;go_wp2;go_ret;exact HOK2.out
  ·have hf1 : ¬ f1 = 0 := fun e => hskip (.inl e);have hdd : ¬ (xr = 0 ∧ xs = -1) := fun e => hskip (.inr (by unfold deadQ; rw [e.1, e.2]; rfl));have t1 : ((f1 : Int) == 0) = false := by simp; omega
   have HSK := Lib.hid hskip;have HFL := Lib.hid hfl;clear hskip hfl;by_cases hxr : xr = 0
   ·subst hxr;have hxs : ¬ xs = -1 := fun e => hdd ⟨rfl, e⟩;have ts : (xs == -1) = false := by simpa using hxs
    have hz : ((0 : Nat) : Int) = 0 := rfl;rw [hz] at hlook x1 ⊢;clear ws;have hmd : MapK kvP w3.drew g.mb s.fl := H3.out.mp;have o0d : w3.drew.cell? ⟨g.OB, 0, none⟩ = some (.map (some g.mb)) := o0;have x0d : w3.drew.cell? ⟨w.heap.size, 0, none⟩ = some (.int .i64 (xm : Int)) := x0;have x1d : w3.drew.cell? ⟨w.heap.size, 1, none⟩ = some (.int .u64 0) := x1;have x2d : w3.drew.cell? ⟨w.heap.size, 2, none⟩ = some (.int .i64 xs) := x2;have hlookd := run_lookK Tryz.underlying145 keyP (.int .u64 0) zeroU hmd ((xm, 0), xs) false;simp only [Bool.false_eq_true, if_false] at hlookd;rw [HFL.out] at hlookd;obtain ⟨w4, ei, hent, hmp4, hg4, hei⟩ := run_entryK Tryz.underlying145 keyP (.int .u64 0) zeroU hmd ((xm, 0), xs);rw [HFL.out] at hent hmp4 hei;have hlook4 := run_lookK Tryz.underlying145 keyP (.int .u64 0) zeroU hmp4 ((xm, 0), xs) false;simp only [Bool.false_eq_true, if_false] at hlook4;have hnd : (s.fl.map (·.1)).Nodup := by obtain ⟨_, _, _, _, hnd⟩ := H3.out.mp; exact hnd
    rw [lkK_put hnd, if_pos rfl, Option.getD_some] at hlook4;obtain ⟨w5, hsto, hmp5, hg5⟩ := run_entryStoreK (T := 145) hmp4 hei (.int .u64 ((fx ||| f1 : Nat) : Int));rw [putK_putK] at hmp5;have hg35 : w3.grownBy w5 (some g.mb) := (show w3.grownBy w4 (some g.mb) from ⟨hg4.os, hg4.tape, hg4.output, hg4.size, hg4.block⟩).trans hg5;unfold kvP at hlookd hent hlook4;rw [hz] at hlookd hent hlook4;have tm := H3.out.mp.tag;have k5 := k3.grown hg35 (fun e => by injection e with e; exact tag_ne tm (e ▸ k3.tag) (by decide));have kt5 := H3.out.kt.grown hg35 (fun e => by injection e with e; exact tag_ne tm (e ▸ H3.out.kt.tag) (by decide));have ot5 := H3.out.ot.grown hg35 (fun b e e2 => by injection e2 with e2; subst e2; have ht := H3.out.ot.tag (show s.ta.map (·.block) = some g.mb from by rw [show s.ta = some ⟨g.mb, 0, none⟩ from e]; rfl); exact tag_ne tm ht (by decide));have y0 := box_cells k5 0 rfl;have y1 := box_cells k5 1 rfl;have y2 := box_cells k5 2 rfl;have t0 := box_cells kt5 0 rfl;have hs5 := hg35.size;have hs4 : w3.heap.size ≤ w4.heap.size := hg4.size;have HOW := Lib.hid (ot5.alloc (.cells #[.int .i64 (xm : Int), .int .u64 0, .int .i64 xs, .int .u64 (f1 : Int)] 151));have HMP5 := Lib.hid hmp5; have HG35 := Lib.hid hg35;dsimp only at HOW t0;clear hmd hmp4 hg4 hmp5 hg5 hg35 hei hnd tm ot5 k3 k5 HFL;go_wp2;rotate_left 1
    ·rename_i hx;exfalso;rcases hx with hx | hx
     ·simp at hx; omega
     ·simp at hx; omega
    clear hlook x0 x1 x2 o0;go_region;go_wp2_with (at_builtin; refine appP elt_stepS rfl _ _ rfl (w5.alloc (.cells #[.int .i64 (xm : Int), .int .u64 0, .int .i64 xs, .int .u64 (f1 : Int)] 151)) B _ _ _ (stC s.todo).flatten _ 1 1 [.int .i64 (xm : Int), .int .u64 0, .int .i64 xs, .int .u64 (f1 : Int)] (by rfl) (by rfl) HOW.out rfl (fun _ => news_new _ _ _ (by omega)) (by simp [Value.oneCell']) (by omega) (by rw [World.size_alloc]; omega) ?_; intro ta' tc' w6 ho6 hg6 hb6 hat6; have kt6 := (kt5.alloc (.cells #[.int .i64 (xm : Int), .int .u64 0, .int .i64 xs, .int .u64 (f1 : Int)] 151)).grown hg6 ((kt5.alloc _).ne_own (by decide) HOW.out); have z6 := box_cells kt6 0 rfl; have f6 := kt6.frozen 0);go_ret;obtain ⟨q1, q2, q3, q4⟩ := H3.out.push hB3 (y := ((xm, 0), xs)) hf1lt (by dsimp only; rw [hfx]; exact HMP5.out) HG35.out ho6 hg6 hat6;refine HOK.out _ (BO3.push q2 HSZ.out q3) ⟨D2, la2, ln2, lc2, ?_⟩;rw [if_neg HSK.out];exact ⟨_, ta', tc', fun b hb => (q4 b hb).imp id (fun h => Nat.le_trans HSZ.out h), q1⟩
   ·have tr : ((xr : Int) == 0) = false := by simp; omega
    have tr' : (xr == 0) = false := by simpa using hxr
    have hmd : MapK kvP w3.drew g.mb s.fl := H3.out.mp;have o0d : w3.drew.cell? ⟨g.OB, 0, none⟩ = some (.map (some g.mb)) := o0;have x0d : w3.drew.cell? ⟨w.heap.size, 0, none⟩ = some (.int .i64 (xm : Int)) := x0;have x1d : w3.drew.cell? ⟨w.heap.size, 1, none⟩ = some (.int .u64 (xr : Int)) := x1;have x2d : w3.drew.cell? ⟨w.heap.size, 2, none⟩ = some (.int .i64 xs) := x2;have hlookd := run_lookK Tryz.underlying145 keyP (.int .u64 0) zeroU hmd ((xm, xr), xs) false;simp only [Bool.false_eq_true, if_false] at hlookd;rw [HFL.out] at hlookd;obtain ⟨w4, ei, hent, hmp4, hg4, hei⟩ := run_entryK Tryz.underlying145 keyP (.int .u64 0) zeroU hmd ((xm, xr), xs);rw [HFL.out] at hent hmp4 hei;have hlook4 := run_lookK Tryz.underlying145 keyP (.int .u64 0) zeroU hmp4 ((xm, xr), xs) false;simp only [Bool.false_eq_true, if_false] at hlook4;have hnd : (s.fl.map (·.1)).Nodup := by obtain ⟨_, _, _, _, hnd⟩ := H3.out.mp; exact hnd
    rw [lkK_put hnd, if_pos rfl, Option.getD_some] at hlook4;obtain ⟨w5, hsto, hmp5, hg5⟩ := run_entryStoreK (T := 145) hmp4 hei (.int .u64 ((fx ||| f1 : Nat) : Int));rw [putK_putK] at hmp5;have hg35 : w3.grownBy w5 (some g.mb) := (show w3.grownBy w4 (some g.mb) from ⟨hg4.os, hg4.tape, hg4.output, hg4.size, hg4.block⟩).trans hg5;unfold kvP at hlookd hent hlook4;have tm := H3.out.mp.tag;have k5 := k3.grown hg35 (fun e => by injection e with e; exact tag_ne tm (e ▸ k3.tag) (by decide));have kt5 := H3.out.kt.grown hg35 (fun e => by injection e with e; exact tag_ne tm (e ▸ H3.out.kt.tag) (by decide));have ot5 := H3.out.ot.grown hg35 (fun b e e2 => by injection e2 with e2; subst e2; have ht := H3.out.ot.tag (show s.ta.map (·.block) = some g.mb from by rw [show s.ta = some ⟨g.mb, 0, none⟩ from e]; rfl); exact tag_ne tm ht (by decide));have y0 := box_cells k5 0 rfl;have y1 := box_cells k5 1 rfl;have y2 := box_cells k5 2 rfl;have t0 := box_cells kt5 0 rfl;have hs5 := hg35.size;have hs4 : w3.heap.size ≤ w4.heap.size := hg4.size;have HOW := Lib.hid (ot5.alloc (.cells #[.int .i64 (xm : Int), .int .u64 (xr : Int), .int .i64 xs, .int .u64 (f1 : Int)] 151));have HMP5 := Lib.hid hmp5; have HG35 := Lib.hid hg35;dsimp only at HOW t0;clear hmd hmp4 hg4 hmp5 hg5 hg35 hei hnd tm ot5 k3 k5 HFL;go_wp2;clear hlook x0 x1 x2 o0;go_region;go_wp2_with (at_builtin; refine appP elt_stepS rfl _ _ rfl (w5.alloc (.cells #[.int .i64 (xm : Int), .int .u64 (xr : Int), .int .i64 xs, .int .u64 (f1 : Int)] 151)) B _ _ _ (stC s.todo).flatten _ 1 1 [.int .i64 (xm : Int), .int .u64 (xr : Int), .int .i64 xs, .int .u64 (f1 : Int)] (by rfl) (by rfl) HOW.out rfl (fun _ => news_new _ _ _ (by omega)) (by simp [Value.oneCell']) (by omega) (by rw [World.size_alloc]; omega) ?_; intro ta' tc' w6 ho6 hg6 hb6 hat6; have kt6 := (kt5.alloc (.cells #[.int .i64 (xm : Int), .int .u64 (xr : Int), .int .i64 xs, .int .u64 (f1 : Int)] 151)).grown hg6 ((kt5.alloc _).ne_own (by decide) HOW.out); have z6 := box_cells kt6 0 rfl; have f6 := kt6.frozen 0);go_ret;obtain ⟨q1, q2, q3, q4⟩ := H3.out.push hB3 (y := ((xm, xr), xs)) hf1lt (by dsimp only; rw [hfx]; exact HMP5.out) HG35.out ho6 hg6 hat6;refine HOK.out _ (BO3.push q2 HSZ.out q3) ⟨D2, la2, ln2, lc2, ?_⟩;rw [if_neg HSK.out];exact ⟨_, ta', tc', fun b hb => (q4 b hb).imp id (fun h => Nat.le_trans HSZ.out h), q1⟩
 ·have HB := Lib.hid (hFIN.out (.returned (.bool false)) w3 BO3 (by rw [if_pos hq]));have t0 : ((q : Int) == 0) = false := by simp; omega
  have t0' : (q == 0) = false := by simpa using hq
  clear hFIN h3 k3 hfl hq;go_wp2;go_ret;exact HB.out
theorem exists_least {P : Nat → Prop} (h : ∃ n, P n) : ∃ n, P n ∧ ∀ m, P m → n ≤ m := by
 obtain ⟨n, hn⟩ := h
 induction n using Nat.strongRecOn with
 | ind n ih =>
  by_cases hs : ∃ m, m < n ∧ P m
  ·obtain ⟨m, h1, h2⟩ := hs;exact ih m h1 h2
  ·exact ⟨n, hn, fun m hm => Nat.le_of_not_lt fun hl => hs ⟨m, hl, hm⟩⟩
open Classical in
noncomputable def leastN (P : Nat → Prop) : Nat := if h : ∃ n, P n then Classical.choose (exists_least h) else 0
theorem leastN_spec {P : Nat → Prop} (h : ∃ n, P n) : P (leastN P) := by
 unfold leastN; rw [dif_pos h]; exact (Classical.choose_spec (exists_least h)).1
theorem leastN_le {P : Nat → Prop} {n : Nat} (h : P n) : leastN P ≤ n := by
 unfold leastN; rw [dif_pos ⟨n, h⟩]; exact (Classical.choose_spec (exists_least ⟨n, h⟩)).2 n h
abbrev BX := Nat × TypeId × Array Value
def AGG (w W : World) (B : Nat) (r : WV) (rows : List (List (List Int))) (cls : List Int) (rv : RV) (g : GB) (s : GV) (X : List BX) : Prop :=
 Below B w W ∧ B ≤ W.heap.size ∧ ∃ (D : Nat → Prop) (la : Option Addr) (ln lc : Nat), AG W B r rows cls rv g { s with D := D, la := la, ln := ln, lc := lc } ∧
  ∀ x ∈ X, Bk W x.1 x.2.1 x.2.2 ∧ (x.2.1 = 148 → ¬ D x.1) ∧ s.ta.map (·.block) ≠ some x.1 ∧ (x.2.1 = 151 ∨ x.2.1 = 148)
section
variable {w W W' : World} {B : Nat} {r : WV} {rows : List (List (List Int))} {cls : List Int} {rv : RV} {g : GB} {s : GV} {X : List BX}
theorem AGG.call (h : AGG w W B r rows cls rv g s X) (hb : Below W.heap.size W W') : AGG w W' B r rows cls rv g s X := by
 obtain ⟨h1, h2, D, la, ln, lc, h3, h4⟩ := h;refine ⟨h1.trans (hb.mono h2), Nat.le_trans h2 hb.size, D, la, ln, lc, h3.call hb, fun x hx => ?_⟩;obtain ⟨k1, k2⟩ := h4 x hx;exact ⟨k1.below hb k1.lt, k2⟩
theorem AGG.new (h : AGG w W B r rows cls rv g s X) {t : TypeId} (ht : t = 151 ∨ t = 148) (cs : Array Value) : AGG w (W.alloc (.cells cs t)) B r rows cls rv g s ((W.heap.size, t, cs) :: X) := by
 obtain ⟨h1, h2, D, la, ln, lc, h3, h4⟩ := h;have hb : Below W.heap.size W (W.alloc (.cells cs t)) := (Below.refl _ _).alloc (Nat.le_refl _) _;refine ⟨h1.trans (hb.mono h2), Nat.le_trans h2 hb.size, D, la, ln, lc, h3.call hb, fun x hx => ?_⟩;rcases List.mem_cons.1 hx with rfl | hx
 ·exact ⟨Bk.new _ _ _, fun _ hd => Nat.lt_irrefl _ (h3.ro.dl _ hd), fun e => Nat.lt_irrefl _ (h3.ot.blk _ e).2.1, ht⟩
 ·obtain ⟨k1, k2⟩ := h4 x hx;exact ⟨k1.below hb k1.lt, k2⟩
theorem AG.notBx (h : AG W B r rows cls rv g s) {b : Nat} {t : TypeId} {cs : Array Value} (hk : Bk W b t cs) (ht : t = 151 ∨ t = 148) : b ≠ g.P ∧ s.la.map (·.block) ≠ some b ∧ b ≠ g.RB ∧ b ≠ g.AB ∧ b ≠ g.OB ∧ b ≠ g.TB ∧ b ≠ g.mb := by
 obtain ⟨t1, t2, t3, t4, t5, t6⟩ := h.tags;have hb := hk.tag;have n : t + 1 ≠ 137 + 1 ∧ t + 1 ≠ 188 + 1 ∧ t + 1 ≠ 126 + 1 ∧ t + 1 ≠ 100 + 1 ∧ t + 1 ≠ 145 + 1 ∧ t + 1 ≠ 146 + 1 ∧ t + 1 ≠ 0 := by rcases ht with rfl | rfl <;> decide
 refine ⟨fun e => ?_, fun e => ?_, fun e => tag_ne hb (e ▸ t1) n.2.2.1, fun e => tag_ne hb (e ▸ t2) n.2.2.2.1, fun e => tag_ne hb (e ▸ t3) n.2.2.2.2.1, fun e => tag_ne hb (e ▸ t4) n.2.2.2.2.2.1, fun e => tag_ne hb (e ▸ t5) n.2.2.2.2.2.2⟩
 ·rcases h.ro.tags (.inl e) with h1 | h1
  ·exact tag_ne hb h1 n.1
  ·exact tag_ne hb h1 n.2.1
 ·rcases h.ro.tags (.inr e) with h1 | h1
  ·exact tag_ne hb h1 n.1
  ·exact tag_ne hb h1 n.2.1
theorem AGG.behind (h : AGG w W B r rows cls rv g s X) (hG : GlyOK cls r.K) (hn : rows.length ≤ 64) (hK : r.K ≤ 65536) (m x c : Nat) (hm : m ≤ 900000) (hx : x < 18446744073709551616) (hc : c < r.K) :
  Calls Tryz.prog 41 #[.pointer (some ⟨g.P, 0, none⟩), .agg #[.int .i64 (m : Int), .int .u64 (x : Int)], .int .i64 (c : Int)] W fun e W' => e = .returned (.agg #[.int .i64 ((behindP rows cls (m, x) (c : Int)).1 : Int), .int .u64 ((behindP rows cls (m, x) (c : Int)).2 : Int)]) ∧ AGG w W' B r rows cls rv g s X := by
 obtain ⟨h1, h2, D, la, ln, lc, h3, h4⟩ := h;refine (behind_c B D g.P r rows cls la ln lc m x c W h3.ro h2 hG hn hK hm hx hc).mono ?_;rintro e W' ⟨D', la', ln', lc', rfl, post⟩;refine ⟨rfl, h1.trans post.2.1.bl, Nat.le_trans h2 post.2.1.bl.size, D', la', ln', lc', h3.lev post, fun y hy => ?_⟩;obtain ⟨k1, k2, k3, k4⟩ := h4 y hy;obtain ⟨n1, n2, _⟩ := h3.notBx k1 k4;refine ⟨post.2.1.box k1 n1 n2, fun ht hd => ?_, k3, k4⟩;rcases post.2.1.new _ hd with h5 | h5
 ·exact k2 ht h5
 ·have := k1.lt; omega
theorem AGG.next (h : AGG w W B r rows cls rv g s X) {acls : List Int} {atab : List (List Int)} {ends : List Nat} (hR : IsR w (lo B) rv acls atab ends) (p q : Int) :
  Calls Tryz.prog 48 #[.agg rv.cells, .int .i64 p, .int .i64 q] W fun e W' => e = .returned (.int .i64 (stepA acls atab p q)) ∧ AGG w W' B r rows cls rv g s X := by
 refine (next_c rv acls atab ends p q W (hR.mono (lo_mono h.2.1) (kept_below h.1))).mono ?_;rintro e W' ⟨rfl, hb⟩;exact ⟨rfl, h.call hb⟩
theorem AGG.box (h : AGG w W B r rows cls rv g s X) {x : BX} (hx : x ∈ X) : Bk W x.1 x.2.1 x.2.2 := by
 obtain ⟨_, _, _, _, _, _, _, h4⟩ := h;exact (h4 x hx).1
theorem AGG.store {g2 : Nat} {a0 b0 c0 : Value} (h : AGG w W B r rows cls rv g s ((g2, 148, #[a0, b0, c0]) :: X)) (hX : ∀ x ∈ X, x.2.1 = 151) (hg : B ≤ g2) (a b c : Value) :
  AGG w (((W.setCell ⟨g2, 0, none⟩ a).setCell ⟨g2, 1, none⟩ b).setCell ⟨g2, 2, none⟩ c) B r rows cls rv g s ((g2, 148, #[a, b, c]) :: X) := by
 obtain ⟨h1, h2, D, la, ln, lc, h3, h4⟩ := h;obtain ⟨k1, k2, k3, k4⟩ := h4 _ (List.mem_cons_self ..);obtain ⟨n1, n2, n3, n4, n5, n6, n7⟩ := h3.notBx k1 k4;dsimp only at k1 k2 k3 n1 n2 n3 n4 n5 n6 n7;have kk : ∀ b', b' ≠ g2 → (((W.setCell ⟨g2, 0, none⟩ a).setCell ⟨g2, 1, none⟩ b).setCell ⟨g2, 2, none⟩ c).heap[b']? = W.heap[b']? := fun b' hb => by
  rw [Below.heap_setCell _ ⟨g2, 2, none⟩ _ b' hb, Below.heap_setCell _ ⟨g2, 1, none⟩ _ b' hb, Below.heap_setCell _ ⟨g2, 0, none⟩ _ b' hb]
 refine ⟨((h1.setCell (p := ⟨g2, 0, none⟩) hg a).setCell (p := ⟨g2, 1, none⟩) hg b).setCell (p := ⟨g2, 2, none⟩) hg c, by simpa using h2, D, la, ln, lc, h3.keep (fun b' hu => kk b' fun e => ?_) (by simp), fun x hx => ?_⟩
 ·subst e;rcases hu with hu | (hu | hu) | hu | hu | hu | hu | hu | hu
  ·exact k2 rfl hu
  ·exact n1 hu
  ·exact n2 hu
  ·exact n3 hu
  ·exact n4 hu
  ·exact n5 hu
  ·exact n6 hu
  ·exact n7 hu
  ·exact k3 hu
 ·rcases List.mem_cons.1 hx with rfl | hx
  ·exact ⟨((k1.set_ 0 a).set_ 1 b).set_ 2 c, k2, k3, k4⟩
  ·obtain ⟨q1, q2⟩ := h4 x (List.mem_cons_of_mem _ hx);have ht := hX x hx;refine ⟨(kk x.1 (fun e => ?_)).trans q1, q2⟩;have h5 := q1.tag;rw [ht, e] at h5;exact tag_ne h5 k1.tag (by decide)
theorem AGG.pop (h : AGG w W B r rows cls rv g s X) {t : List (PS × Nat)} {x : PS × Nat} (ht : s.todo = t ++ [x]) : AGG w (W.setCell ⟨g.TB, 0, none⟩ (.slice s.ta t.length s.tc)) B r rows cls rv g { s with todo := t } X := by
 obtain ⟨h1, h2, D, la, ln, lc, h3, h4⟩ := h;refine ⟨h1.setCell (p := ⟨g.TB, 0, none⟩) h3.bT _, by simpa using h2, D, la, ln, lc, h3.pop ht, fun y hy => ?_⟩;obtain ⟨k1, k2⟩ := h4 y hy;obtain ⟨n1, n2, n3, n4, n5, n6, n7⟩ := h3.notBx k1 k2.2.2;exact ⟨(Below.heap_setCell W ⟨g.TB, 0, none⟩ _ _ n6).trans k1, k2⟩
theorem AGG.meet (h : AGG w W B r rows cls rv g s X) {D : Nat → Prop} {la : Option Addr} {ln lc : Nat} (h3 : AG W B r rows cls rv g { s with D := D, la := la, ln := ln, lc := lc }) (hb : Bo B W W' g { s with D := D, la := la, ln := ln, lc := lc }) {s' : GV} (h5 : AG W' B r rows cls rv g s') (hta : ∀ b, s'.ta.map (·.block) = some b → s.ta.map (·.block) = some b ∨ W.heap.size ≤ b) {Y : List BX} (hY : ∀ x ∈ Y, x ∈ X ∧ x.2.1 = 151) : AGG w W' B r rows cls rv g s' Y := by
 obtain ⟨h1, h2, _, _, _, _, _, h4⟩ := h;refine ⟨h1.trans hb.1, Nat.le_trans h2 hb.1.size, s'.D, s'.la, s'.ln, s'.lc, h5, fun x hx => ?_⟩;obtain ⟨hx1, hx2⟩ := hY x hx;obtain ⟨k1, _, k3, k4⟩ := h4 x hx1;obtain ⟨n1, n2, n3, n4, n5, n6, n7⟩ := h3.notBx k1 k4;refine ⟨(hb.2 x.1 k1.lt n1 n2 n6 n7 k3).trans k1, fun e => absurd (hx2.symm.trans e) (by decide), fun e => ?_, k4⟩;rcases hta _ e with h6 | h6
 ·exact k3 h6
 ·have := k1.lt; omega
theorem AGG.ca (h : AGG w W B r rows cls rv g s X) (hn : 0 < cls.length) : ∃ cb co, r.ca = some ⟨cb, co, none⟩ ∧ r.cn = cls.length := by
 obtain ⟨_, _, D, la, ln, lc, h3, _⟩ := h;have hcls := h3.ro.iw.cls;have hl := hcls.len;obtain ⟨b, o, e, _, _⟩ := hcls.pos (by omega);exact ⟨b, o, e, hl.symm⟩
theorem AGG.last (h : AGG w W B r rows cls rv g s X) {t : List (PS × Nat)} {x : PS × Nat} (ht : s.todo = t ++ [x]) : ∃ gt, s.ta = some ⟨gt, 0, none⟩ ∧ t.length + 1 ≤ s.tc ∧ s.tc ≤ 9223372036854775807 ∧ W.cell? ⟨gt, t.length * 4, none⟩ = some (.int .i64 (x.1.1.1 : Int)) ∧ W.cell? ⟨gt, t.length * 4 + 1, none⟩ = some (.int .u64 (x.1.1.2 : Int)) ∧ W.cell? ⟨gt, t.length * 4 + 2, none⟩ = some (.int .i64 x.1.2) ∧ W.cell? ⟨gt, t.length * 4 + 3, none⟩ = some (.int .u64 (x.2 : Int)) ∧
  Bk W g.TB 146 #[.slice (some ⟨gt, 0, none⟩) (t.length + 1) s.tc] := by
 obtain ⟨_, _, D, la, ln, lc, h3, _⟩ := h;have hl : s.todo.length = t.length + 1 := by rw [ht]; simp
 have h1 := h3.ot;have hk := h3.kt;dsimp only at h1 hk;obtain ⟨gt, e, _, _⟩ := h1.form (by omega);have hc := h1.cap;rw [e] at h1 hk;have ha := stC_at (todo := s.todo) (i := t.length) (x := x) (by rw [ht]; simp);have y0 := h1.cell (j := t.length * 4 + 0) (flat_at (stC_four _) ha rfl);have y1 := h1.cell (j := t.length * 4 + 1) (flat_at (stC_four _) ha rfl);have y2 := h1.cell (j := t.length * 4 + 2) (flat_at (stC_four _) ha rfl);have y3 := h1.cell (j := t.length * 4 + 3) (flat_at (stC_four _) ha rfl);rw [hl] at hc hk;exact ⟨gt, e, hc.1, hc.2, y0, y1, y2, y3, hk⟩
def AGS (r : WV) (rv : RV) (g : GB) (cb co ci : Nat) (c : Int) (X : List BX) (W : World) : Prop :=
 (W.cell? ⟨g.RB, 0, none⟩ = some (.pointer (some ⟨g.P, 0, none⟩)) ∧ W.cell? ⟨g.P, 2, none⟩ = some (.slice (some ⟨cb, co, none⟩) r.cn r.cc) ∧ W.cell? ⟨cb, co + ci, none⟩ = some (.int .i64 c) ∧ W.cell? ⟨g.AB, 0, none⟩ = some (.slice rv.ca rv.cn rv.cc) ∧ W.cell? ⟨g.AB, 1, none⟩ = some (.slice rv.ta rv.tn rv.tc) ∧ W.cell? ⟨g.AB, 2, none⟩ = some (.slice rv.ea rv.en rv.ec)) ∧
 ∀ x ∈ X, ∀ (j : Nat) (v : Value), x.2.2[j]? = some v → W.cell? ⟨x.1, j, none⟩ = some v
theorem AGG.reads (h : AGG w W B r rows cls rv g s X) {cb co ci : Nat} {c : Int} (hca : r.ca = some ⟨cb, co, none⟩) (hc : cls[ci]? = some c) : AGS r rv g cb co ci c X W := by
 obtain ⟨h1, h2, D, la, ln, lc, h3, h4⟩ := h;have hcls := h3.ro.iw.cls;obtain ⟨b, o, e, hb, hcc⟩ := hcls.pos (by have := hcls.len; have := (List.getElem?_eq_some_iff.1 hc).1; omega);rw [hca] at e; injection e with e; injection e with e1 e2;subst e1; subst e2;obtain ⟨cs, rfl, h5⟩ := hcc ci c hc;have x0 := h5 0 _ rfl;rw [Nat.mul_one, Nat.add_zero] at x0;have p2 := box_cells h3.ro.hP 2 rfl;unfold WV.cells at p2;refine ⟨⟨box_cells h3.kr 0 rfl, ?_, x0, box_cells h3.ka 0 rfl, box_cells h3.ka 1 rfl, box_cells h3.ka 2 rfl⟩, fun x hx j v hv => box_cells (h4 x hx).1 j hv⟩;rw [← hca]; exact p2
end
end Go.Proofs.YtkmdakampkfioaaGreatDoor
