/- Walks: a reader's bits, next, read; Fore and Back. -/
import Derived.Test.YtkmdakampkfioaaGreatDoorTk
import Derived.Test.YtkmdakampkfioaaGreatDoorRw
import Derived.Test.YtkmdakampkfioaaGreatDoorAU8
import Derived.Laws.Bits64b
import Derived.Shelf.Spec.TrailingZeros
import Derived.Deep.RegionHeld3
import Derived.Deep.DrawnRows
import Derived.Handy
namespace Go.Proofs.YtkmdakampkfioaaGreatDoor
open Go.RowKit
def EU (cs : List Value) (x : Nat) : Prop := cs = [.int .u64 (x : Int)] ∧ x < 18446744073709551616
def RdU (w : World) (S : Nat → Prop) (A : Option Addr) (n : Nat) (xs : List Nat) : Prop := SlE 1 EU w S A n xs
theorem RdU.mono {w w' : World} {S S' : Nat → Prop} {A : Option Addr} {n : Nat} {xs : List Nat} (h : RdU w S A n xs) (hS : ∀ b, S b → S' b) (hk : Kept S w w') : RdU w' S' A n xs := SlE.mono h hS hk fun _ _ h => h
structure RV where
 ca : Option Addr
 cn : Nat
 cc : Nat
 ta : Option Addr
 tn : Nat
 tc : Nat
 ea : Option Addr
 en : Nat
 ec : Nat
abbrev RV.cells (r : RV) : Array Value := #[.slice r.ca r.cn r.cc, .slice r.ta r.tn r.tc, .slice r.ea r.en r.ec]
structure IsR (w : World) (S : Nat → Prop) (r : RV) (cls : List Int) (rows : List (List Int)) (ends : List Nat) : Prop where
 c : Rd w S r.ca r.cn cls
 t : RdV w S r.ta r.tn rows
 e : RdU w S r.ea r.en ends
 hc : Hd r.cn r.cc
 ht : Hd r.tn r.tc
 he : Hd r.en r.ec
theorem IsR.mono {w w' : World} {S S' : Nat → Prop} {r : RV} {cls : List Int} {rows : List (List Int)} {ends : List Nat} (h : IsR w S r cls rows ends) (hS : ∀ b, S b → S' b) (hk : Kept S w w') : IsR w' S' r cls rows ends := ⟨h.c.mono hS hk, h.t.mono hS hk, h.e.mono hS hk, h.hc, h.ht, h.he⟩
theorem IsR.call {w w' : World} {r : RV} {cls : List Int} {rows : List (List Int)} {ends : List Nat} (h : IsR w (lo w.heap.size) r cls rows ends) (k : Below w.heap.size w w') : IsR w' (lo w'.heap.size) r cls rows ends := h.mono (lo_mono k.size) (kept_below k)
theorem bitsA_out {ends : List Nat} {s : Int} (h : s < 0 ∨ (ends.length : Int) ≤ s) : bitsA ends s = 0 := by
 unfold bitsA;split
 ·rfl
 ·rw [List.getElem?_eq_none (by omega)]; rfl
theorem bitsA_in {ends : List Nat} {k x : Nat} (h : ends[k]? = some x) : bitsA ends (k : Int) = x := by
 unfold bitsA; rw [if_neg (by omega), Int.toNat_natCast, h]; rfl
set_option maxRecDepth 100000 in
set_option maxHeartbeats 400000 in
theorem bits_c (r : RV) (cls : List Int) (rows : List (List Int)) (ends : List Nat) (s : Int) (w : World) (h : IsR w (lo w.heap.size) r cls rows ends) :
  Calls Tryz.prog 47 #[.agg r.cells, .int .i64 s] w fun e w' => e = .returned (.int .u64 (bitsA ends s : Int)) ∧ Below w.heap.size w w' := by
 have hl := h.e.len;have h1 := h.he.1;have h2 := h.he.2;by_cases h0 : s < 0
 ·rw [bitsA_out (.inl h0)];clear hl h;have t0 : decide (s < 0) = true := by simp; omega
  go_enter Tryz.func47, Tryz.ntmps47;go_wp2;go_ret;exact ⟨rfl, (Below.refl _ _).alloc (Nat.le_refl _) _⟩
 ·have t0 : decide (s < 0) = false := by simp; omega
  by_cases hk : (r.en : Int) ≤ s
  ·rw [bitsA_out (.inr (by omega))];clear hl h;have t1 : decide ((r.en : Int) ≤ s) = true := by simp; omega
   go_enter Tryz.func47, Tryz.ntmps47;go_wp2;go_ret;exact ⟨rfl, (Below.refl _ _).alloc (Nat.le_refl _) _⟩
  ·obtain ⟨k, rfl⟩ : ∃ j : Nat, s = j := ⟨s.toNat, by omega⟩;have t1 : decide ((r.en : Int) ≤ (k : Int)) = false := by simp; omega
   have t2 : decide (r.en ≤ k) = false := by simp; omega
   obtain ⟨x, hx⟩ := at_some ends k (by omega);obtain ⟨b, o, ha, hb, hc⟩ := h.e.pos (by omega);obtain ⟨cs, ⟨rfl, _⟩, hcc⟩ := hc k x hx;have g0 := hcc 0 _ rfl;rw [Nat.mul_one, Nat.add_zero] at g0;rw [bitsA_in hx];have kz : (0 : Int) ≤ (k : Int) := by omega
   have kn : (k : Int) < (r.en : Int) := by omega
   have g1 := cell_alloc g0 (.cells r.cells 100);unfold RV.cells at g1 ⊢;rw [ha] at g1 ⊢;clear hx hc hcc hl h ha g0;go_enter Tryz.func47, Tryz.ntmps47;go_wp2;go_ret;exact ⟨rfl, (Below.refl _ _).alloc (Nat.le_refl _) _⟩
theorem stepA_s0 {cls : List Int} {rows : List (List Int)} {s g : Int} (h : s < 0) : stepA cls rows s g = -1 := by
 unfold stepA; rw [if_pos (by omega)]
theorem stepA_s1 {cls : List Int} {rows : List (List Int)} {s g : Int} (h : (rows.length : Int) ≤ s) : stepA cls rows s g = -1 := by
 unfold stepA; rw [if_pos (by omega)]
theorem stepA_g0 {cls : List Int} {rows : List (List Int)} {s g : Int} (h : g < 0) : stepA cls rows s g = -1 := by
 unfold stepA; rw [if_pos (by omega)]
theorem stepA_g1 {cls : List Int} {rows : List (List Int)} {s g : Int} (h : (cls.length : Int) ≤ g) : stepA cls rows s g = -1 := by
 unfold stepA; rw [if_pos (by omega)]
theorem getD_of {α : Type} {xs : List α} {k : Nat} {x d : α} (h : xs[k]? = some x) : xs.getD k d = x := by rw [List.getD_eq_getElem?_getD, h]; rfl
theorem stepA_in {cls : List Int} {rows : List (List Int)} {k j : Nat} {row : List Int} {c : Int} (h1 : rows[k]? = some row) (h2 : cls[j]? = some c) :
  stepA cls rows (k : Int) (j : Int) = if c < 0 ∨ (row.length : Int) ≤ c then -1 else if 0 ≤ row.getD c.toNat 0 ∧ row.getD c.toNat 0 < (rows.length : Int) then row.getD c.toNat 0 else -1 := by
 have l1 := (List.getElem?_eq_some_iff.1 h1).1;have l2 := (List.getElem?_eq_some_iff.1 h2).1;unfold stepA;rw [if_neg (by omega)];dsimp only;rw [Int.toNat_natCast, Int.toNat_natCast, getD_of h1, getD_of h2]
set_option maxRecDepth 100000 in
set_option maxHeartbeats 1000000 in
theorem next_c (r : RV) (cls : List Int) (rows : List (List Int)) (ends : List Nat) (s g : Int) (w : World) (h : IsR w (lo w.heap.size) r cls rows ends) :
  Calls Tryz.prog 48 #[.agg r.cells, .int .i64 s, .int .i64 g] w fun e w' => e = .returned (.int .i64 (stepA cls rows s g)) ∧ Below w.heap.size w w' := by
 have lc := h.c.len;have lt := h.t.len;have hc1 := h.hc.1;have hc2 := h.hc.2;have ht1 := h.ht.1;have ht2 := h.ht.2;by_cases s0 : s < 0
 ·rw [stepA_s0 s0];clear lc lt h;have t0 : decide (s < 0) = true := by simp; omega
  go_enter Tryz.func48, Tryz.ntmps48;go_wp2;go_ret;exact ⟨rfl, (Below.refl _ _).alloc (Nat.le_refl _) _⟩
 have t0 : decide (s < 0) = false := by simp; omega
 by_cases s1 : (r.tn : Int) ≤ s
 ·rw [stepA_s1 (by omega)];clear lc lt h;have t1 : decide ((r.tn : Int) ≤ s) = true := by simp; omega
  go_enter Tryz.func48, Tryz.ntmps48;go_wp2;go_ret;exact ⟨rfl, (Below.refl _ _).alloc (Nat.le_refl _) _⟩
 obtain ⟨k, rfl⟩ : ∃ j : Nat, s = j := ⟨s.toNat, by omega⟩;have t1 : decide ((r.tn : Int) ≤ (k : Int)) = false := by simp; omega
 have t1' : decide (r.tn ≤ k) = false := by simp; omega
 by_cases g0 : g < 0
 ·rw [stepA_g0 g0];clear lc lt h;have t2 : decide (g < 0) = true := by simp; omega
  go_enter Tryz.func48, Tryz.ntmps48;go_wp2;go_ret;exact ⟨rfl, (Below.refl _ _).alloc (Nat.le_refl _) _⟩
 have t2 : decide (g < 0) = false := by simp; omega
 by_cases g1 : (r.cn : Int) ≤ g
 ·rw [stepA_g1 (by omega)];clear lc lt h;have t3 : decide ((r.cn : Int) ≤ g) = true := by simp; omega
  go_enter Tryz.func48, Tryz.ntmps48;go_wp2;go_ret;exact ⟨rfl, (Below.refl _ _).alloc (Nat.le_refl _) _⟩
 obtain ⟨j, rfl⟩ : ∃ j : Nat, g = j := ⟨g.toNat, by omega⟩;have t3 : decide ((r.cn : Int) ≤ (j : Int)) = false := by simp; omega
 have t3' : decide (r.cn ≤ j) = false := by simp; omega
 have hb : Below w.heap.size w (w.alloc (.cells r.cells 100)) := (Below.refl _ _).alloc (Nat.le_refl _) _;have h' := h.call hb;obtain ⟨row, hrow⟩ := at_some rows k (by omega);obtain ⟨c, hcl⟩ := at_some cls j (by omega);obtain ⟨b1, o1, ha1, _, hcc1⟩ := h'.t.pos (by omega);obtain ⟨cs1, ⟨A, n, cp, rfl, hA, hd⟩, e1⟩ := hcc1 k row hrow;have x1 := e1 0 _ rfl;rw [Nat.mul_one, Nat.add_zero] at x1;obtain ⟨b2, o2, ha2, _, hcc2⟩ := h'.c.pos (by omega);obtain ⟨cs2, rfl, e2⟩ := hcc2 j c hcl;have x2 := e2 0 _ rfl;rw [Nat.mul_one, Nat.add_zero] at x2;rw [stepA_in hrow hcl, lt];have ln := hA.len;have hd1 := hd.1;have hd2 := hd.2;unfold RV.cells at x1 x2 hA hb ⊢;rw [ha1, ha2] at x1 x2 hA hb ⊢;clear hcc1 hcc2 e1 e2 hrow hcl h h' ha1 ha2 lc lt;have kz : (0 : Int) ≤ (k : Int) := by omega
 have kn : (k : Int) < (r.tn : Int) := by omega
 have jz : (0 : Int) ≤ (j : Int) := by omega
 have jn : (j : Int) < (r.cn : Int) := by omega
 by_cases c0 : c < 0
 ·rw [if_pos (by omega)];clear hA ln;have t4 : decide (c < 0) = true := by simp; omega
  go_enter Tryz.func48, Tryz.ntmps48;go_wp2;go_quiet (fail);go_wp2;go_ret;exact ⟨rfl, below_drewN hb _⟩
 have t4 : decide (c < 0) = false := by simp; omega
 by_cases c1 : (n : Int) ≤ c
 ·rw [if_pos (by omega)];clear hA ln;have t5 : decide ((n : Int) ≤ c) = true := by simp; omega
  go_enter Tryz.func48, Tryz.ntmps48;go_wp2;go_quiet (fail);go_wp2;go_ret;exact ⟨rfl, below_drewN hb _⟩
 obtain ⟨q, rfl⟩ : ∃ q : Nat, c = q := ⟨c.toNat, by omega⟩;have t5 : decide ((n : Int) ≤ (q : Int)) = false := by simp; omega
 have t5' : decide (n ≤ q) = false := by simp; omega
 obtain ⟨x, hx⟩ := at_some row q (by omega);obtain ⟨b3, o3, rfl, _, hcc3⟩ := hA.pos (by omega);obtain ⟨cs3, rfl, e3⟩ := hcc3 q x hx;have x3 := e3 0 _ rfl;rw [Nat.mul_one, Nat.add_zero] at x3;rw [if_neg (by omega), Int.toNat_natCast, getD_of hx];clear hcc3 e3 hx hA ln;have qz : (0 : Int) ≤ (q : Int) := by omega
 have qn : (q : Int) < (n : Int) := by omega
 by_cases y0 : 0 ≤ x
 ·by_cases y1 : x < (r.tn : Int)
  ·rw [if_pos ⟨y0, y1⟩];go_enter Tryz.func48, Tryz.ntmps48;go_wp2;go_quiet (fail);go_wp2;go_ret;exact ⟨rfl, below_drewN hb _⟩
  ·rw [if_neg (by omega)];have t6 : decide (x < (r.tn : Int)) = false := by simp; omega
   go_enter Tryz.func48, Tryz.ntmps48;go_wp2;go_quiet (fail);go_wp2;go_ret;exact ⟨rfl, below_drewN hb _⟩
 ·rw [if_neg (by omega)];have t6 : decide (0 ≤ x) = false := by simp; omega
  go_enter Tryz.func48, Tryz.ntmps48;go_wp2;go_quiet (fail);go_wp2;go_ret;exact ⟨rfl, below_drewN hb _⟩
theorem RdU.lt {w : World} {S : Nat → Prop} {A : Option Addr} {n : Nat} {xs : List Nat} (h : RdU w S A n xs) {i x : Nat} (hx : xs[i]? = some x) : x < 18446744073709551616 := by
 obtain ⟨b, o, _, _, hc⟩ := h.pos (by have := h.len; have := (List.getElem?_eq_some_iff.1 hx).1; omega);obtain ⟨cs, ⟨_, h2⟩, _⟩ := hc i x hx;exact h2
theorem bitsA_lt {ends : List Nat} (h : ∀ (i x : Nat), ends[i]? = some x → x < 18446744073709551616) (s : Int) : bitsA ends s < 18446744073709551616 := by
 unfold bitsA;split
 ·omega
 ·cases hx : ends[s.toNat]? with
  | none => simp
  | some x => exact h _ _ hx
theorem or_lt64 {a b : Nat} (ha : a < 18446744073709551616) (hb : b < 18446744073709551616) : a ||| b < 18446744073709551616 := Nat.or_lt_two_pow (n := 64) ha hb
theorem box_cells {w : World} {cs : Array Value} {t : TypeId} {g : Nat} (h : Bk w g t cs) (i : Nat) {v : Value} (hv : cs[i]? = some v) : w.cell? ⟨g, i, none⟩ = some v := (h.cell i).trans hv
set_option maxRecDepth 100000 in
set_option maxHeartbeats 1000000 in
theorem read_c (r : RV) (cls : List Int) (rows : List (List Int)) (ends : List Nat) (A : Option Addr) (n c : Nat) (gs : List Int) (w : World) (h : IsR w (lo w.heap.size) r cls rows ends) (hg : Rd w (lo w.heap.size) A n gs) (hn : n ≤ 9223372036854775807) :
  Calls Tryz.prog 49 #[.agg r.cells, .slice A n c] w fun e w' => e = .returned (.int .u64 (readA cls rows ends 0 (bitsA ends 0) gs : Int)) ∧ Below w.heap.size w w' := by
 have HL := Lib.hid hg.len;have HLT := Lib.hid (bitsA_lt (fun i x hx => h.e.lt hx));obtain ⟨ob, hob⟩ : ∃ ob : Obj, ob = .cells r.cells 100 := ⟨_, rfl⟩;have hb0 : Below w.heap.size w (w.alloc ob) := (Below.refl _ _).alloc (Nat.le_refl _) _;have hk0 : Bk (w.alloc ob) w.heap.size 100 r.cells := by rw [hob]; exact Bk.new w 100 r.cells
 have HR := Lib.hid fun (W : World) (bW : Below w.heap.size w W) => And.intro (h.call bW) (hg.call bW);obtain ⟨res, hres⟩ : ∃ res, readA cls rows ends 0 (bitsA ends 0) gs = res := ⟨_, rfl⟩;rw [hres];have HRES := Lib.hid hres;clear hres;have HB0 := Lib.hid (bits_c r cls rows ends 0 (w.alloc ob) (h.call hb0));have c0 : (w.alloc ob).cell? ⟨w.heap.size, 0, none⟩ = some (.slice r.ca r.cn r.cc) := hk0.cell 0;have c1 : (w.alloc ob).cell? ⟨w.heap.size, 1, none⟩ = some (.slice r.ta r.tn r.tc) := hk0.cell 1;have c2 : (w.alloc ob).cell? ⟨w.heap.size, 2, none⟩ = some (.slice r.ea r.en r.ec) := hk0.cell 2;clear h hg;unfold RV.cells at *;subst hob;go_enter Tryz.func49, Tryz.ntmps49;go_wp2_with fail;refine HB0.out.mono ?_;rintro e w1 ⟨rfl, hb1⟩;have HLE := Lib.hid hb1.size;have hb1' := below_call hb0 hb1;have hk1 := hk0.below hb1 hk0.lt;clear hb1 hk0 c0 c1 c2 HB0 hb0;go_wp2;go_loopw [5, 6, 14] (fun sv tv iv wr => ∃ (k acc : Nat) (s : Int), k ≤ n ∧ iv = .int .i64 k ∧ sv = .int .i64 s ∧ tv = .int .u64 (acc : Int) ∧ acc < 18446744073709551616 ∧ readA cls rows ends s acc (gs.drop k) = res ∧ Bk wr w.heap.size 100 #[.slice r.ca r.cn r.cc, .slice r.ta r.tn r.tc, .slice r.ea r.en r.ec] ∧ Below w.heap.size w wr) (fun _ _ iv _ => n - (intOf iv).toNat)
 case atStart => exact ⟨0, bitsA ends 0, 0, by omega, rfl, rfl, rfl, HLT.out 0, HRES.out, hk1, hb1'⟩
 case round =>
  obtain ⟨k, acc, s, hk, rfl, rfl, rfl, hacc, hrk, hkr, hbr⟩ := hrel;have HK := Lib.hid hrk; clear hrk;have c0 : wr.cell? ⟨w.heap.size, 0, none⟩ = some (.slice r.ca r.cn r.cc) := hkr.cell 0;have c1 : wr.cell? ⟨w.heap.size, 1, none⟩ = some (.slice r.ta r.tn r.tc) := hkr.cell 1;have c2 : wr.cell? ⟨w.heap.size, 2, none⟩ = some (.slice r.ea r.en r.ec) := hkr.cell 2;by_cases hlt : k < n
  ·obtain ⟨hR, hG⟩ := HR.out wr hbr;obtain ⟨g, hgk⟩ := at_some gs k (by have := HL.out; omega);obtain ⟨b, o, rfl, _, hc⟩ := hG.pos (by omega);obtain ⟨cs, rfl, hcc⟩ := hc k g hgk;have x0 := hcc 0 _ rfl;rw [Nat.mul_one, Nat.add_zero] at x0;have hd : gs.drop k = g :: gs.drop (k + 1) := by
    obtain ⟨h1, h2⟩ := List.getElem?_eq_some_iff.1 hgk;rw [← h2]; exact List.drop_eq_getElem_cons h1
   have HN := Lib.hid (next_c r cls rows ends s g wr hR);have HST : Hid (readA cls rows ends s acc (gs.drop k) = if stepA cls rows s g < 0 then acc else readA cls rows ends (stepA cls rows s g) (acc ||| bitsA ends (stepA cls rows s g)) (gs.drop (k + 1))) := Lib.hid (by rw [hd, readA]);have HNG := Lib.hid fun (h : stepA cls rows s g < 0) => stepA_neg h;clear hc hcc hgk hd hG;have kz : (0 : Int) ≤ (k : Int) := by omega
   have kn : (k : Int) < (n : Int) := by omega
   generalize stepA cls rows s g = s' at *;go_wp2_with fail;refine HN.out.mono ?_;rintro e w2 ⟨rfl, hb2⟩;have hkr2 := hkr.below hb2 hkr.lt;have d0 : w2.cell? ⟨w.heap.size, 0, none⟩ = some (.slice r.ca r.cn r.cc) := hkr2.cell 0;have d1 : w2.cell? ⟨w.heap.size, 1, none⟩ = some (.slice r.ta r.tn r.tc) := hkr2.cell 1;have d2 : w2.cell? ⟨w.heap.size, 2, none⟩ = some (.slice r.ea r.en r.ec) := hkr2.cell 2;have hbr2 := below_call hbr hb2;have HB2 := Lib.hid (bits_c r cls rows ends s' w2 (hR.call hb2));clear HN hb2 c0 c1 c2 hkr hR x0;by_cases hs : s' = -1
   ·subst hs;go_wp2;go_ret;have h1 := HST.out;rw [HK.out, if_pos (by omega)] at h1;subst h1;exact ⟨rfl, hbr2⟩
   ·have hsb : (s' == -1) = false := by simpa using hs
    have hnn : ¬ s' < 0 := fun h => hs (HNG.out h);clear hs;go_wp2_with fail;refine HB2.out.mono ?_;rintro e w3 ⟨rfl, hb3⟩;have hkr3 := hkr2.below hb3 hkr2.lt;have hbr3 := below_call hbr2 hb3;have hor := bits_or_u64_nat acc (bitsA ends s') hacc (HLT.out s');clear HB2 hb3 d0 d1 d2 hkr2;go_wp2;go_roundw
    case rel => exact ⟨k + 1, _, s', by omega, by go_num, rfl, rfl, or_lt64 hacc (HLT.out s'), by have h1 := HST.out; rw [HK.out, if_neg (by omega)] at h1; exact h1.symm, hkr3, hbr3⟩
    case measure => simp [intOf]; omega
  ·go_wp2;go_ret;have h1 := HK.out;rw [List.drop_eq_nil_of_le (by have := HL.out; omega), readA] at h1;subst h1;exact ⟨rfl, hbr⟩
open Go.RowKit Go.Shelf
structure AV where
 ca : Option Addr
 cn : Nat
 cc : Nat
 fa : Option Addr
 fn : Nat
 fc : Nat
 ba : Option Addr
 bn : Nat
 bc : Nat
 ea : Option Addr
 en : Nat
 ec : Nat
 ga : Option Addr
 gn : Nat
 gc : Nat
abbrev AV.cells (v : AV) : Array Value := #[.slice v.ca v.cn v.cc, .slice v.fa v.fn v.fc, .slice v.ba v.bn v.bc, .slice v.ea v.en v.ec, .slice v.ga v.gn v.gc]
def AV.rf (v : AV) : RV := ⟨v.ca, v.cn, v.cc, v.fa, v.fn, v.fc, v.ea, v.en, v.ec⟩
def AV.rb (v : AV) : RV := ⟨v.ca, v.cn, v.cc, v.ba, v.bn, v.bc, v.ga, v.gn, v.gc⟩
def IsA (w : World) (S : Nat → Prop) (v : AV) (a : Au) : Prop := IsR w S v.rf a.cls a.fore a.fe ∧ IsR w S v.rb a.cls a.back a.be
theorem IsA.mono {w w' : World} {S S' : Nat → Prop} {v : AV} {a : Au} (h : IsA w S v a) (hS : ∀ b, S b → S' b) (hk : Kept S w w') : IsA w' S' v a := ⟨h.1.mono hS hk, h.2.mono hS hk⟩
theorem IsA.call {w w' : World} {v : AV} {a : Au} (h : IsA w (lo w.heap.size) v a) (k : Below w.heap.size w w') : IsA w' (lo w'.heap.size) v a := h.mono (lo_mono k.size) (kept_below k)
set_option maxRecDepth 100000 in
set_option maxHeartbeats 400000 in
theorem Fore_c (v : AV) (a : Au) (A : Option Addr) (n c : Nat) (gs : List Int) (w : World) (h : IsA w (lo w.heap.size) v a) (hg : Rd w (lo w.heap.size) A n gs) (hn : n ≤ 9223372036854775807) :
  Calls Tryz.prog 27 #[.agg v.cells, .slice A n c] w fun e w' => e = .returned (.int .u64 (foreA a gs : Int)) ∧ Below w.heap.size w w' := by
 have hb : Below w.heap.size w (w.alloc (.cells v.cells 44)) := (Below.refl _ _).alloc (Nat.le_refl _) _;have HC := Lib.hid (read_c v.rf a.cls a.fore a.fe A n c gs _ (h.call hb).1 (hg.call hb) hn);clear h hg;unfold AV.cells at *;unfold RV.cells AV.rf at HC;dsimp only at HC;unfold foreA;go_enter Tryz.func27, Tryz.ntmps27;go_wp2_with fail;refine HC.out.mono ?_;rintro e w1 ⟨rfl, hb1⟩;have hb2 := below_call hb hb1;clear hb1 HC;go_wp2;go_ret;exact ⟨rfl, hb2⟩
set_option maxRecDepth 100000 in
set_option maxHeartbeats 400000 in
theorem Back_c (v : AV) (a : Au) (A : Option Addr) (n c : Nat) (gs : List Int) (w : World) (h : IsA w (lo w.heap.size) v a) (hg : Rd w (lo w.heap.size) A n gs) (hn : n ≤ 9223372036854775807) :
  Calls Tryz.prog 26 #[.agg v.cells, .slice A n c] w fun e w' => e = .returned (.int .u64 (backA a gs : Int)) ∧ Below w.heap.size w w' := by
 have hb : Below w.heap.size w (w.alloc (.cells v.cells 44)) := (Below.refl _ _).alloc (Nat.le_refl _) _;have HC := Lib.hid (read_c v.rb a.cls a.back a.be A n c gs _ (h.call hb).2 (hg.call hb) hn);clear h hg;unfold AV.cells at *;unfold RV.cells AV.rb at HC;dsimp only at HC;unfold backA;go_enter Tryz.func26, Tryz.ntmps26;go_wp2_with fail;refine HC.out.mono ?_;rintro e w1 ⟨rfl, hb1⟩;have hb2 := below_call hb hb1;clear hb1 HC;go_wp2;go_ret;exact ⟨rfl, hb2⟩
set_option maxHeartbeats 1000000 in
theorem tz_core (x k idx : Nat) (w : World) (hx0 : ((x : Int) == 0) = false)
  (_key : bits BinOp.and IntKind.u64 (x : Int) (IntKind.u64.wrap (-(x : Int))) * 285870213051353865 % 18446744073709551616 / 288230376151711744 = (idx : Int))
  (key2 : IntKind.u64.wrap (bits BinOp.and IntKind.u64 (x : Int) (IntKind.u64.wrap (-(x : Int))) * 285870213051353865) / 288230376151711744 = (idx : Int))
  (hi : idx < 64) (hk : k < 64) (hcell : w.cell? ⟨0, idx, none⟩ = some (.int .u8 k)) :
  Calls Tryz.prog 28 #[.int .u64 x] w fun e w' => e = .returned (.int .i64 k) ∧ w = w' := by
 go_enter Tryz.func28, Tryz.ntmps28;go_wp2_with (simp only [key2]);go_ret;exact ⟨rfl, rfl⟩
abbrev Tab (w : World) : Prop := TabAt 0 Lib.deBruijn64tab w
theorem Tab.pos {w : World} (h : Tab w) : 0 < w.heap.size := cell_lt (h 0 (by decide))
theorem Tab.call {w w' : World} (h : Tab w) {B : Nat} (k : Below B w w') (hB : 0 < B) : Tab w' := fun j hj => (k.cell (p := ⟨0, j, none⟩) hB).trans (h j hj)
theorem ctz_c (x : Nat) (w : World) (hx : x < 18446744073709551616) (hx0 : x ≠ 0) (hT : Tab w) :
  Calls Tryz.prog 28 #[.int .u64 x] w fun e w' => e = .returned (.int .i64 (Lib.ctz 64 x : Nat)) ∧ w = w' := by
 obtain ⟨hlow, hk⟩ := Lib.lowest_bit 64 x hx0 hx;obtain ⟨hi, htab⟩ := Lib.deBruijn64_at _ hk;have hcell := hT _ hi;rw [htab] at hcell;have key := tz64_key x _ hx hx0 hlow;exact tz_core x _ _ w (by simp; omega) (by rw [IntKind.wrap_u64 (_ * _)] at key; exact key) key hi hk hcell
theorem leastA_ctz {x : Nat} (hx : x < 2 ^ 64) (hx0 : x ≠ 0) : leastA x = some (Lib.ctz 64 x) := by
 obtain ⟨m, hm, hk⟩ := Lib.ctzFrom_spec 64 x (by omega) hx;have e : Lib.ctz 64 x = Lib.ctzFrom 64 x := by unfold Lib.ctz; rw [if_neg hx0]
 rw [e];generalize Lib.ctzFrom 64 x = c at *;have hb : ∀ j, j ≤ c → x.testBit j = decide (j = c) := fun j hj => by
  rw [hm, Nat.testBit_two_pow_mul];by_cases h : j = c
  ·subst h; simp
  ·simp [show ¬ c ≤ j by omega, h]
 cases hl : leastA x with
 | none => exact absurd (leastA_none hl hx) hx0
 | some i =>
  obtain ⟨h1, h2, h3⟩ := leastA_some hl;congr 1;rcases Nat.lt_trichotomy i c with h | h | h
  ·rw [hb i (by omega)] at h2; simp at h2; omega
  ·exact h
  ·have := h3 c h; rw [hb c (Nat.le_refl _)] at this; simp at this
def firstZ (n : Nat) : Int := match leastA n with | some i => (i : Int) | none => -1
theorem firstZ_0 : firstZ 0 = -1 := by decide
theorem firstZ_ctz {x : Nat} (hx : x < 2 ^ 64) (hx0 : x ≠ 0) : firstZ x = (Lib.ctz 64 x : Nat) := by unfold firstZ; rw [leastA_ctz hx hx0]
theorem readA_lt {cls : List Int} {rows : List (List Int)} {ends : List Nat} (h : ∀ s, bitsA ends s < 18446744073709551616) : ∀ (l : List Int) (s : Int) (acc : Nat), acc < 18446744073709551616 → readA cls rows ends s acc l < 18446744073709551616
 | [], _, _, ha => ha
 | g :: l, s, acc, ha => by
  rw [readA]; split
  ·exact ha
  ·exact readA_lt h l _ _ (or_lt64 ha (h _))
theorem IsR.bits_lt {w : World} {S : Nat → Prop} {r : RV} {cls : List Int} {rows : List (List Int)} {ends : List Nat} (h : IsR w S r cls rows ends) : ∀ s, bitsA ends s < 18446744073709551616 := bitsA_lt fun _ _ hx => h.e.lt hx
theorem IsA.fore_lt {w : World} {S : Nat → Prop} {v : AV} {a : Au} (h : IsA w S v a) (l : List Int) : foreA a l < 18446744073709551616 := readA_lt h.1.bits_lt _ _ _ (h.1.bits_lt 0)
theorem IsA.back_lt {w : World} {S : Nat → Prop} {v : AV} {a : Au} (h : IsA w S v a) (l : List Int) : backA a l < 18446744073709551616 := readA_lt h.2.bits_lt _ _ _ (h.2.bits_lt 0)
set_option maxRecDepth 100000 in
set_option maxHeartbeats 1000000 in
theorem First_c (v : AV) (a : Au) (A B : Option Addr) (n c m d : Nat) (bs fs : List Int) (w : World) (h : IsA w (lo w.heap.size) v a) (hb : Rd w (lo w.heap.size) A n bs) (hf : Rd w (lo w.heap.size) B m fs) (hn : n ≤ 9223372036854775807) (hm : m ≤ 9223372036854775807) (hT : Tab w) :
  Calls Tryz.prog 11 #[.agg v.cells, .slice A n c, .slice B m d] w fun e w' => e = .returned (.int .i64 (firstZ (backA a bs &&& foreA a fs))) ∧ Below w.heap.size w w' := by
 have hb0 : Below w.heap.size w (w.alloc (.cells v.cells 44)) := (Below.refl _ _).alloc (Nat.le_refl _) _;have hk := Bk.new w 44 v.cells;have HA := Lib.hid fun (W : World) (bW : Below w.heap.size w W) => Fore_c v a B m d fs W (h.call bW) (hf.call bW) hm;have HB := Lib.hid fun (W : World) (bW : Below w.heap.size w W) => Back_c v a A n c bs W (h.call bW) (hb.call bW) hn;have l1 := h.back_lt bs;have l2 := h.fore_lt fs;have HT := Lib.hid fun (W : World) (bW : Below w.heap.size w W) => hT.call bW hT.pos;clear h hb hf hT;unfold AV.cells at *;generalize backA a bs = x at *;generalize foreA a fs = y at *;have ha := bits_and_u64_nat x y l1 l2;have hl : x &&& y < 18446744073709551616 := Nat.lt_of_le_of_lt Nat.and_le_left l1;obtain ⟨z, hzz⟩ : ∃ z, x &&& y = z := ⟨_, rfl⟩;rw [hzz] at ha hl ⊢;have HA1 := Lib.hid ha;clear ha hzz;go_enter Tryz.func11, Tryz.ntmps11;go_wp2;generalize hw1 : w.alloc (.cells #[.slice v.ca v.cn v.cc, .slice v.fa v.fn v.fc, .slice v.ba v.bn v.bc, .slice v.ea v.en v.ec, .slice v.ga v.gn v.gc] 44) = w1 at *;clear hw1;have hb0z : w.heap.size ≤ w1.heap.size := hb0.size;have HS := Lib.hid fun (W : World) (bW : Below w1.heap.size w1 W) => (show W.cell? ⟨w.heap.size, 0, none⟩ = some (.slice v.ca v.cn v.cc) ∧ W.cell? ⟨w.heap.size, 1, none⟩ = some (.slice v.fa v.fn v.fc) ∧ W.cell? ⟨w.heap.size, 2, none⟩ = some (.slice v.ba v.bn v.bc) ∧ W.cell? ⟨w.heap.size, 3, none⟩ = some (.slice v.ea v.en v.ec) ∧ W.cell? ⟨w.heap.size, 4, none⟩ = some (.slice v.ga v.gn v.gc) from ⟨((hk.below bW hk.lt).cell 0), ((hk.below bW hk.lt).cell 1), ((hk.below bW hk.lt).cell 2), ((hk.below bW hk.lt).cell 3), ((hk.below bW hk.lt).cell 4)⟩);have bb := Below.refl w1.heap.size w1;refine wp_region_held_drew (S := fun w' => w'.cell? ⟨w.heap.size, 0, none⟩ = some (.slice v.ca v.cn v.cc) ∧ w'.cell? ⟨w.heap.size, 1, none⟩ = some (.slice v.fa v.fn v.fc) ∧ w'.cell? ⟨w.heap.size, 2, none⟩ = some (.slice v.ba v.bn v.bc) ∧ w'.cell? ⟨w.heap.size, 3, none⟩ = some (.slice v.ea v.en v.ec) ∧ w'.cell? ⟨w.heap.size, 4, none⟩ = some (.slice v.ga v.gn v.gc)) (by kernel_rfl) ?_ (fun hH => ?_)
 ·exact HS.out _ (below_drewN bb 1)
 replace bb := below_drewN bb 1;change Below _ _ w1.drew at bb;generalize hw0 : w1.drew = W0 at hH bb ⊢;clear hw0;refine tkC 0 ?_;refine tkC 1 ?_;refine tkC 3 ?_;refine tkC 4 ?_;refine ry 2 fun K hK => ?_;go_simp;clear hH;go_at_call 26;(with_reducible refine (HB.out W0 (hb0.trans (bb.mono hb0z))).mono ?_);rintro e W1 ⟨rfl, bn⟩;go_wp2_with fail;refine hK.out _ _ (HS.out _ (bb.trans (bn.mono bb.size))) fun hH => ?_;clear hK K;replace bb := bb.trans (bn.mono bb.size);clear bn;refine ry 5 fun K hK => ?_;go_simp;clear hH;go_at_call 27;(with_reducible refine (HA.out W1 (hb0.trans (bb.mono hb0z))).mono ?_);rintro e W2 ⟨rfl, bn⟩;go_wp2_with fail;refine hK.out _ _ (HS.out _ (bb.trans (bn.mono bb.size))) fun hH => ?_;clear hK K;replace bb := bb.trans (bn.mono bb.size);clear bn;refine tkC 6 ?_;refine tkC 7 ?_;refine dn ?_;clear hH;have bW := hb0.trans (bb.mono hb0z);have HT2 := Lib.hid (HT.out _ bW);clear HT HA HB HS bb hb0;try rw [HA1.out]
 by_cases hz : z = 0
 ·subst hz;clear HA1;go_wp2;go_ret;exact ⟨ret_int firstZ_0.symm, bW⟩
 ·have e0 : ((z : Int) == 0) = false := by simp; omega
  have e1 : (z == 0) = false := by simpa using hz
  have HC := Lib.hid (ctz_c z W2 hl hz HT2.out);clear HA1;go_wp2_with (go_at_call 28; refine HC.out.mono ?_; rintro e w' ⟨rfl, rfl⟩);go_ret;exact ⟨ret_int (firstZ_ctz hl hz).symm, bW⟩
end Go.Proofs.YtkmdakampkfioaaGreatDoor
