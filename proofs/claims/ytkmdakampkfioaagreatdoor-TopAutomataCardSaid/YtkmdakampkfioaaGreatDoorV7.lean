/- Words on the rows of all rules in memory; walks: makeLevel. -/
import Derived.Test.YtkmdakampkfioaaGreatDoorV5
import Derived.RegionTactic
import Derived.ChangeAlike
import Derived.BigRegion
import Derived.OwnWalk
import Derived.Deep.RegionLaw
namespace Go.Proofs.YtkmdakampkfioaaGreatDoor
open Go.RowKit Go.Shelf
theorem mkG {t e k by' : Nat} {z : Value} (hT : ElT t e k by' z) {ops : Array Oper} {rest : List Oper} {o : Oper} {a : Act} {Q : Exit → Act → World → Prop} (hg : o.guard = none) (l c : Operand) (hop : o.op = Op.makeSlice t l c)
  (w : World) (base n : Nat) (L C : Int) (hl : a.eval l = .int .i64 L) (hc : a.eval c = .int .i64 C) (hL : L = (n : Int)) (hC : C = (n : Int)) (hn : by' * n ≤ 140737488355328) (hb : base ≤ w.heap.size)
  (hK : ∀ w', Ow e k w' base (some ⟨w.heap.size, 0, none⟩) n n (madeCells z.cells (n * k)).toList → Below w.heap.size w w' → w.heap.size < w'.heap.size → wpList Tryz.prog ops Q rest (a.put o.dst (.slice (some ⟨w.heap.size, 0, none⟩) n n)) w') :
  wpList Tryz.prog ops Q (o :: rest) a w := by
 obtain ⟨i0, hi, hz0, hz1, hz2⟩ := info_parts hT.hi;have h63 : n ≤ maxLen := by
  have := Nat.le_mul_of_pos_left n hT.hb;unfold maxLen; omega
 refine wpList_make_full w hg l c t hop base e i0 z k hT.ht hi hz0 hz1 .i64 .i64 L C n hl hc hL hC (by rw [hz2]; omega) h63 hb ?_;intro w' ho hgr;have ho2 : Ow e k w' base (some ⟨w.heap.size, 0, none⟩) n n (madeCells z.cells (n * k)).toList := ho;exact hK w' ho2 ((Below.refl _ _).grown hgr (Nat.le_refl _) (fun k hk => by cases hk)) (ho2.lt _ _ _ rfl).2
def EX (w : World) (S : Nat → Prop) (cs : List Value) (x : List (List Int)) : Prop := ∃ A n c, cs = [.slice A n c] ∧ RdV w S A n x ∧ Hd n c
def RdX (w : World) (S : Nat → Prop) (A : Option Addr) (n : Nat) (xs : List (List (List Int))) : Prop := SlE 1 (EX w S) w S A n xs
theorem RdX.mono {w w' : World} {S S' : Nat → Prop} {A : Option Addr} {n : Nat} {xs : List (List (List Int))} (h : RdX w S A n xs) (hS : ∀ b, S b → S' b) (hk : Kept S w w') : RdX w' S' A n xs :=
 SlE.mono h hS hk fun _ _ ⟨a, m, c, e, h1, h2⟩ => ⟨a, m, c, e, h1.mono hS hk, h2⟩
def uc (xs : List Nat) : List Value := xs.map fun (x : Nat) => .int .u64 (x : Int)
theorem uc_len (xs : List Nat) : (uc xs).length = xs.length := by simp [uc]
theorem uc_app (xs ys : List Nat) : uc (xs ++ ys) = uc xs ++ uc ys := by simp [uc]
theorem uc_set (xs : List Nat) (i x : Nat) : (uc xs).set i (.int .u64 (x : Int)) = uc (xs.set i x) := by simp [uc, List.map_set]
theorem Ow.rdU {w : World} {base n c : Nat} {A : Option Addr} {xs : List Nat} (h : Ow 102 1 w base A n c (uc xs)) (hlt : ∀ x ∈ xs, x < 18446744073709551616) (S : Nat → Prop) (hS : ∀ b, A = some ⟨b, 0, none⟩ → S b) : RdU w S A n xs := by
 have hl := h.len;rw [uc_len] at hl;refine ⟨by omega, fun hn => ?_⟩;obtain ⟨g, rfl, hb, _⟩ := h.form hn;refine ⟨g, 0, rfl, hS g rfl, fun i x hx => ⟨[.int .u64 x], ⟨rfl, hlt x (List.mem_of_getElem? hx)⟩, fun j v hv => ?_⟩⟩
 match j, hv with
 | 0, hv =>
  simp at hv; subst hv;have := h.cell (j := i) (x := .int .u64 x) (by simp [uc, hx]);simpa using this
def nxB (rows : List (List (List Int))) (cls : List Int) (met : Nat) (c : Nat) (n : Nat) : Bool := decide (met < (rows.getD n []).length) && ((rows.getD n []).getD met []).any fun g => isCls cls g (c : Int)
def nxK (rows : List (List (List Int))) (cls : List Int) (met K n : Nat) : List Nat := (List.range K).map fun (c : Nat) => bitsOf (nxB rows cls met c) n
def nxJ (rows : List (List (List Int))) (cls : List Int) (met K n j : Nat) : List Nat := (List.range K).map fun (c : Nat) => bitsOf (nxB rows cls met c) n ||| if (((rows.getD n []).getD met []).take j).any (fun g => isCls cls g (c : Int)) then 2 ^ n else 0
def enK (rows : List (List (List Int))) (met n : Nat) : Nat := bitsOf (fun n => (rows.getD n []).length == met) n
theorem nxK_all (rows : List (List (List Int))) (cls : List Int) (met K : Nat) : nxK rows cls met K rows.length = (List.range K).map fun (c : Nat) => nextM rows cls met (c : Int) := rfl
theorem nxK_zero (rows : List (List (List Int))) (cls : List Int) (met K : Nat) : nxK rows cls met K 0 = List.replicate K 0 := by
 unfold nxK;apply List.ext_getElem?;intro i;by_cases h : i < K <;> simp [h, bitsOf]
theorem nxJ_zero (rows : List (List (List Int))) (cls : List Int) (met K n : Nat) : nxJ rows cls met K n 0 = nxK rows cls met K n := by
 unfold nxJ nxK; simp
theorem nxK_skip {rows : List (List (List Int))} {met n : Nat} (cls : List Int) (K : Nat) (h : (rows.getD n []).length ≤ met) : nxK rows cls met K (n + 1) = nxK rows cls met K n := by
 unfold nxK;apply List.map_congr_left;intro c _;rw [bitsOf, if_neg];unfold nxB;rw [decide_eq_false (by omega), Bool.false_and];exact Bool.false_ne_true
theorem nxJ_all {rows : List (List (List Int))} {met n : Nat} (cls : List Int) (K : Nat) (h : met < (rows.getD n []).length) {j : Nat} (hj : ((rows.getD n []).getD met []).length ≤ j) : nxJ rows cls met K n j = nxK rows cls met K (n + 1) := by
 unfold nxK nxJ;apply List.map_congr_left;intro c _;rw [bitsOf, List.take_of_length_le hj];unfold nxB;rw [decide_eq_true h, Bool.true_and];split <;> simp
theorem take_any {α : Type} {xs : List α} {j : Nat} {x : α} (h : xs[j]? = some x) (p : α → Bool) : (xs.take (j + 1)).any p = ((xs.take j).any p || p x) := by
 rw [List.take_add_one, h]; simp
theorem isCls_out {cls : List Int} {g : Int} (h : g < 0 ∨ (cls.length : Int) ≤ g) (c : Int) : isCls cls g c = false := by
 unfold isCls;rcases h with h | h
 ·simp [show ¬ 0 ≤ g by omega]
 ·simp [show ¬ g < (cls.length : Int) by omega]
theorem isCls_in {cls : List Int} {k : Nat} {c : Int} (h : cls[k]? = some c) (d : Int) : isCls cls (k : Int) d = (c == d) := by
 have hl := (List.getElem?_eq_some_iff.1 h).1;unfold isCls;rw [Int.toNat_natCast, List.getD_eq_getElem?_getD, h]; simp [hl]
theorem nxJ_out {rows : List (List (List Int))} {cls : List Int} {met n j : Nat} {g : Int} (K : Nat) (hj : ((rows.getD n []).getD met [])[j]? = some g) (h : g < 0 ∨ (cls.length : Int) ≤ g) : nxJ rows cls met K n (j + 1) = nxJ rows cls met K n j := by
 unfold nxJ;apply List.map_congr_left;intro c _;rw [take_any hj, isCls_out h, Bool.or_false]
theorem nxJ_in {rows : List (List (List Int))} {cls : List Int} {met n j k c K : Nat} (hj : ((rows.getD n []).getD met [])[j]? = some (k : Int)) (hk : cls[k]? = some (c : Int)) (hc : c < K) :
  nxJ rows cls met K n (j + 1) = (nxJ rows cls met K n j).set c ((nxJ rows cls met K n j).getD c 0 ||| 2 ^ n) := by
 apply List.ext_getElem?;intro i;rw [List.getElem?_set];unfold nxJ;generalize (rows.getD n []).getD met [] = s at hj ⊢;simp only [List.length_map, List.length_range, List.getElem?_map, List.getD_eq_getElem?_getD];by_cases hi : i < K
 ·rw [List.getElem?_range hi, Option.map_some, Option.map_some, take_any hj, isCls_in hk];by_cases e : c = i
  ·subst e;rw [if_pos rfl, if_pos hc, List.getElem?_range hc, Option.map_some, Option.getD_some];simp only [beq_self_eq_true, Bool.or_true, if_true];congr 1;split
   ·rw [Nat.or_assoc, Nat.or_self]
   ·rw [Nat.or_zero]
  ·rw [if_neg e];have : ((c : Int) == (i : Int)) = false := by simp; omega
   rw [this, Bool.or_false]
 ·have h1 : (List.range K)[i]? = none := List.getElem?_eq_none (by simpa using hi);rw [h1];by_cases e : c = i
  ·subst e; exact absurd hc hi
  ·rw [if_neg e]; rfl
theorem enK_next (rows : List (List (List Int))) (met n : Nat) : enK rows met (n + 1) = if (rows.getD n []).length = met then enK rows met n ||| 2 ^ n else enK rows met n := by
 unfold enK;rw [bitsOf];by_cases h : (rows.getD n []).length = met
 ·rw [if_pos h, if_pos (by simpa using h)]
 ·rw [if_neg h, if_neg (by simpa using h)]
theorem bitsOf_lt64 (p : Nat → Bool) {n : Nat} (h : n ≤ 64) : bitsOf p n < 18446744073709551616 := Nat.lt_of_lt_of_le (bitsOf_lt p n) (show 2 ^ n ≤ 2 ^ 64 from Nat.pow_le_pow_right (by omega) h)
theorem pow_lt64 {n : Nat} (h : n < 64) : 2 ^ n < 18446744073709551616 := show 2 ^ n < 2 ^ 64 from Nat.pow_lt_pow_right (by omega) h
theorem nxJ_lt {rows : List (List (List Int))} {cls : List Int} {met K n j : Nat} (h : n < 64) : ∀ x ∈ nxJ rows cls met K n j, x < 18446744073709551616 := fun x hx => by
 unfold nxJ at hx;obtain ⟨c, _, rfl⟩ := List.mem_map.1 hx;refine or_lt64 (bitsOf_lt64 _ (by omega)) ?_;split
 ·exact pow_lt64 h
 ·omega
theorem cast_pow2 (n : Nat) : ((2 ^ n : Nat) : Int) = (2 : Int) ^ n := by push_cast; rfl
theorem shl_one {n : Nat} (h : n < 64) : IntKind.u64.wrap ((2 : Int) ^ n) = ((2 ^ n : Nat) : Int) := by
 have h1 := pow_lt64 h;rw [← cast_pow2, IntKind.wrap_u64];generalize 2 ^ n = x at *;omega
theorem shl_one' {n : Nat} (h : n < 64) : IntKind.u64.wrap (1 * (2 : Int) ^ n) = ((2 ^ n : Nat) : Int) := by rw [Int.one_mul]; exact shl_one h
theorem getD_mem {xs : List Nat} {i : Nat} (h : i < xs.length) : xs.getD i 0 ∈ xs := by
 rw [List.getD_eq_getElem?_getD, List.getElem?_eq_getElem h]; exact List.getElem_mem h
theorem uc_at {xs : List Nat} {i : Nat} (h : i < xs.length) : (uc xs)[i]? = some (.int .u64 (xs.getD i 0 : Int)) := by
 unfold uc; rw [List.getElem?_map, List.getD_eq_getElem?_getD, List.getElem?_eq_getElem h]; rfl
theorem bits_or_pow {x n : Nat} (hx : x < 18446744073709551616) (hn : n < 64) : bits BinOp.or IntKind.u64 (x : Int) ((2 : Int) ^ n) = ((x ||| 2 ^ n : Nat) : Int) := by
 rw [← cast_pow2]; exact bits_or_u64_nat x (2 ^ n) hx (pow_lt64 hn)
theorem enK_lt {rows : List (List (List Int))} {met n : Nat} (h : n ≤ 64) : enK rows met n < 18446744073709551616 := bitsOf_lt64 _ h
structure WV where
 ra : Option Addr
 rn : Nat
 rc : Nat
 hv : Nat
 ca : Option Addr
 cn : Nat
 cc : Nat
 K : Nat
abbrev WV.cells (r : WV) (la : Option Addr) (ln lc : Nat) : Array Value := #[.slice r.ra r.rn r.rc, .int .u64 (r.hv : Int), .slice r.ca r.cn r.cc, .int .i64 (r.K : Int), .slice la ln lc]
structure IsW (w : World) (S : Nat → Prop) (r : WV) (rows : List (List (List Int))) (cls : List Int) : Prop where
 rows : RdX w S r.ra r.rn rows
 cls : Rd w S r.ca r.cn cls
 hr : Hd r.rn r.rc
 hc : Hd r.cn r.cc
theorem IsW.mono {w w' : World} {S S' : Nat → Prop} {r : WV} {rows : List (List (List Int))} {cls : List Int} (h : IsW w S r rows cls) (hS : ∀ b, S b → S' b) (hk : Kept S w w') : IsW w' S' r rows cls := ⟨h.rows.mono hS hk, h.cls.mono hS hk, h.hr, h.hc⟩
theorem IsW.call {w w' : World} {r : WV} {rows : List (List (List Int))} {cls : List Int} (h : IsW w (lo w.heap.size) r rows cls) (k : Below w.heap.size w w') : IsW w' (lo w'.heap.size) r rows cls := h.mono (lo_mono k.size) (kept_below k)
set_option maxRecDepth 100000 in
set_option maxHeartbeats 2000000 in
theorem makeLevel_c (P : Nat) (r : WV) (la : Option Addr) (ln lc met : Nat) (rows : List (List (List Int))) (cls : List Int) (w : World) (hP : Bk w P 137 (r.cells la ln lc)) (hW : IsW w (lo w.heap.size) r rows cls) (hG : GlyOK cls r.K) (hn : rows.length ≤ 64) (hK : r.K ≤ 65536) (hm : met ≤ 9223372036854775807) :
  Calls Tryz.prog 91 #[.pointer (some ⟨P, 0, none⟩), .int .i64 (met : Int)] w fun e w' => e = .returned (.agg #[.slice (some ⟨w.heap.size + 1, 0, none⟩) r.K r.K, .int .u64 (endsM rows met : Int)]) ∧
   Ow 102 1 w' w.heap.size (some ⟨w.heap.size + 1, 0, none⟩) r.K r.K (uc ((List.range r.K).map fun (c : Nat) => nextM rows cls met (c : Int))) ∧ Below w.heap.size w w' := by
 have p0 : w.cell? ⟨P, 0, none⟩ = some (.slice r.ra r.rn r.rc) := hP.cell 0;have p2 : w.cell? ⟨P, 2, none⟩ = some (.slice r.ca r.cn r.cc) := hP.cell 2;have p3 : w.cell? ⟨P, 3, none⟩ = some (.int .i64 (r.K : Int)) := hP.cell 3;have q0 := hP.lt;have HR := Lib.hid fun (W : World) (bW : Below w.heap.size w W) => And.intro (hW.call bW) (hP.below bW hP.lt);have HW := Lib.hid hW;have HL := Lib.hid hW.rows.len;have HCL := Lib.hid hW.cls.len;have HG := Lib.hid hG;have hr1 := hW.hr.1;have hr2 := hW.hr.2;have hc1 := hW.hc.1;have hc2 := hW.hc.2;clear hW hP hG;go_enter Tryz.func91, Tryz.ntmps91;go_wp2_with (at_make; refine mkG elt_u64 rfl _ _ rfl _ w.heap.size r.K _ _ (by rfl) (by rfl) (by rfl) (by rfl) (by omega) (by simp) ?_; intro w1 ho1 hb1 hlt1; have bw1 : Below w.heap.size w w1 := ((Below.refl _ _).alloc (Nat.le_refl _) _).trans (hb1.mono (by simp)); have kr1 := (Bk.new w 188 #[.slice none 0 0, .int .u64 0]).below hb1 (by simp); have p0 : w1.cell? ⟨P, 0, none⟩ = some (.slice r.ra r.rn r.rc) := ((HR.out w1 bw1).2.cell 0); have hlo : w.heap.size < w1.heap.size := (by simp at hlt1; omega); have hPlt : P < w1.heap.size := (by omega));have ho1' : Ow 102 1 w1 w.heap.size (some ⟨w.heap.size + 1, 0, none⟩) r.K r.K (uc (nxK rows cls met r.K 0)) := by
  have e : (madeCells (Value.int .u64 0).cells (r.K * 1)).toList = uc (nxK rows cls met r.K 0) := by
   rw [show (Value.int .u64 0).cells = #[Value.int .u64 0] from rfl, toList_madeCells_one, nxK_zero];simp [uc]
  rw [← e]; simpa using ho1
 have kl1 := Bk.new w1 188 #[.slice (some ⟨w.heap.size + 1, 0, none⟩) r.K r.K, .int .u64 0];have bw2 : Below w.heap.size w (w1.alloc (.cells #[.slice (some ⟨w.heap.size + 1, 0, none⟩) r.K r.K, .int .u64 0] 188)) := bw1.alloc (by omega) _;have hneq : w.heap.size + 1 ≠ w1.heap.size := by simp at hlt1; omega
 obtain ⟨lb, hlb⟩ : ∃ lb, w1.heap.size = lb := ⟨_, rfl⟩;have HLB := Lib.hid hlb;have ho2 := ho1'.alloc (.cells #[.slice (some ⟨w.heap.size + 1, 0, none⟩) r.K r.K, .int .u64 0] 188);have kr2 := kr1.alloc (.cells #[.slice (some ⟨w.heap.size + 1, 0, none⟩) r.K r.K, .int .u64 0] 188);rw [hlb] at kl1 hlo hneq ⊢;clear ho1 ho1' hb1 hlt1 bw1 kr1 p0 p2 p3 hlb;generalize w1.alloc (.cells #[.slice (some ⟨w.heap.size + 1, 0, none⟩) r.K r.K, .int .u64 0] 188) = w2 at *;go_wp2;go_loopw [21] (fun iv wr => ∃ n : Nat, n ≤ r.rn ∧ iv = .int .i64 n ∧ Bk wr w.heap.size 188 #[.slice none 0 0, .int .u64 0] ∧ Bk wr lb 188 #[.slice (some ⟨w.heap.size + 1, 0, none⟩) r.K r.K, .int .u64 (enK rows met n : Int)] ∧ Ow 102 1 wr w.heap.size (some ⟨w.heap.size + 1, 0, none⟩) r.K r.K (uc (nxK rows cls met r.K n)) ∧ Below w.heap.size w wr) (fun iv _ => r.rn - (intOf iv).toNat)
 case atStart => exact ⟨0, by omega, rfl, kr2, kl1, ho2, bw2⟩
 case round =>
  obtain ⟨n, hnr, rfl, hkr, hkl, hor, hbr⟩ := hrel;clear kr2 kl1 ho2 bw2;obtain ⟨hWr, hPr⟩ := HR.out wr hbr;have p0 : wr.cell? ⟨P, 0, none⟩ = some (.slice r.ra r.rn r.rc) := hPr.cell 0;have p2 : wr.cell? ⟨P, 2, none⟩ = some (.slice r.ca r.cn r.cc) := hPr.cell 2;have l0 : wr.cell? ⟨lb, 0, none⟩ = some (.slice (some ⟨w.heap.size + 1, 0, none⟩) r.K r.K) := hkl.cell 0;have l1 : wr.cell? ⟨lb, 1, none⟩ = some (.int .u64 (enK rows met n : Int)) := hkl.cell 1;have fl1 := hkl.frozen 1;by_cases hlt : n < r.rn
  ·have hn64 : n < 64 := by have := HL.out; omega
   obtain ⟨row, hrow⟩ := at_some rows n (by have := HL.out; omega);obtain ⟨b, o, ha, hb, hc⟩ := HW.out.rows.pos (by omega);obtain ⟨cs, ⟨A1, n1, c1, rfl, hA1, hd1⟩, hcc⟩ := hc n row hrow;have x0 := (hbr.cell (p := ⟨b, o + n * 1 + 0, none⟩) hb).trans (hcc 0 _ rfl);rw [Nat.mul_one, Nat.add_zero] at x0;have hgd : rows.getD n [] = row := getD_of hrow;have HRL := Lib.hid hA1.len;have HGD := Lib.hid hgd;have hd11 := hd1.1;have hd12 := hd1.2;have nz : (0 : Int) ≤ (n : Int) := by omega
   have nn : (n : Int) < (r.rn : Int) := by omega
   have hsh := shl_one hn64;have hsh' := shl_one' hn64;have HEN := Lib.hid (enK_next rows met n);by_cases hme : met = n1
   ·subst hme;have hor1 := bits_or_pow (enK_lt (rows := rows) (met := met) (show n ≤ 64 by omega)) hn64;have HSK := Lib.hid (nxK_skip (rows := rows) (met := met) (n := n) cls r.K (by rw [hgd, hA1.len]; exact Nat.le_refl _));have HE1 := Lib.hid (show enK rows met (n + 1) = enK rows met n ||| 2 ^ n by rw [HEN.out, if_pos (by rw [hgd, hA1.len])]);clear hb hc hcc hrow hA1 hWr hgd;rw [ha] at p0;go_wp2;go_region;have hkr2 : Bk (wr.setCell ⟨lb, 1, none⟩ (.int .u64 ((enK rows met n ||| 2 ^ n : Nat) : Int))).drew w.heap.size 188 #[.slice none 0 0, .int .u64 0] := hkr.far (p := ⟨lb, 1, none⟩) (by show w.heap.size ≠ lb; omega) _;have hkl2 : Bk (wr.setCell ⟨lb, 1, none⟩ (.int .u64 ((enK rows met n ||| 2 ^ n : Nat) : Int))).drew lb 188 #[.slice (some ⟨w.heap.size + 1, 0, none⟩) r.K r.K, .int .u64 (enK rows met (n + 1) : Int)] := by rw [HE1.out]; exact hkl.set_ 1 _
    have hor2 : Ow 102 1 (wr.setCell ⟨lb, 1, none⟩ (.int .u64 ((enK rows met n ||| 2 ^ n : Nat) : Int))).drew w.heap.size (some ⟨w.heap.size + 1, 0, none⟩) r.K r.K (uc (nxK rows cls met r.K (n + 1))) := by rw [HSK.out]; exact hor.setOther (p := ⟨lb, 1, none⟩) (fun b e => by injection e with e; injection e with e; show b ≠ lb; omega) _
    have hbr2 : Below w.heap.size w (wr.setCell ⟨lb, 1, none⟩ (.int .u64 ((enK rows met n ||| 2 ^ n : Nat) : Int))).drew := below_drewN (hbr.setCell (p := ⟨lb, 1, none⟩) (by show w.heap.size ≤ lb; omega) _) 1;clear hkr hkl hor hbr l0 l1 fl1 p0 p2 x0 hPr HR;generalize (wr.setCell ⟨lb, 1, none⟩ (.int .u64 ((enK rows met n ||| 2 ^ n : Nat) : Int))).drew = w4 at *;go_wp2;go_roundw
    case rel => exact ⟨n + 1, by omega, by go_num, hkr2, hkl2, hor2, hbr2⟩
    case measure => simp [intOf]; omega
   ·have e0 : ((met : Int) == (n1 : Int)) = false := by simp; omega
    have e0' : (met == n1) = false := by simpa using hme
    have HE0 := Lib.hid (show enK rows met (n + 1) = enK rows met n by rw [HEN.out, if_neg (by rw [hgd, hA1.len]; omega)]);by_cases hge : n1 ≤ met
    ·have HSK := Lib.hid (nxK_skip (rows := rows) (met := met) (n := n) cls r.K (by rw [hgd, hA1.len]; omega));have t1 : decide ((n1 : Int) ≤ (met : Int)) = true := by simp; omega
     have t2 : decide (n1 ≤ met) = true := by simp; omega
     clear hb hc hcc hrow hA1 hWr hgd hme;rw [ha] at p0;go_wp2;go_roundw
     case rel => exact ⟨n + 1, by omega, by go_num, hkr, by rw [HE0.out]; exact hkl, by rw [HSK.out]; exact hor, hbr⟩
     case measure => simp [intOf]; omega
    ·have t1 : decide ((n1 : Int) ≤ (met : Int)) = false := by simp; omega
     have t2 : decide (n1 ≤ met) = false := by simp; omega
     obtain ⟨st, hst⟩ := at_some row met (by have := HRL.out; omega);obtain ⟨b1, o1, hA1e, hb1, hcc1⟩ := hA1.pos (by omega);obtain ⟨cs, ⟨A2, n2, c2, rfl, hA2, hd2⟩, hcc2⟩ := hcc1 met st hst;have x1 := (hbr.cell (p := ⟨b1, o1 + met * 1 + 0, none⟩) hb1).trans (hcc2 0 _ rfl);rw [Nat.mul_one, Nat.add_zero] at x1;have hgs : (rows.getD n []).getD met [] = st := by rw [hgd]; exact getD_of hst
     have HGS := Lib.hid hgs;have hd21 := hd2.1;have hd22 := hd2.2;have HSL := Lib.hid hA2.len;have HJ0 := Lib.hid (nxJ_zero rows cls met r.K n);have HJA := Lib.hid (nxJ_all (rows := rows) (met := met) (n := n) cls r.K (by rw [hgd, HRL.out]; omega) (j := n2) (by rw [hgs, HSL.out]; exact Nat.le_refl _));have HA2 := Lib.hid hA2;have mz : (0 : Int) ≤ (met : Int) := by omega
     have mn : (met : Int) < (n1 : Int) := by omega
     rw [ha] at p0;rw [hA1e] at x0;clear hb hb1 hc hcc hrow hA1 hgd hme hst hcc1 hcc2 hA2 hgs hA1e hWr;go_wp2;go_loopw [45] (fun jv wj => ∃ j : Nat, j ≤ n2 ∧ jv = .int .i64 j ∧ Bk wj w.heap.size 188 #[.slice none 0 0, .int .u64 0] ∧ Bk wj lb 188 #[.slice (some ⟨w.heap.size + 1, 0, none⟩) r.K r.K, .int .u64 (enK rows met n : Int)] ∧ Ow 102 1 wj w.heap.size (some ⟨w.heap.size + 1, 0, none⟩) r.K r.K (uc (nxJ rows cls met r.K n j)) ∧ Below w.heap.size w wj) (fun jv _ => n2 - (intOf jv).toNat)
     case atStart => exact ⟨0, by omega, rfl, hkr, hkl, by rw [HJ0.out]; exact hor, hbr⟩
     case round =>
      obtain ⟨j, hj, rfl, hkrj, hklj, horj, hbrj⟩ := hrel;clear hkr hkl hor l0 l1 fl1 p0 p2 x0 x1 hPr hbr;obtain ⟨_, hPj⟩ := HR.out wr hbrj;have y2 : wr.cell? ⟨P, 2, none⟩ = some (.slice r.ca r.cn r.cc) := hPj.cell 2;have y0 : wr.cell? ⟨lb, 0, none⟩ = some (.slice (some ⟨w.heap.size + 1, 0, none⟩) r.K r.K) := hklj.cell 0;clear hPj;by_cases hjl : j < n2
      ·obtain ⟨g, hgj⟩ := at_some st j (by have := HSL.out; omega);obtain ⟨b2, o2, hA2e, hb2, hcg⟩ := HA2.out.pos (by omega);subst hA2e;obtain ⟨cs, rfl, hcg2⟩ := hcg j g hgj;have x2 := (hbrj.cell (p := ⟨b2, o2 + j * 1 + 0, none⟩) hb2).trans (hcg2 0 _ rfl);rw [Nat.mul_one, Nat.add_zero] at x2;have jz : (0 : Int) ≤ (j : Int) := by omega
       have jn : (j : Int) < (n2 : Int) := by omega
       have hgj' : ((rows.getD n []).getD met [])[j]? = some g := by rw [HGS.out]; exact hgj
       have HGJ := Lib.hid hgj';clear hcg hcg2 hgj hb2 hgj';by_cases g0 : g < 0
       ·have t3 : decide (0 ≤ g) = false := by simp; omega
        have HO := Lib.hid (nxJ_out (cls := cls) r.K HGJ.out (.inl g0));clear g0;go_wp2;go_roundw
        case rel => exact ⟨j + 1, by omega, by go_num, hkrj, hklj, by rw [HO.out]; exact horj, hbrj⟩
        case measure => simp [intOf]; omega
       ·have t3 : decide (0 ≤ g) = true := by simp; omega
        by_cases g1 : (r.cn : Int) ≤ g
        ·have t4 : decide (g < (r.cn : Int)) = false := by simp; omega
         have HO := Lib.hid (nxJ_out (cls := cls) r.K HGJ.out (.inr (by rw [HCL.out]; exact g1)));clear g0 g1;go_wp2;go_roundw
         case rel => exact ⟨j + 1, by omega, by go_num, hkrj, hklj, by rw [HO.out]; exact horj, hbrj⟩
         case measure => simp [intOf]; omega
        ·obtain ⟨k, rfl⟩ : ∃ k : Nat, g = k := ⟨g.toNat, by omega⟩;have t4 : decide ((k : Int) < (r.cn : Int)) = true := by simp; omega
         have t4' : decide (k < r.cn) = true := by simp; omega
         obtain ⟨ci, hci⟩ := at_some cls k (by have := HCL.out; omega);obtain ⟨c0, c1'⟩ := HG.out k ci hci;obtain ⟨c, rfl⟩ : ∃ c : Nat, ci = c := ⟨ci.toNat, by omega⟩;obtain ⟨b3, o3, ha3, hb3, hcc3⟩ := HW.out.cls.pos (by omega);obtain ⟨cs, rfl, hcc4⟩ := hcc3 k _ hci;have x3 := (hbrj.cell (p := ⟨b3, o3 + k * 1 + 0, none⟩) hb3).trans (hcc4 0 _ rfl);rw [Nat.mul_one, Nat.add_zero] at x3;rw [ha3] at y2;have hcK : c < r.K := by omega
         have HI := Lib.hid (nxJ_in HGJ.out hci hcK);have kz : (0 : Int) ≤ (k : Int) := by omega
         have kn : (k : Int) < (r.cn : Int) := by omega
         have cz : (0 : Int) ≤ (c : Int) := by omega
         have cn : (c : Int) < (r.K : Int) := by omega
         have y3 := horj.cell (j := c) (x := .int .u64 ((nxJ rows cls met r.K n j).getD c 0 : Int)) (uc_at (by simp [nxJ, hcK]));have y4 := horj.frozen c;have hv := nxJ_lt (rows := rows) (cls := cls) (met := met) (K := r.K) (j := j) hn64 ((nxJ rows cls met r.K n j).getD c 0) (getD_mem (by simp [nxJ, hcK]));have hor1 := bits_or_pow hv hn64;clear hcc3 hcc4 hci hb3 c0 c1' g0 g1 ha3 HGJ hv;generalize (nxJ rows cls met r.K n j).getD c 0 = v at *;go_wp2;go_region;have hkr4 : Bk (wr.setCell ⟨w.heap.size + 1, c, none⟩ (.int .u64 ((v ||| 2 ^ n : Nat) : Int))).drew w.heap.size 188 #[.slice none 0 0, .int .u64 0] := hkrj.far (p := ⟨w.heap.size + 1, c, none⟩) (by show w.heap.size ≠ w.heap.size + 1; omega) _;have hkl4 : Bk (wr.setCell ⟨w.heap.size + 1, c, none⟩ (.int .u64 ((v ||| 2 ^ n : Nat) : Int))).drew lb 188 #[.slice (some ⟨w.heap.size + 1, 0, none⟩) r.K r.K, .int .u64 (enK rows met n : Int)] := hklj.far (p := ⟨w.heap.size + 1, c, none⟩) (by show lb ≠ w.heap.size + 1; omega) _;have hor4 : Ow 102 1 (wr.setCell ⟨w.heap.size + 1, c, none⟩ (.int .u64 ((v ||| 2 ^ n : Nat) : Int))).drew w.heap.size (some ⟨w.heap.size + 1, 0, none⟩) r.K r.K (uc (nxJ rows cls met r.K n (j + 1))) := by rw [HI.out, ← uc_set]; exact horj.stored c _
         have hbr4 : Below w.heap.size w (wr.setCell ⟨w.heap.size + 1, c, none⟩ (.int .u64 ((v ||| 2 ^ n : Nat) : Int))).drew := below_drewN (hbrj.setCell (p := ⟨w.heap.size + 1, c, none⟩) (by show w.heap.size ≤ w.heap.size + 1; omega) _) 1;clear hkrj hklj horj hbrj y0 y2 y3 y4 x2 x3 HR HW HA2 HI;generalize (wr.setCell ⟨w.heap.size + 1, c, none⟩ (.int .u64 ((v ||| 2 ^ n : Nat) : Int))).drew = w4 at *;go_wp2;go_roundw
         case rel => exact ⟨j + 1, by omega, by go_num, hkr4, hkl4, hor4, hbr4⟩
         case measure => simp [intOf]; omega
      ·obtain rfl : j = n2 := by omega
       go_wp2;go_roundw
       case rel => exact ⟨n + 1, by omega, by go_num, hkrj, by rw [HE0.out]; exact hklj, by rw [← HJA.out]; exact horj, hbrj⟩
       case measure => simp [intOf]; omega
  ·have hkr0 : wr.cell? ⟨w.heap.size, 0, none⟩ = some (.slice none 0 0) := hkr.cell 0;have hkr1 : wr.cell? ⟨w.heap.size, 1, none⟩ = some (.int .u64 0) := hkr.cell 1;have fr0 := hkr.frozen 0;have fr1 := hkr.frozen 1;obtain rfl : n = r.rn := by omega
   go_wp2;have kf := (hkr.set_ 0 (.slice (some ⟨w.heap.size + 1, 0, none⟩) r.K r.K)).set_ 1 (.int .u64 (enK rows met r.rn : Int));have k0 : ((wr.setCell ⟨w.heap.size, 0, none⟩ (.slice (some ⟨w.heap.size + 1, 0, none⟩) r.K r.K)).setCell ⟨w.heap.size, 1, none⟩ (.int .u64 (enK rows met r.rn : Int))).cell? ⟨w.heap.size, 0, none⟩ = some (.slice (some ⟨w.heap.size + 1, 0, none⟩) r.K r.K) := kf.cell 0;have k1 : ((wr.setCell ⟨w.heap.size, 0, none⟩ (.slice (some ⟨w.heap.size + 1, 0, none⟩) r.K r.K)).setCell ⟨w.heap.size, 1, none⟩ (.int .u64 (enK rows met r.rn : Int))).cell? ⟨w.heap.size, 1, none⟩ = some (.int .u64 (enK rows met r.rn : Int)) := kf.cell 1;refine bodyPost_ret (v := .agg #[.slice (some ⟨w.heap.size + 1, 0, none⟩) r.K r.K, .int .u64 (enK rows met r.rn : Int)]) (by simp [results, Tryz.results91, go_sem, k0, k1]) rfl ⟨?_, ?_, (hbr.setCell (p := ⟨w.heap.size, 0, none⟩) (Nat.le_refl _) _).setCell (p := ⟨w.heap.size, 1, none⟩) (Nat.le_refl _) _⟩
   ·have := HL.out; unfold endsM enK; rw [this]
   ·have h1 := (hor.setOther (p := ⟨w.heap.size, 0, none⟩) (fun b e => by injection e with e; injection e with e; show b ≠ w.heap.size; omega) (.slice (some ⟨w.heap.size + 1, 0, none⟩) r.K r.K)).setOther (p := ⟨w.heap.size, 1, none⟩) (fun b e => by injection e with e; injection e with e; show b ≠ w.heap.size; omega) (.int .u64 (enK rows met r.rn : Int));have e : nxK rows cls met r.K r.rn = (List.range r.K).map fun (c : Nat) => nextM rows cls met (c : Int) := by rw [← HL.out]; exact nxK_all rows cls met r.K
    rw [e] at h1;exact h1
def nxL (rows : List (List (List Int))) (cls : List Int) (K met : Nat) : List Nat := (List.range K).map fun (c : Nat) => nextM rows cls met (c : Int)
theorem nxL_lt {rows : List (List (List Int))} (cls : List Int) (K met : Nat) (h : rows.length ≤ 64) : ∀ x ∈ nxL rows cls K met, x < 18446744073709551616 := fun x hx => by
 unfold nxL at hx;obtain ⟨c, _, rfl⟩ := List.mem_map.1 hx;exact bitsOf_lt64 _ h
theorem nxL_at (rows : List (List (List Int))) (cls : List Int) {K met c : Nat} (h : c < K) : (nxL rows cls K met)[c]? = some (nextM rows cls met (c : Int)) := by
 unfold nxL; rw [List.getElem?_map, List.getElem?_range h]; rfl
def LvAt (W : World) (D : Nat → Prop) (rows : List (List (List Int))) (cls : List Int) (K i : Nat) (cs : List Value) : Prop := ∃ nb, cs = [.slice (some ⟨nb, 0, none⟩) K K, .int .u64 (endsM rows i : Int)] ∧ D nb ∧ RdU W D (some ⟨nb, 0, none⟩) K (nxL rows cls K i)
structure RO (W : World) (B : Nat) (D : Nat → Prop) (P : Nat) (r : WV) (rows : List (List (List Int))) (cls : List Int) (la : Option Addr) (ln lc : Nat) : Prop where
 hP : Bk W P 137 (r.cells la ln lc)
 bP : B ≤ P
 nP : ¬ D P
 dl : ∀ b, D b → b < W.heap.size
 iw : IsW W D r rows cls
 lv : ∃ css : List (List Value), Ow 188 2 W B la ln lc css.flatten ∧ css.length = ln ∧ (∀ cs ∈ css, cs.length = 2) ∧ ∀ (i : Nat) (cs : List Value), css[i]? = some cs → LvAt W D rows cls r.K i cs
 nl : ∀ b, la.map (·.block) = some b → ¬ D b
 hl : ln ≤ 1000000
theorem LvAt.mono {W W' : World} {D D' : Nat → Prop} {rows : List (List (List Int))} {cls : List Int} {K i : Nat} {cs : List Value} (h : LvAt W D rows cls K i cs) (hD : ∀ b, D b → D' b) (hk : Kept D W W') : LvAt W' D' rows cls K i cs := by
 obtain ⟨nb, h1, h2, h3⟩ := h;exact ⟨nb, h1, hD nb h2, h3.mono hD hk⟩
theorem RO.keep {W W' : World} {B : Nat} {D D' : Nat → Prop} {P : Nat} {r : WV} {rows : List (List (List Int))} {cls : List Int} {la : Option Addr} {ln lc : Nat} (h : RO W B D P r rows cls la ln lc)
  (hk : ∀ b, D b ∨ b = P ∨ la.map (·.block) = some b → W'.heap[b]? = W.heap[b]?) (hD : ∀ b, D b → D' b) (hn : ∀ b, D' b → b < W'.heap.size ∧ b ≠ P ∧ la.map (·.block) ≠ some b) : RO W' B D' P r rows cls la ln lc := by
 have kD : Kept D W W' := fun b hb => hk b (.inl hb);refine ⟨h.hP.kept (S := fun b => b = P) (fun b hb => hk b (.inr (.inl hb))) rfl, h.bP, fun hp => (hn P hp).2.1 rfl, fun b hb => (hn b hb).1, h.iw.mono hD kD, ?_, fun b hb hd => (hn b hd).2.2 hb, h.hl⟩;obtain ⟨css, h1, h2, h3, h4⟩ := h.lv;refine ⟨css, h1.keep fun b e => hk b (.inr (.inr (by rw [e]; rfl))), h2, h3, fun i cs hc => (h4 i cs hc).mono hD kD⟩
structure Stp (W W' : World) (B : Nat) (D D' : Nat → Prop) (P : Nat) (la la' : Option Addr) : Prop where
 bl : Below B W W'
 kd : Kept D W W'
 up : ∀ b, D b → D' b
 new : ∀ b, D' b → D b ∨ W.heap.size ≤ b
 oth : ∀ b, b < W.heap.size → b ≠ P → la.map (·.block) ≠ some b → W'.heap[b]? = W.heap[b]?
 lb : ∀ b, la'.map (·.block) = some b → la.map (·.block) = some b ∨ W.heap.size ≤ b
theorem Stp.trans {W W1 W2 : World} {B : Nat} {D D1 D2 : Nat → Prop} {P : Nat} {la la1 la2 : Option Addr} (h : Stp W W1 B D D1 P la la1) (k : Stp W1 W2 B D1 D2 P la1 la2) : Stp W W2 B D D2 P la la2 := by
 have hs := h.bl.size;refine ⟨h.bl.trans k.bl, fun b hb => (k.kd b (h.up b hb)).trans (h.kd b hb), fun b hb => k.up b (h.up b hb), fun b hb => ?_, fun b hb hp hl => ?_, fun b hb => ?_⟩
 ·rcases k.new b hb with h1 | h1
  ·exact h.new b h1
  ·right; omega
 ·refine (k.oth b (by omega) hp (fun e => ?_)).trans (h.oth b hb hp hl);rcases h.lb b e with h1 | h1
  ·exact hl h1
  ·omega
 ·rcases k.lb b hb with h1 | h1
  ·exact h.lb b h1
  ·right; omega
section
variable {W W1 W2 : World} {B : Nat} {D : Nat → Prop} {P : Nat} {r : WV} {rows : List (List (List Int))} {cls : List Int} {la : Option Addr} {ln lc : Nat}
theorem RO.lt (h : RO W B D P r rows cls la ln lc) : P < W.heap.size := h.hP.lt
theorem RO.ltl (h : RO W B D P r rows cls la ln lc) : ∀ b, la.map (·.block) = some b → b < W.heap.size ∧ B ≤ b ∧ b ≠ P := fun b hb => by
 obtain ⟨css, h1, _⟩ := h.lv;obtain ⟨h2, h3, h4, cur, h5⟩ := h1.blk b hb;refine ⟨h3, h2, fun e => ?_⟩;subst e;have := h.hP;unfold Bk at this; rw [this] at h5; injection h5 with h5; injection h5 with _ h6; revert h6; decide
theorem RO.call (h : RO W B D P r rows cls la ln lc) (hb : Below W.heap.size W W1) : RO W1 B D P r rows cls la ln lc := by
 refine h.keep (fun b hb' => hb.block b ?_) (fun _ h => h) (fun b hd => ?_)
 ·rcases hb' with h1 | h1 | h1
  ·exact h.dl b h1
  ·subst h1; exact h.lt
  ·exact (h.ltl b h1).1
 ·refine ⟨Nat.lt_of_lt_of_le (h.dl b hd) hb.size, fun e => h.nP (e ▸ hd), fun e => h.nl b e hd⟩
theorem RO.grow (h : RO W B D P r rows cls la ln lc) (hB : B ≤ W.heap.size) {nb : Nat} (h1 : Below W.heap.size W W1) (ho : Ow 102 1 W1 W.heap.size (some ⟨nb, 0, none⟩) r.K r.K (uc (nxL rows cls r.K ln))) (hr : rows.length ≤ 64)
  {w2 : World} {la' : Option Addr} {lc' : Nat} (h2 : Below W1.heap.size W1 w2) (hl' : ln + 1 ≤ 1000000)
  {css : List (List Value)} (c2 : css.length = ln) (c3 : ∀ cs ∈ css, cs.length = 2) (c4 : ∀ (i : Nat) (cs : List Value), css[i]? = some cs → LvAt W D rows cls r.K i cs)
  (c1' : Ow 188 2 W2 B la' (ln + 1) lc' (css.flatten ++ [.slice (some ⟨nb, 0, none⟩) r.K r.K, .int .u64 (endsM rows ln : Int)])) (hg : w2.grownBy W2 (la.map (·.block))) (hat : la'.map (·.block) = la.map (·.block) ∨ la'.map (·.block) = some w2.heap.size) :
  RO (W2.setCell ⟨P, 4, none⟩ (.slice la' (ln + 1) lc')) B (fun b => D b ∨ b = nb) P r rows cls la' (ln + 1) lc' ∧ Stp W (W2.setCell ⟨P, 4, none⟩ (.slice la' (ln + 1) lc')) B D (fun b => D b ∨ b = nb) P la la' := by
 obtain ⟨nb0, hnb, hnl⟩ := (show ∃ g, (some ⟨nb, 0, none⟩ : Option Addr) = some ⟨g, 0, none⟩ ∧ W.heap.size ≤ nb ∧ nb < W1.heap.size from ⟨nb, rfl, (ho.lt nb 0 none rfl).1, (ho.lt nb 0 none rfl).2⟩);have s1 := h1.size;have s2 := h2.size;have s3 := hg.size;have hlt := h.lt;have key : ∀ b, b < W.heap.size → b ≠ P → la.map (·.block) ≠ some b → (W2.setCell ⟨P, 4, none⟩ (.slice la' (ln + 1) lc')).heap[b]? = W.heap[b]? := fun b hb hp hl => by
  rw [Below.heap_setCell W2 ⟨P, 4, none⟩ _ b hp, hg.block b (by omega) (fun e => hl e.symm), h2.block b (by omega), h1.block b hb]
 have kD : Kept D W (W2.setCell ⟨P, 4, none⟩ (.slice la' (ln + 1) lc')) := fun b hb => key b (h.dl b hb) (fun e => h.nP (e ▸ hb)) (fun e => h.nl b e hb);have hnbP : nb ≠ P := by omega
 have hnbl : la.map (·.block) ≠ some nb := fun e => by have := (h.ltl nb e).1; omega
 have hPk : Bk W2 P 137 (r.cells la ln lc) := by
  have e1 : W2.heap[P]? = W.heap[P]? := by
   rw [hg.block P (by omega) (fun e => (h.ltl P e.symm).2.2 rfl), h2.block P (by omega), h1.block P hlt]
  exact e1.trans h.hP
 have hla : ∀ b, la'.map (·.block) = some b → la.map (·.block) = some b ∨ w2.heap.size ≤ b := fun b hb => by
  rcases hat with e | e
  ·left; rw [← e]; exact hb
  ·right; rw [e] at hb; injection hb with hb; omega
 have hlaP : ∀ b, la'.map (·.block) = some b → b ≠ P ∧ b ≠ nb ∧ ¬ D b := fun b hb => by
  rcases hla b hb with e | e
  ·exact ⟨(h.ltl b e).2.2, fun e2 => hnbl (e2 ▸ e), h.nl b e⟩
  ·exact ⟨by omega, by omega, fun hd => by have := h.dl b hd; omega⟩
 have hnbk : (W2.setCell ⟨P, 4, none⟩ (.slice la' (ln + 1) lc')).heap[nb]? = W1.heap[nb]? := by
  rw [Below.heap_setCell W2 ⟨P, 4, none⟩ _ nb hnbP, hg.block nb (by omega) (fun e => hnbl e.symm), h2.block nb hnl.2]
 have hsz : (W2.setCell ⟨P, 4, none⟩ (.slice la' (ln + 1) lc')).heap.size = W2.heap.size := by simp
 refine ⟨⟨hPk.set_ 4 _, h.bP, ?_, ?_, h.iw.mono (fun b hb => .inl hb) kD, ⟨css ++ [[.slice (some ⟨nb, 0, none⟩) r.K r.K, .int .u64 (endsM rows ln : Int)]], ?_, by simp [c2], ?_, ?_⟩, ?_, hl'⟩, ⟨?_, kD, fun b hb => .inl hb, ?_, key, ?_⟩⟩
 ·rintro (h1 | h1)
  ·exact h.nP h1
  ·omega
 ·rintro b (hb | rfl)
  ·rw [hsz]; have := h.dl b hb; omega
  ·rw [hsz]; omega
 ·rw [List.flatten_append];have : [[Value.slice (some ⟨nb, 0, none⟩) r.K r.K, Value.int .u64 (endsM rows ln : Int)]].flatten = [Value.slice (some ⟨nb, 0, none⟩) r.K r.K, Value.int .u64 (endsM rows ln : Int)] := rfl;rw [this];exact c1'.setOther (fun b e => (hlaP b (by rw [e]; rfl)).1) _
 ·intro cs hcs;rcases List.mem_append.1 hcs with hcs | hcs
  ·exact c3 cs hcs
  ·rw [List.mem_singleton] at hcs; rw [hcs]; rfl
 ·intro i cs hcs;by_cases hi : i < css.length
  ·rw [List.getElem?_append_left hi] at hcs;exact (c4 i cs hcs).mono (fun b hb => .inl hb) kD
  ·have hi2 : i = ln := by
    have := (List.getElem?_eq_some_iff.1 hcs).1;simp at this; omega
   subst hi2;rw [List.getElem?_append_right (by omega), c2, Nat.sub_self] at hcs;simp at hcs; subst hcs;refine ⟨nb, rfl, .inr rfl, ?_⟩;have := ho.rdU (nxL_lt cls r.K i hr) (fun b => b = nb) (fun b e => by injection e with e; injection e with e; exact e.symm);exact this.mono (fun b hb => .inr hb) (fun b hb => by subst hb; exact hnbk)
 ·rintro b hb (h1 | h1)
  ·exact (hlaP b hb).2.2 h1
  ·exact (hlaP b hb).2.1 h1
 ·refine (Below.setCell ?_ (p := ⟨P, 4, none⟩) h.bP _);refine (((h1.mono hB).trans (h2.mono (by omega))).grown hg (by omega) (fun b hb => (h.ltl b hb).2.1))
 ·rintro b (hb | rfl)
  ·exact .inl hb
  ·exact .inr hnl.1
 ·intro b hb;rcases hla b hb with e | e
  ·exact .inl e
  ·right; omega
end
end Go.Proofs.YtkmdakampkfioaaGreatDoor
