/- Walks: collect; fore, back. -/
import Derived.Test.YtkmdakampkfioaaGreatDoorV10
namespace Go.Proofs.YtkmdakampkfioaaGreatDoor
open Go.RowKit Go.Shelf
def maxC : List Int → Nat → Nat
 | _, 0 => 0
 | cls, k + 1 => max (maxC cls k) (cls.getD k 0 + 1).toNat
def hvF (f : Rul → List (List Int) × Bool) (rs : List Rul) (n : Nat) : Nat := bitsOf (fun i => match rs[i]? with | some r => (f r).2 | none => false) n
theorem hvF_next {f : Rul → List (List Int) × Bool} {rs : List Rul} {n : Nat} {r : Rul} (h : rs[n]? = some r) : hvF f rs (n + 1) = if (f r).2 then hvF f rs n ||| 2 ^ n else hvF f rs n := by
 unfold hvF; rw [bitsOf, h]
theorem max_cast (K : Nat) (c : Int) (h : 0 ≤ c) : (if (K : Int) < c + 1 then c + 1 else (K : Int)) = ((max K (c + 1).toNat : Nat) : Int) := by
 split <;> omega
def rowsF (f : Rul → List (List Int) × Bool) (rs : List Rul) : List (List (List Int)) := rs.map fun r => (f r).1
theorem EX.mono {w w' : World} {S S' : Nat → Prop} {cs : List Value} {x : List (List Int)} (h : EX w S cs x) (hS : ∀ b, S b → S' b) (hk : Kept S w w') : EX w' S' cs x := by
 obtain ⟨A, n, c, e, h1, h2⟩ := h;exact ⟨A, n, c, e, h1.mono hS hk, h2⟩
structure Col (w wr : World) (P : Nat) (f : Rul → List (List Int) × Bool) (rs : List Rul) (ca : Option Addr) (cn cc : Nat) (n hv K : Nat) (ra : Option Addr) (rc : Nat) (D : Nat → Prop) (css : List (List Value)) : Prop where
 hP : Bk wr P 137 #[.slice ra n rc, .int .u64 (hv : Int), .slice ca cn cc, .int .i64 (K : Int), .slice none 0 0]
 bl : Below w.heap.size w wr
 lP : w.heap.size ≤ P
 own : Ow 41 1 wr w.heap.size ra n rc css.flatten
 row : RowOf 1 (EX wr D) css (rowsF f (rs.take n))
 dl : ∀ b, D b → b < wr.heap.size ∧ b ≠ P ∧ ra.map (·.block) ≠ some b
 d0 : ∀ b, b < w.heap.size → D b
section
variable {w wr w3 w4 : World} {P : Nat} {f : Rul → List (List Int) × Bool} {rs : List Rul} {ca : Option Addr} {cn cc n hv K : Nat} {ra ra' : Option Addr} {rc rc' : Nat} {D : Nat → Prop} {css : List (List Value)} {r : Rul} {A : Option Addr} {m c : Nat}
theorem Col.store (h : Col w wr P f rs ca cn cc n hv K ra rc D css) (i : Nat) (v : Value) (hv' K' : Nat) (e : (#[.slice ra n rc, .int .u64 (hv : Int), .slice ca cn cc, .int .i64 (K : Int), .slice none 0 0] : Array Value).setIfInBounds i v = #[.slice ra n rc, .int .u64 (hv' : Int), .slice ca cn cc, .int .i64 (K' : Int), .slice none 0 0]) (d : Nat) :
  Col w ((wr.setCell ⟨P, i, none⟩ v).drewN d) P f rs ca cn cc n hv' K' ra rc D css := by
 have hne : ∀ b, ra = some ⟨b, 0, none⟩ → b ≠ P := fun b e2 e3 => by
  subst e3;have := (h.hP.ne_own (by decide) h.own);rw [e2] at this; exact this rfl
 have kD : Kept D wr ((wr.setCell ⟨P, i, none⟩ v).drewN d) := fun b hb => Below.heap_setCell wr ⟨P, i, none⟩ v b (h.dl b hb).2.1;refine ⟨?_, below_drewN (h.bl.setCell (p := ⟨P, i, none⟩) h.lP v) d, h.lP, (h.own.setOther (p := ⟨P, i, none⟩) hne v).drewN d, h.row.mono fun cs x hx => hx.mono (fun _ h => h) kD, fun b hb => ?_, h.d0⟩
 ·have := h.hP.set_ i v;rw [e] at this;exact this
 ·obtain ⟨h1, h2⟩ := h.dl b hb;refine ⟨?_, h2⟩;show b < (wr.setCell ⟨P, i, none⟩ v).heap.size
  simpa using h1
theorem Col.next (h : Col w wr P f rs ca cn cc n hv K ra rc D css) (hr : rs[n]? = some r) (hb : Below wr.heap.size wr w3) (hset : RdV w3 (fun b => b < w.heap.size ∨ (wr.heap.size ≤ b ∧ b < w3.heap.size)) A m (f r).1) (hd : Hd m c) {o : Obj}
  (ho : Ow 41 1 w4 w.heap.size ra' (n + 1) rc' (css.flatten ++ [.slice A m c])) (hg : (w3.alloc o).grownBy w4 (ra.map (·.block))) (hat : ra'.map (·.block) = ra.map (·.block) ∨ ra'.map (·.block) = some (w3.alloc o).heap.size) :
  Bk w4 P 137 #[.slice ra n rc, .int .u64 (hv : Int), .slice ca cn cc, .int .i64 (K : Int), .slice none 0 0] ∧
  Col w (w4.setCell ⟨P, 0, none⟩ (.slice ra' (n + 1) rc')) P f rs ca cn cc (n + 1) hv K ra' rc' (fun b => D b ∨ (wr.heap.size ≤ b ∧ b < w3.heap.size)) (css ++ [[.slice A m c]]) := by
 have hPr : some P ≠ ra.map (·.block) := h.hP.ne_own (by decide) h.own;have hlP := h.hP.lt;have s1 := hb.size;have s2 := hg.size;rw [World.size_alloc] at s2;have hPk := ((h.hP.below hb hlP).alloc o).grown hg hPr;have hlr : ∀ b, ra.map (·.block) = some b → b < wr.heap.size := fun b e => (h.own.blk b e).2.1;have hra : ∀ b, ra'.map (·.block) = some b → ra.map (·.block) = some b ∨ b = w3.heap.size + 1 := fun b e => by
  rcases hat with h1 | h1
  ·left; rw [← h1]; exact e
  ·right; rw [h1, World.size_alloc] at e; injection e with e; exact e.symm
 have hne : ∀ b, ra' = some ⟨b, 0, none⟩ → b ≠ P := fun b e2 e3 => by
  subst e3;rcases hra b (by rw [e2]; rfl) with h1 | h1
  ·exact hPr h1.symm
  ·omega
 have far : ∀ b, b < w3.heap.size → b ≠ P → ra.map (·.block) ≠ some b → (w4.setCell ⟨P, 0, none⟩ (.slice ra' (n + 1) rc')).heap[b]? = w3.heap[b]? := fun b h1 h2 h3 => by
  rw [Below.heap_setCell w4 ⟨P, 0, none⟩ _ b h2, hg.block b (by rw [World.size_alloc]; omega) (fun e => h3 e.symm), Below.heap_alloc w3 o b h1]
 have kD : Kept D wr (w4.setCell ⟨P, 0, none⟩ (.slice ra' (n + 1) rc')) := fun b hb' => by
  obtain ⟨h1, h2, h3⟩ := h.dl b hb';rw [far b (by omega) h2 h3, hb.block b h1]
 have kN : Kept (fun b => b < w.heap.size ∨ (wr.heap.size ≤ b ∧ b < w3.heap.size)) w3 (w4.setCell ⟨P, 0, none⟩ (.slice ra' (n + 1) rc')) := fun b hb' => by
  rcases hb' with h1 | ⟨h1, h2⟩
  ·obtain ⟨h3, h4, h5⟩ := h.dl b (h.d0 b h1);exact far b (by omega) h4 h5
  ·exact far b h2 (by omega) (fun e => by have := hlr b e; omega)
 refine ⟨hPk, hPk.set_ 0 _, ?_, h.lP, ?_, ?_, ?_, fun b hb => .inl (h.d0 b hb)⟩
 ·refine Below.setCell ?_ (p := ⟨P, 0, none⟩) h.lP _;have b1 : Below w.heap.size w (w3.alloc o) := ((h.bl.trans (hb.mono h.bl.size))).alloc (by have := h.bl.size; omega) o;exact b1.grown hg (by rw [World.size_alloc]; have := h.bl.size; omega) (fun b e => (h.own.blk b e).1)
 ·rw [List.flatten_append];exact ho.setOther (p := ⟨P, 0, none⟩) hne _
 ·have e : rowsF f (rs.take (n + 1)) = rowsF f (rs.take n) ++ [(f r).1] := by
   unfold rowsF; rw [List.take_add_one, hr, List.map_append]; rfl
  rw [e];exact (h.row.mono fun cs x hx => hx.mono (fun b hb => .inl hb) kD).app (RowOf.one ⟨A, m, c, rfl, hset.mono (fun b hb => hb.imp (h.d0 b) id) kN, hd⟩ rfl)
 ·have hsz : (w4.setCell ⟨P, 0, none⟩ (.slice ra' (n + 1) rc')).heap.size = w4.heap.size := by simp
  rintro b (hb' | ⟨h1, h2⟩)
  ·obtain ⟨h1, h2, h3⟩ := h.dl b hb';refine ⟨by rw [hsz]; omega, h2, fun e => ?_⟩;rcases hra b e with h4 | h4
   ·exact h3 h4
   ·omega
  ·refine ⟨by rw [hsz]; omega, by omega, fun e => ?_⟩;rcases hra b e with h4 | h4
   ·have := hlr b h4; omega
   ·omega
end
set_option maxRecDepth 100000 in
set_option maxHeartbeats 2000000 in
theorem collect_c (fr : FuncId) (f : Rul → List (List Int) × Bool) (hf : RowFn fr f) (qa : Option Addr) (qn qc : Nat) (ca : Option Addr) (cn cc : Nat) (rs : List Rul) (cls : List Int) (w : World) (hR : RdR w (lo w.heap.size) qa qn rs) (hC : Rd w (lo w.heap.size) ca cn cls) (hq : Hd qn qc) (hc : Hd cn cc)
  (hn : rs.length ≤ 64) (hs : ∀ r ∈ rs, r.inn.length + r.ahead.length ≤ 1000000) (hcl : ∀ c ∈ cls, 0 ≤ c ∧ c ≤ 65536) :
  Calls Tryz.prog 43 #[.agg #[.slice qa qn qc, .slice ca cn cc], .func (.func fr) #[] #[]] w fun e w' => ∃ (P : Nat) (r : WV) (D : Nat → Prop), e = .returned (.pointer (some ⟨P, 0, none⟩)) ∧ r.hv = hvF f rs rs.length ∧ r.K = maxC cls cls.length ∧ RO w' w.heap.size D P r (rowsF f rs) cls none 0 0 ∧ (∀ b, b < w.heap.size → D b) ∧ Below w.heap.size w w' := by
 have hcf := hf.1;have HF := Lib.hid hf.2;have HL := Lib.hid hR.len;have HCL := Lib.hid hC.len;have HS := Lib.hid hs;have HCC := Lib.hid hcl;have hq1 := hq.1;have hq2 := hq.2;have hc1 := hc.1;have hc2 := hc.2;have HR := Lib.hid hR;have HC := Lib.hid hC;have k0 := (Bk.new w 94 #[.slice qa qn qc, .slice ca cn cc]);have x0 := box_cells k0 0 rfl;have x1 := box_cells k0 1 rfl;clear hf hs hcl hR hC hq;go_enter Tryz.func43, Tryz.ntmps43;go_wp2;have hcol : Col w ((w.alloc (.cells #[.slice qa qn qc, .slice ca cn cc] 94)).alloc (.cells #[.slice none 0 0, .int .u64 0, .slice ca cn cc, .int .i64 0, .slice none 0 0] 137)) (w.heap.size + 1) f rs ca cn cc 0 0 0 none 0 (fun b => b < w.heap.size) [] := by
  have k1 := Bk.new (w.alloc (.cells #[.slice qa qn qc, .slice ca cn cc] 94)) 137 #[.slice none 0 0, .int .u64 0, .slice ca cn cc, .int .i64 0, .slice none 0 0];rw [World.size_alloc] at k1;exact ⟨k1, below_lit _ _ (below_lit _ _ (Below.refl _ _) _) _, by omega, Ow.nil _ _ _ _, RowOf.nil, fun b hb => ⟨by simp; omega, by omega, by simp⟩, fun _ h => h⟩
 have k1 := k0.alloc (.cells #[.slice none 0 0, .int .u64 0, .slice ca cn cc, .int .i64 0, .slice none 0 0] 137);clear k0 x0 x1;generalize (w.alloc (.cells #[.slice qa qn qc, .slice ca cn cc] 94)).alloc (.cells #[.slice none 0 0, .int .u64 0, .slice ca cn cc, .int .i64 0, .slice none 0 0] 137) = w1 at *;go_loopw [19] (fun iv wr => ∃ (n hv : Nat) (ra : Option Addr) (rc : Nat) (D : Nat → Prop) (css : List (List Value)), n ≤ qn ∧ iv = .int .i64 n ∧ hv = hvF f rs n ∧ Col w wr (w.heap.size + 1) f rs ca cn cc n hv 0 ra rc D css ∧ Bk wr w.heap.size 94 #[.slice qa qn qc, .slice ca cn cc]) (fun iv _ => qn - (intOf iv).toNat)
 case atStart => exact ⟨0, 0, none, 0, _, [], by omega, rfl, rfl, hcol, k1⟩
 case round =>
  obtain ⟨n, hv, ra, rc, D, css, hnq, rfl, hhv, hco, hks⟩ := hrel;have HHV := Lib.hid hhv;clear hcol k1 hhv;by_cases hlt : n < qn
  ·obtain ⟨r, hr⟩ := at_some rs n (by have := HL.out; omega);obtain ⟨b, o, hqa, hb, hcc⟩ := HR.out.pos (by omega);obtain ⟨cs, hE, hcc2⟩ := hcc n r hr;obtain ⟨A1, n1, c1, A2, n2, c2, A3, n3, c3, A4, n4, c4, A5, n5, c5, hcs, hrest⟩ := hE;have hE : ERul w (lo w.heap.size) cs r := ⟨A1, n1, c1, A2, n2, c2, A3, n3, c3, A4, n4, c4, A5, n5, c5, hcs, hrest⟩;subst hcs;clear hrest;have z0 := (hco.bl.cell (p := ⟨b, o + n * 6 + 0, none⟩) hb).trans (hcc2 0 _ rfl);have z1 := (hco.bl.cell (p := ⟨b, o + n * 6 + 1, none⟩) hb).trans (hcc2 1 _ rfl);have z2 := (hco.bl.cell (p := ⟨b, o + n * 6 + 2, none⟩) hb).trans (hcc2 2 _ rfl);have z3 := (hco.bl.cell (p := ⟨b, o + n * 6 + 3, none⟩) hb).trans (hcc2 3 _ rfl);have z4 := (hco.bl.cell (p := ⟨b, o + n * 6 + 4, none⟩) hb).trans (hcc2 4 _ rfl);have z5 := (hco.bl.cell (p := ⟨b, o + n * 6 + 5, none⟩) hb).trans (hcc2 5 _ rfl);rw [Nat.add_zero] at z0;have HE := Lib.hid hE;have hrl := HS.out r (List.mem_of_getElem? hr);have HRR := Lib.hid hr;have HNX := Lib.hid (hvF_next (f := f) hr);have nz : (0 : Int) ≤ (n : Int) := by omega
   have nn : (n : Int) < (qn : Int) := by omega
   have hn64 : n < 64 := by have := HL.out; omega
   subst hqa;clear hb hcc hcc2 hE hr;have bl1 := hco.bl;have lP := hco.hP.lt;obtain ⟨ob, hob⟩ : ∃ ob : Obj, ob = .cells #[.slice A1 n1 c1, .slice A2 n2 c2, .slice A3 n3 c3, .slice A4 n4 c4, .slice A5 n5 c5, .int .i64 r.x] 91 := ⟨_, rfl⟩;have b2 : Below wr.heap.size wr (wr.alloc ob) := (Below.refl _ _).alloc (Nat.le_refl _) _;have HCA := Lib.hid (HF.out (lo w.heap.size) _ r (wr.alloc ob) (HE.out.mono (fun _ h => h) (fun b hb => (b2.block b (Nat.lt_of_lt_of_le hb bl1.size)).trans (bl1.block b hb))) (fun b hb => Nat.lt_of_lt_of_le hb (Nat.le_trans bl1.size b2.size)) hrl);subst hob;have hvlt : hv < 18446744073709551616 := by rw [HHV.out]; exact bitsOf_lt64 _ (by omega)
   have hor1 := bits_or_pow hvlt hn64;have hsh := shl_one hn64;have HCO := Lib.hid hco;clear hlt hrl HE hvlt hco;generalize hv2 : (f r).2 = v at *;have HV2 := Lib.hid hv2;clear hv2;cases v with
   | false =>
    go_wp2_with fail;refine HCA.out.mono ?_;rintro e w3 ⟨A, m, c, rfl, hset, hd, hb3⟩;have b3 := below_call b2 hb3;have HSET := Lib.hid (hset.mono (S' := fun b => b < w.heap.size ∨ (wr.heap.size ≤ b ∧ b < w3.heap.size)) (fun b hb => by
     rcases hb with h1 | ⟨h1, h2⟩
     ·exact .inl h1
     ·exact .inr ⟨by rw [World.size_alloc] at h1; omega, h2⟩) (Kept.refl _ _))
    have kP3 := HCO.out.hP.below b3 lP;have q0 := box_cells kP3 0 rfl;have hks3 := hks.below b3 hks.lt;have hB3 : w.heap.size ≤ (w3.alloc (.cells #[.slice A m c] 41)).heap.size := by rw [World.size_alloc]; have := b3.size; have := bl1.size; omega
    have HOW := Lib.hid ((HCO.out.own.call b3).alloc (.cells #[.slice A m c] 41));clear hset hb3 b2 z0 z1 z2 z3 z4 z5 HCA kP3 hor1 hsh;go_wp2_with (at_builtin; refine appP elt_sets3 rfl _ _ rfl (w3.alloc (.cells #[.slice A m c] 41)) w.heap.size _ _ _ css.flatten _ 1 1 [.slice A m c] (by rfl) (by rfl) HOW.out rfl (fun _ => news_new _ _ _ (by omega)) (by simp [Value.oneCell']) (by omega) hB3 ?_; intro ra' rc' w4 ho4 hg4 _ hat4; obtain ⟨kp4, hco4⟩ := HCO.out.next HRR.out b3 HSET.out hd ho4 hg4 hat4; have f0 := kp4.frozen 0; have g0 := box_cells kp4 0 rfl; have hks4 := (hks3.alloc (.cells #[.slice A m c] 41)).grown hg4 (hks.ne_own (by decide) HCO.out.own));go_roundw
    case rel => exact ⟨n + 1, hv, _, _, _, _, by omega, by go_num, by rw [HHV.out, HNX.out]; rfl, hco4, hks4.far (p := ⟨w.heap.size + 1, 0, none⟩) (by simp) _⟩
    case measure => simp [intOf]; omega
   | true =>
    go_wp2_with fail;refine HCA.out.mono ?_;rintro e w3 ⟨A, m, c, rfl, hset, hd, hb3⟩;have b3 := below_call b2 hb3;have HSET := Lib.hid (hset.mono (S' := fun b => b < w.heap.size ∨ (wr.heap.size ≤ b ∧ b < w3.heap.size)) (fun b hb => by
     rcases hb with h1 | ⟨h1, h2⟩
     ·exact .inl h1
     ·exact .inr ⟨by rw [World.size_alloc] at h1; omega, h2⟩) (Kept.refl _ _))
    have kP3 := HCO.out.hP.below b3 lP;have q0 := box_cells kP3 0 rfl;have hks3 := hks.below b3 hks.lt;have hB3 : w.heap.size ≤ (w3.alloc (.cells #[.slice A m c] 41)).heap.size := by rw [World.size_alloc]; have := b3.size; have := bl1.size; omega
    have HOW := Lib.hid ((HCO.out.own.call b3).alloc (.cells #[.slice A m c] 41));clear hset hb3 b2 z0 z1 z2 z3 z4 z5 HCA kP3;go_wp2_with (at_builtin; refine appP elt_sets3 rfl _ _ rfl (w3.alloc (.cells #[.slice A m c] 41)) w.heap.size _ _ _ css.flatten _ 1 1 [.slice A m c] (by rfl) (by rfl) HOW.out rfl (fun _ => news_new _ _ _ (by omega)) (by simp [Value.oneCell']) (by omega) hB3 ?_; intro ra' rc' w4 ho4 hg4 _ hat4; obtain ⟨kp4, hco4⟩ := HCO.out.next HRR.out b3 HSET.out hd ho4 hg4 hat4; have f0 := kp4.frozen 0; have g0 := box_cells kp4 0 rfl; have hks4 := (hks3.alloc (.cells #[.slice A m c] 41)).grown hg4 (hks.ne_own (by decide) HCO.out.own));have y1 := box_cells hco4.hP 1 rfl;have fy1 := hco4.hP.frozen 1;have hks5 := hks4.far (p := ⟨w.heap.size + 1, 0, none⟩) (by simp) (.slice ra' (n + 1) rc');clear q0 kp4 f0 g0 ho4 hg4 hat4 hks3 hks4 HOW hB3 b3 hd HSET;generalize w4.setCell ⟨w.heap.size + 1, 0, none⟩ (.slice ra' (n + 1) rc') = w5 at *;go_region;have hco6 := hco4.store 1 (.int .u64 ((hv ||| 2 ^ n : Nat) : Int)) (hv ||| 2 ^ n) 0 rfl 1;change Col w (w5.setCell ⟨w.heap.size + 1, 1, none⟩ (.int .u64 ((hv ||| 2 ^ n : Nat) : Int))).drew _ _ _ _ _ _ _ _ _ _ _ _ _ at hco6;have hks6 : Bk (w5.setCell ⟨w.heap.size + 1, 1, none⟩ (.int .u64 ((hv ||| 2 ^ n : Nat) : Int))).drew w.heap.size 94 #[.slice (some ⟨b, o, none⟩) qn qc, .slice ca cn cc] := hks5.far (p := ⟨w.heap.size + 1, 1, none⟩) (by simp) _;clear hco4 hks5 y1 fy1 hor1 hsh;generalize (w5.setCell ⟨w.heap.size + 1, 1, none⟩ (.int .u64 ((hv ||| 2 ^ n : Nat) : Int))).drew = w6 at *;go_wp2;go_roundw
    case rel => exact ⟨n + 1, hv ||| 2 ^ n, _, _, _, _, by omega, by go_num, by rw [HNX.out, ← HHV.out]; rfl, hco6, hks6⟩
    case measure => simp [intOf]; omega
  ·have x1 := box_cells hks 1 rfl;go_wp2;have hnq2 : n = qn := by omega
   subst hnq2;clear hlt hks x1;go_loopw [54] (fun iv wr => ∃ k K : Nat, k ≤ cn ∧ iv = .int .i64 k ∧ K = maxC cls k ∧ Col w wr (w.heap.size + 1) f rs ca cn cc n hv K ra rc D css) (fun iv _ => cn - (intOf iv).toNat)
   case atStart => exact ⟨0, 0, by omega, rfl, rfl, hco⟩
   case round =>
    obtain ⟨k, K, hkc, rfl, hK, hck⟩ := hrel;have HK := Lib.hid hK;clear hK hco;have y3 := box_cells hck.hP 3 rfl;have fy3 := hck.hP.frozen 3;by_cases hlt : k < cn
    ·obtain ⟨c, hcx⟩ := at_some cls k (by have := HCL.out; omega);obtain ⟨b, o, hca, hb, hcc⟩ := HC.out.pos (by omega);obtain ⟨cs, rfl, hcc2⟩ := hcc k c hcx;have x0 := (hck.bl.cell (p := ⟨b, o + k * 1 + 0, none⟩) hb).trans (hcc2 0 _ rfl);rw [Nat.mul_one, Nat.add_zero] at x0;obtain ⟨c0, c9⟩ := HCC.out c (List.mem_of_getElem? hcx);have HM := Lib.hid (show maxC cls (k + 1) = max (maxC cls k) (c + 1).toNat by rw [maxC, getD_of hcx]);have kz : (0 : Int) ≤ (k : Int) := by omega
     have kn : (k : Int) < (cn : Int) := by omega
     have HCK := Lib.hid hck;have hcaP : ca = some ⟨b, o, none⟩ := hca;subst hcaP;clear hb hcc hcc2 hcx hca hck;have hmx := max_cast K c c0;go_wp2;go_roundw
     case rel => exact ⟨k + 1, max K (c + 1).toNat, by omega, by go_num, by rw [HM.out, ← HK.out], HCK.out.store 3 (.int .i64 ((max K (c + 1).toNat : Nat) : Int)) hv (max K (c + 1).toNat) rfl 0⟩
     case measure => simp [intOf]; omega
    ·have hkc2 : k = cn := by omega
     go_wp2;go_ret;have lP := hck.hP.lt;have e1 : rs.take n = rs := List.take_of_length_le (by have := HL.out; omega);have hrow := hck.row;rw [e1] at hrow;have hPr : some (w.heap.size + 1) ≠ ra.map (·.block) := hck.hP.ne_own (by decide) hck.own;refine ⟨w.heap.size + 1, ⟨ra, n, rc, hv, ca, cn, cc, K⟩, fun b => b < wr.heap.size ∧ b ≠ w.heap.size + 1, rfl, by rw [HHV.out, HL.out], by rw [HK.out, HCL.out, hkc2], ?_, fun b h => ⟨Nat.lt_of_lt_of_le h hck.bl.size, by omega⟩, hck.bl⟩;refine ⟨hck.hP, by omega, fun h => h.2 rfl, fun b h => h.1, ⟨hck.own.rowS (hrow.mono fun cs x hx => hx.mono (fun b hb => ⟨(hck.dl b hb).1, (hck.dl b hb).2.1⟩) (Kept.refl _ _)) (by omega) _ (fun b _ h2 e => ⟨h2, fun e2 => hPr (by rw [e, ← e2]; rfl)⟩), ?_, hck.own.cap, hc⟩, ⟨[], Ow.nil _ _ _ _, rfl, (fun _ h => by cases h), fun i cs h => by simp at h⟩, (fun b h => by cases h), by omega⟩;exact HC.out.mono (fun b hb => ⟨Nat.lt_of_lt_of_le hb hck.bl.size, fun e => by unfold lo at hb; omega⟩) (kept_below hck.bl)
def SrcFn (h : FuncId) (f : Rul → List (List Int) × Bool) : Prop := (∀ args w, Sem.run Tryz.prog (callFunc h args) w = Result.ok (Next.enter h args) w) ∧ ∀ (qa : Option Addr) (qn qc : Nat) (ca : Option Addr) (cn cc : Nat) (rs : List Rul) (cls : List Int) (w : World), RdR w (lo w.heap.size) qa qn rs → Rd w (lo w.heap.size) ca cn cls → Hd qn qc → Hd cn cc →
 rs.length ≤ 64 → (∀ r ∈ rs, r.inn.length + r.ahead.length ≤ 1000000) → (∀ c ∈ cls, 0 ≤ c ∧ c ≤ 65536) →
  Calls Tryz.prog h #[.agg #[.slice qa qn qc, .slice ca cn cc]] w fun e w' => ∃ (B P : Nat) (r : WV) (D : Nat → Prop), e = .returned (.pointer (some ⟨P, 0, none⟩)) ∧ w.heap.size ≤ B ∧ r.hv = hvF f rs rs.length ∧ r.K = maxC cls cls.length ∧ RO w' B D P r (rowsF f rs) cls none 0 0 ∧ Below w.heap.size w w' ∧ ∀ b, b < w.heap.size → D b
set_option maxRecDepth 100000 in
set_option maxHeartbeats 400000 in
theorem fore_c : SrcFn 22 foreR := by
 refine ⟨fun _ _ => by kernel_rfl, fun qa qn qc ca cn cc rs cls w hR hC hq hc hn hs hcl => ?_⟩;have hb : Below w.heap.size w (w.alloc (.cells #[.slice qa qn qc, .slice ca cn cc] 94)) := (Below.refl _ _).alloc (Nat.le_refl _) _;have HC := Lib.hid (collect_c 44 foreR fore1_c qa qn qc ca cn cc rs cls _ (hR.call hb) (hC.call hb) hq hc hn hs hcl);clear hR hC hs hcl;go_enter Tryz.func22, Tryz.ntmps22;go_wp2_with fail;refine HC.out.mono ?_;rintro e w2 ⟨P, r, D, rfl, h1, h2, h3, hd0, h4⟩;have H1 := Lib.hid h1;have H2 := Lib.hid h2;clear h1 h2;go_wp2;go_ret;exact ⟨_, P, r, D, rfl, hb.size, H1.out, H2.out, h3, below_call hb h4, fun b h => hd0 b (Nat.lt_of_lt_of_le h hb.size)⟩
set_option maxRecDepth 100000 in
set_option maxHeartbeats 400000 in
theorem back_c : SrcFn 23 backR := by
 refine ⟨fun _ _ => by kernel_rfl, fun qa qn qc ca cn cc rs cls w hR hC hq hc hn hs hcl => ?_⟩;have hb : Below w.heap.size w (w.alloc (.cells #[.slice qa qn qc, .slice ca cn cc] 94)) := (Below.refl _ _).alloc (Nat.le_refl _) _;have HC := Lib.hid (collect_c 45 backR back1_c qa qn qc ca cn cc rs cls _ (hR.call hb) (hC.call hb) hq hc hn hs hcl);clear hR hC hs hcl;go_enter Tryz.func23, Tryz.ntmps23;go_wp2_with fail;refine HC.out.mono ?_;rintro e w2 ⟨P, r, D, rfl, h1, h2, h3, hd0, h4⟩;have H1 := Lib.hid h1;have H2 := Lib.hid h2;clear h1 h2;go_wp2;go_ret;exact ⟨_, P, r, D, rfl, hb.size, H1.out, H2.out, h3, below_call hb h4, fun b h => hd0 b (Nat.lt_of_lt_of_le h hb.size)⟩
end Go.Proofs.YtkmdakampkfioaaGreatDoor
namespace Go.Proofs.YtkmdakampkfioaaGreatDoor
open Go.RowKit Go.Shelf Go.Maps
def tagOf (w : World) (b : Nat) : Option Nat := match w.heap[b]? with | some (.cells _ t _) => some (t + 1) | some (.map _ _) => some 0 | _ => none
theorem tag_ne {w : World} {b x y : Nat} (h1 : tagOf w b = some x) (h2 : tagOf w b = some y) (hne : x ≠ y) : False := by
 rw [h1] at h2; injection h2 with h2; exact hne h2
theorem Bk.tag {w : World} {g t : Nat} {cs : Array Value} (h : Bk w g t cs) : tagOf w g = some (t + 1) := by unfold tagOf; rw [show w.heap[g]? = _ from h]
theorem Ow.tag {w : World} {base e k n c : Nat} {A : Option Addr} {cs : List Value} (h : Ow e k w base A n c cs) {b : Nat} (hb : A.map (·.block) = some b) : tagOf w b = some (e + 1) := by
 obtain ⟨_, _, _, cur, h4⟩ := h.blk b hb;unfold tagOf; rw [h4]
theorem MapK.tag {κ : Type} {kv : κ → Value} {w : World} {b : Nat} {l : List (κ × Value)} (h : MapK kv w b l) : tagOf w b = some 0 := by
 obtain ⟨es, h1, _⟩ := h;unfold tagOf; rw [h1]
theorem beq_dec (a b : ByteArray) : (a == b) = decide (a = b) := by
 rw [Bool.eq_iff_iff, MapKept.bytes_beq]; simp
theorem keyS : KeyOK (κ := ByteArray) 9 Value.string := KeyOK.ofNow Tryz.underlying9 (fun a b => by rw [← beq_dec a b]; rfl) (fun em k w => by
 unfold Instr.checkKey; simp [run_underlying Tryz.underlying9]) (fun k => by unfold Instr.sameBits; exact (MapKept.bytes_beq k k).2 rfl)
def plC (met : List (Nat × Nat)) : List (List Value) := met.map fun p => [.int .i64 (p.1 : Int), .int .u64 (p.2 : Int)]
theorem plC_two (met : List (Nat × Nat)) : ∀ cs ∈ plC met, cs.length = 2 := by intro cs h; obtain ⟨p, _, rfl⟩ := List.mem_map.1 h; rfl
theorem plC_app (met ms : List (Nat × Nat)) : plC (met ++ ms) = plC met ++ plC ms := by simp [plC]
theorem plC_at {met : List (Nat × Nat)} {i : Nat} {p : Nat × Nat} (h : met[i]? = some p) : (plC met)[i]? = some [.int .i64 (p.1 : Int), .int .u64 (p.2 : Int)] := by unfold plC; rw [List.getElem?_map, h]; rfl
def numL (met : List (Nat × Nat)) : List (ByteArray × Value) := met.zipIdx.map fun x => (textS x.1, .int .i64 (x.2 : Int))
theorem numL_keys (met : List (Nat × Nat)) : (numL met).map (·.1) = met.map textS := by
 unfold numL;rw [List.map_map];apply List.ext_getElem?;intro i;rw [List.getElem?_map, List.getElem?_map, List.getElem?_zipIdx];cases met[i]? <;> rfl
theorem numL_at {met : List (Nat × Nat)} {i : Nat} {p : Nat × Nat} (h : met[i]? = some p) : (numL met)[i]? = some (textS p, .int .i64 (i : Int)) := by
 unfold numL; rw [List.getElem?_map, List.getElem?_zipIdx, h]; simp
theorem numL_snoc (met : List (Nat × Nat)) (p : Nat × Nat) : numL (met ++ [p]) = numL met ++ [(textS p, .int .i64 (met.length : Int))] := by
 unfold numL; rw [List.zipIdx_append, List.map_append]; simp
def Pok (p : Nat × Nat) : Prop := p.1 < 18446744073709551616 ∧ p.2 < 18446744073709551616
theorem num_pos {met : List (Nat × Nat)} {p : Nat × Nat} (hm : ∀ q ∈ met, Pok q) (hp : Pok p) : posK ((numL met).map (·.1)) (textS p) = posK met p := by
 rw [numL_keys];exact idxOf_map (fun a b ha hb e => textS_inj ha.1 ha.2 hb.1 hb.2 e) hm hp
theorem meetL_pos (met : List (Nat × Nat)) (p : Nat × Nat) : meetL met p = match posK met p with | some i => (i, met) | none => (met.length, met ++ [p]) := rfl
theorem zeroI (w : World) : (zeroValue 3).run Tryz.prog w = .ok (.int .i64 0) w := by kernel_rfl
structure MT (W : World) (B NB MB mb : Nat) (met : List (Nat × Nat)) (ma : Option Addr) (mc : Nat) : Prop where
 kn : Bk W NB 127 #[.map (some mb)]
 km : Bk W MB 128 #[.slice ma met.length mc]
 mp : MapK Value.string W mb (numL met)
 ow : Ow 130 2 W B ma met.length mc (plC met).flatten
 bn : B ≤ NB
 bm : B ≤ MB
 bb : B ≤ mb
 ok : ∀ q ∈ met, Pok q
def MT.blk (NB MB mb : Nat) (ma : Option Addr) (b : Nat) : Prop := b = NB ∨ b = MB ∨ b = mb ∨ ma.map (·.block) = some b
section
variable {W W' : World} {B NB MB mb : Nat} {met : List (Nat × Nat)} {ma : Option Addr} {mc : Nat}
theorem MT.tags (h : MT W B NB MB mb met ma mc) {b : Nat} (hb : MT.blk NB MB mb ma b) : tagOf W b = some (127 + 1) ∨ tagOf W b = some (128 + 1) ∨ tagOf W b = some 0 ∨ tagOf W b = some (130 + 1) := by
 rcases hb with rfl | rfl | rfl | hb
 ·exact .inl h.kn.tag
 ·exact .inr (.inl h.km.tag)
 ·exact .inr (.inr (.inl h.mp.tag))
 ·exact .inr (.inr (.inr (h.ow.tag hb)))
theorem MT.lt (h : MT W B NB MB mb met ma mc) {b : Nat} (hb : MT.blk NB MB mb ma b) : b < W.heap.size ∧ B ≤ b := by
 rcases hb with rfl | rfl | rfl | hb
 ·exact ⟨h.kn.lt, h.bn⟩
 ·exact ⟨h.km.lt, h.bm⟩
 ·exact ⟨h.mp.lt, h.bb⟩
 ·exact ⟨(h.ow.blk b hb).2.1, (h.ow.blk b hb).1⟩
theorem MT.keep (h : MT W B NB MB mb met ma mc) (hk : ∀ b, MT.blk NB MB mb ma b → W'.heap[b]? = W.heap[b]?) : MT W' B NB MB mb met ma mc :=
 ⟨(hk NB (.inl rfl)).trans h.kn, (hk MB (.inr (.inl rfl))).trans h.km, h.mp.keep (hk mb (.inr (.inr (.inl rfl)))), h.ow.keep fun b e => hk b (.inr (.inr (.inr (by rw [e]; rfl)))), h.bn, h.bm, h.bb, h.ok⟩
theorem MT.call (h : MT W B NB MB mb met ma mc) (hb : Below W.heap.size W W') : MT W' B NB MB mb met ma mc := h.keep fun b hb' => hb.block b (h.lt hb').1
end
structure MtPost (W W' : World) (B NB MB mb : Nat) (ma ma' : Option Addr) : Prop where
 bl : Below B W W'
 oth : ∀ b, b < W.heap.size → ¬ MT.blk NB MB mb ma b → W'.heap[b]? = W.heap[b]?
 ab : ∀ b, ma'.map (·.block) = some b → ma.map (·.block) = some b ∨ W.heap.size ≤ b
def MeetR (w : World) (B NB MB mb : Nat) (met : List (Nat × Nat)) (ma : Option Addr) (p : Nat × Nat) (e : Ending) (w' : World) : Prop := ∃ ma' mc', e = .returned (.int .i64 ((meetL met p).1 : Int)) ∧ MT w' B NB MB mb (meetL met p).2 ma' mc' ∧ MtPost w w' B NB MB mb ma ma'
theorem MT.push {w w2 w3 w4 : World} {B NB MB mb : Nat} {met : List (Nat × Nat)} {ma ma' : Option Addr} {mc mc' : Nat} {p : Nat × Nat} (hB : B ≤ w.heap.size) (hp : Pok p) (b2 : Below w.heap.size w w2) (h2 : MT w2 B NB MB mb met ma mc) (hw : ∀ b, MT.blk NB MB mb ma b → b < w.heap.size) (hg3 : w2.grownBy w3 (some mb)) (hmp : MapK Value.string w3 mb (numL (met ++ [p]))) {o : Obj}
  (ho4 : Ow 130 2 w4 B ma' (met.length + 1) mc' ((plC met).flatten ++ [.int .i64 (p.1 : Int), .int .u64 (p.2 : Int)])) (hg4 : (w3.alloc o).grownBy w4 (ma.map (·.block))) (hat : ma'.map (·.block) = ma.map (·.block) ∨ ma'.map (·.block) = some (w3.alloc o).heap.size) :
  MT (w4.setCell ⟨MB, 0, none⟩ (.slice ma' (met.length + 1) mc')) B NB MB mb (met ++ [p]) ma' mc' ∧ MtPost w (w4.setCell ⟨MB, 0, none⟩ (.slice ma' (met.length + 1) mc')) B NB MB mb ma ma' := by
 have s2 := b2.size;have s3 := hg3.size;have s4 := hg4.size;rw [World.size_alloc] at s4;have t1 : MB ≠ mb := fun e => by subst e; exact tag_ne h2.km.tag h2.mp.tag (by decide)
 have t2 : NB ≠ mb := fun e => by subst e; exact tag_ne h2.kn.tag h2.mp.tag (by decide)
 have t3 : NB ≠ MB := fun e => by subst e; exact tag_ne h2.km.tag h2.kn.tag (by decide)
 have t4 : ∀ b, ma.map (·.block) = some b → b ≠ mb ∧ b ≠ NB ∧ b ≠ MB := fun b hb => ⟨fun e => by subst e; exact tag_ne (h2.ow.tag hb) h2.mp.tag (by decide), fun e => by subst e; exact tag_ne (h2.ow.tag hb) h2.kn.tag (by decide), fun e => by subst e; exact tag_ne (h2.ow.tag hb) h2.km.tag (by decide)⟩;have l1 := (h2.lt (.inl rfl)).1;have l2 := (h2.lt (.inr (.inl rfl))).1;have l3 := (h2.lt (.inr (.inr (.inl rfl)))).1;have far : ∀ b, b < w2.heap.size → b ≠ MB → b ≠ mb → ma.map (·.block) ≠ some b → (w4.setCell ⟨MB, 0, none⟩ (.slice ma' (met.length + 1) mc')).heap[b]? = w2.heap[b]? := fun b h1 h2 h3 h4 => by
  rw [Below.heap_setCell w4 ⟨MB, 0, none⟩ _ b h2, hg4.block b (by rw [World.size_alloc]; omega) (fun e => h4 e.symm), Below.heap_alloc w3 o b (by omega), hg3.block b h1 (fun e => h3 (by injection e with e))]
 have hmbk : (w4.setCell ⟨MB, 0, none⟩ (.slice ma' (met.length + 1) mc')).heap[mb]? = w3.heap[mb]? := by
  rw [Below.heap_setCell w4 ⟨MB, 0, none⟩ _ mb (fun e => t1 e.symm), hg4.block mb (by rw [World.size_alloc]; omega) (fun e => (t4 mb e.symm).1 rfl), Below.heap_alloc w3 o mb (by omega)]
 have km4 : Bk w4 MB 128 #[.slice ma met.length mc] := by
  have e : w4.heap[MB]? = w2.heap[MB]? := by
   rw [hg4.block MB (by rw [World.size_alloc]; omega) (fun e => (t4 MB e.symm).2.2 rfl), Below.heap_alloc w3 o MB (by omega), hg3.block MB l2 (fun e => t1 (by injection e with e))]
  exact e.trans h2.km
 have hma' : ∀ b, ma'.map (·.block) = some b → ma.map (·.block) = some b ∨ w3.heap.size + 1 = b := fun b hb => by
  rcases hat with e | e
  ·left; rw [← e]; exact hb
  ·right; rw [e, World.size_alloc] at hb; injection hb with hb
 have hlen : (met ++ [p]).length = met.length + 1 := by simp
 refine ⟨⟨(far NB l1 t3 t2 (fun e => (t4 NB e).2.1 rfl)).trans h2.kn, by rw [hlen]; exact km4.set_ 0 _, hmp.keep hmbk, ?_, h2.bn, h2.bm, h2.bb, fun q hq => ?_⟩, ?_, fun b hb hn => ?_, fun b hb => ?_⟩
 ·rw [hlen, plC_app, List.flatten_append];exact ho4.setOther (p := ⟨MB, 0, none⟩) (fun b e => by
   rcases hma' b (by rw [e]; rfl) with h | h
   ·exact (t4 b h).2.2
   ·show b ≠ MB; omega) _
 ·rcases List.mem_append.1 hq with hq | hq
  ·exact h2.ok q hq
  ·rw [List.mem_singleton] at hq; rw [hq]; exact hp
 ·have b3 : Below B w w3 := (b2.mono hB).grown hg3 (by omega) (fun b e => by injection e with e; rw [← e]; exact h2.bb);exact ((b3.alloc (by omega) o).grown hg4 (by rw [World.size_alloc]; omega) (fun b e => (h2.ow.blk b e).1)).setCell (p := ⟨MB, 0, none⟩) h2.bm _
 ·rw [far b (by omega) (fun e => hn (.inr (.inl e))) (fun e => hn (.inr (.inr (.inl e)))) (fun e => hn (.inr (.inr (.inr e)))), b2.block b hb]
 ·rcases hma' b hb with h | h
  ·exact .inl h
  ·right; omega
set_option maxRecDepth 100000 in
set_option maxHeartbeats 1000000 in
theorem meet_c (B NB MB mb : Nat) (met : List (Nat × Nat)) (ma : Option Addr) (mc : Nat) (p : Nat × Nat) (w : World) (h : MT w B NB MB mb met ma mc) (hB : B ≤ w.heap.size) (hp : Pok p) (hl : met.length ≤ 1000000) :
  Calls Tryz.prog 38 #[.agg #[.int .i64 (p.1 : Int), .int .u64 (p.2 : Int)], .pointer (some ⟨NB, 0, none⟩), .pointer (some ⟨MB, 0, none⟩)] w (MeetR w B NB MB mb met ma p) := by
 have b1 : Below w.heap.size w (w.alloc (.cells #[.int .i64 (p.1 : Int), .int .u64 (p.2 : Int)] 130)) := (Below.refl _ _).alloc (Nat.le_refl _) _;have k1 := Bk.new w 130 #[.int .i64 (p.1 : Int), .int .u64 (p.2 : Int)];have HT := Lib.hid (text_c p.1 p.2 (w.alloc (.cells #[.int .i64 (p.1 : Int), .int .u64 (p.2 : Int)] 130)));have HH := Lib.hid h;have HPO := Lib.hid (num_pos h.ok hp);have x0 := box_cells k1 0 rfl;have x1 := box_cells k1 1 rfl;have mp1 : 0 < (1 : Nat) := by omega
 clear h;go_enter Tryz.func38, Tryz.ntmps38;go_wp2_with fail;refine HT.out.mono ?_;rintro e w2 ⟨rfl, hb2⟩;have b2 := below_call b1 hb2;have h2 := HH.out.call b2;have k2 := k1.below hb2 k1.lt;have y0 := box_cells k2 0 rfl;have y1 := box_cells k2 1 rfl;have n0 := box_cells h2.kn 0 rfl;have m0 := box_cells h2.km 0 rfl;have fm := h2.km.frozen 0;have HK2 := Lib.hid h2;have HKB := Lib.hid k2;clear x0 x1 k1 HT hb2 b1 mp1;cases hpos : posK met p with
 | some i =>
  have hi := posK_some hpos;have hlk : lkK (numL met) (textS p) = some (.int .i64 (i : Int)) := by
   unfold lkK; rw [HPO.out, hpos, Option.bind_some, numL_at hi]; rfl
  have hlook := run_lookK Tryz.underlying127 keyS (.int .i64 0) zeroI h2.mp (textS p) true;rw [hlk] at hlook;simp only [if_true, Option.getD_some, Option.isSome_some] at hlook;have hm : meetL met p = (i, met) := by rw [meetL_pos, hpos]
  have HM := Lib.hid hm;clear hi hlk hpos hm h2 k2;go_wp2;go_ret;exact ⟨ma, mc, by rw [HM.out]; rfl, by rw [HM.out]; exact HK2.out, b2.mono hB, fun b hb _ => b2.block b hb, fun b hb => .inl hb⟩
 | none =>
  have hnm := posK_none hpos;have hlk : lkK (numL met) (textS p) = none := by
   unfold lkK; rw [HPO.out, hpos]; rfl
  have hlook := run_lookK Tryz.underlying127 keyS (.int .i64 0) zeroI h2.mp (textS p) true;rw [hlk] at hlook;simp only [if_true, Option.getD_none, Option.isSome_none] at hlook;have hm : meetL met p = (met.length, met ++ [p]) := by rw [meetL_pos, hpos]
  have HM := Lib.hid hm;obtain ⟨w3, hput, hmp3, hg3⟩ := run_putK Tryz.underlying127 keyS h2.mp (textS p) (.int .i64 (met.length : Int));have HMP := Lib.hid (show MapK Value.string w3 mb (numL (met ++ [p])) by
   rw [numL_snoc];have e : putK (numL met) (textS p) (.int .i64 (met.length : Int)) = numL met ++ [(textS p, .int .i64 (met.length : Int))] := by unfold putK; rw [HPO.out, hpos]
   rw [e] at hmp3; exact hmp3)
  have tm := h2.mp.tag;have kn3 := h2.kn.grown hg3 (fun e => by injection e with e; subst e; exact tag_ne tm h2.kn.tag (by decide));have km3 := h2.km.grown hg3 (fun e => by injection e with e; subst e; exact tag_ne tm h2.km.tag (by decide));have k3 := k2.grown hg3 (fun e => by injection e with e; subst e; exact tag_ne tm k2.tag (by decide));have ow3 := h2.ow.grown hg3 (fun b e e2 => by injection e2 with e2; subst e2; exact tag_ne tm (h2.ow.tag (by rw [e]; rfl)) (by decide));have z0 := box_cells k3 0 rfl;have z1 := box_cells k3 1 rfl;have mm0 := box_cells km3 0 rfl;have b3 : Below B w2 w3 := (Below.refl _ _).grown hg3 (by have := b2.size; omega) (fun b e => by injection e with e; rw [← e]; exact h2.bb);have hB3 : B ≤ w3.heap.size := by have := b2.size; have := hg3.size; omega
  have HOW := Lib.hid (ow3.alloc (.cells #[.int .i64 (p.1 : Int), .int .u64 (p.2 : Int)] 130));have k3 := km3;clear hpos hlk hmp3 hm h2 k2 y0 y1;go_wp2_with (at_builtin; refine appP elt_places rfl _ _ rfl (w3.alloc (.cells #[.int .i64 (p.1 : Int), .int .u64 (p.2 : Int)] 130)) B _ _ _ (plC met).flatten _ 1 1 [.int .i64 (p.1 : Int), .int .u64 (p.2 : Int)] (by rfl) (by rfl) HOW.out rfl (fun _ => news_new _ _ _ (by omega)) (by simp [Value.oneCell']) (by omega) (by rw [World.size_alloc]; omega) ?_; intro ma' mc' w4 ho4 hg4 hb4 hat4; have km4 := (km3.alloc (.cells #[.int .i64 (p.1 : Int), .int .u64 (p.2 : Int)] 130)).grown hg4 ((km3.alloc _).ne_own (by decide) HOW.out); have f4 := km4.frozen 0; have x4 := box_cells km4 0 rfl);go_ret;obtain ⟨q1, q2⟩ := MT.push hB hp b2 HK2.out (fun b hb => (HH.out.lt hb).1) hg3 HMP.out ho4 hg4 hat4;exact ⟨ma', mc', by rw [HM.out]; rfl, by rw [HM.out]; exact q1, q2⟩
end Go.Proofs.YtkmdakampkfioaaGreatDoor
