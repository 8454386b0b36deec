/- Walks: Build. -/
import Derived.Test.YtgcmedkaadagmaaDoorB1
import Derived.Test.YtgcmedkaadagmaaDoorV14
import Derived.Test.YtgcmedkaadagmaaDoorS6W10
namespace Go.Proofs.YtgcmedkaadagmaaDoor
open Go.RowKit Go.Shelf

theorem rds_of {w : World} {A : Option Addr} {m : Nat} {xss : List (List Int)} (h : RdV w (lo w.heap.size) A m xss) : S6.Rds w w.heap.size A m xss := by
 refine ⟨h.1, fun hm => ?_⟩
 obtain ⟨b, o, e, hb, hc⟩ := h.2 hm
 refine ⟨b, o, e, hb, fun i xs hx => ?_⟩
 obtain ⟨cs, ⟨Ai, ni, ci, rfl, h1, h2⟩, hcc⟩ := hc i xs hx
 have hc0 := hcc 0 _ rfl
 rw [Nat.mul_one, Nat.add_zero] at hc0
 refine ⟨Ai, ni, ci, hc0, ⟨h1.1, fun hn => ?_⟩, h2⟩
 obtain ⟨b2, o2, e2, hb2, hc2⟩ := h1.2 hn
 refine ⟨b2, o2, e2, hb2, fun j x hj => ?_⟩
 obtain ⟨cs, rfl, hcc2⟩ := hc2 j x hj
 have := hcc2 0 _ rfl
 rw [Nat.mul_one, Nat.add_zero] at this
 exact this
theorem ow_of {w : World} {base n c : Nat} {A : Option Addr} {xs : List Int} (h : S6.Ow w base A n c xs) : Ow 3 1 w base A n c (ic xs) := h
theorem partition_c (n : Nat) (A : Option Addr) (m c : Nat) (xss : List (List Int)) (w : World) (hR : RdV w (lo w.heap.size) A m xss) (hn1 : 1 ≤ n) (hn2 : n ≤ 65536) (hm : m ≤ 100) (hl : ∀ xs ∈ xss, xs.length ≤ 1000) :
  Calls Tryd.prog 34 #[.int .i64 n, .slice A m c] w fun e w' => ∃ A' c', e = .returned (.slice A' n c') ∧ Ow 3 1 w' w.heap.size A' n c' (ic (S6.partL xss n)) ∧ Below w.heap.size w w' :=
 (S6.part_c n A m c xss w (rds_of hR) hn1 hn2 hm hl).mono fun _ _ ⟨A', c', h1, h2, h3⟩ => ⟨A', c', h1, ow_of h2, h3⟩

/-- Five cells stored. -/
def store5 (W : World) (g : Nat) (a b c d e : Value) : World := ((((W.setCell ⟨g, 0, none⟩ a).setCell ⟨g, 1, none⟩ b).setCell ⟨g, 2, none⟩ c).setCell ⟨g, 3, none⟩ d).setCell ⟨g, 4, none⟩ e
theorem store5_bk {W : World} {g t : Nat} {a0 b0 c0 d0 e0 : Value} (h : Bk W g t #[a0, b0, c0, d0, e0]) (a b c d e : Value) : Bk (store5 W g a b c d e) g t #[a, b, c, d, e] := ((((h.set_ 0 a).set_ 1 b).set_ 2 c).set_ 3 d).set_ 4 e
theorem store5_below {B : Nat} {w W : World} {g : Nat} (h : Below B w W) (hg : B ≤ g) (a b c d e : Value) : Below B w (store5 W g a b c d e) :=
 ((((h.setCell (p := ⟨g, 0, none⟩) hg a).setCell (p := ⟨g, 1, none⟩) hg b).setCell (p := ⟨g, 2, none⟩) hg c).setCell (p := ⟨g, 3, none⟩) hg d).setCell (p := ⟨g, 4, none⟩) hg e
theorem store5_kept {S : Nat → Prop} {W : World} (g : Nat) (a b c d e : Value) : Kept (fun x => S x ∧ x ≠ g) W (store5 W g a b c d e) ∧ (store5 W g a b c d e).heap.size = W.heap.size := by
 refine ⟨fun x hx => ?_, by unfold store5; simp⟩
 unfold store5
 rw [Below.heap_setCell _ ⟨g, 4, none⟩ _ x hx.2, Below.heap_setCell _ ⟨g, 3, none⟩ _ x hx.2, Below.heap_setCell _ ⟨g, 2, none⟩ _ x hx.2, Below.heap_setCell _ ⟨g, 1, none⟩ _ x hx.2, Below.heap_setCell _ ⟨g, 0, none⟩ _ x hx.2]
theorem five_none {w : World} {g t : Nat} (hk : Bk w g t #[.slice none 0 0, .slice none 0 0, .slice none 0 0, .slice none 0 0, .slice none 0 0]) {i : Nat} {v : Value} (h : w.cell? ⟨g, i, none⟩ = some v) : v = .slice none 0 0 := by
 rw [hk.cell i] at h
 match i, h with
 | 0, h => injection h with h; exact h.symm
 | 1, h => injection h with h; exact h.symm
 | 2, h => injection h with h; exact h.symm
 | 3, h => injection h with h; exact h.symm
 | 4, h => injection h with h; exact h.symm
 | (n + 5), h => simp at h
theorem Rd.off {w : World} {S : Nat → Prop} {g t : Nat} {A : Option Addr} {n : Nat} {xs : List Int} (h : Rd w S A n xs) (hk : Bk w g t #[.slice none 0 0, .slice none 0 0, .slice none 0 0, .slice none 0 0, .slice none 0 0]) : Rd w (fun b => S b ∧ b ≠ g) A n xs := by
 refine ⟨h.1, fun hn => ?_⟩
 obtain ⟨b, o, e, hb, hc⟩ := h.2 hn
 refine ⟨b, o, e, ⟨hb, fun e2 => ?_⟩, hc⟩
 subst e2
 obtain ⟨x, hx⟩ := at_some xs 0 (by have := h.1; omega)
 obtain ⟨cs, rfl, hcc⟩ := hc 0 x hx
 have := five_none hk (hcc 0 _ rfl)
 cases this
theorem RdU.off {w : World} {S : Nat → Prop} {g t : Nat} {A : Option Addr} {n : Nat} {xs : List Nat} (h : RdU w S A n xs) (hk : Bk w g t #[.slice none 0 0, .slice none 0 0, .slice none 0 0, .slice none 0 0, .slice none 0 0]) : RdU w (fun b => S b ∧ b ≠ g) A n xs := by
 refine ⟨h.1, fun hn => ?_⟩
 obtain ⟨b, o, e, hb, hc⟩ := h.2 hn
 refine ⟨b, o, e, ⟨hb, fun e2 => ?_⟩, hc⟩
 subst e2
 obtain ⟨x, hx⟩ := at_some xs 0 (by have := h.1; omega)
 obtain ⟨cs, ⟨rfl, _⟩, hcc⟩ := hc 0 x hx
 have := five_none hk (hcc 0 _ rfl)
 cases this
theorem RdV.off {w : World} {S : Nat → Prop} {g t : Nat} {A : Option Addr} {n : Nat} {xs : List (List Int)} (h : RdV w S A n xs) (hk : Bk w g t #[.slice none 0 0, .slice none 0 0, .slice none 0 0, .slice none 0 0, .slice none 0 0]) (hne : ∀ row ∈ xs, row ≠ []) : RdV w (fun b => S b ∧ b ≠ g) A n xs := by
 refine ⟨h.1, fun hn => ?_⟩
 obtain ⟨b, o, e, hb, hc⟩ := h.2 hn
 refine ⟨b, o, e, ⟨hb, fun e2 => ?_⟩, fun i x hx => ?_⟩
 ·subst e2
  obtain ⟨x, hx⟩ := at_some xs 0 (by have := h.1; omega)
  obtain ⟨cs, ⟨A1, n1, c1, rfl, h1, _⟩, hcc⟩ := hc 0 x hx
  have h2 := five_none hk (hcc 0 _ rfl)
  injection h2 with h3 h4 h5
  exact hne x (List.mem_of_getElem? hx) (List.eq_nil_of_length_eq_zero (by rw [h1.len, h4]))
 ·obtain ⟨cs, ⟨A1, n1, c1, e1, h1, h2⟩, hcc⟩ := hc i x hx
  exact ⟨cs, ⟨A1, n1, c1, e1, h1.off hk, h2⟩, hcc⟩
theorem half_ne {f : Rul → List (List Int) × Bool} {rs : List Rul} {n : Nat} {x : List (List Int) × List (Nat × Nat)} (h : halfL f rs n = some x) (hK : 1 ≤ KL rs n) : ∀ row ∈ x.1, row ≠ [] := fun row hr e => by
 have hst : StOK (nxP (rowsF f rs) (clsL rs n)) (KL rs n) (0, hvF f rs rs.length) x.2.length x.2 x.1 := allL_ok h
 obtain ⟨i, hi⟩ := List.mem_iff_getElem?.1 hr
 have hl := (List.getElem?_eq_some_iff.1 hi).1
 have hlen := hst.len
 obtain ⟨p, hp⟩ := at_some x.2 i (by omega)
 obtain ⟨h1, _⟩ := hst.all i p row hp hi
 rw [e] at h1; simp at h1; omega

/-- What Build leaves. -/
def BuildR (w : World) (F : Fnt) (k : Int) (e : Ending) (w' : World) : Prop := Below w.heap.size w w' ∧
 match buildL F k with
 | (some a, _) => ∃ v : AV, e = .returned (.tuple #[.agg v.cells, .int .i64 0]) ∧ IsA w' (lo w'.heap.size) v a
 | (none, er) => e = .returned (.tuple #[.agg #[.slice none 0 0, .slice none 0 0, .slice none 0 0, .slice none 0 0, .slice none 0 0], .int .i64 er])

set_option maxRecDepth 100000 in
set_option maxHeartbeats 4000000 in
theorem build_c (f : FV) (F : Fnt) (k : Int) (w : World) (hf : IsF w (lo w.heap.size) f F) (hs : ∀ lk, lkAt F k = some lk → lk.rules.length ≤ 64 → SmB lk.rules) :
  Calls Tryd.prog 15 #[.agg f.cells, .int .i64 k] w (BuildR w F k) := by
 obtain ⟨u0, ga, gn, gc, ca, cn, cc, la, ln, lc, a4, n4, c4, a5, n5, c5, a6, n6, c6, a7, n7, c7, a8, n8, c8⟩ := f
 obtain ⟨hg, hl, dg, dl⟩ := hf
 unfold FV.cells
 dsimp only at hg hl dg dl ⊢
 have lg := hg.len
 have ll := hl.len
 have dg1 := dg.1
 have dg2 := dg.2
 have dl1 := dl.1
 have dl2 := dl.2
 have k0 := (Bk.new w 33 #[.int .i64 u0, .slice ga gn gc, .slice ca cn cc, .slice la ln lc, .slice a4 n4 c4, .slice a5 n5 c5, .slice a6 n6 c6, .slice a7 n7 c7, .slice a8 n8 c8]).alloc (.cells #[.slice none 0 0, .slice none 0 0, .slice none 0 0, .slice none 0 0, .slice none 0 0] 38)
 have b0 : Below w.heap.size w ((w.alloc (.cells #[.int .i64 u0, .slice ga gn gc, .slice ca cn cc, .slice la ln lc, .slice a4 n4 c4, .slice a5 n5 c5, .slice a6 n6 c6, .slice a7 n7 c7, .slice a8 n8 c8] 33)).alloc (.cells #[.slice none 0 0, .slice none 0 0, .slice none 0 0, .slice none 0 0, .slice none 0 0] 38)) := below_lit _ _ (below_lit _ _ (Below.refl _ _) _) _
 have bad1 : ∀ er, buildL F k = (none, er) → BuildR w F k (.returned (.tuple #[.agg #[.slice none 0 0, .slice none 0 0, .slice none 0 0, .slice none 0 0, .slice none 0 0], .int .i64 er])) ((w.alloc (.cells #[.int .i64 u0, .slice ga gn gc, .slice ca cn cc, .slice la ln lc, .slice a4 n4 c4, .slice a5 n5 c5, .slice a6 n6 c6, .slice a7 n7 c7, .slice a8 n8 c8] 33)).alloc (.cells #[.slice none 0 0, .slice none 0 0, .slice none 0 0, .slice none 0 0, .slice none 0 0] 38)) := fun er h => ⟨b0, by rw [h]⟩
 have HBAD := Lib.hid bad1
 have c1 : ((w.alloc (.cells #[.int .i64 u0, .slice ga gn gc, .slice ca cn cc, .slice la ln lc, .slice a4 n4 c4, .slice a5 n5 c5, .slice a6 n6 c6, .slice a7 n7 c7, .slice a8 n8 c8] 33)).alloc (.cells #[.slice none 0 0, .slice none 0 0, .slice none 0 0, .slice none 0 0, .slice none 0 0] 38)).cell? ⟨w.heap.size, 1, none⟩ = some (.slice ga gn gc) := box_cells k0 1 rfl
 have c3 : ((w.alloc (.cells #[.int .i64 u0, .slice ga gn gc, .slice ca cn cc, .slice la ln lc, .slice a4 n4 c4, .slice a5 n5 c5, .slice a6 n6 c6, .slice a7 n7 c7, .slice a8 n8 c8] 33)).alloc (.cells #[.slice none 0 0, .slice none 0 0, .slice none 0 0, .slice none 0 0, .slice none 0 0] 38)).cell? ⟨w.heap.size, 3, none⟩ = some (.slice la ln lc) := box_cells k0 3 rfl
 clear bad1
 by_cases h0 : k < 0
 ·have hb : buildL F k = (none, 1) := by unfold buildL lkAt; rw [if_pos h0]
  have t0 : decide (k < 0) = true := by simp; omega
  have HB := Lib.hid hb
  clear hg hl lg ll hs hb k0
  go_enter Tryd.func15, Tryd.ntmps15
  go_wp2
  exact bodyPost_ret (v := .tuple #[.agg #[.slice none 0 0, .slice none 0 0, .slice none 0 0, .slice none 0 0, .slice none 0 0], .int .i64 1]) (by simp [results, Tryd.results15, go_sem]) rfl (HBAD.out 1 HB.out)

 have t0 : decide (k < 0) = false := by simp; omega
 by_cases h1 : (ln : Int) ≤ k
 ·have hb : buildL F k = (none, 1) := by unfold buildL lkAt; rw [if_neg h0, List.getElem?_eq_none (by omega)]
  have t1 : decide ((ln : Int) ≤ k) = true := by simp; omega
  have HB := Lib.hid hb
  clear hg hl lg ll hs hb k0
  go_enter Tryd.func15, Tryd.ntmps15
  go_wp2
  exact bodyPost_ret (v := .tuple #[.agg #[.slice none 0 0, .slice none 0 0, .slice none 0 0, .slice none 0 0, .slice none 0 0], .int .i64 1]) (by simp [results, Tryd.results15, go_sem]) rfl (HBAD.out 1 HB.out)

 obtain ⟨j, rfl⟩ : ∃ j : Nat, k = j := ⟨k.toNat, by omega⟩
 have t1 : decide ((ln : Int) ≤ (j : Int)) = false := by simp; omega
 have t1' : decide (ln ≤ j) = false := by simp; omega
 obtain ⟨lk, hlk⟩ := at_some F.lks j (by omega)
 have hla : lkAt F (j : Int) = some lk := by unfold lkAt; rw [if_neg h0, Int.toNat_natCast]; exact hlk
 by_cases h2 : gn = 0
 ·have hb : buildL F (j : Int) = (none, 1) := by unfold buildL; rw [hla]; dsimp only; rw [if_pos (.inl (by omega))]
  have t2 : ((gn : Int) == 0) = true := by simp; omega
  have t2' : (gn == 0) = true := by simpa using h2
  have HB := Lib.hid hb
  clear hg hl lg ll hs hb k0 hla hlk h2
  go_enter Tryd.func15, Tryd.ntmps15
  go_wp2
  exact bodyPost_ret (v := .tuple #[.agg #[.slice none 0 0, .slice none 0 0, .slice none 0 0, .slice none 0 0, .slice none 0 0], .int .i64 1]) (by simp [results, Tryd.results15, go_sem]) rfl (HBAD.out 1 HB.out)

 have t2 : ((gn : Int) == 0) = false := by simp; omega
 have t2' : (gn == 0) = false := by simpa using h2
 by_cases h3 : 65536 < gn
 ·have hb : buildL F (j : Int) = (none, 1) := by unfold buildL; rw [hla]; dsimp only; rw [if_pos (.inr (by omega))]
  have t3 : decide ((65536 : Int) < (gn : Int)) = true := by simp; omega
  have t3' : decide (65536 < gn) = true := by simp; omega
  have HB := Lib.hid hb
  clear hg hl lg ll hs hb k0 hla hlk
  go_enter Tryd.func15, Tryd.ntmps15
  go_wp2
  exact bodyPost_ret (v := .tuple #[.agg #[.slice none 0 0, .slice none 0 0, .slice none 0 0, .slice none 0 0, .slice none 0 0], .int .i64 1]) (by simp [results, Tryd.results15, go_sem]) rfl (HBAD.out 1 HB.out)

 have t3 : decide ((65536 : Int) < (gn : Int)) = false := by simp; omega
 have t3' : decide (65536 < gn) = false := by simp; omega
 obtain ⟨b, o, hlaA, hbl, hcc⟩ := hl.pos (by omega)
 obtain ⟨cs, ⟨qa, qn, qc, rfl, hR, hq⟩, hcc2⟩ := hcc j lk hlk
 have lr := hR.len
 have x2 := (b0.cell (p := ⟨b, o + j * 3 + 2, none⟩) hbl).trans (hcc2 2 _ rfl)
 have jz : (0 : Int) ≤ (j : Int) := by omega
 have jn : (j : Int) < (ln : Int) := by omega
 have hq1 := hq.1
 have hq2 := hq.2
 clear hcc hcc2
 by_cases h4 : 64 < qn
 ·have hb : buildL F (j : Int) = (none, 2) := by unfold buildL; rw [hla]; dsimp only; rw [if_neg (by omega), if_pos (by omega)]
  have t4 : decide ((64 : Int) < (qn : Int)) = true := by simp; omega
  have t4' : decide (64 < qn) = true := by simp; omega
  have HB := Lib.hid hb
  clear hg hl lg ll hs hb k0 hla hlk hR hq
  subst hlaA
  go_enter Tryd.func15, Tryd.ntmps15
  go_wp2
  exact bodyPost_ret (v := .tuple #[.agg #[.slice none 0 0, .slice none 0 0, .slice none 0 0, .slice none 0 0, .slice none 0 0], .int .i64 2]) (by simp [results, Tryd.results15, go_sem]) rfl (HBAD.out 2 HB.out)

 have t4 : decide ((64 : Int) < (qn : Int)) = false := by simp; omega
 have t4' : decide (64 < qn) = false := by simp; omega
 have hsm := hs lk hla (by omega)
 have hbl2 : buildL F (j : Int) = match autoL lk.rules F.gly.length with | some a => (some a, 0) | none => (none, 2) := by unfold buildL; rw [hla]; dsimp only; rw [if_neg (by omega), if_neg (by omega)]; rfl
 have HBL := Lib.hid hbl2
 have HR := Lib.hid hR; have HSM := Lib.hid hsm; have HQ := Lib.hid hq; have LR := Lib.hid lr; have LG := Lib.hid lg
 have kz := Bk.new (w.alloc (.cells #[.int .i64 u0, .slice ga gn gc, .slice ca cn cc, .slice la ln lc, .slice a4 n4 c4, .slice a5 n5 c5, .slice a6 n6 c6, .slice a7 n7 c7, .slice a8 n8 c8] 33)) 38 #[.slice none 0 0, .slice none 0 0, .slice none 0 0, .slice none 0 0, .slice none 0 0]
 rw [World.size_alloc] at kz
 have hk0 := k0
 have hgn1 : 1 ≤ gn := by omega
 have hgn2 : gn ≤ 65536 := by omega
 clear hg hl ll hs hla hlk hR hq hbl2 hsm lr lg k0 h2 h3 h4
 subst hlaA
 go_enter Tryd.func15, Tryd.ntmps15
 go_wp2
 clear c1 c3 x2
 generalize (w.alloc (.cells #[.int .i64 u0, .slice ga gn gc, .slice ca cn cc, .slice (some ⟨b, o, none⟩) ln lc, .slice a4 n4 c4, .slice a5 n5 c5, .slice a6 n6 c6, .slice a7 n7 c7, .slice a8 n8 c8] 33)).alloc (.cells #[.slice none 0 0, .slice none 0 0, .slice none 0 0, .slice none 0 0, .slice none 0 0] 38) = w2 at *
 obtain ⟨rs, hrs⟩ : ∃ rs, lk.rules = rs := ⟨_, rfl⟩
 rw [hrs] at HBL HR HSM LR
 clear hrs HBAD
 go_loopw [7, 51] (fun av iv wr => ∃ (i : Nat) (A : Option Addr) (N c : Nat) (css : List (List Value)), i ≤ qn ∧ iv = .int .i64 i ∧ av = .slice A N c ∧ Ow 23 1 wr w.heap.size A N c css.flatten ∧ RowOf 1 (ERow w (lo w.heap.size)) css (setsL (rs.take i)) ∧ Bk wr w.heap.size 33 #[.int .i64 u0, .slice ga gn gc, .slice ca cn cc, .slice (some ⟨b, o, none⟩) ln lc, .slice a4 n4 c4, .slice a5 n5 c5, .slice a6 n6 c6, .slice a7 n7 c7, .slice a8 n8 c8] ∧ Bk wr (w.heap.size + 1) 38 #[.slice none 0 0, .slice none 0 0, .slice none 0 0, .slice none 0 0, .slice none 0 0] ∧ Below w.heap.size w wr) (fun _ iv _ => qn - (intOf iv).toNat)
 case atStart => exact ⟨0, none, 0, 0, [], by omega, rfl, rfl, Ow.nil _ _ _ _, RowOf.nil, hk0, kz, b0⟩
 case round =>
  obtain ⟨i, A, N, c, css, hiq, rfl, rfl, how, hrow, hkf, hkz, hbw⟩ := hrel
  clear hk0 kz b0
  have hN : css.length = N := by have h1 := how.len; rw [flat_len hrow.2.1] at h1; omega
  have hNs : N = (setsL (rs.take i)).length := by rw [← hN, hrow.1]
  have HNS := Lib.hid hNs
  have hN100 : N ≤ 100 := by
   have h1 := setsL_take rs i
   have h2 := HSM.out.s
   omega
  clear hN hNs
  by_cases hlt : i < qn
  ·obtain ⟨r, hr⟩ := at_some rs i (by have := LR.out; omega)
   obtain ⟨b2, o2, hqa, hb2, hcc⟩ := HR.out.pos (by omega)
   obtain ⟨cs, hE, hcc2⟩ := hcc i r hr
   obtain ⟨A1, n1, c1, A2, n2, c2, A3, n3, c3, A4, n4', c4', A5, n5', c5', rfl, r1, r2, r3, hrest⟩ := hE
   clear hrest
   have z0 := (hbw.cell (p := ⟨b2, o2 + i * 6 + 0, none⟩) hb2).trans (hcc2 0 _ rfl)
   have z1 := (hbw.cell (p := ⟨b2, o2 + i * 6 + 1, none⟩) hb2).trans (hcc2 1 _ rfl)
   have z2 := (hbw.cell (p := ⟨b2, o2 + i * 6 + 2, none⟩) hb2).trans (hcc2 2 _ rfl)
   have z3 := (hbw.cell (p := ⟨b2, o2 + i * 6 + 3, none⟩) hb2).trans (hcc2 3 _ rfl)
   have z4 := (hbw.cell (p := ⟨b2, o2 + i * 6 + 4, none⟩) hb2).trans (hcc2 4 _ rfl)
   have z5 := (hbw.cell (p := ⟨b2, o2 + i * 6 + 5, none⟩) hb2).trans (hcc2 5 _ rfl)
   rw [Nat.add_zero] at z0
   obtain ⟨cs1, hrow1, hnl1, hnw1⟩ := RowOf.news r1 erow_len
   obtain ⟨cs2, hrow2, hnl2, hnw2⟩ := RowOf.news r2 erow_len
   obtain ⟨cs3, hrow3, hnl3, hnw3⟩ := RowOf.news r3 erow_len
   have HN1 := Lib.hid (And.intro hnl1 (And.intro hnw1 (hrow1.one_cells erow_one)))
   have HN2 := Lib.hid (And.intro hnl2 (And.intro hnw2 (hrow2.one_cells erow_one)))
   have HN3 := Lib.hid (And.intro hnl3 (And.intro hnw3 (hrow3.one_cells erow_one)))
   have hsum : N + (n1 + (n2 + n3)) ≤ 100 := by
    have h1 := setsL_take rs (i + 1)
    have h2 := HSM.out.s
    have h3 := HNS.out
    rw [setsL_snoc hr] at h1
    simp only [List.length_append] at h1
    rw [r1.len, r2.len, r3.len] at h1
    omega
   have HRW := Lib.hid (show RowOf 1 (ERow w (lo w.heap.size)) (css ++ (cs1 ++ (cs2 ++ cs3))) (setsL (rs.take (i + 1))) by rw [setsL_snoc hr]; exact hrow.app (hrow1.app (hrow2.app hrow3)))
   subst hqa
   have iz : (0 : Int) ≤ (i : Int) := by omega
   have inn : (i : Int) < (qn : Int) := by omega
   obtain ⟨ob, hob⟩ : ∃ ob : Obj, ob = .cells #[.slice A1 n1 c1, .slice A2 n2 c2, .slice A3 n3 c3, .slice A4 n4' c4', .slice A5 n5' c5', .int .i64 r.x] 58 := ⟨_, rfl⟩
   have bW : Below wr.heap.size wr (wr.alloc ob) := (Below.refl _ _).alloc (Nat.le_refl _) _
   have kR : Bk (wr.alloc ob) wr.heap.size 58 #[.slice A1 n1 c1, .slice A2 n2 c2, .slice A3 n3 c3, .slice A4 n4' c4', .slice A5 n5' c5', .int .i64 r.x] := by rw [hob]; exact Bk.new _ _ _
   have how1 := how.alloc ob
   have hkf1 := hkf.alloc ob
   have hkz1 := hkz.alloc ob
   have hbw1 := below_call hbw bW
   have hB1 : w.heap.size ≤ (wr.alloc ob).heap.size := hbw1.size
   subst hob
   clear hr hcc hcc2 hb2 r1 r2 r3 hrow hrow1 hrow2 hrow3 hnl1 hnl2 hnl3 hnw1 hnw2 hnw3 how hkf hkz hbw bW
   go_upto_region 11 with (at_builtin; refine appP elt_row rfl _ _ rfl (wr.alloc (.cells #[.slice A1 n1 c1, .slice A2 n2 c2, .slice A3 n3 c3, .slice A4 n4' c4', .slice A5 n5' c5', .int .i64 r.x] 58)) w.heap.size _ _ _ css.flatten _ _ _ cs1.flatten (by rfl) (by rfl) how1 HN1.out.1 (news_call HN1.out.2.1 hbw1) HN1.out.2.2 (by omega) hB1 ?_; intro Ax cx w3 o3 hg3 hb3 hat3)
   have kR3 := kR.grown hg3 (kR.ne_own (by decide) how1)
   have hkf3 := hkf1.grown hg3 (hkf1.ne_own (by decide) how1)
   have hkz3 := hkz1.grown hg3 (hkz1.ne_own (by decide) how1)
   have hbw3 := hbw1.trans hb3
   have hB3 := hbw3.size
   have u1 := box_cells kR3 1 rfl
   clear kR how1 hkf1 hkz1 hbw1 hB1 hg3 hb3 hat3
   go_upto_region 12 with (at_builtin; refine appP elt_row rfl _ _ rfl w3 w.heap.size _ _ _ (css.flatten ++ cs1.flatten) _ _ _ cs2.flatten (by rfl) (by rfl) o3 HN2.out.1 (news_call HN2.out.2.1 hbw3) HN2.out.2.2 (by omega) hB3 ?_; intro Ay cy w4 o4 hg4 hb4 hat4)
   have kR4 := kR3.grown hg4 (kR3.ne_own (by decide) o3)
   have hkf4 := hkf3.grown hg4 (hkf3.ne_own (by decide) o3)
   have hkz4 := hkz3.grown hg4 (hkz3.ne_own (by decide) o3)
   have hbw4 := hbw3.trans hb4
   have hB4 := hbw4.size
   have u2 := box_cells kR4 2 rfl
   clear kR3 o3 hkf3 hkz3 hbw3 hB3 hg4 hb4 hat4 u1
   go_upto_region 13 with (at_builtin; refine appP elt_row rfl _ _ rfl w4 w.heap.size _ _ _ ((css.flatten ++ cs1.flatten) ++ cs2.flatten) _ _ _ cs3.flatten (by rfl) (by rfl) o4 HN3.out.1 (news_call HN3.out.2.1 hbw4) HN3.out.2.2 (by omega) hB4 ?_; intro Az cz w5 o5 hg5 hb5 hat5)
   have hkf5 := hkf4.grown hg5 (hkf4.ne_own (by decide) o4)
   have hkz5 := hkz4.grown hg5 (hkz4.ne_own (by decide) o4)
   have hbw5 := hbw4.trans hb5
   clear kR4 o4 hkf4 hkz4 hbw4 hB4 hg5 hb5 hat5 u2
   go_wp2
   go_roundw
   case rel => exact ⟨i + 1, Az, N + n1 + n2 + n3, cz, css ++ (cs1 ++ (cs2 ++ cs3)), by omega, by go_num, rfl, by simpa [List.append_assoc] using o5, HRW.out, hkf5, hkz5, hbw5⟩
   case measure => simp [intOf]; omega
  ·have hie : i = qn := by omega
   subst hie
   have hwr : N = (setsL rs).length := by rw [HNS.out, List.take_of_length_le (by have := LR.out; omega)]
   have hrow2 : RowOf 1 (ERow w (lo w.heap.size)) css (setsL rs) := by
    have h1 := hrow
    rw [List.take_of_length_le (by have := LR.out; omega)] at h1
    exact h1
   have hRV : RdV wr (lo wr.heap.size) A N (setsL rs) := how.row (hrow2.mono fun cs x h => h.mono (lo_mono hbw.size) (kept_below hbw)) (by omega)
   have HPA := Lib.hid (partition_c gn A N c (setsL rs) wr hRV hgn1 hgn2 (by omega) (fun xs hx => HSM.out.l xs hx))
   have f1 := box_cells hkf 1 rfl
   have hcls : S6.partL (setsL rs) gn = clsL rs gn := rfl
   rw [hcls] at HPA
   clear hrow hrow2 hRV how hcls hwr HNS
   go_wp2_with fail
   refine HPA.out.mono ?_
   rintro e w3 ⟨A', c', rfl, ho3, hb3⟩
   have HHC := Lib.hid ho3.cap
   have hrc := ho3.rd
   have hbw3 := below_call hbw hb3
   have hkz3 := hkz.below hb3 hkz.lt
   obtain ⟨ob, hob⟩ : ∃ ob : Obj, ob = .cells #[.slice qa i qc, .slice A' gn c'] 92 := ⟨_, rfl⟩
   have bW : Below w3.heap.size w3 (w3.alloc ob) := (Below.refl _ _).alloc (Nat.le_refl _) _
   have kS : Bk (w3.alloc ob) w3.heap.size 92 #[.slice qa i qc, .slice A' gn c'] := by rw [hob]; exact Bk.new _ _ _
   have hkz4 := hkz3.below bW hkz3.lt
   have hbw4 := below_call hbw3 bW
   have hrc4 := hrc.call bW
   have hR4 := HR.out.call hbw4
   have HW0 := Lib.hid (show w.heap.size ≤ w3.heap.size from hbw3.size)
   subst hob
   have HF := Lib.hid (states_c 36 foreR fore_c qa i qc A' gn c' rs (clsL rs gn) _ hR4 hrc4 HQ.out HHC.out (by have := LR.out; have := HSM.out.n; omega) HSM.out.one (fun row hr => by have := fore_len row hr; have := HSM.out.s; omega) (fun c hc => by have := clsL_mem hc; omega) (clsL_gly rs gn) (by have := KL_le rs gn; unfold KL at this; omega))
   have s0 := box_cells kS 0 rfl
   have s1 := box_cells kS 1 rfl
   clear ho3 hrc hb3 hkz3 hbw3 bW f1 hkf hkz hbw HPA
   go_wp2_with fail
   refine HF.out.mono ?_
   rintro e w5 ⟨hb5, hm5⟩
   have kS5 := kS.below hb5 kS.lt
   have hkz5 := hkz4.below hb5 hkz4.lt
   have hbw5 := below_call hbw4 hb5
   have hrc5 := hrc4.call hb5
   have hR5 := hR4.call hb5
   have HHF := Lib.hid (show halfL foreR rs gn = allL (nxP (rowsF foreR rs) (clsL rs gn)) (maxC (clsL rs gn) (clsL rs gn).length) (0, hvF foreR rs rs.length) from rfl)
   have z5 := box_cells hkz5 0 rfl
   have z51 := box_cells hkz5 1 rfl
   have z52 := box_cells hkz5 2 rfl
   have z53 := box_cells hkz5 3 rfl
   have z54 := box_cells hkz5 4 rfl
   have zf5 := hkz5.frozen
   have s0 := box_cells kS5 0 rfl
   have s1 := box_cells kS5 1 rfl
   clear kS hkz4 hb5 hbw4 hrc4 hR4 HF
   generalize hal : allL (nxP (rowsF foreR rs) (clsL rs gn)) (maxC (clsL rs gn) (clsL rs gn).length) (0, hvF foreR rs rs.length) = al at *
   cases al with
   | none =>
    dsimp only at hm5
    subst hm5
    clear z5 z51 z52 z53 z54 zf5
    have z0 := box_cells hkz5 0 rfl
    have zf0 := hkz5.frozen 0
    have z1 := box_cells hkz5 1 rfl
    have zf1 := hkz5.frozen 1
    have z2 := box_cells hkz5 2 rfl
    have zf2 := hkz5.frozen 2
    have z3 := box_cells hkz5 3 rfl
    have zf3 := hkz5.frozen 3
    have z4 := box_cells hkz5 4 rfl
    have zf4 := hkz5.frozen 4
    have hb : buildL F (j : Int) = (none, 2) := by rw [HBL.out, LG.out]; unfold autoL; rw [HHF.out]
    have HB := Lib.hid hb
    have hkS := store5_bk hkz5 (.slice none 0 0) (.slice none 0 0) (.slice none 0 0) (.slice none 0 0) (.slice none 0 0)
    have hbS := store5_below (g := w.heap.size + 1) hbw5 (by omega) (.slice none 0 0) (.slice none 0 0) (.slice none 0 0) (.slice none 0 0) (.slice none 0 0)
    unfold store5 at hkS hbS
    go_wp2
    have r0 := box_cells hkS 0 rfl
    have r1 := box_cells hkS 1 rfl
    have r2 := box_cells hkS 2 rfl
    have r3 := box_cells hkS 3 rfl
    have r4 := box_cells hkS 4 rfl
    refine bodyPost_ret (v := .tuple #[.agg #[.slice none 0 0, .slice none 0 0, .slice none 0 0, .slice none 0 0, .slice none 0 0], .int .i64 2]) (by simp [results, Tryd.results15, go_sem, r0, r1, r2, r3, r4]) rfl ⟨hbS, ?_⟩
    rw [HB.out]

   | some x =>
    obtain ⟨ta, tn, tc, ea, en, ec, rfl, rt, re, ht, he⟩ := hm5
    have HX := Lib.hid (show halfL foreR rs gn = some x from HHF.out)
    have HF2 := Lib.hid (states_c 37 backR back_c qa i qc A' gn c' rs (clsL rs gn) w5 hR5 hrc5 HQ.out HHC.out (by have := LR.out; have := HSM.out.n; omega) HSM.out.one (fun row hr => by have := back_len row hr; have := HSM.out.s; omega) (fun c hc => by have := clsL_mem hc; omega) (clsL_gly rs gn) (by have := KL_le rs gn; unfold KL at this; omega))
    have HHB := Lib.hid (show halfL backR rs gn = allL (nxP (rowsF backR rs) (clsL rs gn)) (maxC (clsL rs gn) (clsL rs gn).length) (0, hvF backR rs rs.length) from rfl)
    clear z5 z51 z52 z53 z54 zf5 HHF
    go_wp2_with fail
    refine HF2.out.mono ?_
    rintro e w6 ⟨hb6, hm6⟩
    have kS6 := kS5.below hb6 kS5.lt
    have hkz6 := hkz5.below hb6 hkz5.lt
    have hbw6 := below_call hbw5 hb6
    have hrc6 := hrc5.call hb6
    have rt6 := rt.call hb6
    have re6 : RdU w6 (lo w6.heap.size) ea en _ := re.mono (lo_mono hb6.size) (kept_below hb6)
    have s0 := box_cells kS6 0 rfl
    have s1 := box_cells kS6 1 rfl
    clear kS5 hkz5 hbw5 hrc5 hR5 hb6 HF2 rt re
    have z0 := box_cells hkz6 0 rfl
    have zf0 := hkz6.frozen 0
    have z1 := box_cells hkz6 1 rfl
    have zf1 := hkz6.frozen 1
    have z2 := box_cells hkz6 2 rfl
    have zf2 := hkz6.frozen 2
    have z3 := box_cells hkz6 3 rfl
    have zf3 := hkz6.frozen 3
    have z4 := box_cells hkz6 4 rfl
    have zf4 := hkz6.frozen 4
    generalize hal : allL (nxP (rowsF backR rs) (clsL rs gn)) (maxC (clsL rs gn) (clsL rs gn).length) (0, hvF backR rs rs.length) = al at *
    cases al with
    | none =>
     dsimp only at hm6
     subst hm6
     have hb : buildL F (j : Int) = (none, 2) := by rw [HBL.out, LG.out]; unfold autoL; rw [HX.out, HHB.out]
     have HB := Lib.hid hb
     have hkS := store5_bk hkz6 (.slice none 0 0) (.slice none 0 0) (.slice none 0 0) (.slice none 0 0) (.slice none 0 0)
     have hbS := store5_below (g := w.heap.size + 1) hbw6 (by omega) (.slice none 0 0) (.slice none 0 0) (.slice none 0 0) (.slice none 0 0) (.slice none 0 0)
     unfold store5 at hkS hbS
     go_wp2
     have r0 := box_cells hkS 0 rfl
     have r1 := box_cells hkS 1 rfl
     have r2 := box_cells hkS 2 rfl
     have r3 := box_cells hkS 3 rfl
     have r4 := box_cells hkS 4 rfl
     refine bodyPost_ret (v := .tuple #[.agg #[.slice none 0 0, .slice none 0 0, .slice none 0 0, .slice none 0 0, .slice none 0 0], .int .i64 2]) (by simp [results, Tryd.results15, go_sem, r0, r1, r2, r3, r4]) rfl ⟨hbS, ?_⟩
     rw [HB.out]

    | some y =>
     obtain ⟨ba, bn, bc, ga', gn', gc', rfl, bt, be, hbt, hbe⟩ := hm6
     have hb : buildL F (j : Int) = (some ⟨clsL rs gn, x.1, y.1, x.2.map (endsP (rowsF foreR rs)), y.2.map (endsP (rowsF backR rs))⟩, 0) := by rw [HBL.out, LG.out]; unfold autoL; rw [HX.out, HHB.out]
     have HB := Lib.hid hb
     have hkS := store5_bk hkz6 (.slice A' gn c') (.slice ta tn tc) (.slice ba bn bc) (.slice ea en ec) (.slice ga' gn' gc')
     have hbS := store5_below (g := w.heap.size + 1) hbw6 (by omega) (.slice A' gn c') (.slice ta tn tc) (.slice ba bn bc) (.slice ea en ec) (.slice ga' gn' gc')
     have hkeep := store5_kept (S := lo w6.heap.size) (W := w6) (w.heap.size + 1) (.slice A' gn c') (.slice ta tn tc) (.slice ba bn bc) (.slice ea en ec) (.slice ga' gn' gc')
     have hKp : 1 ≤ KL rs gn := by
      have h1 := maxC_ge (cls := clsL rs gn) (clsL rs gn).length 0 _ (by rw [clsL_len]; omega) (clsL_at rs hgn1)
      unfold KL; omega
     have o1 := (half_ne HX.out hKp)
     have o2 := (half_ne (f := backR) HHB.out hKp)
     have HI := Lib.hid (show IsA (store5 w6 (w.heap.size + 1) (.slice A' gn c') (.slice ta tn tc) (.slice ba bn bc) (.slice ea en ec) (.slice ga' gn' gc')) (lo (store5 w6 (w.heap.size + 1) (.slice A' gn c') (.slice ta tn tc) (.slice ba bn bc) (.slice ea en ec) (.slice ga' gn' gc')).heap.size) ⟨A', gn, c', ta, tn, tc, ba, bn, bc, ea, en, ec, ga', gn', gc'⟩ ⟨clsL rs gn, x.1, y.1, x.2.map (endsP (rowsF foreR rs)), y.2.map (endsP (rowsF backR rs))⟩ from
      ⟨⟨(hrc6.off hkz6).mono (fun b hb => hkeep.2 ▸ hb.1) hkeep.1, (rt6.off hkz6 o1).mono (fun b hb => hkeep.2 ▸ hb.1) hkeep.1, (re6.off hkz6).mono (fun b hb => hkeep.2 ▸ hb.1) hkeep.1, HHC.out, ht, he⟩, ⟨(hrc6.off hkz6).mono (fun b hb => hkeep.2 ▸ hb.1) hkeep.1, (bt.off hkz6 o2).mono (fun b hb => hkeep.2 ▸ hb.1) hkeep.1, (be.off hkz6).mono (fun b hb => hkeep.2 ▸ hb.1) hkeep.1, HHC.out, hbt, hbe⟩⟩)
     unfold store5 at hkS hbS HI
     clear hrc6 rt6 re6 bt be o1 o2 hkeep hb
     go_wp2
     have r0 := box_cells hkS 0 rfl
     have r1 := box_cells hkS 1 rfl
     have r2 := box_cells hkS 2 rfl
     have r3 := box_cells hkS 3 rfl
     have r4 := box_cells hkS 4 rfl
     refine bodyPost_ret (v := .tuple #[.agg #[.slice A' gn c', .slice ta tn tc, .slice ba bn bc, .slice ea en ec, .slice ga' gn' gc'], .int .i64 0]) (by simp [results, Tryd.results15, go_sem, r0, r1, r2, r3, r4]) rfl ⟨hbS, ?_⟩
     rw [HB.out]
     exact ⟨_, rfl, HI.out⟩

end Go.Proofs.YtgcmedkaadagmaaDoor
