/- Walks: a font of plain numbers. -/
import Derived.Test.YtgcmedkaadagmaaDoorTk
import Derived.Test.YtgcmedkaadagmaaDoorY8
import Derived.Test.YtgcmedkaadagmaaDoorYa
import Derived.Test.YtgcmedkaadagmaaDoorYb
import Derived.Deep.CutBlock
namespace Go.Proofs.YtgcmedkaadagmaaDoor
open Go.RowKit Go.Shelf

theorem four {W : World} {g t : Nat} {a b c d : Value} (k : Bk W g t #[a, b, c, d]) : W.cell? ⟨g, 0, none⟩ = some a ∧ W.cell? ⟨g, 1, none⟩ = some b ∧ W.cell? ⟨g, 2, none⟩ = some c ∧ W.cell? ⟨g, 3, none⟩ = some d ∧ W.frozen? ⟨g, 0, none⟩ = false ∧ W.frozen? ⟨g, 1, none⟩ = false ∧ W.frozen? ⟨g, 2, none⟩ = false ∧ W.frozen? ⟨g, 3, none⟩ = false :=
 ⟨bx k 0 rfl, bx k 1 rfl, bx k 2 rfl, bx k 3 rfl, k.frozen 0, k.frozen 1, k.frozen 2, k.frozen 3⟩
theorem fin7 {w W : World} {gm g r1 r2 : Nat} {sb : ByteArray} {a b c d : Value} (k : Bk W g 106 #[a, b, c, d]) (hu : Up gm w W) (hl : w.heap.size ≤ g) (hg : gm < w.heap.size) :
  Bk (store4g W g (.string (⟨#[97, 120]⟩ ++ sb)) (.int .i64 (IntKind.i64.wrap (-IntKind.i64.wrap ((r1 : Int) * 100)))) (.int .i64 0) (.int .i64 (IntKind.i64.wrap ((r2 : Int) * 100)))) g 106 #[.string (⟨#[97, 120]⟩ ++ sb), .int .i64 (IntKind.i64.wrap (-IntKind.i64.wrap ((r1 : Int) * 100))), .int .i64 0, .int .i64 (IntKind.i64.wrap ((r2 : Int) * 100))] ∧
  Up gm w (store4g W g (.string (⟨#[97, 120]⟩ ++ sb)) (.int .i64 (IntKind.i64.wrap (-IntKind.i64.wrap ((r1 : Int) * 100)))) (.int .i64 0) (.int .i64 (IntKind.i64.wrap ((r2 : Int) * 100)))) := ⟨store4g_bk k _ _ _ _, hu.set4 hl hg _ _ _ _⟩
abbrev zAx : Array Value := #[.string ⟨#[]⟩, .int .i64 0, .int .i64 0, .int .i64 0]
theorem runes_at (lb q : Nat) (h : q < 16) : ∃ a : Int, ∀ W : World, Bk W lb 3 #[.int .i64 97, .int .i64 98, .int .i64 99, .int .i64 102, .int .i64 105, .int .i64 108, .int .i64 57345, .int .i64 57346, .int .i64 57601, .int .i64 57602, .int .i64 57603, .int .i64 57857, .int .i64 57861, .int .i64 58113, .int .i64 58114, .int .i64 58369] → W.cell? ⟨lb, q, none⟩ = some (.int .i64 a) := by
 obtain rfl | rfl | rfl | rfl | rfl | rfl | rfl | rfl | rfl | rfl | rfl | rfl | rfl | rfl | rfl | rfl : q = 0 ∨ q = 1 ∨ q = 2 ∨ q = 3 ∨ q = 4 ∨ q = 5 ∨ q = 6 ∨ q = 7 ∨ q = 8 ∨ q = 9 ∨ q = 10 ∨ q = 11 ∨ q = 12 ∨ q = 13 ∨ q = 14 ∨ q = 15 := by omega
 all_goals exact ⟨_, fun W h => bx h _ rfl⟩
theorem names_at (lb q : Nat) (h : q < 8) : ∃ a : ByteArray, ∀ W : World, Bk W lb 9 #[.string ⟨#[108, 105, 103, 97]⟩, .string ⟨#[105, 115, 111, 108]⟩, .string ⟨#[105, 110, 105, 116]⟩, .string ⟨#[109, 101, 100, 105]⟩, .string ⟨#[102, 105, 110, 97]⟩, .string ⟨#[107, 101, 114, 110]⟩, .string ⟨#[109, 97, 114, 107]⟩, .string ⟨#[99, 97, 108, 116]⟩] → W.cell? ⟨lb, q, none⟩ = some (.string a) := by
 obtain rfl | rfl | rfl | rfl | rfl | rfl | rfl | rfl : q = 0 ∨ q = 1 ∨ q = 2 ∨ q = 3 ∨ q = 4 ∨ q = 5 ∨ q = 6 ∨ q = 7 := by omega
 all_goals exact ⟨_, fun W h => bx h _ rfl⟩
theorem store9g_far (W : World) (g : Nat) (a b c d e p q r s : Value) : (∀ x, x ≠ g → (store9g W g a b c d e p q r s).heap[x]? = W.heap[x]?) ∧ (store9g W g a b c d e p q r s).heap.size = W.heap.size := by
 refine ⟨fun x hx => ?_, by unfold store9g; simp⟩
 unfold store9g
 rw [Below.heap_setCell _ ⟨g, 8, none⟩ _ x hx, Below.heap_setCell _ ⟨g, 7, none⟩ _ x hx, Below.heap_setCell _ ⟨g, 6, none⟩ _ x hx, Below.heap_setCell _ ⟨g, 5, none⟩ _ x hx, Below.heap_setCell _ ⟨g, 4, none⟩ _ x hx, Below.heap_setCell _ ⟨g, 3, none⟩ _ x hx, Below.heap_setCell _ ⟨g, 2, none⟩ _ x hx, Below.heap_setCell _ ⟨g, 1, none⟩ _ x hx, Below.heap_setCell _ ⟨g, 0, none⟩ _ x hx]
theorem bRunes_c (w : World) : Calls Tryd.prog 43 #[] w fun e w' => e = .returned (.slice (some ⟨w.heap.size, 0, none⟩) 16 16) ∧ w' = w.alloc (.cells #[.int .i64 97, .int .i64 98, .int .i64 99, .int .i64 102, .int .i64 105, .int .i64 108, .int .i64 57345, .int .i64 57346, .int .i64 57601, .int .i64 57602, .int .i64 57603, .int .i64 57857, .int .i64 57861, .int .i64 58113, .int .i64 58114, .int .i64 58369] 3) := by
 go_enter Tryd.func43, Tryd.ntmps43
 go_wp2
 go_ret
 exact ⟨rfl, rfl⟩
theorem bNames_c (w : World) : Calls Tryd.prog 45 #[] w fun e w' => e = .returned (.slice (some ⟨w.heap.size, 0, none⟩) 8 8) ∧ w' = w.alloc (.cells #[.string ⟨#[108, 105, 103, 97]⟩, .string ⟨#[105, 115, 111, 108]⟩, .string ⟨#[105, 110, 105, 116]⟩, .string ⟨#[109, 101, 100, 105]⟩, .string ⟨#[102, 105, 110, 97]⟩, .string ⟨#[107, 101, 114, 110]⟩, .string ⟨#[109, 97, 114, 107]⟩, .string ⟨#[99, 97, 108, 116]⟩] 9) := by
 go_enter Tryd.func45, Tryd.ntmps45
 go_wp2
 go_ret
 exact ⟨rfl, rfl⟩
/-- What Made leaves: a font of few glyphs, few lookups, few rules. -/
def MadeF (w : World) (e : Ending) (w' : World) : Prop := ∃ (f : FV) (F : Fnt), e = .returned (.agg f.cells) ∧ IsF w' (fun b => w.heap.size ≤ b ∧ b < w'.heap.size) f F ∧ 2 ≤ f.gn ∧ f.gn ≤ 10 ∧ f.ln ≤ 6 ∧ (∀ l ∈ F.lks, LkB l) ∧ Below w.heap.size w w'

/-- What is shown when something else is. -/
structure Cont (C : Prop) : Prop where
 out : C
structure Split (T : Prop) where
 S : Prop
 h : Cont S → T

set_option maxRecDepth 100000 in
set_option maxHeartbeats 40000000 in
def bmade_a (sA : Option Addr) (sn sc : Nat) (xs : List Int) (w : World) : Split (Rd w (lo w.heap.size) sA sn xs → Hd sn sc → Calls Tryd.prog 17 #[.slice sA sn sc] w (MadeF w)) := by
 apply Split.mk
 ·intro later hx hd
  have hw0 : w.heap.size ≤ w.heap.size := Nat.le_refl _
  have kr0 := (Bk.new w 33 #[.int .i64 0, .slice none 0 0, .slice none 0 0, .slice none 0 0, .slice none 0 0, .slice none 0 0, .slice none 0 0, .slice none 0 0, .slice none 0 0]).alloc (.cells #[.slice sA sn sc, .int .i64 0, .int .i64 0, .slice none 0 0, .slice none 0 0, .slice none 0 0, .slice none 0 0, .slice none 0 0, .slice none 0 0, .slice none 0 0, .slice none 0 0, .int .i64 0] 102)
  have km0 := Bk.new (w.alloc (.cells #[.int .i64 0, .slice none 0 0, .slice none 0 0, .slice none 0 0, .slice none 0 0, .slice none 0 0, .slice none 0 0, .slice none 0 0, .slice none 0 0] 33)) 102 #[.slice sA sn sc, .int .i64 0, .int .i64 0, .slice none 0 0, .slice none 0 0, .slice none 0 0, .slice none 0 0, .slice none 0 0, .slice none 0 0, .slice none 0 0, .slice none 0 0, .int .i64 0]
  rw [World.size_alloc] at km0
  have hb0 : Below w.heap.size w ((w.alloc (.cells #[.int .i64 0, .slice none 0 0, .slice none 0 0, .slice none 0 0, .slice none 0 0, .slice none 0 0, .slice none 0 0, .slice none 0 0, .slice none 0 0] 33)).alloc (.cells #[.slice sA sn sc, .int .i64 0, .int .i64 0, .slice none 0 0, .slice none 0 0, .slice none 0 0, .slice none 0 0, .slice none 0 0, .slice none 0 0, .slice none 0 0, .slice none 0 0, .int .i64 0] 102)) := below_lit _ _ (below_lit _ _ (Below.refl _ _) _) _
  have hm0 : Mk ((w.alloc (.cells #[.int .i64 0, .slice none 0 0, .slice none 0 0, .slice none 0 0, .slice none 0 0, .slice none 0 0, .slice none 0 0, .slice none 0 0, .slice none 0 0] 33)).alloc (.cells #[.slice sA sn sc, .int .i64 0, .int .i64 0, .slice none 0 0, .slice none 0 0, .slice none 0 0, .slice none 0 0, .slice none 0 0, .slice none 0 0, .slice none 0 0, .slice none 0 0, .int .i64 0] 102)) (w.heap.size + 1) (mz sA sn sc xs 0) := ⟨0, 0, Nat.zero_le _, km0, hx.mono (fun b hb => Nat.lt_succ_of_lt hb) (fun b hb => hb0.block b hb), hd, by omega, by omega⟩
  clear hx hd km0
  go_enter Tryd.func17, Tryd.ntmps17
  go_upto_region 2 with fail
  obtain ⟨w2, hw2⟩ : ∃ x, (w.alloc (.cells #[.int .i64 0, .slice none 0 0, .slice none 0 0, .slice none 0 0, .slice none 0 0, .slice none 0 0, .slice none 0 0, .slice none 0 0, .slice none 0 0] 33)).alloc (.cells #[.slice sA sn sc, .int .i64 0, .int .i64 0, .slice none 0 0, .slice none 0 0, .slice none 0 0, .slice none 0 0, .slice none 0 0, .slice none 0 0, .slice none 0 0, .slice none 0 0, .int .i64 0] 102) = x := ⟨_, rfl⟩
  rw [hw2] at kr0 hb0 hm0 ⊢
  obtain ⟨gm, hgm⟩ : ∃ x, w.heap.size + 1 = x := ⟨_, rfl⟩
  obtain ⟨rb, hrb⟩ : ∃ x, w.heap.size = x := ⟨_, rfl⟩
  have hgr2 : rb < gm := by omega
  rw [hgm] at hm0 ⊢
  have HW := Lib.hid hrb
  rw [hrb] at kr0 hb0 ⊢
  clear hw2 hgm hrb hw0
  have hg2 := hm0.lt
  have hu := (Up.refl gm w2).alloc hg2 (.cells #[.int .i64 1000, .int .i64 1024, .int .i64 100, .int .i64 2048] 3)
  have kt := Bk.new w2 3 #[.int .i64 1000, .int .i64 1024, .int .i64 100, .int .i64 2048]
  have HC := Lib.hid (show Calls Tryd.prog 40 #[.pointer (some ⟨gm, 0, none⟩), .int .i64 4] _ (NextR gm 4 _) from bnext_c gm 4 _ _ (hu.st _ hm0) (by omega) (by omega))
  go_wp2_with fail
  refine HC.out.mono ?_
  rintro e w3 ⟨r, rfl, hr, hb⟩
  have kt3 := hb.bk kt (by omega)
  obtain ⟨u, hu4⟩ := unit_at w2.heap.size r hr
  have yu := hu4 w3 kt3
  have r0 : (0 : Int) ≤ (r : Int) := by omega
  have r4 : (r : Int) < 4 := by omega
  have hm3 := hb.st _ (hu.st _ hm0)
  have y2 : w3.cell? ⟨gm, 2, none⟩ = some (.int .i64 0) := hm3.cell 2 (by decide) rfl
  have z2 : w3.frozen? ⟨gm, 2, none⟩ = false := by obtain ⟨_, _, _, hk4, _⟩ := hm3; exact hk4.frozen 2
  have hm5 : Mk (w3.setCell ⟨gm, 2, none⟩ (.int .i64 u)) gm (mz sA sn sc xs u) := hm3.put (fun _ _ => rfl) ⟨rfl, rfl, rfl, rfl⟩
  have hgr5 : w2.grownBy (w3.setCell ⟨gm, 2, none⟩ (.int .i64 u)) (some gm) := grown_gmc (hu.trans hb).gr _
  clear HC hb hu kt kt3 hu4 hm3 hm0
  go_upto_region 3 with fail
  clear yu r0 r4 y2 z2
  obtain ⟨wr, hwr⟩ : ∃ x, w3.setCell ⟨gm, 2, none⟩ (.int .i64 u) = x := ⟨_, rfl⟩
  rw [hwr] at hm5 hgr5 ⊢
  clear hwr w3 hr
  have hm := hm5
  have hgr := hgr5
  clear hm5 hgr5
  have HC := Lib.hid (show Calls Tryd.prog 40 #[.pointer (some ⟨gm, 0, none⟩), .int .i64 3] wr (NextR gm 3 wr) from bnext_c gm 3 _ wr (hm) (by omega) (by omega))
  go_wp2_with fail
  refine HC.out.mono ?_
  rintro e w3 ⟨k1, rfl, hk1, hb⟩
  clear HC
  replace hm := hb.st _ hm
  replace hgr := hgr.trans hb.gr
  clear hb
  obtain ⟨wr, hwr⟩ : ∃ x, w3 = x := ⟨_, rfl⟩
  rw [hwr] at hm hgr ⊢
  clear hwr
  go_upto_block 0 with fail
  go_cut [5, 6] from 34 to 64 (fun _ _ wx => ∃ (A : Option Addr) (n c : Nat), n ≤ k1 ∧ Mk wx gm ((mz sA sn sc xs u).ax A n c) ∧ w2.grownBy wx (some gm))
  case first =>
   have hst : FldS 106 4 gm wr wr (mz sA sn sc xs u) none 0 0 := FldS.new hm
   have HGRA := Lib.hid hgr
   have hg1 := hm.lt
   clear hm hgr
   obtain ⟨w1, hw1⟩ : ∃ x, wr = x := ⟨_, rfl⟩
   rw [hw1] at hst HGRA hg1 ⊢
   clear hw1 wr
   go_upto_region 5 with fail
   go_loopw [5] (fun iv wr => ∃ (A : Option Addr) (c i : Nat), iv = .int .i64 (i : Int) ∧ i ≤ k1 ∧ FldS 106 4 gm w1 wr ((mz sA sn sc xs u).ax A i c) A i c) (fun iv _ => k1 - (intOf iv).toNat)
   case atStart => exact ⟨none, 0, 0, rfl, by omega, hst⟩
   case round =>
    clear hst
    obtain ⟨A, c, i, rfl, hi, hst⟩ := hrel
    by_cases hlt : i < k1
    ·have in0 : (i : Int) < (k1 : Int) := by omega
     go_upto_region 7 with fail
     go_cut [6] from 39 to 52 (fun gv wx => ∃ (gb : Nat) (nm : ByteArray) (mn mx : Int), gv = .pointer (some ⟨gb, 0, none⟩) ∧ Bk wx gb 106 #[.string nm, .int .i64 mn, .int .i64 0, .int .i64 mx] ∧ wr.heap.size ≤ gb ∧ Up gm wr wx)
     case first =>
      as_aux_lemma =>
       obtain ⟨yb, hyb⟩ : ∃ y : Int, IntKind.u8.wrap (IntKind.i64.wrap (97 + (i : Int))) = y := ⟨_, rfl⟩
       obtain ⟨sb, hsb, hsz⟩ : ∃ x, strOfNums [yb] = x ∧ x.size = 1 := ⟨_, rfl, by rw [strOfNums_size]; rfl⟩
       have H3 := Lib.hid fun (W : World) (bW : Up gm wr W) => (show Calls Tryd.prog 40 #[.pointer (some ⟨gm, 0, none⟩), .int .i64 3] W (NextR gm 3 W) from bnext_c gm 3 _ W (bW.st _ hst.hm) (by omega) (by omega))
       have H4 := Lib.hid fun (W : World) (bW : Up gm wr W) => (show Calls Tryd.prog 40 #[.pointer (some ⟨gm, 0, none⟩), .int .i64 4] W (NextR gm 4 W) from bnext_c gm 4 _ W (bW.st _ hst.hm) (by omega) (by omega))
       have HF := Lib.hid hst
       have hwl := hst.gr.size
       have hwg : gm < wr.heap.size := by omega
       clear hst
       have HS := Lib.hid fun (W : World) (bW : Up gm wr W) => (show Held1 W from held1 _)
       have bb := Up.refl gm wr
       refine wp_region_held_drew (S := fun w' => Held1 w') (by kernel_rfl) ?_ (fun hHeld => ?_)
       ·exact HS.out _ (bb.drewN 1)
       replace bb := bb.drewN 1
       change Up _ _ wr.drew at bb
       generalize hw0 : wr.drew = W0 at hHeld bb ⊢
       clear hw0
       refine tkC 0 ?_
       refine tkC 1 ?_
       refine tkC 2 ?_
       refine tkC 6 ?_
       refine tkC 10 ?_
       refine rd3 3 7 14 (fun K hK => ?_) (fun K hK => ?_) (fun K hK => ?_)
       ·refine wy ?_
        go_simp
        clear hHeld
        refine hK.out _ _ (held1 _) fun hHeld => ?_
        clear hK K
        have kb := Bk.new W0 5 #[.int .u8 yb]
        have bb2 := bb.alloc (by have := bb.size; omega) (.cells #[.int .u8 yb] 5)
        have hltnb : wr.heap.size ≤ W0.heap.size := bb.size
        clear bb
        have bb := bb2
        clear bb2
        obtain ⟨nb, hnb⟩ : ∃ x, W0.heap.size = x := ⟨_, rfl⟩
        rw [hnb] at kb hltnb
        try rw [hnb]
        obtain ⟨V1, hV⟩ : ∃ wN, W0.alloc (.cells #[.int .u8 yb] 5) = wN := ⟨_, rfl⟩
        rw [hV] at kb bb hHeld ⊢
        clear hV hnb
        refine rd3 4 7 14 (fun K hK => ?_) (fun K hK => ?_) (fun K hK => ?_)
        ·have hc := run_convert_bytes_arg V1 104 5 Tryd.underlying104 Tryd.underlying5 nb 0 1 1 [yb] rfl (one_byte kb) 9 Tryd.underlying9
         refine wy ?_
         go_simp
         clear hHeld
         refine hK.out _ _ (held1 _) fun hHeld => ?_
         clear hK K
         clear hc
         refine tkC 5 ?_
         refine rd2 7 14 (fun K hK => ?_) (fun K hK => ?_)
         ·refine wy ?_
          go_simp
          clear hHeld
          go_at_call 40
          (with_reducible refine (H3.out _ bb).mono ?_)
          rintro e V2 ⟨r1, rfl, hr1, bn⟩
          go_wp2_with fail
          refine hK.out _ _ (held1 _) fun hHeld => ?_
          clear hK K
          replace kb := bn.bk kb (by omega)
          replace bb := bb.trans bn
          clear bn
          refine tkC 8 ?_
          refine tkC 9 ?_
          refine rd2 11 14 (fun K hK => ?_) (fun K hK => ?_)
          ·refine wy ?_
           go_simp
           clear hHeld
           go_at_call 40
           (with_reducible refine (H4.out _ bb).mono ?_)
           rintro e V3 ⟨r2, rfl, hr2, bn⟩
           go_wp2_with fail
           refine hK.out _ _ (held1 _) fun hHeld => ?_
           clear hK K
           replace kb := bn.bk kb (by omega)
           replace bb := bb.trans bn
           clear bn
           refine tkC 12 ?_
           refine tkC 13 ?_
           refine rd1 14 fun K hK => ?_
           refine wy ?_
           go_simp
           clear hHeld
           refine hK.out _ _ (held1 _) fun hHeld => ?_
           clear hK K
           replace kb := kb.alloc (.cells zAx 106)
           have kg := Bk.new V3 106 zAx
           have bb2 := bb.alloc (by have := bb.size; omega) (.cells zAx 106)
           have hltgb : wr.heap.size ≤ V3.heap.size := bb.size
           clear bb
           have bb := bb2
           clear bb2
           obtain ⟨gb, hgb⟩ : ∃ x, V3.heap.size = x := ⟨_, rfl⟩
           rw [hgb] at kg hltgb
           try rw [hgb]
           obtain ⟨V4, hV⟩ : ∃ wN, V3.alloc (.cells zAx 106) = wN := ⟨_, rfl⟩
           rw [hV] at kg kb bb hHeld ⊢
           clear hV hgb
           refine rd1 15 fun K hK => ?_
           obtain ⟨g0, g1, g2, g3, z0, z1, z2, z3⟩ := four kg
           have HE := Lib.hid (fin7 (r1 := r1) (r2 := r2) (sb := sb) kg bb hltgb hwg)
           unfold store4g at HE
           clear kg kb bb
           refine wy ?_
           go_simp
           clear hHeld
           refine hK.out _ _ (held1 _) fun hHeld => ?_
           clear hK K
           clear g0 z0 g1 z1 g2 z2 g3 z3
           refine wpAnyH_done (by kernel_rfl) ?_ _
           clear hHeld HS
           go_wp2_with fail
           go_meet
           exact ⟨gb, _, _, _, rfl, HE.out.1, hltgb, HE.out.2⟩



          ·refine wy ?_
           go_simp
           clear hHeld
           refine hK.out _ _ (held1 _) fun hHeld => ?_
           clear hK K
           replace kb := kb.alloc (.cells zAx 106)
           have kg := Bk.new V2 106 zAx
           have bb2 := bb.alloc (by have := bb.size; omega) (.cells zAx 106)
           have hltgb : wr.heap.size ≤ V2.heap.size := bb.size
           clear bb
           have bb := bb2
           clear bb2
           obtain ⟨gb, hgb⟩ : ∃ x, V2.heap.size = x := ⟨_, rfl⟩
           rw [hgb] at kg hltgb
           try rw [hgb]
           obtain ⟨V3, hV⟩ : ∃ wN, V2.alloc (.cells zAx 106) = wN := ⟨_, rfl⟩
           rw [hV] at kg kb bb hHeld ⊢
           clear hV hgb
           refine rd1 11 fun K hK => ?_
           refine wy ?_
           go_simp
           clear hHeld
           go_at_call 40
           (with_reducible refine (H4.out _ bb).mono ?_)
           rintro e V4 ⟨r2, rfl, hr2, bn⟩
           go_wp2_with fail
           refine hK.out _ _ (held1 _) fun hHeld => ?_
           clear hK K
           replace kg := bn.bk kg (by omega)
           replace kb := bn.bk kb (by omega)
           replace bb := bb.trans bn
           clear bn
           refine tkC 12 ?_
           refine tkC 13 ?_
           refine rd1 15 fun K hK => ?_
           obtain ⟨g0, g1, g2, g3, z0, z1, z2, z3⟩ := four kg
           have HE := Lib.hid (fin7 (r1 := r1) (r2 := r2) (sb := sb) kg bb hltgb hwg)
           unfold store4g at HE
           clear kg kb bb
           refine wy ?_
           go_simp
           clear hHeld
           refine hK.out _ _ (held1 _) fun hHeld => ?_
           clear hK K
           clear g0 z0 g1 z1 g2 z2 g3 z3
           refine wpAnyH_done (by kernel_rfl) ?_ _
           clear hHeld HS
           go_wp2_with fail
           go_meet
           exact ⟨gb, _, _, _, rfl, HE.out.1, hltgb, HE.out.2⟩




         ·refine wy ?_
          go_simp
          clear hHeld
          refine hK.out _ _ (held1 _) fun hHeld => ?_
          clear hK K
          replace kb := kb.alloc (.cells zAx 106)
          have kg := Bk.new V1 106 zAx
          have bb2 := bb.alloc (by have := bb.size; omega) (.cells zAx 106)
          have hltgb : wr.heap.size ≤ V1.heap.size := bb.size
          clear bb
          have bb := bb2
          clear bb2
          obtain ⟨gb, hgb⟩ : ∃ x, V1.heap.size = x := ⟨_, rfl⟩
          rw [hgb] at kg hltgb
          try rw [hgb]
          obtain ⟨V2, hV⟩ : ∃ wN, V1.alloc (.cells zAx 106) = wN := ⟨_, rfl⟩
          rw [hV] at kg kb bb hHeld ⊢
          clear hV hgb
          refine rd1 7 fun K hK => ?_
          refine wy ?_
          go_simp
          clear hHeld
          go_at_call 40
          (with_reducible refine (H3.out _ bb).mono ?_)
          rintro e V3 ⟨r1, rfl, hr1, bn⟩
          go_wp2_with fail
          refine hK.out _ _ (held1 _) fun hHeld => ?_
          clear hK K
          replace kg := bn.bk kg (by omega)
          replace kb := bn.bk kb (by omega)
          replace bb := bb.trans bn
          clear bn
          refine tkC 8 ?_
          refine tkC 9 ?_
          refine rd1 11 fun K hK => ?_
          refine wy ?_
          go_simp
          clear hHeld
          go_at_call 40
          (with_reducible refine (H4.out _ bb).mono ?_)
          rintro e V4 ⟨r2, rfl, hr2, bn⟩
          go_wp2_with fail
          refine hK.out _ _ (held1 _) fun hHeld => ?_
          clear hK K
          replace kg := bn.bk kg (by omega)
          replace kb := bn.bk kb (by omega)
          replace bb := bb.trans bn
          clear bn
          refine tkC 12 ?_
          refine tkC 13 ?_
          refine rd1 15 fun K hK => ?_
          obtain ⟨g0, g1, g2, g3, z0, z1, z2, z3⟩ := four kg
          have HE := Lib.hid (fin7 (r1 := r1) (r2 := r2) (sb := sb) kg bb hltgb hwg)
          unfold store4g at HE
          clear kg kb bb
          refine wy ?_
          go_simp
          clear hHeld
          refine hK.out _ _ (held1 _) fun hHeld => ?_
          clear hK K
          clear g0 z0 g1 z1 g2 z2 g3 z3
          refine wpAnyH_done (by kernel_rfl) ?_ _
          clear hHeld HS
          go_wp2_with fail
          go_meet
          exact ⟨gb, _, _, _, rfl, HE.out.1, hltgb, HE.out.2⟩





        ·refine wy ?_
         go_simp
         clear hHeld
         go_at_call 40
         (with_reducible refine (H3.out _ bb).mono ?_)
         rintro e V2 ⟨r1, rfl, hr1, bn⟩
         go_wp2_with fail
         refine hK.out _ _ (held1 _) fun hHeld => ?_
         clear hK K
         replace kb := bn.bk kb (by omega)
         replace bb := bb.trans bn
         clear bn
         refine tkC 8 ?_
         refine tkC 9 ?_
         refine rd3 4 11 14 (fun K hK => ?_) (fun K hK => ?_) (fun K hK => ?_)
         ·have hc := run_convert_bytes_arg V2 104 5 Tryd.underlying104 Tryd.underlying5 nb 0 1 1 [yb] rfl (one_byte kb) 9 Tryd.underlying9
          refine wy ?_
          go_simp
          clear hHeld
          refine hK.out _ _ (held1 _) fun hHeld => ?_
          clear hK K
          clear hc
          refine tkC 5 ?_
          refine rd2 11 14 (fun K hK => ?_) (fun K hK => ?_)
          ·refine wy ?_
           go_simp
           clear hHeld
           go_at_call 40
           (with_reducible refine (H4.out _ bb).mono ?_)
           rintro e V3 ⟨r2, rfl, hr2, bn⟩
           go_wp2_with fail
           refine hK.out _ _ (held1 _) fun hHeld => ?_
           clear hK K
           replace kb := bn.bk kb (by omega)
           replace bb := bb.trans bn
           clear bn
           refine tkC 12 ?_
           refine tkC 13 ?_
           refine rd1 14 fun K hK => ?_
           refine wy ?_
           go_simp
           clear hHeld
           refine hK.out _ _ (held1 _) fun hHeld => ?_
           clear hK K
           replace kb := kb.alloc (.cells zAx 106)
           have kg := Bk.new V3 106 zAx
           have bb2 := bb.alloc (by have := bb.size; omega) (.cells zAx 106)
           have hltgb : wr.heap.size ≤ V3.heap.size := bb.size
           clear bb
           have bb := bb2
           clear bb2
           obtain ⟨gb, hgb⟩ : ∃ x, V3.heap.size = x := ⟨_, rfl⟩
           rw [hgb] at kg hltgb
           try rw [hgb]
           obtain ⟨V4, hV⟩ : ∃ wN, V3.alloc (.cells zAx 106) = wN := ⟨_, rfl⟩
           rw [hV] at kg kb bb hHeld ⊢
           clear hV hgb
           refine rd1 15 fun K hK => ?_
           obtain ⟨g0, g1, g2, g3, z0, z1, z2, z3⟩ := four kg
           have HE := Lib.hid (fin7 (r1 := r1) (r2 := r2) (sb := sb) kg bb hltgb hwg)
           unfold store4g at HE
           clear kg kb bb
           refine wy ?_
           go_simp
           clear hHeld
           refine hK.out _ _ (held1 _) fun hHeld => ?_
           clear hK K
           clear g0 z0 g1 z1 g2 z2 g3 z3
           refine wpAnyH_done (by kernel_rfl) ?_ _
           clear hHeld HS
           go_wp2_with fail
           go_meet
           exact ⟨gb, _, _, _, rfl, HE.out.1, hltgb, HE.out.2⟩



          ·refine wy ?_
           go_simp
           clear hHeld
           refine hK.out _ _ (held1 _) fun hHeld => ?_
           clear hK K
           replace kb := kb.alloc (.cells zAx 106)
           have kg := Bk.new V2 106 zAx
           have bb2 := bb.alloc (by have := bb.size; omega) (.cells zAx 106)
           have hltgb : wr.heap.size ≤ V2.heap.size := bb.size
           clear bb
           have bb := bb2
           clear bb2
           obtain ⟨gb, hgb⟩ : ∃ x, V2.heap.size = x := ⟨_, rfl⟩
           rw [hgb] at kg hltgb
           try rw [hgb]
           obtain ⟨V3, hV⟩ : ∃ wN, V2.alloc (.cells zAx 106) = wN := ⟨_, rfl⟩
           rw [hV] at kg kb bb hHeld ⊢
           clear hV hgb
           refine rd1 11 fun K hK => ?_
           refine wy ?_
           go_simp
           clear hHeld
           go_at_call 40
           (with_reducible refine (H4.out _ bb).mono ?_)
           rintro e V4 ⟨r2, rfl, hr2, bn⟩
           go_wp2_with fail
           refine hK.out _ _ (held1 _) fun hHeld => ?_
           clear hK K
           replace kg := bn.bk kg (by omega)
           replace kb := bn.bk kb (by omega)
           replace bb := bb.trans bn
           clear bn
           refine tkC 12 ?_
           refine tkC 13 ?_
           refine rd1 15 fun K hK => ?_
           obtain ⟨g0, g1, g2, g3, z0, z1, z2, z3⟩ := four kg
           have HE := Lib.hid (fin7 (r1 := r1) (r2 := r2) (sb := sb) kg bb hltgb hwg)
           unfold store4g at HE
           clear kg kb bb
           refine wy ?_
           go_simp
           clear hHeld
           refine hK.out _ _ (held1 _) fun hHeld => ?_
           clear hK K
           clear g0 z0 g1 z1 g2 z2 g3 z3
           refine wpAnyH_done (by kernel_rfl) ?_ _
           clear hHeld HS
           go_wp2_with fail
           go_meet
           exact ⟨gb, _, _, _, rfl, HE.out.1, hltgb, HE.out.2⟩




         ·refine wy ?_
          go_simp
          clear hHeld
          go_at_call 40
          (with_reducible refine (H4.out _ bb).mono ?_)
          rintro e V3 ⟨r2, rfl, hr2, bn⟩
          go_wp2_with fail
          refine hK.out _ _ (held1 _) fun hHeld => ?_
          clear hK K
          replace kb := bn.bk kb (by omega)
          replace bb := bb.trans bn
          clear bn
          refine tkC 12 ?_
          refine rd2 4 14 (fun K hK => ?_) (fun K hK => ?_)
          ·have hc := run_convert_bytes_arg V3 104 5 Tryd.underlying104 Tryd.underlying5 nb 0 1 1 [yb] rfl (one_byte kb) 9 Tryd.underlying9
           refine wy ?_
           go_simp
           clear hHeld
           refine hK.out _ _ (held1 _) fun hHeld => ?_
           clear hK K
           clear hc
           refine tkC 5 ?_
           refine tkC 13 ?_
           refine rd1 14 fun K hK => ?_
           refine wy ?_
           go_simp
           clear hHeld
           refine hK.out _ _ (held1 _) fun hHeld => ?_
           clear hK K
           replace kb := kb.alloc (.cells zAx 106)
           have kg := Bk.new V3 106 zAx
           have bb2 := bb.alloc (by have := bb.size; omega) (.cells zAx 106)
           have hltgb : wr.heap.size ≤ V3.heap.size := bb.size
           clear bb
           have bb := bb2
           clear bb2
           obtain ⟨gb, hgb⟩ : ∃ x, V3.heap.size = x := ⟨_, rfl⟩
           rw [hgb] at kg hltgb
           try rw [hgb]
           obtain ⟨V4, hV⟩ : ∃ wN, V3.alloc (.cells zAx 106) = wN := ⟨_, rfl⟩
           rw [hV] at kg kb bb hHeld ⊢
           clear hV hgb
           refine rd1 15 fun K hK => ?_
           obtain ⟨g0, g1, g2, g3, z0, z1, z2, z3⟩ := four kg
           have HE := Lib.hid (fin7 (r1 := r1) (r2 := r2) (sb := sb) kg bb hltgb hwg)
           unfold store4g at HE
           clear kg kb bb
           refine wy ?_
           go_simp
           clear hHeld
           refine hK.out _ _ (held1 _) fun hHeld => ?_
           clear hK K
           clear g0 z0 g1 z1 g2 z2 g3 z3
           refine wpAnyH_done (by kernel_rfl) ?_ _
           clear hHeld HS
           go_wp2_with fail
           go_meet
           exact ⟨gb, _, _, _, rfl, HE.out.1, hltgb, HE.out.2⟩



          ·refine wy ?_
           go_simp
           clear hHeld
           refine hK.out _ _ (held1 _) fun hHeld => ?_
           clear hK K
           replace kb := kb.alloc (.cells zAx 106)
           have kg := Bk.new V3 106 zAx
           have bb2 := bb.alloc (by have := bb.size; omega) (.cells zAx 106)
           have hltgb : wr.heap.size ≤ V3.heap.size := bb.size
           clear bb
           have bb := bb2
           clear bb2
           obtain ⟨gb, hgb⟩ : ∃ x, V3.heap.size = x := ⟨_, rfl⟩
           rw [hgb] at kg hltgb
           try rw [hgb]
           obtain ⟨V4, hV⟩ : ∃ wN, V3.alloc (.cells zAx 106) = wN := ⟨_, rfl⟩
           rw [hV] at kg kb bb hHeld ⊢
           clear hV hgb
           refine rd1 4 fun K hK => ?_
           have hc := run_convert_bytes_arg V4 104 5 Tryd.underlying104 Tryd.underlying5 nb 0 1 1 [yb] rfl (one_byte kb) 9 Tryd.underlying9
           refine wy ?_
           go_simp
           clear hHeld
           refine hK.out _ _ (held1 _) fun hHeld => ?_
           clear hK K
           clear hc
           refine tkC 5 ?_
           refine tkC 13 ?_
           refine rd1 15 fun K hK => ?_
           obtain ⟨g0, g1, g2, g3, z0, z1, z2, z3⟩ := four kg
           have HE := Lib.hid (fin7 (r1 := r1) (r2 := r2) (sb := sb) kg bb hltgb hwg)
           unfold store4g at HE
           clear kg kb bb
           refine wy ?_
           go_simp
           clear hHeld
           refine hK.out _ _ (held1 _) fun hHeld => ?_
           clear hK K
           clear g0 z0 g1 z1 g2 z2 g3 z3
           refine wpAnyH_done (by kernel_rfl) ?_ _
           clear hHeld HS
           go_wp2_with fail
           go_meet
           exact ⟨gb, _, _, _, rfl, HE.out.1, hltgb, HE.out.2⟩




         ·refine wy ?_
          go_simp
          clear hHeld
          refine hK.out _ _ (held1 _) fun hHeld => ?_
          clear hK K
          replace kb := kb.alloc (.cells zAx 106)
          have kg := Bk.new V2 106 zAx
          have bb2 := bb.alloc (by have := bb.size; omega) (.cells zAx 106)
          have hltgb : wr.heap.size ≤ V2.heap.size := bb.size
          clear bb
          have bb := bb2
          clear bb2
          obtain ⟨gb, hgb⟩ : ∃ x, V2.heap.size = x := ⟨_, rfl⟩
          rw [hgb] at kg hltgb
          try rw [hgb]
          obtain ⟨V3, hV⟩ : ∃ wN, V2.alloc (.cells zAx 106) = wN := ⟨_, rfl⟩
          rw [hV] at kg kb bb hHeld ⊢
          clear hV hgb
          refine rd2 4 11 (fun K hK => ?_) (fun K hK => ?_)
          ·have hc := run_convert_bytes_arg V3 104 5 Tryd.underlying104 Tryd.underlying5 nb 0 1 1 [yb] rfl (one_byte kb) 9 Tryd.underlying9
           refine wy ?_
           go_simp
           clear hHeld
           refine hK.out _ _ (held1 _) fun hHeld => ?_
           clear hK K
           clear hc
           refine tkC 5 ?_
           refine rd1 11 fun K hK => ?_
           refine wy ?_
           go_simp
           clear hHeld
           go_at_call 40
           (with_reducible refine (H4.out _ bb).mono ?_)
           rintro e V4 ⟨r2, rfl, hr2, bn⟩
           go_wp2_with fail
           refine hK.out _ _ (held1 _) fun hHeld => ?_
           clear hK K
           replace kg := bn.bk kg (by omega)
           replace kb := bn.bk kb (by omega)
           replace bb := bb.trans bn
           clear bn
           refine tkC 12 ?_
           refine tkC 13 ?_
           refine rd1 15 fun K hK => ?_
           obtain ⟨g0, g1, g2, g3, z0, z1, z2, z3⟩ := four kg
           have HE := Lib.hid (fin7 (r1 := r1) (r2 := r2) (sb := sb) kg bb hltgb hwg)
           unfold store4g at HE
           clear kg kb bb
           refine wy ?_
           go_simp
           clear hHeld
           refine hK.out _ _ (held1 _) fun hHeld => ?_
           clear hK K
           clear g0 z0 g1 z1 g2 z2 g3 z3
           refine wpAnyH_done (by kernel_rfl) ?_ _
           clear hHeld HS
           go_wp2_with fail
           go_meet
           exact ⟨gb, _, _, _, rfl, HE.out.1, hltgb, HE.out.2⟩



          ·refine wy ?_
           go_simp
           clear hHeld
           go_at_call 40
           (with_reducible refine (H4.out _ bb).mono ?_)
           rintro e V4 ⟨r2, rfl, hr2, bn⟩
           go_wp2_with fail
           refine hK.out _ _ (held1 _) fun hHeld => ?_
           clear hK K
           replace kg := bn.bk kg (by omega)
           replace kb := bn.bk kb (by omega)
           replace bb := bb.trans bn
           clear bn
           refine tkC 12 ?_
           refine rd1 4 fun K hK => ?_
           have hc := run_convert_bytes_arg V4 104 5 Tryd.underlying104 Tryd.underlying5 nb 0 1 1 [yb] rfl (one_byte kb) 9 Tryd.underlying9
           refine wy ?_
           go_simp
           clear hHeld
           refine hK.out _ _ (held1 _) fun hHeld => ?_
           clear hK K
           clear hc
           refine tkC 5 ?_
           refine tkC 13 ?_
           refine rd1 15 fun K hK => ?_
           obtain ⟨g0, g1, g2, g3, z0, z1, z2, z3⟩ := four kg
           have HE := Lib.hid (fin7 (r1 := r1) (r2 := r2) (sb := sb) kg bb hltgb hwg)
           unfold store4g at HE
           clear kg kb bb
           refine wy ?_
           go_simp
           clear hHeld
           refine hK.out _ _ (held1 _) fun hHeld => ?_
           clear hK K
           clear g0 z0 g1 z1 g2 z2 g3 z3
           refine wpAnyH_done (by kernel_rfl) ?_ _
           clear hHeld HS
           go_wp2_with fail
           go_meet
           exact ⟨gb, _, _, _, rfl, HE.out.1, hltgb, HE.out.2⟩





        ·refine wy ?_
         go_simp
         clear hHeld
         refine hK.out _ _ (held1 _) fun hHeld => ?_
         clear hK K
         replace kb := kb.alloc (.cells zAx 106)
         have kg := Bk.new V1 106 zAx
         have bb2 := bb.alloc (by have := bb.size; omega) (.cells zAx 106)
         have hltgb : wr.heap.size ≤ V1.heap.size := bb.size
         clear bb
         have bb := bb2
         clear bb2
         obtain ⟨gb, hgb⟩ : ∃ x, V1.heap.size = x := ⟨_, rfl⟩
         rw [hgb] at kg hltgb
         try rw [hgb]
         obtain ⟨V2, hV⟩ : ∃ wN, V1.alloc (.cells zAx 106) = wN := ⟨_, rfl⟩
         rw [hV] at kg kb bb hHeld ⊢
         clear hV hgb
         refine rd2 4 7 (fun K hK => ?_) (fun K hK => ?_)
         ·have hc := run_convert_bytes_arg V2 104 5 Tryd.underlying104 Tryd.underlying5 nb 0 1 1 [yb] rfl (one_byte kb) 9 Tryd.underlying9
          refine wy ?_
          go_simp
          clear hHeld
          refine hK.out _ _ (held1 _) fun hHeld => ?_
          clear hK K
          clear hc
          refine tkC 5 ?_
          refine rd1 7 fun K hK => ?_
          refine wy ?_
          go_simp
          clear hHeld
          go_at_call 40
          (with_reducible refine (H3.out _ bb).mono ?_)
          rintro e V3 ⟨r1, rfl, hr1, bn⟩
          go_wp2_with fail
          refine hK.out _ _ (held1 _) fun hHeld => ?_
          clear hK K
          replace kg := bn.bk kg (by omega)
          replace kb := bn.bk kb (by omega)
          replace bb := bb.trans bn
          clear bn
          refine tkC 8 ?_
          refine tkC 9 ?_
          refine rd1 11 fun K hK => ?_
          refine wy ?_
          go_simp
          clear hHeld
          go_at_call 40
          (with_reducible refine (H4.out _ bb).mono ?_)
          rintro e V4 ⟨r2, rfl, hr2, bn⟩
          go_wp2_with fail
          refine hK.out _ _ (held1 _) fun hHeld => ?_
          clear hK K
          replace kg := bn.bk kg (by omega)
          replace kb := bn.bk kb (by omega)
          replace bb := bb.trans bn
          clear bn
          refine tkC 12 ?_
          refine tkC 13 ?_
          refine rd1 15 fun K hK => ?_
          obtain ⟨g0, g1, g2, g3, z0, z1, z2, z3⟩ := four kg
          have HE := Lib.hid (fin7 (r1 := r1) (r2 := r2) (sb := sb) kg bb hltgb hwg)
          unfold store4g at HE
          clear kg kb bb
          refine wy ?_
          go_simp
          clear hHeld
          refine hK.out _ _ (held1 _) fun hHeld => ?_
          clear hK K
          clear g0 z0 g1 z1 g2 z2 g3 z3
          refine wpAnyH_done (by kernel_rfl) ?_ _
          clear hHeld HS
          go_wp2_with fail
          go_meet
          exact ⟨gb, _, _, _, rfl, HE.out.1, hltgb, HE.out.2⟩




         ·refine wy ?_
          go_simp
          clear hHeld
          go_at_call 40
          (with_reducible refine (H3.out _ bb).mono ?_)
          rintro e V3 ⟨r1, rfl, hr1, bn⟩
          go_wp2_with fail
          refine hK.out _ _ (held1 _) fun hHeld => ?_
          clear hK K
          replace kg := bn.bk kg (by omega)
          replace kb := bn.bk kb (by omega)
          replace bb := bb.trans bn
          clear bn
          refine tkC 8 ?_
          refine tkC 9 ?_
          refine rd2 4 11 (fun K hK => ?_) (fun K hK => ?_)
          ·have hc := run_convert_bytes_arg V3 104 5 Tryd.underlying104 Tryd.underlying5 nb 0 1 1 [yb] rfl (one_byte kb) 9 Tryd.underlying9
           refine wy ?_
           go_simp
           clear hHeld
           refine hK.out _ _ (held1 _) fun hHeld => ?_
           clear hK K
           clear hc
           refine tkC 5 ?_
           refine rd1 11 fun K hK => ?_
           refine wy ?_
           go_simp
           clear hHeld
           go_at_call 40
           (with_reducible refine (H4.out _ bb).mono ?_)
           rintro e V4 ⟨r2, rfl, hr2, bn⟩
           go_wp2_with fail
           refine hK.out _ _ (held1 _) fun hHeld => ?_
           clear hK K
           replace kg := bn.bk kg (by omega)
           replace kb := bn.bk kb (by omega)
           replace bb := bb.trans bn
           clear bn
           refine tkC 12 ?_
           refine tkC 13 ?_
           refine rd1 15 fun K hK => ?_
           obtain ⟨g0, g1, g2, g3, z0, z1, z2, z3⟩ := four kg
           have HE := Lib.hid (fin7 (r1 := r1) (r2 := r2) (sb := sb) kg bb hltgb hwg)
           unfold store4g at HE
           clear kg kb bb
           refine wy ?_
           go_simp
           clear hHeld
           refine hK.out _ _ (held1 _) fun hHeld => ?_
           clear hK K
           clear g0 z0 g1 z1 g2 z2 g3 z3
           refine wpAnyH_done (by kernel_rfl) ?_ _
           clear hHeld HS
           go_wp2_with fail
           go_meet
           exact ⟨gb, _, _, _, rfl, HE.out.1, hltgb, HE.out.2⟩



          ·refine wy ?_
           go_simp
           clear hHeld
           go_at_call 40
           (with_reducible refine (H4.out _ bb).mono ?_)
           rintro e V4 ⟨r2, rfl, hr2, bn⟩
           go_wp2_with fail
           refine hK.out _ _ (held1 _) fun hHeld => ?_
           clear hK K
           replace kg := bn.bk kg (by omega)
           replace kb := bn.bk kb (by omega)
           replace bb := bb.trans bn
           clear bn
           refine tkC 12 ?_
           refine rd1 4 fun K hK => ?_
           have hc := run_convert_bytes_arg V4 104 5 Tryd.underlying104 Tryd.underlying5 nb 0 1 1 [yb] rfl (one_byte kb) 9 Tryd.underlying9
           refine wy ?_
           go_simp
           clear hHeld
           refine hK.out _ _ (held1 _) fun hHeld => ?_
           clear hK K
           clear hc
           refine tkC 5 ?_
           refine tkC 13 ?_
           refine rd1 15 fun K hK => ?_
           obtain ⟨g0, g1, g2, g3, z0, z1, z2, z3⟩ := four kg
           have HE := Lib.hid (fin7 (r1 := r1) (r2 := r2) (sb := sb) kg bb hltgb hwg)
           unfold store4g at HE
           clear kg kb bb
           refine wy ?_
           go_simp
           clear hHeld
           refine hK.out _ _ (held1 _) fun hHeld => ?_
           clear hK K
           clear g0 z0 g1 z1 g2 z2 g3 z3
           refine wpAnyH_done (by kernel_rfl) ?_ _
           clear hHeld HS
           go_wp2_with fail
           go_meet
           exact ⟨gb, _, _, _, rfl, HE.out.1, hltgb, HE.out.2⟩






       ·refine wy ?_
        go_simp
        clear hHeld
        go_at_call 40
        (with_reducible refine (H3.out _ bb).mono ?_)
        rintro e V1 ⟨r1, rfl, hr1, bn⟩
        go_wp2_with fail
        refine hK.out _ _ (held1 _) fun hHeld => ?_
        clear hK K
        replace bb := bb.trans bn
        clear bn
        refine tkC 8 ?_
        refine tkC 9 ?_
        refine rd3 3 11 14 (fun K hK => ?_) (fun K hK => ?_) (fun K hK => ?_)
        ·refine wy ?_
         go_simp
         clear hHeld
         refine hK.out _ _ (held1 _) fun hHeld => ?_
         clear hK K
         have kb := Bk.new V1 5 #[.int .u8 yb]
         have bb2 := bb.alloc (by have := bb.size; omega) (.cells #[.int .u8 yb] 5)
         have hltnb : wr.heap.size ≤ V1.heap.size := bb.size
         clear bb
         have bb := bb2
         clear bb2
         obtain ⟨nb, hnb⟩ : ∃ x, V1.heap.size = x := ⟨_, rfl⟩
         rw [hnb] at kb hltnb
         try rw [hnb]
         obtain ⟨V2, hV⟩ : ∃ wN, V1.alloc (.cells #[.int .u8 yb] 5) = wN := ⟨_, rfl⟩
         rw [hV] at kb bb hHeld ⊢
         clear hV hnb
         refine rd3 4 11 14 (fun K hK => ?_) (fun K hK => ?_) (fun K hK => ?_)
         ·have hc := run_convert_bytes_arg V2 104 5 Tryd.underlying104 Tryd.underlying5 nb 0 1 1 [yb] rfl (one_byte kb) 9 Tryd.underlying9
          refine wy ?_
          go_simp
          clear hHeld
          refine hK.out _ _ (held1 _) fun hHeld => ?_
          clear hK K
          clear hc
          refine tkC 5 ?_
          refine rd2 11 14 (fun K hK => ?_) (fun K hK => ?_)
          ·refine wy ?_
           go_simp
           clear hHeld
           go_at_call 40
           (with_reducible refine (H4.out _ bb).mono ?_)
           rintro e V3 ⟨r2, rfl, hr2, bn⟩
           go_wp2_with fail
           refine hK.out _ _ (held1 _) fun hHeld => ?_
           clear hK K
           replace kb := bn.bk kb (by omega)
           replace bb := bb.trans bn
           clear bn
           refine tkC 12 ?_
           refine tkC 13 ?_
           refine rd1 14 fun K hK => ?_
           refine wy ?_
           go_simp
           clear hHeld
           refine hK.out _ _ (held1 _) fun hHeld => ?_
           clear hK K
           replace kb := kb.alloc (.cells zAx 106)
           have kg := Bk.new V3 106 zAx
           have bb2 := bb.alloc (by have := bb.size; omega) (.cells zAx 106)
           have hltgb : wr.heap.size ≤ V3.heap.size := bb.size
           clear bb
           have bb := bb2
           clear bb2
           obtain ⟨gb, hgb⟩ : ∃ x, V3.heap.size = x := ⟨_, rfl⟩
           rw [hgb] at kg hltgb
           try rw [hgb]
           obtain ⟨V4, hV⟩ : ∃ wN, V3.alloc (.cells zAx 106) = wN := ⟨_, rfl⟩
           rw [hV] at kg kb bb hHeld ⊢
           clear hV hgb
           refine rd1 15 fun K hK => ?_
           obtain ⟨g0, g1, g2, g3, z0, z1, z2, z3⟩ := four kg
           have HE := Lib.hid (fin7 (r1 := r1) (r2 := r2) (sb := sb) kg bb hltgb hwg)
           unfold store4g at HE
           clear kg kb bb
           refine wy ?_
           go_simp
           clear hHeld
           refine hK.out _ _ (held1 _) fun hHeld => ?_
           clear hK K
           clear g0 z0 g1 z1 g2 z2 g3 z3
           refine wpAnyH_done (by kernel_rfl) ?_ _
           clear hHeld HS
           go_wp2_with fail
           go_meet
           exact ⟨gb, _, _, _, rfl, HE.out.1, hltgb, HE.out.2⟩



          ·refine wy ?_
           go_simp
           clear hHeld
           refine hK.out _ _ (held1 _) fun hHeld => ?_
           clear hK K
           replace kb := kb.alloc (.cells zAx 106)
           have kg := Bk.new V2 106 zAx
           have bb2 := bb.alloc (by have := bb.size; omega) (.cells zAx 106)
           have hltgb : wr.heap.size ≤ V2.heap.size := bb.size
           clear bb
           have bb := bb2
           clear bb2
           obtain ⟨gb, hgb⟩ : ∃ x, V2.heap.size = x := ⟨_, rfl⟩
           rw [hgb] at kg hltgb
           try rw [hgb]
           obtain ⟨V3, hV⟩ : ∃ wN, V2.alloc (.cells zAx 106) = wN := ⟨_, rfl⟩
           rw [hV] at kg kb bb hHeld ⊢
           clear hV hgb
           refine rd1 11 fun K hK => ?_
           refine wy ?_
           go_simp
           clear hHeld
           go_at_call 40
           (with_reducible refine (H4.out _ bb).mono ?_)
           rintro e V4 ⟨r2, rfl, hr2, bn⟩
           go_wp2_with fail
           refine hK.out _ _ (held1 _) fun hHeld => ?_
           clear hK K
           replace kg := bn.bk kg (by omega)
           replace kb := bn.bk kb (by omega)
           replace bb := bb.trans bn
           clear bn
           refine tkC 12 ?_
           refine tkC 13 ?_
           refine rd1 15 fun K hK => ?_
           obtain ⟨g0, g1, g2, g3, z0, z1, z2, z3⟩ := four kg
           have HE := Lib.hid (fin7 (r1 := r1) (r2 := r2) (sb := sb) kg bb hltgb hwg)
           unfold store4g at HE
           clear kg kb bb
           refine wy ?_
           go_simp
           clear hHeld
           refine hK.out _ _ (held1 _) fun hHeld => ?_
           clear hK K
           clear g0 z0 g1 z1 g2 z2 g3 z3
           refine wpAnyH_done (by kernel_rfl) ?_ _
           clear hHeld HS
           go_wp2_with fail
           go_meet
           exact ⟨gb, _, _, _, rfl, HE.out.1, hltgb, HE.out.2⟩




         ·refine wy ?_
          go_simp
          clear hHeld
          go_at_call 40
          (with_reducible refine (H4.out _ bb).mono ?_)
          rintro e V3 ⟨r2, rfl, hr2, bn⟩
          go_wp2_with fail
          refine hK.out _ _ (held1 _) fun hHeld => ?_
          clear hK K
          replace kb := bn.bk kb (by omega)
          replace bb := bb.trans bn
          clear bn
          refine tkC 12 ?_
          refine rd2 4 14 (fun K hK => ?_) (fun K hK => ?_)
          ·have hc := run_convert_bytes_arg V3 104 5 Tryd.underlying104 Tryd.underlying5 nb 0 1 1 [yb] rfl (one_byte kb) 9 Tryd.underlying9
           refine wy ?_
           go_simp
           clear hHeld
           refine hK.out _ _ (held1 _) fun hHeld => ?_
           clear hK K
           clear hc
           refine tkC 5 ?_
           refine tkC 13 ?_
           refine rd1 14 fun K hK => ?_
           refine wy ?_
           go_simp
           clear hHeld
           refine hK.out _ _ (held1 _) fun hHeld => ?_
           clear hK K
           replace kb := kb.alloc (.cells zAx 106)
           have kg := Bk.new V3 106 zAx
           have bb2 := bb.alloc (by have := bb.size; omega) (.cells zAx 106)
           have hltgb : wr.heap.size ≤ V3.heap.size := bb.size
           clear bb
           have bb := bb2
           clear bb2
           obtain ⟨gb, hgb⟩ : ∃ x, V3.heap.size = x := ⟨_, rfl⟩
           rw [hgb] at kg hltgb
           try rw [hgb]
           obtain ⟨V4, hV⟩ : ∃ wN, V3.alloc (.cells zAx 106) = wN := ⟨_, rfl⟩
           rw [hV] at kg kb bb hHeld ⊢
           clear hV hgb
           refine rd1 15 fun K hK => ?_
           obtain ⟨g0, g1, g2, g3, z0, z1, z2, z3⟩ := four kg
           have HE := Lib.hid (fin7 (r1 := r1) (r2 := r2) (sb := sb) kg bb hltgb hwg)
           unfold store4g at HE
           clear kg kb bb
           refine wy ?_
           go_simp
           clear hHeld
           refine hK.out _ _ (held1 _) fun hHeld => ?_
           clear hK K
           clear g0 z0 g1 z1 g2 z2 g3 z3
           refine wpAnyH_done (by kernel_rfl) ?_ _
           clear hHeld HS
           go_wp2_with fail
           go_meet
           exact ⟨gb, _, _, _, rfl, HE.out.1, hltgb, HE.out.2⟩



          ·refine wy ?_
           go_simp
           clear hHeld
           refine hK.out _ _ (held1 _) fun hHeld => ?_
           clear hK K
           replace kb := kb.alloc (.cells zAx 106)
           have kg := Bk.new V3 106 zAx
           have bb2 := bb.alloc (by have := bb.size; omega) (.cells zAx 106)
           have hltgb : wr.heap.size ≤ V3.heap.size := bb.size
           clear bb
           have bb := bb2
           clear bb2
           obtain ⟨gb, hgb⟩ : ∃ x, V3.heap.size = x := ⟨_, rfl⟩
           rw [hgb] at kg hltgb
           try rw [hgb]
           obtain ⟨V4, hV⟩ : ∃ wN, V3.alloc (.cells zAx 106) = wN := ⟨_, rfl⟩
           rw [hV] at kg kb bb hHeld ⊢
           clear hV hgb
           refine rd1 4 fun K hK => ?_
           have hc := run_convert_bytes_arg V4 104 5 Tryd.underlying104 Tryd.underlying5 nb 0 1 1 [yb] rfl (one_byte kb) 9 Tryd.underlying9
           refine wy ?_
           go_simp
           clear hHeld
           refine hK.out _ _ (held1 _) fun hHeld => ?_
           clear hK K
           clear hc
           refine tkC 5 ?_
           refine tkC 13 ?_
           refine rd1 15 fun K hK => ?_
           obtain ⟨g0, g1, g2, g3, z0, z1, z2, z3⟩ := four kg
           have HE := Lib.hid (fin7 (r1 := r1) (r2 := r2) (sb := sb) kg bb hltgb hwg)
           unfold store4g at HE
           clear kg kb bb
           refine wy ?_
           go_simp
           clear hHeld
           refine hK.out _ _ (held1 _) fun hHeld => ?_
           clear hK K
           clear g0 z0 g1 z1 g2 z2 g3 z3
           refine wpAnyH_done (by kernel_rfl) ?_ _
           clear hHeld HS
           go_wp2_with fail
           go_meet
           exact ⟨gb, _, _, _, rfl, HE.out.1, hltgb, HE.out.2⟩




         ·refine wy ?_
          go_simp
          clear hHeld
          refine hK.out _ _ (held1 _) fun hHeld => ?_
          clear hK K
          replace kb := kb.alloc (.cells zAx 106)
          have kg := Bk.new V2 106 zAx
          have bb2 := bb.alloc (by have := bb.size; omega) (.cells zAx 106)
          have hltgb : wr.heap.size ≤ V2.heap.size := bb.size
          clear bb
          have bb := bb2
          clear bb2
          obtain ⟨gb, hgb⟩ : ∃ x, V2.heap.size = x := ⟨_, rfl⟩
          rw [hgb] at kg hltgb
          try rw [hgb]
          obtain ⟨V3, hV⟩ : ∃ wN, V2.alloc (.cells zAx 106) = wN := ⟨_, rfl⟩
          rw [hV] at kg kb bb hHeld ⊢
          clear hV hgb
          refine rd2 4 11 (fun K hK => ?_) (fun K hK => ?_)
          ·have hc := run_convert_bytes_arg V3 104 5 Tryd.underlying104 Tryd.underlying5 nb 0 1 1 [yb] rfl (one_byte kb) 9 Tryd.underlying9
           refine wy ?_
           go_simp
           clear hHeld
           refine hK.out _ _ (held1 _) fun hHeld => ?_
           clear hK K
           clear hc
           refine tkC 5 ?_
           refine rd1 11 fun K hK => ?_
           refine wy ?_
           go_simp
           clear hHeld
           go_at_call 40
           (with_reducible refine (H4.out _ bb).mono ?_)
           rintro e V4 ⟨r2, rfl, hr2, bn⟩
           go_wp2_with fail
           refine hK.out _ _ (held1 _) fun hHeld => ?_
           clear hK K
           replace kg := bn.bk kg (by omega)
           replace kb := bn.bk kb (by omega)
           replace bb := bb.trans bn
           clear bn
           refine tkC 12 ?_
           refine tkC 13 ?_
           refine rd1 15 fun K hK => ?_
           obtain ⟨g0, g1, g2, g3, z0, z1, z2, z3⟩ := four kg
           have HE := Lib.hid (fin7 (r1 := r1) (r2 := r2) (sb := sb) kg bb hltgb hwg)
           unfold store4g at HE
           clear kg kb bb
           refine wy ?_
           go_simp
           clear hHeld
           refine hK.out _ _ (held1 _) fun hHeld => ?_
           clear hK K
           clear g0 z0 g1 z1 g2 z2 g3 z3
           refine wpAnyH_done (by kernel_rfl) ?_ _
           clear hHeld HS
           go_wp2_with fail
           go_meet
           exact ⟨gb, _, _, _, rfl, HE.out.1, hltgb, HE.out.2⟩



          ·refine wy ?_
           go_simp
           clear hHeld
           go_at_call 40
           (with_reducible refine (H4.out _ bb).mono ?_)
           rintro e V4 ⟨r2, rfl, hr2, bn⟩
           go_wp2_with fail
           refine hK.out _ _ (held1 _) fun hHeld => ?_
           clear hK K
           replace kg := bn.bk kg (by omega)
           replace kb := bn.bk kb (by omega)
           replace bb := bb.trans bn
           clear bn
           refine tkC 12 ?_
           refine rd1 4 fun K hK => ?_
           have hc := run_convert_bytes_arg V4 104 5 Tryd.underlying104 Tryd.underlying5 nb 0 1 1 [yb] rfl (one_byte kb) 9 Tryd.underlying9
           refine wy ?_
           go_simp
           clear hHeld
           refine hK.out _ _ (held1 _) fun hHeld => ?_
           clear hK K
           clear hc
           refine tkC 5 ?_
           refine tkC 13 ?_
           refine rd1 15 fun K hK => ?_
           obtain ⟨g0, g1, g2, g3, z0, z1, z2, z3⟩ := four kg
           have HE := Lib.hid (fin7 (r1 := r1) (r2 := r2) (sb := sb) kg bb hltgb hwg)
           unfold store4g at HE
           clear kg kb bb
           refine wy ?_
           go_simp
           clear hHeld
           refine hK.out _ _ (held1 _) fun hHeld => ?_
           clear hK K
           clear g0 z0 g1 z1 g2 z2 g3 z3
           refine wpAnyH_done (by kernel_rfl) ?_ _
           clear hHeld HS
           go_wp2_with fail
           go_meet
           exact ⟨gb, _, _, _, rfl, HE.out.1, hltgb, HE.out.2⟩





        ·refine wy ?_
         go_simp
         clear hHeld
         go_at_call 40
         (with_reducible refine (H4.out _ bb).mono ?_)
         rintro e V2 ⟨r2, rfl, hr2, bn⟩
         go_wp2_with fail
         refine hK.out _ _ (held1 _) fun hHeld => ?_
         clear hK K
         replace bb := bb.trans bn
         clear bn
         refine tkC 12 ?_
         refine rd2 3 14 (fun K hK => ?_) (fun K hK => ?_)
         ·refine wy ?_
          go_simp
          clear hHeld
          refine hK.out _ _ (held1 _) fun hHeld => ?_
          clear hK K
          have kb := Bk.new V2 5 #[.int .u8 yb]
          have bb2 := bb.alloc (by have := bb.size; omega) (.cells #[.int .u8 yb] 5)
          have hltnb : wr.heap.size ≤ V2.heap.size := bb.size
          clear bb
          have bb := bb2
          clear bb2
          obtain ⟨nb, hnb⟩ : ∃ x, V2.heap.size = x := ⟨_, rfl⟩
          rw [hnb] at kb hltnb
          try rw [hnb]
          obtain ⟨V3, hV⟩ : ∃ wN, V2.alloc (.cells #[.int .u8 yb] 5) = wN := ⟨_, rfl⟩
          rw [hV] at kb bb hHeld ⊢
          clear hV hnb
          refine rd2 4 14 (fun K hK => ?_) (fun K hK => ?_)
          ·have hc := run_convert_bytes_arg V3 104 5 Tryd.underlying104 Tryd.underlying5 nb 0 1 1 [yb] rfl (one_byte kb) 9 Tryd.underlying9
           refine wy ?_
           go_simp
           clear hHeld
           refine hK.out _ _ (held1 _) fun hHeld => ?_
           clear hK K
           clear hc
           refine tkC 5 ?_
           refine tkC 13 ?_
           refine rd1 14 fun K hK => ?_
           refine wy ?_
           go_simp
           clear hHeld
           refine hK.out _ _ (held1 _) fun hHeld => ?_
           clear hK K
           replace kb := kb.alloc (.cells zAx 106)
           have kg := Bk.new V3 106 zAx
           have bb2 := bb.alloc (by have := bb.size; omega) (.cells zAx 106)
           have hltgb : wr.heap.size ≤ V3.heap.size := bb.size
           clear bb
           have bb := bb2
           clear bb2
           obtain ⟨gb, hgb⟩ : ∃ x, V3.heap.size = x := ⟨_, rfl⟩
           rw [hgb] at kg hltgb
           try rw [hgb]
           obtain ⟨V4, hV⟩ : ∃ wN, V3.alloc (.cells zAx 106) = wN := ⟨_, rfl⟩
           rw [hV] at kg kb bb hHeld ⊢
           clear hV hgb
           refine rd1 15 fun K hK => ?_
           obtain ⟨g0, g1, g2, g3, z0, z1, z2, z3⟩ := four kg
           have HE := Lib.hid (fin7 (r1 := r1) (r2 := r2) (sb := sb) kg bb hltgb hwg)
           unfold store4g at HE
           clear kg kb bb
           refine wy ?_
           go_simp
           clear hHeld
           refine hK.out _ _ (held1 _) fun hHeld => ?_
           clear hK K
           clear g0 z0 g1 z1 g2 z2 g3 z3
           refine wpAnyH_done (by kernel_rfl) ?_ _
           clear hHeld HS
           go_wp2_with fail
           go_meet
           exact ⟨gb, _, _, _, rfl, HE.out.1, hltgb, HE.out.2⟩



          ·refine wy ?_
           go_simp
           clear hHeld
           refine hK.out _ _ (held1 _) fun hHeld => ?_
           clear hK K
           replace kb := kb.alloc (.cells zAx 106)
           have kg := Bk.new V3 106 zAx
           have bb2 := bb.alloc (by have := bb.size; omega) (.cells zAx 106)
           have hltgb : wr.heap.size ≤ V3.heap.size := bb.size
           clear bb
           have bb := bb2
           clear bb2
           obtain ⟨gb, hgb⟩ : ∃ x, V3.heap.size = x := ⟨_, rfl⟩
           rw [hgb] at kg hltgb
           try rw [hgb]
           obtain ⟨V4, hV⟩ : ∃ wN, V3.alloc (.cells zAx 106) = wN := ⟨_, rfl⟩
           rw [hV] at kg kb bb hHeld ⊢
           clear hV hgb
           refine rd1 4 fun K hK => ?_
           have hc := run_convert_bytes_arg V4 104 5 Tryd.underlying104 Tryd.underlying5 nb 0 1 1 [yb] rfl (one_byte kb) 9 Tryd.underlying9
           refine wy ?_
           go_simp
           clear hHeld
           refine hK.out _ _ (held1 _) fun hHeld => ?_
           clear hK K
           clear hc
           refine tkC 5 ?_
           refine tkC 13 ?_
           refine rd1 15 fun K hK => ?_
           obtain ⟨g0, g1, g2, g3, z0, z1, z2, z3⟩ := four kg
           have HE := Lib.hid (fin7 (r1 := r1) (r2 := r2) (sb := sb) kg bb hltgb hwg)
           unfold store4g at HE
           clear kg kb bb
           refine wy ?_
           go_simp
           clear hHeld
           refine hK.out _ _ (held1 _) fun hHeld => ?_
           clear hK K
           clear g0 z0 g1 z1 g2 z2 g3 z3
           refine wpAnyH_done (by kernel_rfl) ?_ _
           clear hHeld HS
           go_wp2_with fail
           go_meet
           exact ⟨gb, _, _, _, rfl, HE.out.1, hltgb, HE.out.2⟩




         ·refine wy ?_
          go_simp
          clear hHeld
          refine hK.out _ _ (held1 _) fun hHeld => ?_
          clear hK K
          have kg := Bk.new V2 106 zAx
          have bb2 := bb.alloc (by have := bb.size; omega) (.cells zAx 106)
          have hltgb : wr.heap.size ≤ V2.heap.size := bb.size
          clear bb
          have bb := bb2
          clear bb2
          obtain ⟨gb, hgb⟩ : ∃ x, V2.heap.size = x := ⟨_, rfl⟩
          rw [hgb] at kg hltgb
          try rw [hgb]
          obtain ⟨V3, hV⟩ : ∃ wN, V2.alloc (.cells zAx 106) = wN := ⟨_, rfl⟩
          rw [hV] at kg bb hHeld ⊢
          clear hV hgb
          refine rd1 3 fun K hK => ?_
          refine wy ?_
          go_simp
          clear hHeld
          refine hK.out _ _ (held1 _) fun hHeld => ?_
          clear hK K
          replace kg := kg.alloc (.cells #[.int .u8 yb] 5)
          have kb := Bk.new V3 5 #[.int .u8 yb]
          have bb2 := bb.alloc (by have := bb.size; omega) (.cells #[.int .u8 yb] 5)
          have hltnb : wr.heap.size ≤ V3.heap.size := bb.size
          clear bb
          have bb := bb2
          clear bb2
          obtain ⟨nb, hnb⟩ : ∃ x, V3.heap.size = x := ⟨_, rfl⟩
          rw [hnb] at kb hltnb
          try rw [hnb]
          obtain ⟨V4, hV⟩ : ∃ wN, V3.alloc (.cells #[.int .u8 yb] 5) = wN := ⟨_, rfl⟩
          rw [hV] at kg kb bb hHeld ⊢
          clear hV hnb
          refine rd1 4 fun K hK => ?_
          have hc := run_convert_bytes_arg V4 104 5 Tryd.underlying104 Tryd.underlying5 nb 0 1 1 [yb] rfl (one_byte kb) 9 Tryd.underlying9
          refine wy ?_
          go_simp
          clear hHeld
          refine hK.out _ _ (held1 _) fun hHeld => ?_
          clear hK K
          clear hc
          refine tkC 5 ?_
          refine tkC 13 ?_
          refine rd1 15 fun K hK => ?_
          obtain ⟨g0, g1, g2, g3, z0, z1, z2, z3⟩ := four kg
          have HE := Lib.hid (fin7 (r1 := r1) (r2 := r2) (sb := sb) kg bb hltgb hwg)
          unfold store4g at HE
          clear kg kb bb
          refine wy ?_
          go_simp
          clear hHeld
          refine hK.out _ _ (held1 _) fun hHeld => ?_
          clear hK K
          clear g0 z0 g1 z1 g2 z2 g3 z3
          refine wpAnyH_done (by kernel_rfl) ?_ _
          clear hHeld HS
          go_wp2_with fail
          go_meet
          exact ⟨gb, _, _, _, rfl, HE.out.1, hltgb, HE.out.2⟩





        ·refine wy ?_
         go_simp
         clear hHeld
         refine hK.out _ _ (held1 _) fun hHeld => ?_
         clear hK K
         have kg := Bk.new V1 106 zAx
         have bb2 := bb.alloc (by have := bb.size; omega) (.cells zAx 106)
         have hltgb : wr.heap.size ≤ V1.heap.size := bb.size
         clear bb
         have bb := bb2
         clear bb2
         obtain ⟨gb, hgb⟩ : ∃ x, V1.heap.size = x := ⟨_, rfl⟩
         rw [hgb] at kg hltgb
         try rw [hgb]
         obtain ⟨V2, hV⟩ : ∃ wN, V1.alloc (.cells zAx 106) = wN := ⟨_, rfl⟩
         rw [hV] at kg bb hHeld ⊢
         clear hV hgb
         refine rd2 3 11 (fun K hK => ?_) (fun K hK => ?_)
         ·refine wy ?_
          go_simp
          clear hHeld
          refine hK.out _ _ (held1 _) fun hHeld => ?_
          clear hK K
          replace kg := kg.alloc (.cells #[.int .u8 yb] 5)
          have kb := Bk.new V2 5 #[.int .u8 yb]
          have bb2 := bb.alloc (by have := bb.size; omega) (.cells #[.int .u8 yb] 5)
          have hltnb : wr.heap.size ≤ V2.heap.size := bb.size
          clear bb
          have bb := bb2
          clear bb2
          obtain ⟨nb, hnb⟩ : ∃ x, V2.heap.size = x := ⟨_, rfl⟩
          rw [hnb] at kb hltnb
          try rw [hnb]
          obtain ⟨V3, hV⟩ : ∃ wN, V2.alloc (.cells #[.int .u8 yb] 5) = wN := ⟨_, rfl⟩
          rw [hV] at kg kb bb hHeld ⊢
          clear hV hnb
          refine rd2 4 11 (fun K hK => ?_) (fun K hK => ?_)
          ·have hc := run_convert_bytes_arg V3 104 5 Tryd.underlying104 Tryd.underlying5 nb 0 1 1 [yb] rfl (one_byte kb) 9 Tryd.underlying9
           refine wy ?_
           go_simp
           clear hHeld
           refine hK.out _ _ (held1 _) fun hHeld => ?_
           clear hK K
           clear hc
           refine tkC 5 ?_
           refine rd1 11 fun K hK => ?_
           refine wy ?_
           go_simp
           clear hHeld
           go_at_call 40
           (with_reducible refine (H4.out _ bb).mono ?_)
           rintro e V4 ⟨r2, rfl, hr2, bn⟩
           go_wp2_with fail
           refine hK.out _ _ (held1 _) fun hHeld => ?_
           clear hK K
           replace kg := bn.bk kg (by omega)
           replace kb := bn.bk kb (by omega)
           replace bb := bb.trans bn
           clear bn
           refine tkC 12 ?_
           refine tkC 13 ?_
           refine rd1 15 fun K hK => ?_
           obtain ⟨g0, g1, g2, g3, z0, z1, z2, z3⟩ := four kg
           have HE := Lib.hid (fin7 (r1 := r1) (r2 := r2) (sb := sb) kg bb hltgb hwg)
           unfold store4g at HE
           clear kg kb bb
           refine wy ?_
           go_simp
           clear hHeld
           refine hK.out _ _ (held1 _) fun hHeld => ?_
           clear hK K
           clear g0 z0 g1 z1 g2 z2 g3 z3
           refine wpAnyH_done (by kernel_rfl) ?_ _
           clear hHeld HS
           go_wp2_with fail
           go_meet
           exact ⟨gb, _, _, _, rfl, HE.out.1, hltgb, HE.out.2⟩



          ·refine wy ?_
           go_simp
           clear hHeld
           go_at_call 40
           (with_reducible refine (H4.out _ bb).mono ?_)
           rintro e V4 ⟨r2, rfl, hr2, bn⟩
           go_wp2_with fail
           refine hK.out _ _ (held1 _) fun hHeld => ?_
           clear hK K
           replace kg := bn.bk kg (by omega)
           replace kb := bn.bk kb (by omega)
           replace bb := bb.trans bn
           clear bn
           refine tkC 12 ?_
           refine rd1 4 fun K hK => ?_
           have hc := run_convert_bytes_arg V4 104 5 Tryd.underlying104 Tryd.underlying5 nb 0 1 1 [yb] rfl (one_byte kb) 9 Tryd.underlying9
           refine wy ?_
           go_simp
           clear hHeld
           refine hK.out _ _ (held1 _) fun hHeld => ?_
           clear hK K
           clear hc
           refine tkC 5 ?_
           refine tkC 13 ?_
           refine rd1 15 fun K hK => ?_
           obtain ⟨g0, g1, g2, g3, z0, z1, z2, z3⟩ := four kg
           have HE := Lib.hid (fin7 (r1 := r1) (r2 := r2) (sb := sb) kg bb hltgb hwg)
           unfold store4g at HE
           clear kg kb bb
           refine wy ?_
           go_simp
           clear hHeld
           refine hK.out _ _ (held1 _) fun hHeld => ?_
           clear hK K
           clear g0 z0 g1 z1 g2 z2 g3 z3
           refine wpAnyH_done (by kernel_rfl) ?_ _
           clear hHeld HS
           go_wp2_with fail
           go_meet
           exact ⟨gb, _, _, _, rfl, HE.out.1, hltgb, HE.out.2⟩




         ·refine wy ?_
          go_simp
          clear hHeld
          go_at_call 40
          (with_reducible refine (H4.out _ bb).mono ?_)
          rintro e V3 ⟨r2, rfl, hr2, bn⟩
          go_wp2_with fail
          refine hK.out _ _ (held1 _) fun hHeld => ?_
          clear hK K
          replace kg := bn.bk kg (by omega)
          replace bb := bb.trans bn
          clear bn
          refine tkC 12 ?_
          refine rd1 3 fun K hK => ?_
          refine wy ?_
          go_simp
          clear hHeld
          refine hK.out _ _ (held1 _) fun hHeld => ?_
          clear hK K
          replace kg := kg.alloc (.cells #[.int .u8 yb] 5)
          have kb := Bk.new V3 5 #[.int .u8 yb]
          have bb2 := bb.alloc (by have := bb.size; omega) (.cells #[.int .u8 yb] 5)
          have hltnb : wr.heap.size ≤ V3.heap.size := bb.size
          clear bb
          have bb := bb2
          clear bb2
          obtain ⟨nb, hnb⟩ : ∃ x, V3.heap.size = x := ⟨_, rfl⟩
          rw [hnb] at kb hltnb
          try rw [hnb]
          obtain ⟨V4, hV⟩ : ∃ wN, V3.alloc (.cells #[.int .u8 yb] 5) = wN := ⟨_, rfl⟩
          rw [hV] at kg kb bb hHeld ⊢
          clear hV hnb
          refine rd1 4 fun K hK => ?_
          have hc := run_convert_bytes_arg V4 104 5 Tryd.underlying104 Tryd.underlying5 nb 0 1 1 [yb] rfl (one_byte kb) 9 Tryd.underlying9
          refine wy ?_
          go_simp
          clear hHeld
          refine hK.out _ _ (held1 _) fun hHeld => ?_
          clear hK K
          clear hc
          refine tkC 5 ?_
          refine tkC 13 ?_
          refine rd1 15 fun K hK => ?_
          obtain ⟨g0, g1, g2, g3, z0, z1, z2, z3⟩ := four kg
          have HE := Lib.hid (fin7 (r1 := r1) (r2 := r2) (sb := sb) kg bb hltgb hwg)
          unfold store4g at HE
          clear kg kb bb
          refine wy ?_
          go_simp
          clear hHeld
          refine hK.out _ _ (held1 _) fun hHeld => ?_
          clear hK K
          clear g0 z0 g1 z1 g2 z2 g3 z3
          refine wpAnyH_done (by kernel_rfl) ?_ _
          clear hHeld HS
          go_wp2_with fail
          go_meet
          exact ⟨gb, _, _, _, rfl, HE.out.1, hltgb, HE.out.2⟩






       ·refine wy ?_
        go_simp
        clear hHeld
        refine hK.out _ _ (held1 _) fun hHeld => ?_
        clear hK K
        have kg := Bk.new W0 106 zAx
        have bb2 := bb.alloc (by have := bb.size; omega) (.cells zAx 106)
        have hltgb : wr.heap.size ≤ W0.heap.size := bb.size
        clear bb
        have bb := bb2
        clear bb2
        obtain ⟨gb, hgb⟩ : ∃ x, W0.heap.size = x := ⟨_, rfl⟩
        rw [hgb] at kg hltgb
        try rw [hgb]
        obtain ⟨V1, hV⟩ : ∃ wN, W0.alloc (.cells zAx 106) = wN := ⟨_, rfl⟩
        rw [hV] at kg bb hHeld ⊢
        clear hV hgb
        refine rd2 3 7 (fun K hK => ?_) (fun K hK => ?_)
        ·refine wy ?_
         go_simp
         clear hHeld
         refine hK.out _ _ (held1 _) fun hHeld => ?_
         clear hK K
         replace kg := kg.alloc (.cells #[.int .u8 yb] 5)
         have kb := Bk.new V1 5 #[.int .u8 yb]
         have bb2 := bb.alloc (by have := bb.size; omega) (.cells #[.int .u8 yb] 5)
         have hltnb : wr.heap.size ≤ V1.heap.size := bb.size
         clear bb
         have bb := bb2
         clear bb2
         obtain ⟨nb, hnb⟩ : ∃ x, V1.heap.size = x := ⟨_, rfl⟩
         rw [hnb] at kb hltnb
         try rw [hnb]
         obtain ⟨V2, hV⟩ : ∃ wN, V1.alloc (.cells #[.int .u8 yb] 5) = wN := ⟨_, rfl⟩
         rw [hV] at kg kb bb hHeld ⊢
         clear hV hnb
         refine rd2 4 7 (fun K hK => ?_) (fun K hK => ?_)
         ·have hc := run_convert_bytes_arg V2 104 5 Tryd.underlying104 Tryd.underlying5 nb 0 1 1 [yb] rfl (one_byte kb) 9 Tryd.underlying9
          refine wy ?_
          go_simp
          clear hHeld
          refine hK.out _ _ (held1 _) fun hHeld => ?_
          clear hK K
          clear hc
          refine tkC 5 ?_
          refine rd1 7 fun K hK => ?_
          refine wy ?_
          go_simp
          clear hHeld
          go_at_call 40
          (with_reducible refine (H3.out _ bb).mono ?_)
          rintro e V3 ⟨r1, rfl, hr1, bn⟩
          go_wp2_with fail
          refine hK.out _ _ (held1 _) fun hHeld => ?_
          clear hK K
          replace kg := bn.bk kg (by omega)
          replace kb := bn.bk kb (by omega)
          replace bb := bb.trans bn
          clear bn
          refine tkC 8 ?_
          refine tkC 9 ?_
          refine rd1 11 fun K hK => ?_
          refine wy ?_
          go_simp
          clear hHeld
          go_at_call 40
          (with_reducible refine (H4.out _ bb).mono ?_)
          rintro e V4 ⟨r2, rfl, hr2, bn⟩
          go_wp2_with fail
          refine hK.out _ _ (held1 _) fun hHeld => ?_
          clear hK K
          replace kg := bn.bk kg (by omega)
          replace kb := bn.bk kb (by omega)
          replace bb := bb.trans bn
          clear bn
          refine tkC 12 ?_
          refine tkC 13 ?_
          refine rd1 15 fun K hK => ?_
          obtain ⟨g0, g1, g2, g3, z0, z1, z2, z3⟩ := four kg
          have HE := Lib.hid (fin7 (r1 := r1) (r2 := r2) (sb := sb) kg bb hltgb hwg)
          unfold store4g at HE
          clear kg kb bb
          refine wy ?_
          go_simp
          clear hHeld
          refine hK.out _ _ (held1 _) fun hHeld => ?_
          clear hK K
          clear g0 z0 g1 z1 g2 z2 g3 z3
          refine wpAnyH_done (by kernel_rfl) ?_ _
          clear hHeld HS
          go_wp2_with fail
          go_meet
          exact ⟨gb, _, _, _, rfl, HE.out.1, hltgb, HE.out.2⟩




         ·refine wy ?_
          go_simp
          clear hHeld
          go_at_call 40
          (with_reducible refine (H3.out _ bb).mono ?_)
          rintro e V3 ⟨r1, rfl, hr1, bn⟩
          go_wp2_with fail
          refine hK.out _ _ (held1 _) fun hHeld => ?_
          clear hK K
          replace kg := bn.bk kg (by omega)
          replace kb := bn.bk kb (by omega)
          replace bb := bb.trans bn
          clear bn
          refine tkC 8 ?_
          refine tkC 9 ?_
          refine rd2 4 11 (fun K hK => ?_) (fun K hK => ?_)
          ·have hc := run_convert_bytes_arg V3 104 5 Tryd.underlying104 Tryd.underlying5 nb 0 1 1 [yb] rfl (one_byte kb) 9 Tryd.underlying9
           refine wy ?_
           go_simp
           clear hHeld
           refine hK.out _ _ (held1 _) fun hHeld => ?_
           clear hK K
           clear hc
           refine tkC 5 ?_
           refine rd1 11 fun K hK => ?_
           refine wy ?_
           go_simp
           clear hHeld
           go_at_call 40
           (with_reducible refine (H4.out _ bb).mono ?_)
           rintro e V4 ⟨r2, rfl, hr2, bn⟩
           go_wp2_with fail
           refine hK.out _ _ (held1 _) fun hHeld => ?_
           clear hK K
           replace kg := bn.bk kg (by omega)
           replace kb := bn.bk kb (by omega)
           replace bb := bb.trans bn
           clear bn
           refine tkC 12 ?_
           refine tkC 13 ?_
           refine rd1 15 fun K hK => ?_
           obtain ⟨g0, g1, g2, g3, z0, z1, z2, z3⟩ := four kg
           have HE := Lib.hid (fin7 (r1 := r1) (r2 := r2) (sb := sb) kg bb hltgb hwg)
           unfold store4g at HE
           clear kg kb bb
           refine wy ?_
           go_simp
           clear hHeld
           refine hK.out _ _ (held1 _) fun hHeld => ?_
           clear hK K
           clear g0 z0 g1 z1 g2 z2 g3 z3
           refine wpAnyH_done (by kernel_rfl) ?_ _
           clear hHeld HS
           go_wp2_with fail
           go_meet
           exact ⟨gb, _, _, _, rfl, HE.out.1, hltgb, HE.out.2⟩



          ·refine wy ?_
           go_simp
           clear hHeld
           go_at_call 40
           (with_reducible refine (H4.out _ bb).mono ?_)
           rintro e V4 ⟨r2, rfl, hr2, bn⟩
           go_wp2_with fail
           refine hK.out _ _ (held1 _) fun hHeld => ?_
           clear hK K
           replace kg := bn.bk kg (by omega)
           replace kb := bn.bk kb (by omega)
           replace bb := bb.trans bn
           clear bn
           refine tkC 12 ?_
           refine rd1 4 fun K hK => ?_
           have hc := run_convert_bytes_arg V4 104 5 Tryd.underlying104 Tryd.underlying5 nb 0 1 1 [yb] rfl (one_byte kb) 9 Tryd.underlying9
           refine wy ?_
           go_simp
           clear hHeld
           refine hK.out _ _ (held1 _) fun hHeld => ?_
           clear hK K
           clear hc
           refine tkC 5 ?_
           refine tkC 13 ?_
           refine rd1 15 fun K hK => ?_
           obtain ⟨g0, g1, g2, g3, z0, z1, z2, z3⟩ := four kg
           have HE := Lib.hid (fin7 (r1 := r1) (r2 := r2) (sb := sb) kg bb hltgb hwg)
           unfold store4g at HE
           clear kg kb bb
           refine wy ?_
           go_simp
           clear hHeld
           refine hK.out _ _ (held1 _) fun hHeld => ?_
           clear hK K
           clear g0 z0 g1 z1 g2 z2 g3 z3
           refine wpAnyH_done (by kernel_rfl) ?_ _
           clear hHeld HS
           go_wp2_with fail
           go_meet
           exact ⟨gb, _, _, _, rfl, HE.out.1, hltgb, HE.out.2⟩





        ·refine wy ?_
         go_simp
         clear hHeld
         go_at_call 40
         (with_reducible refine (H3.out _ bb).mono ?_)
         rintro e V2 ⟨r1, rfl, hr1, bn⟩
         go_wp2_with fail
         refine hK.out _ _ (held1 _) fun hHeld => ?_
         clear hK K
         replace kg := bn.bk kg (by omega)
         replace bb := bb.trans bn
         clear bn
         refine tkC 8 ?_
         refine tkC 9 ?_
         refine rd2 3 11 (fun K hK => ?_) (fun K hK => ?_)
         ·refine wy ?_
          go_simp
          clear hHeld
          refine hK.out _ _ (held1 _) fun hHeld => ?_
          clear hK K
          replace kg := kg.alloc (.cells #[.int .u8 yb] 5)
          have kb := Bk.new V2 5 #[.int .u8 yb]
          have bb2 := bb.alloc (by have := bb.size; omega) (.cells #[.int .u8 yb] 5)
          have hltnb : wr.heap.size ≤ V2.heap.size := bb.size
          clear bb
          have bb := bb2
          clear bb2
          obtain ⟨nb, hnb⟩ : ∃ x, V2.heap.size = x := ⟨_, rfl⟩
          rw [hnb] at kb hltnb
          try rw [hnb]
          obtain ⟨V3, hV⟩ : ∃ wN, V2.alloc (.cells #[.int .u8 yb] 5) = wN := ⟨_, rfl⟩
          rw [hV] at kg kb bb hHeld ⊢
          clear hV hnb
          refine rd2 4 11 (fun K hK => ?_) (fun K hK => ?_)
          ·have hc := run_convert_bytes_arg V3 104 5 Tryd.underlying104 Tryd.underlying5 nb 0 1 1 [yb] rfl (one_byte kb) 9 Tryd.underlying9
           refine wy ?_
           go_simp
           clear hHeld
           refine hK.out _ _ (held1 _) fun hHeld => ?_
           clear hK K
           clear hc
           refine tkC 5 ?_
           refine rd1 11 fun K hK => ?_
           refine wy ?_
           go_simp
           clear hHeld
           go_at_call 40
           (with_reducible refine (H4.out _ bb).mono ?_)
           rintro e V4 ⟨r2, rfl, hr2, bn⟩
           go_wp2_with fail
           refine hK.out _ _ (held1 _) fun hHeld => ?_
           clear hK K
           replace kg := bn.bk kg (by omega)
           replace kb := bn.bk kb (by omega)
           replace bb := bb.trans bn
           clear bn
           refine tkC 12 ?_
           refine tkC 13 ?_
           refine rd1 15 fun K hK => ?_
           obtain ⟨g0, g1, g2, g3, z0, z1, z2, z3⟩ := four kg
           have HE := Lib.hid (fin7 (r1 := r1) (r2 := r2) (sb := sb) kg bb hltgb hwg)
           unfold store4g at HE
           clear kg kb bb
           refine wy ?_
           go_simp
           clear hHeld
           refine hK.out _ _ (held1 _) fun hHeld => ?_
           clear hK K
           clear g0 z0 g1 z1 g2 z2 g3 z3
           refine wpAnyH_done (by kernel_rfl) ?_ _
           clear hHeld HS
           go_wp2_with fail
           go_meet
           exact ⟨gb, _, _, _, rfl, HE.out.1, hltgb, HE.out.2⟩



          ·refine wy ?_
           go_simp
           clear hHeld
           go_at_call 40
           (with_reducible refine (H4.out _ bb).mono ?_)
           rintro e V4 ⟨r2, rfl, hr2, bn⟩
           go_wp2_with fail
           refine hK.out _ _ (held1 _) fun hHeld => ?_
           clear hK K
           replace kg := bn.bk kg (by omega)
           replace kb := bn.bk kb (by omega)
           replace bb := bb.trans bn
           clear bn
           refine tkC 12 ?_
           refine rd1 4 fun K hK => ?_
           have hc := run_convert_bytes_arg V4 104 5 Tryd.underlying104 Tryd.underlying5 nb 0 1 1 [yb] rfl (one_byte kb) 9 Tryd.underlying9
           refine wy ?_
           go_simp
           clear hHeld
           refine hK.out _ _ (held1 _) fun hHeld => ?_
           clear hK K
           clear hc
           refine tkC 5 ?_
           refine tkC 13 ?_
           refine rd1 15 fun K hK => ?_
           obtain ⟨g0, g1, g2, g3, z0, z1, z2, z3⟩ := four kg
           have HE := Lib.hid (fin7 (r1 := r1) (r2 := r2) (sb := sb) kg bb hltgb hwg)
           unfold store4g at HE
           clear kg kb bb
           refine wy ?_
           go_simp
           clear hHeld
           refine hK.out _ _ (held1 _) fun hHeld => ?_
           clear hK K
           clear g0 z0 g1 z1 g2 z2 g3 z3
           refine wpAnyH_done (by kernel_rfl) ?_ _
           clear hHeld HS
           go_wp2_with fail
           go_meet
           exact ⟨gb, _, _, _, rfl, HE.out.1, hltgb, HE.out.2⟩




         ·refine wy ?_
          go_simp
          clear hHeld
          go_at_call 40
          (with_reducible refine (H4.out _ bb).mono ?_)
          rintro e V3 ⟨r2, rfl, hr2, bn⟩
          go_wp2_with fail
          refine hK.out _ _ (held1 _) fun hHeld => ?_
          clear hK K
          replace kg := bn.bk kg (by omega)
          replace bb := bb.trans bn
          clear bn
          refine tkC 12 ?_
          refine rd1 3 fun K hK => ?_
          refine wy ?_
          go_simp
          clear hHeld
          refine hK.out _ _ (held1 _) fun hHeld => ?_
          clear hK K
          replace kg := kg.alloc (.cells #[.int .u8 yb] 5)
          have kb := Bk.new V3 5 #[.int .u8 yb]
          have bb2 := bb.alloc (by have := bb.size; omega) (.cells #[.int .u8 yb] 5)
          have hltnb : wr.heap.size ≤ V3.heap.size := bb.size
          clear bb
          have bb := bb2
          clear bb2
          obtain ⟨nb, hnb⟩ : ∃ x, V3.heap.size = x := ⟨_, rfl⟩
          rw [hnb] at kb hltnb
          try rw [hnb]
          obtain ⟨V4, hV⟩ : ∃ wN, V3.alloc (.cells #[.int .u8 yb] 5) = wN := ⟨_, rfl⟩
          rw [hV] at kg kb bb hHeld ⊢
          clear hV hnb
          refine rd1 4 fun K hK => ?_
          have hc := run_convert_bytes_arg V4 104 5 Tryd.underlying104 Tryd.underlying5 nb 0 1 1 [yb] rfl (one_byte kb) 9 Tryd.underlying9
          refine wy ?_
          go_simp
          clear hHeld
          refine hK.out _ _ (held1 _) fun hHeld => ?_
          clear hK K
          clear hc
          refine tkC 5 ?_
          refine tkC 13 ?_
          refine rd1 15 fun K hK => ?_
          obtain ⟨g0, g1, g2, g3, z0, z1, z2, z3⟩ := four kg
          have HE := Lib.hid (fin7 (r1 := r1) (r2 := r2) (sb := sb) kg bb hltgb hwg)
          unfold store4g at HE
          clear kg kb bb
          refine wy ?_
          go_simp
          clear hHeld
          refine hK.out _ _ (held1 _) fun hHeld => ?_
          clear hK K
          clear g0 z0 g1 z1 g2 z2 g3 z3
          refine wpAnyH_done (by kernel_rfl) ?_ _
          clear hHeld HS
          go_wp2_with fail
          go_meet
          exact ⟨gb, _, _, _, rfl, HE.out.1, hltgb, HE.out.2⟩
     case rest =>
      obtain ⟨gb, nm, mn, mx, rfl, kg, hgb, hu⟩ := hcut
      have hne : ∀ b, A.map (·.block) = some b → gb = b → False := fun b e e2 => by
       obtain ⟨cs, ho⟩ := hst.row
       have := (ho.blk b e).2.1
       omega
      have hwl0 := hst.gr.size
      have hwg0 : gm < gb := by omega
      replace hst := hst.up hg1 hu
      clear hu hgb hwl0
      generalize hwcr : wc = wr at *
      clear hwcr wc
      have HK4 := Lib.hid fun (W : World) (k : Bk W gb 106 #[.string nm, .int .i64 mn, .int .i64 0, .int .i64 mx]) => (show W.cell? ⟨gb, 0, none⟩ = some (.string nm) ∧ W.cell? ⟨gb, 1, none⟩ = some (.int .i64 mn) ∧ W.cell? ⟨gb, 2, none⟩ = some (.int .i64 0) ∧ W.cell? ⟨gb, 3, none⟩ = some (.int .i64 mx) from ⟨bx k 0 rfl, bx k 1 rfl, bx k 2 rfl, bx k 3 rfl⟩)
      have HKG := Lib.hid kg
      have HF := Lib.hid hst
      have hwl := hst.gr.size
      have hwg : gm < wr.heap.size := by omega
      clear hst kg
      go_upto_region 8 with fail
      have HS := Lib.hid fun (W : World) (bW : Up gm wr W) => (show Held1 W ∧ W.cell? ⟨gb, 0, none⟩ = some (.string nm) ∧ W.cell? ⟨gb, 1, none⟩ = some (.int .i64 mn) ∧ W.cell? ⟨gb, 2, none⟩ = some (.int .i64 0) ∧ W.cell? ⟨gb, 3, none⟩ = some (.int .i64 mx) from ⟨held1 _, HK4.out W (bW.bk HKG.out (by omega))⟩)
      have bb := Up.refl gm wr
      refine wp_region_held_drew (S := fun w' => Held1 w' ∧ w'.cell? ⟨gb, 0, none⟩ = some (.string nm) ∧ w'.cell? ⟨gb, 1, none⟩ = some (.int .i64 mn) ∧ w'.cell? ⟨gb, 2, none⟩ = some (.int .i64 0) ∧ w'.cell? ⟨gb, 3, none⟩ = some (.int .i64 mx)) (by kernel_rfl) ?_ (fun hHeld => ?_)
      ·exact HS.out _ (bb.drewN 1)
      replace bb := bb.drewN 1
      change Up _ _ wr.drew at bb
      generalize hw0 : wr.drew = W0 at hHeld bb ⊢
      clear hw0
      refine tkC 0 ?_
      refine tkC 1 ?_
      refine tkC 2 ?_
      refine tkC 3 ?_
      refine tkC 4 ?_
      refine tkC 6 ?_
      refine rd2 5 7 (fun K hK => ?_) (fun K hK => ?_)
      ·have yL := (HF.out.up hg1 bb).hm.cell 7 (by decide) rfl
       change W0.cell? ⟨gm, 7, none⟩ = some (.slice A i c) at yL
       refine wy ?_
       go_simp
       clear hHeld
       refine hK.out _ _ (HS.out _ bb) fun hHeld => ?_
       clear hK K
       clear yL
       refine rd1 7 fun K hK => ?_
       refine wy ?_
       go_simp
       clear hHeld
       refine hK.out _ _ (HS.out _ (bb.alloc (by have := bb.size; omega) _)) fun hHeld => ?_
       clear hK K
       obtain ⟨V1, hV⟩ := world_of (hHeld.1)
       obtain ⟨es, hcP, hcl, hc1, hnw⟩ : ∃ es : List Value, True ∧ es.length = 4 ∧ (∀ u ∈ es, u.oneCell' = true) ∧ (0 < 1 → ∃ b o, some (⟨W0.heap.size, 0, none⟩ : Addr) = some ⟨b, o, none⟩ ∧ ∀ j u, es[j]? = some u → V1.cell? ⟨b, o + j, none⟩ = some u) := by
        rw [hV]
        exact ⟨_, trivial, rfl, (by simp [Value.oneCell']), news_new _ _ _⟩
       have bb2 : Up gm wr V1 := by rw [hV]; exact bb.alloc (by have := bb.size; omega) _
       rw [← hV] at hHeld
       rw [← hV]
       clear hV bb
       have bb := bb2
       clear bb2
       refine rd1 8 fun K hK => ?_
       clear hHeld
       have how := (HF.out.up hg1 bb).row.choose_spec
       have hs4 : w1.heap.size ≤ V1.heap.size := by have := bb.size; omega
       refine appStep elt_axis (by kernel_rfl) _ _ rfl V1 (w1.heap.size) _ _ _ (_) _ 1 1 es (by rfl) (by rfl) how (by rw [hcl]) hnw hc1 (by omega) hs4 ?_
       intro A' c' W4 ho4 hg4 hb4 hat4
       obtain ⟨hm4, hp9⟩ := (HF.out.up hg1 bb).push (i := 7) (s' := (mz sA sn sc xs u).ax A' (i + 1) c') hg1 ho4 hb4 (fun _ _ => rfl) ⟨rfl, rfl, rfl, rfl⟩
       have g0 := hm4.cell 7 (by decide) rfl
       change W4.cell? ⟨gm, 7, none⟩ = some (.slice A i c) at g0
       have z0 : W4.frozen? ⟨gm, 7, none⟩ = false := by obtain ⟨_, _, _, hk4, _⟩ := hm4; exact hk4.frozen 7
       have kb4 : Bk W4 gb 106 #[.string nm, .int .i64 mn, .int .i64 0, .int .i64 mx] := (bb.bk HKG.out (by omega)).grown hg4 (fun e => hne gb e.symm rfl)
       clear ho4 hg4 hb4 hat4 how hs4 hnw hc1 hcl hcP
       refine hkG hK (⟨held1 _, HK4.out _ kb4⟩) fun hHeld => ?_
       clear hK K
       refine tkC 9 ?_
       refine tkC 10 ?_
       refine tkC 11 ?_
       refine rd1 12 fun K hK => ?_
       refine wy ?_
       go_simp
       clear hHeld
       refine hK.out _ _ (⟨held1 _, HK4.out _ (kb4.far (p := ⟨gm, 7, none⟩) (by show gb ≠ gm; omega) _)⟩) fun hHeld => ?_
       clear hK K
       refine wpAnyH_done (by kernel_rfl) ?_ _
       clear hHeld HS g0 z0 bb kb4
       go_wp2_with fail
       go_roundw
       case rel => exact ⟨A', c', i + 1, by go_num, by omega, hp9⟩
       case measure => simp [intOf] <;> omega




      ·refine wy ?_
       go_simp
       clear hHeld
       refine hK.out _ _ (HS.out _ (bb.alloc (by have := bb.size; omega) _)) fun hHeld => ?_
       clear hK K
       obtain ⟨V1, hV⟩ := world_of (hHeld.1)
       obtain ⟨es, hcP, hcl, hc1, hnw⟩ : ∃ es : List Value, True ∧ es.length = 4 ∧ (∀ u ∈ es, u.oneCell' = true) ∧ (0 < 1 → ∃ b o, some (⟨W0.heap.size, 0, none⟩ : Addr) = some ⟨b, o, none⟩ ∧ ∀ j u, es[j]? = some u → V1.cell? ⟨b, o + j, none⟩ = some u) := by
        rw [hV]
        exact ⟨_, trivial, rfl, (by simp [Value.oneCell']), news_new _ _ _⟩
       have bb2 : Up gm wr V1 := by rw [hV]; exact bb.alloc (by have := bb.size; omega) _
       rw [← hV] at hHeld
       rw [← hV]
       clear hV bb
       have bb := bb2
       clear bb2
       refine rd1 5 fun K hK => ?_
       have yL := (HF.out.up hg1 bb).hm.cell 7 (by decide) rfl
       change V1.cell? ⟨gm, 7, none⟩ = some (.slice A i c) at yL
       refine wy ?_
       go_simp
       clear hHeld
       refine hK.out _ _ (HS.out _ bb) fun hHeld => ?_
       clear hK K
       clear yL
       refine rd1 8 fun K hK => ?_
       clear hHeld
       have how := (HF.out.up hg1 bb).row.choose_spec
       have hs4 : w1.heap.size ≤ V1.heap.size := by have := bb.size; omega
       refine appStep elt_axis (by kernel_rfl) _ _ rfl V1 (w1.heap.size) _ _ _ (_) _ 1 1 es (by rfl) (by rfl) how (by rw [hcl]) hnw hc1 (by omega) hs4 ?_
       intro A' c' W4 ho4 hg4 hb4 hat4
       obtain ⟨hm4, hp9⟩ := (HF.out.up hg1 bb).push (i := 7) (s' := (mz sA sn sc xs u).ax A' (i + 1) c') hg1 ho4 hb4 (fun _ _ => rfl) ⟨rfl, rfl, rfl, rfl⟩
       have g0 := hm4.cell 7 (by decide) rfl
       change W4.cell? ⟨gm, 7, none⟩ = some (.slice A i c) at g0
       have z0 : W4.frozen? ⟨gm, 7, none⟩ = false := by obtain ⟨_, _, _, hk4, _⟩ := hm4; exact hk4.frozen 7
       have kb4 : Bk W4 gb 106 #[.string nm, .int .i64 mn, .int .i64 0, .int .i64 mx] := (bb.bk HKG.out (by omega)).grown hg4 (fun e => hne gb e.symm rfl)
       clear ho4 hg4 hb4 hat4 how hs4 hnw hc1 hcl hcP
       refine hkG hK (⟨held1 _, HK4.out _ kb4⟩) fun hHeld => ?_
       clear hK K
       refine tkC 9 ?_
       refine tkC 10 ?_
       refine tkC 11 ?_
       refine rd1 12 fun K hK => ?_
       refine wy ?_
       go_simp
       clear hHeld
       refine hK.out _ _ (⟨held1 _, HK4.out _ (kb4.far (p := ⟨gm, 7, none⟩) (by show gb ≠ gm; omega) _)⟩) fun hHeld => ?_
       clear hK K
       refine wpAnyH_done (by kernel_rfl) ?_ _
       clear hHeld HS g0 z0 bb kb4
       go_wp2_with fail
       go_roundw
       case rel => exact ⟨A', c', i + 1, by go_num, by omega, hp9⟩
       case measure => simp [intOf] <;> omega
    ·have in0 : ¬ (i : Int) < (k1 : Int) := by omega
     clear hlt
     go_wp2
     go_meet
     exact ⟨A, i, c, hi, hst.hm, HGRA.out.trans hst.gr⟩
  case rest =>
   obtain ⟨A1, n1, c1, hn1, hm, hgr⟩ := hcut
   generalize hwcr : wc = wr at *
   clear hwcr wc
   go_upto_if 66 with fail
   go_cut [7, 8, 9, 10] from 65 to 105 (fun _ _ _ _ wx => ∃ (A : Option Addr) (n c : Nat), n ≤ 3 ∧ Mk wx gm (((mz sA sn sc xs u).ax A1 n1 c1).rg A n c) ∧ w2.grownBy wx (some gm))
   case first =>
    by_cases hk0 : 0 < k1
    ·have k0 : (0 : Int) < (k1 : Int) := by omega
     have t0 : decide ((0 : Int) < (k1 : Int)) = true := decide_eq_true k0
     have t0' : decide (0 < k1) = true := decide_eq_true hk0
     have HC := Lib.hid (show Calls Tryd.prog 40 #[.pointer (some ⟨gm, 0, none⟩), .int .i64 4] wr (NextR gm 4 wr) from bnext_c gm 4 _ wr (hm) (by omega) (by omega))
     go_wp2_with fail
     refine HC.out.mono ?_
     rintro e w3 ⟨k2, rfl, hk2, hb⟩
     clear HC
     replace hm := hb.st _ hm
     replace hgr := hgr.trans hb.gr
     clear hb
     obtain ⟨wr, hwr⟩ : ∃ x, w3 = x := ⟨_, rfl⟩
     rw [hwr] at hm hgr ⊢
     clear hwr t0 t0' k0
     go_upto_region 12 with fail
     have hst : FldS 109 1 gm wr wr ((mz sA sn sc xs u).ax A1 n1 c1) none 0 0 := FldS.new hm
     have HGRA := Lib.hid hgr
     have hg1 := hm.lt
     clear hm hgr
     obtain ⟨w1, hw1⟩ : ∃ x, wr = x := ⟨_, rfl⟩
     rw [hw1] at hst HGRA hg1 ⊢
     clear hw1 wr
     go_loopw [8] (fun iv wr => ∃ (A : Option Addr) (c i : Nat), iv = .int .i64 (i : Int) ∧ i ≤ k2 ∧ FldS 109 1 gm w1 wr (((mz sA sn sc xs u).ax A1 n1 c1).rg A i c) A i c) (fun iv _ => k2 - (intOf iv).toNat)
     case atStart => exact ⟨none, 0, 0, rfl, by omega, hst⟩
     case round =>
      clear hst
      obtain ⟨A, c, i, rfl, hi, hst⟩ := hrel
      by_cases hlt : i < k2
      ·have in0 : (i : Int) < (k2 : Int) := by omega
       go_upto_region 14 with fail
       have hne0 : ∀ b, A.map (·.block) = some b → b ≠ wr.heap.size := fun b e => by
        obtain ⟨cs, ho⟩ := hst.row
        have := (ho.blk b e).2.1
        omega
       have hwl0 := hst.gr.size
       have kr := Bk.new wr 109 #[.slice none 0 0]
       have hrs : RgS gm w1 (wr.alloc (.cells #[.slice none 0 0] 109)) (((mz sA sn sc xs u).ax A1 n1 c1).rg A i c) A i c wr.heap.size none 0 0 := ⟨hst.up hg1 ((Up.refl gm wr).alloc (by omega) _), kr, ⟨[], Ow.nil _ _ _ _⟩, hwl0, hne0⟩
       clear kr hst hne0
       go_upto_region 16 with fail
       obtain ⟨w5, hw5⟩ : ∃ x, wr.alloc (.cells #[.slice none 0 0] 109) = x := ⟨_, rfl⟩
       obtain ⟨rr, hrr⟩ : ∃ x, wr.heap.size = x := ⟨_, rfl⟩
       rw [hw5, hrr] at hrs
       try rw [hw5]
       try rw [hrr]
       clear hw5 hrr hwl0 wr
       go_loopw [10] (fun iv wr => ∃ (tA : Option Addr) (tn tc a : Nat), iv = .int .i64 (a : Int) ∧ a ≤ k1 ∧ tn ≤ a ∧ RgS gm w1 wr (((mz sA sn sc xs u).ax A1 n1 c1).rg A i c) A i c rr tA tn tc) (fun iv _ => k1 - (intOf iv).toNat)
       case atStart => exact ⟨none, 0, 0, 0, rfl, by omega, by omega, hrs⟩
       case round =>
        clear hrs
        obtain ⟨tA, tn, tc, a, rfl, ha, hta, hst⟩ := hrel
        by_cases hat : a < k1
        ·have a0 : (a : Int) < (k1 : Int) := by omega
         have yX := bx hst.k 0 rfl
         have H5 := Lib.hid fun (W : World) (bW : Up gm wr W) => (show Calls Tryd.prog 40 #[.pointer (some ⟨gm, 0, none⟩), .int .i64 5] W (NextR gm 5 W) from bnext_c gm 5 _ W (bW.st _ hst.f.hm) (by omega) (by omega))
         have HF := Lib.hid hst
         have hwl := hst.f.gr.size
         have hlr := hst.lt
         have hwg : gm < wr.heap.size := by omega
         clear hst
         go_upto_region 18 with fail
         have HS := Lib.hid fun (W : World) (bW : Up gm wr W) => (show Held1 W from held1 _)
         have bb := Up.refl gm wr
         refine wp_region_held_drew (S := fun w' => Held1 w') (by kernel_rfl) ?_ (fun hHeld => ?_)
         ·exact HS.out _ (bb.drewN 1)
         replace bb := bb.drewN 1
         change Up _ _ wr.drew at bb
         generalize hw0 : wr.drew = W0 at hHeld bb ⊢
         clear hw0
         refine tkC 0 ?_
         refine tkC 2 ?_
         refine tkC 3 ?_
         refine tkC 4 ?_
         refine tkC 5 ?_
         refine tkC 6 ?_
         refine tkC 8 ?_
         refine rd3 1 7 9 (fun K hK => ?_) (fun K hK => ?_) (fun K hK => ?_)
         ·have yL : W0.cell? ⟨rr, 0, none⟩ = some (.slice tA tn tc) := bb.cell yX (by show rr ≠ gm; omega)
          refine wy ?_
          go_simp
          clear hHeld
          refine hK.out _ _ (held1 _) fun hHeld => ?_
          clear hK K
          clear yL
          refine rd2 7 9 (fun K hK => ?_) (fun K hK => ?_)
          ·refine wy ?_
           go_simp
           clear hHeld
           refine hK.out _ _ (held1 _) fun hHeld => ?_
           clear hK K
           have kt := Bk.new W0 111 #[.int .i64 0, .int .i64 64, .int .i64 64, .int .i64 0, .int .i64 32, .int .i64 64, .int .i64 (-64), .int .i64 (-64), .int .i64 0, .int .i64 (-1), .int .i64 0, .int .i64 5, .int .i64 10, .int .i64 32, .int .i64 50]
           have hlt5 : wr.heap.size ≤ W0.heap.size := bb.size
           have bb2 := bb.alloc (by have := bb.size; omega) (.cells #[.int .i64 0, .int .i64 64, .int .i64 64, .int .i64 0, .int .i64 32, .int .i64 64, .int .i64 (-64), .int .i64 (-64), .int .i64 0, .int .i64 (-1), .int .i64 0, .int .i64 5, .int .i64 10, .int .i64 32, .int .i64 50] 111)
           clear bb
           have bb := bb2
           clear bb2
           obtain ⟨tb, htb⟩ : ∃ x, W0.heap.size = x := ⟨_, rfl⟩
           rw [htb] at kt hlt5
           try rw [htb]
           obtain ⟨V1, hV⟩ : ∃ wN, W0.alloc (.cells #[.int .i64 0, .int .i64 64, .int .i64 64, .int .i64 0, .int .i64 32, .int .i64 64, .int .i64 (-64), .int .i64 (-64), .int .i64 0, .int .i64 (-1), .int .i64 0, .int .i64 5, .int .i64 10, .int .i64 32, .int .i64 50] 111) = wN := ⟨_, rfl⟩
           rw [hV] at kt bb hHeld ⊢
           clear hV htb
           refine rd1 9 fun K hK => ?_
           refine wy ?_
           go_simp
           clear hHeld
           go_at_call 40
           (with_reducible refine (H5.out _ bb).mono ?_)
           rintro e V2 ⟨r2, rfl, hr2, bn⟩
           go_wp2_with fail
           refine hK.out _ _ (held1 _) fun hHeld => ?_
           clear hK K
           replace kt := bn.bk kt (by omega)
           replace bb := bb.trans bn
           clear bn
           have r20 : (0 : Int) ≤ (r2 : Int) := by omega
           have r25 : (r2 : Int) < 5 := by omega
           refine tkC 10 ?_
           refine rd1 11 fun K hK => ?_
           obtain ⟨ta, tbb, tcc, htt⟩ := tent_at tb r2 hr2
           obtain ⟨yt0, yt1, yt2⟩ := htt V2 kt
           clear htt
           refine wy ?_
           go_simp
           clear hHeld
           refine hK.out _ _ (held1 _) fun hHeld => ?_
           clear hK K
           clear yt0 yt1 yt2 kt r20 r25
           refine rd1 12 fun K hK => ?_
           refine wy ?_
           go_simp
           clear hHeld
           refine hK.out _ _ (HS.out _ (bb.alloc (by have := bb.size; omega) _)) fun hHeld => ?_
           clear hK K
           obtain ⟨V3, hV⟩ := world_of (hHeld)
           obtain ⟨es, hcP, hcl, hc1, hnw⟩ : ∃ es : List Value, True ∧ es.length = 3 ∧ (∀ u ∈ es, u.oneCell' = true) ∧ (0 < 1 → ∃ b o, some (⟨V2.heap.size, 0, none⟩ : Addr) = some ⟨b, o, none⟩ ∧ ∀ j u, es[j]? = some u → V3.cell? ⟨b, o + j, none⟩ = some u) := by
            rw [hV]
            exact ⟨_, trivial, rfl, (by simp [Value.oneCell']), news_new _ _ _⟩
           have bb2 : Up gm wr V3 := by rw [hV]; exact bb.alloc (by have := bb.size; omega) _
           rw [← hV] at hHeld
           rw [← hV]
           clear hV bb
           have bb := bb2
           clear bb2
           refine rd1 13 fun K hK => ?_
           clear hHeld
           have how := (HF.out.up hg1 bb).t.choose_spec
           have hs4 : w1.heap.size ≤ V3.heap.size := by have := bb.size; omega
           refine appStep elt_tent (by kernel_rfl) _ _ rfl V3 (w1.heap.size) _ _ _ (_) _ 1 1 es (by rfl) (by rfl) how (by rw [hcl]) hnw hc1 (by omega) hs4 ?_
           intro A' c' W4 ho4 hg4 hb4 hat4
           have hpp := (HF.out.up hg1 bb).push hg1 ho4 hg4 hb4
           have k4 := hpp.1
           have hp9 := hpp.2
           have g0 := bx k4 0 rfl
           have z0 := k4.frozen 0
           clear ho4 hg4 hb4 hat4 how hs4 hnw hc1 hcl hcP hpp k4
           refine hkG hK (held1 _) fun hHeld => ?_
           clear hK K
           refine tkC 14 ?_
           refine rd1 15 fun K hK => ?_
           refine wy ?_
           go_simp
           clear hHeld
           refine hK.out _ _ (held1 _) fun hHeld => ?_
           clear hK K
           refine wpAnyH_done (by kernel_rfl) ?_ _
           clear hHeld HS g0 z0 bb
           go_wp2_with fail
           go_roundw
           case rel => exact ⟨A', tn + 1, c', a + 1, by go_num, by omega, by omega, hp9⟩
           case measure => simp [intOf] <;> omega






          ·refine wy ?_
           go_simp
           clear hHeld
           go_at_call 40
           (with_reducible refine (H5.out _ bb).mono ?_)
           rintro e V1 ⟨r2, rfl, hr2, bn⟩
           go_wp2_with fail
           refine hK.out _ _ (held1 _) fun hHeld => ?_
           clear hK K
           replace bb := bb.trans bn
           clear bn
           have r20 : (0 : Int) ≤ (r2 : Int) := by omega
           have r25 : (r2 : Int) < 5 := by omega
           refine rd1 7 fun K hK => ?_
           refine wy ?_
           go_simp
           clear hHeld
           refine hK.out _ _ (held1 _) fun hHeld => ?_
           clear hK K
           have kt := Bk.new V1 111 #[.int .i64 0, .int .i64 64, .int .i64 64, .int .i64 0, .int .i64 32, .int .i64 64, .int .i64 (-64), .int .i64 (-64), .int .i64 0, .int .i64 (-1), .int .i64 0, .int .i64 5, .int .i64 10, .int .i64 32, .int .i64 50]
           have hlt5 : wr.heap.size ≤ V1.heap.size := bb.size
           have bb2 := bb.alloc (by have := bb.size; omega) (.cells #[.int .i64 0, .int .i64 64, .int .i64 64, .int .i64 0, .int .i64 32, .int .i64 64, .int .i64 (-64), .int .i64 (-64), .int .i64 0, .int .i64 (-1), .int .i64 0, .int .i64 5, .int .i64 10, .int .i64 32, .int .i64 50] 111)
           clear bb
           have bb := bb2
           clear bb2
           obtain ⟨tb, htb⟩ : ∃ x, V1.heap.size = x := ⟨_, rfl⟩
           rw [htb] at kt hlt5
           try rw [htb]
           obtain ⟨V2, hV⟩ : ∃ wN, V1.alloc (.cells #[.int .i64 0, .int .i64 64, .int .i64 64, .int .i64 0, .int .i64 32, .int .i64 64, .int .i64 (-64), .int .i64 (-64), .int .i64 0, .int .i64 (-1), .int .i64 0, .int .i64 5, .int .i64 10, .int .i64 32, .int .i64 50] 111) = wN := ⟨_, rfl⟩
           rw [hV] at kt bb hHeld ⊢
           clear hV htb
           refine tkC 10 ?_
           refine rd1 11 fun K hK => ?_
           obtain ⟨ta, tbb, tcc, htt⟩ := tent_at tb r2 hr2
           obtain ⟨yt0, yt1, yt2⟩ := htt V2 kt
           clear htt
           refine wy ?_
           go_simp
           clear hHeld
           refine hK.out _ _ (held1 _) fun hHeld => ?_
           clear hK K
           clear yt0 yt1 yt2 kt r20 r25
           refine rd1 12 fun K hK => ?_
           refine wy ?_
           go_simp
           clear hHeld
           refine hK.out _ _ (HS.out _ (bb.alloc (by have := bb.size; omega) _)) fun hHeld => ?_
           clear hK K
           obtain ⟨V3, hV⟩ := world_of (hHeld)
           obtain ⟨es, hcP, hcl, hc1, hnw⟩ : ∃ es : List Value, True ∧ es.length = 3 ∧ (∀ u ∈ es, u.oneCell' = true) ∧ (0 < 1 → ∃ b o, some (⟨V2.heap.size, 0, none⟩ : Addr) = some ⟨b, o, none⟩ ∧ ∀ j u, es[j]? = some u → V3.cell? ⟨b, o + j, none⟩ = some u) := by
            rw [hV]
            exact ⟨_, trivial, rfl, (by simp [Value.oneCell']), news_new _ _ _⟩
           have bb2 : Up gm wr V3 := by rw [hV]; exact bb.alloc (by have := bb.size; omega) _
           rw [← hV] at hHeld
           rw [← hV]
           clear hV bb
           have bb := bb2
           clear bb2
           refine rd1 13 fun K hK => ?_
           clear hHeld
           have how := (HF.out.up hg1 bb).t.choose_spec
           have hs4 : w1.heap.size ≤ V3.heap.size := by have := bb.size; omega
           refine appStep elt_tent (by kernel_rfl) _ _ rfl V3 (w1.heap.size) _ _ _ (_) _ 1 1 es (by rfl) (by rfl) how (by rw [hcl]) hnw hc1 (by omega) hs4 ?_
           intro A' c' W4 ho4 hg4 hb4 hat4
           have hpp := (HF.out.up hg1 bb).push hg1 ho4 hg4 hb4
           have k4 := hpp.1
           have hp9 := hpp.2
           have g0 := bx k4 0 rfl
           have z0 := k4.frozen 0
           clear ho4 hg4 hb4 hat4 how hs4 hnw hc1 hcl hcP hpp k4
           refine hkG hK (held1 _) fun hHeld => ?_
           clear hK K
           refine tkC 14 ?_
           refine rd1 15 fun K hK => ?_
           refine wy ?_
           go_simp
           clear hHeld
           refine hK.out _ _ (held1 _) fun hHeld => ?_
           clear hK K
           refine wpAnyH_done (by kernel_rfl) ?_ _
           clear hHeld HS g0 z0 bb
           go_wp2_with fail
           go_roundw
           case rel => exact ⟨A', tn + 1, c', a + 1, by go_num, by omega, by omega, hp9⟩
           case measure => simp [intOf] <;> omega







         ·refine wy ?_
          go_simp
          clear hHeld
          refine hK.out _ _ (held1 _) fun hHeld => ?_
          clear hK K
          have kt := Bk.new W0 111 #[.int .i64 0, .int .i64 64, .int .i64 64, .int .i64 0, .int .i64 32, .int .i64 64, .int .i64 (-64), .int .i64 (-64), .int .i64 0, .int .i64 (-1), .int .i64 0, .int .i64 5, .int .i64 10, .int .i64 32, .int .i64 50]
          have hlt5 : wr.heap.size ≤ W0.heap.size := bb.size
          have bb2 := bb.alloc (by have := bb.size; omega) (.cells #[.int .i64 0, .int .i64 64, .int .i64 64, .int .i64 0, .int .i64 32, .int .i64 64, .int .i64 (-64), .int .i64 (-64), .int .i64 0, .int .i64 (-1), .int .i64 0, .int .i64 5, .int .i64 10, .int .i64 32, .int .i64 50] 111)
          clear bb
          have bb := bb2
          clear bb2
          obtain ⟨tb, htb⟩ : ∃ x, W0.heap.size = x := ⟨_, rfl⟩
          rw [htb] at kt hlt5
          try rw [htb]
          obtain ⟨V1, hV⟩ : ∃ wN, W0.alloc (.cells #[.int .i64 0, .int .i64 64, .int .i64 64, .int .i64 0, .int .i64 32, .int .i64 64, .int .i64 (-64), .int .i64 (-64), .int .i64 0, .int .i64 (-1), .int .i64 0, .int .i64 5, .int .i64 10, .int .i64 32, .int .i64 50] 111) = wN := ⟨_, rfl⟩
          rw [hV] at kt bb hHeld ⊢
          clear hV htb
          refine rd2 1 9 (fun K hK => ?_) (fun K hK => ?_)
          ·have yL : V1.cell? ⟨rr, 0, none⟩ = some (.slice tA tn tc) := bb.cell yX (by show rr ≠ gm; omega)
           refine wy ?_
           go_simp
           clear hHeld
           refine hK.out _ _ (held1 _) fun hHeld => ?_
           clear hK K
           clear yL
           refine rd1 9 fun K hK => ?_
           refine wy ?_
           go_simp
           clear hHeld
           go_at_call 40
           (with_reducible refine (H5.out _ bb).mono ?_)
           rintro e V2 ⟨r2, rfl, hr2, bn⟩
           go_wp2_with fail
           refine hK.out _ _ (held1 _) fun hHeld => ?_
           clear hK K
           replace kt := bn.bk kt (by omega)
           replace bb := bb.trans bn
           clear bn
           have r20 : (0 : Int) ≤ (r2 : Int) := by omega
           have r25 : (r2 : Int) < 5 := by omega
           refine tkC 10 ?_
           refine rd1 11 fun K hK => ?_
           obtain ⟨ta, tbb, tcc, htt⟩ := tent_at tb r2 hr2
           obtain ⟨yt0, yt1, yt2⟩ := htt V2 kt
           clear htt
           refine wy ?_
           go_simp
           clear hHeld
           refine hK.out _ _ (held1 _) fun hHeld => ?_
           clear hK K
           clear yt0 yt1 yt2 kt r20 r25
           refine rd1 12 fun K hK => ?_
           refine wy ?_
           go_simp
           clear hHeld
           refine hK.out _ _ (HS.out _ (bb.alloc (by have := bb.size; omega) _)) fun hHeld => ?_
           clear hK K
           obtain ⟨V3, hV⟩ := world_of (hHeld)
           obtain ⟨es, hcP, hcl, hc1, hnw⟩ : ∃ es : List Value, True ∧ es.length = 3 ∧ (∀ u ∈ es, u.oneCell' = true) ∧ (0 < 1 → ∃ b o, some (⟨V2.heap.size, 0, none⟩ : Addr) = some ⟨b, o, none⟩ ∧ ∀ j u, es[j]? = some u → V3.cell? ⟨b, o + j, none⟩ = some u) := by
            rw [hV]
            exact ⟨_, trivial, rfl, (by simp [Value.oneCell']), news_new _ _ _⟩
           have bb2 : Up gm wr V3 := by rw [hV]; exact bb.alloc (by have := bb.size; omega) _
           rw [← hV] at hHeld
           rw [← hV]
           clear hV bb
           have bb := bb2
           clear bb2
           refine rd1 13 fun K hK => ?_
           clear hHeld
           have how := (HF.out.up hg1 bb).t.choose_spec
           have hs4 : w1.heap.size ≤ V3.heap.size := by have := bb.size; omega
           refine appStep elt_tent (by kernel_rfl) _ _ rfl V3 (w1.heap.size) _ _ _ (_) _ 1 1 es (by rfl) (by rfl) how (by rw [hcl]) hnw hc1 (by omega) hs4 ?_
           intro A' c' W4 ho4 hg4 hb4 hat4
           have hpp := (HF.out.up hg1 bb).push hg1 ho4 hg4 hb4
           have k4 := hpp.1
           have hp9 := hpp.2
           have g0 := bx k4 0 rfl
           have z0 := k4.frozen 0
           clear ho4 hg4 hb4 hat4 how hs4 hnw hc1 hcl hcP hpp k4
           refine hkG hK (held1 _) fun hHeld => ?_
           clear hK K
           refine tkC 14 ?_
           refine rd1 15 fun K hK => ?_
           refine wy ?_
           go_simp
           clear hHeld
           refine hK.out _ _ (held1 _) fun hHeld => ?_
           clear hK K
           refine wpAnyH_done (by kernel_rfl) ?_ _
           clear hHeld HS g0 z0 bb
           go_wp2_with fail
           go_roundw
           case rel => exact ⟨A', tn + 1, c', a + 1, by go_num, by omega, by omega, hp9⟩
           case measure => simp [intOf] <;> omega






          ·refine wy ?_
           go_simp
           clear hHeld
           go_at_call 40
           (with_reducible refine (H5.out _ bb).mono ?_)
           rintro e V2 ⟨r2, rfl, hr2, bn⟩
           go_wp2_with fail
           refine hK.out _ _ (held1 _) fun hHeld => ?_
           clear hK K
           replace kt := bn.bk kt (by omega)
           replace bb := bb.trans bn
           clear bn
           have r20 : (0 : Int) ≤ (r2 : Int) := by omega
           have r25 : (r2 : Int) < 5 := by omega
           refine tkC 10 ?_
           refine rd2 1 11 (fun K hK => ?_) (fun K hK => ?_)
           ·have yL : V2.cell? ⟨rr, 0, none⟩ = some (.slice tA tn tc) := bb.cell yX (by show rr ≠ gm; omega)
            refine wy ?_
            go_simp
            clear hHeld
            refine hK.out _ _ (held1 _) fun hHeld => ?_
            clear hK K
            clear yL
            refine rd1 11 fun K hK => ?_
            obtain ⟨ta, tbb, tcc, htt⟩ := tent_at tb r2 hr2
            obtain ⟨yt0, yt1, yt2⟩ := htt V2 kt
            clear htt
            refine wy ?_
            go_simp
            clear hHeld
            refine hK.out _ _ (held1 _) fun hHeld => ?_
            clear hK K
            clear yt0 yt1 yt2 kt r20 r25
            refine rd1 12 fun K hK => ?_
            refine wy ?_
            go_simp
            clear hHeld
            refine hK.out _ _ (HS.out _ (bb.alloc (by have := bb.size; omega) _)) fun hHeld => ?_
            clear hK K
            obtain ⟨V3, hV⟩ := world_of (hHeld)
            obtain ⟨es, hcP, hcl, hc1, hnw⟩ : ∃ es : List Value, True ∧ es.length = 3 ∧ (∀ u ∈ es, u.oneCell' = true) ∧ (0 < 1 → ∃ b o, some (⟨V2.heap.size, 0, none⟩ : Addr) = some ⟨b, o, none⟩ ∧ ∀ j u, es[j]? = some u → V3.cell? ⟨b, o + j, none⟩ = some u) := by
             rw [hV]
             exact ⟨_, trivial, rfl, (by simp [Value.oneCell']), news_new _ _ _⟩
            have bb2 : Up gm wr V3 := by rw [hV]; exact bb.alloc (by have := bb.size; omega) _
            rw [← hV] at hHeld
            rw [← hV]
            clear hV bb
            have bb := bb2
            clear bb2
            refine rd1 13 fun K hK => ?_
            clear hHeld
            have how := (HF.out.up hg1 bb).t.choose_spec
            have hs4 : w1.heap.size ≤ V3.heap.size := by have := bb.size; omega
            refine appStep elt_tent (by kernel_rfl) _ _ rfl V3 (w1.heap.size) _ _ _ (_) _ 1 1 es (by rfl) (by rfl) how (by rw [hcl]) hnw hc1 (by omega) hs4 ?_
            intro A' c' W4 ho4 hg4 hb4 hat4
            have hpp := (HF.out.up hg1 bb).push hg1 ho4 hg4 hb4
            have k4 := hpp.1
            have hp9 := hpp.2
            have g0 := bx k4 0 rfl
            have z0 := k4.frozen 0
            clear ho4 hg4 hb4 hat4 how hs4 hnw hc1 hcl hcP hpp k4
            refine hkG hK (held1 _) fun hHeld => ?_
            clear hK K
            refine tkC 14 ?_
            refine rd1 15 fun K hK => ?_
            refine wy ?_
            go_simp
            clear hHeld
            refine hK.out _ _ (held1 _) fun hHeld => ?_
            clear hK K
            refine wpAnyH_done (by kernel_rfl) ?_ _
            clear hHeld HS g0 z0 bb
            go_wp2_with fail
            go_roundw
            case rel => exact ⟨A', tn + 1, c', a + 1, by go_num, by omega, by omega, hp9⟩
            case measure => simp [intOf] <;> omega





           ·obtain ⟨ta, tbb, tcc, htt⟩ := tent_at tb r2 hr2
            obtain ⟨yt0, yt1, yt2⟩ := htt V2 kt
            clear htt
            refine wy ?_
            go_simp
            clear hHeld
            refine hK.out _ _ (held1 _) fun hHeld => ?_
            clear hK K
            clear yt0 yt1 yt2 kt r20 r25
            refine rd2 1 12 (fun K hK => ?_) (fun K hK => ?_)
            ·have yL : V2.cell? ⟨rr, 0, none⟩ = some (.slice tA tn tc) := bb.cell yX (by show rr ≠ gm; omega)
             refine wy ?_
             go_simp
             clear hHeld
             refine hK.out _ _ (held1 _) fun hHeld => ?_
             clear hK K
             clear yL
             refine rd1 12 fun K hK => ?_
             refine wy ?_
             go_simp
             clear hHeld
             refine hK.out _ _ (HS.out _ (bb.alloc (by have := bb.size; omega) _)) fun hHeld => ?_
             clear hK K
             obtain ⟨V3, hV⟩ := world_of (hHeld)
             obtain ⟨es, hcP, hcl, hc1, hnw⟩ : ∃ es : List Value, True ∧ es.length = 3 ∧ (∀ u ∈ es, u.oneCell' = true) ∧ (0 < 1 → ∃ b o, some (⟨V2.heap.size, 0, none⟩ : Addr) = some ⟨b, o, none⟩ ∧ ∀ j u, es[j]? = some u → V3.cell? ⟨b, o + j, none⟩ = some u) := by
              rw [hV]
              exact ⟨_, trivial, rfl, (by simp [Value.oneCell']), news_new _ _ _⟩
             have bb2 : Up gm wr V3 := by rw [hV]; exact bb.alloc (by have := bb.size; omega) _
             rw [← hV] at hHeld
             rw [← hV]
             clear hV bb
             have bb := bb2
             clear bb2
             refine rd1 13 fun K hK => ?_
             clear hHeld
             have how := (HF.out.up hg1 bb).t.choose_spec
             have hs4 : w1.heap.size ≤ V3.heap.size := by have := bb.size; omega
             refine appStep elt_tent (by kernel_rfl) _ _ rfl V3 (w1.heap.size) _ _ _ (_) _ 1 1 es (by rfl) (by rfl) how (by rw [hcl]) hnw hc1 (by omega) hs4 ?_
             intro A' c' W4 ho4 hg4 hb4 hat4
             have hpp := (HF.out.up hg1 bb).push hg1 ho4 hg4 hb4
             have k4 := hpp.1
             have hp9 := hpp.2
             have g0 := bx k4 0 rfl
             have z0 := k4.frozen 0
             clear ho4 hg4 hb4 hat4 how hs4 hnw hc1 hcl hcP hpp k4
             refine hkG hK (held1 _) fun hHeld => ?_
             clear hK K
             refine tkC 14 ?_
             refine rd1 15 fun K hK => ?_
             refine wy ?_
             go_simp
             clear hHeld
             refine hK.out _ _ (held1 _) fun hHeld => ?_
             clear hK K
             refine wpAnyH_done (by kernel_rfl) ?_ _
             clear hHeld HS g0 z0 bb
             go_wp2_with fail
             go_roundw
             case rel => exact ⟨A', tn + 1, c', a + 1, by go_num, by omega, by omega, hp9⟩
             case measure => simp [intOf] <;> omega




            ·refine wy ?_
             go_simp
             clear hHeld
             refine hK.out _ _ (HS.out _ (bb.alloc (by have := bb.size; omega) _)) fun hHeld => ?_
             clear hK K
             obtain ⟨V3, hV⟩ := world_of (hHeld)
             obtain ⟨es, hcP, hcl, hc1, hnw⟩ : ∃ es : List Value, True ∧ es.length = 3 ∧ (∀ u ∈ es, u.oneCell' = true) ∧ (0 < 1 → ∃ b o, some (⟨V2.heap.size, 0, none⟩ : Addr) = some ⟨b, o, none⟩ ∧ ∀ j u, es[j]? = some u → V3.cell? ⟨b, o + j, none⟩ = some u) := by
              rw [hV]
              exact ⟨_, trivial, rfl, (by simp [Value.oneCell']), news_new _ _ _⟩
             have bb2 : Up gm wr V3 := by rw [hV]; exact bb.alloc (by have := bb.size; omega) _
             rw [← hV] at hHeld
             rw [← hV]
             clear hV bb
             have bb := bb2
             clear bb2
             refine rd1 1 fun K hK => ?_
             have yL : V3.cell? ⟨rr, 0, none⟩ = some (.slice tA tn tc) := bb.cell yX (by show rr ≠ gm; omega)
             refine wy ?_
             go_simp
             clear hHeld
             refine hK.out _ _ (held1 _) fun hHeld => ?_
             clear hK K
             clear yL
             refine rd1 13 fun K hK => ?_
             clear hHeld
             have how := (HF.out.up hg1 bb).t.choose_spec
             have hs4 : w1.heap.size ≤ V3.heap.size := by have := bb.size; omega
             refine appStep elt_tent (by kernel_rfl) _ _ rfl V3 (w1.heap.size) _ _ _ (_) _ 1 1 es (by rfl) (by rfl) how (by rw [hcl]) hnw hc1 (by omega) hs4 ?_
             intro A' c' W4 ho4 hg4 hb4 hat4
             have hpp := (HF.out.up hg1 bb).push hg1 ho4 hg4 hb4
             have k4 := hpp.1
             have hp9 := hpp.2
             have g0 := bx k4 0 rfl
             have z0 := k4.frozen 0
             clear ho4 hg4 hb4 hat4 how hs4 hnw hc1 hcl hcP hpp k4
             refine hkG hK (held1 _) fun hHeld => ?_
             clear hK K
             refine tkC 14 ?_
             refine rd1 15 fun K hK => ?_
             refine wy ?_
             go_simp
             clear hHeld
             refine hK.out _ _ (held1 _) fun hHeld => ?_
             clear hK K
             refine wpAnyH_done (by kernel_rfl) ?_ _
             clear hHeld HS g0 z0 bb
             go_wp2_with fail
             go_roundw
             case rel => exact ⟨A', tn + 1, c', a + 1, by go_num, by omega, by omega, hp9⟩
             case measure => simp [intOf] <;> omega







         ·refine wy ?_
          go_simp
          clear hHeld
          go_at_call 40
          (with_reducible refine (H5.out _ bb).mono ?_)
          rintro e V1 ⟨r2, rfl, hr2, bn⟩
          go_wp2_with fail
          refine hK.out _ _ (held1 _) fun hHeld => ?_
          clear hK K
          replace bb := bb.trans bn
          clear bn
          have r20 : (0 : Int) ≤ (r2 : Int) := by omega
          have r25 : (r2 : Int) < 5 := by omega
          refine rd2 1 7 (fun K hK => ?_) (fun K hK => ?_)
          ·have yL : V1.cell? ⟨rr, 0, none⟩ = some (.slice tA tn tc) := bb.cell yX (by show rr ≠ gm; omega)
           refine wy ?_
           go_simp
           clear hHeld
           refine hK.out _ _ (held1 _) fun hHeld => ?_
           clear hK K
           clear yL
           refine rd1 7 fun K hK => ?_
           refine wy ?_
           go_simp
           clear hHeld
           refine hK.out _ _ (held1 _) fun hHeld => ?_
           clear hK K
           have kt := Bk.new V1 111 #[.int .i64 0, .int .i64 64, .int .i64 64, .int .i64 0, .int .i64 32, .int .i64 64, .int .i64 (-64), .int .i64 (-64), .int .i64 0, .int .i64 (-1), .int .i64 0, .int .i64 5, .int .i64 10, .int .i64 32, .int .i64 50]
           have hlt5 : wr.heap.size ≤ V1.heap.size := bb.size
           have bb2 := bb.alloc (by have := bb.size; omega) (.cells #[.int .i64 0, .int .i64 64, .int .i64 64, .int .i64 0, .int .i64 32, .int .i64 64, .int .i64 (-64), .int .i64 (-64), .int .i64 0, .int .i64 (-1), .int .i64 0, .int .i64 5, .int .i64 10, .int .i64 32, .int .i64 50] 111)
           clear bb
           have bb := bb2
           clear bb2
           obtain ⟨tb, htb⟩ : ∃ x, V1.heap.size = x := ⟨_, rfl⟩
           rw [htb] at kt hlt5
           try rw [htb]
           obtain ⟨V2, hV⟩ : ∃ wN, V1.alloc (.cells #[.int .i64 0, .int .i64 64, .int .i64 64, .int .i64 0, .int .i64 32, .int .i64 64, .int .i64 (-64), .int .i64 (-64), .int .i64 0, .int .i64 (-1), .int .i64 0, .int .i64 5, .int .i64 10, .int .i64 32, .int .i64 50] 111) = wN := ⟨_, rfl⟩
           rw [hV] at kt bb hHeld ⊢
           clear hV htb
           refine tkC 10 ?_
           refine rd1 11 fun K hK => ?_
           obtain ⟨ta, tbb, tcc, htt⟩ := tent_at tb r2 hr2
           obtain ⟨yt0, yt1, yt2⟩ := htt V2 kt
           clear htt
           refine wy ?_
           go_simp
           clear hHeld
           refine hK.out _ _ (held1 _) fun hHeld => ?_
           clear hK K
           clear yt0 yt1 yt2 kt r20 r25
           refine rd1 12 fun K hK => ?_
           refine wy ?_
           go_simp
           clear hHeld
           refine hK.out _ _ (HS.out _ (bb.alloc (by have := bb.size; omega) _)) fun hHeld => ?_
           clear hK K
           obtain ⟨V3, hV⟩ := world_of (hHeld)
           obtain ⟨es, hcP, hcl, hc1, hnw⟩ : ∃ es : List Value, True ∧ es.length = 3 ∧ (∀ u ∈ es, u.oneCell' = true) ∧ (0 < 1 → ∃ b o, some (⟨V2.heap.size, 0, none⟩ : Addr) = some ⟨b, o, none⟩ ∧ ∀ j u, es[j]? = some u → V3.cell? ⟨b, o + j, none⟩ = some u) := by
            rw [hV]
            exact ⟨_, trivial, rfl, (by simp [Value.oneCell']), news_new _ _ _⟩
           have bb2 : Up gm wr V3 := by rw [hV]; exact bb.alloc (by have := bb.size; omega) _
           rw [← hV] at hHeld
           rw [← hV]
           clear hV bb
           have bb := bb2
           clear bb2
           refine rd1 13 fun K hK => ?_
           clear hHeld
           have how := (HF.out.up hg1 bb).t.choose_spec
           have hs4 : w1.heap.size ≤ V3.heap.size := by have := bb.size; omega
           refine appStep elt_tent (by kernel_rfl) _ _ rfl V3 (w1.heap.size) _ _ _ (_) _ 1 1 es (by rfl) (by rfl) how (by rw [hcl]) hnw hc1 (by omega) hs4 ?_
           intro A' c' W4 ho4 hg4 hb4 hat4
           have hpp := (HF.out.up hg1 bb).push hg1 ho4 hg4 hb4
           have k4 := hpp.1
           have hp9 := hpp.2
           have g0 := bx k4 0 rfl
           have z0 := k4.frozen 0
           clear ho4 hg4 hb4 hat4 how hs4 hnw hc1 hcl hcP hpp k4
           refine hkG hK (held1 _) fun hHeld => ?_
           clear hK K
           refine tkC 14 ?_
           refine rd1 15 fun K hK => ?_
           refine wy ?_
           go_simp
           clear hHeld
           refine hK.out _ _ (held1 _) fun hHeld => ?_
           clear hK K
           refine wpAnyH_done (by kernel_rfl) ?_ _
           clear hHeld HS g0 z0 bb
           go_wp2_with fail
           go_roundw
           case rel => exact ⟨A', tn + 1, c', a + 1, by go_num, by omega, by omega, hp9⟩
           case measure => simp [intOf] <;> omega






          ·refine wy ?_
           go_simp
           clear hHeld
           refine hK.out _ _ (held1 _) fun hHeld => ?_
           clear hK K
           have kt := Bk.new V1 111 #[.int .i64 0, .int .i64 64, .int .i64 64, .int .i64 0, .int .i64 32, .int .i64 64, .int .i64 (-64), .int .i64 (-64), .int .i64 0, .int .i64 (-1), .int .i64 0, .int .i64 5, .int .i64 10, .int .i64 32, .int .i64 50]
           have hlt5 : wr.heap.size ≤ V1.heap.size := bb.size
           have bb2 := bb.alloc (by have := bb.size; omega) (.cells #[.int .i64 0, .int .i64 64, .int .i64 64, .int .i64 0, .int .i64 32, .int .i64 64, .int .i64 (-64), .int .i64 (-64), .int .i64 0, .int .i64 (-1), .int .i64 0, .int .i64 5, .int .i64 10, .int .i64 32, .int .i64 50] 111)
           clear bb
           have bb := bb2
           clear bb2
           obtain ⟨tb, htb⟩ : ∃ x, V1.heap.size = x := ⟨_, rfl⟩
           rw [htb] at kt hlt5
           try rw [htb]
           obtain ⟨V2, hV⟩ : ∃ wN, V1.alloc (.cells #[.int .i64 0, .int .i64 64, .int .i64 64, .int .i64 0, .int .i64 32, .int .i64 64, .int .i64 (-64), .int .i64 (-64), .int .i64 0, .int .i64 (-1), .int .i64 0, .int .i64 5, .int .i64 10, .int .i64 32, .int .i64 50] 111) = wN := ⟨_, rfl⟩
           rw [hV] at kt bb hHeld ⊢
           clear hV htb
           refine tkC 10 ?_
           refine rd2 1 11 (fun K hK => ?_) (fun K hK => ?_)
           ·have yL : V2.cell? ⟨rr, 0, none⟩ = some (.slice tA tn tc) := bb.cell yX (by show rr ≠ gm; omega)
            refine wy ?_
            go_simp
            clear hHeld
            refine hK.out _ _ (held1 _) fun hHeld => ?_
            clear hK K
            clear yL
            refine rd1 11 fun K hK => ?_
            obtain ⟨ta, tbb, tcc, htt⟩ := tent_at tb r2 hr2
            obtain ⟨yt0, yt1, yt2⟩ := htt V2 kt
            clear htt
            refine wy ?_
            go_simp
            clear hHeld
            refine hK.out _ _ (held1 _) fun hHeld => ?_
            clear hK K
            clear yt0 yt1 yt2 kt r20 r25
            refine rd1 12 fun K hK => ?_
            refine wy ?_
            go_simp
            clear hHeld
            refine hK.out _ _ (HS.out _ (bb.alloc (by have := bb.size; omega) _)) fun hHeld => ?_
            clear hK K
            obtain ⟨V3, hV⟩ := world_of (hHeld)
            obtain ⟨es, hcP, hcl, hc1, hnw⟩ : ∃ es : List Value, True ∧ es.length = 3 ∧ (∀ u ∈ es, u.oneCell' = true) ∧ (0 < 1 → ∃ b o, some (⟨V2.heap.size, 0, none⟩ : Addr) = some ⟨b, o, none⟩ ∧ ∀ j u, es[j]? = some u → V3.cell? ⟨b, o + j, none⟩ = some u) := by
             rw [hV]
             exact ⟨_, trivial, rfl, (by simp [Value.oneCell']), news_new _ _ _⟩
            have bb2 : Up gm wr V3 := by rw [hV]; exact bb.alloc (by have := bb.size; omega) _
            rw [← hV] at hHeld
            rw [← hV]
            clear hV bb
            have bb := bb2
            clear bb2
            refine rd1 13 fun K hK => ?_
            clear hHeld
            have how := (HF.out.up hg1 bb).t.choose_spec
            have hs4 : w1.heap.size ≤ V3.heap.size := by have := bb.size; omega
            refine appStep elt_tent (by kernel_rfl) _ _ rfl V3 (w1.heap.size) _ _ _ (_) _ 1 1 es (by rfl) (by rfl) how (by rw [hcl]) hnw hc1 (by omega) hs4 ?_
            intro A' c' W4 ho4 hg4 hb4 hat4
            have hpp := (HF.out.up hg1 bb).push hg1 ho4 hg4 hb4
            have k4 := hpp.1
            have hp9 := hpp.2
            have g0 := bx k4 0 rfl
            have z0 := k4.frozen 0
            clear ho4 hg4 hb4 hat4 how hs4 hnw hc1 hcl hcP hpp k4
            refine hkG hK (held1 _) fun hHeld => ?_
            clear hK K
            refine tkC 14 ?_
            refine rd1 15 fun K hK => ?_
            refine wy ?_
            go_simp
            clear hHeld
            refine hK.out _ _ (held1 _) fun hHeld => ?_
            clear hK K
            refine wpAnyH_done (by kernel_rfl) ?_ _
            clear hHeld HS g0 z0 bb
            go_wp2_with fail
            go_roundw
            case rel => exact ⟨A', tn + 1, c', a + 1, by go_num, by omega, by omega, hp9⟩
            case measure => simp [intOf] <;> omega





           ·obtain ⟨ta, tbb, tcc, htt⟩ := tent_at tb r2 hr2
            obtain ⟨yt0, yt1, yt2⟩ := htt V2 kt
            clear htt
            refine wy ?_
            go_simp
            clear hHeld
            refine hK.out _ _ (held1 _) fun hHeld => ?_
            clear hK K
            clear yt0 yt1 yt2 kt r20 r25
            refine rd2 1 12 (fun K hK => ?_) (fun K hK => ?_)
            ·have yL : V2.cell? ⟨rr, 0, none⟩ = some (.slice tA tn tc) := bb.cell yX (by show rr ≠ gm; omega)
             refine wy ?_
             go_simp
             clear hHeld
             refine hK.out _ _ (held1 _) fun hHeld => ?_
             clear hK K
             clear yL
             refine rd1 12 fun K hK => ?_
             refine wy ?_
             go_simp
             clear hHeld
             refine hK.out _ _ (HS.out _ (bb.alloc (by have := bb.size; omega) _)) fun hHeld => ?_
             clear hK K
             obtain ⟨V3, hV⟩ := world_of (hHeld)
             obtain ⟨es, hcP, hcl, hc1, hnw⟩ : ∃ es : List Value, True ∧ es.length = 3 ∧ (∀ u ∈ es, u.oneCell' = true) ∧ (0 < 1 → ∃ b o, some (⟨V2.heap.size, 0, none⟩ : Addr) = some ⟨b, o, none⟩ ∧ ∀ j u, es[j]? = some u → V3.cell? ⟨b, o + j, none⟩ = some u) := by
              rw [hV]
              exact ⟨_, trivial, rfl, (by simp [Value.oneCell']), news_new _ _ _⟩
             have bb2 : Up gm wr V3 := by rw [hV]; exact bb.alloc (by have := bb.size; omega) _
             rw [← hV] at hHeld
             rw [← hV]
             clear hV bb
             have bb := bb2
             clear bb2
             refine rd1 13 fun K hK => ?_
             clear hHeld
             have how := (HF.out.up hg1 bb).t.choose_spec
             have hs4 : w1.heap.size ≤ V3.heap.size := by have := bb.size; omega
             refine appStep elt_tent (by kernel_rfl) _ _ rfl V3 (w1.heap.size) _ _ _ (_) _ 1 1 es (by rfl) (by rfl) how (by rw [hcl]) hnw hc1 (by omega) hs4 ?_
             intro A' c' W4 ho4 hg4 hb4 hat4
             have hpp := (HF.out.up hg1 bb).push hg1 ho4 hg4 hb4
             have k4 := hpp.1
             have hp9 := hpp.2
             have g0 := bx k4 0 rfl
             have z0 := k4.frozen 0
             clear ho4 hg4 hb4 hat4 how hs4 hnw hc1 hcl hcP hpp k4
             refine hkG hK (held1 _) fun hHeld => ?_
             clear hK K
             refine tkC 14 ?_
             refine rd1 15 fun K hK => ?_
             refine wy ?_
             go_simp
             clear hHeld
             refine hK.out _ _ (held1 _) fun hHeld => ?_
             clear hK K
             refine wpAnyH_done (by kernel_rfl) ?_ _
             clear hHeld HS g0 z0 bb
             go_wp2_with fail
             go_roundw
             case rel => exact ⟨A', tn + 1, c', a + 1, by go_num, by omega, by omega, hp9⟩
             case measure => simp [intOf] <;> omega




            ·refine wy ?_
             go_simp
             clear hHeld
             refine hK.out _ _ (HS.out _ (bb.alloc (by have := bb.size; omega) _)) fun hHeld => ?_
             clear hK K
             obtain ⟨V3, hV⟩ := world_of (hHeld)
             obtain ⟨es, hcP, hcl, hc1, hnw⟩ : ∃ es : List Value, True ∧ es.length = 3 ∧ (∀ u ∈ es, u.oneCell' = true) ∧ (0 < 1 → ∃ b o, some (⟨V2.heap.size, 0, none⟩ : Addr) = some ⟨b, o, none⟩ ∧ ∀ j u, es[j]? = some u → V3.cell? ⟨b, o + j, none⟩ = some u) := by
              rw [hV]
              exact ⟨_, trivial, rfl, (by simp [Value.oneCell']), news_new _ _ _⟩
             have bb2 : Up gm wr V3 := by rw [hV]; exact bb.alloc (by have := bb.size; omega) _
             rw [← hV] at hHeld
             rw [← hV]
             clear hV bb
             have bb := bb2
             clear bb2
             refine rd1 1 fun K hK => ?_
             have yL : V3.cell? ⟨rr, 0, none⟩ = some (.slice tA tn tc) := bb.cell yX (by show rr ≠ gm; omega)
             refine wy ?_
             go_simp
             clear hHeld
             refine hK.out _ _ (held1 _) fun hHeld => ?_
             clear hK K
             clear yL
             refine rd1 13 fun K hK => ?_
             clear hHeld
             have how := (HF.out.up hg1 bb).t.choose_spec
             have hs4 : w1.heap.size ≤ V3.heap.size := by have := bb.size; omega
             refine appStep elt_tent (by kernel_rfl) _ _ rfl V3 (w1.heap.size) _ _ _ (_) _ 1 1 es (by rfl) (by rfl) how (by rw [hcl]) hnw hc1 (by omega) hs4 ?_
             intro A' c' W4 ho4 hg4 hb4 hat4
             have hpp := (HF.out.up hg1 bb).push hg1 ho4 hg4 hb4
             have k4 := hpp.1
             have hp9 := hpp.2
             have g0 := bx k4 0 rfl
             have z0 := k4.frozen 0
             clear ho4 hg4 hb4 hat4 how hs4 hnw hc1 hcl hcP hpp k4
             refine hkG hK (held1 _) fun hHeld => ?_
             clear hK K
             refine tkC 14 ?_
             refine rd1 15 fun K hK => ?_
             refine wy ?_
             go_simp
             clear hHeld
             refine hK.out _ _ (held1 _) fun hHeld => ?_
             clear hK K
             refine wpAnyH_done (by kernel_rfl) ?_ _
             clear hHeld HS g0 z0 bb
             go_wp2_with fail
             go_roundw
             case rel => exact ⟨A', tn + 1, c', a + 1, by go_num, by omega, by omega, hp9⟩
             case measure => simp [intOf] <;> omega








        ·have a0 : ¬ (a : Int) < (k1 : Int) := by omega
         go_upto_region 19 with fail
         clear hat a0 hta ha
         have kg := hst.k
         have hrl := hst.lt
         have hrne := hst.ne
         have hst := hst.f
         have HKG := Lib.hid kg
         have HF := Lib.hid hst
         have hwl := hst.gr.size
         have hwg : gm < wr.heap.size := by omega
         clear hst kg
         have HS := Lib.hid fun (W : World) (bW : Up gm wr W) => (show Held1 W ∧ W.cell? ⟨rr, 0, none⟩ = some (.slice tA tn tc) from ⟨held1 _, bx (bW.bk HKG.out (by omega)) 0 rfl⟩)
         have bb := Up.refl gm wr
         refine wp_region_held_drew (S := fun w' => Held1 w' ∧ w'.cell? ⟨rr, 0, none⟩ = some (.slice tA tn tc)) (by kernel_rfl) ?_ (fun hHeld => ?_)
         ·exact HS.out _ (bb.drewN 1)
         replace bb := bb.drewN 1
         change Up _ _ wr.drew at bb
         generalize hw0 : wr.drew = W0 at hHeld bb ⊢
         clear hw0
         refine tkC 0 ?_
         refine tkC 1 ?_
         refine tkC 2 ?_
         refine tkC 3 ?_
         refine tkC 4 ?_
         refine tkC 6 ?_
         refine rd2 5 7 (fun K hK => ?_) (fun K hK => ?_)
         ·have yL := (HF.out.up hg1 bb).hm.cell 8 (by decide) rfl
          change W0.cell? ⟨gm, 8, none⟩ = some (.slice A i c) at yL
          refine wy ?_
          go_simp
          clear hHeld
          refine hK.out _ _ (HS.out _ bb) fun hHeld => ?_
          clear hK K
          clear yL
          refine rd1 7 fun K hK => ?_
          refine wy ?_
          go_simp
          clear hHeld
          refine hK.out _ _ (HS.out _ (bb.alloc (by have := bb.size; omega) _)) fun hHeld => ?_
          clear hK K
          obtain ⟨V1, hV⟩ := world_of (hHeld.1)
          obtain ⟨es, hcP, hcl, hc1, hnw⟩ : ∃ es : List Value, True ∧ es.length = 1 ∧ (∀ u ∈ es, u.oneCell' = true) ∧ (0 < 1 → ∃ b o, some (⟨W0.heap.size, 0, none⟩ : Addr) = some ⟨b, o, none⟩ ∧ ∀ j u, es[j]? = some u → V1.cell? ⟨b, o + j, none⟩ = some u) := by
           rw [hV]
           exact ⟨_, trivial, rfl, (by simp [Value.oneCell']), news_new _ _ _⟩
          have bb2 : Up gm wr V1 := by rw [hV]; exact bb.alloc (by have := bb.size; omega) _
          rw [← hV] at hHeld
          rw [← hV]
          clear hV bb
          have bb := bb2
          clear bb2
          refine rd1 8 fun K hK => ?_
          clear hHeld
          have how := (HF.out.up hg1 bb).row.choose_spec
          have hs4 : w1.heap.size ≤ V1.heap.size := by have := bb.size; omega
          refine appStep elt_region (by kernel_rfl) _ _ rfl V1 (w1.heap.size) _ _ _ (_) _ 1 1 es (by rfl) (by rfl) how (by rw [hcl]) hnw hc1 (by omega) hs4 ?_
          intro A' c' W4 ho4 hg4 hb4 hat4
          obtain ⟨hm4, hp9⟩ := (HF.out.up hg1 bb).push (i := 8) (s' := ((mz sA sn sc xs u).ax A1 n1 c1).rg A' (i + 1) c') hg1 ho4 hb4 (fun _ _ => rfl) ⟨rfl, rfl, rfl, rfl⟩
          have g0 := hm4.cell 8 (by decide) rfl
          change W4.cell? ⟨gm, 8, none⟩ = some (.slice A i c) at g0
          have z0 : W4.frozen? ⟨gm, 8, none⟩ = false := by obtain ⟨_, _, _, hk4, _⟩ := hm4; exact hk4.frozen 8
          have kb4 : Bk W4 rr 109 #[.slice tA tn tc] := (bb.bk HKG.out (by omega)).grown hg4 (fun e => hrne rr e.symm rfl)
          clear ho4 hg4 hb4 hat4 how hs4 hnw hc1 hcl hcP
          refine hkG hK (⟨held1 _, bx kb4 0 rfl⟩) fun hHeld => ?_
          clear hK K
          refine tkC 9 ?_
          refine tkC 10 ?_
          refine tkC 11 ?_
          refine rd1 12 fun K hK => ?_
          refine wy ?_
          go_simp
          clear hHeld
          refine hK.out _ _ (⟨held1 _, bx (kb4.far (p := ⟨gm, 8, none⟩) (by show rr ≠ gm; omega) _) 0 rfl⟩) fun hHeld => ?_
          clear hK K
          refine wpAnyH_done (by kernel_rfl) ?_ _
          clear hHeld HS g0 z0 bb kb4
          go_wp2_with fail
          go_roundw
          case rel => exact ⟨A', c', i + 1, by go_num, by omega, hp9⟩
          case measure => simp [intOf] <;> omega




         ·refine wy ?_
          go_simp
          clear hHeld
          refine hK.out _ _ (HS.out _ (bb.alloc (by have := bb.size; omega) _)) fun hHeld => ?_
          clear hK K
          obtain ⟨V1, hV⟩ := world_of (hHeld.1)
          obtain ⟨es, hcP, hcl, hc1, hnw⟩ : ∃ es : List Value, True ∧ es.length = 1 ∧ (∀ u ∈ es, u.oneCell' = true) ∧ (0 < 1 → ∃ b o, some (⟨W0.heap.size, 0, none⟩ : Addr) = some ⟨b, o, none⟩ ∧ ∀ j u, es[j]? = some u → V1.cell? ⟨b, o + j, none⟩ = some u) := by
           rw [hV]
           exact ⟨_, trivial, rfl, (by simp [Value.oneCell']), news_new _ _ _⟩
          have bb2 : Up gm wr V1 := by rw [hV]; exact bb.alloc (by have := bb.size; omega) _
          rw [← hV] at hHeld
          rw [← hV]
          clear hV bb
          have bb := bb2
          clear bb2
          refine rd1 5 fun K hK => ?_
          have yL := (HF.out.up hg1 bb).hm.cell 8 (by decide) rfl
          change V1.cell? ⟨gm, 8, none⟩ = some (.slice A i c) at yL
          refine wy ?_
          go_simp
          clear hHeld
          refine hK.out _ _ (HS.out _ bb) fun hHeld => ?_
          clear hK K
          clear yL
          refine rd1 8 fun K hK => ?_
          clear hHeld
          have how := (HF.out.up hg1 bb).row.choose_spec
          have hs4 : w1.heap.size ≤ V1.heap.size := by have := bb.size; omega
          refine appStep elt_region (by kernel_rfl) _ _ rfl V1 (w1.heap.size) _ _ _ (_) _ 1 1 es (by rfl) (by rfl) how (by rw [hcl]) hnw hc1 (by omega) hs4 ?_
          intro A' c' W4 ho4 hg4 hb4 hat4
          obtain ⟨hm4, hp9⟩ := (HF.out.up hg1 bb).push (i := 8) (s' := ((mz sA sn sc xs u).ax A1 n1 c1).rg A' (i + 1) c') hg1 ho4 hb4 (fun _ _ => rfl) ⟨rfl, rfl, rfl, rfl⟩
          have g0 := hm4.cell 8 (by decide) rfl
          change W4.cell? ⟨gm, 8, none⟩ = some (.slice A i c) at g0
          have z0 : W4.frozen? ⟨gm, 8, none⟩ = false := by obtain ⟨_, _, _, hk4, _⟩ := hm4; exact hk4.frozen 8
          have kb4 : Bk W4 rr 109 #[.slice tA tn tc] := (bb.bk HKG.out (by omega)).grown hg4 (fun e => hrne rr e.symm rfl)
          clear ho4 hg4 hb4 hat4 how hs4 hnw hc1 hcl hcP
          refine hkG hK (⟨held1 _, bx kb4 0 rfl⟩) fun hHeld => ?_
          clear hK K
          refine tkC 9 ?_
          refine tkC 10 ?_
          refine tkC 11 ?_
          refine rd1 12 fun K hK => ?_
          refine wy ?_
          go_simp
          clear hHeld
          refine hK.out _ _ (⟨held1 _, bx (kb4.far (p := ⟨gm, 8, none⟩) (by show rr ≠ gm; omega) _) 0 rfl⟩) fun hHeld => ?_
          clear hK K
          refine wpAnyH_done (by kernel_rfl) ?_ _
          clear hHeld HS g0 z0 bb kb4
          go_wp2_with fail
          go_roundw
          case rel => exact ⟨A', c', i + 1, by go_num, by omega, hp9⟩
          case measure => simp [intOf] <;> omega
      ·have in0 : ¬ (i : Int) < (k2 : Int) := by omega
       clear hlt
       go_wp2
       go_meet
       exact ⟨A, i, c, by omega, hst.hm, HGRA.out.trans hst.gr⟩

    ·have k0 : ¬ (0 : Int) < (k1 : Int) := by omega
     have t0 : decide ((0 : Int) < (k1 : Int)) = false := decide_eq_false k0
     have t0' : decide (0 < k1) = false := decide_eq_false hk0
     go_wp2
     go_meet
     exact ⟨none, 0, 0, by omega, hm, hgr⟩
   case rest =>
    rename_i z0 z1 z2 z3 z4 z5
    revert w2 gm rb hb0 kr0 hgr2 HW hg2 r u z0 w3 k1 hk1 z1 z2 z3 u5 u6 u34 u35 u36 u37 u38 u39 u40 u41 u42 u43 u44 u45 u46 u47 u48 u49 u50 u51 u52 u53 u54 u55 u56 u57 u58 u59 u60 u61 u62 u63 u64 A1 n1 c1 hn1 wr hm hgr z4 z5 wc u7 u8 u9 u10 u65 u66 u67 u68 u69 u70 u71 u72 u73 u74 u75 u76 u77 u78 u79 u80 u81 u82 u83 u84 u85 u86 u87 u88 u89 u90 u91 u92 u93 u94 u95 u96 u97 u98 u99 u100 u101 u102 u103 u104 u105 hcut
    exact later.out

end Go.Proofs.YtgcmedkaadagmaaDoor
